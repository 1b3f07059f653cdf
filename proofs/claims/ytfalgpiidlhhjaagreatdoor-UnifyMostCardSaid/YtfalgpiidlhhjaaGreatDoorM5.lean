import Derived.Test.YtfalgpiidlhhjaaGreatDoorM4
import Derived.Test.YtfalgpiidlhhjaaGreatDoorM3
/- Lemmas on the program's own code, towards the laws of this folder, part 5. Conditions: as each lemma says. -/
open Bool renaming and_eq_true -> Zi, false_eq_true -> Zd, not_eq_true -> ZE, not_false -> Zw, not_true -> Zn
open ByteArray renaming empty -> Zh
open Int renaming eq_ofNat_of_zero_le -> Zk, toNat_natCast -> Zv
open List renaming append_assoc -> ZF, drop_eq_getElem_cons -> ZB, foldl_cons -> ZP, getElem?_append_left -> ZI, getElem?_eq_getElem -> Zc, getElem?_eq_none -> ZM, getElem?_map -> Zj, getElem?_take -> ZJ, getElem_mem -> ZD, length_append -> Zm, length_map -> Zp, length_set -> Zy, length_singleton -> ZN, length_take -> ZH, map_append -> ZK, mem_cons_of_mem -> Zl, mem_of_getElem? -> ZG, mem_singleton -> Zx, prefix_refl -> Zz, range -> Zg, take_append_getElem -> ZL, take_of_length_le -> Zq
open Nat renaming beq -> Zt, beq_eq -> Zu, le_refl -> Ze, le_trans -> ZC, lt_of_lt_of_le -> Zo, lt_succ_self -> Zf, reduceAdd -> Zb, reduceEqDiff -> Za, reduceLeDiff -> Zr, zero_le -> ZA
section
namespace Go.Proofs.hq
open Go Go.RowKit Go.Hb
def TT (x y z:Int):Prop:=(x<=0->y<=0->z<=0)/\(0<=x->0<=y->0<=z)/\(x < 0->y<=0->z < 0)/\(x<=0->y < 0->z < 0)/\(0 < x->0<=y->0 < z)/\(0<=x->0 < y->0 < z)
theorem TT.or {x1 y1 z1 x2 y2 z2:Int}(h1:TT x1 y1 z1) (h2:x1=0->y1=0->TT x2 y2 z2):TT (orZ x1 x2) (orZ y1 y2) (orZ z1 z2):=by
 unfold orZ TT at *;by_cases a:x1=0<;>by_cases b:y1=0
 ·have c:z1=0:=by omega
  simp only[a,b,c,if_true];exact h2 a b
 ·have c:z1≠0:=by omega
  simp only[a,b,c,if_true,if_false];omega
 ·have c:z1≠0:=by omega
  simp only[a,b,c,if_true,if_false];omega
 ·by_cases c:z1=0
  ·simp only[a,b,c,if_true,if_false];omega
  ·simp only[a,b,c,if_false];omega
theorem TT.neg {x y z:Int}(h:TT x y z):TT (-x) (-y) (-z):=by unfold TT at *;omega
theorem TT.cmp (a b c:Int):TT (cmpZ a b) (cmpZ b c) (cmpZ a c):=by
 unfold TT cmpZ;by_cases h1:a < b<;>by_cases h2:b < a<;>by_cases h3:b < c<;>by_cases h4:c < b<;>by_cases h5:a < c<;>by_cases h6:c < a<;>simp only[h1,h2,h3,h4,h5,h6,if_true,if_false]<;>(refine⟨?_,?_,?_,?_,?_,?_⟩<;>intros<;>omega)
theorem TT.zero:TT 0 0 0:=by unfold TT;omega
theorem z3w (a b:Int):cmpZ b a=-(cmpZ a b):=by
 unfold cmpZ;by_cases h1:a < b<;>by_cases h2:b < a<;>simp only[h1,h2,if_true,if_false]<;>omega
theorem z1v {a b:Int}:cmpZ a b=0↔a=b:=by
 unfold cmpZ;constructor
 ·intro h;split at h
  ·omega
  ·split at h<;>omega
 ·rintro rfl;simp
def cmpB (a b:List UInt8):Int:=if Op.bytesLess a b then -1 else if Op.bytesLess b a then 1 else 0
theorem z4z:cmpB [] []=0:=by simp [cmpB,Op.bytesLess]
theorem z4o {y:UInt8}{b:List UInt8}:cmpB [] (y :: b)=-1:=by simp [cmpB,Op.bytesLess]
theorem z4p {y:UInt8}{b:List UInt8}:cmpB (y :: b) []=1:=by simp [cmpB,Op.bytesLess]
theorem z3x {x y:UInt8}{a b:List UInt8}:cmpB (x :: a) (y :: b)=orZ (cmpZ x.toNat y.toNat) (cmpB a b):=by
 unfold cmpB;simp only[Op.bytesLess];rcases Nat.lt_trichotomy x.toNat y.toNat with h|h|h
 ·have h1:x < y:=UInt8.lt_iff_toNat_lt.2 h;have hc:cmpZ (x.toNat:Int) y.toNat=-1:=by unfold cmpZ;rw[if_pos (by omega)]
  rw[hc];simp [h1,orZ]
 ·obtain rfl:x=y:=UInt8.toNat_inj.1 h;have hc:cmpZ (x.toNat:Int) x.toNat=0:=z1v.2 rfl;rw[hc];simp [orZ]
 ·have h1:y < x:=UInt8.lt_iff_toNat_lt.2 h;have h2:¬x < y:=fun q=>by have:=UInt8.lt_iff_toNat_lt.1 q;omega
  have h3:x≠y:=fun q=>by rw[q] at h;omega
  have hc:cmpZ (x.toNat:Int) y.toNat=1:=by unfold cmpZ;rw[if_neg (by omega),if_pos (by omega)]
  rw[hc];simp [h1,h2,h3,orZ]
theorem TT.bytes:∀(a b c:List UInt8),TT (cmpB a b) (cmpB b c) (cmpB a c)
 |[],[],[]=>by rw[z4z];exact TT.zero
 |[],[],_ :: _=>by rw[z4z,z4o];unfold TT;omega
 |[],_ :: _,[]=>by rw[z4z,z4o,z4p];unfold TT;omega
 |_ :: _,[],[]=>by rw[z4z,z4p];unfold TT;omega
 |_ :: _,[],_ :: _=>by rw[z4o,z4p];unfold TT;omega
 |[],_ :: _,_ :: _=>by rw[z4o,z4o];unfold TT;omega
 |_ :: _,_ :: _,[]=>by rw[z4p,z4p];unfold TT;omega
 |x :: a,y :: b,z :: c=>by
  rw[z3x,z3x,z3x];exact TT.or (TT.cmp _ _ _) fun _ _=>TT.bytes a b c
theorem zdh:∀(a b:List UInt8),cmpB b a=-(cmpB a b)
 |[],[]=>by rw[z4z];rfl
 |[],_ :: _=>by rw[z4o,z4p];rfl
 |_ :: _,[]=>by rw[z4o,z4p]
 |x :: a,y :: b=>by rw[z3x,z3x,z3w x.toNat y.toNat,zdh a b,zf1]
theorem z91:∀{a b:List UInt8},cmpB a b=0↔a=b
 |[],[]=>by rw[z4z];simp
 |[],_ :: _=>by rw[z4o];simp
 |_ :: _,[]=>by rw[z4p];simp
 |x :: a,y :: b=>by
  rw[z3x,z3b,z1v,z91 (a:=a) (b:=b),List.cons.injEq];constructor
  ·rintro ⟨h1,h2⟩;exact⟨UInt8.toNat_inj.1 (by omega),h2⟩
  ·rintro ⟨h1,h2⟩;exact⟨by rw[h1],h2⟩
theorem zdi (a b:ByteArray):cmpS b a=-(cmpS a b):=zdh a.toList b.toList
theorem z6b {a b:ByteArray}:cmpS a b=0↔a=b :=
 ⟨fun h=>z6p (z91.1 h),fun h=>by subst h;exact z91.2 rfl⟩
theorem zlw (a b:ByteArray):numZ b a=-(numZ a b):=by
 have h:orZ (cmpZ (b.size:Int) a.size) (cmpS b a)=-(orZ (cmpZ (a.size:Int) b.size) (cmpS a b)):=by rw[z3w (a.size:Int),zdi a b,zf1]
 unfold numZ;rw[h];cases negS (bl a)<;>cases negS (bl b)<;>simp
theorem zdj {a b:ByteArray}:numZ a b=0↔a=b:=by
 constructor
 ·intro h;have key:orZ (cmpZ (a.size:Int) b.size) (cmpS a b)=0:=by
   revert h;unfold numZ;cases negS (bl a)<;>cases negS (bl b)<;>simp
  exact z6b.1 (z3b.1 key).2
 ·rintro rfl;unfold numZ;have h:orZ (cmpZ (a.size:Int) a.size) (cmpS a a)=0:=z3b.2 ⟨z1v.2 rfl,z6b.2 rfl⟩;rw[h];cases negS (bl a)<;>simp
theorem zlx (a b:Int):fltZ b a=-(fltZ a b):=z3w _ _
theorem zly {a b:Int}(ha:u64 a) (hb:u64 b):fltZ a b=0↔a=b:=by
 unfold fltZ;rw[z1v];unfold keyF u64 at *;constructor
 ·intro h;split at h<;>split at h<;>omega
 ·rintro rfl;rfl
theorem zdk {k k':Int}(h1:1<=k) (h2:k<=5) (h3:1<=k') (h4:k'<=5) (h:rankZ k=rankZ k'):k=k':=by
 unfold rankZ at h
 repeat' split at h
 all_goals omega
def restZ (t t':Tm):Int:=if t.kind=1 then cmpZ t.var t'.var else if t.kind=3 then numZ t.num t'.num else if t.kind=4 then fltZ t.bits t'.bits else orZ (headZ t t') (ordL t.args t'.args)
theorem zs0 {t t':Tm}(h1:1<=t.kind/\t.kind<=5) (h2:1<=t'.kind/\t'.kind<=5):ordT t t'=orZ (cmpZ (rankZ t.kind) (rankZ t'.kind)) (restZ t t'):=by
 rw[z6s];by_cases hk:t.kind=t'.kind
 ·rw[if_neg (fun h=>h hk)];have:cmpZ (rankZ t.kind) (rankZ t'.kind)=0:=by rw[hk];exact z1v.2 rfl
  rw[this,orZ,if_pos rfl];unfold restZ orZ;rfl
 ·rw[if_pos hk];have:cmpZ (rankZ t.kind) (rankZ t'.kind)≠0:=fun h=>hk (zdk h1.1 h1.2 h2.1 h2.2 (z1v.1 h))
  rw[orZ,if_neg this]
theorem zlz (t t':Tm) (l l':List Tm):ordL (t :: l) (t' :: l')=orZ (ordT t t') (ordL l l'):=by rw[ordL];rfl
mutual
theorem zm0:∀(t t':Tm),ordT t' t=-(ordT t t')
 |.mk k s u b v l,.mk k' s' u' b' v' l'=>by
  rw[ordT,ordT];by_cases hk:k=k'
  ·subst hk;simp only[ne_eq,not_true_eq_false,if_false];split
   ·exact z3w _ _
   split
   ·exact zlw _ _
   split
   ·exact zlx _ _
   have h:orZ (cmpZ (l'.length:Int) l.length) (cmpS s' s)=-(orZ (cmpZ (l.length:Int) l'.length) (cmpS s s')):=by rw[z3w (l.length:Int),zdi s s',zf1]
   rw[h,zdl l l'];by_cases h0:orZ (cmpZ (l.length:Int) l'.length) (cmpS s s')=0
   ·rw[if_pos (by omega),if_pos h0]
   ·rw[if_neg (by omega),if_neg h0]
  ·rw[if_pos (fun h=>hk h.symm),if_pos hk];exact z3w _ _
theorem zdl:∀(l l':List Tm),ordL l' l=-(ordL l l')
 |[],[]=>by simp [ordL]
 |[],_ :: _=>by simp [ordL]
 |_ :: _,[]=>by simp [ordL]
 |t :: l,t' :: l'=>by
  rw[ordL,ordL,zm0 t t',zdl l l'];by_cases h0:ordT t t'=0
  ·rw[if_pos (by omega),if_pos h0]
  ·rw[if_neg (by omega),if_neg h0]
end
theorem zdm:∀{l l':List Tm},l.length=l'.length->(∀t∈l,∀t'∈l',(ordT t t'=0->t=t'))->ordL l l'=0->l=l'
 |[],[],_,_,_=>rfl
 |[],_ :: _,h,_,_=>by simp at h
 |_ :: _,[],h,_,_=>by simp at h
 |t :: l,t' :: l',h,ih,h0=>by
  rw[zlz,z3b] at h0;rw[ih t (by simp) t' (by simp) h0.1,zdm (by simpa using h) (fun a ha b hb=>ih a (Zl _ ha) b (Zl _ hb)) h0.2]
mutual
theorem zdn:∀(t:Tm),ordT t t=0
 |.mk k s u b v l=>by
  rw[ordT,if_neg (fun h=>h rfl)];split
  ·exact z1v.2 rfl
  split
  ·exact zdj.2 rfl
  split
  ·exact z1v.2 rfl
  rw[if_pos (z3b.2 ⟨z1v.2 rfl,z6b.2 rfl⟩)];exact zdo l
theorem zdo:∀(l:List Tm),ordL l l=0
 |[]=>by rw[ordL]
 |t :: l=>by rw[ordL,if_pos (zdn t)];exact zdo l
end
inductive U64s:Tm->Prop
 |mk {t:Tm}:u64 t.bits->(∀u∈t.args,U64s u)->U64s t
theorem U64s.bits {t:Tm}(h:U64s t):u64 t.bits:=by cases h;assumption
theorem U64s.args {t:Tm}(h:U64s t):∀u∈t.args,U64s u:=by cases h;assumption
theorem RepT.u64s {H:Heap}:∀{t:Tm}{cs:List Value},RepT H t cs->U64s t:=by
 intro t cs r
 induction r with
 |mk k s u b v l a c cells h1 h2 h3 h4 h5 h6 h7 h8 h9 h10 h11 ih =>
  refine .mk h4 fun w hw=>?_
  obtain⟨i,hi,e⟩:=List.getElem_of_mem (show w∈l from hw);exact ih i w (by rw[Zc hi,e])
theorem zdp:∀(m:Nat) {t t':Tm},SizeOf.sizeOf t < m->Fine t->Fine t'->U64s t->U64s t'->ordT t t'=0->t=t'
 |0,_,_,h,_,_,_,_,_=>by omega
 |m+1,t,t',hm,f,f',b,b',h=>by
  have k1:=z1b f.node;have k2:=z1b f'.node;rw[zs0 ⟨k1.1,k1.2.1⟩ ⟨k2.1,k2.2.1⟩,z3b] at h;have q:t.kind=t'.kind:=zdk k1.1 k1.2.1 k2.1 k2.2.1 (z1v.1 h.1);have l1:=z1h k1.2.2.1;have l2:=z1h k2.2.2.1;have h:=h.2;unfold restZ at h;split at h
  ·rename_i hk;have hk':t'.kind=1:=by omega
   exact za1 q (by rw[l1.1 (by omega) (by omega),l2.1 (by omega) (by omega)]) (by rw[l1.2.1 (by omega),l2.2.1 (by omega)]) (by rw[l1.2.2.1 (by omega),l2.2.2.1 (by omega)]) (z1v.1 h) (by rw[l1.2.2.2.2 (by omega),l2.2.2.2.2 (by omega)])
  split at h
  ·rename_i hk;have hk':t'.kind=3:=by omega
   exact za1 q (by rw[l1.1 (by omega) (by omega),l2.1 (by omega) (by omega)]) (zdj.1 h) (by rw[l1.2.2.1 (by omega),l2.2.2.1 (by omega)]) (by rw[l1.2.2.2.1 (by omega),l2.2.2.2.1 (by omega)]) (by rw[l1.2.2.2.2 (by omega),l2.2.2.2.2 (by omega)])
  split at h
  ·rename_i hk;have hk':t'.kind=4:=by omega
   exact za1 q (by rw[l1.1 (by omega) (by omega),l2.1 (by omega) (by omega)]) (by rw[l1.2.1 (by omega),l2.2.1 (by omega)]) ((zly b.bits b'.bits).1 h) (by rw[l1.2.2.2.1 (by omega),l2.2.2.2.1 (by omega)]) (by rw[l1.2.2.2.2 (by omega),l2.2.2.2.2 (by omega)])
  ·rename_i n1 n3 n4;rw[z3b] at h;have hn:t.name=t'.name:=z6b.1 (z3b.1 h.1).2;refine za1 q hn (by rw[l1.2.1 (by omega),l2.2.1 (by omega)]) (by rw[l1.2.2.1 (by omega),l2.2.2.1 (by omega)]) (by rw[l1.2.2.2.1 (by omega),l2.2.2.2.1 (by omega)]) ?_;exact zdm (zh9 h.1) (fun a ha c hc h0=>zdp m (by have:=z0g ha;omega) (f.args a ha) (f'.args c hc) (b.args a ha) (b'.args c hc) h0) h.2
theorem zj0 (a b:ByteArray):-1<=numZ a b/\numZ a b<=1:=by
 have:=z8y (z2e a.size b.size) (z6r a b);unfold numZ;split
 ·omega
 split
 ·omega
 split<;>omega
mutual
theorem zj1:∀(t t':Tm),-1<=ordT t t'/\ordT t t'<=1
 |.mk k s u b v l,.mk k' s' u' b' v' l'=>by
  rw[ordT];split
  ·exact z2e _ _
  split
  ·exact z2e _ _
  split
  ·exact zj0 _ _
  split
  ·exact z2e _ _
  split
  ·exact zaa l l'
  ·exact z8y (z2e _ _) (z6r _ _)
theorem zaa:∀(l l':List Tm),-1<=ordL l l'/\ordL l l'<=1
 |[],_=>by rw[ordL];omega
 |_ :: _,[]=>by rw[ordL];omega
 |t :: l,t' :: l'=>by
  rw[ordL];split
  ·exact zaa l l'
  ·exact zj1 t t'
end
end Go.Proofs.hq
end

section
namespace Go.Proofs.hq
open Go Go.RowKit Go.Hb
variable {ok:Ok}
set_option maxRecDepth 10000
attribute [local irreducible] LX LG EL STG SOP SGO SGD SAL SRD SEF SEG SLK SCK ES
theorem zm1 {n:Int}(hn:u64 n) (h:fltS n=true):n.toNat % 9223372036854775808 < 9218868437227405312/\n.toNat≠9223372036854775808/\(FloatKind.f64.format.order n.toNat n.toNat != some .eq)=false/\n.toNat < 18446744073709551616/\((n.toNat:Nat):Int)=n:=by
 have hm:n.toNat < 18446744073709551616:=by unfold u64 at hn;omega
 have hc:((n.toNat:Nat):Int)=n:=by unfold u64 at hn;omega
 unfold fltS at h;simp only[Bool.not_eq_true',Bool.or_eq_false_iff,beq_eq_false_iff_ne] at h;obtain⟨⟨h1,h2⟩,h3⟩:=h;have h1':=h1;unfold fnB at h1;rw[ztp] at h1;unfold fiB at h2;rw[zrh _ hm,ztr _ (Nat.mod_lt _ (by omega))] at h2;have a:=of_decide_eq_false h1;have b:=of_decide_eq_false h2;exact⟨by omega,by omega,h1',hm,hc⟩
set_option maxHeartbeats 4000000 in
theorem zoc {m:Nat}:∀{t t':Tm}{cs cs':List Value}{H:Heap},SizeOf.sizeOf t < m->RepT H t cs->RepT H t' cs'->Fine t->Fine t'->H.wf ->
  EvF Tryz.prog okT 54 [.agg ⟨cs⟩,.agg ⟨cs'⟩] H fun v H'=>v=.int .i64 (ordT t t')/\HX H H':=by
 induction m with
 |zero=>intro t t' cs cs' H h;omega
 |succ m ih =>
 intro t t' cs cs' H hsz r r' hn hn' hw;obtain⟨a,c,cells,rfl,b1,b2,b3,b4,b5,rl⟩:=r.six;obtain⟨a',c',cells',rfl,b1',b2',b3',b4',b5',rl'⟩:=r'.six;refine EvF.enter rfl Tryz.func54 (by decide) rfl ?_;(repeat refine qZa ?_);refine qZb ?_;simp (disch:=first|omega|rfl) only[sB,initTm,dBox,Za,Value.cells,one,reduceCtorEq];obtain⟨H2,e2,hx2,gp,gq,hnx,hw2⟩:=new2 hw (.row (six t a c) 40) (.row (six t' a' c') 40);simp only[e2];have q1:=row6 gp;have q2:=row6 gq;have rl2:=rl.mono hx2 hw;have rl2':=rl'.mono hx2 hw;clear e2;by_cases hk:t.kind=t'.kind
 ·by_cases k1:t.kind=1
  ·repeat' (first|refine qZa ?_|refine qZg ?_|(refine qZe ?_;try simp only[z00])|(refine qZb ?_;simp only[sB,Za,reduceCtorEq,z1c,ld3,cl59,z4d,z13 hk,q1,q2,z0v k1])|(refine qZd ?_ ?_;simp only[sB,Za,reduceCtorEq];refine z01 ?_)|(refine qZm ?_ ?_;simp only[sB,Za,reduceCtorEq];refine z01 ?_))
   refine z6q.mono ?_;rintro v H1 ⟨rfl,rfl⟩
   repeat' (first|(refine qZf ?_;try simp only[z04,z02]))
   exact z03 rfl (by simp only[sB,Za,reduceCtorEq];rfl) ⟨by rw[z6s,if_neg (fun h=>h hk),if_pos k1],hx2⟩
  by_cases k3:t.kind=3
  ·repeat' (first|refine qZa ?_|refine qZg ?_|(refine qZe ?_;try simp only[z00])|(refine qZb ?_;simp only[sB,Za,reduceCtorEq,z1c,ld3,z4k,ld9,cl93,z13 hk,q1,q2,z0h k1,z0v k3])|(refine qZd ?_ ?_;simp only[sB,Za,reduceCtorEq];refine z01 ?_)|(refine qZm ?_ ?_;simp only[sB,Za,reduceCtorEq];refine z01 ?_))
   refine(ziz b3 b3' hx2.wf).mono ?_;rintro v H1 ⟨rfl,hx3⟩
   repeat' (first|(refine qZf ?_;try simp only[z04,z02]))
   exact z03 rfl (by simp only[sB,Za,reduceCtorEq];rfl) ⟨by rw[z6s,if_neg (fun h=>h hk),if_neg k1,if_pos k3],hx2.trans hx3⟩
  by_cases k4:t.kind=4
  ·repeat' (first|refine qZa ?_|refine qZg ?_|(refine qZe ?_;try simp only[z00])|(refine qZb ?_;simp only[sB,Za,reduceCtorEq,z1c,ld3,z13 hk,q1,q2,z0h k1,z0h k3,z0v k4])|(refine qZj (id:=9) [([(0,0),(1,0)],some 2),([(3,0),(4,0)],some 5),([],some 6),([(7,3)],none)] ?_ ?_;kernel_rfl;simp only[sD,sB,Za,Zb,reduceCtorEq,z56,ld38,q1,isAlloc,isRead])|(refine qZd ?_ ?_;simp only[sB,Za,reduceCtorEq];refine z01 ?_)|(refine qZm ?_ ?_;simp only[sB,Za,reduceCtorEq];refine z01 ?_))
   rw[z3a (n:=t.bits) (by simp only[sG,Za,reduceCtorEq])]
   repeat' (first|(refine zcq ?_;simp only[sV,sD,sB,Za,reduceCtorEq,z56,ld38,q2,isAlloc,isRead]))
   rw[z3a (n:=t'.bits) (by simp only[sG,Za,reduceCtorEq])]
   repeat' (first|(refine zcq ?_;simp only[sD,sB,Za,reduceCtorEq,cl94]))
   have hf:fltS t.bits=true:=(z1b (Fine.node hn)).2.2.2.2.2.2.1 k4;have hf':fltS t'.bits=true:=(z1b (Fine.node hn')).2.2.2.2.2.2.1 (hk ▸ k4);have p1:=zm1 b4 hf;have p2:=zm1 b4' hf';refine(zry p1.2.2.1 p2.2.2.1).mono ?_;rintro v H1 ⟨rfl,rfl⟩
   repeat' (first|(refine qZf ?_;try simp only[z04,z02])|(refine z0p ?_;simp only[sD,sB,Za,Zb,reduceCtorEq,isAlloc,isRead]))
   exact z03 rfl (by simp only[sB,Za,reduceCtorEq];rfl) ⟨by rw[z6s,if_neg (fun h=>h hk),if_neg k1,if_neg k3,if_pos k4,zrz p1.2.2.2.1 p2.2.2.2.1 p1.2.1 p2.2.1 p1.1 p2.1,p1.2.2.2.2,p2.2.2.2.2],hx2.bump _⟩
  repeat' (first|refine qZa ?_|refine qZg ?_|(refine qZe ?_;try simp only[sA])|(refine qZb ?_;simp only[sB,Za,reduceCtorEq,z1c,ld3,z13 hk,q1,q2,z0h k1,z0h k3,z0h k4])|(refine qZj (id:=10) [([(0,0),(1,0),(2,0),(3,0),(4,0),(5,0)],some 6),([(7,0),(8,0),(9,0),(10,0)],some 11),([(12,2)],some 13),([(14,3)],none)] ?_ ?_;kernel_rfl;simp only[sD,sB,Za,Zb,reduceCtorEq,cl59,z1k,ld32,ln32,q1,q2,isAlloc,isRead])|(refine qZm ?_ ?_;simp only[sB,Za,reduceCtorEq];refine z01 ?_))
  refine z6q.mono ?_;rintro v H1 ⟨rfl,rfl⟩
  repeat' (first|(refine z0p ?_;simp only[sV,sD,sB,Za,reduceCtorEq,ld9,z38,cl97,q1,q2,isAlloc,isRead]))
  refine zf8.mono ?_;rintro v H1 ⟨rfl,rfl⟩
  repeat' (first|(refine z0p ?_;simp (disch:=first|omega|rfl) only[sD,sB,Za,Zb,Value.cells,one,reduceCtorEq,Zr,layC,zkr,cl96,isAlloc,dalloc]))
  obtain⟨H3,e3,hx3,g3,hw3⟩:=zii hw2 15 12 (by omega) (.row [.int .i64 (cmpZ t.args.length t'.args.length),.int .i64 (cmpS t.name t'.name)] 3);simp only[e3];clear e3;refine(zrw (row2 g3).1 (row2 g3).2).mono ?_;rintro v H1 ⟨rfl,rfl⟩;have gp3:=hx3.get hw2 gp;have gq3:=hx3.get hw2 gq;have hx23:=hx2.trans hx3
  repeat' (first|refine qZa ?_|refine qZg ?_|(refine qZb ?_;simp only[sA])|(refine z0p ?_;simp only[sD,sB,Za,Zb,reduceCtorEq,isAlloc,isRead]))
  refine qZk (fun k st=>∃tm H' i w,st=⟨tm,[],H'⟩/\k=t.args.length - i/\i<=t.args.length/\(headZ t t'=0\/headZ t t'=w)/\(headZ t t'=0->(if w=0 then ordL (t.args.drop i) (t'.args.drop i) else w)=ordL t.args t'.args) /\
   tm.get 2=some (.pointer (some ⟨H.next,0,none⟩))/\tm.get 3=some (.pointer (some ⟨H.next+1,0,none⟩))/\tm.get 5=some (.int .i64 w)/\tm.get 6=some (.int .i64 (i:Nat)) /\
   H'.get H.next=some (.row (six t a c) 40)/\H'.get (H.next+1)=some (.row (six t' a' c') 40)/\HX H H') ?_ t.args.length _ ?_
  ·rintro k st ⟨tm,H',i,w,rfl,rfl,hi,hh,hc,t2,t3,t5,t6,gp',gq',hx'⟩;have q1:=row6 gp';have q2:=row6 gq';have fin:∀u:Int,ordT t t'=if headZ t t'=0 then ordL t.args t'.args else headZ t t':=fun _=>by rw[z6s,if_neg (fun h=>h hk),if_neg k1,if_neg k3,if_neg k4]
   by_cases hlt:i < t.args.length
   ·by_cases h0:w=0
    ·have hh0:headZ t t'=0:=by rcases hh with h|h;exact h;rw[h];exact h0
     have hlt':i < t'.args.length:=by rw[<-zh9 hh0];exact hlt
     obtain⟨b,o,a1,c1,rfl,hld,hr1⟩:=rl.el hlt;obtain⟨b',o',a2,c2,rfl,hld',hr2⟩:=rl'.el hlt';have hld1:=hx'.load hw hld;have hld2:=hx'.load hw hld'
     repeat' (first|refine qZa ?_|refine qZg ?_|(refine qZe ?_;try simp only[z00])|(refine qZb ?_;simp only[sB,Za,z1k,ld32,ln32,t2,t5,t6,q1,decl hlt,z0v h0])|(refine qZj (id:=14) [([(0,0),(1,0),(2,0),(3,0),(4,0),(5,0),(6,0),(7,0),(8,0),(9,0)],some 10),([(11,1)],none)] ?_ ?_;kernel_rfl;simp (disch:=first|omega|rfl) only[sD,sB,Za,Zb,reduceCtorEq,z1k,ld32,ia32,ld40,cl54,t2,t3,t6,q1,q2,hld1,hld2,isAlloc,isRead])|(refine qZd ?_ ?_;simp only[sB,Za];refine z01 ?_))
     have hb:=hx'.bump 12;have hs:=z1t (Zc hlt);refine(ih (t:=t.args[i]) (t':=t'.args[i]) (by omega) (hr1.mono hb hw) (hr2.mono hb hw) (hn.args _ (ZD _)) (hn'.args _ (ZD _)) hb.wf).mono ?_;rintro v H4 ⟨rfl,hx4⟩;have hx5:=hb.trans hx4;have hm:=rl.max
     repeat' (first|(refine qZb ?_;simp (disch:=first|omega|rfl) only[sB,Za,t6,z05])|(refine z0p ?_;simp only[sD,sB,Za,isAlloc,isRead]))
     refine⟨t.args.length - (i+1),by omega,_,_,i+1,ordT t.args[i] t'.args[i],rfl,rfl,by omega,.inl hh0,fun _=>?_,(by simp only[sG,Za,t2]),(by simp only[sG,Za,t3]),(by simp only[sG,Za]),(by simp only[sB,Za];rfl),hx4.get hb.wf gp',hx4.get hb.wf gq',hx5⟩;rw[<-hc hh0,if_pos h0,zlv (Zc hlt) (Zc hlt')]
    ·repeat' (first|refine qZa ?_|(refine qZi ?_;try simp only[sB])|(refine qZf ?_)|(refine qZb ?_;simp only[sB,Za,z1k,ld32,ln32,t2,t5,t6,q1,decl hlt,z0h h0])|(refine qZm ?_ ?_;simp only[sB,Za];refine z01 ?_))
     refine z03 rfl (by simp only[sB,Za];rfl) ⟨?_,hx'⟩;rw[fin 0];by_cases hh0:headZ t t'=0
     ·rw[if_pos hh0,<-hc hh0,if_neg h0]
     ·rw[if_neg hh0];rcases hh with h|h
      ·exact absurd h hh0
      ·rw[h]
   ·repeat' (first|refine qZa ?_|(refine qZi ?_;try simp only[sB])|(refine qZf ?_)|(refine qZb ?_;simp only[sB,Za,z1k,ld32,ln32,t2,t5,t6,q1,decn hlt,Zd])|(refine qZm ?_ ?_;simp only[sB,Za];refine z01 ?_))
    refine z03 rfl (by simp only[sB,Za];rfl) ⟨?_,hx'⟩;rw[fin 0];by_cases hh0:headZ t t'=0
    ·rw[if_pos hh0,<-hc hh0,List.drop_of_length_le (by omega)];by_cases h0:w=0
     ·rw[if_pos h0,ordL,h0]
     ·rw[if_neg h0]
    ·rw[if_neg hh0];rcases hh with h|h
     ·exact absurd h hh0
     ·rw[h]
  ·refine⟨_,_,0,headZ t t',rfl,rfl,by omega,.inr rfl,fun h=>by rw[if_pos h];rfl,(by simp only[sG,Za,reduceCtorEq]),(by simp only[sG,Za,reduceCtorEq]),(by simp only[sB,Za,reduceCtorEq];rfl),(by simp only[sB,Za,reduceCtorEq];rfl),gp3,gq3,hx23⟩
 ·repeat' (first|refine qZa ?_|(refine qZb ?_;simp only[sB,Za,reduceCtorEq,z1c,ld3,z29 hk,q1,q2])|(refine qZj (id:=2) [([(0,0),(1,0)],some 2),([(3,0),(4,0)],some 5),([],some 6),([(7,3)],none)] ?_ ?_;kernel_rfl;simp only[sD,sB,Za,Zb,reduceCtorEq,z1c,ld3,cl92,q1,isAlloc,isRead])|(refine qZd ?_ ?_;simp only[sB,Za,reduceCtorEq];refine z01 ?_))
  refine zlq.mono ?_;rintro v H1 ⟨rfl,rfl⟩
  repeat' (first|(refine z0p ?_;simp only[sV,sD,sB,Za,reduceCtorEq,z1c,ld3,cl92,q2,isAlloc,isRead]))
  refine zlq.mono ?_;rintro v H2 ⟨rfl,rfl⟩
  repeat' (first|(refine z0p ?_;simp only[sD,sB,Za,reduceCtorEq,cl59]))
  refine z6q.mono ?_;rintro v H3 ⟨rfl,rfl⟩
  repeat' (first|(refine qZf ?_;try simp only[z04,z02])|(refine z0p ?_;simp only[sD,sB,Za,Zb,reduceCtorEq,isAlloc,isRead]))
  exact z03 rfl (by simp only[sB,Za,reduceCtorEq];rfl) ⟨by rw[z6s,if_pos hk],hx2.bump _⟩
theorem zha:∀(m:Nat) (t:Tm),SizeOf.sizeOf t < m->(occ t).length<=nd t
 |0,_,h=>by omega
 |m+1,t,h=>by
  have hl:∀l:List Tm,(∀u∈l,(occ u).length<=nd u)->(occL l).length<=nd.ndL l:=by
   intro l
   induction l with
   |nil=>intro _;rw[occL,nd.ndL];exact Ze _
   |cons u l ih=>intro hu;rw[occL,nd.ndL,Zm];have:=hu u (by simp);have:=ih fun v hv=>hu v (Zl _ hv);omega
  have:=hl t.args fun u hu=>zha m u (by have:=z0g hu;omega)
  rw[z3d,z25,Zm];split<;>simp<;>omega
theorem zfb {t:Tm}(h:checkS t=0):(occ t).length<=4000:=by
 have h1:=(z1d.1 h).1;have h2:=zdc _ t (Zf _) 0 h1;have h3:=zha _ t (Zf _);omega
theorem zm2 {k b v:Int}{s u:ByteArray}{l l':List Tm}(h:l'.length=l.length):nodeS (.mk k s u b v l')=nodeS (.mk k s u b v l):=by
 have hb:blankB (.mk k s u b v l')=blankB (.mk k s u b v l):=by simp only[blankB,Tm.kind,Tm.name,Tm.num,Tm.bits,Tm.var,Tm.args,h]
 have ha:(Tm.mk k s u b v l').args.length=(Tm.mk k s u b v l).args.length:=h;unfold nodeS nodeE;rw[hb,ha];rfl
theorem RepL.one {H:Heap}{t:Tm}{cs:List Value}{b:Nat}{T:TypeId}(r:RepT H t cs) (g:H.get b=some (.row cs T)):RepL H [t] (some ⟨b,0,none⟩) 1 (fun _=>cs):=by
 have h1:=r.len;refine RepL.of_row g (fun i hi=>?_) (fun i u hu=>?_) (Ze _) (by simp [maxLen])
 ·match i,hi with
  |0,_=>simp;exact Zq (by omega)
 ·match i,hu with
  |0,hu=>cases hu;exact r
open Classical in
noncomputable def layV (σ:SS) (t:Tm):SS × (Int × Int) × Int:=if checkS t≠0 then (σ,(0,0),checkS t) else if ∀v∈occ t,okV σ v then ((layS σ t).1,(layS σ t).2,0) else (σ,(0,0),133)
theorem zm3 (l:List Int) (n:Int):n∈uniq l↔n∈l:=by
 have h:∀(l L:List Int),n∈l.foldl addU L↔n∈L\/n∈l:=by
  intro l
  induction l with
  |nil=>intro L;simp
  |cons m l ih =>
   intro L;rw[ZP,ih];have:n∈addU L m↔n∈L\/n=m:=by
    unfold addU;split
    ·rename_i hm;exact⟨.inl,fun h=>by rcases h with h|h;exact h;rw[h];exact hm⟩
    ·simp
   rw[this,List.mem_cons,or_assoc]
 have:=h l [];simpa [uniq] using this
theorem zbh {l:List Int}{v:Int}:v∈uniq l↔v∈l:=zm3 _ _
theorem zbi {t:Tm}{cs:List Value}{b:Nat}{H:Heap}(r:RepT H t cs) (g:H.get b=some (.row cs 40)) (hw:H.wf) :
  EvF Tryz.prog okT 61 [.slice (some ⟨b,0,none⟩) 1 1] H fun v H'=>∃u,v=.tuple #[u,.int .i64 (checkS t)]/\IntL H' 3 (Rg H.next H'.next) (if checkS t=0 then uniq (occ t) else []) u/\HX H H':=by
 have rl:=RepL.one r g;have ec:chkL [t]=checkS t:=by rw[chkL];split;rename_i h;rw[h,chkL];rfl
 have eo:occL [t]=occ t:=by rw[occL,occL,List.append_nil]
 refine EvF.enter rfl Tryz.func61 (by decide) rfl ?_
 repeat' (first|refine qZa ?_|(refine qZb ?_;simp only[sB,initTm,Za,reduceCtorEq,cl52]))
 refine(zd7 rl hw).mono ?_;rintro v H2 ⟨rfl,hx2⟩;rw[ec];by_cases h0:checkS t=0
 ·have hf:=zfb h0
  repeat' (first|refine qZa ?_|(refine qZe ?_;try simp only[z00])|(refine qZb ?_;simp only[sB,Za,reduceCtorEq,cl55,z13 h0])|(refine qZm ?_ ?_;simp only[sB,Za,reduceCtorEq];refine z01 ?_))
  refine(z78 (rl.mono hx2 hw) (by rw[eo];unfold most;omega) hx2.wf).mono ?_;rintro v H3 ⟨hi,hx3⟩;rw[eo] at hi
  repeat' (first|(refine qZf ?_))
  refine z0j rfl (by simp only[sB,Za,reduceCtorEq];rfl) (by simp only[sB,Za,reduceCtorEq];rfl) ⟨v,by rw[h0],?_,hx2.trans hx3⟩;rw[if_pos h0];rcases hi with h|⟨b,c',h1,h2,h3,h4,h5⟩
  ·exact .inl h
  ·exact .inr ⟨b,c',h1,h2,h3,h4,by have:=hx2.next;exact⟨by have:=h5.1;omega,h5.2⟩⟩
 ·repeat' (first|refine qZa ?_|(refine qZf ?_;try simp only[z04,z02])|(refine qZb ?_;simp only[sB,Za,reduceCtorEq,z29 h0])|(refine qZd ?_ ?_;simp only[sB,Za,reduceCtorEq];refine z01 ?_))
  exact z0j rfl (by simp only[sB,Za,reduceCtorEq];rfl) (by simp only[sG,Za,reduceCtorEq]) ⟨_,rfl,by rw[if_neg h0];exact .inl ⟨rfl,rfl⟩,hx2⟩
end Go.Proofs.hq
end

section
namespace Go.Hb
open Go Go.RowKit
theorem FL.inv {H:Heap}{T:TypeId}{S:Nat->Prop}{l:List Tm}{a:Option Addr}{c:Nat}(h:FL H T S l a c):(l=[]/\a=none/\c=0)\/∃b cells Si ai ci,a=some ⟨b,0,none⟩/\l.length<=c/\c<=maxLen /\
  H.get b=some (.row cells T)/\l.length*6<=cells.length/\S b/\(∀i,i < l.length->¬Si i b)/\FLs H T S l cells Si ai ci:=by
 cases h with
 |nil=>exact .inl ⟨rfl,rfl,rfl⟩
 |row _ _ b c cells Si ai ci h1 h2 h3 h4 h5 h6 h7 h8 h9 h10 h11=>exact .inr ⟨b,cells,Si,ai,ci,rfl,h1,h2,h3,h4,h7,h8,⟨h5,h6,h9,h10,h11⟩⟩
end Go.Hb
namespace Go.Proofs.hq
open Go Go.RowKit Go.Hb
variable {ok:Ok}
set_option maxRecDepth 10000
attribute [local irreducible] LX LG EL STG SOP SGO SGD SAL SRD SEF SEG SLK SCK ES
abbrev mark6 (k:Int) (s:ByteArray):List Value:=[.int .i64 k,.string s,.string Zh,.int .u64 0,.int .i64 0,.slice none 0 0]
end Go.Proofs.hq
end

section
namespace Go.Proofs.hq
open Go Go.RowKit Go.Hb
variable {ok:Ok}
set_option maxRecDepth 10000
attribute [local irreducible] LX LG EL STG SOP SGO SGD SAL SRD SEF SEG SLK SCK ES
noncomputable def eqT (t t':Tm):Bool:=@decide (t=t') (Classical.propDecidable _)
theorem zs1 {t t':Tm}(h:t=t'):eqT t t'=true:=by unfold eqT;exact @decide_eq_true _ (Classical.propDecidable _) h
theorem zbj {t t':Tm}(h:t≠t'):eqT t t'=false:=by unfold eqT;exact @decide_eq_false _ (Classical.propDecidable _) h
theorem z2n {a b:ByteArray}(h:a=b):(a.toList == b.toList)=true:=by rw[h];exact beq_self_eq_true _
theorem zhb {a b:ByteArray}(h:a≠b):(a.toList == b.toList)=false:=by
 rw[beq_eq_false_iff_ne];exact fun q=>h (z6p q)
set_option maxHeartbeats 4000000 in
theorem zs2 {m:Nat}:∀{t t':Tm}{cs cs':List Value}{H:Heap},SizeOf.sizeOf t < m->RepT H t cs->RepT H t' cs'->H.wf ->
  EvF Tryz.prog okT 11 [.agg ⟨cs⟩,.agg ⟨cs'⟩] H fun v H'=>v=.bool (eqT t t')/\HX H H':=by
 induction m with
 |zero=>intro t t' cs cs' H h;omega
 |succ m ih =>
 intro t t' cs cs' H hsz r r' hw;obtain⟨a,c,cells,rfl,b1,b2,b3,b4,b5,rl⟩:=r.six;obtain⟨a',c',cells',rfl,b1',b2',b3',b4',b5',rl'⟩:=r'.six;refine EvF.enter rfl Tryz.func11 (by decide) rfl ?_;(repeat refine qZa ?_);refine qZb ?_;simp only[sB,initTm,dBox,Za,Value.cells,one,reduceCtorEq];obtain⟨H2,e2,hx2,gp,gq,hnx,hw2⟩:=new2 hw (.row (six t a c) 40) (.row (six t' a' c') 40);simp only[e2];have q1:=row6 gp;have q2:=row6 gq;clear e2;by_cases k1:t.kind=t'.kind;rotate_left
 ·repeat' (first|refine qZa ?_|(refine qZf ?_;try simp only[z04,z02])|(refine qZb ?_;simp only[sB,Za,reduceCtorEq,z1c,ld3,z29 k1,q1,q2])|(refine qZd ?_ ?_;simp only[sB,Za,reduceCtorEq];refine z01 ?_))
  exact z03 rfl (by simp only[sB,Za,reduceCtorEq];rfl) ⟨by rw[zbj (fun h=>k1 (by rw[h]))],hx2⟩
 by_cases k2:t.name=t'.name;rotate_left
 ·repeat' (first|refine qZa ?_|(refine qZf ?_;try simp only[z04,z02])|(refine qZb ?_;simp only[sB,Za,reduceCtorEq,z1c,ld3,z38,ld9,z13 k1,q1,q2,z1p,zhb k2,Zw,Zd])|(refine qZd ?_ ?_;simp only[sB,Za,reduceCtorEq];refine z01 ?_))
  exact z03 rfl (by simp only[sB,Za,reduceCtorEq];rfl) ⟨by rw[zbj (fun h=>k2 (by rw[h]))],hx2⟩
 by_cases k3:t.num=t'.num;rotate_left
 ·repeat' (first|refine qZa ?_|(refine qZf ?_;try simp only[z04,z02])|(refine qZb ?_;simp only[sB,Za,reduceCtorEq,z1c,ld3,z38,ld9,z4k,z13 k1,q1,q2,z1p,z2n k2,zhb k3,Zw,Zn,Zd])|(refine qZd ?_ ?_;simp only[sB,Za,reduceCtorEq];refine z01 ?_))
  exact z03 rfl (by simp only[sB,Za,reduceCtorEq];rfl) ⟨by rw[zbj (fun h=>k3 (by rw[h]))],hx2⟩
 by_cases k4:t.bits=t'.bits;rotate_left
 ·repeat' (first|refine qZa ?_|(refine qZf ?_;try simp only[z04,z02])|(refine qZb ?_;simp only[sB,Za,reduceCtorEq,z1c,ld3,z38,ld9,z4k,z56,ld38,z13 k1,q1,q2,z1p,z2n k2,z2n k3,z29 k4,Zn,Zd])|(refine qZd ?_ ?_;simp only[sB,Za,reduceCtorEq];refine z01 ?_))
  exact z03 rfl (by simp only[sB,Za,reduceCtorEq];rfl) ⟨by rw[zbj (fun h=>k4 (by rw[h]))],hx2⟩
 by_cases k5:t.var=t'.var;rotate_left
 ·repeat' (first|refine qZa ?_|(refine qZf ?_;try simp only[z04,z02])|(refine qZb ?_;simp only[sB,Za,reduceCtorEq,z1c,ld3,z38,ld9,z4k,z56,ld38,z4d,z13 k1,q1,q2,z1p,z2n k2,z2n k3,z13 k4,z29 k5,Zn,Zd])|(refine qZd ?_ ?_;simp only[sB,Za,reduceCtorEq];refine z01 ?_))
  exact z03 rfl (by simp only[sB,Za,reduceCtorEq];rfl) ⟨by rw[zbj (fun h=>k5 (by rw[h]))],hx2⟩
 by_cases k6:(t.args.length:Int)=t'.args.length;rotate_left
 ·repeat' (first|refine qZa ?_|(refine qZf ?_;try simp only[z04,z02])|(refine qZb ?_;simp only[sB,Za,reduceCtorEq,z1c,ld3,z38,ld9,z4k,z56,ld38,z4d,z1k,ld32,ln32,z13 k1,q1,q2,z1p,z2n k2,z2n k3,z13 k4,z13 k5,z29 k6,Zn,Zd])|(refine qZd ?_ ?_;simp only[sB,Za,reduceCtorEq];refine z01 ?_))
  exact z03 rfl (by simp only[sB,Za,reduceCtorEq];rfl) ⟨by rw[zbj (fun h=>k6 (by rw[h]))],hx2⟩
 repeat' (first|refine qZa ?_|refine qZg ?_|(refine qZe ?_;try simp only[z00])|(refine qZb ?_;simp only[sB,Za,reduceCtorEq,z1c,ld3,z38,ld9,z4k,z56,ld38,z4d,z1k,ld32,ln32,z13 k1,q1,q2,z1p,z2n k2,z2n k3,z13 k4,z13 k5,z13 k6,Zn,Zd])|(refine qZm ?_ ?_;simp only[sB,Za,reduceCtorEq];refine z01 ?_))
 have hlen:t.args.length=t'.args.length:=by omega
 have hm:=rl.max;refine qZk (fun k st=>∃tm H' i,st=⟨tm,[],H'⟩/\k=t.args.length - i/\i<=t.args.length/\(∀j,j < i->t.args[j]?=t'.args[j]?) /\
   tm.get 2=some (.pointer (some ⟨H.next,0,none⟩))/\tm.get 3=some (.pointer (some ⟨H.next+1,0,none⟩))/\tm.get 5=some (.int .i64 (i:Nat)) /\
   H'.get H.next=some (.row (six t a c) 40)/\H'.get (H.next+1)=some (.row (six t' a' c') 40)/\HX H H') ?_ t.args.length _ ?_
 ·rintro k st ⟨tm,H',i,rfl,rfl,hi,hc,t2,t3,t5,gp',gq',hx'⟩;have q1:=row6 gp';have q2:=row6 gq';by_cases hlt:i < t.args.length
  ·have hlt':i < t'.args.length:=by omega
   obtain⟨b,o,a1,c1,rfl,hld,hr1⟩:=rl.el hlt;obtain⟨b',o',a2,c2,rfl,hld',hr2⟩:=rl'.el hlt';have hld1:=hx'.load hw hld;have hld2:=hx'.load hw hld'
   repeat' (first|refine qZa ?_|refine qZg ?_|(refine qZe ?_;try simp only[z00])|(refine qZb ?_;simp (config:=qZc) (disch:=first|omega|rfl) only[sB,Za,z1k,ld32,ln32,t2,t5,q1,decl hlt])|(refine qZj [([(0,0),(1,0),(2,0),(3,0),(4,0),(5,0),(6,0),(7,0),(8,0),(9,0)],some 10),([(11,1)],none)] ?_ ?_;kernel_rfl;simp (config:=qZc) (disch:=first|omega|rfl) only[sD,sB,Za,Zb,reduceCtorEq,z1k,ld32,ia32,ld40,cl11,t2,t3,t5,q1,q2,hld1,hld2,isAlloc,isRead])|(refine qZd ?_ ?_;simp (config:=qZc) (disch:=first|omega|rfl) only[sB,Za];refine z01 ?_))
   have hb:=hx'.bump 12;have hs:=z1t (Zc hlt);refine(ih (t:=t.args[i]) (t':=t'.args[i]) (by omega) (hr1.mono hb hw) (hr2.mono hb hw) hb.wf).mono ?_;rintro v H4 ⟨rfl,hx4⟩;have hx5:=hb.trans hx4;by_cases he:t.args[i]=t'.args[i]
   ·repeat' (first|refine qZa ?_|(refine qZe ?_;try simp only[sA])|(refine qZb ?_;simp (config:=qZc) (disch:=first|omega|rfl) only[sB,Za,Zn,t5,z05])|(refine z0p ?_;simp (config:=qZc) (disch:=first|omega|rfl) only[sD,sB,Za,zs1 he,isAlloc,isRead])|(refine qZm ?_ ?_;simp (config:=qZc) (disch:=first|omega|rfl) only[sB,Za];refine z01 ?_))
    refine⟨t.args.length - (i+1),by omega,_,_,i+1,rfl,rfl,by omega,fun j hj=>?_,(by simp only[sG,Za,t2]),(by simp only[sG,Za,t3]),(by simp only[sB,Za];rfl),hx4.get hb.wf gp',hx4.get hb.wf gq',hx5⟩;by_cases hji:j=i
    ·subst hji;rw[Zc hlt,Zc hlt',he]
    ·exact hc j (by omega)
   ·repeat' (first|refine qZa ?_|(refine qZf ?_;try simp only[z04,z02])|(refine qZb ?_;simp only[sB,Za,Zw])|(refine z0p ?_;simp only[sD,sB,Za,zbj he,isAlloc,isRead])|(refine qZd ?_ ?_;simp only[sB,Za];refine z01 ?_))
    refine z03 rfl (by simp only[sB,Za];rfl) ⟨?_,hx5⟩;rw[zbj];rintro rfl;exact he rfl
  ·repeat' (first|refine qZa ?_|(refine qZi ?_;try simp only[sB])|(refine qZf ?_)|(refine qZb ?_;simp only[sB,Za,z1k,ld32,ln32,t2,t5,q1,decn hlt])|(refine qZm ?_ ?_;simp only[sB,Za];refine z01 ?_))
   refine z03 rfl (by simp only[sB,Za];rfl) ⟨?_,hx'⟩;rw[zs1];refine za1 k1 k2 k3 k4 k5 (List.ext_getElem? fun j=>?_);by_cases hj:j < i
   ·exact hc j hj
   ·rw[ZM (by omega),ZM (by omega)]
 ·exact⟨_,_,0,rfl,rfl,by omega,by omega,(by simp only[sG,Za,reduceCtorEq]),(by simp only[sG,Za,reduceCtorEq]),(by simp only[sB,Za,reduceCtorEq];rfl),gp,gq,hx2⟩
theorem zj2 {t t':Tm}{cs cs':List Value}{H:Heap}(r:RepT H t cs) (r':RepT H t' cs') (hw:H.wf) :
  EvF Tryz.prog okT 11 [.agg ⟨cs⟩,.agg ⟨cs'⟩] H fun v H'=>v=.bool (eqT t t')/\HX H H':=zs2 (Zf _) r r' hw
end Go.Proofs.hq
end

section
namespace Go.Hb
open Go Go.RowKit
def ApV (S:Nat->Prop) (H0 H:Heap) (T:TypeId) (v:Value) (n:Nat):Prop :=
 (n=0/\v=.slice none 0 0)\/∃b cells c,v=.slice (some ⟨b,0,none⟩) n c/\H.get b=some (.row cells T)/\n*6<=cells.length/\(cells.take (n*6)).all one=true/\(S b\/H0.next<=b)
theorem ApV.push {P:Program}{T t:TypeId}(hp:apOk P t T 6) {S:Nat->Prop}{H0 H:Heap}{v:Value}{n c1:Nat}{ad:Addr}{cs:List Value}(h:ApV S H0 H T v n) (hk:HK S H0 H) (hl:H.load ad (1*6)=some cs) (hc:cs.all one=true) (hlc:cs.length=6) (hm:n+1<=most) :
  ∃H2 v2,dAp P #[t,t] v (.slice (some ad) 1 c1) H=some (.val v2 H2)/\ApV S H0 H2 T v2 (n+1)/\HK S H0 H2:=by
 rcases h with ⟨rfl,rfl⟩|⟨b,cells,c,rfl,hg,hn,ho,hb⟩
 ·refine⟨_,_,z6m hp (by omega) hm hl hc,.inr ⟨H.next,cs,1,rfl,z0z,by omega,?_,.inr hk.next⟩,hk.new _⟩;rw[Zq (by omega)];exact hc
 ·refine⟨_,_,z5g hp (by omega) hm hl hc hg hn ho,.inr ⟨H.next,_,_,rfl,z0z,?_,?_,.inr hk.next⟩,(hk.put hb (hk.wf _ _ hg) none).new _⟩
  ·simp;omega
  ·rw[Zq (by simp;omega),List.all_append,ho,hc];rfl
end Go.Hb
namespace Go.Proofs.hq
open Go Go.RowKit Go.Hb
variable {ok:Ok}
set_option maxRecDepth 10000
attribute [local irreducible] LX LG EL STG SOP SGO SGD SAL SRD SEF SEG SLK SCK ES
noncomputable def eqL (l l':List Tm):Bool:=@decide (l=l') (Classical.propDecidable _)
end Go.Proofs.hq
end

section
namespace Go.Hb
open Go Go.RowKit
section
variable {P:Program}{ok:Ok}{x:Ctx}
theorem zod {g:FuncId}(h:callable P g=true):(dcall1 P g []).isNone=false:=by
 unfold callable at h;unfold dcall1;split at h
 ·rename_i fn hfn;rw[hfn];simp only[h,if_true];rfl
 ·cases h
theorem EvC.rangeF {f:Operand}{params:Array Tmp}{assign body:Code}{g:FuncId}{first captured:Array Value}{tm:Tr Value}{ds:List Deferred}{H:Heap}{Q:Ex->St->Prop}(hr:x.round=none)
  (hf:ev tm f=.func (.func g) first captured) (hc:callable P g=true)
  (h:EvF P ok g (first.toList++[.func (.yield (H.next+1)) #[] #[]]++captured.toList) ((H.new (some .dfr)).new (some (.loop .ready none x.fn tm params.toList assign body H.next)))
   fun _ H3=>H3.get (H.next+1)=some (.loop .ready none x.fn tm params.toList assign body H.next) /\
    Q .normal ⟨tm,{ target:=.collected H.next,args:=#[] } :: ds,H3.put (H.next+1) (some (.loop .exhausted none x.fn tm params.toList assign body H.next))⟩) :
  EvC P ok x (.rangeFunc f params assign body) ⟨tm,ds,H⟩ Q:=by
 obtain⟨N,⟨en,H3⟩,h1,v,he,hg,hq⟩:=h;simp only at he;subst he;refine⟨N+1,(.normal,⟨tm,{ target:=.collected H.next,args:=#[] } :: ds,H3.put (H.next+1) (some (.loop .exhausted none x.fn tm params.toList assign body H.next))⟩),fun n hn=>?_,hq⟩;obtain⟨m,rfl⟩:∃m,n=m+1:=⟨n - 1,by omega⟩
 have hcall:=h1 m (by omega);show dcode P ok (m+1) x (.rangeFunc f params assign body) ⟨tm,ds,H⟩=_;rw[dcode];simp only[hr,hf,zod hc,Zd,if_false];have e1:(H.new (some Blk.dfr)).next=H.next+1:=rfl;simp only[e1,hcall,hg]
theorem EvC.rangeG {f:Operand}{params:Array Tmp}{assign body:Code}{g:FuncId}{first captured:Array Value}{tm:Tr Value}{ds:List Deferred}{H:Heap}{Q:Ex->St->Prop}(hr:x.round=none)
  (hf:ev tm f=.func (.func g) first captured) (hc:callable P g=true)
  (h:∀R,R=Blk.loop .ready none x.fn tm params.toList assign body H.next->EvF P ok g (first.toList++[.func (.yield (H.next+1)) #[] #[]]++captured.toList) ((H.new (some .dfr)).new (some R))
   fun _ H3=>H3.get (H.next+1)=some R/\∀B,Q .normal ⟨tm,{ target:=.collected H.next,args:=#[] } :: ds,H3.put (H.next+1) B⟩) :
  EvC P ok x (.rangeFunc f params assign body) ⟨tm,ds,H⟩ Q:=EvC.rangeF hr hf hc ((h _ rfl).mono fun _ _ hq=>⟨hq.1,hq.2 _⟩)
theorem zj3 {fn:Func}{tm:Tr Value}{ds:List Deferred}{l:Nat}{args:Array Value}{H:Heap}{K:Value->Heap->Prop}(hg:H.get l=some .dfr) (h:Ex.leave P ok fn K .ret ⟨tm,ds,H.put l none⟩) :
  Ex.leave P ok fn K .ret ⟨tm,⟨.collected l,args⟩ :: ds,H⟩:=EvV.mark hg h
theorem EvR.go {l:Nat}{args:List Value}{H:Heap}{K:Value->Heap->Prop}{fn:FuncId}{tm:Tr Value}{ps:List Tmp}{aa bo:Code}{dd:Nat}(hg:H.get l=some (.loop .ready none fn tm ps aa bo dd)) (hl:args.length=ps.length)
  (h:EvC P ok ⟨fn,some l⟩ aa ⟨(ps.zip args).foldl (fun t p=>t.put p.1 (some p.2)) tm,[],H⟩ fun e st1=>e=.normal/\st1.H.get l=some (.loop .ready none fn tm ps aa bo dd) /\
   EvC P ok ⟨fn,some l⟩ bo ⟨st1.tm,st1.ds,st1.H.put l (some (.loop .busy none fn tm ps aa bo dd))⟩ fun e st2=>e=.normal/\st2.H.get l=some (.loop .busy none fn tm ps aa bo dd) /\
    K (.bool true) (st2.H.put l (some (.loop .ready none fn tm ps aa bo dd)))):EvR P ok l args H K:=by
 obtain⟨N,⟨e,st1⟩,h1,he,hg1,N2,⟨e2,st2⟩,h2,he2,hg2,hk⟩:=h;simp only at he he2;subst he he2;refine⟨max N N2+1,(.bool true,st2.H.put l (some (.loop .ready none fn tm ps aa bo dd))),fun n hn=>?_,hk⟩;obtain⟨m,rfl⟩:∃m,n=m+1:=⟨n - 1,by omega⟩
 have c1:=h1 m (by omega);have c2:=h2 m (by omega);have hb:Zt args.length ps.length=true:=by rw[Zu];exact hl
 simp only at hg1 hg2 c2;show dround P ok (m+1) l args H=_;rw[dround];simp only[hg,hb,if_true,c1,hg1,c2,dendRound,hg2]
theorem EvR.mono {l:Nat}{args:List Value}{H:Heap}{K L:Value->Heap->Prop}(h:EvR P ok l args H K) (k:∀v H',K v H'->L v H'):EvR P ok l args H L:=Upon.mono h fun _ hq=>k _ _ hq
end
end Go.Hb
end

section
namespace Go.Hb
open Go Go.RowKit
theorem StR.from {P:Program}{H:Heap}{B s:Nat}{T:TypeId}{F:List Fld}{V:List Value}(h:StR H B s T F V) {i n c m w:Nat}{a:Option Addr}{t e:TypeId}{L:List (List Value)}(hF:F[i]?=some (.sl e w L)) (hV:V[i]?=some (.slice a n c)) (hs:slcOk P t e w) (hm:m<=L.length) {G:Heap}(hG:∀b,a=some ⟨b,0,none⟩->G.get b=H.get b) :
  ∃a' c',dSl P t (.slice a n c) (some (.int .i64 (m:Int))) none none G=some (.val (.slice a' (L.length - m) c') G)/\L.length - m<=maxLen/\∀(k:Nat) x,L[m+k]?=some x->∃b,a=some ⟨b,0,none⟩/\a'=some ⟨b,m*w,none⟩:=by
 obtain⟨a0,c0,e0,hlc,hcm⟩:=h.sl hF hV;cases e0;obtain⟨h1,h2,h3⟩:=id hs;obtain⟨info,hi⟩:=Option.isSome_iff_exists.1 h2;by_cases m0:m=0
 ·subst m0;refine⟨a,c,?_,by omega,fun k x hx=>?_⟩
  ·have eb:Zt 0 0=true:=rfl;simp only[dSl,dslice,h1,hi,bound,z17 (ZA L.length),eb,if_true,Nat.sub_zero]
  ·obtain⟨b,rfl,-,-⟩:=h.el hF hV hx;exact⟨b,rfl,by rw[Nat.zero_mul]⟩
 ·have e0:Zt m 0=false:=by rw[<-ZE,Zu];omega
  by_cases mc:m=c
  ·refine⟨some ⟨0,0,some 0⟩,0,?_,by omega,fun k x hx=>?_⟩
   ·have e1:Zt m c=true:=by rw[Zu];exact mc
    have e2:L.length - m=0:=by omega
    simp only[dSl,dslice,h1,hi,bound,z17 hm,e0,e1,e2,Zd,if_false,if_true]
   ·have:=(List.getElem?_eq_some_iff.1 hx).1;omega
  ·rcases h.fld i _ _ hF hV with ⟨q1,q2⟩|⟨b,c',q,e⟩
   ·rw[q1] at hm;simp at hm;omega
   ·cases e;obtain⟨cs,hg,-⟩:=q.row;refine⟨some ⟨b,0+m*w,none⟩,c - m,zsp hs hm (by omega) (by omega) ((hG b rfl).trans hg) (.inl ⟨cs,rfl⟩),by omega,fun k x hx=>⟨b,rfl,by rw[Nat.zero_add]⟩⟩
end Go.Hb
namespace Go.Proofs.hq
open Go Go.RowKit Go.Hb
variable {ok:Ok}
set_option maxRecDepth 10000
attribute [local irreducible] LX LG EL STG SOP SGO SGD SAL SRD SEF SEG SLK SCK ES
theorem zoe {a:Option Addr}{n c:Nat}{H:Heap}(hw:H.wf):EvF Tryz.prog okT 75 [.slice a n c] H fun v H' =>
  v=.func (.func 111) #[] #[.pointer (some ⟨H.next,0,none⟩)]/\H'.get H.next=some (.row [.slice a n c] 73)/\H'.next=H.next+1/\HX H H':=by
 refine EvF.enter rfl Tryz.func75 (by decide) rfl ?_;(repeat refine qZa ?_);refine qZb ?_;simp (config:=qZc) (disch:=first|omega|rfl) only[sB,initTm,dBox,Value.cells,one];obtain⟨H1,e1,hx1,g1,n1,w1⟩:=new1 hw (.row [.slice a n c] 73);simp only[e1]
 repeat' (first|refine qZa ?_|(refine qZf ?_)|(refine qZb ?_;simp (config:=qZc) only[sB,Za,reduceCtorEq,List.map_toArray]))
 exact z03 rfl (by simp only[sG,Za,reduceCtorEq]) ⟨rfl,g1,n1,hx1⟩
set_option maxHeartbeats 2000000 in
theorem zdq {L:List (Int × Int)}{a:Option Addr}{c p l:Nat}{I:Nat->Heap->Prop}{H:Heap}(hmax:L.length<=maxLen) (h1:∀i H,I i H->H.get p=some (.row [.slice a L.length c] 73))
  (h3:∀i H,I i H->∀k,(hk:k < L.length)->∃b o,a=some ⟨b,o,none⟩/\H.load ⟨b,o+k*2,none⟩ 2=some (two L[k]))
  (h2:∀i H,(hi:i < L.length)->I (i+1) H->EvR Tryz.prog okT l [.int .i64 (i:Nat),.agg ⟨two L[i]⟩] H fun v H'=>v=.bool true/\I i H') (h:I L.length H) :
  EvF Tryz.prog okT 111 [.func (.yield l) #[] #[],.pointer (some ⟨p,0,none⟩)] H fun _ H'=>I 0 H':=by
 refine EvF.enter rfl Tryz.func111 (by decide) rfl ?_;have lp:=z3u (h1 _ _ h);have hm:maxLen=9223372036854775807:=by simp [maxLen]
 have ew:IntKind.i64.wrap ((L.length:Int) - 1)=(L.length:Int) - 1:=by rw[z05]<;>omega
 (repeat refine qZa ?_);refine qZb ?_;simp (config:=qZc) only[sB,initTm,Za,reduceCtorEq,ld73,ln73,lp,ew];refine qZg (qZk (fun k st=>∃tm H' , st=⟨tm,[],H'⟩/\k<=L.length/\tm.get 0=some (.func (.yield l) #[] #[])/\tm.get 1=some (.pointer (some ⟨p,0,none⟩))/\tm.get 3=some (.int .i64 ((k:Nat) - 1:Int))/\I k H') ?_ L.length _ ?_)
 ·rintro k st ⟨tm,H',rfl,hk,t0,t1,t3,hI⟩;cases k with
  |zero =>
   have hd:decide ((((0:Nat):Int) - 1) >= 0)=false:=by decide
   repeat' (first|refine qZa ?_|(refine qZi ?_;try simp only[sB])|(refine qZb ?_;simp (config:=qZc) only[sB,t3,hd])|(refine qZm ?_ ?_;simp (config:=qZc) only[sB,Za];refine z01 ?_))
   exact z0r rfl hI
  |succ k =>
   have e:(((k+1:Nat):Int) - 1)=(k:Nat):=by omega
   rw[e] at t3;have hd:decide (((k:Nat):Int) >= 0)=true:=decide_eq_true (by omega);have lp':=z3u (h1 _ _ hI);have hkl:k < L.length:=by omega
   obtain⟨b,o,rfl,hl⟩:=h3 _ _ hI k hkl;have ew2:IntKind.i64.wrap ((k:Int) - 1)=(k:Int) - 1:=by rw[z05]<;>omega
   repeat' (first|refine qZa ?_|refine qZg ?_|(refine qZe ?_;try simp only[z00])|(refine qZb ?_;simp (config:=qZc) (disch:=first|omega|rfl) only[sB,Za,reduceCtorEq,ld73,ia73,zuv,t0,t1,t3,hd,lp',hl,z10,zce])|(refine qZd ?_ ?_;simp (config:=qZc) only[sB,Za];refine z01 ?_))
   refine(h2 k H' hkl hI).mono ?_;rintro v H2 ⟨rfl,hI2⟩
   repeat' (first|(refine qZe ?_;try simp only[sA])|(refine qZb ?_;simp (config:=qZc) only[sB,Za,t3,ew2])|(refine z0f ?_;simp (config:=qZc) only[sA,Zn])|(refine qZm ?_ ?_;simp (config:=qZc) only[sB,Za];refine z01 ?_))
   exact⟨k,by omega,_,_,rfl,by omega,(by simp only[sG,reduceCtorEq,t0]),(by simp only[sG,Za,t1]),(by simp only[sG,Za]),hI2⟩
 ·exact⟨_,_,rfl,Ze _,(by simp only[sG,reduceCtorEq]),(by simp only[sG,Za,reduceCtorEq]),(by simp only[sG,Za,reduceCtorEq]),h⟩
end Go.Proofs.hq
end

section
namespace Go.Proofs.hq
open Go Go.RowKit Go.Hb
variable {ok:Ok}
set_option maxRecDepth 10000
attribute [local irreducible] LX LG EL STG SOP SGO SGD SAL SRD SEF SEG SLK SCK ES
def undo1 (x:Int × Int) (σ:SS):SS:=if x.1=0 then { σ with cells:=σ.cells.set (gi σ.vars x.2).toNat (1,x.2) } else { σ with flags:=σ.flags.set x.2.toNat false }
def undoL (σ:SS) (L:List (Int × Int)):SS:=L.foldr undo1 σ
def TrOk (σ:SS) (x:Int × Int):Prop:=(x.1=0\/x.1=1)/\∃n k:Nat,x.2=n/\n < σ.vars.length/\gi σ.vars n=k/\k < σ.cells.length
theorem _root_.Go.Hb.StR.box {H:Heap}{B s n:Nat}{T:TypeId}{F:List Fld}{V:List Value}(h:StR H B s T F V) (hw:H.wf) (hl:n < H.next) (hm:¬Mut H s n) (D:Option Blk):StR (H.put n D) B s T F V :=
 (h.beside hw ((HK.refl (S:=fun k=>k=n) hw).put (.inl rfl) hl D) fun k e=>e ▸ hm).1
theorem zj4 (x:Int × Int) (σ:SS):(undo1 x σ).vars=σ.vars/\(undo1 x σ).own=σ.own/\(undo1 x σ).consts=σ.consts/\(undo1 x σ).funs=σ.funs/\(undo1 x σ).trail=σ.trail/\(undo1 x σ).marks=σ.marks/\(undo1 x σ).cells.length=σ.cells.length/\(undo1 x σ).flags.length=σ.flags.length:=by
 unfold undo1;split
 ·exact⟨rfl,rfl,rfl,rfl,rfl,rfl,by simp,rfl⟩
 ·exact⟨rfl,rfl,rfl,rfl,rfl,rfl,rfl,by simp⟩
theorem z2f (σ:SS):∀L:List (Int × Int),(undoL σ L).vars=σ.vars/\(undoL σ L).own=σ.own/\(undoL σ L).consts=σ.consts/\(undoL σ L).funs=σ.funs/\(undoL σ L).trail=σ.trail/\(undoL σ L).marks=σ.marks/\(undoL σ L).cells.length=σ.cells.length/\(undoL σ L).flags.length=σ.flags.length
 |[]=>⟨rfl,rfl,rfl,rfl,rfl,rfl,rfl,rfl⟩
 |x :: L=>by
  have h:=z2f σ L;have k:=zj4 x (undoL σ L);show (undo1 x (undoL σ L)).vars=_/\_;exact⟨k.1.trans h.1,k.2.1.trans h.2.1,k.2.2.1.trans h.2.2.1,k.2.2.2.1.trans h.2.2.2.1,k.2.2.2.2.1.trans h.2.2.2.2.1,k.2.2.2.2.2.1.trans h.2.2.2.2.2.1,k.2.2.2.2.2.2.1.trans h.2.2.2.2.2.2.1,k.2.2.2.2.2.2.2.trans h.2.2.2.2.2.2.2⟩
def undoS (σ:SS) (n mt mc mv:Nat):SS :=
 { undoL σ (σ.trail.drop mt) with trail:=σ.trail.take mt,cells:=(undoL σ (σ.trail.drop mt)).cells.take mc,own:=σ.own.take mc,vars:=σ.vars.take mv,flags:=(undoL σ (σ.trail.drop mt)).flags.take mv,marks:=σ.marks.take (n+1) }
set_option maxHeartbeats 8000000 in
theorem zm4 {H:Heap}{B s n mt mc mv:Nat}{σ:SS}(hs:St H B s σ) (hw:H.wf) (hn:n < σ.marks.length) (hmk:σ.marks[n]=((mt:Int),(mc:Int),(mv:Int))) (hmt:mt<=σ.trail.length) (hmc:mc<=σ.cells.length) (hmv:mv<=σ.vars.length)
  (ho:σ.own.length=σ.cells.length) (hf:σ.flags.length=σ.vars.length) (htr:∀x∈σ.trail,TrOk σ x) :
  EvF Tryz.prog okT 30 [.pointer (some ⟨s,0,none⟩),.int .i64 (n:Nat)] H fun r H'=>r=.int .i64 0/\St H' B s (undoS σ n mt mc mv)/\SX s H H':=by
 have hs0:=hs.lt hw;obtain⟨V0,hh⟩:∃V0,StR H B s 76 (flds σ) V0:=hs;have hM:∀{G:Heap}{F:List Fld},StR G B s 76 F V0->∀x,H.next<=x->¬Mut G s x:=fun hG x hx q=>by
  have:Mut H s x:=by
   rcases q with q|⟨V,T,hg,q⟩
   ·exact .inl q
   ·rw[hG.obj] at hg;cases hg;exact .inr ⟨V0,_,hh.obj,q⟩
  have:=hh.mhi hw this;omega
 have hln:=hh.len;have hV:∀i,i < 10->∃v,V0[i]?=some v:=fun i hi=>⟨V0[i]'(by rw[<-hln];exact hi),Zc _⟩
 obtain⟨v0,hV0⟩:=hV 0 (by omega);obtain⟨a0,c0,rfl,-⟩:=hh.sl (i:=0) rfl hV0;obtain⟨v2,hV2⟩:=hV 2 (by omega);obtain⟨a2,c2,rfl,-⟩:=hh.sl (i:=2) rfl hV2;obtain⟨v3,hV3⟩:=hV 3 (by omega);obtain⟨a3,c3,rfl,-⟩:=hh.sl (i:=3) rfl hV3;obtain⟨v8,hV8⟩:=hV 8 (by omega);obtain⟨a8,c8,rfl,-⟩:=hh.sl (i:=8) rfl hV8;obtain⟨v9,hV9⟩:=hV 9 (by omega);obtain⟨a9,c9,rfl,-⟩:=hh.sl (i:=9) rfl hV9;simp only[Zp] at hV0 hV2 hV3 hV8 hV9;refine EvF.enter rfl Tryz.func30 (by decide) rfl ?_;(repeat refine qZa ?_);refine qZb ?_;simp (config:=qZc) (disch:=first|omega|rfl) only[sB,initTm,dBox,Value.cells,one,reduceCtorEq];obtain⟨H1,e1,hx1,g1,n1,w1⟩:=new1 hw (.row [.pointer (some ⟨s,0,none⟩)] 24);simp only[e1];have q1:=z3u g1;have h:=hh.keep hw hx1
 repeat' (first|refine qZa ?_|(refine qZb ?_;simp (config:=qZc) only[sB,Za,reduceCtorEq,ld24,cl74,q1]))
 refine(za4 ⟨V0,h⟩).mono ?_;rintro r H' ⟨rfl,rfl⟩;simp only[if_pos (show 0<=(n:Int)/\(n:Int) < σ.marks.length by omega)];have l9:=h.load hV9;obtain⟨b9',rfl,o9,ld9⟩:=h.el (i:=9) (k:=n) (x:=three ((mt:Int),(mc:Int),(mv:Int))) rfl hV9 (by rw[Zj,Zc hn,hmk];rfl);obtain⟨H2,e2,hx2,g2,n2,w2⟩:=z0o w1 (.row [.int .i64 0,.int .i64 0,.int .i64 0] 83) (.row (three ((mt:Int),(mc:Int),(mv:Int))) 83);have h2:=h.keep w1 hx2;obtain⟨H3,e3,hx3,w3⟩:=z3g w2 8;have h3:=h2.keep w2 hx3;have g3:=hx3.get w2 (hx2.get w1 g1);have g3':=hx3.get w2 g2;have q3:=z3u g3;have q3':=zd8 g3';have l8':=h3.load hV8;obtain⟨a',c',esl,hmax,hat⟩:=h3.from (P:=Tryz.prog) (m:=mt) (G:=H3) (i:=8) rfl hV8 sl73 (by simpa using hmt) (fun _ _=>rfl);rw[Zp] at esl hmax
 repeat' (first|refine qZa ?_|(refine qZe ?_;try simp only[z00])|(refine qZb ?_;simp (config:=qZc) (disch:=first|omega|rfl) only[sB,dAlloc,Za,Zb,one,reduceCtorEq,ld24,z75,ld74,ia74,ld83,zr83,st83,z07,z0a,q1,l9,ld9,e2,z13 rfl])|(refine qZj (id:=5) [([(0,0),(1,0),(2,0),(3,0),(4,0),(5,0),(6,0)],some 7),([],none)] ?_ ?_;kernel_rfl;simp (config:=qZc) only[sD,sB,Za,Zb,reduceCtorEq,ld24,zct,ld73,zps,ld3,cl75,z07,z0a,e3,q3,q3',l8',esl,isAlloc,isRead])|(refine qZm ?_ ?_;simp (config:=qZc) only[sB,Za,reduceCtorEq];refine z01 ?_))
 refine(zoe w3).mono ?_;rintro r H4 ⟨rfl,g4,n4,hx4⟩
 repeat' (first|refine qZg ?_|(refine z0p ?_;simp (config:=qZc) (disch:=first|omega|rfl) only[sD,zay]))
 refine EvC.rangeG rfl (by simp only[sB,Za,reduceCtorEq];rfl) (by kernel_rfl) ?_;intro R hR;obtain⟨H5,e5,hx5,gd,gR,hn5,hw5⟩:=new2 hx4.wf .dfr R;simp only[e5];have hl3:=hx3.next;have hl2:H2.next=H'.next+1:=n2;have hx45:=hx4.trans hx5;have h5:=h3.keep w3 hx45;have hx15:=((hx1.trans hx2).trans hx3).trans hx45;have hld:(σ.trail.drop mt).length=σ.trail.length - mt:=List.length_drop;refine(zdq (L:=σ.trail.drop mt) (a:=a') (c:=c') (p:=H3.next) (l:=H4.next+1) (I:=fun j G=>SX s H G/\StR G B s 76 (flds (undoL σ ((σ.trail.drop mt).drop j))) V0/\G.get H.next=some (.row [.pointer (some ⟨s,0,none⟩)] 24) /\
   G.get H'.next=some (.row (three ((mt:Int),(mc:Int),(mv:Int))) 83)/\G.get H3.next=some (.row [.slice a' (σ.trail.length - mt) c'] 73)/\G.get H4.next=some .dfr/\G.get (H4.next+1)=some R) (by rw[hld];exact hmax) ?_ ?_ ?_ ?_).mono ?_
 ·rintro j G ⟨-,-,-,-,gs,-,-⟩;rw[hld];exact gs
 ·rintro j G ⟨-,hG,-⟩ k hk;have hk':mt+k < σ.trail.length:=by omega
  have hse:=z2f σ ((σ.trail.drop mt).drop j);obtain⟨b,rfl,rfl⟩:=hat k (two σ.trail[mt+k]) (by rw[Zj,Zc hk'];rfl);obtain⟨b',eb,-,ld⟩:=hG.el (i:=8) (k:=mt+k) (x:=two σ.trail[mt+k]) rfl hV8 (by rw[hse.2.2.2.2.1,Zj,Zc hk'];rfl);cases eb;refine⟨b,mt*2,rfl,?_⟩;have e:mt*2+k*2=(mt+k)*2:=by omega
  rw[e,List.getElem_drop];exact ld
 ·rintro i G hlt ⟨hxG,hG,gbG,gmG,gsG,gdG,gRG⟩;have hxm:(σ.trail.drop mt)[i]∈σ.trail:=List.mem_of_mem_drop (ZD hlt);have hdrop:(σ.trail.drop mt).drop i=(σ.trail.drop mt)[i] :: (σ.trail.drop mt).drop (i+1):=ZB hlt;rw[hdrop];generalize (σ.trail.drop mt)[i]=x at *;generalize (σ.trail.drop mt).drop (i+1)=L2 at *;have hse:=z2f σ L2;show EvR _ _ _ _ _ fun v H'_1=>v=Value.bool true/\SX s H H'_1/\StR H'_1 B s 76 (flds (undo1 x (undoL σ L2))) V0/\_
  generalize undoL σ L2=τ at *;obtain⟨hk01,nv,kv,ex,hnv,ekv,hkv⟩:=htr x hxm;have wG:=hxG.wf;have hlR:=wG _ _ gRG;refine EvR.go (gRG.trans (congrArg some hR)) rfl ?_;refine qZb ?_;simp (config:=qZc) (disch:=first|omega|rfl) only[sB,dAlloc,Za,Zb,one,reduceCtorEq,zu9,zua,List.zip_cons_cons,List.zip_nil_right,ZP,List.foldl_nil];refine⟨by rw[if_neg (by omega),if_neg (by omega)];exact gRG.trans (congrArg some hR),?_⟩;obtain⟨G1,eG1,hxG1,gG1,nG1,wG1⟩:=z0o wG (.row [.int .i64 0,.int .i64 0] 121) (.row (two x) 121);simp only[eG1];have hG1:=hG.keep wG hxG1;have hl1:=hxG1.next;generalize hG2:Heap.put G1 (H4.next+1) _=G2;have n43:H3.next+1<=H4.next:=by omega
  have hb5:=hx15.next;have nmR:=hM hG1 (H4.next+1) (by have:=hx1.next;omega);have hG2':StR G2 B s 76 (flds τ) V0:=by rw[<-hG2];exact hG1.box wG1 (by omega) nmR _
  have xG1:=hxG.trans (hxG1.sx (hG.lt wG));have xG2:SX s H G2:=by rw[<-hG2];exact xG1.box (by have:=hx1.next;omega) (by omega) nmR _
  have wG2:=xG2.wf;have nG2:G2.next=G.next+1:=by rw[<-hG2,z14];exact nG1
  have keepG:∀n,n < G.next->n≠H4.next+1->G2.get n=G.get n:=fun n hn hne=>by rw[<-hG2,get_put,if_neg hne];exact hxG1.keep n hn
  have gT2:G2.get G.next=some (.row (two x) 121):=by rw[<-hG2,get_put,if_neg (by omega)];exact gG1
  have gb2:G2.get H.next=some (.row [.pointer (some ⟨s,0,none⟩)] 24):=(keepG _ (wG _ _ gbG) (by omega)).trans gbG;have q12:=z0l gT2;have fin:∀{G3:Heap}{ρ:SS},SX s G2 G3->StR G3 B s 76 (flds ρ) V0->SX s H (G3.put (H4.next+1) (some R))/\StR (G3.put (H4.next+1) (some R)) B s 76 (flds ρ) V0/\(G3.put (H4.next+1) (some R)).get H.next=some (.row [.pointer (some ⟨s,0,none⟩)] 24) /\
    (G3.put (H4.next+1) (some R)).get H'.next=some (.row (three ((mt:Int),(mc:Int),(mv:Int))) 83)/\(G3.put (H4.next+1) (some R)).get H3.next=some (.row [.slice a' (σ.trail.length - mt) c'] 73)/\(G3.put (H4.next+1) (some R)).get H4.next=some .dfr/\(G3.put (H4.next+1) (some R)).get (H4.next+1)=some R:=fun {G3}{ρ} x3 h3'=>by
   have nm3:=hM h3' (H4.next+1) (by have:=hx1.next;omega);have hl3':=x3.next;have kp:∀n D,H.next<=n->n≠H4.next+1->G.get n=some D->(G3.put (H4.next+1) (some R)).get n=some D:=fun n D h1 h2 hg=>by
    rw[get_put,if_neg h2];exact x3.own wG2 (hM hG2' n h1) ((keepG _ (wG _ _ hg) h2).trans hg)
   have hn1:=hx1.next;exact⟨(xG2.trans x3).box (by omega) (by omega) nm3 _,h3'.box x3.wf (by omega) nm3 _,kp _ _ (by omega) (by omega) gbG,kp _ _ (by omega) (by omega) gmG,kp _ _ (by omega) (by omega) gsG,kp _ _ (by omega) (by omega) gdG,by rw[get_put,if_pos rfl]⟩
  by_cases k0:x.1=0
  ·obtain⟨G3,e3',hx3',w3'⟩:=z3g wG2 17;have hG3:=hG2'.keep wG2 hx3';have qb:=z3u (hx3'.get wG2 gb2);have qx:=z0l (hx3'.get wG2 gT2);rw[ex] at qx;have l0:=hG3.load hV0;have l2:=hG3.load hV2;have hnt:nv < τ.vars.length:=by rw[hse.1];exact hnv
   obtain⟨b2,rfl,-,ld2⟩:=hG3.el1 (i:=2) (k:=nv) (x:=int1 (gi τ.vars nv)) rfl hV2 (by rw[Zj,za2 hnt];rfl);rw[hse.1,ekv] at ld2;have hkt:kv < τ.cells.length:=by rw[hse.2.2.2.2.2.2.1];exact hkv
   obtain⟨b3,cs,rfl,o3,gb3,hle⟩:=hG3.row (i:=0) (k:=kv) rfl hV0 (by simpa using hkt);obtain⟨G4,e4',s4,x4⟩:=hG3.write (i:=0) (k:=kv) (y:=two (1,(nv:Int))) w3' rfl hV0 (by simpa using hkt) gb3 rfl rfl;have hle':kv*2+2<=cs.length:=by rw[Zp] at hle;omega
   repeat' (first|refine qZa ?_|refine qZg ?_|(refine qZb ?_;simp (config:=qZc) only[sB,Za,reduceCtorEq,ld3,zkp,q12,z0v k0])|(refine qZj (id:=9) [([(0,0),(1,0),(2,0),(3,0),(4,0),(5,0),(6,0),(7,0),(8,0),(9,0),(10,0),(11,0),(12,0),(13,0),(14,0),(15,0)],some 16),([],none)] ?_ ?_;kernel_rfl;simp (config:=qZc) (disch:=first|omega|rfl) only[sD,sB,Za,Zb,Value.cells,one,reduceCtorEq,Zr,layC,ld24,ld3,z1n,ld27,z3r,ld28,zkq,ia28,bd42,ia27,st42,z07,z0a,e3',qb,qx,l0,l2,ld2,gb3,hle',e4',isAlloc,isRead])|(refine qZd ?_ ?_;simp (config:=qZc) only[sB,Za,reduceCtorEq];refine z01 ?_))
   have ef:flds (undo1 x τ)=(flds τ).set 0 (.sl 42 2 ((τ.cells.map two).set kv (two (1,(nv:Int))))):=by
    have ev:gi τ.vars (nv:Int)=(kv:Int):=by rw[hse.1];exact ekv
    rw[undo1,if_pos k0,ex,ev,Zv];simp [flds,List.map_set]
   have f:=fin (ρ:=undo1 x τ) ((hx3'.sx (hG2'.lt wG2)).trans x4) (by rw[ef];exact s4);have f3:=f.2.2.1;have f4:=f.2.2.2.1;have f5:=f.2.2.2.2.1;have f6:=f.2.2.2.2.2.1;rw[get_put] at f3 f4 f5 f6;subst hR;refine⟨?_,f.1,f.2.1,f3,f4,f5,f6,by first|rfl|exact f.2.2.2.2.2.2|(rw[if_pos rfl];rfl)|simp⟩;rw[x4.get (by have:=hx3'.next;omega) (hM hG3 _ (by have:=hx1.next;omega)),hx3'.keep _ (by omega),<-hG2,get_put,if_pos rfl]
  ·have k1:x.1=1:=by omega
   obtain⟨G3,e3',hx3',w3'⟩:=z3g wG2 8;have hG3:=hG2'.keep wG2 hx3';have qb:=z3u (hx3'.get wG2 gb2);have qx:=z0l (hx3'.get wG2 gT2);rw[ex] at qx;have hlf:τ.flags.length=σ.flags.length:=hse.2.2.2.2.2.2.2;have hV3':V0[3]?=some (.slice a3 τ.flags.length c3):=by rw[hlf];exact hV3
   have l3:=hG3.load hV3';have hnt:nv < τ.flags.length:=by rw[hlf,hf];exact hnv
   obtain⟨b3,cs,rfl,o3,gb3,hle⟩:=hG3.row (i:=3) (k:=nv) rfl hV3' (by simpa using hnt);obtain⟨G4,e4',s4,x4⟩:=hG3.write (i:=3) (k:=nv) (y:=flg1 false) w3' rfl hV3' (by simpa using hnt) gb3 rfl rfl;have hle':nv+1<=cs.length:=by rw[Zp] at hle;omega
   rw[Nat.mul_one] at e4'
   repeat' (first|refine qZa ?_|refine qZg ?_|(refine qZb ?_;simp (config:=qZc) only[sB,Za,reduceCtorEq,ld3,zkp,q12,z0h k0,z0v k1])|(refine qZj (id:=11) [([(0,0),(1,0),(2,0),(3,0),(4,0),(5,0),(6,0)],some 7),([],none)] ?_ ?_;kernel_rfl;simp (config:=qZc) (disch:=first|omega|rfl) only[sD,sB,Za,Zb,one,reduceCtorEq,ld24,ld3,zkq,zcu,ld29,ia29,st4,z07,z0a,e3',qb,qx,l3,gb3,hle',e4',isAlloc,isRead])|(refine qZd ?_ ?_;simp (config:=qZc) only[sB,Za,reduceCtorEq];refine z01 ?_)|(refine qZm ?_ ?_;simp (config:=qZc) only[sB,Za,reduceCtorEq];refine z01 ?_))
   have ef:flds (undo1 x τ)=(flds τ).set 3 (.sl 4 1 ((τ.flags.map flg1).set nv (flg1 false))):=by
    rw[undo1,if_neg k0,ex,Zv];simp [flds,List.map_set]
   have f:=fin (ρ:=undo1 x τ) ((hx3'.sx (hG2'.lt wG2)).trans x4) (by rw[ef];exact s4);have f3:=f.2.2.1;have f4:=f.2.2.2.1;have f5:=f.2.2.2.2.1;have f6:=f.2.2.2.2.2.1;rw[get_put] at f3 f4 f5 f6;subst hR;refine⟨?_,f.1,f.2.1,f3,f4,f5,f6,by first|rfl|exact f.2.2.2.2.2.2|(rw[if_pos rfl];rfl)|simp⟩;rw[x4.get (by have:=hx3'.next;omega) (hM hG3 _ (by have:=hx1.next;omega)),hx3'.keep _ (by omega),<-hG2,get_put,if_pos rfl]
 ·rw[List.drop_length];exact⟨hx15.sx hs0,h5,hx45.get w3 g3,hx45.get w3 g3',hx5.get hx4.wf g4,gd,gR⟩
 ·rintro r G ⟨hxG,hG,gbG,gmG,gsG,gdG,gRG⟩;refine⟨gRG,fun D=>?_⟩;rw[List.drop_zero] at hG;have hse:=z2f σ (σ.trail.drop mt);have hn1:=hx1.next;have hb5:=hx15.next;have wG:=hxG.wf;have hlR:=wG _ _ gRG;have nmR:=hM hG (H4.next+1) (by omega);obtain⟨A0,e0⟩:∃A0,G.put (H4.next+1) D=A0:=⟨_,rfl⟩
  have xA0:SX s H A0:=by rw[<-e0];exact hxG.box (by omega) hlR nmR D
  have wA0:=xA0.wf;have hA0:StR A0 B s 76 (flds (undoL σ (σ.trail.drop mt))) V0:=by rw[<-e0];exact hG.box wG hlR nmR D
  have gb0:A0.get H.next=some (.row [.pointer (some ⟨s,0,none⟩)] 24):=by rw[<-e0,get_put,if_neg (by omega)];exact gbG
  have gm0:A0.get H'.next=some (.row (three ((mt:Int),(mc:Int),(mv:Int))) 83):=by rw[<-e0,get_put,if_neg (by omega)];exact gmG
  have gd0:A0.get H4.next=some .dfr:=by rw[<-e0,get_put,if_neg (by omega)];exact gdG
  have nb0:=hM hA0 H.next (Ze _);have nm0:=hM hA0 H'.next (by omega);have nd0:=hM hA0 H4.next (by omega);simp only[e0];have hs0A:St A0 B s (undoL σ (σ.trail.drop mt)):=⟨V0,hA0⟩
  clear hG hA0 e0 gRG gsG gmG gbG hxG nmR hlR wG;generalize hσ':undoL σ (σ.trail.drop mt)=σ' at *;obtain⟨A1,e1',hx1',w1'⟩:=z3g wA0 11;have hs1':=hs0A.keep wA0 hx1';obtain⟨a0y,c0y,a1y,c1y,a2y,c2y,a3y,c3y,a4y,c4y,a5y,c5y,r6y,r7y,a8y,c8y,a9y,c9y,hy,l0y,l1y,l2y,l3y,l4y,l5y,l6y,l7y,l8y,l9y,b0y,b1y,b2y,b3y,b4y,b5y,b8y,b9y⟩:=hs1'.open;have qb1:=z3u (hx1'.get wA0 gb0);have qm1:=zd8 (hx1'.get wA0 gm0);have go1:=hy.obj;have et1:mt<=σ'.trail.length:=by rw[hse.2.2.2.2.1];exact hmt
  have es1:=z55 (P:=Tryz.prog) (H:=A1) (t:=73) (e:=121) (s:=2) (a:=a8y) (n:=σ'.trail.length) (c:=c8y) (m:=mt) (k:=.i64) sl73 (by have:=b8y.1;omega);obtain⟨A2,e2',s2,x2⟩:=hy.cut (i:=8) (m:=mt) w1' rfl rfl (by simpa using et1);simp only[List.set_cons_zero,List.set_cons_succ] at e2';have hs2':St A2 B s { σ' with trail:=σ'.trail.take mt }:=⟨_,by simpa [flds] using s2⟩
  clear s2;have lts:=hy.lt w1';have w2':=x2.wf;have hlA1:=hx1'.next;have gb2':=x2.own w1' (fun q=>nb0 (HX.mut hx1' (hs0A.lt wA0) q)) (hx1'.get wA0 gb0);have gm2':=x2.own w1' (fun q=>nm0 (HX.mut hx1' (hs0A.lt wA0) q)) (hx1'.get wA0 gm0);have gd2':=x2.own w1' (fun q=>nd0 (HX.mut hx1' (hs0A.lt wA0) q)) (hx1'.get wA0 gd0);have nb2:=x2.nm (w1' _ _ (hx1'.get wA0 gb0)) (fun q=>nb0 (HX.mut hx1' (hs0A.lt wA0) q));have nm2:=x2.nm (w1' _ _ (hx1'.get wA0 gm0)) (fun q=>nm0 (HX.mut hx1' (hs0A.lt wA0) q));have nd2:=x2.nm (w1' _ _ (hx1'.get wA0 gd0)) (fun q=>nd0 (HX.mut hx1' (hs0A.lt wA0) q));obtain⟨A3,e3',hx3',w3'⟩:=z3g w2' 22;have hs3':=hs2'.keep w2' hx3';obtain⟨a0z,c0z,a1z,c1z,a2z,c2z,a3z,c3z,a4z,c4z,a5z,c5z,r6z,r7z,a8z,c8z,a9z,c9z,hz,l0z,l1z,l2z,l3z,l4z,l5z,l6z,l7z,l8z,l9z,b0z,b1z,b2z,b3z,b4z,b5z,b8z,b9z⟩:=hs3'.open;have ec3:mc<=σ'.cells.length:=by rw[hse.2.2.2.2.2.2.1];exact hmc
  have eo3:mc<=σ'.own.length:=by rw[hse.2.1,ho];exact hmc
  have qb3:=z3u (hx3'.get w2' gb2');have qm3:=zd8 (hx3'.get w2' gm2');have go3:=hz.obj;have es3:=z55 (P:=Tryz.prog) (H:=A3) (t:=27) (e:=42) (s:=2) (a:=a0z) (n:=σ'.cells.length) (c:=c0z) (m:=mc) (k:=.i64) sl27 (by have:=b0z.1;simp only at this;omega);have es3':=fun G=>z55 (P:=Tryz.prog) (H:=G) (t:=28) (e:=3) (s:=1) (a:=a1z) (n:=σ'.own.length) (c:=c1z) (m:=mc) (k:=.i64) sl28 (by have:=b1z.1;simp only at this;omega)
  obtain⟨A4,e4',s4,x4⟩:=hz.cut (i:=0) (m:=mc) w3' rfl rfl (by simpa using ec3);have w4':=x4.wf;have go4:=s4.obj;obtain⟨A5,e5',s5,x5⟩:=s4.cut (i:=1) (m:=mc) w4' rfl rfl (by simpa using eo3);simp only[List.set_cons_zero,List.set_cons_succ] at e4' e5' go4;have hs5':St A5 B s { σ' with trail:=σ'.trail.take mt,cells:=σ'.cells.take mc,own:=σ'.own.take mc }:=⟨_,by simpa [flds] using s5⟩
  clear s5 s4;have nbx:∀{A C:Heap}{x:Nat}{E:Blk},HX A C->s < A.next->¬Mut A s x->A.get x=some E->A.wf->¬Mut C s x/\C.get x=some E:=fun hx hl hm hg hwA=>⟨fun q=>hm (HX.mut hx hl q),hx.get hwA hg⟩
  have sbx:∀{A C:Heap}{x:Nat}{E:Blk},SX s A C->¬Mut A s x->A.get x=some E->A.wf->¬Mut C s x/\C.get x=some E:=fun hx hm hg hwA=>⟨hx.nm (hwA _ _ hg) hm,hx.own hwA hm hg⟩
  obtain⟨nb3,gb3⟩:=nbx hx3' (hs2'.lt w2') nb2 gb2' w2';obtain⟨nm3,gm3⟩:=nbx hx3' (hs2'.lt w2') nm2 gm2' w2';obtain⟨nd3,gd3⟩:=nbx hx3' (hs2'.lt w2') nd2 gd2' w2';obtain⟨nb4,gb4⟩:=sbx x4 nb3 gb3 w3';obtain⟨nm4,gm4⟩:=sbx x4 nm3 gm3 w3';obtain⟨nd4,gd4⟩:=sbx x4 nd3 gd3 w3';have qb4:=z3u gb4;have qm4:=zd8 gm4
  repeat' (first|refine qZa ?_|(refine qZj (id:=14) [([(0,0),(1,0),(2,0),(3,0),(4,0),(5,0),(6,0),(7,0),(8,0),(9,0)],some 10),([],none)] ?_ ?_;kernel_rfl;simp (config:=qZc) (disch:=first|omega|rfl) only[sD,sB,Za,Zb,one,reduceCtorEq,Zr,ld24,zct,ld73,zps,ld3,st73,z07,z0a,e1',qb1,qm1,l8y,es1,go1,e2',isAlloc,isRead])|(refine qZj (id:=15) [([(0,0),(2,0),(3,0),(4,0),(5,0),(6,0),(7,0),(8,0),(9,0),(10,0),(11,0),(12,0),(16,0),(17,0)],some 18),([(1,0),(13,0),(14,0),(15,0),(19,1),(20,1)],some 21),([],none)] ?_ ?_;kernel_rfl;simp (config:=qZc) (disch:=first|omega|rfl) only[sV,sD,sB,Za,Zb,one,reduceCtorEq,Zr,ld24,ld3,z1n,ld27,ld28,zsz,z77,st27,st28,z07,z0a,e3',qb3,qm3,l0z,l1z,es3,es3',go3,e4',go4,e5',qb4,qm4,isAlloc,isRead])|(refine qZj (id:=16) [([(0,0),(2,0),(3,0),(4,0),(5,0),(6,0),(7,0),(8,0),(9,0),(10,0),(11,0),(12,0),(16,0),(17,0)],some 18),([(1,0),(13,0),(14,0),(15,0),(19,1),(20,1)],some 21),([],none)] ?_ ?_;kernel_rfl;simp (config:=qZc) only[sD,sB,Za,Zb,reduceCtorEq,ld24,isAlloc]))
  clear es3 es3' es1 go1 go3 go4 qb1 qm1 qb3 qm3 qb4 qm4 e1' e2' e3' e4' e5' hy hz;have w5':=x5.wf;obtain⟨nb5,gb5⟩:=sbx x5 nb4 gb4 w4';obtain⟨nm5,gm5⟩:=sbx x5 nm4 gm4 w4';obtain⟨nd5,gd5⟩:=sbx x5 nd4 gd4 w4';obtain⟨A6,e6',hx6',w6'⟩:=z3g w5' 22;have hs6':=hs5'.keep w5' hx6';obtain⟨a0u,c0u,a1u,c1u,a2u,c2u,a3u,c3u,a4u,c4u,a5u,c5u,r6u,r7u,a8u,c8u,a9u,c9u,hu,l0u,l1u,l2u,l3u,l4u,l5u,l6u,l7u,l8u,l9u,b0u,b1u,b2u,b3u,b4u,b5u,b8u,b9u⟩:=hs6'.open;have ev3:mv<=σ'.vars.length:=by rw[hse.1];exact hmv
  have ef3:mv<=σ'.flags.length:=by rw[hse.2.2.2.2.2.2.2,hf];exact hmv
  obtain⟨nb6,gb6⟩:=nbx hx6' (hs5'.lt w5') nb5 gb5 w5';obtain⟨nm6,gm6⟩:=nbx hx6' (hs5'.lt w5') nm5 gm5 w5';obtain⟨nd6,gd6⟩:=nbx hx6' (hs5'.lt w5') nd5 gd5 w5';have qb6:=z3u gb6;have qm6:=zd8 gm6;have go6:=hu.obj;have es6:=z55 (P:=Tryz.prog) (H:=A6) (t:=28) (e:=3) (s:=1) (a:=a2u) (n:=σ'.vars.length) (c:=c2u) (m:=mv) (k:=.i64) sl28 (by have:=b2u.1;simp only at this;omega);have es6':=fun G=>z55 (P:=Tryz.prog) (H:=G) (t:=29) (e:=4) (s:=1) (a:=a3u) (n:=σ'.flags.length) (c:=c3u) (m:=mv) (k:=.i64) sl29 (by have:=b3u.1;simp only at this;omega)
  obtain⟨A7,e7',s7,x7⟩:=hu.cut (i:=2) (m:=mv) w6' rfl rfl (by simpa using ev3);have w7':=x7.wf;have go7:=s7.obj;obtain⟨A8,e8',s8,x8⟩:=s7.cut (i:=3) (m:=mv) w7' rfl rfl (by simpa using ef3);simp only[List.set_cons_zero,List.set_cons_succ] at e7' e8' go7;have hs8':St A8 B s { σ' with trail:=σ'.trail.take mt,cells:=σ'.cells.take mc,own:=σ'.own.take mc,vars:=σ'.vars.take mv,flags:=σ'.flags.take mv }:=⟨_,by simpa [flds] using s8⟩
  clear s8 s7;obtain⟨nb7,gb7⟩:=sbx x7 nb6 gb6 w6';obtain⟨nm7,gm7⟩:=sbx x7 nm6 gm6 w6';obtain⟨nd7,gd7⟩:=sbx x7 nd6 gd6 w6';have qb7:=z3u gb7;have qm7:=zd8 gm7;have l2v:=l2u;have l3v:=l3u;rw[<-e6',z4j] at l2v l3v;have qb5:=z3u gb5;have qm5:=zd8 gm5
  repeat' (first|refine qZa ?_|(refine qZj (id:=17) [([(0,0),(1,0),(2,0),(3,0),(4,0),(5,0),(6,0),(7,0),(8,0),(9,0)],some 10),([],none)] ?_ ?_;kernel_rfl;simp (config:=qZc) only[sD,sB,Za,Zb,reduceCtorEq,ld24,isAlloc])|(refine zpm ?_;simp (config:=qZc) (disch:=first|omega|rfl) only[sV,sD,sB,Za,Zb,one,reduceCtorEq,Zr,ld24,ld3,z3r,ld28,zcu,ld29,st28,zt0,st29,z07,z0a,e6',qb5,qb6,qm6,l2u,l3u,es6,es6',go6,e7',go7,e8',qb7,qm7,isAlloc,isRead]))
  clear es6 es6' go6 go7 qb6 qm6 qb7 qm7 e6' e7' e8' hu;have w8':=x8.wf;obtain⟨nb8,gb8⟩:=sbx x8 nb7 gb7 w7';obtain⟨nm8,gm8⟩:=sbx x8 nm7 gm7 w7';obtain⟨nd8,gd8⟩:=sbx x8 nd7 gd7 w7';obtain⟨A9,e9',hx9',w9'⟩:=z3g w8' 11;have hs9':=hs8'.keep w8' hx9';obtain⟨a0w,c0w,a1w,c1w,a2w,c2w,a3w,c3w,a4w,c4w,a5w,c5w,r6w,r7w,a8w,c8w,a9w,c9w,hw,l0w,l1w,l2w,l3w,l4w,l5w,l6w,l7w,l8w,l9w,b0w,b1w,b2w,b3w,b4w,b5w,b8w,b9w⟩:=hs9'.open;obtain⟨nb9,gb9⟩:=nbx hx9' (hs8'.lt w8') nb8 gb8 w8';obtain⟨nd9,gd9⟩:=nbx hx9' (hs8'.lt w8') nd8 gd8 w8';have qb9:=z3u gb9;have go9:=hw.obj;have em9:n+1<=σ'.marks.length:=by rw[hse.2.2.2.2.2.1];exact hn
  have hmx:=b9w.2;have hmx1:=b9w.1;simp only at hmx1;have hmm:maxLen=9223372036854775807:=by simp [maxLen]
  have ewn:IntKind.i64.wrap ((n:Int)+1)=((n+1:Nat):Int):=by rw[z05]<;>omega
  have es9:=z55 (P:=Tryz.prog) (H:=A9) (t:=74) (e:=83) (s:=3) (a:=a9w) (n:=σ'.marks.length) (c:=c9w) (m:=n+1) (k:=.i64) sl74 (by omega);obtain⟨A10,e10',s10,x10⟩:=hw.cut (i:=9) (m:=n+1) w9' rfl rfl (by simpa using em9);simp only[List.set_cons_zero,List.set_cons_succ] at e10';have hs10':St A10 B s { σ' with trail:=σ'.trail.take mt,cells:=σ'.cells.take mc,own:=σ'.own.take mc,vars:=σ'.vars.take mv,flags:=σ'.flags.take mv,marks:=σ'.marks.take (n+1) }:=⟨_,by simpa [flds] using s10⟩
  clear s10;obtain⟨nd10,gd10⟩:=sbx x10 nd9 gd9 w9';have l9v:=l9w;rw[<-e9',z4j] at l9v;have qb8:=z3u gb8
  repeat' (first|refine qZa ?_|(refine qZf ?_)|(refine qZb ?_;simp (config:=qZc) only[sA])|(refine zpm ?_;simp (config:=qZc) (disch:=first|omega|rfl) only[sD,sB,Za,Zb,one,reduceCtorEq,ld24,z75,ld74,st74,z07,z0a,e9',qb8,qb9,l9w,ewn,es9,go9,e10',isAlloc,isRead]))
  refine zj3 gd10 ?_;refine z03 rfl (by simp only[sG,Za,reduceCtorEq]) ⟨rfl,?_,?_⟩
  ·have e:undoS σ n mt mc mv={ σ' with trail:=σ'.trail.take mt,cells:=σ'.cells.take mc,own:=σ'.own.take mc,vars:=σ'.vars.take mv,flags:=σ'.flags.take mv,marks:=σ'.marks.take (n+1) }:=by
    simp only[undoS,hσ',hse.1,hse.2.1,hse.2.2.2.2.1,hse.2.2.2.2.2.1]
   rw[e];exact(hs10'.box x10.wf (x10.wf _ _ gd10) nd10 _).1
  ·have xx:=xA0.trans (((hx1'.sx (hs0A.lt wA0)).trans x2).trans (((hx3'.sx (hs2'.lt w2')).trans (x4.trans x5)).trans (((hx6'.sx (hs5'.lt w5')).trans (x7.trans x8)).trans ((hx9'.sx (hs8'.lt w8')).trans x10))));exact xx.box (by omega) (x10.wf _ _ gd10) nd10 _
end Go.Proofs.hq
end

section
namespace Go.Proofs.hq
open Go Go.RowKit Go.Hb
structure Grow (σ τ:SS):Prop where
 cells:σ.cells <+: τ.cells
 own:σ.own <+: τ.own
 vars:σ.vars <+: τ.vars
 flags:σ.flags <+: τ.flags
 consts:σ.consts <+: τ.consts
 funs:σ.funs <+: τ.funs
theorem Grow.refl (σ:SS):Grow σ σ:=⟨Zz _,Zz _,Zz _,Zz _,Zz _,Zz _⟩
theorem Grow.trans {a b c:SS}(h:Grow a b) (k:Grow b c):Grow a c:=⟨h.cells.trans k.cells,h.own.trans k.own,h.vars.trans k.vars,h.flags.trans k.flags,h.consts.trans k.consts,h.funs.trans k.funs⟩
theorem z2o {l m:List Int}(h:l <+: m) {n:Nat}(hn:n < l.length):gi m n=gi l n:=by
 obtain⟨t,rfl⟩:=h;unfold gi;rw[Zv,ZI hn]
theorem z6c {l m:List (Int × Int)}(h:l <+: m) {n:Nat}(hn:n < l.length):ci m n=ci l n:=by
 obtain⟨t,rfl⟩:=h;unfold ci;rw[Zv,ZI hn]
theorem z57 {l:List (Int × Int)}{k n:Nat}{c:Int × Int}(hk:k < l.length):ci (l.set k c) n=if n=k then c else ci l n:=by
 unfold ci;rw[Zv,List.getElem?_set];by_cases h:k=n
 ·subst h;rw[if_pos rfl,if_pos hk,if_pos rfl];rfl
 ·rw[if_neg h,if_neg (fun e=>h e.symm)]
theorem z2m {σ:SS}{c:Int × Int}:mayS σ c=true↔(c.1=3/\0<=c.2/\c.2 < σ.consts.length)\/(c.1=2/\0<=c.2/\c.2 < σ.cells.length/\0<=gi σ.own c.2)\/(c.1=4/\0<=c.2/\c.2 < σ.cells.length/\gi σ.own c.2 < 0/\gi σ.own c.2≠-2):=by
 unfold mayS;split
 ·rename_i h;rw[decide_eq_true_iff];constructor
  ·intro q;exact .inl ⟨h,q⟩
  ·rintro (q|q|q)
   ·exact q.2
   ·omega
   ·omega
 ·rename_i h;split
  ·rename_i h24;rw[decide_eq_true_iff];constructor
   ·rintro ⟨⟨q1,q2⟩,q3,q4⟩;rcases h24 with h2|h4
    ·exact .inr (.inl ⟨h2,q1,q2,q3.1 h2⟩)
    ·exact .inr (.inr ⟨h4,q1,q2,by by_cases q:0<=gi σ.own c.2;exact absurd (q3.2 q) (by omega);omega,q4⟩)
   ·rintro (q|q|q)
    ·omega
    ·exact⟨⟨q.2.1,q.2.2.1⟩,⟨fun _=>q.2.2.2,fun _=>q.1⟩,by have:=q.2.2.2;omega⟩
    ·exact⟨⟨q.2.1,q.2.2.1⟩,⟨fun h2=>by omega,fun h2=>by omega⟩,q.2.2.2.2⟩
  ·rename_i h24;constructor
   ·intro q;cases q
   ·rintro (q|q|q)<;>omega
inductive CellOk (U:Nat->Prop) (σ:SS) (a:Nat):Prop
 |var (v:Nat):gi σ.own a=v->v < σ.vars.length->gi σ.vars v=a->(ci σ.cells a=(1,(v:Int))\/((ci σ.cells a).1≠1/\mayS σ (ci σ.cells a)=true))->CellOk U σ a
 |fn (f:Nat):gi σ.own a=-1->ci σ.cells a=(5,(f:Int))->(hf:f < σ.funs.length)->0<=σ.funs[f].2->σ.funs[f].2<=1000->(∀i:Nat,(i:Int) < σ.funs[f].2->a+1+i < σ.cells.length/\gi σ.own ((a+1+i:Nat):Int)=-2)->CellOk U σ a
 |arg:gi σ.own a=-2->(mayS σ (ci σ.cells a)=true\/U a)->CellOk U σ a
structure WF (U:Nat->Prop) (σ:SS):Prop where
 lo:σ.own.length=σ.cells.length
 lf:σ.flags.length=σ.vars.length
 var:∀n:Nat,n < σ.vars.length->∃k:Nat,gi σ.vars n=k/\k < σ.cells.length/\gi σ.own k=n
 cell:∀a:Nat,a < σ.cells.length->CellOk U σ a
 der:∀c,mayS σ c=true->∃m d,Der σ.cells m c d
 con:∀t∈σ.consts,Bd t/\t.args=[]
 fn:∀k∈σ.funs,k.1.size<=maxLen
theorem z7j {σ τ:SS}(g:Grow σ τ) (lo:σ.own.length=σ.cells.length) {c:Int × Int}(h:mayS σ c=true):mayS τ c=true:=by
 rw[z2m] at h ⊢;have h1:=g.consts.length_le;have h2:=g.cells.length_le;rcases h with ⟨a,b,d⟩|⟨a,b,d,e⟩|⟨a,b,d,e,f⟩
 ·exact .inl ⟨a,b,by omega⟩
 ·obtain⟨n,en⟩:=Zk b;rw[en] at d e ⊢;rw[z2o g.own (by omega)];exact .inr (.inl ⟨a,by omega,by omega,e⟩)
 ·obtain⟨n,en⟩:=Zk b;rw[en] at d e f ⊢;rw[z2o g.own (by omega)];exact .inr (.inr ⟨a,by omega,by omega,e,f⟩)
theorem WF.next {U:Nat->Prop}{σ:SS}(h:WF U σ) {c:Int × Int}(hm:mayS σ c=true) (h2:c.1=2):∃n:Nat,c.2=n/\n < σ.cells.length/\0<=gi σ.own n/\((ci σ.cells n).1≠1->mayS σ (ci σ.cells n)=true):=by
 rw[z2m] at hm;rcases hm with q|⟨-,b,d,e⟩|q
 ·omega
 ·obtain⟨n,en⟩:=Zk b;rw[en] at d e;refine⟨n,en,by omega,e,fun h1=>?_⟩;cases h.cell n (by omega) with
  |var v _ _ _ q=>rcases q with q|q;rw[q] at h1;exact absurd rfl h1;exact q.2
  |fn f q=>omega
  |arg q=>omega
 ·omega
theorem WF.derc {U:Nat->Prop}{σ:SS}(h:WF U σ) {cells':List (Int × Int)}(hl:σ.cells.length<=cells'.length) (he:∀n:Nat,n < σ.cells.length->0<=gi σ.own n->ci cells' n=ci σ.cells n):∀{m:Nat}{c d:Int × Int},Der σ.cells m c d->mayS σ c=true->Der cells' m c d:=by
 intro m c d hd
 induction hd with
 |stop h1=>intro _;exact .stop h1
 |var h1 h2 h3 h4 =>
  intro hm;obtain⟨n,en,hn,ho,-⟩:=h.next hm h1;refine .var h1 h2 (by omega) ?_;rw[en] at h4 ⊢;rw[he n hn ho];exact h4
 |go h1 h2 h3 h4 _ ih =>
  intro hm;obtain⟨n,en,hn,ho,hnx⟩:=h.next hm h1;rw[en] at h4 ih;refine .go h1 h2 (by omega) ?_ ?_
  ·rw[en,he n hn ho];exact h4
  ·rw[en,he n hn ho];exact ih (hnx h4)
theorem WF.dmay {U:Nat->Prop}{σ:SS}(h:WF U σ):∀{m:Nat}{c d:Int × Int},Der σ.cells m c d->mayS σ c=true->mayS σ d=true/\(d.1=2->(ci σ.cells d.2).1=1):=by
 intro m c d hd
 induction hd with
 |stop h1=>intro hm;exact⟨hm,fun q=>absurd q h1⟩
 |var h1 h2 h3 h4=>intro hm;exact⟨hm,fun _=>h4⟩
 |go h1 h2 h3 h4 _ ih =>
  intro hm;obtain⟨n,en,hn,ho,hnx⟩:=h.next hm h1;rw[en] at h4 ih;exact ih (hnx h4)
theorem WF.grow {U U':Nat->Prop}{σ τ:SS}(h:WF U σ) (g:Grow σ τ) (lo:τ.own.length=τ.cells.length) (lf:τ.flags.length=τ.vars.length) (hu:∀a,a < σ.cells.length->U a->U' a)
  (hv:∀n:Nat,σ.vars.length<=n->n < τ.vars.length->∃k:Nat,gi τ.vars n=k/\k < τ.cells.length/\gi τ.own k=n) (hc:∀a:Nat,σ.cells.length<=a->a < τ.cells.length->CellOk U' τ a)
  (hd:∀n:Nat,σ.cells.length<=n->n < τ.cells.length->0<=gi τ.own n->(ci τ.cells n).1=1) (con:∀t∈τ.consts,Bd t/\t.args=[]) (fn:∀k∈τ.funs,k.1.size<=maxLen):WF U' τ:=by
 have hcl:=g.cells.length_le;have hvl:=g.vars.length_le;refine⟨lo,lf,fun n hn=>?_,fun a ha=>?_,fun c hm=>?_,con,fn⟩
 ·by_cases q:n < σ.vars.length
  ·obtain⟨k,h1,h2,h3⟩:=h.var n q;exact⟨k,by rw[z2o g.vars q];exact h1,by omega,by rw[z2o g.own (by have:=h.lo;omega)];exact h3⟩
  ·exact hv n (by omega) hn
 ·by_cases q:a < σ.cells.length
  ·have e1:=z6c g.cells q;have e2:=z2o g.own (show a < σ.own.length by have:=h.lo;omega);cases h.cell a q with
   |var v h1 h2 h3 h4=>exact .var v (e2.trans h1) (by omega) (by rw[z2o g.vars h2];exact h3) (by rw[e1];rcases h4 with h4|h4;exact .inl h4;exact .inr ⟨h4.1,z7j g h.lo h4.2⟩)
   |fn f h1 h2 hf h4 h5 h6 =>
    have hfl:=g.funs.length_le;have ef:τ.funs[f]'(by omega)=σ.funs[f]:=by
     obtain⟨t,ht⟩:=g.funs;simp only[<-ht];rw[List.getElem_append_left hf]
    refine .fn f (e2.trans h1) (e1.trans h2) (by omega) (by rw[ef];exact h4) (by rw[ef];exact h5) fun i hi=>?_
    rw[ef] at hi;have:=h6 i hi;exact⟨by omega,by rw[z2o g.own (by have:=h.lo;omega)];exact this.2⟩
   |arg h1 h2=>exact .arg (e2.trans h1) (by rw[e1];rcases h2 with h2|h2;exact .inl (z7j g h.lo h2);exact .inr (hu a q h2))
  ·exact hc a (by omega) ha
 ·by_cases h2:c.1=2
  ·have hm':=hm;rw[z2m] at hm';rcases hm' with q|⟨-,b,d,e⟩|q
   ·omega
   ·obtain⟨n,en⟩:=Zk b;rw[en] at d e;by_cases q:n < σ.cells.length
    ·have hσ:mayS σ c=true:=by
      rw[z2m];refine .inr (.inl ⟨h2,b,by omega,?_⟩);rw[en,<-z2o g.own (show n < σ.own.length by have:=h.lo;omega)];exact e
     obtain⟨m,d',hd'⟩:=h.der c hσ;exact⟨m,d',h.derc hcl (fun k hk _=>z6c g.cells hk) hd' hσ⟩
    ·exact⟨0,c,.var h2 b (by omega) (by rw[en];exact hd n (by omega) (by omega) e)⟩
   ·omega
  ·exact⟨0,c,.stop h2⟩
end Go.Proofs.hq
end

section
namespace Go.Proofs.hq
open Go Go.RowKit Go.Hb
def makeS (σ:SS):SS:={ σ with vars:=σ.vars++[(σ.cells.length:Int)],flags:=σ.flags++[false],cells:=σ.cells++[(1,(σ.vars.length:Int))],own:=σ.own++[(σ.vars.length:Int)] }
theorem zdr {l:List Int}{x:Int}{m:List Int}:gi (l++x :: m) (l.length:Nat)=x:=by
 unfold gi;rw[Zv,List.getElem?_append_right (Ze _),Nat.sub_self];rfl
theorem zhc {l:List (Int × Int)}{x:Int × Int}{m:List (Int × Int)}:ci (l++x :: m) (l.length:Nat)=x:=by
 unfold ci;rw[Zv,List.getElem?_append_right (Ze _),Nat.sub_self];rfl
theorem zm5 (σ:SS):Grow σ (makeS σ):=⟨List.prefix_append _ _,List.prefix_append _ _,List.prefix_append _ _,List.prefix_append _ _,Zz _,Zz _⟩
theorem zs3 {U:Nat->Prop}{σ:SS}(h:WF U σ):WF U (makeS σ):=by
 have hlo:=h.lo;have e1:gi (makeS σ).vars (σ.vars.length:Nat)=(σ.cells.length:Nat):=zdr;have e2:gi (makeS σ).own (σ.cells.length:Nat)=(σ.vars.length:Nat):=by rw[<-hlo];exact zdr
 have e3:ci (makeS σ).cells (σ.cells.length:Nat)=(1,((σ.vars.length:Nat):Int)):=zhc;have l1:(makeS σ).cells.length=σ.cells.length+1:=by simp [makeS]
 have l2:(makeS σ).vars.length=σ.vars.length+1:=by simp [makeS]
 refine h.grow (zm5 σ) (by simp [makeS,hlo]) (by simp [makeS,h.lf]) (fun _ _ q=>q) (fun n h1 h2=>?_) (fun a h1 h2=>?_) (fun n h1 h2 _=>?_) h.con h.fn
 ·obtain rfl:n=σ.vars.length:=by omega
  exact⟨σ.cells.length,e1,by omega,e2⟩
 ·obtain rfl:a=σ.cells.length:=by omega
  exact .var σ.vars.length e2 (by omega) e1 (.inl e3)
 ·obtain rfl:n=σ.cells.length:=by omega
  rw[e3]
inductive BdA:Tm->Prop
 |mk {t:Tm}:Bd t->(∀u∈t.args,BdA u)->BdA t
theorem BdA.bd {t:Tm}(h:BdA t):Bd t:=by cases h;assumption
theorem BdA.args {t:Tm}(h:BdA t):∀u∈t.args,BdA u:=by cases h;assumption
theorem zm6 {H:Heap}:∀(m:Nat) {t:Tm}{cs:List Value},SizeOf.sizeOf t < m->RepT H t cs->BdA t
 |0,_,_,h,_=>by omega
 |m+1,t,cs,h,r=>by
  refine .mk r.bd fun u hu=>?_
  obtain⟨a,c,cells,rfl,-,-,-,-,-,rl⟩:=r.six;obtain⟨i,hi,rfl⟩:=List.getElem_of_mem hu;obtain⟨b,o,a1,c1,-,-,hr⟩:=rl.el hi;exact zm6 m (by have:=z0g hu;omega) hr
theorem z92 (σ:SS) (t:Tm):Grow σ (atomicS σ t).1:=by
 unfold atomicS;split
 ·exact Grow.refl σ
 ·exact⟨Zz _,Zz _,Zz _,Zz _,List.prefix_append _ _,Zz _⟩
theorem zj5 (σ:SS) (t:Tm):(atomicS σ t).2 < (atomicS σ t).1.consts.length:=by
 unfold atomicS;split
 ·rename_i j hj;exact(List.findIdx?_eq_some_iff_getElem.1 hj).1
 ·simp
theorem zds (σ:SS) (k:ByteArray × Int):Grow σ (functorS σ k).1:=by
 unfold functorS;split
 ·exact Grow.refl σ
 ·exact⟨Zz _,Zz _,Zz _,Zz _,Zz _,List.prefix_append _ _⟩
theorem zfc (σ:SS) (k:ByteArray × Int):∃h:(functorS σ k).2 < (functorS σ k).1.funs.length,(functorS σ k).1.funs[(functorS σ k).2].2=k.2:=by
 unfold functorS;split
 ·rename_i j hj;obtain⟨h1,h2,-⟩:=List.findIdx?_eq_some_iff_getElem.1 hj;refine⟨h1,?_⟩;unfold eqFun at h2;rw[Zi] at h2;exact(eq_of_beq h2.2).symm
 ·exact⟨by simp,by simp⟩
theorem zj6 {σ:SS}{k:ByteArray × Int}(h:∀k∈σ.funs,k.1.size<=maxLen) (hk:k.1.size<=maxLen):∀k'∈(functorS σ k).1.funs,k'.1.size<=maxLen:=by
 unfold functorS;split
 ·exact h
 ·intro k' hk';rcases List.mem_append.1 hk' with q|q
  ·exact h _ q
  ·rw[Zx] at q;rw[q];exact hk
theorem zj7 {σ:SS}{t:Tm}(h:∀t∈σ.consts,Bd t/\t.args=[]) (hb:Bd t) (ha:t.args=[]):∀u∈(atomicS σ t).1.consts,Bd u/\u.args=[]:=by
 unfold atomicS;split
 ·exact h
 ·intro u hu;rcases List.mem_append.1 hu with q|q
  ·exact h _ q
  ·rw[Zx] at q;rw[q];exact⟨hb,ha⟩
theorem WF.atomic {U:Nat->Prop}{σ:SS}{t:Tm}(h:WF U σ) (hb:Bd t) (ha:t.args=[]):WF U (atomicS σ t).1:=by
 have hs:=z7a σ t;refine h.grow (z92 σ t) ?_ ?_ (fun _ _ q=>q) (fun n h1 h2=>?_) (fun a h1 h2=>?_) (fun n h1 h2 _=>?_) (zj7 h.con hb ha) ?_
 ·rw[hs.2.2.1,hs.2.2.2.1];exact h.lo
 ·rw[hs.1,hs.2.1];exact h.lf
 ·rw[hs.1] at h2;omega
 ·rw[hs.2.2.1] at h2;omega
 ·rw[hs.2.2.1] at h2;omega
 ·rw[hs.2.2.2.2.1];exact h.fn
theorem zm7 {l:List Int}{x:Int}{n i:Nat}(hi:i < n):gi (l++[x]++List.replicate n (-2)) ((l.length+1+i:Nat):Int)=-2:=by
 unfold gi;rw[Zv,List.getElem?_append_right (by simp)];simp only[Zm,ZN];rw[show l.length+1+i - (l.length+1)=i by omega,List.getElem?_replicate,if_pos hi];rfl
theorem z93 (σ:SS) (k:ByteArray × Int) (n:Nat):Grow σ (layH σ k n):=by
 have g:=zds σ k;have hs:=z2s σ k;refine⟨?_,?_,?_,?_,?_,g.funs⟩
 ·exact⟨[(5,((functorS σ k).2:Int))]++List.replicate n (0,0),by simp [layH]⟩
 ·exact⟨[-1]++List.replicate n (-2),by simp [layH]⟩
 ·exact g.vars
 ·exact g.flags
 ·exact g.consts
theorem zm8 {U:Nat->Prop}{σ:SS}{nm:ByteArray}{n:Nat}(h:WF U σ) (hn:n<=64) (hnm:nm.size<=maxLen):WF (fun a=>U a\/(σ.cells.length+1<=a/\a < σ.cells.length+1+n)) (layH σ (nm,(n:Int)) n):=by
 have hs:=z2s σ (nm,(n:Int));have hg:=za8 σ (nm,(n:Int)) n;have hlo:=h.lo;have e1:gi (layH σ (nm,(n:Int)) n).own (σ.cells.length:Nat)=-1:=by rw[<-hlo];show gi (σ.own++[-1]++List.replicate n (-2)) _=_;rw[ZF];exact zdr
 have e2:ci (layH σ (nm,(n:Int)) n).cells (σ.cells.length:Nat)=(5,((functorS σ (nm,(n:Int))).2:Int)):=by show ci (σ.cells++[_]++List.replicate n (0,0)) _=_;rw[ZF];exact zhc
 have e3:∀i,i < n->gi (layH σ (nm,(n:Int)) n).own ((σ.cells.length+1+i:Nat):Int)=-2:=fun i hi=>by rw[<-hlo];exact zm7 hi
 obtain⟨hfn,hfa⟩:=zfc σ (nm,(n:Int));refine h.grow (z93 σ _ n) (by rw[hg.2.2.2.2.1,hg.2.2.2.2.2.1,hlo]) (by rw[hg.1,hg.2.1];exact h.lf) (fun a _ q=>.inl q) (fun m h1 h2=>by rw[hg.1] at h2;omega) (fun a h1 h2=>?_) (fun m h1 h2 h3=>?_) (by rw[hg.2.2.2.2.2.2.1];exact h.con) (zj6 h.fn hnm)
 ·rw[hg.2.2.2.2.1] at h2;by_cases q:a=σ.cells.length
  ·subst q;refine .fn (functorS σ (nm,(n:Int))).2 e1 e2 hfn ?_ ?_ fun i hi=>?_
   ·show 0<=((functorS σ (nm,(n:Int))).1.funs[(functorS σ (nm,(n:Int))).2]'hfn).2;rw[hfa];show (0:Int)<=(n:Int);omega
   ·show ((functorS σ (nm,(n:Int))).1.funs[(functorS σ (nm,(n:Int))).2]'hfn).2<=1000;rw[hfa];show (n:Int)<=1000;omega
   ·have hi':(i:Int) < ((functorS σ (nm,(n:Int))).1.funs[(functorS σ (nm,(n:Int))).2]'hfn).2:=hi;rw[hfa] at hi';have hi2:(i:Int) < (n:Int):=hi';exact⟨by rw[hg.2.2.2.2.1];omega,e3 i (by omega)⟩
  ·obtain⟨i,rfl⟩:∃i,a=σ.cells.length+1+i:=⟨a - (σ.cells.length+1),by omega⟩
   exact .arg (e3 i (by omega)) (.inr (.inr ⟨by omega,by omega⟩))
 ·rw[hg.2.2.2.2.1] at h2;by_cases q:m=σ.cells.length
  ·subst q;rw[e1] at h3;omega
  ·obtain⟨i,rfl⟩:∃i,m=σ.cells.length+1+i:=⟨m - (σ.cells.length+1),by omega⟩
   rw[e3 i (by omega)] at h3;omega
theorem WF.fill {U U':Nat->Prop}{σ:SS}{a:Nat}{c:Int × Int}(h:WF U σ) (ha:a < σ.cells.length) (ho:gi σ.own a=-2) (hm:mayS σ c=true) (hu:∀b,b≠a->U b->U' b):WF U' { σ with cells:=σ.cells.set a c }:=by
 have hmay:∀x,mayS { σ with cells:=σ.cells.set a c } x=mayS σ x:=fun x=>by
  unfold mayS;simp only[Zy]
 have hci:∀b:Nat,b≠a->ci (σ.cells.set a c) b=ci σ.cells b:=fun b hb=>by rw[z57 ha,if_neg hb]
 refine⟨by simp only[Zy];exact h.lo,h.lf,fun n hn=>?_,fun b hb=>?_,fun x hx=>?_,h.con,h.fn⟩
 ·obtain⟨k,h1,h2,h3⟩:=h.var n hn;exact⟨k,h1,by simp only[Zy];exact h2,h3⟩
 ·simp only[Zy] at hb;by_cases q:b=a
  ·subst q;refine .arg ho (.inl ?_);show mayS _ (ci (σ.cells.set b c) b)=true;rw[z57 ha,if_pos rfl,hmay];exact hm
  ·cases h.cell b hb with
   |var v h1 h2 h3 h4=>exact .var v h1 h2 h3 (by simp only[hci b q,hmay];exact h4)
   |fn f h1 h2 hf h4 h5 h6=>exact .fn f h1 ((hci b q).trans h2) hf h4 h5 (by simp only[Zy];exact h6)
   |arg h1 h2=>exact .arg h1 (by simp only[hci b q,hmay];rcases h2 with h2|h2;exact .inl h2;exact .inr (hu b q h2))
 ·rw[hmay] at hx;obtain⟨m,d,hd⟩:=h.der x hx;exact⟨m,d,h.derc (by simp only[Zy];exact Ze _) (fun n hn ho'=>hci n (fun e=>by subst e;omega)) hd hx⟩
theorem zhd {σ τ:SS}{k:Nat}{c:Int × Int}(g:Grow σ τ) (hk:σ.cells.length<=k):Grow σ { τ with cells:=τ.cells.set k c }:=by
 refine⟨?_,g.own,g.vars,g.flags,g.consts,g.funs⟩;obtain⟨t,ht⟩:=g.cells;refine⟨t.set (k - σ.cells.length) c,?_⟩;show σ.cells++t.set (k - σ.cells.length) c=τ.cells.set k c;rw[<-ht,List.set_append_right _ _ hk]
theorem WF.imp {U U':Nat->Prop}{σ:SS}(h:WF U σ) (hu:∀a,U a->U' a):WF U' σ :=
 ⟨h.lo,h.lf,h.var,fun a ha=>by
  cases h.cell a ha with
  |var v h1 h2 h3 h4=>exact .var v h1 h2 h3 h4
  |fn f h1 h2 hf h4 h5 h6=>exact .fn f h1 h2 hf h4 h5 h6
  |arg h1 h2=>exact .arg h1 (h2.imp_right (hu a)),h.der,h.con,h.fn⟩
theorem zhe:∀(m:Nat) {t:Tm}{U:Nat->Prop}{σ:SS},SizeOf.sizeOf t < m->WF U σ->(∀a,U a->a < σ.cells.length)->Fine t->BdA t->(∀v∈occ t,okV σ v)->WF U (layS σ t).1/\mayS (layS σ t).1 (layS σ t).2=true/\Grow σ (layS σ t).1
 |0,_,_,_,h,_,_,_,_,_=>by omega
 |m+1,t,U,σ,hsz,h,hU,hf,hb,hocc=>by
  by_cases k1:t.kind=1
  ·rw[z68 k1];have hv:=hocc t.var (by rw[z3d,if_pos k1];simp);obtain⟨n,en⟩:=Zk hv.1;obtain⟨k,h1,h2,h3⟩:=h.var n (by have:=hv.2.1;omega);refine⟨h,?_,Grow.refl σ⟩;rw[z2m];refine .inr (.inl ⟨rfl,?_⟩);rw[en,h1];exact⟨by show (0:Int)<=(k:Int);omega,by show (k:Int) < (σ.cells.length:Int);omega,by show 0<=gi σ.own (k:Int);rw[h3];omega⟩
  ·by_cases k5:t.kind=5
   ·rw[z4n k5];have hn:t.args.length<=64:=z4y hf;have hH:=zm8 (nm:=t.name) (n:=t.args.length) h hn hb.bd.name;have hg:=za8 σ (t.name,(t.args.length:Int)) t.args.length;have hlo:=h.lo;have e3:∀i,i < t.args.length->gi (layH σ (t.name,(t.args.length:Int)) t.args.length).own ((σ.cells.length+1+i:Nat):Int)=-2:=fun i hi=>by rw[<-hlo];exact zm7 hi
    have key:∀i,i<=t.args.length->WF (fun a=>U a\/(σ.cells.length+1+i<=a/\a < σ.cells.length+1+t.args.length)) (layA (layH σ (t.name,(t.args.length:Int)) t.args.length) σ.cells.length 0 (t.args.take i)) /\
      Grow σ (layA (layH σ (t.name,(t.args.length:Int)) t.args.length) σ.cells.length 0 (t.args.take i))/\(layH σ (t.name,(t.args.length:Int)) t.args.length).own <+: (layA (layH σ (t.name,(t.args.length:Int)) t.args.length) σ.cells.length 0 (t.args.take i)).own /\
      σ.cells.length+1+t.args.length<=(layA (layH σ (t.name,(t.args.length:Int)) t.args.length) σ.cells.length 0 (t.args.take i)).cells.length:=by
     intro i
     induction i with
     |zero=>intro _;rw[List.take_zero,layA,Nat.add_zero];exact⟨hH,z93 _ _ _,Zz _,by rw[hg.2.2.2.2.1];exact Ze _⟩
     |succ i ih =>
      intro hi;have hlt:i < t.args.length:=by omega
      obtain⟨i1,i2,i3,i4⟩:=ih (by omega);have hAv:=(zde (σ:=layH σ (t.name,(t.args.length:Int)) t.args.length) (at':=σ.cells.length) (l:=t.args) (fun u _ σ=>z7b _ u (Zf _) σ) i (by omega)).vars;rw[z69 hlt];generalize layA (layH σ (t.name,(t.args.length:Int)) t.args.length) σ.cells.length 0 (t.args.take i)=τ at *;have hu:=ZD hlt;have hcl:=i2.cells.length_le;obtain⟨j1,j2,j3⟩:=zhe m (t:=t.args[i]) (U:=fun a=>U a\/(σ.cells.length+1+i<=a/\a < σ.cells.length+1+t.args.length)) (σ:=τ) (by have:=z0g hu;omega) i1
       (fun a ha=>by rcases ha with ha|ha;have:=hU a ha;omega;omega) (hf.args _ hu) (hb.args _ hu) (fun v hv=>by
        have:=hocc v (z7i hu hv);have ev:=hAv.trans hg.1;unfold okV at this ⊢;rw[ev];exact this)
      have ho:gi (layS τ t.args[i]).1.own ((σ.cells.length+1+i:Nat):Int)=-2:=by
       have h1:σ.cells.length+1+i < (layH σ (t.name,(t.args.length:Int)) t.args.length).own.length:=by rw[hg.2.2.2.2.2.1,hlo];omega
       rw[z2o (i3.trans j3.own) h1];exact e3 i hlt
      have hc1:=j3.cells.length_le;refine⟨j1.fill (by omega) ho j2 (fun b hb hbu=>?_),zhd (i2.trans j3) (by omega),i3.trans j3.own,by simp only[Zy];omega⟩;rcases hbu with hbu|hbu
      ·exact .inl hbu
      ·exact .inr ⟨by omega,by omega⟩
    obtain⟨k1',k2,k3,k4⟩:=key t.args.length (Ze _);rw[List.take_length] at k1' k2 k3 k4;refine⟨k1'.imp (fun a ha=>by rcases ha with ha|ha;exact ha;omega),?_,k2⟩;rw[z2m];have h1:σ.cells.length < (layH σ (t.name,(t.args.length:Int)) t.args.length).own.length:=by rw[hg.2.2.2.2.2.1,hlo];omega
    have e1:gi (layH σ (t.name,(t.args.length:Int)) t.args.length).own (σ.cells.length:Nat)=-1:=by rw[<-hlo];show gi (σ.own++[-1]++List.replicate _ (-2)) _=_;rw[ZF];exact zdr
    have e2:=(z2o k3 h1).trans e1;refine .inr (.inr ⟨rfl,?_⟩);show (0:Int)<=(σ.cells.length:Int)/\(σ.cells.length:Int) < _/\gi _ (σ.cells.length:Int) < 0/\gi _ (σ.cells.length:Int)≠-2;rw[e2];exact⟨by omega,by show (σ.cells.length:Int) < ((layA (layH σ (t.name,(t.args.length:Int)) t.args.length) σ.cells.length 0 t.args).cells.length:Int);omega,by omega,by omega⟩
   ·rw[z4m k1 k5];have hk:=z1b hf.node;have hargs:t.args=[]:=(z1h hk.2.2.1).2.2.2.2 k5;refine⟨h.atomic hb.bd hargs,?_,z92 σ t⟩;rw[z2m];have:=zj5 σ t;exact .inl ⟨rfl,by show (0:Int)<=((atomicS σ t).2:Int);omega,by show ((atomicS σ t).2:Int) < ((atomicS σ t).1.consts.length:Int);omega⟩
end Go.Proofs.hq
end

section
namespace Go.Proofs.hq
open Go Go.RowKit Go.Hb
abbrev noU:Nat->Prop:=fun _=>False
theorem WF.tok {σ:SS}(h:WF noU σ) (hc:σ.cells.length<=most) (hv:σ.vars.length<=most):TOk σ:=by
 refine⟨fun c hm=>?_,h.con,h.fn,hc⟩;obtain⟨m,d,hd⟩:=h.der c hm;obtain⟨hdm,hd2⟩:=h.dmay hd hm;refine⟨m,d,hd,?_⟩;have hdm':=hdm;rw[z2m] at hdm;rcases hdm with ⟨a,b,e⟩|⟨a,b,e,f⟩|⟨a,b,e,f,g⟩
 ·exact .con a b e
 ·refine .var a b e ?_;obtain⟨n,en⟩:=Zk b;have h1:=hd2 a;rw[en] at e f h1 ⊢;cases h.cell n (by omega) with
  |var v _ hv' _ q =>
   rcases q with q|q
   ·rw[q];unfold most at hv;exact⟨by show -9223372036854775808<=(v:Int);omega,by show (v:Int)<=9223372036854775807;omega⟩
   ·exact absurd h1 q.1
  |fn f' q=>omega
  |arg q=>omega
 ·obtain⟨n,en⟩:=Zk b;rw[en] at e f g;cases h.cell n (by omega) with
  |var v q=>omega
  |arg q=>omega
  |fn f' q1 q2 hf q3 q4 q5 =>
   refine .str f' a b (by omega) (by rw[en,q2]) hf q3 q4 fun i hi=>?_
   obtain⟨r1,r2⟩:=q5 i hi;have ei:d.2+1+(i:Int)=((n+1+i:Nat):Int):=by omega
   rw[ei];refine⟨by omega,?_⟩;cases h.cell (n+1+i) r1 with
   |var v q=>omega
   |fn f'' q=>omega
   |arg _ q=>rcases q with q|q;exact q;exact q.elim
theorem WF.bind {σ:SS}{v:Int}{c:Int × Int}(h:WF noU σ):WF noU (bindS σ v c).1/\((bindS σ v c).1=σ\/∃n k:Nat,v=n/\n < σ.vars.length/\gi σ.vars n=k/\k < σ.cells.length/\ci σ.cells k=(1,(n:Int))/\(bindS σ v c).1={ σ with cells:=σ.cells.set k (dr σ.cells c),trail:=σ.trail++[(0,(n:Int))] }):=by
 by_cases h0:freeS σ v=0;rotate_left
 ·have e:bindS σ v c=(σ,freeS σ v):=by rw[bindS,if_pos h0]
  rw[e];exact⟨h,.inl rfl⟩
 cases hm:mayS σ c with
 |false =>
  have e:bindS σ v c=(σ,130):=by rw[bindS,if_neg (by omega),if_pos hm]
  rw[e];exact⟨h,.inl rfl⟩
 |true =>
  by_cases hq:dr σ.cells c=(2,gi σ.vars v)
  ·have e:bindS σ v c=(σ,1):=by rw[bindS,if_neg (by omega),if_neg (by rw[hm];simp),if_pos hq]
   rw[e];exact⟨h,.inl rfl⟩
  ·obtain⟨hv,h1⟩:=za7 h0;obtain⟨n,rfl⟩:=Zk hv.1;have hn:n < σ.vars.length:=by have:=hv.2.1;omega
   obtain⟨k,ek,hk,ok⟩:=h.var n hn;rw[ek] at h1 hq;have ecell:ci σ.cells k=(1,(n:Int)):=by
    cases h.cell k hk with
    |var w q1 q2 q3 q4 =>
     have:w=n:=by omega
     subst this;rcases q4 with q4|q4
     ·exact q4
     ·exact absurd h1 q4.1
    |fn f q=>omega
    |arg q=>omega
   have e:bindS σ (n:Int) c=({ σ with cells:=σ.cells.set k (dr σ.cells c),trail:=σ.trail++[(0,(n:Int))] },0):=by rw[bindS,if_neg (by omega),if_neg (by rw[hm];simp),ek,if_neg hq];rfl
   rw[e];refine⟨?_,.inr ⟨n,k,rfl,hn,ek,hk,ecell,rfl⟩⟩;obtain⟨m,d,hd⟩:=h.der c hm;obtain⟨hdm,hd2⟩:=h.dmay hd hm;have ed:=z4f hd;rw[ed] at hq;show WF noU { σ with cells:=σ.cells.set k (dr σ.cells c),trail:=_ };rw[ed];have hmay:∀x,mayS { σ with cells:=σ.cells.set k d,trail:=σ.trail++[(0,(n:Int))] } x=mayS σ x:=fun x=>by unfold mayS;simp only[Zy]
   have hci:∀b:Nat,b≠k->ci (σ.cells.set k d) b=ci σ.cells b:=fun b hb=>by rw[z57 hk,if_neg hb]
   have hd1:d.1≠1:=by rw[z2m] at hdm;omega
   refine⟨by simp only[Zy];exact h.lo,h.lf,fun w hw=>?_,fun b hb=>?_,fun x hx=>?_,h.con,h.fn⟩
   ·obtain⟨k',h1,h2,h3⟩:=h.var w hw;exact⟨k',h1,by simp only[Zy];exact h2,h3⟩
   ·simp only[Zy] at hb;by_cases q:b=k
    ·subst q;refine .var n ok hn ek (.inr ?_);show (ci (σ.cells.set b d) b).1≠1/\mayS _ (ci (σ.cells.set b d) b)=true;rw[z57 hk,if_pos rfl,hmay];exact⟨hd1,hdm⟩
    ·cases h.cell b hb with
     |var w h1 h2 h3 h4=>exact .var w h1 h2 h3 (by simp only[hci b q,hmay];exact h4)
     |fn f h1 h2 hf h4 h5 h6=>exact .fn f h1 ((hci b q).trans h2) hf h4 h5 (by simp only[Zy];exact h6)
     |arg h1 h2=>exact .arg h1 (by simp only[hci b q,hmay];exact h2)
   ·rw[hmay] at hx;obtain⟨m',e',he⟩:=h.der x hx;clear hd hm e;have hdd:Der (σ.cells.set k d) 0 d d:=by
     by_cases q:d.1=2
     ·have hdm2:=hdm;rw[z2m] at hdm2;rcases hdm2 with r|⟨-,b,e,f⟩|r
      ·omega
      ·obtain⟨j,ej⟩:=Zk b;have hj:j≠k:=fun r=>hq (Prod.ext q (by rw[ej,r]))
       refine .var q b (by simp only[Zy];exact e) ?_;rw[ej,hci j hj,<-ej];exact hd2 q
      ·omega
     ·exact .stop q
    clear hx
    induction he with
    |stop h1=>exact⟨0,_,.stop h1⟩
    |@var x i1 i2 i3 i4 =>
     obtain⟨j,ej⟩:=Zk i2;by_cases q:j=k
     ·subst q;refine⟨1,d,.go i1 i2 (by simp only[Zy];exact i3) ?_ ?_⟩
      ·show (ci (σ.cells.set j d) x.2).1≠1;rw[ej,z57 hk,if_pos rfl];exact hd1
      ·show Der (σ.cells.set j d) 0 (ci (σ.cells.set j d) x.2) d;rw[ej,z57 hk,if_pos rfl];exact hdd
     ·exact⟨0,_,.var i1 i2 (by simp only[Zy];exact i3) (by show (ci (σ.cells.set k d) x.2).1=1;rw[ej,hci j q,<-ej];exact i4)⟩
    |@go nn x y i1 i2 i3 i4 _ ih =>
     obtain⟨m2,e2,ih⟩:=ih;obtain⟨j,ej⟩:=Zk i2;have q:j≠k:=fun q=>by rw[ej,q,ecell] at i4;exact i4 rfl
     refine⟨m2+1,e2,.go i1 i2 (by simp only[Zy];exact i3) ?_ ?_⟩
     ·show (ci (σ.cells.set k d) x.2).1≠1;rw[ej,hci j q,<-ej];exact i4
     ·show Der (σ.cells.set k d) m2 (ci (σ.cells.set k d) x.2) e2;rw[ej,hci j q,<-ej];exact ih
theorem WF.other {U:Nat->Prop}{σ:SS}{t:List (Int × Int)}{m:List (Int × Int × Int)}{f:List Bool}(h:WF U σ) (hf:f.length=σ.flags.length):WF U { σ with trail:=t,marks:=m,flags:=f } :=
 ⟨h.lo,by simp only[hf];exact h.lf,h.var,fun a ha=>by
  cases h.cell a ha with
  |var v h1 h2 h3 h4=>exact .var v h1 h2 h3 h4
  |fn f h1 h2 hf h4 h5 h6=>exact .fn f h1 h2 hf h4 h5 h6
  |arg h1 h2=>exact .arg h1 h2,h.der,h.con,h.fn⟩
end Go.Proofs.hq
end

section
namespace Go.Proofs.hq
open Go Go.RowKit Go.Hb
structure Back (σ0 σ:SS):Prop where
 tr:σ0.trail <+: σ.trail
 up:Grow σ0 (undoL σ (σ.trail.drop σ0.trail.length))
theorem Back.refl (σ:SS):Back σ σ:=⟨Zz _,by rw[List.drop_length];exact Grow.refl σ⟩
theorem z5m (σ:SS) (t:List (Int × Int)) (m:List (Int × Int × Int)):∀L,undoL { σ with trail:=t,marks:=m } L={ undoL σ L with trail:=t,marks:=m }
 |[]=>rfl
 |x :: L=>by
  show undo1 x (undoL { σ with trail:=t,marks:=m } L)={ undo1 x (undoL σ L) with trail:=t,marks:=m }
  rw[z5m σ t m L];unfold undo1;split<;>rfl
theorem Grow.other {σ0 σ:SS}(h:Grow σ0 σ) (t:List (Int × Int)) (m:List (Int × Int × Int)):Grow σ0 { σ with trail:=t,marks:=m }:=⟨h.cells,h.own,h.vars,h.flags,h.consts,h.funs⟩
theorem zm9 {α:Type}{l m:List α}(h:l <+: m) {k:Nat}{y:α}(hk:k < l.length):l.set k y <+: m.set k y:=by
 obtain⟨t,rfl⟩:=h;exact⟨t,by rw[List.set_append_left _ _ hk]⟩
theorem zj8 {σ τ:SS}{x:Int × Int}(g:Grow σ τ) (hx:TrOk σ x) (hf:σ.flags.length=σ.vars.length):Grow (undo1 x σ) (undo1 x τ):=by
 obtain⟨-,n,k,ex,hn,ek,hk⟩:=hx;unfold undo1;split
 ·refine⟨?_,g.own,g.vars,g.flags,g.consts,g.funs⟩;show σ.cells.set (gi σ.vars x.2).toNat _ <+: τ.cells.set (gi τ.vars x.2).toNat _;rw[ex,z2o g.vars hn,ek];exact zm9 g.cells (by rw[Zv];exact hk)
 ·refine⟨g.cells,g.own,g.vars,?_,g.consts,g.funs⟩;exact zm9 g.flags (by rw[ex,Zv,hf];exact hn)
theorem TrOk.same {σ τ:SS}{x:Int × Int}(h:TrOk σ x) (hv:τ.vars=σ.vars) (hc:τ.cells.length=σ.cells.length):TrOk τ x:=by
 obtain⟨a,n,k,b,c,d,e⟩:=h;exact⟨a,n,k,b,by rw[hv];exact c,by rw[hv];exact d,by rw[hc];exact e⟩
theorem TrOk.grow {σ τ:SS}{x:Int × Int}(h:TrOk σ x) (g:Grow σ τ):TrOk τ x:=by
 obtain⟨a,n,k,b,c,d,e⟩:=h;have h1:=g.vars.length_le;have h2:=g.cells.length_le;exact⟨a,n,k,b,by omega,by rw[z2o g.vars c];exact d,by omega⟩
theorem zab {σ τ:SS}(g:Grow σ τ) (hf:σ.flags.length=σ.vars.length):∀L:List (Int × Int),(∀x∈L,TrOk σ x)->Grow (undoL σ L) (undoL τ L)
 |[],_=>g
 |x :: L,h=>by
  have ih:=zab g hf L fun y hy=>h y (Zl _ hy)
  have hs:=z2f σ L;exact zj8 ih ((h x (by simp)).same hs.1 hs.2.2.2.2.2.2.1) (by have e:=hs.2.2.2.2.2.2.2;have e2:=hs.1;show (undoL σ L).flags.length=(undoL σ L).vars.length;rw[e,e2];exact hf)
theorem Back.grow {σ0 σ τ:SS}(h:Back σ0 σ) (g:Grow σ τ) (ht:τ.trail=σ.trail) (hf:σ.flags.length=σ.vars.length) (htr:∀x∈σ.trail,TrOk σ x):Back σ0 τ :=
 ⟨by rw[ht];exact h.tr,by rw[ht];exact h.up.trans (zab g hf _ fun x hx=>htr x (List.mem_of_mem_drop hx))⟩
theorem Back.marks {σ0 σ:SS}(h:Back σ0 σ) (m:List (Int × Int × Int)):Back σ0 { σ with marks:=m } :=
 ⟨h.tr,by
  have:=z5m σ σ.trail m (σ.trail.drop σ0.trail.length);show Grow σ0 (undoL { σ with trail:=σ.trail,marks:=m } _);rw[this];exact h.up.other _ _⟩
theorem Back.entry {σ0 σ τ:SS}{x:Int × Int}(h:Back σ0 σ) (ht:τ.trail=σ.trail++[x]) (hu:undo1 x τ={ σ with trail:=τ.trail }):Back σ0 τ:=by
 have hl:=h.tr.length_le;refine⟨by rw[ht];exact h.tr.trans (List.prefix_append _ _),?_⟩;have e:τ.trail.drop σ0.trail.length=σ.trail.drop σ0.trail.length++[x]:=by rw[ht,List.drop_append_of_le_length hl]
 have e2:undoL τ (σ.trail.drop σ0.trail.length++[x])=undoL (undo1 x τ) (σ.trail.drop σ0.trail.length):=by
  unfold undoL;rw[List.foldr_append];rfl
 rw[e,e2,hu];have:=z5m σ τ.trail σ.marks (σ.trail.drop σ0.trail.length);show Grow σ0 (undoL { σ with trail:=τ.trail,marks:=σ.marks } _);rw[this];exact h.up.other _ _
theorem z5u {α:Type}{l:List α}{k:Nat}{x y:α}(h:l[k]?=some y):(l.set k x).set k y=l:=by
 rw[List.set_set];exact zbd h
theorem Back.bind {σ0 σ:SS}{v:Int}{c:Int × Int}(h:Back σ0 σ) (hw:WF noU σ):Back σ0 (bindS σ v c).1:=by
 rcases hw.bind (v:=v) (c:=c) |>.2 with e|⟨n,k,rfl,hn,ek,hk,hc,e⟩
 ·rw[e];exact h
 ·rw[e];refine h.entry (x:=(0,(n:Int))) rfl ?_;unfold undo1;rw[if_pos rfl];have e2:(σ.cells.set k (dr σ.cells c)).set (gi σ.vars (n:Int)).toNat (1,(n:Int))=σ.cells:=by
   rw[ek,Zv];exact z5u (by rw[z35 hk,hc])
  show { σ with cells:=(σ.cells.set k (dr σ.cells c)).set (gi σ.vars (n:Int)).toNat (1,(n:Int)),trail:=_ }=_;rw[e2]
theorem zac {σ0 σ:SS}{n:Nat}(h:Back σ0 σ):undoS σ n σ0.trail.length σ0.cells.length σ0.vars.length={ σ0 with consts:=σ.consts,funs:=σ.funs,marks:=σ.marks.take (n+1) }\/σ0.flags.length≠σ0.vars.length\/σ0.own.length≠σ0.cells.length:=by
 by_cases h1:σ0.flags.length=σ0.vars.length
 ·by_cases h2:σ0.own.length=σ0.cells.length
  ·left;have hs:=z2f σ (σ.trail.drop σ0.trail.length);unfold undoS;have tk:∀{α:Type}{l m:List α},l <+: m->m.take l.length=l:=fun hp=>by obtain⟨t,rfl⟩:=hp;simp
   have a1:=tk h.up.cells;have a2:=tk h.up.own;have a3:=tk h.up.vars;have a4:=tk h.up.flags;have a5:=tk h.tr;rw[hs.2.1] at a2;rw[hs.1] at a3;rw[h2] at a2;rw[h1] at a4;simp only[a1,a2,a3,a4,a5,hs.2.2.1,hs.2.2.2.1]
  ·exact .inr (.inr h2)
 ·exact .inr (.inl h1)
theorem Grow.undo {σ0 σ:SS}(h:Back σ0 σ):Grow σ0 { σ0 with consts:=σ.consts,funs:=σ.funs,marks:=σ.marks }:=by
 have hs:=z2f σ (σ.trail.drop σ0.trail.length);refine⟨Zz _,Zz _,Zz _,Zz _,?_,?_⟩
 ·have:=h.up.consts;rw[hs.2.2.1] at this;exact this
 ·have:=h.up.funs;rw[hs.2.2.2.1] at this;exact this
end Go.Proofs.hq
end

section
namespace Go.Proofs.hq
open Go Go.RowKit Go.Hb
variable {ok:Ok}
set_option maxRecDepth 10000
attribute [local irreducible] LX LG EL STG SOP SGO SGD SAL SRD SEF SEG SLK SCK ES
theorem zfd {H:Heap}(hw:H.wf):EvF Tryz.prog okT 5 [] H fun v H'=>v=.bool true/\HX H H':=znl hw
def noS:SS:=⟨[],[],[],[],[],[],[],[]⟩
def mkN:Nat->SS
 |0=>noS
 |n+1=>makeS (mkN n)
theorem ztv:WF noU noS:=by
 refine⟨rfl,rfl,fun n hn=>by simp [noS] at hn,fun a ha=>by simp [noS] at ha,fun c hm=>?_,fun t ht=>by simp [noS] at ht,fun k hk=>by simp [noS] at hk⟩;rw[z2m] at hm;have z1:noS.consts.length=0:=rfl;have z2:noS.cells.length=0:=rfl;rw[z1,z2] at hm;omega
theorem zdt:∀n,WF noU (mkN n)
 |0=>ztv
 |n+1=>zs3 (zdt n)
theorem z5n:∀n,(mkN n).vars.length=n/\(mkN n).cells.length=n/\(mkN n).own.length=n/\(mkN n).flags.length=n/\(mkN n).consts=[]/\(mkN n).funs=[]/\(mkN n).trail=[]/\(mkN n).marks=[]
 |0=>⟨rfl,rfl,rfl,rfl,rfl,rfl,rfl,rfl⟩
 |n+1=>by
  have h:=z5n n;exact⟨by simp [mkN,makeS,h.1],by simp [mkN,makeS,h.2.1],by simp [mkN,makeS,h.2.2.1],by simp [mkN,makeS,h.2.2.2.1],h.2.2.2.2.1,h.2.2.2.2.2.1,h.2.2.2.2.2.2.1,h.2.2.2.2.2.2.2⟩
set_option maxHeartbeats 2000000 in
theorem ztw {H:Heap}(hw:H.wf):EvF Tryz.prog okT 6 [] H fun v H'=>∃s,v=.pointer (some ⟨s,0,none⟩)/\St H' H.next s noS/\HX H H':=by
 refine EvF.enter rfl Tryz.func6 (by decide) rfl ?_;obtain⟨H1,e1,hx1,g1,n1,w1⟩:=new1 hw (.map [] 0);obtain⟨H2,e2,hx2,g2,n2,w2⟩:=new1 w1 (.map [] 0);obtain⟨H3,e3,hx3,g3,n3,w3⟩:=new1 w2 (.row [.slice none 0 0,.slice none 0 0,.slice none 0 0,.slice none 0 0,.slice none 0 0,.slice none 0 0,.map (some H.next),.map (some H1.next),.slice none 0 0,.slice none 0 0] 76)
 repeat' (first|refine qZa ?_|(refine qZf ?_)|(refine qZb ?_;simp (config:=qZc) (disch:=first|omega|rfl) only[sB,initTm,dBox,Za,Zb,Value.cells,one,reduceCtorEq,Zr,layC,bd76,z47,e1,e2,e3]))
 refine z03 rfl (by simp only[sG,reduceCtorEq]) ⟨H2.next,rfl,⟨_,g3,by omega,rfl,fun i f v hf hv=>?_,fun i j v u n h1 h2 h3 h4=>?_,fun i v hv=>?_,rfl⟩,hx1.trans (hx2.trans hx3)⟩
 ·have m6:FR H3 H.next (.mp []) (.map (some H.next)):=⟨H.next,[],0,rfl,Ze _,by omega,hx3.get w2 (hx2.get w1 g1),rfl⟩
  have m7:FR H3 H.next (.mp []) (.map (some H1.next)):=⟨H1.next,[],0,rfl,by omega,by omega,hx3.get w2 g2,rfl⟩
  match i,hf,hv with
  |0,hf,hv=>cases hf;cases hv;exact .inl ⟨rfl,rfl⟩
  |1,hf,hv=>cases hf;cases hv;exact .inl ⟨rfl,rfl⟩
  |2,hf,hv=>cases hf;cases hv;exact .inl ⟨rfl,rfl⟩
  |3,hf,hv=>cases hf;cases hv;exact .inl ⟨rfl,rfl⟩
  |4,hf,hv=>cases hf;cases hv;exact .inl ⟨rfl,rfl⟩
  |5,hf,hv=>cases hf;cases hv;exact .inl ⟨rfl,rfl⟩
  |6,hf,hv=>cases hf;cases hv;exact m6
  |7,hf,hv=>cases hf;cases hv;exact m7
  |8,hf,hv=>cases hf;cases hv;exact .inl ⟨rfl,rfl⟩
  |9,hf,hv=>cases hf;cases hv;exact .inl ⟨rfl,rfl⟩
  |i+10,hf,hv=>simp at hv
 ·have key:∀(i:Nat) v n,[Value.slice none 0 0,.slice none 0 0,.slice none 0 0,.slice none 0 0,.slice none 0 0,.slice none 0 0,.map (some H.next),.map (some H1.next),.slice none 0 0,.slice none 0 0][i]?=some v->blkOf v=some n->(i=6/\n=H.next)\/(i=7/\n=H1.next):=by
   intro i v n hv hb
   match i,hv with
   |0,hv=>cases hv;cases hb
   |1,hv=>cases hv;cases hb
   |2,hv=>cases hv;cases hb
   |3,hv=>cases hv;cases hb
   |4,hv=>cases hv;cases hb
   |5,hv=>cases hv;cases hb
   |6,hv=>cases hv;cases hb;exact .inl ⟨rfl,rfl⟩
   |7,hv=>cases hv;cases hb;exact .inr ⟨rfl,rfl⟩
   |8,hv=>cases hv;cases hb
   |9,hv=>cases hv;cases hb
   |i+10,hv=>simp at hv
  have q1:=key i v n h1 h3;have q2:=key j u n h2 h4;omega
 ·intro hb
  match i,hv with
  |0,hv=>cases hv;cases hb
  |1,hv=>cases hv;cases hb
  |2,hv=>cases hv;cases hb
  |3,hv=>cases hv;cases hb
  |4,hv=>cases hv;cases hb
  |5,hv=>cases hv;cases hb
  |6,hv=>cases hv;have:H.next=H2.next:=Option.some.inj hb;omega
  |7,hv=>cases hv;have:H1.next=H2.next:=Option.some.inj hb;omega
  |8,hv=>cases hv;cases hb
  |9,hv=>cases hv;cases hb
  |i+10,hv=>simp at hv
theorem zbk {σ:SS}{t:Tm}(h:WF noU σ) (hb:BdA t):WF noU (layV σ t).1/\Grow σ (layV σ t).1/\((layV σ t).2.2=0->mayS (layV σ t).1 (layV σ t).2.1=true)/\(layV σ t).1.trail=σ.trail/\(layV σ t).1.marks=σ.marks/\(layV σ t).1.vars=σ.vars /\
  (layV σ t).1.cells.length<=σ.cells.length+2*nd t/\(layV σ t).1.consts.length<=σ.consts.length+nd t/\(layV σ t).1.funs.length<=σ.funs.length+nd t:=by
 unfold layV;split
 ·rename_i h0;exact⟨h,Grow.refl σ,fun q=>absurd q h0,rfl,rfl,rfl,by simp only;omega,by simp only;omega,by simp only;omega⟩
 ·rename_i h0;have h0':checkS t=0:=Classical.not_not.1 h0;split
  ·rename_i hall;obtain⟨a,b,c⟩:=zhe _ (Zf _) h (fun a q=>q.elim) (z1d.1 h0').2 hb hall;have g:=z7b _ t (Zf _) σ;exact⟨a,c,fun _=>b,g.trail,g.marks,g.vars,by have:=g.cells;simp only;omega,g.consts,g.funs⟩
  ·exact⟨h,Grow.refl σ,fun q=>by simp at q,rfl,rfl,rfl,by simp only;omega,by simp only;omega,by simp only;omega⟩
abbrev TD:Type:=List Tm × Option Addr × Nat
abbrev tdRow (d:TD):List Value:=[.slice d.2.1 d.1.length d.2.2]
structure Cl (H:Heap) (s B:Nat) (C:List (Int × Int)) (vC:Value) (D:List TD) (vD:Value) (S:Nat->Prop):Prop where
 fc:FR H B (.sl 42 2 (C.map two)) vC
 fd:FR H B (.sl 32 1 (D.map tdRow)) vD
 fl:∀d∈D,FL H 40 S d.1 d.2.1 d.2.2
 sb:∀n,S n->B<=n/\n < H.next/\¬Mut H s n/\blkOf vC≠some n/\blkOf vD≠some n
 nc:∀n,blkOf vC=some n->¬Mut H s n/\blkOf vD≠some n
 nd:∀n,blkOf vD=some n->¬Mut H s n
theorem Cl.sx {H H':Heap}{s B:Nat}{C:List (Int × Int)}{vC vD:Value}{D:List TD}{S:Nat->Prop}(h:Cl H s B C vC D vD S) (hw:H.wf) (hx:SX s H H'):Cl H' s B C vC D vD S:=by
 refine⟨h.fc.heap (fun n hn=>hx.get (h.fc.lo hn).2 (h.nc n hn).1) hx.next,h.fd.heap (fun n hn=>hx.get (h.fd.lo hn).2 (h.nd n hn)) hx.next,fun d hd=>(h.fl d hd).heap (fun n hn hl=>hx.get hl (h.sb n hn).2.2.1) hw,fun n hn=>?_,fun n hn=>⟨hx.nm (h.fc.lo hn).2 (h.nc n hn).1,(h.nc n hn).2⟩,fun n hn=>hx.nm (h.fd.lo hn).2 (h.nd n hn)⟩;obtain⟨a,b,c,d,e⟩:=h.sb n hn;exact⟨a,Zo b hx.next,hx.nm b c,d,e⟩
theorem Cl.hx {H H':Heap}{s B:Nat}{C:List (Int × Int)}{vC vD:Value}{D:List TD}{S:Nat->Prop}(h:Cl H s B C vC D vD S) (hw:H.wf) (hs:s < H.next) (hx:HX H H'):Cl H' s B C vC D vD S:=h.sx hw (hx.sx hs)
theorem Cl.cell {H:Heap}{s B:Nat}{C:List (Int × Int)}{vC vD:Value}{D:List TD}{S:Nat->Prop}(h:Cl H s B C vC D vD S):∃a c,vC=.slice a C.length c/\C.length<=c/\c<=maxLen/\∀k,(hk:k < C.length)->∃b,a=some ⟨b,0,none⟩/\H.load ⟨b,k*2,none⟩ 2=some (two C[k]):=by
 rcases h.fc with ⟨q,rfl⟩|⟨b,c,o,rfl⟩
 ·have:C=[]:=by simpa using q
  subst this;exact⟨none,0,rfl,Ze _,ZA _,fun k hk=>by simp at hk⟩
 ·have hl:=o.len;simp only[Zp] at hl ⊢;exact⟨_,c,rfl,hl,o.cap,fun k hk=>⟨b,rfl,o.load (by rw[Zj,Zc hk];rfl)⟩⟩
theorem Cl.told {H:Heap}{s B:Nat}{C:List (Int × Int)}{vC vD:Value}{D:List TD}{S:Nat->Prop}(h:Cl H s B C vC D vD S):∃a c,vD=.slice a D.length c/\D.length<=c/\c<=maxLen/\∀k,(hk:k < D.length)->∃b,a=some ⟨b,0,none⟩/\H.load ⟨b,k,none⟩ 1=some (tdRow D[k]):=by
 rcases h.fd with ⟨q,rfl⟩|⟨b,c,o,rfl⟩
 ·have:D=[]:=by simpa using q
  subst this;exact⟨none,0,rfl,Ze _,ZA _,fun k hk=>by simp at hk⟩
 ·have hl:=o.len;simp only[Zp] at hl ⊢;refine⟨_,c,rfl,hl,o.cap,fun k hk=>⟨b,rfl,?_⟩⟩;have:=o.load (i:=k) (x:=tdRow D[k]) (by rw[Zj,Zc hk];rfl);rw[Nat.mul_one] at this;exact this
end Go.Proofs.hq
end

section
namespace Go.Proofs.hq
open Go Go.RowKit Go.Hb
def lens (ρ:SS):Int × Int × Int:=((ρ.trail.length:Int),(ρ.cells.length:Int),(ρ.vars.length:Int))
def okC (σ:SS) (c:Int × Int):Prop:=mayS σ c=true\/c=(0,0)
structure PI (σ:SS) (C:List (Int × Int)) (snaps:List SS) (D:List TD) (nC nS w nt:Nat):Prop where
 wf:WF noU σ
 tr:∀x∈σ.trail,TrOk σ x
 vars:σ.vars.length=6
 marks:σ.marks=snaps.map lens
 cl:C.length=nC
 sn:snaps.length=nS
 dl:D.length=nS
 back:∀ ρ∈snaps,Back ρ σ
 old:∀(j:Nat) ρ,snaps[j]?=some ρ->WF noU ρ/\ρ.cells.length<=most/\ρ.vars.length=6/\∀(k:Nat) c,k < j->C[k]?=some c->okC ρ c
 told:∀(j:Nat) ρ d,snaps[j]?=some ρ->D[j]?=some d->j<=C.length/\d.1=(C.take j).map fun c=>(termS ρ c).1
 now:∀c∈C,okC σ c
 fc:σ.cells.length<=6+2*w
 fk:σ.consts.length<=w
 ff:σ.funs.length<=w
 ft:σ.trail.length<=nt
theorem PI.mark {σ:SS}{C:List (Int × Int)}{snaps:List SS}{D:List TD}{n w nt:Nat}(h:PI σ C snaps D n n w nt) {d:TD}(hd:d.1=C.map fun c=>(termS σ c).1) (hm:σ.cells.length<=most):PI { σ with marks:=σ.marks++[lens σ] } C (snaps++[σ]) (D++[d]) n (n+1) w nt:=by
 have hsn:=h.sn;have hdl:=h.dl;refine⟨h.wf.other rfl,h.tr,h.vars,by rw[ZK,<-h.marks];rfl,h.cl,by simp [hsn],by simp [hdl],fun ρ hρ=>?_,fun j ρ hj=>?_,fun j ρ e hj he=>?_,h.now,h.fc,h.fk,h.ff,h.ft⟩
 ·rcases List.mem_append.1 hρ with q|q
  ·exact(h.back ρ q).marks _
  ·rw[Zx] at q;rw[q];exact(Back.refl σ).marks _
 ·rw[List.getElem?_append] at hj;split at hj
  ·exact h.old j ρ hj
  ·rename_i q;have hjl:j - snaps.length=0:=by
    have:=(List.getElem?_eq_some_iff.1 hj).1;simp at this;omega
   rw[hjl] at hj;cases hj;exact⟨h.wf,hm,h.vars,fun k c hk hc=>h.now c (ZG hc)⟩
 ·rw[List.getElem?_append] at hj he;split at hj
  ·rename_i q;rw[if_pos (by omega)] at he;exact h.told j ρ e hj he
  ·rename_i q;rw[if_neg (by omega)] at he;have hjl:j - snaps.length=0:=by
    have:=(List.getElem?_eq_some_iff.1 hj).1;simp at this;omega
   have hjn:j=n:=by omega
   rw[hjl] at hj;rw[hdl,<-hsn,hjl] at he;cases hj;cases he;refine⟨by rw[h.cl];omega,?_⟩;rw[hd,Zq (by rw[h.cl];omega)]
theorem PI.lay {σ:SS}{C:List (Int × Int)}{snaps:List SS}{D:List TD}{nC nS w nt:Nat}(h:PI σ C snaps D nC nS w nt) {t:Tm}(hb:BdA t):PI (layV σ t).1 C snaps D nC nS (w+nd t) nt:=by
 obtain⟨a1,a2,a3,a4,a5,a6,a7,a8,a9⟩:=zbk h.wf hb;refine⟨a1,fun x hx=>?_,by rw[a6];exact h.vars,a5.trans h.marks,h.cl,h.sn,h.dl,fun ρ hρ=>(h.back ρ hρ).grow a2 a4 h.wf.lf h.tr,h.old,h.told,fun c hc=>?_,by have:=h.fc;omega,by have:=h.fk;omega,by have:=h.ff;omega,by rw[a4];exact h.ft⟩
 ·rw[a4] at hx;exact(h.tr x hx).grow a2
 ·rcases h.now c hc with q|q
  ·exact .inl (z7j a2 h.wf.lo q)
  ·exact .inr q
theorem PI.cell {σ:SS}{C:List (Int × Int)}{snaps:List SS}{D:List TD}{n w nt:Nat}(h:PI σ C snaps D n (n+1) w nt) {c:Int × Int}(hc:okC σ c):PI σ (C++[c]) snaps D (n+1) (n+1) w nt:=by
 have hcl:=h.cl;have hsn:=h.sn;refine⟨h.wf,h.tr,h.vars,h.marks,by simp [hcl],h.sn,h.dl,h.back,fun j ρ hj=>?_,fun j ρ d hj hd=>?_,fun e he=>?_,h.fc,h.fk,h.ff,h.ft⟩
 ·obtain⟨o1,o2,o3,o4⟩:=h.old j ρ hj;refine⟨o1,o2,o3,fun k e hk he=>?_⟩;have hjl:=(List.getElem?_eq_some_iff.1 hj).1;rw[ZI (by omega)] at he;exact o4 k e hk he
 ·obtain⟨o1,o2⟩:=h.told j ρ d hj hd;exact⟨by simp;omega,by rw[List.take_append_of_le_length o1];exact o2⟩
 ·rcases List.mem_append.1 he with q|q
  ·exact h.now e q
  ·rw[Zx] at q;rw[q];exact hc
theorem PI.bind {σ:SS}{C:List (Int × Int)}{snaps:List SS}{D:List TD}{nC nS w nt:Nat}(h:PI σ C snaps D nC nS w nt) (v:Int) (c:Int × Int):PI (bindS σ v c).1 C snaps D nC nS w (nt+1):=by
 obtain⟨hw,hs⟩:=h.wf.bind (v:=v) (c:=c);have hbk:∀ ρ∈snaps,Back ρ (bindS σ v c).1:=fun ρ hρ=>(h.back ρ hρ).bind h.wf
 rcases hs with e|⟨n,k,rfl,hn,ek,hk,hcc,e⟩
 ·rw[e];exact⟨h.wf,h.tr,h.vars,h.marks,h.cl,h.sn,h.dl,h.back,h.old,h.told,h.now,h.fc,h.fk,h.ff,by have:=h.ft;omega⟩
 ·rw[e] at hw hbk ⊢;refine⟨hw,fun x hx=>?_,h.vars,h.marks,h.cl,h.sn,h.dl,hbk,h.old,h.told,fun d hd=>?_,by simp only[Zy];exact h.fc,h.fk,h.ff,by have:=h.ft;simp;omega⟩
  ·have hx':x∈σ.trail++[(0,(n:Int))]:=hx;rcases List.mem_append.1 hx' with q|q
   ·exact(h.tr x q).same rfl (by simp)
   ·rw[Zx] at q;subst q;exact⟨.inl rfl,n,k,rfl,hn,ek,by simp;exact hk⟩
  ·rcases h.now d hd with q|q
   ·left;unfold mayS at q ⊢;simp only[Zy];exact q
   ·exact .inr q
theorem PI.few {σ:SS}{C:List (Int × Int)}{snaps:List SS}{D:List TD}{nC nS w nt:Nat}(h:PI σ C snaps D nC nS w nt) {t:Tm}(hw:w+nd t<=149796):σ.cells.length+2*nd t<=most/\σ.consts.length+nd t<=most/\σ.funs.length+nd t<=most:=by
 have:=h.fc;have:=h.fk;have:=h.ff;unfold most;omega
theorem PI.tok {σ:SS}{C:List (Int × Int)}{snaps:List SS}{D:List TD}{nC nS w nt:Nat}(h:PI σ C snaps D nC nS w nt) (hw:w<=149796):TOk σ/\σ.cells.length<=most:=by
 have:=h.fc;have:=h.vars;have h1:σ.cells.length<=most:=by unfold most;omega
 exact⟨h.wf.tok h1 (by unfold most;omega),h1⟩
theorem PI.varb {σ:SS}{C:List (Int × Int)}{snaps:List SS}{D:List TD}{nC nS w nt:Nat}(h:PI σ C snaps D nC nS w nt):VarB σ:=fun n hn=>by
 obtain⟨k,h1,h2,-⟩:=h.wf.var n hn;rw[h1];omega
theorem PI.start:PI (mkN 6) [] [] [] 0 0 0 0:=by
 have h:=z5n 6;refine⟨zdt 6,fun x hx=>(by rw[h.2.2.2.2.2.2.1] at hx;cases hx),h.1,h.2.2.2.2.2.2.2,rfl,rfl,rfl,fun ρ hρ=>(by cases hρ),fun j ρ hj=>(by simp at hj),fun j ρ d hj=>(by simp at hj),fun c hc=>(by cases hc),by rw[h.2.1];omega,by rw[h.2.2.2.2.1];exact Ze _,by rw[h.2.2.2.2.2.1];exact Ze _,by rw[h.2.2.2.2.2.2.1];exact Ze _⟩
end Go.Proofs.hq
end

section
namespace Go.Proofs.hq
open Go Go.RowKit Go.Hb
inductive RD (σ:SS) (lo:Nat):Int × Int->Tm->Prop
 |var (v a:Nat):gi σ.vars v=(a:Int)->v < σ.vars.length->a < σ.cells.length->ci σ.cells a=(1,(v:Int))->0<=gi σ.own a->RD σ lo (2,(a:Int)) (varTm v)
 |con (j:Nat) (t:Tm):σ.consts[j]?=some t->t.args=[]->RD σ lo (3,(j:Int)) t
 |str (p f:Nat) (nm:ByteArray) (l:List Tm):lo<=p->p < σ.cells.length->ci σ.cells p=(5,(f:Int))->σ.funs[f]?=some (nm,(l.length:Int))->(∀i:Nat,i < l.length->p+1+i < σ.cells.length)->(∀(i:Nat) (u:Tm),l[i]?=some u->RD σ lo (ci σ.cells ((p+1+i:Nat):Int)) u)->RD σ lo (4,(p:Int)) (.mk 5 nm e0 0 0 l)
theorem RD.low {σ:SS}{lo lo':Nat}(hl:lo'<=lo) {c:Int × Int}{t:Tm}(h:RD σ lo c t):RD σ lo' c t:=by
 induction h with
 |var v a h1 h2 h3 h4 h5=>exact .var v a h1 h2 h3 h4 h5
 |con j t h h'=>exact .con j t h h'
 |str p f nm l h1 h2 h3 h4 h5 _ ih=>exact .str p f nm l (by omega) h2 h3 h4 h5 ih
theorem zfe {α:Type}{l m:List α}(h:l <+: m) {j:Nat}{x:α}(hj:l[j]?=some x):m[j]?=some x:=by
 obtain⟨t,rfl⟩:=h;rw[ZI (List.getElem?_eq_some_iff.1 hj).1];exact hj
theorem RD.grow {σ τ:SS}{lo:Nat}(g:Grow σ τ) (ho:σ.own.length=σ.cells.length) {c:Int × Int}{t:Tm}(h:RD σ lo c t):RD τ lo c t:=by
 have hcl:=g.cells.length_le;have hvl:=g.vars.length_le
 induction h with
 |var v a h1 h2 h3 h4 h5=>exact .var v a (by rw[z2o g.vars h2];exact h1) (by omega) (by omega) (by rw[z6c g.cells h3];exact h4) (by rw[z2o g.own (by omega)];exact h5)
 |con j t h h'=>exact .con j t (zfe g.consts h) h'
 |str p f nm l h1 h2 h3 h4 h5 _ ih =>
  refine .str p f nm l h1 (by omega) (by rw[z6c g.cells h2];exact h3) (zfe g.funs h4) (fun i hi=>by have:=h5 i hi;omega) fun i u hu=>?_
  rw[z6c g.cells (h5 i (List.getElem?_eq_some_iff.1 hu).1)];exact ih i u hu
theorem RD.set {σ:SS}{lo k:Nat}{x:Int × Int}(hk:k < lo) (hkl:k < σ.cells.length) (ho:gi σ.own k < 0) {c:Int × Int}{t:Tm}(h:RD σ lo c t):RD { σ with cells:=σ.cells.set k x } lo c t:=by
 have hci:∀n:Nat,n≠k->ci (σ.cells.set k x) n=ci σ.cells n:=fun n hn=>by rw[z57 hkl,if_neg hn]
 induction h with
 |var v a h1 h2 h3 h4 h5=>exact .var v a h1 h2 (by simp only[Zy];exact h3) ((hci a (fun e=>by subst e;omega)).trans h4) h5
 |con j t h h'=>exact .con j t h h'
 |str p f nm l h1 h2 h3 h4 h5 _ ih =>
  refine .str p f nm l h1 (by simp only[Zy];exact h2) ((hci p (by omega)).trans h3) h4 (fun i hi=>by simp only[Zy];exact h5 i hi) fun i u hu=>?_
  show RD _ lo (ci (σ.cells.set k x) ((p+1+i:Nat):Int)) u;rw[hci (p+1+i) (by omega)];exact ih i u hu
theorem zhf (a b:List Tm):nd.ndL (a++b)=nd.ndL a+nd.ndL b:=by
 induction a with
 |nil=>rw[nd.ndL];simp
 |cons t a ih=>rw[List.cons_append,nd.ndL,nd.ndL,ih];omega
theorem zdu (l:List Tm) (i:Nat):nd.ndL (l.take i)<=nd.ndL l:=by
 have:=zhf (l.take i) (l.drop i);rw[List.take_append_drop] at this;omega
theorem z58 {l:List Tm}{i:Nat}(h:i < l.length):nd.ndL (l.take (i+1))=nd.ndL (l.take i)+nd l[i]:=by
 rw[<-ZL h,zhf,nd.ndL,nd.ndL,Nat.add_zero]
theorem zma {σ:SS}{lo:Nat}:∀(k:Nat) {c:Int × Int}{t:Tm}{n:Nat},RD σ lo c t->n+nd t<=4000->4001 - n<=k->toldF σ k c n=(t,n+nd t)
 |0,c,t,n,_,h,hk=>by omega
 |k+1,c,t,n,h,hn,hk=>by
  cases h with
  |var v a h1 h2 h3 h4 h5 =>
   have hd:Der σ.cells 0 (2,(a:Int)) (2,(a:Int)):=.var rfl (by show (0:Int)<=(a:Int);omega) (by show (a:Int) < _;omega) (by show (ci σ.cells (a:Int)).1=1;rw[h4]);have en:nd (varTm (v:Int))=1:=by rw[z25];simp [varTm,Tm.args,nd.ndL]
   rw[toldF,z4f hd,if_pos rfl,h4,en]
  |con j t h h' =>
   have hd:Der σ.cells 0 (3,(j:Int)) (3,(j:Int)):=.stop (by show (3:Int)≠2;omega);have en:nd t=1:=by rw[z25,h',nd.ndL]
   rw[toldF,z4f hd,if_neg (by show ¬(3:Int)=2;omega),if_pos rfl,en];show ((σ.consts[((j:Int)).toNat]?).getD zeroTm,n+1)=_;rw[Zv,h];rfl
  |str p f nm l h1 h2 h3 h4 h5 h6 =>
   have hd:Der σ.cells 0 (4,(p:Int)) (4,(p:Int)):=.stop (by show (4:Int)≠2;omega);have en:nd (.mk 5 nm e0 0 0 l)=1+nd.ndL l:=by rw[z25];rfl
   have key:∀(i:Nat),i<=l.length->(Zg i).foldl (stepT (toldF σ k) fun i=>ci σ.cells ((p:Int)+1+i)) ([],n+1)=(l.take i,n+1+nd.ndL (l.take i)):=by
    intro i
    induction i with
    |zero=>intro _;rw[List.take_zero,nd.ndL];rfl
    |succ i ih =>
     intro hi;have hil:i < l.length:=by omega
     have hle:nd.ndL (l.take i)+nd l[i]<=nd.ndL l:=by
      have h1:=zdu l (i+1);rw[z58 hil] at h1;exact h1
     have hpos:=z25 l[i];have e:ci σ.cells ((p:Int)+1+(i:Int))=ci σ.cells ((p+1+i:Nat):Int):=by congr 1
     have hr:=zma k (n:=n+1+nd.ndL (l.take i)) (h6 i l[i] (Zc hil)) (by omega) (by omega);rw[z8w (ih (by omega)) (by omega),e,hr,z58 hil,ZL hil];simp only[Prod.mk.injEq];exact⟨trivial,by omega⟩
   have ka:=key l.length (Ze _);rw[List.take_length] at ka;rw[toldF,z4f hd,if_neg (by show ¬(4:Int)=2;omega),if_neg (by show ¬(4:Int)=3;omega),h3];show (Tm.mk 5 ((σ.funs[((f:Int)).toNat]?).getD (e0,0)).1 e0 0 0 _,_)=_;rw[Zv,h4,Option.getD_some,Zv,ka,en];simp only[Prod.mk.injEq];exact⟨trivial,by omega⟩
theorem zof {a b:ByteArray}(h:(a == b)=true):a=b:=by
 cases a with
 |mk x=>cases b with
  |mk y =>
   have:(x == y)=true:=h;rw[eq_of_beq this]
theorem zhg (t:Tm):t=.mk t.kind t.name t.num t.bits t.var t.args:=by cases t;rfl
def AtF (t:Tm):Prop:=Fine t/\t.kind≠1/\t.kind≠5
theorem AtF.args {t:Tm}(h:AtF t):t.args=[]/\t.var=0:=by
 have hb:=z1h (z1b h.1.node).2.2.1;exact⟨hb.2.2.2.2 h.2.2,hb.2.2.2.1 h.2.1⟩
theorem ztx {x a:Tm}(hx:AtF x) (ha:AtF a) (h:eqCst x a=true):x=a:=by
 unfold eqCst at h;rw[Zi,Zi,Zi] at h;obtain⟨h1,h2,h3,h4⟩:=h;rw[zhg x,zhg a,eq_of_beq h1,zof h2,zof h3,eq_of_beq h4,hx.args.1,hx.args.2,ha.args.1,ha.args.2]
theorem zj9 {σ:SS}{t:Tm}(hc:∀u∈σ.consts,AtF u) (ht:AtF t):(atomicS σ t).1.consts[(atomicS σ t).2]?=some t/\∀u∈(atomicS σ t).1.consts,AtF u:=by
 unfold atomicS;split
 ·rename_i j hj;obtain⟨h1,h2,-⟩:=List.findIdx?_eq_some_iff_getElem.1 hj;refine⟨?_,hc⟩;rw[Zc h1,ztx ht (hc _ (ZD h1)) h2]
 ·refine⟨by simp,fun u hu=>?_⟩;rcases List.mem_append.1 hu with q|q
  ·exact hc u q
  ·rw[Zx] at q;rw[q];exact ht
theorem zff (σ:SS) (k:ByteArray × Int):(functorS σ k).1.funs[(functorS σ k).2]?=some k:=by
 unfold functorS;split
 ·rename_i j hj;obtain⟨h1,h2,-⟩:=List.findIdx?_eq_some_iff_getElem.1 hj;rw[Zc h1];unfold eqFun at h2;rw[Zi] at h2;exact congrArg some (Prod.ext (zof h2.1).symm (eq_of_beq h2.2).symm)
 ·simp
def Unb (σ:SS):Prop:=∀v k:Nat,v < σ.vars.length->gi σ.vars v=(k:Int)->k < σ.cells.length->ci σ.cells k=(1,(v:Int))
theorem Unb.grow {σ τ:SS}{U:Nat->Prop}(h:Unb σ) (hw:WF U σ) (g:Grow σ τ) (hv:τ.vars=σ.vars):Unb τ:=fun v k h1 h2 h3=>by
 rw[hv] at h1 h2;obtain⟨k',e1,e2,-⟩:=hw.var v h1;have:k=k':=by omega
 subst this;rw[z6c g.cells e2];exact h v k h1 h2 e2
theorem zq2:∀(m:Nat) {t:Tm}{U:Nat->Prop}{σ:SS},SizeOf.sizeOf t < m->WF U σ->(∀a,U a->a < σ.cells.length)->Fine t->BdA t->(∀v∈occ t,okV σ v)->Unb σ->(∀u∈σ.consts,AtF u) ->
  RD (layS σ t).1 σ.cells.length (layS σ t).2 t/\∀u∈(layS σ t).1.consts,AtF u
 |0,_,_,_,h,_,_,_,_,_,_,_=>by omega
 |m+1,t,U,σ,hsz,h,hU,hf,hb,hocc,hu,hc=>by
  have hbl:=z1h (z1b hf.node).2.2.1;by_cases k1:t.kind=1
  ·rw[z68 k1];have hv:=hocc t.var (by rw[z3d,if_pos k1];simp);obtain⟨n,en⟩:=Zk hv.1;have hn:n < σ.vars.length:=by have:=hv.2.1;omega
   obtain⟨k,h1,h2,h3⟩:=h.var n hn;have et:t=varTm (n:Int):=by
    conv=>lhs;rw[zhg t]
    rw[k1,hbl.1 (by omega) (by omega),hbl.2.1 (by omega),hbl.2.2.1 (by omega),hbl.2.2.2.2 (by omega),en];rfl
   refine⟨?_,hc⟩;show RD σ _ (2,gi σ.vars t.var) t;rw[en,h1]
   conv=>arg 4;rw[et]
   exact .var n k h1 hn h2 (hu n k hn h1 h2) (by rw[h3];omega)
  ·by_cases k5:t.kind=5
   ·have hW:=zhe (m+1) hsz h hU hf hb hocc;rw[z4n k5] at hW ⊢;have hn:t.args.length<=64:=z4y hf;have hH:=zm8 (nm:=t.name) (n:=t.args.length) h hn hb.bd.name;have hg:=za8 σ (t.name,(t.args.length:Int)) t.args.length;have hgr:=z93 σ (t.name,(t.args.length:Int)) t.args.length;have hlo:=h.lo;have e3:∀i,i < t.args.length->gi (layH σ (t.name,(t.args.length:Int)) t.args.length).own ((σ.cells.length+1+i:Nat):Int)=-2:=fun i hi=>by rw[<-hlo];exact zm7 hi
    have e2:ci (layH σ (t.name,(t.args.length:Int)) t.args.length).cells (σ.cells.length:Nat)=(5,((functorS σ (t.name,(t.args.length:Int))).2:Int)):=by show ci (σ.cells++[_]++List.replicate _ (0,0)) _=_;rw[ZF];exact zhc
    have hcH:∀u∈(layH σ (t.name,(t.args.length:Int)) t.args.length).consts,AtF u:=by rw[hg.2.2.2.2.2.2.1];exact hc
    have key:∀i,i<=t.args.length->WF (fun a=>U a\/(σ.cells.length+1+i<=a/\a < σ.cells.length+1+t.args.length)) (layA (layH σ (t.name,(t.args.length:Int)) t.args.length) σ.cells.length 0 (t.args.take i)) /\
      Grow σ (layA (layH σ (t.name,(t.args.length:Int)) t.args.length) σ.cells.length 0 (t.args.take i))/\(layH σ (t.name,(t.args.length:Int)) t.args.length).own <+: (layA (layH σ (t.name,(t.args.length:Int)) t.args.length) σ.cells.length 0 (t.args.take i)).own /\
      (layH σ (t.name,(t.args.length:Int)) t.args.length).funs <+: (layA (layH σ (t.name,(t.args.length:Int)) t.args.length) σ.cells.length 0 (t.args.take i)).funs /\
      σ.cells.length+1+t.args.length<=(layA (layH σ (t.name,(t.args.length:Int)) t.args.length) σ.cells.length 0 (t.args.take i)).cells.length /\
      ci (layA (layH σ (t.name,(t.args.length:Int)) t.args.length) σ.cells.length 0 (t.args.take i)).cells (σ.cells.length:Nat)=(5,((functorS σ (t.name,(t.args.length:Int))).2:Int)) /\
      (∀u∈(layA (layH σ (t.name,(t.args.length:Int)) t.args.length) σ.cells.length 0 (t.args.take i)).consts,AtF u) /\
      ∀j u,j < i->t.args[j]?=some u->RD (layA (layH σ (t.name,(t.args.length:Int)) t.args.length) σ.cells.length 0 (t.args.take i)) (σ.cells.length+1+t.args.length) (ci (layA (layH σ (t.name,(t.args.length:Int)) t.args.length) σ.cells.length 0 (t.args.take i)).cells ((σ.cells.length+1+j:Nat):Int)) u:=by
     intro i
     induction i with
     |zero=>intro _;rw[List.take_zero,layA,Nat.add_zero];exact⟨hH,hgr,Zz _,Zz _,by rw[hg.2.2.2.2.1];exact Ze _,e2,hcH,fun j u hj=>by omega⟩
     |succ i ih =>
      intro hi;have hlt:i < t.args.length:=by omega
      obtain⟨i1,i2,i3,i4,i5,i6,i7,i8⟩:=ih (by omega);have hAv:=(zde (σ:=layH σ (t.name,(t.args.length:Int)) t.args.length) (at':=σ.cells.length) (l:=t.args) (fun u _ σ=>z7b _ u (Zf _) σ) i (by omega)).vars;rw[z69 hlt];generalize layA (layH σ (t.name,(t.args.length:Int)) t.args.length) σ.cells.length 0 (t.args.take i)=τ at *;have hum:=ZD hlt;have hcl:=i2.cells.length_le;have hev:=hAv.trans hg.1;have hocc':∀v∈occ t.args[i],okV τ v:=fun v hv=>by
       have:=hocc v (z7i hum hv);unfold okV at this ⊢;rw[hev];exact this
      have hUU:∀a,(U a\/(σ.cells.length+1+i<=a/\a < σ.cells.length+1+t.args.length))->a < τ.cells.length:=fun a ha=>by rcases ha with ha|ha;have:=hU a ha;omega;omega
      have hsz':SizeOf.sizeOf t.args[i] < m:=by have:=z0g hum;omega
      obtain⟨j1,j2,j3⟩:=zhe m (t:=t.args[i]) hsz' i1 hUU (hf.args _ hum) (hb.args _ hum) hocc';obtain⟨r1,r2⟩:=zq2 m (t:=t.args[i]) hsz' i1 hUU (hf.args _ hum) (hb.args _ hum) hocc' (hu.grow h i2 hev) i7;have ho:gi (layS τ t.args[i]).1.own ((σ.cells.length+1+i:Nat):Int)=-2:=by
       have h1:σ.cells.length+1+i < (layH σ (t.name,(t.args.length:Int)) t.args.length).own.length:=by rw[hg.2.2.2.2.2.1,hlo];omega
       rw[z2o (i3.trans j3.own) h1];exact e3 i hlt
      have hc1:=j3.cells.length_le;have hci:∀n:Nat,n≠σ.cells.length+1+i->ci ((layS τ t.args[i]).1.cells.set (σ.cells.length+1+i) (layS τ t.args[i]).2) n=ci (layS τ t.args[i]).1.cells n:=fun n hn=>by rw[z57 (by omega),if_neg hn]
      refine⟨j1.fill (by omega) ho j2 (fun b hb hbu=>?_),zhd (i2.trans j3) (by omega),i3.trans j3.own,i4.trans j3.funs,by simp only[Zy];omega,?_,r2,fun j u hj hju=>?_⟩
      ·rcases hbu with hbu|hbu
       ·exact .inl hbu
       ·exact .inr ⟨by omega,by omega⟩
      ·show ci ((layS τ t.args[i]).1.cells.set _ _) (σ.cells.length:Nat)=_;rw[hci _ (by omega),z6c j3.cells (by omega)];exact i6
      ·show RD _ _ (ci ((layS τ t.args[i]).1.cells.set (σ.cells.length+1+i) (layS τ t.args[i]).2) ((σ.cells.length+1+j:Nat):Int)) u;by_cases hji:j=i
       ·subst hji;rw[Zc hlt] at hju;cases hju;rw[z57 (by omega),if_pos rfl];exact(r1.low i5).set (by omega) (by omega) (by rw[ho];omega)
       ·rw[hci _ (by omega),z6c j3.cells (by omega)];exact((i8 j u (by omega) hju).grow j3 i1.lo).set (by omega) (by omega) (by rw[ho];omega)
    obtain⟨q1,q2,q3,q4,q5,q6,q7,q8⟩:=key t.args.length (Ze _);rw[List.take_length] at q1 q2 q3 q4 q5 q6 q7 q8;refine⟨?_,q7⟩;have et:t=.mk 5 t.name e0 0 0 t.args:=by
     conv=>lhs;rw[zhg t]
     rw[k5,hbl.2.1 (by omega),hbl.2.2.1 (by omega),hbl.2.2.2.1 (by omega)]
    conv=>arg 4;rw[et]
    refine .str σ.cells.length (functorS σ (t.name,(t.args.length:Int))).2 t.name t.args (Ze _) (by simp only;omega) q6 (zfe q4 (zff σ _)) (fun i hi=>by simp only;omega) fun i u hiu=>?_
    exact(q8 i u (List.getElem?_eq_some_iff.1 hiu).1 hiu).low (by omega)
   ·rw[z4m k1 k5];have ha:=zj9 hc (t:=t) ⟨hf,k1,k5⟩;exact⟨.con _ t ha.1 (hbl.2.2.2.2 k5),ha.2⟩
end Go.Proofs.hq
end

section
namespace Go.Proofs.hq
open Go Go.RowKit Go.Hb
theorem zmb:∀n,Unb (mkN n)
 |0=>fun v k hv _ _=>by simp [mkN,noS] at hv
 |n+1=>fun v k hv hk hc=>by
  have h:=z5n n;have e1:(mkN (n+1)).vars=(mkN n).vars++[((mkN n).cells.length:Int)]:=rfl;have e2:(mkN (n+1)).cells=(mkN n).cells++[(1,((mkN n).vars.length:Int))]:=rfl;rw[e1] at hv hk;rw[e2] at hc ⊢;simp only[Zm,List.length_cons,List.length_nil] at hv hc;by_cases q:v < (mkN n).vars.length
  ·rw[z2o (List.prefix_append _ _) q] at hk;obtain⟨k',h1,h2,-⟩:=(zdt n).var v q;have:k=k':=by omega
   subst this;rw[z6c (List.prefix_append _ _) h2];exact zmb n v k q hk h2
  ·have ev:v=(mkN n).vars.length:=by omega
   rw[ev,zdr] at hk;have ek:k=(mkN n).cells.length:=by omega
   rw[ek,zhc,ev]
structure BI (ρ σ:SS) (w k:Nat):Prop where
 wf:WF noU σ
 tr:∀x∈σ.trail,TrOk σ x
 back:Back ρ σ
 mk0:σ.marks[0]?=some (lens ρ)
 fv:σ.vars.length<=6+k
 fc:σ.cells.length<=6+2*w+k
 fk:σ.consts.length<=w
 ff:σ.funs.length<=w
 ft:σ.trail.length<=k
 fm:σ.marks.length<=1+k
theorem BI.lay {ρ σ:SS}{w k:Nat}(h:BI ρ σ w k) {t:Tm}(hb:BdA t):BI ρ (layV σ t).1 (w+nd t) k:=by
 obtain⟨a1,a2,a3,a4,a5,a6,a7,a8,a9⟩:=zbk h.wf hb;refine⟨a1,fun x hx=>?_,h.back.grow a2 a4 h.wf.lf h.tr,by rw[a5];exact h.mk0,by rw[a6];exact h.fv,by have:=h.fc;omega,by have:=h.fk;omega,by have:=h.ff;omega,by rw[a4];exact h.ft,by rw[a5];exact h.fm⟩;rw[a4] at hx;exact(h.tr x hx).grow a2
theorem BI.le {ρ σ:SS}{w k w' k':Nat}(h:BI ρ σ w k) (hw:w<=w') (hk:k<=k'):BI ρ σ w' k' :=
 ⟨h.wf,h.tr,h.back,h.mk0,by have:=h.fv;omega,by have:=h.fc;omega,by have:=h.fk;omega,by have:=h.ff;omega,by have:=h.ft;omega,by have:=h.fm;omega⟩
theorem BI.bind {ρ σ:SS}{w k:Nat}(h:BI ρ σ w k) (v:Int) (c:Int × Int):BI ρ (bindS σ v c).1 w (k+1):=by
 obtain⟨hw,hs⟩:=h.wf.bind (v:=v) (c:=c);have hbk:=h.back.bind (v:=v) (c:=c) h.wf;rcases hs with e|⟨n,k',rfl,hn,ek,hk,hcc,e⟩
 ·rw[e];exact h.le (Ze _) (Nat.le_succ _)
 ·rw[e] at hw hbk ⊢;refine⟨hw,fun x hx=>?_,hbk,h.mk0,Nat.le_succ_of_le h.fv,by simp only[Zy];exact Nat.le_succ_of_le h.fc,h.fk,h.ff,by have:=h.ft;simp;omega,Nat.le_succ_of_le h.fm⟩;have hx':x∈σ.trail++[(0,(n:Int))]:=hx;rcases List.mem_append.1 hx' with q|q
  ·exact(h.tr x q).same rfl (by simp)
  ·rw[Zx] at q;subst q;exact⟨.inl rfl,n,k',rfl,hn,ek,by simp;exact hk⟩
theorem BI.mark {ρ σ:SS}{w k:Nat}(h:BI ρ σ w k):BI ρ { σ with marks:=σ.marks++[lens σ] } w (k+1) :=
 ⟨h.wf.other rfl,h.tr,h.back.marks _,by
  have hl:0 < σ.marks.length:=(List.getElem?_eq_some_iff.1 h.mk0).1;show (σ.marks++[_])[0]?=_;rw[ZI hl];exact h.mk0,Nat.le_succ_of_le h.fv,Nat.le_succ_of_le h.fc,h.fk,h.ff,Nat.le_succ_of_le h.ft,by have:=h.fm;simp;omega⟩
theorem BI.start {t:Tm}(hb:BdA t):BI (layV (mkN 6) t).1 { (layV (mkN 6) t).1 with marks:=(layV (mkN 6) t).1.marks++[lens (layV (mkN 6) t).1] } (nd t) 0:=by
 have h:=z5n 6;obtain⟨a1,a2,a3,a4,a5,a6,a7,a8,a9⟩:=zbk (zdt 6) hb;rw[h.2.2.2.2.2.2.1] at a4;rw[h.2.2.2.2.2.2.2] at a5;rw[h.2.1] at a7;rw[h.2.2.2.2.1] at a8;rw[h.2.2.2.2.2.1] at a9;have a6':(layV (mkN 6) t).1.vars.length=6:=by rw[a6];exact h.1
 refine⟨a1.other rfl,fun x hx=>?_,(Back.refl _).marks _,by rw[a5];rfl,Nat.le_of_eq a6',a7,by show (layV (mkN 6) t).1.consts.length<=_;simp only[List.length_nil] at a8;omega,by show (layV (mkN 6) t).1.funs.length<=_;simp only[List.length_nil] at a9;omega,by rw[a4];exact Ze _,by rw[a5];exact Ze _⟩;rw[a4] at hx;cases hx
theorem BI.undo {ρ σ:SS}{w k:Nat}(h:BI ρ σ w k) (hρ:WF noU ρ):undoS σ 0 ρ.trail.length ρ.cells.length ρ.vars.length={ ρ with consts:=σ.consts,funs:=σ.funs,marks:=σ.marks.take 1 } :=
 (zac (n:=0) h.back).resolve_right fun q=>by rcases q with q|q;exact q hρ.lf;exact q hρ.lo
theorem BI.grow {ρ σ:SS}{w k:Nat}(h:BI ρ σ w k):Grow ρ { ρ with consts:=σ.consts,funs:=σ.funs,marks:=σ.marks.take 1 }:=(Grow.undo h.back).other _ _
theorem BI.varb {ρ σ:SS}{w k:Nat}(h:BI ρ σ w k) (hk:k<=149796) (hw:w<=149796):VarB σ:=fun n hn=>by
 obtain⟨k,h1,h2,-⟩:=h.wf.var n hn;have:=h.fc;rw[h1];omega
theorem BI.few {ρ σ:SS}{w k n:Nat}(h:BI ρ σ w k) (hw:w+n<=149796) (hk:k<=149796):σ.cells.length+2*n+1<=most/\σ.own.length+1<=most/\σ.vars.length+1<=most/\σ.flags.length+1<=most/\σ.consts.length+n<=most/\σ.funs.length+n<=most/\σ.trail.length+1<=most/\σ.marks.length+1<=most:=by
 have:=h.fc;have:=h.fk;have:=h.ff;have:=h.fv;have:=h.ft;have:=h.fm;have:=h.wf.lo;have:=h.wf.lf;unfold most;omega
end Go.Proofs.hq
end

section
namespace Go.Proofs.hq
open Go Go.RowKit Go.Hb
variable {ok:Ok}
set_option maxRecDepth 10000
attribute [local irreducible] LX LG EL STG SOP SGO SGD SAL SRD SEF SEG SLK SCK ES
structure OpV where
 kind:Int
 num:Int
 tm:Tm
 cell:Int × Int
structure RepO15 (H:Heap) (B:List OpV) (a:Option Addr) (c:Nat):Prop where
 len:B.length<=c
 cap:c<=maxLen
 el:∀(i:Nat) (h:i < B.length),∃b o a' c',a=some ⟨b,o,none⟩/\H.load ⟨b,o+i*15+1,none⟩ 1=some [.int .i64 B[i].kind]/\H.load ⟨b,o+i*15+2,none⟩ 1=some [.int .i64 B[i].num] /\
  H.load ⟨b,o+i*15+3,none⟩ 6=some (six B[i].tm a' c')/\H.load ⟨b,o+i*15+9,none⟩ 2=some [.int .i64 B[i].cell.1,.int .i64 B[i].cell.2]/\RepT H B[i].tm (six B[i].tm a' c')
theorem RepO15.mono {H H':Heap}{B:List OpV}{a:Option Addr}{c:Nat}(h:RepO15 H B a c) (hx:HX H H') (hw:H.wf):RepO15 H' B a c :=
 ⟨h.len,h.cap,fun i hi=>by obtain⟨b,o,a',c',e,l1,l2,l3,l4,r⟩:=h.el i hi;exact⟨b,o,a',c',e,hx.load hw l1,hx.load hw l2,hx.load hw l3,hx.load hw l4,r.mono hx hw⟩⟩
set_option maxHeartbeats 4000000 in
theorem zs4 {H:Heap}{B s n:Nat}{σ:SS}(hs:St H B s σ) (hw:H.wf) (hn:n < σ.cells.length) :
  EvF Tryz.prog okT 37 [.pointer (some ⟨s,0,none⟩),.int .i64 (n:Nat)] H fun r H'=>r=.tuple ⟨[.agg ⟨two (ci σ.cells n)⟩,.int .i64 0]⟩/\HX H H':=by
 refine EvF.enter rfl Tryz.func37 (by decide) rfl ?_;(repeat refine qZa ?_);refine qZb ?_;simp only[sA,initTm,dAlloc,zr42];obtain⟨H1,e1,hx1,g1,n1,w1⟩:=new1 hw (.row (two (0,0)) 42);simp only[e1];have hs1:=hs.keep hw hx1;obtain⟨a0,c0,a1,c1,a2,c2,a3,c3,a4,c4,a5,c5,r6,r7,a8,c8,a9,c9,h,l0,l1,l2,l3,l4,l5,l6,l7,l8,l9,b0,b1,b2,b3,b4,b5,b8,b9⟩:=hs1.open;obtain⟨b,rfl,o,ld⟩:=h.el (i:=0) (k:=n) (x:=two (ci σ.cells n)) rfl rfl (by rw[Zj,z35 hn];rfl);have d1:decide ((n:Int) < 0)=false:=decide_eq_false (by omega);have d2:decide ((n:Int) >= (σ.cells.length:Int))=false:=decide_eq_false (by omega)
 repeat' (first|refine qZa ?_|refine qZg ?_|(refine qZe ?_;try simp only[sA])|(refine qZf ?_)|(refine qZb ?_;simp (disch:=first|omega|rfl) only[sB,Za,Zb,one,reduceCtorEq,st42,z1n,ld27,ln27,ia27,ld42,z07,z0a,bEqP,l0,ld,d1,d2,g1,Zd])|(refine qZm ?_ ?_;simp only[sB,Za,reduceCtorEq];refine z01 ?_))
 exact z0d rfl (by simp only[sB,Za,reduceCtorEq];rfl) (by simp only[sB,Zb,cutC,ld42]) (by simp only[sG,Za,reduceCtorEq]) ⟨rfl,hx1.pt (Ze _) g1 _⟩
section
variable {P:Program}{ok:Ok}{fn:Func}{tm:Tr Value}{H:Heap}{K:Value->Heap->Prop}
theorem z7c {a q r:Tmp}{t:TypeId}{ad:Addr}{v u y:Value}(h:fn.results.toList=[.cell a t,.tmp q,.tmp r]) (hv:tm.get a=some (.pointer (some ad))) (hd:dLoad P t (.pointer (some ad)) H=some (.val v H)) (hu:tm.get q=some u) (hy:tm.get r=some y)
  (hk:K (.tuple ⟨[v,u,y]⟩) H):Ex.leave P ok fn K .ret ⟨tm,[],H⟩:=by
 refine EvV.now (v:=.tuple ⟨[v,u,y]⟩) ?_ hk;have hd':dload P t ad H=some v:=by
  simp only[dLoad] at hd;cases hx:dload P t ad H with
  |none=>rw[hx] at hd;cases hd
  |some u=>rw[hx] at hd;simp only[Option.map_some,Option.some.injEq,Dr.val.injEq] at hd;rw[hd.1]
 simp only[dres,h,dresL,dres1,hv,hd',hu,hy,Option.getD_some]
end
theorem z7k {cells:List (Int × Int)}{m:Nat}{c d:Int × Int}(h:Der cells m c d) (hc:c.1≠2):d=c:=by
 cases h with
 |stop _=>rfl
 |var k=>exact absurd k hc
 |go k=>exact absurd k hc
theorem isSC:isSl Tryz.prog 27=true:=by kernel_rfl
theorem zvf {H:Heap}{x y:Operand}{a:Addr}{n c:Nat}:dBin Tryz.prog .eql 27 x y (.slice (some a) n c) (.slice none 0 0) H=some (.val (.bool false) H):=by
 simp only[dBin,dnil,isSC,nilEq,if_true]
set_option maxHeartbeats 4000000 in
theorem zog {H:Heap}{L:List (Int × Int)}{b o c:Nat}(hw:H.wf) (h0:0 < L.length) (hm:L.length<=most) (hl:H.load ⟨b,o,none⟩ (L.length*2)=some (L.map two).flatten) :
  EvF Tryz.prog okT 106 [.slice (some ⟨b,o,none⟩) L.length c] H fun r H'=>HX H H'/\∃p,r=.slice (some ⟨p,0,none⟩) L.length L.length/\H'.get p=some (.row (L.map two).flatten 42)/\H.next<=p:=by
 have ean:apOk Tryz.prog 27 42 2:=ap27;have hone:(L.map two).flatten.all one=true:=by
  rw[List.all_eq_true];intro z hz;obtain⟨l,hl1,hl2⟩:=List.mem_flatten.1 hz;obtain⟨x,-,rfl⟩:=List.mem_map.1 hl1;simp only[List.mem_cons,List.not_mem_nil,or_false] at hl2;rcases hl2 with rfl|rfl<;>rfl
 refine EvF.enter rfl Tryz.func106 (by decide) rfl ?_;(repeat refine qZa ?_);refine qZb ?_;simp only[sA,initTm];(repeat refine qZa ?_);refine qZb ?_;simp only[sB,Za,reduceCtorEq,zvf];refine qZm (by simp only[sB,Za,reduceCtorEq]) ?_;(try refine qZe ?_);(try simp only[z00,z0b]);obtain⟨H1,e1,hx1,g1,n1,w1⟩:=new1 hw (.row [] 42);have e7:=z5g (P:=Tryz.prog) (n:=0) (c:=0) (c':=c) ean h0 (by omega) (hx1.load hw hl) hone g1 (by simp) (by simp);simp only[Nat.zero_add,Nat.zero_mul,List.take_zero,List.nil_append] at e7;have hx2:=(hx1.put (i:=H.next) (Ze _) (by omega) none).new (some (.row (L.map two).flatten 42))
 repeat' (first|refine qZa ?_|(refine qZf ?_)|(refine qZb ?_;simp only[sB,Za,Value.cells,reduceCtorEq,layC,zt2,e1,e7]))
 exact z03 rfl (by simp only[sB,Za,reduceCtorEq]) ⟨hx2,_,rfl,z0z,by show H.next<=H1.next;omega⟩
set_option maxHeartbeats 4000000 in
theorem zbl {H:Heap}{B s p f:Nat}{σ:SS}{nm:ByteArray}{n:Nat}(hs:St H B s σ) (hw:H.wf) (ho:σ.own.length=σ.cells.length) (hmay:mayS σ (4,(p:Int))=true) (hn1:0 < n) (hn2:n<=64) (h1:ci σ.cells p=(5,(f:Int))) (h2:σ.funs[f]?=some (nm,(n:Int))) (h3:p+1+n<=σ.cells.length) (hp:p < σ.cells.length) :
  EvF Tryz.prog okT 67 [.pointer (some ⟨s,0,none⟩),.agg ⟨two (4,(p:Int))⟩] H fun r H'=>HX H H'/\∃q,r=.tuple ⟨[.agg ⟨keyC (nm,(n:Int))⟩,.slice (some ⟨q,0,none⟩) n n,.int .i64 0]⟩/\H'.get q=some (.row (((σ.cells.drop (p+1)).take n).map two).flatten 42)/\H.next<=q:=by
 have hfl:=(List.getElem?_eq_some_iff.1 h2).1;refine EvF.enter rfl Tryz.func67 (by decide) rfl ?_;(repeat refine qZa ?_);refine qZb ?_;simp (config:=qZc) (disch:=first|omega|rfl) only[sB,initTm,dBox,dAlloc,Value.cells,one,reduceCtorEq,zik];obtain⟨H1,e1,hx1,g1,g2,n1,w1⟩:=new2 hw (.row (two (4,(p:Int))) 42) (.row (keyC (Zh,0)) 116);simp only[e1];have q1:=z0l g1;(repeat refine qZa ?_);refine qZb ?_;simp (config:=qZc) only[sB,Za,reduceCtorEq,ld42,cl64,q1];refine(z3v (hs.keep hw hx1) w1 ho (fun _=>⟨0,_,Der.stop (c:=(4,(p:Int))) (show (4:Int)≠2 by decide)⟩)).mono ?_;rintro r H2 ⟨d,e,rfl,hd,hx2⟩;rw[if_pos hmay] at hd;obtain⟨rfl,m,hdr⟩:=hd;have hdd:=z7k hdr (show (4:Int)≠2 by decide);subst hdd;(try simp (config:=qZc) (disch:=first|omega|rfl) only[sB,dAlloc,Za,Zb,one,reduceCtorEq,zr42,st42]);obtain⟨H3,e3,hx3,g3,n3,w3⟩:=z0o hx2.wf (.row [.int .i64 0,.int .i64 0] 42) (.row (two (4,(p:Int))) 42);simp only[e3];have q3:=z0l g3;have hx13:=hx2.trans hx3;have hs3:=(hs.keep hw hx1).keep w1 hx13;have g2:=hx13.get w1 g2
 obtain⟨a0,c0,a1,c1,a2,c2,a3,c3,a4,c4,a5,c5,r6,r7,a8,c8,a9,c9,h,l0,l1,l2,l3,l4,l5,l6,l7,l8,l9,b0,b1,b2,b3,b4,b5,b8,b9⟩:=hs3.open;obtain⟨b,rfl,o,ld⟩:=h.el (i:=0) (k:=p) (x:=two (ci σ.cells p)) rfl rfl (by rw[Zj,z35 hp];rfl);obtain⟨b2,rfl,o2,ld2⟩:=h.el (i:=5) (k:=f) (x:=keyC (nm,(n:Int))) rfl rfl (by rw[Zj,h2];rfl);have lp:=o.part (i:=p) (j:=1) (n:=1) (x:=two (ci σ.cells p)) (by rw[Zj,z35 hp];rfl) (by omega);have lp':H3.load ⟨b,p*2+1,none⟩ 1=some [.int .i64 (f:Nat)]:=by rw[lp,h1];rfl
 obtain⟨H4,e4,hx4,g4,w4⟩:=zo8 w3 17 15 (by omega) (.row [.string Zh,.int .i64 0] 116) (.row (keyC (nm,(n:Int))) 116);have q4:=z0l g4;have l0x:=hx4.load w3 l0;have q3x:=z0l (hx4.get w3 g3);have hc0:=b0.2;have hml:maxLen=9223372036854775807:=rfl;have hbl:=b0.1;have e5:IntKind.i64.wrap ((p:Int)+1)=((p+1:Nat):Int):=by rw[z05]<;>omega
 have e6:IntKind.i64.wrap (((p+1:Nat):Int)+(n:Int))=((p+1+n:Nat):Int):=by rw[z05]<;>omega
 obtain⟨cs0,gcs,hcs1,hcs2⟩:=o.row;have hx5:HX H4 ⟨H4.next+19,H4.t⟩:=(HX.refl w4).bump 19;have gcs5:=hx5.get w4 (hx4.get w3 gcs);have es:=zni (P:=Tryz.prog) (t:=27) (k:=.i64) (k':=.i64) (o:=0) (n:=σ.cells.length) (c:=c0) (l:=p+1) (m:=p+1+n) sl27 (by omega) (by omega) (by omega) (by omega) gcs5 (.inl ⟨_,rfl⟩);rw[show p+1+n - (p+1)=n by omega,Nat.zero_add] at es;have hL:((σ.cells.drop (p+1)).take n).length=n:=by rw[ZH,List.length_drop];omega
 have hfl2:∀l:List (Int × Int),(l.map two).flatten.length=l.length*2:=fun l=>by rw[z2r (s:=2) _ (fun x hx=>by obtain⟨y,-,rfl⟩:=List.mem_map.1 hx;rfl),Zp]
 have hld:Heap.load ⟨H4.next+19,H4.t⟩ ⟨b,(p+1)*2,none⟩ (((σ.cells.drop (p+1)).take n).length*2)=some ((((σ.cells.drop (p+1)).take n).map two).flatten):=by
  rw[hL];unfold Heap.load Heap.cells;simp only[gcs5];have hz:(σ.cells.map two).length*2<=cs0.length:=hcs1;rw[Zp] at hz;have e1:(cs0.drop ((p+1)*2)).take (n*2)=(((σ.cells.drop (p+1)).take n).map two).flatten:=by
   have e2:(cs0.drop ((p+1)*2)).take (n*2)=((cs0.take (σ.cells.length*2)).drop ((p+1)*2)).take (n*2):=by
    rw[List.drop_take,List.take_take,Nat.min_eq_left (by omega)]
   have e3:cs0.take (σ.cells.length*2)=(σ.cells.map two).flatten:=by have:=hcs2;rwa [Zp] at this
   rw[e2,e3];have e4:(σ.cells.map two).flatten=((σ.cells.take (p+1)).map two).flatten++(((σ.cells.drop (p+1)).take n).map two).flatten++(((σ.cells.drop (p+1)).drop n).map two).flatten:=by
    rw[<-List.flatten_append,<-List.flatten_append,<-ZK,<-ZK,ZF,List.take_append_drop,List.take_append_drop]
   rw[e4,ZF,List.drop_left' (by rw[hfl2,ZH];omega),List.take_left' (by rw[hfl2,hL])]
  rw[if_pos (by rw[Zu,ZH,List.length_drop];omega),e1]
 repeat' (first|refine qZa ?_|refine qZg ?_|(refine qZe ?_;try simp only[sA])|(refine qZb ?_;simp (config:=qZc) only[sB,Za,reduceCtorEq,z0w,ld3,q3,z13 rfl])|(refine qZj (id:=6) [([(0,0),(1,0),(2,0),(3,0),(4,0),(5,0),(6,0),(7,0),(8,0),(9,0),(10,0),(11,0),(12,0),(13,0),(14,0),(15,0)],some 16),([],none)] ?_ ?_;kernel_rfl;simp (config:=qZc) (disch:=first|omega|rfl) only[sD,sB,dAlloc,Za,Zb,one,reduceCtorEq,zik,zil,ld3,zgu,ld33,z1n,ld27,z21,ia27,ia33,zb4,z07,z0a,q3,l0,l5,lp',ld2,e4,isAlloc,isRead,dalloc])|(refine qZj (id:=7) [([(1,0),(2,0),(3,0),(4,0),(5,0),(6,0),(7,0),(8,0),(9,0),(10,0),(11,0),(12,0),(13,0),(14,0)],some 15),([(0,0)],some 16),([(17,2),(18,2)],none)] ?_ ?_;kernel_rfl;simp (config:=qZc) only[sD,sB,Za,Zb,reduceCtorEq,ld3,z1n,ld27,z21,zb5,zug,z07,z0a,q4,l0x,q3x,e5,e6,es,isAlloc,isRead])|(refine qZm ?_ ?_;simp (config:=qZc) only[sB,Za,reduceCtorEq];refine z01 ?_))
 rw[<-hL];refine(zog hx5.wf (by rw[hL];exact hn1) (by rw[hL];unfold most;omega) hld).mono ?_;rintro v H6 ⟨hx6,q,rfl,gq,hq⟩;have g26:=hx6.get hx5.wf (hx5.get w4 (hx4.get w3 g2));rw[hL];have q46:=z0l (hx6.get hx5.wf (hx5.get w4 g4))
 repeat' (first|(refine qZf ?_)|(refine z0p ?_;simp (config:=qZc) (disch:=first|omega|rfl) only[sV,sD,sB,Za,Zb,one,reduceCtorEq,zil,zb4,g26,q46,q4,isAlloc,isRead]))
 have hxE:=((hx1.trans hx13).trans (hx4.trans hx5)).trans hx6;have nq:H4.next+19<=q:=hq;have n4:=(hx1.trans (hx13.trans hx4)).next;have hz:=hxE.pt (i:=H.next+1) (by omega) g26 (some (.row (keyC (nm,(n:Int))) 116));refine z7c rfl (by simp only[sB,Za,reduceCtorEq];rfl) (by simp only[sB,Zb,cutC,zb4]) (by simp only[sG,Za,reduceCtorEq]) (by simp only[sG,Za,reduceCtorEq]) ⟨hz,q,rfl,?_,by omega⟩;rw[get_put,if_neg (by omega)];exact gq
end Go.Proofs.hq
end

section
namespace Go.Proofs.hq
open Go Go.RowKit Go.Hb
def flatT (t:Tm):Tm:=if t.kind=5 then .mk 5 t.name Zh 0 0 (List.replicate t.args.length (.mk 2 ⟨#[97]⟩ Zh 0 0 [])) else t
def ordP:List (Tm × Tm)->Int
 |[]=>0
 |p :: r=>orZ (ordT p.1 p.2) (ordP r)
end Go.Proofs.hq
end

section
namespace Go.Proofs.hq
open Go Go.RowKit Go.Hb
variable {ok:Ok}
set_option maxRecDepth 10000
attribute [local irreducible] LX LG EL STG SOP SGO SGD SAL SRD SEF SEG SLK SCK ES
mutual
def sub (σ:Int->Tm):Tm->Tm
 |.mk k s u b v l=>if k=1 then σ v else .mk k s u b v (subL σ l)
def subL (σ:Int->Tm):List Tm->List Tm
 |[]=>[]
 |t :: l=>sub σ t :: subL σ l
end
structure ByAll (g:FuncId) (cap:Array Value) (σ:Int->Tm) (J:Heap->Prop):Prop where
 step:∀n H,i64 n->J H->H.wf->EvF Tryz.prog okT g ([.int .i64 n]++cap.toList) H fun v H'=>(∃cs,v=.tuple #[.agg ⟨cs⟩,.bool true]/\RepT H' (σ n) cs)/\HX H H'
 stay:∀H H',J H->HX H H'->J H'
 fine:∀n,0<=n->Fine (σ n)
def varT (i:Int):Tm:=.mk 1 Zh Zh 0 i []
def plcZ (L:List Int) (n:Int):Int:=((L.idxOf? n).getD 0:Nat)
theorem zoh {i:Int}(h:0<=i):Fine (varT i):=by
 unfold Fine;rw[z5i];have hn:nodeS (varT i)=0:=by
  have hv:¬i < 0:=by omega
  have hb:blankB (varT i)=true:=by
   have he:isE Zh=true:=by unfold isE;rw[show ByteArray.empty.toList=[] from z1u];rfl
   simp [blankB,varT,Tm.kind,Tm.name,Tm.num,Tm.bits,Tm.var,Tm.args,he]
  have hu:utfS Zh=true:=by decide +kernel
  unfold nodeS nodeE;rw[hb];simp [varT,Tm.kind,Tm.name,Tm.num,Tm.bits,Tm.var,Tm.args,hv,hu]
 rw[if_pos hn];simp [varT,Tm.args,allL]
def PlJ (L:List Int) (pm r:Nat) (H:Heap):Prop:=H.wf/\H.get pm=some (.row [.map (some r)] 146)/\∃M,MapR H r M/\∀m,mGet M m=(L.idxOf? m).map fun i:Nat=>Value.int .i64 (i:Int)
def plainL (l:List Tm):List Tm:=l.map (sub fun n=>varT (plcZ (uniq (occL l)) n))
def plain1 (t:Tm):Tm:=sub (fun n=>varT (plcZ (uniq (occ t)) n)) t
abbrev dot:ByteArray:=⟨#[46]⟩
def zeroT:Tm:=.mk 0 Zh Zh 0 0 []
def listed (l:List Tm) (e:Tm):Tm:=l.foldr (fun t u=>.mk 5 dot Zh 0 0 [t,u]) e
def totN:List Tm->Nat->Nat
 |[],n=>n
 |t :: l,n=>if 4000 < n then n else totN l (n+(1+cnt t 0))
def listE (l:List Tm) (e:Tm):Int:=if orZ (chkL l) (checkS e)=0 then (if 4000 < totN l (cnt e 0) then 24 else 0) else orZ (chkL l) (checkS e)
def listT (l:List Tm) (e:Tm):Tm:=if listE l e=0 then listed l e else zeroT
theorem zs5 (t:Tm):1<=cnt t 0:=by
 have mono:∀(l:List Tm),(∀t∈l,∀n,n<=cnt t n)->∀n,n<=cntL l n:=by
  intro l
  induction l with
  |nil=>intro _ n;rw[cntL];exact Ze _
  |cons t l ih =>
   intro h n;rw[cntL];split
   ·exact Ze _
   ·exact ZC (h t (by simp) n) (ih (fun u hu=>h u (Zl _ hu)) _)
 have key:∀(m:Nat) (t:Tm),SizeOf.sizeOf t < m->∀n,n+1<=cnt t n:=by
  intro m
  induction m with
  |zero=>intro t h;omega
  |succ m ih =>
   intro t h n;rw[z4x];exact mono _ (fun u hu k=>by have:=ih u (by have:=z0g hu;omega) k;omega) _
 exact key _ t (Zf _) 0
theorem zmc (t:Tm):cnt t 0<=4001:=zh0 _ t (Zf _) 0 (by omega)
end Go.Proofs.hq
end

section
namespace Go.Hb
open Go Go.RowKit
end Go.Hb
namespace Go.Proofs.hq
open Go Go.RowKit Go.Hb
variable {ok:Ok}
set_option maxRecDepth 10000
attribute [local irreducible] LX LG EL STG SOP SGO SGD SAL SRD SEF SEG SLK SCK ES
end Go.Proofs.hq
end

section
namespace Go.Hb
open Go Go.RowKit
section
variable {P:Program}{ok:Ok}{fn:Func}{tm:Tr Value}{H:Heap}{K:Value->Heap->Prop}
end
end Go.Hb
namespace Go.Proofs.hq
open Go Go.RowKit Go.Hb
variable {ok:Ok}
set_option maxRecDepth 10000
attribute [local irreducible] LX LG EL STG SOP SGO SGD SAL SRD SEF SEG SLK SCK ES
def elL:Tm->List Tm
 |.mk k s _ _ _ [x,y]=>if k=5/\s=dot then x :: elL y else []
 |_=>[]
def elR:Tm->Tm
 |.mk k s u b v [x,y]=>if k=5/\s=dot then elR y else .mk k s u b v [x,y]
 |t=>t
def isCons (t:Tm):Prop:=t.kind=5/\t.name=dot/\t.args.length=2
end Go.Proofs.hq
end

section
namespace Go.Proofs.hq
open Go Go.RowKit Go.Hb
variable {ok:Ok}
set_option maxRecDepth 10000
attribute [local irreducible] LX LG EL STG SOP SGO SGD SAL SRD SEF SEG SLK SCK ES
abbrev seven (n:Int) (t:Tm) (a:Option Addr) (c:Nat):List Value:=.int .i64 n :: six t a c
structure RepB7 (H:Heap) (B:List (Int × Tm)) (a:Option Addr) (c:Nat):Prop where
 len:B.length<=c
 cap:c<=maxLen
 el:∀(i:Nat) (h:i < B.length),∃b o a' c',a=some ⟨b,o,none⟩/\H.load ⟨b,o+i*7,none⟩ 7=some (seven B[i].1 B[i].2 a' c')/\RepT H B[i].2 (six B[i].2 a' c')
theorem RepB7.mono {H H':Heap}{B:List (Int × Tm)}{a:Option Addr}{c:Nat}(h:RepB7 H B a c) (hx:HX H H') (hw:H.wf):RepB7 H' B a c :=
 ⟨h.len,h.cap,fun i hi=>by obtain⟨b,o,a',c',e,l,r⟩:=h.el i hi;exact⟨b,o,a',c',e,hx.load hw l,r.mono hx hw⟩⟩
end Go.Proofs.hq
end

section
namespace Go.Hb
section
variable {α:Type}
structure Ordr (G:α->Prop) (cmp:α->α->Int):Prop where
 anti:∀x y,G x->G y->cmp y x=-(cmp x y)
 le:∀x y z,G x->G y->G z->cmp x y<=0->cmp y z<=0->cmp x z<=0
variable {G:α->Prop}{cmp:α->α->Int}
theorem Ordr.self (o:Ordr G cmp) {x:α}(h:G x):cmp x x=0:=by have:=o.anti x x h h;omega
def like (cmp:α->α->Int) (x:α) (l:List α):List α:=l.filter fun y=>cmp x y == 0
theorem z4a {x:α}(l m:List α):like cmp x (l++m)=like cmp x l++like cmp x m:=List.filter_append ..
structure Stb (G:α->Prop) (cmp:α->α->Int) (l m:List α):Prop where
 perm:l.Perm m
 eq:∀x,G x->like cmp x l=like cmp x m
theorem Stb.refl (l:List α):Stb G cmp l l:=⟨.refl _,fun _ _=>rfl⟩
theorem Stb.symm {l m:List α}(h:Stb G cmp l m):Stb G cmp m l:=⟨h.perm.symm,fun x hx=>(h.eq x hx).symm⟩
theorem Stb.trans {l m n:List α}(h:Stb G cmp l m) (k:Stb G cmp m n):Stb G cmp l n:=⟨h.perm.trans k.perm,fun x hx=>(h.eq x hx).trans (k.eq x hx)⟩
theorem Stb.append {l m l' m':List α}(h:Stb G cmp l m) (k:Stb G cmp l' m'):Stb G cmp (l++l') (m++m') :=
 ⟨h.perm.append k.perm,fun x hx=>by rw[z4a,z4a,h.eq x hx,k.eq x hx]⟩
theorem zhh {x:α}{l:List α}(h:∀y∈l,cmp x y≠0):like cmp x l=[]:=by
 unfold like;rw[List.filter_eq_nil_iff];intro y hy;simpa using h y hy
theorem Stb.swap (o:Ordr G cmp) {u v:List α}(hu:∀x∈u,G x) (hv:∀x∈v,G x) (h:∀x∈u,∀y∈v,cmp y x < 0):Stb G cmp (u++v) (v++u):=by
 refine⟨List.perm_append_comm,fun z hz=>?_⟩;rw[z4a,z4a];by_cases hc:∃x∈u,cmp z x=0
 ·obtain⟨x,hx,he⟩:=hc;have:like cmp z v=[]:=zhh fun y hy e=>by
   have h1:=h x hx y hy;have h2:=o.anti z y hz (hv y hy);have:=o.le y z x (hv y hy) hz (hu x hx) (by omega) (by omega);have h3:=o.anti z x hz (hu x hx);have:=o.le x z y (hu x hx) hz (hv y hy) (by omega) (by omega);have:=o.anti x y (hu x hx) (hv y hy);omega
  rw[this];simp
 ·have:like cmp z u=[]:=zhh fun y hy e=>hc ⟨y,hy,e⟩
  rw[this];simp
def Srt (cmp:α->α->Int) (l:List α):Prop:=l.Pairwise fun x y=>cmp x y<=0
theorem Srt.one (o:Ordr G cmp):∀{l m:List α},(∀x∈l,G x)->Srt cmp l->Srt cmp m->Stb G cmp l m->l=m
 |[],m,_,_,_,h=>by have:=h.perm.length_eq;exact(List.length_eq_zero_iff.1 this.symm).symm
 |x :: l,[],_,_,_,h=>by have:=h.perm.length_eq;simp at this
 |x :: l,y :: m,hg,h1,h2,h=>by
  have hgm:∀z∈y :: m,G z:=fun z hz=>hg z (h.perm.mem_iff.2 hz)
  have gx:=hg x (by simp);have gy:=hgm y (by simp);have hxy:cmp x y<=0:=by
   have hy:y∈x :: l:=h.perm.mem_iff.2 (by simp);rcases List.mem_cons.1 hy with e|hy
   ·rw[e,o.self gx];exact Int.le_refl _
   ·exact(List.pairwise_cons.1 h1).1 y hy
  have hyx:cmp y x<=0:=by
   have hx:x∈y :: m:=h.perm.mem_iff.1 (by simp);rcases List.mem_cons.1 hx with e|hx
   ·rw[e,o.self gy];exact Int.le_refl _
   ·exact(List.pairwise_cons.1 h2).1 x hx
  have a:=o.anti x y gx gy;have e0:=h.eq x gx;unfold like at e0;rw[List.filter_cons_of_pos (by simp [o.self gx]),List.filter_cons_of_pos (by simp;omega)] at e0;obtain⟨rfl,-⟩:=List.cons.inj e0;rw[Srt.one o (fun z hz=>hg z (Zl _ hz)) (List.pairwise_cons.1 h1).2 (List.pairwise_cons.1 h2).2 ⟨h.perm.cons_inv,fun z hz=>?_⟩];have:=h.eq z hz;unfold like at this ⊢;by_cases hc:cmp z x=0
  ·rw[List.filter_cons_of_pos (by simp [hc]),List.filter_cons_of_pos (by simp [hc])] at this;exact(List.cons.inj this).2
  ·rw[List.filter_cons_of_neg (by simp [hc]),List.filter_cons_of_neg (by simp [hc])] at this;exact this
def rowF (n:Nat) (D:Nat->α):List α:=(Zg n).map D
def segF (a n:Nat) (D:Nat->α):List α:=(List.range' a n).map D
theorem z7l {a n:Nat}{D:Nat->α}{x:α}:x∈segF a n D↔∃i,a<=i/\i < a+n/\D i=x:=by
 simp [segF,and_assoc]
theorem z50 {a m n:Nat}{D:Nat->α}:segF a (m+n) D=segF a m D++segF (a+m) n D:=by
 unfold segF;rw[<-ZK,List.range'_append_1]
theorem zhi {n:Nat}{D:Nat->α}:rowF n D=segF 0 n D:=by unfold rowF segF;rw[List.range_eq_range']
theorem z51 {a b n:Nat}{D E:Nat->α}(h:∀i,i < n->D (a+i)=E (b+i)):segF a n D=segF b n E:=by
 apply List.ext_getElem
 ·simp [segF]
 ·intro i h1 h2;simp [segF] at h1 ⊢;exact h i h1
structure Mv (G:α->Prop) (cmp:α->α->Int) (a b:Nat) (D E:Nat->α):Prop where
 out:∀k,k < a\/b<=k->E k=D k
 inn:∀k,a<=k->k < b->∃j,a<=j/\j < b/\E k=D j
 stb:∀n,b<=n->Stb G cmp (rowF n D) (rowF n E)
theorem Mv.refl {a b:Nat}(D:Nat->α):Mv G cmp a b D D:=⟨fun _ _=>rfl,fun k h1 h2=>⟨k,h1,h2,rfl⟩,fun _ _=>.refl _⟩
theorem Mv.trans {a b:Nat}{D E F:Nat->α}(h:Mv G cmp a b D E) (k:Mv G cmp a b E F):Mv G cmp a b D F :=
 ⟨fun i hi=>(k.out i hi).trans (h.out i hi),fun i h1 h2=>by
  obtain⟨j,j1,j2,e⟩:=k.inn i h1 h2;obtain⟨l,l1,l2,e2⟩:=h.inn j j1 j2;exact⟨l,l1,l2,e.trans e2⟩,fun n hn=>(h.stb n hn).trans (k.stb n hn)⟩
theorem Mv.wide {a b a' b':Nat}{D E:Nat->α}(h:Mv G cmp a b D E) (ha:a'<=a) (hb:b<=b'):Mv G cmp a' b' D E :=
 ⟨fun k hk=>h.out k (by omega),fun k h1 h2=>by
  by_cases hk:a<=k/\k < b
  ·obtain⟨j,j1,j2,e⟩:=h.inn k hk.1 hk.2;exact⟨j,by omega,by omega,e⟩
  ·exact⟨k,h1,h2,h.out k (by omega)⟩,fun n hn=>h.stb n (by omega)⟩
def rotF (a m b:Nat) (D:Nat->α):Nat->α:=fun k=>if a<=k/\k < a+(b - m) then D (k+(m - a)) else if a<=k/\k < b then D (k - (b - m)) else D k
theorem Mv.rot (o:Ordr G cmp) {a m b:Nat}{D:Nat->α}(h1:a<=m) (h2:m<=b) (hg:∀k,k < b->G (D k)) (h:∀i j,a<=i->i < m->m<=j->j < b->cmp (D j) (D i) < 0):Mv G cmp a b D (rotF a m b D):=by
 refine⟨fun k hk=>?_,fun k k1 k2=>?_,fun n hn=>?_⟩
 ·unfold rotF;rw[if_neg (by omega),if_neg (by omega)]
 ·unfold rotF;by_cases hc:k < a+(b - m)
  ·rw[if_pos ⟨k1,hc⟩];exact⟨_,by omega,by omega,rfl⟩
  ·rw[if_neg (by omega),if_pos ⟨k1,k2⟩];exact⟨_,by omega,by omega,rfl⟩
 ·obtain⟨p,rfl⟩:∃p,n=a+((m - a)+(b - m))+p:=⟨n - b,by omega⟩
  rw[zhi,zhi,z50,z50,z50,z50 (D:=rotF a m b D),z50 (D:=rotF a m b D),show segF (0+a) (m - a+(b - m)) (rotF a m b D)=segF (0+a) (b - m) (rotF a m b D)++segF (0+a+(b - m)) (m - a) (rotF a m b D) by rw[<-z50,Nat.add_comm (b - m)]];rw[z51 (a:=0) (b:=0) (D:=rotF a m b D) (E:=D) (fun i hi=>by unfold rotF;rw[if_neg (by omega),if_neg (by omega)]),
   z51 (a:=0+a) (b:=0+a+(m - a)) (D:=rotF a m b D) (E:=D) (fun i hi=>by unfold rotF;rw[if_pos (by omega)];congr 1;omega),
   z51 (a:=0+a+(b - m)) (b:=0+a) (D:=rotF a m b D) (E:=D) (fun i hi=>by unfold rotF;rw[if_neg (by omega),if_pos (by omega)];congr 1;omega),
   z51 (a:=0+(a+(m - a+(b - m)))) (b:=0+(a+(m - a+(b - m)))) (D:=rotF a m b D) (E:=D) (fun i hi=>by unfold rotF;rw[if_neg (by omega),if_neg (by omega)])]
  refine((Stb.refl _).append (Stb.swap o (fun x hx=>?_) (fun x hx=>?_) (fun x hx y hy=>?_))).append (.refl _)
  ·obtain⟨i,i1,i2,rfl⟩:=z7l.1 hx;exact hg i (by omega)
  ·obtain⟨i,i1,i2,rfl⟩:=z7l.1 hx;exact hg i (by omega)
  ·obtain⟨i,i1,i2,rfl⟩:=z7l.1 hx;obtain⟨j,j1,j2,rfl⟩:=z7l.1 hy;exact h i j (by omega) (by omega) (by omega) (by omega)
def swF (i j:Nat) (D:Nat->α):Nat->α:=fun k=>if k=i then D j else if k=j then D i else D k
theorem zs6 {j:Nat}{D:Nat->α}:rotF j (j+1) (j+2) D=swF j (j+1) D:=by
 funext k
 unfold rotF swF;by_cases h1:k=j
 ·subst h1;rw[if_pos (by omega),if_pos rfl];congr 1;omega
 ·by_cases h2:k=j+1
  ·subst h2;rw[if_neg (by omega),if_pos (by omega),if_neg (by omega),if_pos rfl];congr 1;omega
  ·rw[if_neg (by omega),if_neg (by omega),if_neg h1,if_neg h2]
theorem Mv.swap (o:Ordr G cmp) {a b j:Nat}{D:Nat->α}(h1:a<=j) (h2:j+2<=b) (hg:∀k,k < b->G (D k)) (h:cmp (D (j+1)) (D j) < 0):Mv G cmp a b D (swF j (j+1) D):=by
 rw[<-zs6];refine(Mv.rot o (by omega) (by omega) (fun k hk=>hg k (by omega)) fun i k i1 i2 k1 k2=>?_).wide h1 h2;obtain rfl:i=j:=by omega
 obtain rfl:k=i+1:=by omega
 exact h
def InO (cmp:α->α->Int) (a b:Nat) (D:Nat->α):Prop:=∀p q,a<=p->p < q->q < b->cmp (D p) (D q)<=0
theorem InO.srt {n:Nat}{D:Nat->α}(h:InO cmp 0 n D):Srt cmp (rowF n D):=by
 unfold Srt rowF;rw[List.pairwise_map,List.pairwise_iff_getElem];intro i j hi hj hij;simp at hi hj ⊢;exact h i j (by omega) hij hj
end
end Go.Hb
end

section
namespace Go.Hb
section
variable {α:Type}
def Pm (a b:Nat) (D E:Nat->α):Prop:=∃s t:Nat->Nat,(∀k,t (s k)=k)/\(∀k,s (t k)=k)/\(∀k,k < a\/b<=k->s k=k)/\∀k,E k=D (s k)
theorem Pm.refl {a b:Nat}(D:Nat->α):Pm a b D D:=⟨id,id,fun _=>rfl,fun _=>rfl,fun _ _=>rfl,fun _=>rfl⟩
theorem Pm.trans {a b:Nat}{D E F:Nat->α}(h:Pm a b D E) (k:Pm a b E F):Pm a b D F:=by
 obtain⟨s,t,h1,h2,h3,h4⟩:=h;obtain⟨u,v,k1,k2,k3,k4⟩:=k;refine⟨fun i=>s (u i),fun i=>v (t i),fun i=>by simp only[h1,k1],fun i=>by simp only[h2,k2],fun i hi=>by simp only[k3 i hi,h3 i hi],fun i=>by rw[k4,h4]⟩
theorem Pm.wide {a b a' b':Nat}{D E:Nat->α}(h:Pm a b D E) (ha:a'<=a) (hb:b<=b'):Pm a' b' D E:=by
 obtain⟨s,t,h1,h2,h3,h4⟩:=h;exact⟨s,t,h1,h2,fun k hk=>h3 k (by omega),h4⟩
theorem Pm.out {a b:Nat}{D E:Nat->α}(h:Pm a b D E) {k:Nat}(hk:k < a\/b<=k):E k=D k:=by
 obtain⟨s,t,h1,h2,h3,h4⟩:=h;rw[h4,h3 k hk]
theorem Pm.inn {a b:Nat}{D E:Nat->α}(h:Pm a b D E) {k:Nat}(h1:a<=k) (h2:k < b):∃j,a<=j/\j < b/\E k=D j:=by
 obtain⟨s,t,k1,k2,k3,k4⟩:=h;by_cases hc:a<=s k/\s k < b
 ·exact⟨s k,hc.1,hc.2,k4 k⟩
 ·have e:=k3 (s k) (by omega);have e2:=k1 (s k);rw[e] at e2;have e3:=k1 k;rw[e3] at e2;omega
theorem Pm.swap {a b i j:Nat}{D:Nat->α}(h1:a<=i) (h2:i < b) (h3:a<=j) (h4:j < b):Pm a b D (swF i j D):=by
 refine⟨fun k=>if k=i then j else if k=j then i else k,fun k=>if k=i then j else if k=j then i else k,fun k=>?_,fun k=>?_,fun k hk=>?_,fun k=>?_⟩
 ·by_cases e1:k=i
  ·subst e1;by_cases e2:j=k<;>simp [e2]
  ·by_cases e2:k=j
   ·subst e2;simp [e1]
   ·simp [e1,e2]
 ·by_cases e1:k=i
  ·subst e1;by_cases e2:j=k<;>simp [e2]
  ·by_cases e2:k=j
   ·subst e2;simp [e1]
   ·simp [e1,e2]
 ·simp only;rw[if_neg (by omega),if_neg (by omega)]
 ·unfold swF;simp only;split
  ·rfl
  ·split<;>rfl
theorem Pm.all {a b:Nat}{D E:Nat->α}(h:Pm a b D E) {P:α->Prop}(hP:∀k,a<=k->k < b->P (D k)):∀k,a<=k->k < b->P (E k):=fun k h1 h2=>by
 obtain⟨j,j1,j2,e⟩:=h.inn h1 h2;rw[e];exact hP j j1 j2
def InZ (z:α->Int) (a b:Nat) (D:Nat->α):Prop:=∀p q,a<=p->p < q->q < b->z (D p)<=z (D q)
theorem InZ.few {z:α->Int}{a b:Nat}{D:Nat->α}(h:b<=a+1):InZ z a b D:=fun p q h1 h2 h3=>by omega
theorem InZ.join {z:α->Int}{a m b:Nat}{D:Nat->α}(h1:InZ z a m D) (h2:InZ z (m+1) b D) (h3:∀k,a<=k->k < m->z (D k)<=z (D m)) (h4:∀k,m < k->k < b->z (D m)<=z (D k)):InZ z a b D:=fun p q hp hpq hq=>by
 by_cases c1:q < m
 ·exact h1 p q hp hpq c1
 by_cases c2:m < p
 ·exact h2 p q (by omega) hpq hq
 by_cases c3:p=m
 ·subst c3;exact h4 q hpq hq
 by_cases c4:q=m
 ·subst c4;exact h3 p hp hpq
 exact Int.le_trans (h3 p hp (by omega)) (h4 q (by omega) hq)
def HpF (z:α->Int) (f lo hi:Nat) (D:Nat->α):Prop:=∀k c,lo<=k->(c=2*k+1\/c=2*k+2)->c < hi->z (D (f+c))<=z (D (f+k))
def HpX (z:α->Int) (f lo hi r:Nat) (D:Nat->α):Prop :=
 (∀k c,lo<=k->k≠r->(c=2*k+1\/c=2*k+2)->c < hi->z (D (f+c))<=z (D (f+k))) /\
 (∀k c,lo<=k->(r=2*k+1\/r=2*k+2)->(c=2*r+1\/c=2*r+2)->c < hi->z (D (f+c))<=z (D (f+k)))
theorem HpX.done {z:α->Int}{f lo hi r:Nat}{D:Nat->α}(h:HpX z f lo hi r D) (hr:∀c,(c=2*r+1\/c=2*r+2)->c < hi->z (D (f+c))<=z (D (f+r))):HpF z f lo hi D:=fun k c h1 h2 h3=>by
 by_cases e:k=r
 ·subst e;exact hr c h2 h3
 ·exact h.1 k c h1 e h2 h3
theorem HpX.start {z:α->Int}{f lo hi:Nat}{D:Nat->α}(h:HpF z f (lo+1) hi D):HpX z f lo hi lo D :=
 ⟨fun k c h1 h2 h3 h4=>h k c (by omega) h3 h4,fun k c h1 h2 h3 h4=>by omega⟩
theorem HpX.step {z:α->Int}{f lo hi r c:Nat}{D:Nat->α}(h:HpX z f lo hi r D) (hlo:lo<=r) (hc:c=2*r+1\/c=2*r+2) (hi1:c < hi) (hlt:z (D (f+r)) < z (D (f+c)))
  (hbig:∀d,(d=2*r+1\/d=2*r+2)->d < hi->z (D (f+d))<=z (D (f+c))):HpX z f lo hi c (swF (f+r) (f+c) D):=by
 have e1:swF (f+r) (f+c) D (f+r)=D (f+c):=by unfold swF;rw[if_pos rfl]
 have e2:swF (f+r) (f+c) D (f+c)=D (f+r):=by unfold swF;rw[if_neg (by omega),if_pos rfl]
 have e3:∀k,k≠r->k≠c->swF (f+r) (f+c) D (f+k)=D (f+k):=fun k h1 h2=>by unfold swF;rw[if_neg (by omega),if_neg (by omega)]
 constructor
 ·intro k d h1 h2 h3 h4;by_cases k1:k=r
  ·subst k1;rw[e1];by_cases d1:d=c
   ·subst d1;rw[e2];omega
   ·rw[e3 d (by omega) d1];exact hbig d h3 h4
  ·rw[e3 k k1 h2];by_cases d1:d=r
   ·subst d1;rw[e1];exact h.2 k c h1 h3 hc hi1
   ·by_cases d2:d=c
    ·omega
    ·rw[e3 d d1 d2];exact h.1 k d h1 k1 h3 h4
 ·intro k d h1 h2 h3 h4;obtain rfl:k=r:=by omega
  rw[e1,e3 d (by omega) (by omega)];exact h.1 c d (by omega) (by omega) h3 h4
theorem HpF.top {z:α->Int}{f hi:Nat}{D:Nat->α}(h:HpF z f 0 hi D):∀k,k < hi->z (D (f+k))<=z (D f):=by
 intro k
 induction k using Nat.strongRecOn with
 |_ k ih =>
  intro hk;by_cases h0:k=0
  ·subst h0;exact Int.le_refl _
  ·have:=h ((k - 1) / 2) k (ZA _) (by omega) hk;exact Int.le_trans this (ih _ (by omega) (by omega))
theorem zoi {z:α->Int}{a j e:Nat}{D D2:Nat->α}(hp:HpF z a 0 (j+1) D) (ho:InZ z (a+(j+1)) e D) (hb:∀p q,a<=p->p < a+(j+1)->a+(j+1)<=q->q < e->z (D p)<=z (D q)) (hm:Pm a (a+j) (swF a (a+j) D) D2) (hje:a+(j+1)<=e) :
  InZ z (a+j) e D2/\(∀p q,a<=p->p < a+j->a+j<=q->q < e->z (D2 p)<=z (D2 q)):=by
 have e1:D2 (a+j)=D a:=by
  rw[hm.out (.inr (Ze _))];unfold swF;by_cases h:a+j=a
  ·rw[if_pos h,h]
  ·rw[if_neg h,if_pos rfl]
 have e2:∀q,a+j < q->D2 q=D q:=fun q hq=>by
  rw[hm.out (.inr (by omega))];unfold swF;rw[if_neg (by omega),if_neg (by omega)]
 have top:∀p,a<=p->p < a+(j+1)->z (D p)<=z (D a):=fun p h1 h2=>by
  have:=hp.top (p - a) (by omega)
  rwa [show a+(p - a)=p by omega] at this
 constructor
 ·intro p q h1 h2 h3;rw[e2 q (by omega)];by_cases h:p=a+j
  ·subst h;rw[e1];exact hb a q (Ze _) (by omega) (by omega) h3
  ·rw[e2 p (by omega)];exact ho p q (by omega) h2 h3
 ·intro p q h1 h2 h3 h4;obtain⟨r,r1,r2,r3⟩:=hm.inn h1 h2;have:∃s,a<=s/\s < a+(j+1)/\D2 p=D s:=by
   rw[r3];unfold swF;by_cases h:r=a
   ·rw[if_pos h];exact⟨_,by omega,by omega,rfl⟩
   ·rw[if_neg h,if_neg (by omega)];exact⟨r,r1,by omega,rfl⟩
  obtain⟨s,s1,s2,s3⟩:=this;rw[s3];by_cases h:q=a+j
  ·subst h;rw[e1];exact top s s1 s2
  ·rw[e2 q (by omega)];exact hb s q s1 s2 (by omega) h4
theorem HpF.drop {z:α->Int}{a j:Nat}{D:Nat->α}(hp:HpF z a 0 (j+1) D):HpF z a 1 j (swF a (a+j) D):=fun k c h1 h2 h3=>by
 have hk:swF a (a+j) D (a+k)=D (a+k):=by unfold swF;rw[if_neg (by omega),if_neg (by omega)]
 have hc:swF a (a+j) D (a+c)=D (a+c):=by unfold swF;rw[if_neg (by omega),if_neg (by omega)]
 rw[hk,hc];exact hp k c (ZA _) h2 (by omega)
end
end Go.Hb
end

section
namespace Go.Hb
open Go Go.RowKit
structure El where
 t:Tm
 a:Option Addr
 c:Nat
 S:Nat->Prop
abbrev El.six (e:El):List Value:=Hb.six e.t e.a e.c
theorem El.six_len (e:El):e.six.length=6:=rfl
theorem El.six_ones (e:El):e.six.all one=true:=rfl
structure RowE (H:Heap) (T:TypeId) (b n:Nat) (D:Nat->El):Prop where
 row:∃cells,H.get b=some (.row cells T)/\n*6<=cells.length/\∀k,k < n->(cells.drop (k*6)).take 6=(D k).six
theorem RowE.load {H:Heap}{T:TypeId}{b n:Nat}{D:Nat->El}(h:RowE H T b n D) {k:Nat}(hk:k < n):H.load ⟨b,k*6,none⟩ 6=some (D k).six:=by
 obtain⟨cells,hg,hl,he⟩:=h;unfold Heap.load Heap.cells;simp only[hg,he k hk];rfl
theorem RowE.heap {H H':Heap}{T:TypeId}{b n:Nat}{D:Nat->El}(h:RowE H T b n D) (hg:H'.get b=H.get b):RowE H' T b n D:=by
 obtain⟨cells,h1,h2⟩:=h;exact⟨cells,by rw[hg];exact h1,h2⟩
theorem RowE.congr {H:Heap}{T:TypeId}{b n:Nat}{D E:Nat->El}(h:RowE H T b n D) (he:∀k,k < n->E k=D k):RowE H T b n E:=by
 obtain⟨cells,h1,h2,h3⟩:=h;exact⟨cells,h1,h2,fun k hk=>by rw[he k hk];exact h3 k hk⟩
theorem RowE.put {H:Heap}{T:TypeId}{b n:Nat}{D:Nat->El}{cells:List Value}(hl:n*6<=cells.length) (he:∀k,k < n->(cells.drop (k*6)).take 6=(D k).six) {i:Nat}(hi:i < n) (e:El) :
  RowE (H.put b (some (.row (Hb.splice cells (i*6) e.six) T))) T b n (fun k=>if k=i then e else D k):=by
 have hle:i*6+e.six.length<=cells.length:=by have:=mul6 hi;rw[El.six_len];omega
 refine⟨_,by rw[get_put,if_pos rfl],by rw[z0k hle];exact hl,fun k hk=>?_⟩;by_cases h:k=i
 ·subst h;rw[if_pos rfl];exact z49 (s:=6) hle rfl
 ·rw[if_neg h,z3c (s:=6) hle rfl (by rcases Nat.lt_or_gt_of_ne h with h|h;exact .inl (mul6 h);exact .inr (mul6 h))];exact he k hk
theorem RowE.swap {H:Heap}{T:TypeId}{b n:Nat}{D:Nat->El}{cells:List Value}(hl:n*6<=cells.length) (he:∀k,k < n->(cells.drop (k*6)).take 6=(D k).six) {i j:Nat}(hi:i < n) (hj:j < n) (hij:i≠j) (H2:Heap)
  (h2:H2.get b=some (.row (Hb.splice (Hb.splice cells (i*6) (D j).six) (j*6) (D i).six) T)):RowE H2 T b n (swF i j D):=by
 obtain⟨c1,g1,l1,e1⟩:=RowE.put (H:=H) (T:=T) (b:=b) hl he hi (D j);rw[get_put,if_pos rfl] at g1;cases g1;have:=(RowE.put (H:=H2) (T:=T) (b:=b) l1 e1 hj (D i)).heap (H':=H2) (by rw[get_put,if_pos rfl,h2]);refine this.congr fun k hk=>?_
 unfold swF;by_cases h1:k=i
 ·subst h1;rw[if_pos rfl,if_neg hij,if_pos rfl]
 ·rw[if_neg h1];by_cases h3:k=j
  ·rw[if_pos h3,if_pos h3]
  ·rw[if_neg h3,if_neg h3,if_neg h1]
end Go.Hb
end

section
namespace Go.Hb
open Go Go.RowKit
def dNil (v:Value) (H:Heap):Option Dr:=match v with
 |.pointer (some a)=>some (.val (.pointer (some a)) H)
 |.func (.func f) a b=>some (.val (.func (.func f) a b) H)
 |_=>none
theorem z26 {P:Program}{d:Option Tmp}{ty:TypeId}{pos:String}{af:Array Edge}{g:Option (Nat × Bool)}{ρ:Operand->Value}{H:Heap}{x:Operand}:dop P ⟨d,.nilCheck x,ty,pos,af,g⟩ ρ H=dNil (ρ x) H:=_root_.id rfl
theorem z6d {a:Addr}{H:Heap}:dNil (.pointer (some a)) H=some (.val (.pointer (some a)) H):=_root_.id rfl
structure Bnd where
 v:Int
 e:El
abbrev Bnd.seven (d:Bnd):List Value:=.int .i64 d.v :: d.e.six
theorem Bnd.seven_len (d:Bnd):d.seven.length=7:=rfl
theorem Bnd.seven_ones (d:Bnd):d.seven.all one=true:=rfl
theorem mul7 {k n:Nat}(h:k < n):k*7+7<=n*7:=by omega
structure RowB (H:Heap) (T:TypeId) (b n:Nat) (D:Nat->Bnd):Prop where
 row:∃cells,H.get b=some (.row cells T)/\n*7<=cells.length/\∀k,k < n->(cells.drop (k*7)).take 7=(D k).seven
theorem RowB.load {H:Heap}{T:TypeId}{b n:Nat}{D:Nat->Bnd}(h:RowB H T b n D) {k:Nat}(hk:k < n):H.load ⟨b,k*7,none⟩ 7=some (D k).seven:=by
 obtain⟨cells,hg,hl,he⟩:=h;unfold Heap.load Heap.cells;simp only[hg,he k hk];rfl
theorem RowB.heap {H H':Heap}{T:TypeId}{b n:Nat}{D:Nat->Bnd}(h:RowB H T b n D) (hg:H'.get b=H.get b):RowB H' T b n D:=by
 obtain⟨cells,h1,h2⟩:=h;exact⟨cells,by rw[hg];exact h1,h2⟩
theorem RowB.congr {H:Heap}{T:TypeId}{b n:Nat}{D E:Nat->Bnd}(h:RowB H T b n D) (he:∀k,k < n->E k=D k):RowB H T b n E:=by
 obtain⟨cells,h1,h2,h3⟩:=h;exact⟨cells,h1,h2,fun k hk=>by rw[he k hk];exact h3 k hk⟩
theorem RowB.put {H:Heap}{T:TypeId}{b n:Nat}{D:Nat->Bnd}{cells:List Value}(hl:n*7<=cells.length) (he:∀k,k < n->(cells.drop (k*7)).take 7=(D k).seven) {i:Nat}(hi:i < n) (e:Bnd) :
  RowB (H.put b (some (.row (Hb.splice cells (i*7) e.seven) T))) T b n (fun k=>if k=i then e else D k):=by
 have hle:i*7+e.seven.length<=cells.length:=by have:=mul7 hi;rw[Bnd.seven_len];omega
 refine⟨_,by rw[get_put,if_pos rfl],by rw[z0k hle];exact hl,fun k hk=>?_⟩;by_cases h:k=i
 ·subst h;rw[if_pos rfl];exact z49 (s:=7) hle rfl
 ·rw[if_neg h,z3c (s:=7) hle rfl (by rcases Nat.lt_or_gt_of_ne h with h|h;exact .inl (mul7 h);exact .inr (mul7 h))];exact he k hk
theorem RowB.swap {H:Heap}{T:TypeId}{b n:Nat}{D:Nat->Bnd}{cells:List Value}(hl:n*7<=cells.length) (he:∀k,k < n->(cells.drop (k*7)).take 7=(D k).seven) {i j:Nat}(hi:i < n) (hj:j < n) (H2:Heap)
  (h2:H2.get b=some (.row (Hb.splice (Hb.splice cells (i*7) (D j).seven) (j*7) (D i).seven) T)):RowB H2 T b n (swF i j D):=by
 obtain⟨c1,g1,l1,e1⟩:=RowB.put (H:=H) (T:=T) (b:=b) hl he hi (D j);rw[get_put,if_pos rfl] at g1;cases g1;have:=(RowB.put (H:=H2) (T:=T) (b:=b) l1 e1 hj (D i)).heap (H':=H2) (by rw[get_put,if_pos rfl,h2]);refine this.congr fun k hk=>?_
 unfold swF;by_cases h1:k=i
 ·subst h1;rw[if_pos rfl];by_cases h3:k=j
  ·subst h3;rw[if_pos rfl]
  ·rw[if_neg h3,if_pos rfl]
 ·rw[if_neg h1];by_cases h3:k=j
  ·rw[if_pos h3,if_pos h3]
  ·rw[if_neg h3,if_neg h3,if_neg h1]
end Go.Hb
end

section
namespace Go.Proofs.hq
open Go Go.RowKit Go.Hb
variable {ok:Ok}
set_option maxRecDepth 10000
attribute [local irreducible] LX LG EL STG SOP SGO SGD SAL SRD SEF SEG SLK SCK ES
theorem z6e {t:Tm}(h:Fine t) (k:t.kind=1):t.args=[]:=(z1h (z1b h.node).2.2.1).2.2.2.2 (by omega)
theorem z6f {α:Type}(o:Option α):(∃u,o=some u)\/o=none:=by
 cases o with
 |none=>exact .inr rfl
 |some u=>exact .inl ⟨u,rfl⟩
def lookT (B:List (Int × Tm)) (n:Int):Option Tm:=(B.find? fun p=>p.1 == n).map (·.2)
theorem z6t {B:List (Int × Tm)}{n m:Int}{u:Tm}(h:lookT B n=none):lookT (B++[(n,u)]) m=if m=n then some u else lookT B m:=by
 unfold lookT at *;rw[List.find?_append];by_cases hm:m=n
 ·subst hm;have:B.find? (fun p=>p.1 == m)=none:=by simpa using h
  rw[if_pos rfl,this];simp
 ·rw[if_neg hm];have:((n == m):Bool)=false:=by simp;omega
  simp [List.find?_cons,this]
theorem z4q {B:List (Int × Tm)}{n:Int}{u:Tm}(h:lookT B n=some u):(n,u)∈B:=by
 unfold lookT at h;rw[Option.map_eq_some_iff] at h;obtain⟨p,hp,rfl⟩:=h;have h1:=List.find?_some hp;have h2:p.1=n:=by simpa using h1
 rw[<-h2];exact List.mem_of_find?_eq_some hp
def MapT (H0 H:Heap) (r:Nat) (B:List (Int × Tm)):Prop:=∃M,MapR H r M/\∀n,(∀u,lookT B n=some u->∃cs,mGet M n=some (.agg ⟨cs⟩)/\RepT H0 u cs)/\(lookT B n=none->mGet M n=none)
theorem MapT.heap {H0 H H':Heap}{r:Nat}{B:List (Int × Tm)}(h:MapT H0 H r B) (hk:H'.get r=H.get r):MapT H0 H' r B:=by
 obtain⟨M,h1,h2⟩:=h;exact⟨M,h1.heap hk,h2⟩
theorem MapT.lt {H0 H:Heap}{r:Nat}{B:List (Int × Tm)}(h:MapT H0 H r B) (hw:H.wf):r < H.next:=by obtain⟨M,h1,-⟩:=h;exact h1.lt hw
theorem MapT.keep {H0 H H':Heap}{r:Nat}{B:List (Int × Tm)}(h:MapT H0 H r B) (hx:HX H H') (hw:H.wf):MapT H0 H' r B:=h.heap (hx.keep r (h.lt hw))
theorem MapT.push {P:Program}{t kt et:TypeId}{z:Value}{H0 H:Heap}{r:Nat}{B:List (Int × Tm)}{n:Int}{u:Tm}{cs:List Value}(hp:mpOk P t kt et z) (h:MapT H0 H r B) (hn:lookT B n=none) (hu:RepT H0 u cs) :
  ∃K,dUp P t (.map (some r)) (.int .i64 n) (.agg ⟨cs⟩) H=some (.val undef (H.put r (some K)))/\MapT H0 (H.put r (some K)) r (B++[(n,u)]):=by
 obtain⟨M,h1,h2⟩:=h;have hM:=(h2 n).2 hn;obtain⟨K,k1,k2⟩:=zkk (v:=.agg ⟨cs⟩) hp h1 hM;refine⟨K,k1,_,k2,fun m=>?_⟩;rw[z6t hn,zcr hM];by_cases hm:m=n
 ·rw[if_pos hm,if_pos hm];exact⟨fun w hw=>by cases hw;exact⟨cs,rfl,hu⟩,fun hw=>by cases hw⟩
 ·rw[if_neg hm,if_neg hm];exact h2 m
theorem z94:mpOk Tryz.prog 85 3 40 (.agg ⟨zero6⟩):=⟨Tryz.underlying85,Tryz.underlying3,by kernel_rfl,rfl⟩
theorem row1 {H:Heap}{p:Nat}{T:TypeId}{v:Value}(h:H.get p=some (.row [v] T)):H.load ⟨p,0,none⟩ 1=some [v]:=by simp only[Heap.load,Heap.cells,h];rfl
mutual
def subO (σ:Int->Option Tm):Tm->Tm
 |.mk k s u b v l=>if k=1 then (σ v).getD (.mk k s u b v l) else .mk k s u b v (subOL σ l)
def subOL (σ:Int->Option Tm):List Tm->List Tm
 |[]=>[]
 |t :: l=>subO σ t :: subOL σ l
end
theorem z95 (σ:Int->Option Tm):∀l:List Tm,subOL σ l=l.map (subO σ)
 |[]=>by rw[subOL];rfl
 |t :: l=>by rw[subOL,z95 σ l];rfl
theorem z3e {σ:Int->Option Tm}{t:Tm}(h:t.kind=1):subO σ t=(σ t.var).getD t:=by
 obtain⟨k,s,u,b,v,l⟩:=t;rw[subO,if_pos (show k=1 from h)];rfl
theorem zbm {σ:Int->Option Tm}{t:Tm}(h:t.kind≠1):subO σ t=.mk t.kind t.name t.num t.bits t.var (t.args.map (subO σ)):=by
 obtain⟨k,s,u,b,v,l⟩:=t;rw[subO,if_neg (show ¬k=1 from h),z95];rfl
structure ByOpt (g:FuncId) (cap:Array Value) (σ:Int->Option Tm) (J:Heap->Prop):Prop where
 step:∀n H,i64 n->J H->H.wf->EvF Tryz.prog okT g ([.int .i64 n]++cap.toList) H fun v H'=>HX H H'/\((∃u cs,σ n=some u/\v=.tuple #[.agg ⟨cs⟩,.bool true]/\RepT H' u cs)\/(σ n=none/\v=.tuple #[.agg ⟨zero6⟩,.bool false]))
 stay:∀H H',J H->HX H H'->J H'
 fine:∀n u,σ n=some u->Fine u
theorem RepT.made {H:Heap}{t u:Tm}{a:Option Addr}{c:Nat}{cells:Nat->List Value}(hb:Bd t) (e:u=.mk t.kind t.name t.num t.bits t.var u.args) (rl:RepL H u.args a c cells):RepT H u (six u a c):=by
 obtain⟨k,s,w,b,v,l⟩:=u;have e':(Tm.mk k s w b v l)=.mk t.kind t.name t.num t.bits t.var l:=e;injection e' with e1 e2 e3 e4 e5;subst e1 e2 e3 e4 e5;exact .mk _ _ _ _ _ l a c cells hb.kind hb.name hb.num hb.bits hb.var (ZC rl.len rl.cap) rl.len rl.cap rl.nil rl.load rl.rep
def RepS (H:Heap) (S:Nat->Prop) (t:Tm) (cs:List Value):Prop:=∀G:Heap,(∀n,S n->n < H.next->G.get n=H.get n)->RepT G t cs
theorem RepS.rep {H:Heap}{S:Nat->Prop}{t:Tm}{cs:List Value}(h:RepS H S t cs):RepT H t cs:=h H fun _ _ _=>rfl
theorem RepS.to {H H2:Heap}{S S2:Nat->Prop}{t:Tm}{cs:List Value}(h:RepS H S t cs) (hk:∀n,S n->n < H.next->H2.get n=H.get n/\S2 n/\n < H2.next):RepS H2 S2 t cs:=fun G hG=>h G fun n hn hl=>by
 obtain⟨a,b,c⟩:=hk n hn hl;rw[hG n b c,a]
theorem RepF.toS {H:Heap}{T:TypeId}{S:Nat->Prop}{t:Tm}{cs:List Value}(h:RepF H T S t cs) (hw:H.wf):RepS H S t cs:=fun G hG=>by
 obtain⟨a,c,rfl,hb,hf⟩:=h;exact RepF.rep (T:=T) (S:=S) ⟨a,c,rfl,hb,hf.heap hG hw⟩
theorem RepS.leaf {H:Heap}{S:Nat->Prop}{t:Tm}{a:Option Addr}{c:Nat}(hb:Bd t) (he:t.args=[]) (hc:c<=maxLen) (hn:a=none->c=0):RepS H S t (six t a c):=fun G _ =>
 RepT.made (cells:=fun _=>[]) hb (by obtain⟨k,s,u,b,v,l⟩:=t;rfl) (by rw[he];exact⟨ZA _,hc,fun h=>⟨rfl,hn h⟩,fun i ad hi=>by simp at hi,fun i t h=>by simp at h⟩)
theorem RepS.row {H:Heap}{S:Nat->Prop}{T:TypeId}{t u:Tm}{b c:Nat}{cells:List Value}(hb:Bd t) (e:u=.mk t.kind t.name t.num t.bits t.var u.args) (hg:H.get b=some (.row cells T)) (hS:S b) (hbl:b < H.next) (hl:u.args.length*6<=cells.length) (hc:u.args.length<=c) (hm:c<=maxLen)
  (hch:∀(j:Nat) (hj:j < u.args.length),RepS H S u.args[j] ((cells.drop (j*6)).take 6)):RepS H S u (six u (some ⟨b,0,none⟩) c):=fun G hG =>
 RepT.made hb e (RepL.of_row (by rw[hG b hS hbl];exact hg) (fun i hi=>rfl) (fun i t ht=>by
  obtain⟨hj,rfl⟩:=List.getElem?_eq_some_iff.1 ht;exact hch i hj G hG) hc hm)
def TopR (H:Heap) (T:TypeId) (S:Nat->Prop) (t:Tm) (cs:List Value):Prop :=
 t.args=[]\/∃b c cells,cs=six t (some ⟨b,0,none⟩) c/\H.get b=some (.row cells T)/\S b/\b < H.next/\t.args.length*6<=cells.length/\∀j,j < t.args.length->((cells.drop (j*6)).take 6).all one=true
theorem TopR.heap {H H':Heap}{T:TypeId}{S S':Nat->Prop}{t:Tm}{cs:List Value}(h:TopR H T S t cs) (hk:∀n,S n->n < H.next->H'.get n=H.get n/\S' n/\n < H'.next):TopR H' T S' t cs:=by
 rcases h with h|⟨b,c,cells,h1,h2,h3,h4,h5⟩
 ·exact .inl h
 ·obtain⟨k1,k2,k3⟩:=hk b h3 h4;exact .inr ⟨b,c,cells,h1,k1.trans h2,k2,k3,h5⟩
theorem zmd {t:Tm}{a:Option Addr}{c:Nat}:(six t a c).all one=true:=rfl
theorem RepT.all {H:Heap}{t:Tm}{cs:List Value}(r:RepT H t cs):cs.all one=true:=by obtain⟨a,c,cells,rfl,-⟩:=r.six;exact zmd
theorem RepF.top {H:Heap}{T:TypeId}{S:Nat->Prop}{t:Tm}{cs:List Value}(h:RepF H T S t cs) (hw:H.wf):TopR H T S t cs:=by
 obtain⟨a,c,rfl,hb,hf⟩:=h;generalize hl:t.args=l at hf;cases hf with
 |nil=>exact .inl hl
 |row _ _ b c cells Si ai ci h1 h2 h3 h4 h5 h6 h7 h8 h9 h10 h11 =>
  refine .inr ⟨b,c,cells,rfl,h3,h7,hw _ _ h3,by rw[hl];exact h4,fun j hj=>?_⟩;rw[hl] at hj;rw[h5 j _ (Zc hj)];exact zmd
set_option maxHeartbeats 4000000 in
theorem zja {g:FuncId}{cap:Array Value}{σ:Int->Option Tm}{J:Heap->Prop}(hg:callable Tryz.prog g=true) (B:ByOpt g cap σ J) {m:Nat}:∀{t:Tm}{cs:List Value}{H:Heap},SizeOf.sizeOf t < m->RepT H t cs->Fine t->J H->H.wf ->
  EvF Tryz.prog okT 46 [.agg ⟨cs⟩,.func (.func g) #[] cap] H fun v H'=>∃cs',v=.agg ⟨cs'⟩/\RepS H' (Rg H.next H'.next) (subO σ t) cs'/\TopR H' 40 (Rg H.next H'.next) (subO σ t) cs'/\HX H H':=by
 induction m with
 |zero=>intro t cs H h;omega
 |succ m ih =>
 intro t cs H hsz r hf hj hw;have r0:=r;have hbd:=r.bd;have hfew:=z4y hf;have hvar:=(z1b hf.node).2.2.2.1;obtain⟨a,c,cells,rfl,-,-,-,-,-,rl⟩:=r.six;refine EvF.enter rfl Tryz.func46 (by decide) rfl ?_;(repeat refine qZa ?_);refine qZb ?_;simp only[sB,initTm,dBox,dAlloc,Value.cells,one,reduceCtorEq,zr40];obtain⟨H2,e2,hx2,gp,gq,hn2,hw2⟩:=new2 hw (.row (six t a c) 40) (.row zero6 40);simp only[e2];have q1:=row6 gp;clear e2;have hmost:t.args.length<=most:=by unfold most;omega
 have ne1:(H.next+1=H.next)=False:=by simp
 have ne2:(H.next=H.next+1)=False:=by simp
 by_cases k1:t.kind=1
 ·repeat' (first|refine qZa ?_|(refine qZb ?_;simp only[sB,Za,reduceCtorEq,z1c,ld3,z4d,q1,z0v k1,z10,z0m hg])|(refine qZd ?_ ?_;simp only[sB,Za,reduceCtorEq];refine z01 ?_))
  refine(B.step t.var H2 hbd.var (B.stay _ _ hj hx2) hw2).mono ?_;rintro v H3 ⟨hx3,h3⟩;have gq3:=hx3.get hw2 gq;have gp3:=hx3.get hw2 gp;rcases h3 with ⟨u,cs,hσ,rfl,r3⟩|⟨hσ,rfl⟩
  ·obtain⟨a3,c3,zpw,rfl,-⟩:=r3.six
   repeat' (first|refine qZa ?_|(refine qZb ?_;simp only[sB,Za,Zb,reduceCtorEq,cutC,ld40,cl56])|(refine z0f ?_;simp only[sB,dAlloc,Za,Zb,one,reduceCtorEq,zr40,st40])|(refine qZd ?_ ?_;simp only[sB,Za,reduceCtorEq];refine z01 ?_))
   obtain⟨H4,e4,hx4,g4,hn4,hw4⟩:=z0o hx3.wf (.row zero6 40) (.row (six u a3 c3) 40);simp only[e4];have hx34:=hx3.trans hx4;have q4:=row6 g4;refine(zlg (Zf _) (r3.mono hx4 hx3.wf) (B.fine _ _ hσ) hw4).mono ?_;rintro v H5 ⟨c5,rfl,⟨a5,k5,rfl,hb5,hf5⟩,hx5⟩;have gq5:=hx5.get hw4 (hx4.get hx3.wf gq3);have hx25:=hx34.trans hx5;have n24:=hx34.next;have n25:=hx25.next
   repeat' (first|(refine qZf ?_;try simp only[z04,z02])|(refine z0f ?_;simp only[sB,Zb,one,st40,gq5]))
   refine z0s rfl (by simp only[sB,Za,reduceCtorEq];rfl) (by simp only[sB,Zb,cutC,ld40];rfl) ⟨_,rfl,?_,?_,(hx2.trans hx25).pt (by omega) gq5 _⟩;rotate_left
   ·rw[z3e k1,hσ];refine TopR.heap (RepF.top (T:=40) ⟨a5,k5,rfl,hb5,hf5⟩ hx5.wf) fun n hn hl=>?_
    have:=hn.1;exact⟨by rw[get_put,if_neg (by omega)],⟨by omega,hl⟩,hl⟩
   rw[z3e k1,hσ];refine RepS.to (RepF.toS (T:=40) ⟨a5,k5,rfl,hb5,hf5⟩ hx5.wf) fun n hn hl=>?_
   have:=hn.1;exact⟨by rw[get_put,if_neg (by omega)],⟨by omega,hl⟩,hl⟩
  ·have q3:=row6 gp3;(try simp only[sB,dAlloc,Za,Zb,one,reduceCtorEq,zr40,st40]);obtain⟨H4,e4,hx4,g4,hn4,hw4⟩:=z0o hx3.wf (.row zero6 40) (.row zero6 40);simp only[e4];have gq4:=hx4.get hx3.wf gq3;have gp4:=hx4.get hx3.wf gp3;have q4:=row6 gp4
   repeat' (first|refine qZa ?_|(refine qZe ?_;try simp only[z00])|(refine qZf ?_;try simp only[z04,z02])|(refine qZb ?_;simp only[sB,Za,Zb,one,reduceCtorEq,st40,ld40,q4,gq4])|(refine qZm ?_ ?_;simp only[sB,Za,reduceCtorEq];refine z01 ?_))
   have hx5:=((hx2.trans hx3).trans hx4).pt (i:=H.next+1) (Nat.le_succ _) gq4 (some (.row (six t a c) 40));refine z0s rfl (by simp only[sB,Za,reduceCtorEq];rfl) (by simp only[sB,Zb,cutC,ld40];rfl) ⟨_,rfl,?_,.inl (by rw[z3e k1,hσ];exact z6e hf k1),hx5⟩;rw[z3e k1,hσ];exact .leaf hbd (z6e hf k1) rl.cap fun h=>(rl.nil h).2
 have hsub:=zbm (σ:=σ) k1;have hsa:(subO σ t).args=t.args.map (subO σ):=by rw[hsub];rfl
 have hbd':Bd (subO σ t):=by rw[hsub];exact⟨hbd.kind,hbd.name,hbd.num,hbd.bits,hbd.var⟩
 have hsix:∀a c,six (subO σ t) a c=[.int .i64 t.kind,.string t.name,.string t.num,.int .u64 t.bits,.int .i64 t.var,.slice a t.args.length c]:=fun a c=>by rw[hsub];simp [six,Tm.kind,Tm.name,Tm.num,Tm.bits,Tm.var,Tm.args]
 have hmk:subO σ t=.mk t.kind t.name t.num t.bits t.var (subO σ t).args:=by rw[hsa];exact hsub
 by_cases h0:t.args.length=0
 ·have h0':(t.args.length:Int)=0:=by omega
  have he:t.args=[]:=List.length_eq_zero_iff.1 h0
  repeat' (first|refine qZa ?_|(refine qZe ?_;try simp only[z00])|(refine qZf ?_;try simp only[z04,z02])|(refine qZb ?_;simp only[sB,Za,Zb,one,reduceCtorEq,cutC,z1c,ld3,st40,ld40,z1k,ld32,ln32,st32,q1,gp,gq,z0h k1,z0v h0',ne1])|(refine qZd ?_ ?_;simp only[sB,Za,reduceCtorEq];refine z01 ?_)|(refine qZm ?_ ?_;simp only[sB,Za,reduceCtorEq];refine z01 ?_))
  have hx3:=(hx2.pt (Ze _) gp (some (.row [.int .i64 t.kind,.string t.name,.string t.num,.int .u64 t.bits,.int .i64 t.var,.slice none 0 0] 40))).pt (i:=H.next+1) (Nat.le_succ _) (by rw[get_put,if_neg (by omega)];exact gq)
   (some (.row [.int .i64 t.kind,.string t.name,.string t.num,.int .u64 t.bits,.int .i64 t.var,.slice none 0 0] 40))
  refine z0s rfl (by simp only[sB,Za,reduceCtorEq];rfl) (by simp only[sB,Zb,cutC,ld40];rfl) ⟨_,rfl,?_,.inl (by rw[hsa,he];rfl),hx3⟩;have:=RepS.leaf (H:=((H2.put H.next (some (.row [.int .i64 t.kind,.string t.name,.string t.num,.int .u64 t.bits,.int .i64 t.var,.slice none 0 0] 40))).put (H.next+1) (some (.row [.int .i64 t.kind,.string t.name,.string t.num,.int .u64 t.bits,.int .i64 t.var,.slice none 0 0] 40)))) (S:=Rg H.next H2.next) (t:=subO σ t) (a:=none) (c:=0) hbd' (by rw[hsa,he];rfl) (ZA _) (fun _=>rfl);rw[hsix,h0] at this;exact this
 ·have h0':(t.args.length:Int)≠0:=by omega
  have ne3:(H.next=H2.next)=False:=by simp;omega
  repeat' (first|refine qZa ?_|refine qZg ?_|(refine qZe ?_;try simp only[z00])|(refine qZb ?_;simp (disch:=first|omega|rfl) only[sB,Za,reduceCtorEq,cutC,z1c,ld3,z1k,ld32,ln32,q1,z0h k1,z0h h0',z8b mk32,ne3])|(refine qZm ?_ ?_;simp (disch:=first|omega|rfl) only[sB,Za,reduceCtorEq];refine z01 ?_))
  obtain⟨H3,e3,hx3,gr,hn3,hw3⟩:=new1 hw2 (.row (repL t.args.length zero6) 40);simp only[e3];clear e3;have gp3:=hx3.get hw2 gp;have gq3:=hx3.get hw2 gq;have hx23:=hx2.trans hx3;have hmax:=rl.max;rw[hn2] at gr hn3;refine qZk (fun k st=>∃tm H' i cells',st=⟨tm,[],H'⟩/\k=t.args.length - i/\i<=t.args.length/\tm.get 1=some (.func (.func g) #[] cap) /\
   tm.get 2=some (.pointer (some ⟨H.next,0,none⟩))/\tm.get 4=some (.pointer (some ⟨H.next+1,0,none⟩))/\tm.get 7=some (.slice (some ⟨H.next+2,0,none⟩) t.args.length t.args.length) /\
   tm.get 35=some (.slice a t.args.length c)/\tm.get 36=some (.int .i64 t.args.length)/\tm.get 37=some (.int .i64 (i:Nat)) /\
   H'.get H.next=some (.row (six t a c) 40)/\H'.get (H.next+1)=some (.row zero6 40)/\H'.get (H.next+2)=some (.row cells' 40)/\cells'.length=t.args.length*6 /\
   (∀(j:Nat) (hj:j < t.args.length),j < i->RepS H' (Rg (H.next+3) H'.next) (subO σ t.args[j]) ((cells'.drop (j*6)).take 6))/\HX H H') ?_ t.args.length _ ?_
  ·rintro k st ⟨tm,H',i,cells',rfl,rfl,hi,t0,t1,t2,t3,t17,t18,t19,gp',gq',gr',hlen,hfl,hx'⟩;have q1:=row6 gp';by_cases hlt:i < t.args.length
   ·obtain⟨b,o,a1,c1,rfl,hld,hr1⟩:=rl.el hlt;have hld1:=hx'.load hw hld
    repeat' (first|refine qZa ?_|refine qZg ?_|(refine qZe ?_;try simp only[z00])|(refine qZb ?_;simp (disch:=first|omega|rfl) only[sB,dAlloc,Za,Zb,one,cutC,zr40,st40,ld40,ia32,cl46,t0,t3,t17,t18,t19,decl hlt,hld1])|(refine qZd ?_ ?_;simp (disch:=first|omega|rfl) only[sB];refine z01 ?_))
    obtain⟨H4,e4,hx4,g4,hn4,hw4⟩:=z0o hx'.wf (.row zero6 40) (.row (six t.args[i] a1 c1) 40);simp only[e4];clear e4;have hs:=z1t (Zc hlt);refine(ih (t:=t.args[i]) (by omega) (hr1.mono (hx'.trans hx4) hw) (hf.args _ (ZD _)) (B.stay _ _ hj (hx'.trans hx4)) hw4).mono ?_;rintro v H5 ⟨cs',rfl,r5,-,hx5⟩;obtain⟨a2,c2,cells2,rfl,-⟩:=r5.rep.six;have hx45:=hx4.trans hx5;have gr5:=hx45.get hx'.wf gr';have gp5:=hx45.get hx'.wf gp';have gq5:=hx45.get hx'.wf gq';have hle:i*6+6<=cells'.length:=by rw[hlen];exact mul6 hlt
    have hln:=hx45.next;have hln2:=hx5.next;have hlt3:=hx'.wf _ _ gq';have hlt4:=hx'.wf _ _ gr'
    repeat' (first|(refine qZb ?_;simp (disch:=first|omega|rfl) only[sB,Za,t19,z05])|(refine z0f ?_;simp (disch:=first|omega|rfl) only[sB,Zb,one,st40,gr5,hle]))
    have hx6:=(hx'.trans hx45).pt (i:=H.next+2) (by omega) gr5 (some (.row (Hb.splice cells' (i*6) (six (subO σ t.args[i]) a2 c2)) 40));have hch:∀(j:Nat) (hj:j < t.args.length),j < i+1->RepS (H5.put (H.next+2) (some (.row (Hb.splice cells' (i*6) (six (subO σ t.args[i]) a2 c2)) 40))) (Rg (H.next+3) H5.next) (subO σ t.args[j]) (((Hb.splice cells' (i*6) (six (subO σ t.args[i]) a2 c2)).drop (j*6)).take 6):=fun j hj hji=>by
     by_cases e:j=i
     ·subst e;rw[z49 hle rfl];refine r5.to fun n hn hl=>?_
      have:=hn.1;exact⟨by rw[get_put,if_neg (by omega)],⟨by omega,hl⟩,hl⟩
     ·rw[z3c hle rfl (.inl (mul6 (by omega)))];refine(hfl j hj (by omega)).to fun n hn hl=>?_
      have:=hn.1;exact⟨by rw[get_put,if_neg (by omega)];exact hx45.keep n hl,⟨hn.1,Zo hl hln⟩,Zo hl hln⟩
    exact⟨t.args.length - (i+1),by omega,_,_,i+1,Hb.splice cells' (i*6) (six (subO σ t.args[i]) a2 c2),rfl,rfl,by omega,(by simp only[sG,Za,t0]),(by simp only[sG,Za,t1]),(by simp only[sG,Za,t2]),(by simp only[sG,Za,t3]),(by simp only[sG,Za,t17]),(by simp only[sG,Za,t18]),(by simp only[sB,Za];rfl),
     by rw[get_put,if_neg (by omega)];exact gp5,by rw[get_put,if_neg (by omega)];exact gq5,by rw[get_put,if_pos rfl],by rw[z0k hle];exact hlen,hch,hx6⟩
   ·repeat' (first|refine qZa ?_|(refine qZi ?_;try simp only[sB])|(refine qZf ?_)|(refine qZb ?_;simp only[sB,Za,Zb,one,cutC,st40,ld40,z1k,st32,t1,t2,t3,t18,t19,q1,gp',gq',decn hlt,ne1])|(refine qZm ?_ ?_;simp only[sB];refine z01 ?_))
    have hi':i=t.args.length:=by omega
    have hlt3:=hx'.wf _ _ gr';have hx7:=(hx'.pt (Ze _) gp' (some (.row (six t (some ⟨H.next+2,0,none⟩) t.args.length) 40))).pt (i:=H.next+1) (Nat.le_succ _) (by rw[get_put,if_neg (by omega)];exact gq')
     (some (.row (six t (some ⟨H.next+2,0,none⟩) t.args.length) 40))
    have hsl:(subO σ t).args.length=t.args.length:=by rw[hsa,Zp]
    refine z0s rfl (by simp only[sB,Za,t2];rfl) (by simp only[sB,Zb,cutC,ld40];rfl) ⟨_,rfl,?_,?_,hx7⟩;rotate_left
    ·refine .inr ⟨H.next+2,t.args.length,cells',(hsix _ _).symm,by rw[get_put,if_neg (by omega),get_put,if_neg (by omega)];exact gr',⟨by omega,hlt3⟩,hlt3,by omega,fun j hj=>RepT.all (hfl j (by omega) (by omega)).rep⟩
    have:=RepS.row (H:=((H'.put H.next (some (.row (six t (some ⟨H.next+2,0,none⟩) t.args.length) 40))).put (H.next+1) (some (.row (six t (some ⟨H.next+2,0,none⟩) t.args.length) 40)))) (S:=Rg H.next H'.next) (b:=H.next+2) (c:=t.args.length) (cells:=cells') (T:=40) hbd hmk
     (by rw[get_put,if_neg (by omega),get_put,if_neg (by omega)];exact gr') ⟨by omega,hlt3⟩ hlt3 (by omega) (by omega) (ZC hfew (by simp [maxLen])) (fun j hj=>by
      have hj':j < t.args.length:=by omega
      have ej:(subO σ t).args[j]=subO σ t.args[j]:=by simp only[hsa,List.getElem_map]
      rw[ej];refine(hfl j hj' (by omega)).to fun n hn hl=>?_
      have:=hn.1;exact⟨by rw[get_put,if_neg (by omega),get_put,if_neg (by omega)],⟨by omega,hn.2⟩,hl⟩)
    rw[hsix] at this;exact this
  ·refine⟨_,_,0,repL t.args.length zero6,rfl,rfl,by omega,(by simp only[sG,Za,reduceCtorEq]),(by simp only[sG,Za,reduceCtorEq]),(by simp only[sG,Za,reduceCtorEq]),by rw[hn2];first|(simp only[sG,Za,reduceCtorEq];rfl)|simp only[sG,Za,reduceCtorEq],(by simp only[sG,Za,reduceCtorEq]),(by simp only[sG,Za,reduceCtorEq]),(by simp only[sB,Za,reduceCtorEq];rfl),gp3,gq3,gr,by rw[z8c];rfl,fun j hj h=>by omega,hx23⟩
def addN (σ:Int->Option Tm) (m:Nat) (n:Int):Nat:=match σ n with
 |some u=>if m<=4000 then m+cnt u 0 - 1 else m
 |none=>m
def allS (σ:Int->Option Tm) (m:Nat) (l:List Int):Nat:=l.foldl (addN σ) m
theorem zs7 {σ:Int->Option Tm}{m:Nat}{n:Int}(h:m<=8001):addN σ m n<=8001:=by
 unfold addN;split
 ·rename_i u _;have:=zmc u;split<;>omega
 ·exact h
theorem zme {σ:Int->Option Tm}:∀{l:List Int}{m:Nat},m<=8001->allS σ m l<=8001
 |[],_,h=>h
 |n :: l,m,h=>by unfold allS;rw[ZP];exact zme (l:=l) (zs7 h)
theorem z96 {σ:Int->Option Tm}{l:List Int}{m:Nat}{n:Int}:allS σ m (l++[n])=addN σ (allS σ m l) n:=by unfold allS;rw[List.foldl_append];rfl
def PutOk (t:Tm) (B:List (Int × Tm)):Prop :=
 checkS t=0/\(∀(i:Nat) (hi:i < B.length),0<=B[i].1/\lookT (B.take i) B[i].1=none/\checkS B[i].2=0)/\allS (lookT B) (cnt t 0) (occ t)<=4000
set_option maxHeartbeats 2000000 in
theorem zoj {H0 H:Heap}{B:List (Int × Tm)}{p r:Nat}{n:Int}(gp:H.get p=some (.row [.map (some r)] 85)) (hm:MapT H0 H r B) (hx0:HX H0 H) (hw0:H0.wf) :
  EvF Tryz.prog okT 47 [.int .i64 n,.pointer (some ⟨p,0,none⟩)] H fun v H'=>HX H H'/\((∃u cs,lookT B n=some u/\v=.tuple #[.agg ⟨cs⟩,.bool true]/\RepT H' u cs)\/(lookT B n=none/\v=.tuple #[.agg ⟨zero6⟩,.bool false])):=by
 have hw:=hx0.wf;refine EvF.enter rfl Tryz.func47 (by decide) rfl ?_;have lp:=hw _ _ gp;(repeat refine qZa ?_);refine qZb ?_;simp only[sA,initTm,dAlloc,zr40];obtain⟨H2,e2,hx2,g2,hn2,hw2⟩:=new1 hw (.row zero6 40);simp only[e2];clear e2;have l2:=row1 (hx2.get hw gp);obtain⟨M,hM,hMn⟩:=hm.keep hx2 hw;rcases z6f (lookT B n) with ⟨u,hl⟩|hl
 ·skip
  obtain⟨cs,hg,hr⟩:=(hMn n).1 u hl;obtain⟨a1,c1,cells1,rfl,-⟩:=hr.six;(repeat refine qZa ?_);refine qZb ?_;simp only[sB,dAlloc,Za,Zb,one,reduceCtorEq,zr40,ld85,st40,l2,z15,z4w z94 hM hg];obtain⟨H3,e3,hx3,g3,hn3,hw3⟩:=z0o hw2 (.row zero6 40) (.row (six u a1 c1) 40);simp only[e3];clear e3;have g23:=hx3.get hw2 g2;have q3:=row6 g3
  repeat' (first|refine qZa ?_|(refine qZf ?_)|(refine qZb ?_;simp only[sB,Za,Zb,one,reduceCtorEq,st40,ld40,q3,g23]))
  have hx4:=(hx2.trans hx3).pt (Ze _) g23 (some (.row (six u a1 c1) 40));exact z0d rfl (by simp only[sB,Za,reduceCtorEq];rfl) (by simp only[sB,Zb,cutC,ld40]) (by simp only[sG,Za,reduceCtorEq]) ⟨hx4,.inl ⟨u,_,hl,rfl,hr.mono (hx0.trans hx4) hw0⟩⟩
 ·skip
  have hg:=(hMn n).2 hl;(repeat refine qZa ?_);refine qZb ?_;simp only[sB,dAlloc,Za,Zb,one,reduceCtorEq,zr40,ld85,st40,l2,z15,z63 z94 hM hg];obtain⟨H3,e3,hx3,g3,hn3,hw3⟩:=z0o hw2 (.row zero6 40) (.row zero6 40);simp only[e3];clear e3;have g23:=hx3.get hw2 g2;have q3:=row6 g3
  repeat' (first|refine qZa ?_|(refine qZf ?_)|(refine qZb ?_;simp only[sB,Za,Zb,one,reduceCtorEq,st40,ld40,q3,g23]))
  have hx4:=(hx2.trans hx3).pt (Ze _) g23 (some (.row zero6 40));exact z0d rfl (by simp only[sB,Za,reduceCtorEq];rfl) (by simp only[sB,Zb,cutC,ld40]) (by simp only[sG,Za,reduceCtorEq]) ⟨hx4,.inr ⟨hl,rfl⟩⟩
set_option maxHeartbeats 4000000 in
theorem zs8 {H0 H1:Heap}{B:List (Int × Tm)}{p r q m:Nat}{tot:List Int}(gp:H1.get p=some (.row [.map (some r)] 85)) (hm:MapT H0 H1 r B) (hx0:HX H0 H1) (hw0:H0.wf) (hq:H1.next<=q) (hm8:m<=8001) :
  Each 45 #[.pointer (some ⟨p,0,none⟩),.pointer (some ⟨q,0,none⟩)] H1 tot fun S pre G=>HX H1 G/\(∀n,S n↔n=q)/\G.get q=some (.row [.int .i64 ((allS (lookT B) m pre:Nat):Int)] 3):=by
 have hw1:=hx0.wf;refine⟨fun S pre H h=>h.1,fun S pre H h n hn=>?_,fun S pre n H h _=>?_,fun S pre H H' h hx=>⟨h.1.trans hx,h.2.1,hx.get h.1.wf h.2.2⟩⟩
 ·rw[(h.2.1 n).1 hn];exact h.1.wf _ _ h.2.2
 obtain⟨hx,hS,gq⟩:=h;have hw:=hx.wf;have lq:=hw _ _ gq;have hall:=zme (σ:=lookT B) (l:=pre) hm8;refine EvF.enter rfl Tryz.func45 (by decide) rfl ?_;have l2:=row1 (hx.get hw1 gp);obtain⟨M,hM,hMn⟩:=hm.keep hx hw1;rcases z6f (lookT B n) with ⟨u,hl⟩|hl
 ·skip
  obtain⟨cs,hg,hr⟩:=(hMn n).1 u hl;obtain⟨a1,c1,cells1,rfl,-⟩:=hr.six;(repeat refine qZa ?_);refine qZb ?_;simp only[sB,initTm,dAlloc,Za,Zb,one,reduceCtorEq,ld85,zr40,st40,l2,z15,z4w z94 hM hg];obtain⟨H3,e3,hx3,g3,hn3,hw3⟩:=z0o hw (.row zero6 40) (.row (six u a1 c1) 40);simp only[e3];clear e3;have gq3:=hx3.get hw gq;have lq3:=row1 gq3;have q3:=row6 g3;by_cases h4:allS (lookT B) m pre<=4000
  ·have hd:decide (((allS (lookT B) m pre:Nat):Int)<=4000)=true:=decide_eq_true (by omega);(repeat refine qZa ?_);refine qZb ?_;simp only[sB,Za,reduceCtorEq,ld3,lq3,hd];refine qZd (by simp only[sB,Za,reduceCtorEq]) ?_;(try refine qZe ?_);(try simp only[z00,z0b])
   repeat' (first|(refine qZj [([(1,0)],some 2),([(0,0),(3,1),(4,1)],some 5),([],none)] ?_ ?_;kernel_rfl;simp only[sD,sB,Za,Zb,reduceCtorEq,ld40,cl43,q3,isAlloc,isRead]))
   have hb3:=hx3.bump 6;refine(z5j u _ _ (hr.mono ((hx0.trans hx).trans hb3) hw0) hb3.wf).mono ?_;rintro v H5 ⟨rfl,hx5⟩;have gq5:=hx5.get hb3.wf (show Heap.get ⟨H3.next+6,H3.t⟩ q=_ from gq3);have lq5:=row1 gq5;have hc1:=zs5 u;have hc2:=zmc u;have hw2:IntKind.i64.wrap (((cnt u 0:Nat):Int) - 1)=((cnt u 0 - 1:Nat):Int):=by rw[z05 (by omega) (by omega)];omega
   have hw3:IntKind.i64.wrap (((allS (lookT B) m pre:Nat):Int)+((cnt u 0 - 1:Nat):Int))=((addN (lookT B) (allS (lookT B) m pre) n:Nat):Int):=by
    unfold addN;simp only[hl,if_pos h4];rw[z05 (by omega) (by omega)];omega
   repeat' (first|(refine z0p ?_;simp only[sD,sB,Za,one,reduceCtorEq,ld3,st3,lq3,lq5,gq5,hw2,hw3,isAlloc,isRead,zkh]))
   have hxx:=hb3.trans hx5;refine z0r rfl ⟨fun n=>n=q,⟨(hx.trans hxx).then ((HK.refl (S:=fun n=>n=q) hxx.wf).put (.inl rfl) (Zo lq hxx.next) _) (by intro k hk e;have e':k=q:=e;omega),fun n=>Iff.rfl,by rw[get_put,if_pos rfl,z96]⟩,?_,fun k hk=>.inl ((hS k).2 hk)⟩;exact((hxx.hk S)).put (.inl ((hS q).2 rfl)) (Zo lq hxx.next) _
  ·have hd:decide (((allS (lookT B) m pre:Nat):Int)<=4000)=false:=decide_eq_false (by omega)
   repeat' (first|refine qZa ?_|(refine qZe ?_)|(refine qZb ?_;simp only[sB,Za,reduceCtorEq,ld3,lq3,hd])|(refine qZm ?_ ?_;simp only[sB,Za,reduceCtorEq];refine z01 ?_))
   refine z0r rfl ⟨S,⟨hx.trans hx3,hS,?_⟩,hx3.hk _,fun n hn=>.inl hn⟩;rw[z96];unfold addN;simp only[hl,if_neg h4];exact gq3
 ·skip
  have hg:=(hMn n).2 hl;(repeat refine qZa ?_);refine qZb ?_;simp only[sB,initTm,dAlloc,Za,Zb,one,reduceCtorEq,ld85,zr40,st40,l2,z15,z63 z94 hM hg];obtain⟨H3,e3,hx3,g3,hn3,hw3⟩:=z0o hw (.row zero6 40) (.row zero6 40);simp only[e3];clear e3;have gq3:=hx3.get hw gq
  repeat' (first|refine qZa ?_|(refine qZe ?_)|(refine qZb ?_;simp only[sB,Za,reduceCtorEq,Zd])|(refine qZm ?_ ?_;simp only[sB,Za,reduceCtorEq];refine z01 ?_))
  refine z0r rfl ⟨S,⟨hx.trans hx3,hS,?_⟩,hx3.hk _,fun n hn=>.inl hn⟩;rw[z96];unfold addN;simp only[hl];exact gq3
section
variable {f:Int->Int}
abbrev ren (f:Int->Int) (t:Tm):Tm:=sub (fun n=>varT (f n)) t
end
set_option maxHeartbeats 4000000 in
theorem z97 {H:Heap}{B s n:Nat}{σ:SS}{v:Nat}(hs:St H B s σ) (hw:H.wf) (hn:n < σ.cells.length) (hv:ci σ.cells n=(1,(v:Int))) :
  EvF Tryz.prog okT 104 [.pointer (some ⟨s,0,none⟩),.agg ⟨two (2,(n:Int))⟩] H fun r H'=>r=.int .i64 v/\HX H H':=by
 refine EvF.enter rfl Tryz.func104 (by decide) rfl ?_;(repeat refine qZa ?_);refine qZb ?_;simp only[sB,initTm,dBox,Value.cells,one,reduceCtorEq];obtain⟨H1,e1,hx1,g1,n1,w1⟩:=new1 hw (.row (two (2,(n:Int))) 42);simp only[e1];have q1:=z0l g1
 repeat' (first|refine qZa ?_|(refine qZb ?_;simp only[sB,Za,reduceCtorEq,z21,ld3,cl37,q1]))
 refine(zs4 (hs.keep hw hx1) w1 hn).mono ?_;rintro r H2 ⟨rfl,hx2⟩;rw[hv];(try simp only[sB,dAlloc,Za,Zb,one,reduceCtorEq,zr42,st42]);obtain⟨H3,e3,hx3,g3,n3,w3⟩:=z0o hx2.wf (.row [.int .i64 0,.int .i64 0] 42) (.row (two (1,(v:Int))) 42);simp only[e3];have q3:=z0l g3
 repeat' (first|refine qZa ?_|(refine qZf ?_)|(refine qZb ?_;simp only[sB,Za,reduceCtorEq,z21,ld3,q3]))
 exact z03 rfl (by simp only[sG,Za,reduceCtorEq]) ⟨rfl,(hx1.trans hx2).trans hx3⟩
set_option maxHeartbeats 4000000 in
theorem zs9 {H:Heap}{B s:Nat}{σ:SS}{b o c:Nat}{x y:Int × Int}(hs:St H B s σ) (hw:H.wf) (ho:σ.own.length=σ.cells.length) (hd:∀c,mayS σ c=true->∃m d,Der σ.cells m c d) (hx:mayS σ x=true) (hy:mayS σ y=true) (hl:H.load ⟨b,o,none⟩ 2=some (two x)) (hl2:H.load ⟨b,o+2,none⟩ 2=some (two y)) :
  EvF Tryz.prog okT 63 [.pointer (some ⟨s,0,none⟩),.slice (some ⟨b,o,none⟩) 2 c] H fun r H'=>r=.int .i64 0/\HX H H':=by
 refine EvF.enter rfl Tryz.func63 (by decide) rfl ?_;(repeat refine qZa ?_);refine qZb ?_;simp only[sA,initTm]
 repeat' (first|refine qZa ?_|refine qZg ?_|(refine qZe ?_;try simp only[z00])|(refine qZb ?_;simp only[sB,Za,reduceCtorEq,ln27,bEqP])|(refine qZm ?_ ?_;simp only[sB,Za,reduceCtorEq];refine z01 ?_))
 have el:∀i:Nat,i < 2->H.load ⟨b,o+i*2,none⟩ 2=some (two (if i=0 then x else y))/\mayS σ (if i=0 then x else y)=true:=fun i hi=>by
  match i,hi with
  |0,_=>exact⟨hl,hx⟩
  |1,_=>exact⟨hl2,hy⟩
 refine qZk (fun k st=>∃tm H' i,st=⟨tm,[],H'⟩/\k=2 - i/\i<=2/\tm.get 0=some (.pointer (some ⟨s,0,none⟩))/\tm.get 11=some (.slice (some ⟨b,o,none⟩) 2 c)/\tm.get 12=some (.int .i64 (2:Nat))/\tm.get 13=some (.int .i64 (i:Nat))/\HX H H') ?_ 2 _ ?_;rotate_left
 ·exact⟨_,_,0,rfl,rfl,by omega,(by simp only[sG,reduceCtorEq]),(by simp only[sG,Za,reduceCtorEq]),(by simp only[sG,Za,reduceCtorEq]),(by simp only[sB,Za,reduceCtorEq];rfl),HX.refl hw⟩
 rintro k st ⟨tm,H',i,rfl,rfl,hi,t0,t11,t12,t13,hxH⟩;by_cases hlt:i < 2
 ·obtain⟨hli,hmi⟩:=el i hlt;generalize (if i=0 then x else y)=z at hli hmi;have hld:=hxH.load hw hli;have w':=hxH.wf;have d1:decide ((i:Int) < ((2:Nat):Int))=true:=decide_eq_true (by omega);(repeat refine qZa ?_);refine qZb ?_;simp only[sA,t12,t13,d1];(repeat refine qZa ?_);refine qZd (by simp only[sB]) ?_;(try refine qZe ?_);(try simp only[z00,z0b]);(repeat refine qZa ?_);refine qZg ?_;(repeat refine qZa ?_);refine qZb ?_;simp (disch:=first|omega|rfl) only[sB,dAlloc,Za,Zb,one,ia27,ld42,zr42,st42,t11,t13,hld];obtain⟨H2,e2,hx2,g2,n2,w2⟩:=z0o w' (.row [.int .i64 0,.int .i64 0] 42) (.row (two z) 42);simp only[e2];have q2:=z0l g2;(repeat refine qZa ?_);refine qZb ?_;simp only[sB,Za,reduceCtorEq,ld42,cl64,t0,q2];refine(z3v ((hs.keep hw hxH).keep w' hx2) w2 ho (fun h=>hd z h)).mono ?_;rintro r H3 ⟨d,e,rfl,hde,hx3⟩;rw[if_pos hmi] at hde;obtain⟨rfl,-⟩:=hde;(try simp only[sB,dAlloc,Za,Zb,one,zr42,st42]);obtain⟨H4,e4,hx4,g4,n4,w4⟩:=z0o hx3.wf (.row [.int .i64 0,.int .i64 0] 42) (.row (two d) 42);simp only[e4]
  repeat' (first|refine qZa ?_|(refine qZe ?_;try simp only[sA])|(refine qZb ?_;simp (disch:=first|omega|rfl) only[sB,Za,z13 rfl,t13,z05])|(refine qZm ?_ ?_;simp only[sB,Za];refine z01 ?_))
  exact⟨2 - (i+1),by omega,_,_,i+1,rfl,rfl,by omega,(by simp only[sG,reduceCtorEq,t0]),(by simp only[sG,Za,t11]),(by simp only[sG,Za,t12]),(by simp only[sB,Za];rfl),((hxH.trans hx2).trans hx3).trans hx4⟩
 ·have d1:decide ((i:Int) < ((2:Nat):Int))=false:=decide_eq_false (by omega)
  repeat' (first|refine qZa ?_|(refine qZi ?_;try simp only[sB])|(refine qZf ?_)|(refine qZb ?_;simp only[sA,t12,t13,d1])|(refine qZm ?_ ?_;simp only[sB];refine z01 ?_))
  exact z03 rfl (by simp only[sG,Za]) ⟨rfl,hxH⟩
def aT:Tm:=.mk 2 ⟨#[97]⟩ Zh 0 0 []
end Go.Proofs.hq
end

section
namespace Go.Hb
open Go Go.RowKit
variable {P:Program}{H:Heap}{e:TypeId}{s base:Nat}{L:List (List Value)}{v:Value}
def Rel2 {α β:Type}(R:α->β->Prop) (L:List α) (P:List β):Prop:=L.length=P.length/\∀(i:Nat) (p:α) (u:β),L[i]?=some p->P[i]?=some u->R p u
theorem Rel2.app {α β:Type}{R:α->β->Prop}{L L':List α}{P P':List β}(h:Rel2 R L P) (h':Rel2 R L' P'):Rel2 R (L++L') (P++P'):=by
 refine⟨by rw[Zm,Zm,h.1,h'.1],fun i p u hp hu=>?_⟩;by_cases hi:i < L.length
 ·rw[ZI hi] at hp;rw[ZI (by rw[<-h.1];exact hi)] at hu;exact h.2 i p u hp hu
 ·rw[List.getElem?_append_right (by omega)] at hp;rw[List.getElem?_append_right (by rw[<-h.1];omega)] at hu;rw[<-h.1] at hu;exact h'.2 _ p u hp hu
theorem Rel2.left {α β:Type}{R:α->β->Prop}{L L':List α}{P P':List β}(h:Rel2 R (L++L') (P++P')) (hl:L.length=P.length):Rel2 R L P:=by
 refine⟨hl,fun i p u hp hu=>h.2 i p u ?_ ?_⟩
 ·rw[ZI (List.getElem?_eq_some_iff.1 hp).1];exact hp
 ·rw[ZI (List.getElem?_eq_some_iff.1 hu).1];exact hu
theorem Rel2.zip {α β:Type}{R:α->β->Prop}{S:α × α->β × β->Prop}{A A':List α}{B B':List β}(h:Rel2 R A B) (h':Rel2 R A' B') (hR:∀a a' b b',R a b->R a' b'->S (a,a') (b,b')):Rel2 S (A.zip A') (B.zip B'):=by
 refine⟨by rw[List.length_zip,List.length_zip,h.1,h'.1],fun i p u hp hu=>?_⟩;obtain⟨p1,p2⟩:=p;obtain⟨u1,u2⟩:=u;rw[List.getElem?_zip_eq_some] at hp hu;exact hR _ _ _ _ (h.2 i _ _ hp.1 hu.1) (h'.2 i _ _ hp.2 hu.2)
end Go.Hb
namespace Go.Proofs.hq
open Go Go.RowKit Go.Hb
theorem zmf {H:Heap}(hw:H.wf) {b:Nat}{L:List (Int × Int)}{T:TypeId}(hg:H.get b=some (.row (L.map two).flatten T)) (hm:L.length<=maxLen) {i:Nat}{x:Int × Int}(hx:L[i]?=some x):H.load ⟨b,i*2,none⟩ 2=some (two x):=by
 have hz:∀y∈L.map two,y.length=2:=fun y hy=>by obtain⟨z,-,rfl⟩:=List.mem_map.1 hy;rfl
 have ha:∀y∈L.map two,y.all one=true:=fun y hy=>by obtain⟨z,-,rfl⟩:=List.mem_map.1 hy;rfl
 have hl:=z2r _ hz;have o:OwnS H T 2 0 (L.map two) b L.length:=⟨ZA _,hw _ _ hg,⟨_,hg,by rw[hl];exact Ze _,by rw[<-hl,List.take_length]⟩,by simp,hm,hz,ha⟩
 exact o.load (by rw[Zj,hx];rfl)
structure RC (σ:SS) (c:Int × Int) (t:Tm):Prop where
 rd:RD σ 0 c t
 may:mayS σ c=true
 fine:Fine t
 bd:BdA t
theorem RC.der {σ:SS}{c:Int × Int}{t:Tm}(h:RC σ c t) {m:Nat}{d:Int × Int}(hd:Der σ.cells m c d):d=c:=by
 have hr:=h.rd;cases hr with
 |var v a h1 h2 h3 h4 h5 =>
  cases hd with
  |stop k=>exact absurd rfl k
  |var=>rfl
  |go k1 k2 k3 k4=>exact absurd (show (ci σ.cells (a:Int)).1=1 by rw[h4]) k4
 |con j _ h1 h2=>exact z7k hd (show (3:Int)≠2 by decide)
 |str p f nm l=>exact z7k hd (show (4:Int)≠2 by decide)
theorem RC.sub {σ:SS}(hT:TOk σ) {p:Nat}{nm:ByteArray}{l:List Tm}(h:RC σ (4,(p:Int)) (.mk 5 nm e0 0 0 l)) {i:Nat}{u:Tm}(hu:l[i]?=some u):RC σ (ci σ.cells ((p+1+i:Nat):Int)) u:=by
 have hi:=(List.getElem?_eq_some_iff.1 hu).1;have hm:=ZG hu;have hr:=h.rd;cases hr with
 |str _ f _ _ h1 h2 h3 h4 h5 h6 =>
  obtain⟨m,d,hd,hsh⟩:=hT.go _ h.may;have e:=z7k hd (show (4:Int)≠2 by decide);subst e;refine⟨h6 i u hu,?_,h.fine.args u hm,h.bd.args u hm⟩;cases hsh with
  |var k=>exact absurd (show (4:Int)=2 from k) (by decide)
  |con k=>exact absurd (show (4:Int)=3 from k) (by decide)
  |str f' _ _ _ e1 hf' k1 k2 k3 =>
   have ef:f'=f:=by
    have:(ci σ.cells ((4,(p:Int)):Int × Int).2).2=(f:Int):=by show (ci σ.cells (p:Int)).2=_;rw[h3]
    rw[this] at e1;omega
   subst ef;have eg:σ.funs[f']=(nm,(l.length:Int)):=by have:=Zc hf';rw[h4] at this;exact(Option.some.inj this).symm
   have:=k3 i (by rw[eg];simp only;omega);have e9:((4,(p:Int)):Int × Int).2+1+(i:Int)=((p+1+i:Nat):Int):=by show (p:Int)+1+i=_;omega
   rw[e9] at this;exact this.2
theorem RC.str {σ:SS}{c:Int × Int}{t:Tm}(h:RC σ c t) (k:t.kind=5):∃(p f:Nat) (nm:ByteArray) (l:List Tm),c=(4,(p:Int))/\t=.mk 5 nm e0 0 0 l/\1<=l.length/\l.length<=64/\p < σ.cells.length/\ci σ.cells p=(5,(f:Int))/\σ.funs[f]?=some (nm,(l.length:Int))/\p+1+l.length<=σ.cells.length:=by
 have hf:=h.fine;have hr:=h.rd;cases hr with
 |var v a=>exact absurd (show (1:Int)=5 from k) (by decide)
 |con j _ h1 h2 =>
  have:=(z1b hf.node).2.2.2.2.1 k;rw[h2] at this;exact absurd this.1 (by decide)
 |str p f nm l h1 h2 h3 h4 h5 h6 =>
  have hk5:=(z1b hf.node).2.2.2.2.1 rfl;have hl1:1<=l.length:=hk5.1;have:=h5 (l.length - 1) (by omega);exact⟨p,f,nm,l,rfl,rfl,hl1,hk5.2,h2,h3,h4,by omega⟩
theorem RC.cells {σ:SS}(hT:TOk σ) {p:Nat}{nm:ByteArray}{l:List Tm}(h:RC σ (4,(p:Int)) (.mk 5 nm e0 0 0 l)) (hl:p+1+l.length<=σ.cells.length):Rel2 (RC σ) ((σ.cells.drop (p+1)).take l.length) l:=by
 refine⟨by rw[ZH,List.length_drop];omega,fun i c u hc hu=>?_⟩;have hi:=(List.getElem?_eq_some_iff.1 hu).1;rw[ZJ,if_pos hi,List.getElem?_drop,z35 (by omega)] at hc;rw[<-Option.some.inj hc];exact h.sub hT hu
def four (p:(Int × Int) × (Int × Int)):List Value:=[.int .i64 p.1.1,.int .i64 p.1.2,.int .i64 p.2.1,.int .i64 p.2.2]
theorem zok {t:Tm}(hn:nodeS t=0) (h:∀u∈t.args,Fine u):Fine t:=by
 unfold Fine;rw[z5i,if_pos hn];have hl:∀l:List Tm,(∀u∈l,Fine u)->allL nodeS l=0:=by
  intro l
  induction l with
  |nil=>intro _;rfl
  |cons u l ih =>
   intro hu;rw[allL,if_pos (show allE nodeS u=0 from hu u (by simp))];exact ih fun v hv=>hu v (Zl _ hv)
 exact hl t.args h
end Go.Proofs.hq
end

section
namespace Go.Proofs.hq
open Go Go.RowKit Go.Hb
variable {ok:Ok}
set_option maxRecDepth 10000
attribute [local irreducible] LX LG EL STG SOP SGO SGD SAL SRD SEF SEG SLK SCK ES
end Go.Proofs.hq
end
