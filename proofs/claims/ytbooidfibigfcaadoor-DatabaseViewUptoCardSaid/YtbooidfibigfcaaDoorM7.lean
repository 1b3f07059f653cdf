import Derived.Test.YtbooidfibigfcaaDoorM3
import Derived.Test.YtbooidfibigfcaaDoorM6
import Derived.Test.YtbooidfibigfcaaDoorM2
import Derived.Test.YtbooidfibigfcaaDoorM4
/- Lemmas on the program's own code, towards the laws of this folder, part 7. Conditions: as each lemma says. -/
open Bool renaming false_eq_true -> Ze, not_false -> ZH, not_true -> Zq
open ByteArray renaming empty -> Zd
open Int renaming reduceToNat -> ZO
open List renaming getElem?_append_left -> ZC, getElem?_eq_getElem -> Zc, getElem?_map -> Zv, getElem?_take -> ZE, getElem_mem -> Zz, getElem_of_mem -> ZK, length_append -> Zy, length_cons -> ZJ, length_map -> Zt, length_take -> Zp, map_append -> ZB, map_cons -> Zx, mem_of_getElem? -> Zr, range -> Zi
open Nat renaming beq_eq -> Zs, le_refl -> Zf, le_trans -> Zk, lt_of_lt_of_le -> Zh, lt_succ_self -> Zg, reduceAdd -> Zb, reduceEqDiff -> Za, reduceLeDiff -> Zn, zero_add -> ZF, zero_le -> Zo, zero_mul -> ZL
section
namespace Go.Proofs.hq
open Go Go.RowKit Go.Hb
variable {ok:Ok}
set_option maxRecDepth 10000
attribute [local irreducible] LX LG EL STG SOP SGO SGD SAL SRD SEF SEG SLK SCK ES
theorem zv0 {H:Heap}{p:Nat}{T:TypeId}{x0 x1 x2 x3 x4 x5 x6 x7 x8 x9 xa xb xc xd xe:Value}(h:H.get p=some (Blk.row [x0,x1,x2,x3,x4,x5,x6,x7,x8,x9,xa,xb,xc,xd,xe] T)):H.load ⟨p,1,none⟩ 1=some [x1]/\H.load ⟨p,5,none⟩ 1=some [x5]:=by
 refine⟨?_,?_⟩<;>simp only[Heap.load,Heap.cells,h]<;>rfl
theorem zw6 {H:Heap}{p:Nat}{T:TypeId}{x y z:Value}(h:H.get p=some (.row [x,y,z] T)):H.load ⟨p,1,none⟩ 2=some [y,z]:=by
 simp only[Heap.load,Heap.cells,h];rfl
abbrev lineE (c:Cls) (ha:Option Addr) (hc:Nat) (ta:Option Addr) (tc:Nat) (a:Option Addr) (k:Nat):List Value :=
 [.string sUser,.string c.head.name,.int .i64 (c.head.args.length:Nat),.int .i64 c.head.kind,.string c.head.name,.string c.head.num,.int .u64 c.head.bits,.int .i64 c.head.var,.slice ha c.head.args.length hc,.int .i64 c.body.kind,.int .i64 c.body.term.kind,.string c.body.term.name,.string c.body.term.num,.int .u64 c.body.term.bits,.int .i64 c.body.term.var,.slice ta c.body.term.args.length tc,.slice a c.body.sub.length k,.int .i64 c.vars,.bool true]
section
variable {H:Heap}{B d:Nat}{D:Db}
set_option maxHeartbeats 16000000 in
theorem zr5 {H0:Heap}(h:DbB H B d D) (w:DbW D) (hw:H.wf) {c:Cls}{cs:List Value}(hc:RdC H0 c cs) (hx0:HX H0 H) (hB:H0.next<=B) (hw0:H0.wf) (hf:FewB 1000000 c.body) (hm:D.lines.length+1<=most) (last:Bool) :
  EvF Tryd.prog okT 19 [ptr d,.string sUser,.agg ⟨cs⟩,.bool last,.bool false] H fun v H'=>∃D',DbB H' B d D'/\DX H H' d D D'/\DbW D'/\Grew D D'/\D'.lines.length<=D.lines.length+1/\H'.wf:=by
 have hc0:=hc;obtain⟨ha,hcc,ta,tc,a,k,rfl,rh,rb⟩:=hc;refine EvF.enter rfl Tryd.func19 (by decide) rfl ?_;(repeat refine qZa ?_);refine qZb ?_;simp (config:=qZc) (disch:=first|omega|rfl) only[sB,initTm,dBox,Za,Zb,Value.cells,one,reduceCtorEq];obtain⟨H1,e1,hx1,g1,n1,w1⟩:=new1 hw (.row (fift c.head ha hcc c.body.kind c.body.term ta tc a c.body.sub.length k c.vars) 55);simp only[e1];clear e1
 repeat' (first|refine qZa ?_|refine qZg ?_|(refine qZb ?_;simp (config:=qZc) (disch:=first|omega|rfl) only[sB,Za,reduceCtorEq,cl44,bEqP])|(refine qZm ?_ ?_;simp (config:=qZc) (disch:=first|omega|rfl) only[sB,Za,reduceCtorEq];refine z05 ?_))
 refine(z9o zi7 w1).mono ?_;rintro v H2 ⟨rfl,hx2⟩;have w2:=hx2.wf;have g2:=hx2.get w1 g1;have q2:=z1n g2;rw[zaz]
 repeat' (first|refine qZa ?_|(refine qZe ?_;try simp only[sA])|(refine qZb ?_;simp (config:=qZc) (disch:=first|omega|rfl) only[sB,Za,reduceCtorEq,ld55,cl45,q2])|(refine z0n ?_;simp (config:=qZc) (disch:=first|omega|rfl) only[sB,Za,reduceCtorEq,Zq])|(refine qZm ?_ ?_;simp (config:=qZc) (disch:=first|omega|rfl) only[sB,Za,reduceCtorEq];refine z05 ?_))
 have hx02:=(hx0.trans hx1).trans hx2;refine(zjm hf (hc0.mono hx02 hw0) w2).mono ?_;rintro v H3 ⟨rfl,hx3⟩;have w3:=hx3.wf;have g3:=hx3.get w2 g2;have q3:=z1n g3;have q3n:=zv0 g3;have hx13:=(hx1.trans hx2).trans hx3;have hx03:=hx0.trans hx13;obtain⟨h3,dx3⟩:=h.keep hw hx13;by_cases hck:checkC c=0;rotate_left
 ·repeat' (first|refine qZa ?_|(refine qZf ?_;try simp only[z06,z01])|(refine qZb ?_;simp (config:=qZc) (disch:=first|omega|rfl) only[sB,Za,reduceCtorEq,z1y hck])|(refine qZd ?_ ?_;simp (config:=qZc) (disch:=first|omega|rfl) only[sB,Za,reduceCtorEq];refine z05 ?_))
  exact z1c rfl (by simp only[sB,Za,reduceCtorEq];rfl) (by simp only[sB,Za,reduceCtorEq];rfl) ⟨D,h3,dx3,w,Grew.refl,by omega,w3⟩
 have hgood:=zfp hck;obtain⟨H4,e4,hx4,g4,n4,w4⟩:=z0r w3 (.row [.string Zd,.string Zd,.int .i64 0] 115) (.row [.string sUser,.string c.head.name,.int .i64 (c.head.args.length:Nat)] 115);have q4:=zp5 g4;have q4d:=zw6 g4;obtain⟨h4,dx4⟩:=h3.keep w3 hx4;have dx04:=dx3.trans dx4;have hx04:=hx03.trans hx4;have hpc:H4.get H.next=some (.row (fift c.head ha hcc c.body.kind c.body.term ta tc a c.body.sub.length k c.vars) 55):=hx4.get w3 g3;obtain⟨r0,a1,c1,r3,r4,r5,r6,cells,hs,hl,l0,l1,l2,l3,hl1,hl2,m0,m3⟩:=h4.open;obtain⟨K,hK⟩:∃K:PK,K=(c.head.name,(c.head.args.length:Int)):=⟨_,rfl⟩
 obtain⟨pv,b,hpv,el⟩:∃pv b,((D.idx K=none/\pv=.pointer none/\b=true)\/∃j p,D.idx K=some j/\D.procs[j]?=some p/\pv=ptr p.blk/\b=false)/\∀n,dLk Tryd.prog 104 (.map (some r3)) (pkv K) false ⟨n,H4.t⟩=some (.val pv ⟨n,H4.t⟩):=by
  cases hi:D.idx K with
  |none=>exact⟨_,true,.inl ⟨rfl,rfl,rfl⟩,zn3 m3 hi⟩
  |some j =>
   obtain⟨p,hp,-⟩:=Db.idx_some hi;exact⟨_,false,.inr ⟨j,p,rfl,hp,rfl,rfl⟩,zp8 m3 hi hp⟩
 obtain⟨xf,elf⟩:=zuy m0 K;rw[hK] at el elf;have ebn:∀{n:Nat}{G:Heap},dBin Tryd.prog .neq 116 (.tmp n) (.const (.pointer none)) pv (.pointer none) G=some (.val (.bool (!b)) G):=by
  intro n G;rcases hpv with ⟨-,rfl,rfl⟩|⟨j,p,-,-,rfl,rfl⟩
  ·exact prN0
  ·exact prN
 have ebe:∀{n:Nat}{G:Heap},dBin Tryd.prog .eql 116 (.tmp n) (.const (.pointer none)) pv (.pointer none) G=some (.val (.bool b) G):=by
  intro n G;rcases hpv with ⟨-,rfl,rfl⟩|⟨j,p,-,-,rfl,rfl⟩
  ·exact prE0
  ·exact prE
 repeat' (first|refine qZa ?_|refine qZg ?_|(refine qZe ?_;try simp only[z00])|(refine qZb ?_;simp (config:=qZc) (disch:=first|omega|rfl) only[sB,dAlloc,Za,Zb,Value.cells,one,reduceCtorEq,Zn,layC,z8s,z1t,ld9,z10,ld22,ln22,bd47,zbl,zv7,zv8,z0x hck,q3n,e4])|(refine qZj (id:=9) [([(0,0),(1,0),(2,0),(3,0),(4,0),(5,0),(6,0)],none)] ?_ ?_;kernel_rfl;simp (config:=qZc) (disch:=first|omega|rfl) only[sD,sB,Za,Zb,reduceCtorEq,z3d,z8t,zky,z0c,z0j,l3,q4,z0m,el,isAlloc,isRead])|(refine qZj (id:=10) [([(0,0),(1,0),(2,0),(3,0),(4,0),(5,0),(6,0),(7,0),(8,0)],none)] ?_ ?_;kernel_rfl;simp (config:=qZc) (disch:=first|omega|rfl) only[sD,sB,Za,Zb,reduceCtorEq,zbk,ld71,zrl,ld47,z0c,z0j,q4d,z0m,l0,elf,isAlloc,isRead])|(refine qZm ?_ ?_;simp (config:=qZc) (disch:=first|omega|rfl) only[sB,Za,reduceCtorEq];refine z05 ?_))
 refine EvC.join (fun st=>∃tm,st=⟨tm,[],⟨H4.next+7+9,H4.t⟩⟩/\tm.get 0=some (ptr d)/\tm.get 3=some (.bool last)/\tm.get 4=some (.bool false)/\tm.get 7=some (.pointer (some ⟨H.next,0,none⟩))/\tm.get 13=some (.pointer (some ⟨H3.next,0,none⟩))/\tm.get 14=some pv) ?_ ?_
 ·have hbx:=(HX.refl w4).bump 7;have hby:=hbx.bump 9;obtain⟨hE,dxE⟩:=h4.keep w4 hby;by_cases hxf:xf=0;rotate_left
  ·repeat' (first|refine qZa ?_|(refine qZf ?_;try simp only[z06,z01])|(refine qZb ?_;simp (config:=qZc) (disch:=first|omega|rfl) only[sA,z1y hxf])|(refine qZd ?_ ?_;simp (config:=qZc) (disch:=first|omega|rfl) only[sB,Za,reduceCtorEq,z1y hxf];refine z05 ?_))
   exact z1c rfl (by simp only[sB,Za,reduceCtorEq];rfl) (by simp only[sB,Za,reduceCtorEq];rfl) ⟨D,hE,dx04.trans dxE,w,Grew.refl,by omega,hby.wf⟩
  have lp:b=false->∃p:Prc,pv=ptr p.blk/\H4.load ⟨p.blk,0,none⟩ 1=some [.int .i64 2]:=fun hb=>by
   rcases hpv with ⟨-,-,rfl⟩|⟨j,p,-,hp,rfl,-⟩
   ·cases hb
   ·obtain⟨_,_,-,lp0,-⟩:=h4.pr hp;exact⟨p,rfl,lp0⟩
  have d21:((2:Int) == 1)=false:=rfl;by_cases hn:D.n=400
  ·cases b with
   |true =>
    repeat' (first|refine qZa ?_|(refine qZf ?_;try simp only[z06,z01])|(refine qZb ?_;simp (config:=qZc) (disch:=first|omega|rfl) only[sB,Za,reduceCtorEq,ld3,z5o,z0c,z0j,z0x hxf,Ze,ZH,Zq,ebn,l2,z3c,z0y hn])|(refine qZd ?_ ?_;simp (config:=qZc) (disch:=first|omega|rfl) only[sB,Za,reduceCtorEq,z0x hxf];refine z05 ?_)|(refine qZm ?_ ?_;simp (config:=qZc) (disch:=first|omega|rfl) only[sB,Za,reduceCtorEq,z0x hxf];refine z05 ?_))
    exact z1c rfl (by simp only[sB,Za,reduceCtorEq];rfl) (by simp only[sB,Za,reduceCtorEq];rfl) ⟨D,hE,dx04.trans dxE,w,Grew.refl,by omega,hby.wf⟩
   |false =>
    obtain⟨p,rfl,lp0⟩:=lp rfl
    repeat' (first|refine qZa ?_|(refine qZf ?_;try simp only[z06,z01])|(refine qZb ?_;simp (config:=qZc) (disch:=first|omega|rfl) only[sB,Za,reduceCtorEq,zfe,ld3,z5o,z0c,z0j,z0x hxf,ZH,ebn,l2,lp0,d21,z3c,z0y hn])|(refine qZd ?_ ?_;simp (config:=qZc) (disch:=first|omega|rfl) only[sB,Za,reduceCtorEq,z0x hxf];refine z05 ?_)|(refine qZm ?_ ?_;simp (config:=qZc) (disch:=first|omega|rfl) only[sB,Za,reduceCtorEq,z0x hxf];refine z05 ?_))
    exact z1c rfl (by simp only[sB,Za,reduceCtorEq];rfl) (by simp only[sB,Za,reduceCtorEq];rfl) ⟨D,hE,dx04.trans dxE,w,Grew.refl,by omega,hby.wf⟩
  ·cases b with
   |true =>
    repeat' (first|refine qZa ?_|(refine qZe ?_;try simp only[z00])|(refine qZb ?_;simp (config:=qZc) (disch:=first|omega|rfl) only[sB,Za,reduceCtorEq,ld3,z5o,z0c,z0j,z0x hxf,Ze,ZH,Zq,ebn,l2,z3c,z0t hn])|(refine qZm ?_ ?_;simp (config:=qZc) (disch:=first|omega|rfl) only[sB,Za,reduceCtorEq,z0x hxf];refine z05 ?_))
    exact⟨_,rfl,(by simp only[sG,reduceCtorEq]),(by simp only[sG,Za,reduceCtorEq]),(by simp only[sG,Za,reduceCtorEq]),(by simp only[sG,Za,reduceCtorEq]),(by simp only[sG,Za,reduceCtorEq]),(by simp only[sG,Za,reduceCtorEq])⟩
   |false =>
    obtain⟨p,rfl,lp0⟩:=lp rfl
    repeat' (first|refine qZa ?_|(refine qZe ?_;try simp only[z00])|(refine qZb ?_;simp (config:=qZc) (disch:=first|omega|rfl) only[sB,Za,reduceCtorEq,zfe,ld3,z5o,z0c,z0j,z0x hxf,ZH,ebn,l2,lp0,d21,z3c,z0t hn])|(refine qZm ?_ ?_;simp (config:=qZc) (disch:=first|omega|rfl) only[sB,Za,reduceCtorEq,z0x hxf];refine z05 ?_))
    exact⟨_,rfl,(by simp only[sG,reduceCtorEq]),(by simp only[sG,Za,reduceCtorEq]),(by simp only[sG,Za,reduceCtorEq]),(by simp only[sG,Za,reduceCtorEq]),(by simp only[sG,Za,reduceCtorEq]),(by simp only[sG,Za,reduceCtorEq])⟩
 rintro st ⟨tm,rfl,t0,t3,t4,t7,t13,t14⟩
 repeat' (first|refine qZa ?_|(refine qZb ?_;simp (config:=qZc) (disch:=first|omega|rfl) only[sB,t14,ebe]))
 obtain⟨G,eG⟩:∃G:Heap,(⟨H4.next+7+9,H4.t⟩:Heap)=G:=⟨_,rfl⟩
 simp only[eG];have hxG:HX H4 G:=by rw[<-eG];exact((HX.refl w4).bump 7).bump 9
 clear eG;have wG:=hxG.wf;obtain⟨hG,dxG⟩:=h4.keep w4 hxG;have hHn:H.next < H4.next:=by have:=hx13.next;have:=hx4.next;have:=hx2.next;have:=hx3.next;omega
 have hoff4:∀n,H.next<=n->n < H4.next->Off H4 d D n:=fun n a1 a2=>⟨a2,fun q=>by have:=h.hi hw (h.mutx hw (hx13.trans hx4) q);omega⟩
 refine EvC.join (fun st=>∃(tm:Tr Value) (G5:Heap) (D5:Db) (j:Nat) (p:Prc),st=⟨tm,[],G5⟩/\tm.get 0=some (ptr d)/\tm.get 3=some (.bool last)/\tm.get 7=some (.pointer (some ⟨H.next,0,none⟩))/\tm.get 13=some (.pointer (some ⟨H3.next,0,none⟩))/\tm.get 14=some (ptr p.blk) /\
  DbB G5 B d D5/\DX H4 G5 d D D5/\DbW D5/\Grew D D5/\D5.lines=D.lines/\D5.procs[j]?=some p/\p.key=K/\G5.wf) ?_ ?_
 ·rcases hpv with ⟨hi,rfl,rfl⟩|⟨j,p,hi,hp,rfl,rfl⟩
  rotate_left
  ·repeat' (first|(refine qZe ?_;try simp only[z00])|(refine qZm ?_ ?_;simp (config:=qZc) (disch:=first|omega|rfl) only[sB,Za];refine z05 ?_))
   obtain⟨p',hp',hkp⟩:=Db.idx_some hi;rw[hp] at hp';cases hp';exact⟨_,_,D,j,p,rfl,(by simp only[sG,reduceCtorEq,t0]),(by simp only[sG,Za,t3]),(by simp only[sG,Za,t7]),(by simp only[sG,Za,t13]),(by simp only[sG,Za,t14]),hG,dxG,w,Grew.refl,rfl,hp,hkp,wG⟩
  obtain⟨G1,e1,hy1,y1,yn1,yw1⟩:=new1 wG (.row [.int .i64 2,.slice none 0 0] 118);obtain⟨G2,e2⟩:∃G2:Heap,(⟨G1.next+7,G1.t⟩:Heap)=G2:=⟨_,rfl⟩
  have hy2:HX G G2:=by rw[<-e2];exact hy1.bump 7
  have yw2:=hy2.wf;have y2:G2.get G.next=some (.row [.int .i64 2,.slice none 0 0] 118):=by rw[<-e2];exact y1
  obtain⟨hG2,dxG2⟩:=hG.keep wG hy2;have hx42:=hxG.trans hy2;have ls:=hx42.load w4 l3;have qs:=zp5 (hx42.get w4 g4);have hs2:=hs.keep w4 hx42;have hl2':LnsR G2 (fun n=>Off G2 d D n/\n < G.next) D.lines cells:=hl.to fun n hn hlt=>⟨hx42.keep n hlt,⟨((dxG.trans dxG2).off hn).2.1,Zh hlt hxG.next⟩,Zh hlt hx42.next⟩
  obtain⟨Bm,eu,mu⟩:=zw5 (nb:=G.next) (mk3 hs2) hi;obtain⟨G3,e3,hG3,dx3',yw3,yn3⟩:=hG2.addP yw2 wG hG hy2 hs2 hl2' y2 (Zf _) mu;rw[e3] at eu;rw[hK] at eu
  repeat' (first|refine qZa ?_|(refine qZe ?_;try simp only[z00])|(refine qZb ?_;simp (config:=qZc) (disch:=first|omega|rfl) only[sB,dBox,Za,Zb,Value.cells,one,Zn,layC,zv9,t4,e1])|(refine qZj (id:=20) [([(0,0),(1,0),(2,0),(3,0),(4,0),(5,0)],some 6),([],none)] ?_ ?_;kernel_rfl;simp (config:=qZc) (disch:=first|omega|rfl) only[sD,sB,Za,Zb,reduceCtorEq,z3d,z8t,zky,z0c,z0j,t0,t13,e2,ls,qs,z2g,eu,isAlloc,isRead])|(refine qZd ?_ ?_;simp (config:=qZc) (disch:=first|omega|rfl) only[sB,Za];refine z05 ?_)|(refine qZm ?_ ?_;simp (config:=qZc) (disch:=first|omega|rfl) only[sB,Za];refine z05 ?_))
  exact⟨_,_,_,D.procs.length,⟨K,G.next,[]⟩,rfl,(by simp only[sG,reduceCtorEq,t0]),(by simp only[sG,Za,t3]),(by simp only[sG,Za,t7]),(by simp only[sG,Za,t13]),(by simp only[sG,Za]),hG3,dxG.trans dx3',w.newP hi,Grew.newP,rfl,(zpb hi).2,rfl,yw3⟩
 clear hs hl l0 l1 l2 l3 m0 m3 el elf ebn ebe t0 t3 t4 t7 t13 t14 hpv hG dxG hxG wG hl1 hl2;rintro st ⟨tm,G,D5,j,p,rfl,t0,t3,t7,t13,t14,hG,dxG,w5,gr5,hl5,hp,hkp,wG⟩;have dx04G:=dx04.trans dxG;have gpc:G.get H.next=some (.row (fift c.head ha hcc c.body.kind c.body.term ta tc a c.body.sub.length k c.vars) 55):=(dxG.off (hoff4 _ (Zf _) hHn)).1.trans hpc;have hH3:H.next<=H3.next:=hx13.next;have gpl:G.get H3.next=some (.row [.string sUser,.string c.head.name,.int .i64 (c.head.args.length:Nat)] 115):=(dxG.off (hoff4 _ hH3 (by omega))).1.trans g4;have hx0G:=dxG.hx h4 hx04 hB;obtain⟨r0,a1,c1,r3,r4,r5,r6,cells,hs,hl,l0,l1,l2,l3,hl1,hl2,m0,m3⟩:=hG.open;obtain⟨G1,eG1⟩:∃G1:Heap,(⟨G.next+14,G.t⟩:Heap)=G1:=⟨_,rfl⟩
 have hy1:HX G G1:=by rw[<-eG1];exact(HX.refl wG).bump 14
 have yn1:G1.next=G.next+14:=by rw[<-eG1]
 have yw1:=hy1.wf;have q1:=z1n (hy1.get wG gpc)
 repeat' (first|refine qZa ?_|(refine qZb ?_;simp (config:=qZc) (disch:=first|omega|rfl) only[sB,Za,z4n,zdg,zkz,z0c,z0j,t0,l1])|(refine qZj (id:=22) [([(6,0)],some 7),([(1,0),(2,0),(3,0),(4,0),(5,0),(8,1),(9,1)],some 10),([(0,0),(11,2),(12,2)],some 13),([],none)] ?_ ?_;kernel_rfl;simp (config:=qZc) (disch:=first|omega|rfl) only[sD,sB,Za,Zb,reduceCtorEq,ld55,cl46,t7,eG1,q1,isAlloc,isRead]))
 refine(zn0 (hc0.mono (hx0G.trans hy1) hw0) (.inr hgood.head) hgood.owb yw1).mono ?_;rintro v G2 ⟨hy2,out,rfl,hout⟩;have hout0:=hout;obtain⟨oa,oc,xa,xc,ya,yc,rfl,-,-⟩:=hout;have yn2:=hy2.next;have hy12:=hy1.trans hy2;have l11:=hy1.load wG l1;have l12:=hy12.load wG l1;have qp1:=zp5 (hy1.get wG gpl);have qp2:=zp5 (hy12.get wG gpl);obtain⟨Gc,ec⟩:∃Gc:Heap,G2.put (G.next+9) (some (.row (lineE c oa oc xa xc ya yc) 121))=Gc:=⟨_,rfl⟩
 have hxc:HX G Gc:=by rw[<-ec];exact hy12.put (i:=G.next+9) (by omega) (by omega) _
 have wGc:=hxc.wf;have gc:Gc.get (G.next+9)=some (.row (lineE c oa oc xa xc ya yc) 121):=by rw[<-ec,get_put,if_pos rfl]
 have ncn:Gc.next=G2.next:=by rw[<-ec];rfl
 obtain⟨hGc,dxGc⟩:=hG.keep wG hxc;have hsc:=hs.keep wG hxc;have hlc:LnsR Gc (Off Gc d D5) D5.lines cells:=hl.to fun n hn _=>⟨(dxGc.off hn).1,(dxGc.off hn).2.1,(dxGc.off hn).2.2⟩
 have hrep:RepD Gc (Off Gc d D5) c (fift c.head oa oc c.body.kind c.body.term xa xc ya c.body.sub.length yc c.vars):=hout0.to fun n hn hlt=>by
  have b1:G1.next<=n:=hn.1;exact⟨by rw[<-ec,get_put,if_neg (by omega)],⟨by omega,fun q=>by have:=hG.hi wG (hG.mutx wG hxc q);omega⟩,by omega⟩
 have hln:lnC ⟨p.key,c,true⟩ (fift c.head oa oc c.body.kind c.body.term xa xc ya c.body.sub.length yc c.vars)=lineE c oa oc xa xc ya yc:=by
  rw[hkp,hK];rfl
 obtain⟨H2',cc,H3',e2',gd2,e3',hD,dxD,wD,nD,kD,cells',hs',hl'⟩:=hGc.addLine wGc hsc hlc (x:=⟨p.key,c,true⟩) (ad:=⟨G.next+9,0,none⟩) (c1:=1) (by rw[hln];exact ld1 gc rfl) hrep (by rw[hl5];exact hm);obtain⟨H5,e5,h5,dx5,wH5,n5,hs5,hl5'⟩:=hD.count wD hs' hl' (IntKind.i64.wrap (D5.n+1));have l2':=hs'.load (i:=2) rfl;have gd3:=hs'.obj;obtain⟨pa,pc,hps,lp0,lp1,hpl,-⟩:=h5.pr (i:=j) (p:=p) hp;have hpm:p∈D5.procs:=Zr hp;have hidl:=w5.idsl hpm;have hmp:p.ids.length+1<=most:=by rw[hl5] at hidl;omega
 obtain⟨H6,e6,hx6,g6,n6,w6⟩:=new1 wH5 (.row [.int .i64 (D5.lines.length:Nat)] 3);obtain⟨h6,dx6⟩:=h5.keep wH5 hx6;have hps6:=hps.keep wH5 hx6;have hpb6:=hps6.lt w6;have hone:∀(j':Nat) (q:Prc),D5.procs[j']?=some q->q=p->j'=j:=fun j' q hj hq=>by subst hq;exact w5.one hp hj rfl
 have hB6:B<=H6.next:=Zk hps6.ge (Nat.le_of_lt hpb6);have hdx:=((((dx04G.trans dxGc).trans dxD).trans dx5).trans dx6)
 cases last with
 |true =>
  have hfr:FR H6 B (.sl 3 1 (idC p.ids)) (.slice pa p.ids.length pc):=hps6.fld 1 _ _ rfl rfl;obtain⟨H7,c7,e7,o7,n7,w7,k7,-⟩:=hfr.push (c1:=1) w6 (ap60) (show H6.load ⟨H5.next,0,none⟩ (1*1)=some [.int .i64 (D5.lines.length:Nat)] from zn1 g6) rfl rfl (by rw[z16];exact hmp) hB6;rw[z16] at e7;have hio:idC p.ids++[[Value.int .i64 (D5.lines.length:Nat)]]=idC (p.ids++[D5.lines.length]):=by simp [idC]
  rw[hio] at o7;obtain⟨H8,e8,h8,dx8,w8,-⟩:=h6.setIds w6 (i:=j) (p:=p) hp hone hps6 w7 (by omega) k7 (l:=p.ids++[D5.lines.length]) (v':=.slice (some ⟨H6.next,0,none⟩) (p.ids.length+1) c7) (.inr ⟨H6.next,c7,o7,by rw[z16];simp⟩) (fun n hn=>.inr (by cases hn;exact Zf _)) rfl;have gp7:=(k7 p.blk hpb6 (hps6.off 1 _ rfl)).trans hps6.obj
  repeat' (first|refine qZa ?_|(refine qZf ?_)|(refine qZb ?_;simp (config:=qZc) (disch:=first|omega|rfl) only[sB,Za,Zb,Value.cells,one,reduceCtorEq,Zn,layC,ld3,z5o,st3,zbm,ld60,zkx,st60,z0c,z0j,t0,l2',gd3,e5,t3,t14,lp1,e6,e7,gp7,e8])|(refine z0q ?_;simp (config:=qZc) (disch:=first|omega|rfl) only[sV,sD,sB,Za,Zb,Value.cells,one,reduceCtorEq,Zn,layC,zky,z4n,zdg,ztk,zl0,ztl,z0c,z0j,t0,t13,l11,l12,qp1,qp2,ec,e2',gd2,e3',isAlloc,isRead,dalloc])|(refine qZd ?_ ?_;simp (config:=qZc) (disch:=first|omega|rfl) only[sB,Za];refine z05 ?_))
  exact z1c rfl (by simp only[sB,Za];rfl) (by simp only[sB,Za];rfl) ⟨D5.put j p c true,h8,hdx.trans dx8,w5.put hp hgood,gr5.trans Grew.put,by simp only[Db.put,Zy,List.length_singleton,hl5];exact Zf _,w8⟩
 |false =>
  have hro:RepO H6 3 1 B (idC p.ids) (.slice pa p.ids.length pc):=hps6.fld 1 _ _ rfl rfl
  repeat' (first|refine qZa ?_|(refine qZb ?_;simp (config:=qZc) (disch:=first|omega|rfl) only[sB,Za,Zb,Value.cells,one,reduceCtorEq,Zn,layC,ld3,z5o,st3,zbm,ld60,zkx,cl47,z0c,z0j,t0,l2',gd3,e5,t3,t14,lp1,e6])|(refine z0q ?_;simp (config:=qZc) (disch:=first|omega|rfl) only[sV,sD,sB,Za,Zb,Value.cells,one,reduceCtorEq,Zn,layC,zky,z4n,zdg,ztk,zl0,ztl,z0c,z0j,t0,t13,l11,l12,qp1,qp2,ec,e2',gd2,e3',isAlloc,isRead,dalloc])|(refine qZm ?_ ?_;simp (config:=qZc) (disch:=first|omega|rfl) only[sB,Za];refine z05 ?_))
  refine(zn9 hro g6 (fun e=>by have:=(FR.lo (f:=.sl 3 1 (idC p.ids)) (hps.fld 1 _ _ rfl rfl) e).2;omega) hmp hB6 w6).mono ?_;rintro v H7 ⟨c7,rfl,o7,w7,n7,k7⟩;obtain⟨H8,e8,h8,dx8,w8,-⟩:=h6.setIds w6 (i:=j) (p:=p) hp hone hps6 w7 n7 k7 (l:=D5.lines.length :: p.ids) (v':=.slice (some ⟨H6.next,0,none⟩) (p.ids.length+1) c7) (.inr ⟨H6.next,c7,o7,by rw[z16];simp⟩) (fun n hn=>.inr (by cases hn;exact Zf _)) rfl;have gp7:=(k7 p.blk hpb6 (hps6.off 1 _ rfl)).trans hps6.obj
  repeat' (first|refine qZa ?_|(refine qZf ?_)|(refine qZb ?_;simp (config:=qZc) (disch:=first|omega|rfl) only[sB,Za])|(refine z0n ?_;simp (config:=qZc) (disch:=first|omega|rfl) only[sB,Zb,one,st60,gp7,e8]))
  exact z1c rfl (by simp only[sB,Za];rfl) (by simp only[sB,Za];rfl) ⟨D5.put j p c false,h8,hdx.trans dx8,w5.put hp hgood,gr5.trans Grew.put,by simp only[Db.put,Zy,List.length_singleton,hl5];exact Zf _,w8⟩
end
theorem zpe {d:Option Tmp}{ty:TypeId}{pos:String}{af:Array Edge}{g:Option (Nat × Bool)}{H:Heap}{n:Nat}:dOut true (pureRun Tryd.prog (execOp (fun _=>Value.slice none 0 0) ⟨d,.call ⟨.builtin .cap,#[.tmp n],#[50]⟩,ty,pos,af,g⟩)) H=some (.val (.int .i64 0) H):=by kernel_rfl
noncomputable def dCapK (o:Oper) (v:Value) (H:Heap):Option Dr:=dOut (flat v) (pureRun Tryd.prog (execOp (fun _=>v) o)) H
theorem zna {d:Option Tmp}{ty:TypeId}{pos:String}{af:Array Edge}{g:Option (Nat × Bool)}{H:Heap}{n:Nat}:dCapK ⟨d,.call ⟨.builtin .cap,#[.tmp n],#[50]⟩,ty,pos,af,g⟩ (.slice none 0 0) H=some (.val (.int .i64 0) H):=zpe
theorem zpf {d:Option Tmp}{ty:TypeId}{pos:String}{af:Array Edge}{g:Option (Nat × Bool)}{ρ:Operand->Value}{H:Heap}{n:Nat} :
  dop Tryd.prog ⟨d,.call ⟨.builtin .cap,#[.tmp n],#[50]⟩,ty,pos,af,g⟩ ρ H=dCapK ⟨d,.call ⟨.builtin .cap,#[.tmp n],#[50]⟩,ty,pos,af,g⟩ (ρ (.tmp n)) H:=by
 have e:dop Tryd.prog ⟨d,.call ⟨.builtin .cap,#[.tmp n],#[50]⟩,ty,pos,af,g⟩ ρ H=dflat Tryd.prog ⟨d,.call ⟨.builtin .cap,#[.tmp n],#[50]⟩,ty,pos,af,g⟩ ρ H:=rfl;rw[e,z4k];have e1:allFlat ρ ⟨d,.call ⟨.builtin .cap,#[.tmp n],#[50]⟩,ty,pos,af,g⟩=flat (ρ (.tmp n)):=by
  show ([Operand.tmp n].all fun x=>flat (ρ x))=_;simp
 have e2:execOp ρ ⟨d,.call ⟨.builtin .cap,#[.tmp n],#[50]⟩,ty,pos,af,g⟩=execOp (fun _=>ρ (.tmp n)) ⟨d,.call ⟨.builtin .cap,#[.tmp n],#[50]⟩,ty,pos,af,g⟩:=by
  have e3:resolve ρ ⟨.builtin .cap,#[.tmp n],#[50]⟩ ty=resolve (fun _=>ρ (.tmp n)) ⟨.builtin .cap,#[.tmp n],#[50]⟩ ty:=by
   unfold resolve;simp
  unfold execOp;simp only[e3]
 rw[e1,e2];rfl
theorem zt1 {P:Program}{H:Heap}{t e:TypeId}{s:Nat}{a:Option Addr}{n c:Nat}{k:IntKind}(h:slcOk P t e s):dSl P t (.slice a n c) none (some (.int k (0:Int))) none H=some (.val (.slice a 0 c) H) :=
 zkm (m:=0) h (Zo _)
abbrev zer12:List Value:=[.string Zd,.int .i64 0,.string Zd,.int .i64 0,.string Zd,.int .i64 0,.string Zd,.int .i64 0,.string Zd,.int .i64 0,.string Zd,.int .i64 0]
theorem zv1 {H:Heap}:dAp Tryd.prog #[50,3] (.slice none 0 0) (.int .i64 6) H=some (.val (.slice (some ⟨H.next,0,none⟩) 6 6) (H.new (some (.row zer12 47)))):=by kernel_rfl
set_option maxHeartbeats 4000000 in
theorem zt2 {H:Heap}(hw:H.wf):EvF Tryd.prog okT 71 [.slice none 0 0,.int .i64 6] H fun v H'=>v=.slice (some ⟨H.next,0,none⟩) 0 6/\H'=H.new (some (.row zer12 47)):=by
 refine EvF.enter rfl Tryd.func71 (by decide) rfl ?_;have d1:decide ((6:Int) < 0)=false:=rfl;have z0:(6 - (0 - ((0:Nat):Int)):Int)=6:=rfl;have d2:decide ((6:Int) > 0)=true:=rfl
 repeat' (first|refine qZa ?_|(refine qZe ?_;try simp only[z00])|(refine qZf ?_)|(refine qZb ?_;simp (config:=qZc) (disch:=first|omega|rfl) only[sB,initTm,Za,reduceCtorEq,ln50,d1,zpf,zna,z0d,d2,zt1 sl50,zv1,Int.natCast_zero,Int.sub_zero])|(refine qZd ?_ ?_;simp (config:=qZc) (disch:=first|omega|rfl) only[sB,Za,reduceCtorEq];refine z05 ?_)|(refine qZm ?_ ?_;simp (config:=qZc) (disch:=first|omega|rfl) only[sB,Za,reduceCtorEq];refine z05 ?_))
 exact z04 rfl (by simp only[sG,Za,reduceCtorEq]) ⟨rfl,rfl⟩
abbrev fix12:List Value:=[.string ⟨#[44]⟩,.int .i64 2,.string ⟨#[59]⟩,.int .i64 2,.string ⟨#[45,62]⟩,.int .i64 2,.string ⟨#[58]⟩,.int .i64 2,.string ⟨#[33]⟩,.int .i64 0,.string ⟨#[116,114,117,101]⟩,.int .i64 0]
set_option maxHeartbeats 8000000 in
theorem znb {H:Heap}{b b2:Nat}(hw:H.wf) (hb:H.get b=some (.row [.slice none 0 0,.slice (some ⟨b2,0,none⟩) 6 6] 50)) (hb2:H.get b2=some (.row fix12 47)) :
  EvF Tryd.prog okT 43 [.slice (some ⟨b,0,none⟩) 2 2] H fun v H'=>HX H H'/\∃q c,v=.slice (some ⟨q,0,none⟩) 6 c/\H'.get q=some (.row fix12 47)/\H.next<=q:=by
 have l0:=z6r hb;have l00:H.load ⟨b,0,none⟩ 1=some [.slice none 0 0]:=l0.2.1;refine EvF.enter rfl Tryd.func43 (by decide) rfl ?_;have k0:decide ((0:Int) < ((2:Nat):Int))=true:=rfl;have k1:decide ((1:Int) < ((2:Nat):Int))=true:=rfl;have k2:decide ((2:Int) < ((2:Nat):Int))=false:=rfl
 repeat' (first|refine qZa ?_|refine qZg ?_|(refine qZb ?_;simp (config:=qZc) (disch:=first|omega|rfl) only[sB,initTm,Za,reduceCtorEq,ztm]))
 refine EvC.loop1 rfl ?_;have m0:decide ((0:Int) < 0)=false:=rfl;have m6:decide ((6:Int) < 0)=false:=rfl;have p6:(0:Int)+((6:Nat):Int)=6:=rfl;have p1:(0:Int)+1=1:=rfl;have p2:(1:Int)+1=2:=rfl
 repeat' (first|refine qZa ?_|refine qZg ?_|(refine qZe ?_;try simp only[sA])|(refine qZb ?_;simp (config:=qZc) (disch:=first|omega|rfl) only[sB,Za,reduceCtorEq,ZO,ld50,ln50,k0,l0,zo3,Int.natCast_zero,Int.add_zero,m0,p1,z0d])|(refine qZd ?_ ?_;simp (config:=qZc) (disch:=first|omega|rfl) only[sB,Za,reduceCtorEq];refine z05 ?_)|(refine qZm ?_ ?_;simp (config:=qZc) (disch:=first|omega|rfl) only[sB,Za,reduceCtorEq];refine z05 ?_))
 refine EvC.loop1 rfl ?_
 repeat' (first|refine qZa ?_|refine qZg ?_|(refine qZe ?_;try simp only[sA])|(refine qZb ?_;simp (config:=qZc) (disch:=first|omega|rfl) only[sB,Za,reduceCtorEq,ZO,ld50,ln50,k1,l0,zo3,p6,m6,p2,z0d])|(refine qZd ?_ ?_;simp (config:=qZc) (disch:=first|omega|rfl) only[sB,Za,reduceCtorEq];refine z05 ?_)|(refine qZm ?_ ?_;simp (config:=qZc) (disch:=first|omega|rfl) only[sB,Za,reduceCtorEq];refine z05 ?_))
 refine EvC.loop1 rfl ?_
 repeat' (first|refine qZa ?_|(refine qZi ?_;try simp only[sB])|(refine qZb ?_;simp (config:=qZc) (disch:=first|omega|rfl) only[sB,Za,reduceCtorEq,cl71,k2])|(refine qZm ?_ ?_;simp (config:=qZc) (disch:=first|omega|rfl) only[sB,Za,reduceCtorEq];refine z05 ?_))
 refine(zt2 hw).mono ?_;rintro v H1 ⟨rfl,rfl⟩;obtain⟨H1,e1,hx1,g1,n1,w1⟩:=new1 hw (.row zer12 47);simp only[e1];have lb:=z6r (hx1.get hw hb);have hap:apOk Tryd.prog 50 47 2:=ap50;have ea:=fun G=>zkn (P:=Tryd.prog) (H:=G) (a:=some ⟨H.next,0,none⟩) (n:=0) (c:=6) (a':=none) (c':=0) hap
 have eb:=z3a (P:=Tryd.prog) (n:=0) (c:=6) (c':=6) (m:=6) (ad:=⟨b2,0,none⟩) (news:=fix12) (b:=H.next) (cs:=zer12) (H:=H1) hap (by omega) (by unfold most;omega) (ld1 (hx1.get hw hb2) rfl) rfl g1 (by simp) (by simp);simp only[ZF,ZL,List.take_zero,List.nil_append] at eb
 repeat' (first|refine qZa ?_|refine qZg ?_|(refine qZb ?_;simp (config:=qZc) (disch:=first|omega|rfl) only[sB,Za,reduceCtorEq,ztm]))
 refine EvC.loop1 rfl ?_
 repeat' (first|refine qZa ?_|refine qZg ?_|(refine qZe ?_;try simp only[z00])|(refine qZb ?_;simp (config:=qZc) (disch:=first|omega|rfl) only[sB,Za,reduceCtorEq,ZO,ld50,k0,lb,zo3,ea,p1,z0d])|(refine qZd ?_ ?_;simp (config:=qZc) (disch:=first|omega|rfl) only[sB,Za,reduceCtorEq];refine z05 ?_))
 refine EvC.loop1 rfl ?_
 repeat' (first|refine qZa ?_|refine qZg ?_|(refine qZe ?_;try simp only[z00])|(refine qZb ?_;simp (config:=qZc) (disch:=first|omega|rfl) only[sB,Za,reduceCtorEq,ZO,ld50,k1,lb,zo3,eb,p2,z0d])|(refine qZd ?_ ?_;simp (config:=qZc) (disch:=first|omega|rfl) only[sB,Za,reduceCtorEq];refine z05 ?_))
 refine EvC.loop1 rfl ?_
 repeat' (first|refine qZa ?_|(refine qZi ?_;try simp only[sB])|(refine qZf ?_)|(refine qZb ?_;simp (config:=qZc) (disch:=first|omega|rfl) only[sB,Za,reduceCtorEq,k2])|(refine qZm ?_ ?_;simp (config:=qZc) (disch:=first|omega|rfl) only[sB,Za,reduceCtorEq];refine z05 ?_))
 exact z04 rfl (by simp only[sB,Za,reduceCtorEq]) ⟨((hx1.put (i:=H.next) (Zf _) (by omega) none).new _),_,6,rfl,z0i,by show H.next<=H1.next;omega⟩
theorem zjs {P:Program}{H:Heap}{d:Option Tmp}{t:TypeId}{m k v:Operand}{ty:TypeId}{pos:String}{af:Array Edge}{g:Option (Nat × Bool)}{ρ:Operand->Value}:dop P ⟨d,.insert t m k v,ty,pos,af,g⟩ ρ H=dUp P t (ρ m) (ρ k) (ρ v) H:=_root_.id rfl
theorem zpg {H:Heap}{r:Nat}(hg:H.get r=some (.map [] 0)):dUp Tryd.prog 105 (.map (some r)) (.string sUser) (.slice none 0 0) H=some (.val undef (H.put r (some (.map [⟨.string sUser,.slice none 0 0,0⟩] 1)))):=by
 have e:dfind Tryd.prog false 9 (.string sUser) []=some none:=by kernel_rfl
 simp only[dUp,dupdate,Tryd.underlying105,hg,e];rfl
theorem nxn {H:Heap}{B:Option Blk}:(H.new B).next=H.next+1:=rfl
set_option maxHeartbeats 16000000 in
theorem zt3 {H:Heap}(hw:H.wf):EvF Tryd.prog okT 18 [.slice none 0 0] H fun v H'=>HX H H'/\∃d,v=ptr d/\DbB H' H.next d ⟨[],[],0⟩:=by
 refine EvF.enter rfl Tryd.func18 (by decide) rfl ?_;have hx1:=(((HX.refl hw).new (some (.map [] 0))).new (some (.map [] 0))).new (some (.map [] 0));obtain⟨H1,e1⟩:∃H1,((H.new (some (.map [] 0))).new (some (.map [] 0))).new (some (.map [] 0))=H1:=⟨_,rfl⟩
 have g12:H1.get (H.next+2)=some (.map [] 0):=by rw[<-e1];exact z0i
 have eu:=zpg g12;have hx1:HX H H1:=by rw[<-e1];exact hx1
 have n1:H1.next=H.next+3:=by rw[<-e1];rfl
 have w1:=hx1.wf;have g10:H1.get H.next=some (.map [] 0):=by rw[<-e1];simp (disch:=omega) only[Heap.get_new,nxn,get_put,z07,if_neg,if_pos,if_true]
 have g11:H1.get (H.next+1)=some (.map [] 0):=by rw[<-e1];simp (disch:=omega) only[Heap.get_new,nxn,get_put,z07,if_neg,if_pos,if_true]
 obtain⟨H2,e2⟩:∃H2,(((((H1.put (H.next+2) (some (.map [⟨.string sUser,.slice none 0 0,0⟩] 1))).new (some (.map [] 0))).new (some (.map [] 0))).new (some (.row [.map (some H.next),.slice none 0 0,.int .i64 0,.map (some (H.next+1)),.map (some (H.next+1+1)),.map (some H1.next),.map (some (H1.next+1))] 110))).new (some (.row fix12 47))).new (some (.row [.slice none 0 0,.slice (some ⟨H1.next+1+1+1,0,none⟩) 6 6] 50))=H2:=⟨_,rfl⟩
 have hx2:HX H H2:=by rw[<-e2];exact((((((hx1.put (i:=H.next+2) (by omega) (by omega) _).new _).new _).new _).new _).new _)
 have w2:=hx2.wf;have n2:H2.next=H1.next+5:=by rw[<-e2];rfl
 have k2:∀n,n < H1.next->n≠H.next+2->H2.get n=H1.get n:=fun n hn hne=>by
  rw[<-e2];simp (disch:=omega) only[Heap.get_new,nxn,get_put,z07,if_neg,if_pos,if_true]
 have y0:=(k2 H.next (by omega) (by omega)).trans g10;have y1:=(k2 (H.next+1) (by omega) (by omega)).trans g11;have y2:H2.get (H.next+2)=some (.map [⟨.string sUser,.slice none 0 0,0⟩] 1):=by
  rw[<-e2];simp (disch:=omega) only[Heap.get_new,nxn,get_put,z07,if_neg,if_pos,if_true]
 have y3:H2.get H1.next=some (.map [] 0):=by
  rw[<-e2];simp (disch:=omega) only[Heap.get_new,nxn,get_put,z07,if_neg,if_pos,if_true]
 have y4:H2.get (H1.next+1)=some (.map [] 0):=by
  rw[<-e2];simp (disch:=omega) only[Heap.get_new,nxn,get_put,z07,if_neg,if_pos,if_true]
 have y5:H2.get (H1.next+1+1)=some (.row [.map (some H.next),.slice none 0 0,.int .i64 0,.map (some (H.next+1)),.map (some (H.next+1+1)),.map (some H1.next),.map (some (H1.next+1))] 110):=by
  rw[<-e2];simp (disch:=omega) only[Heap.get_new,nxn,get_put,z07,if_neg,if_pos,if_true]
 have y6:H2.get (H1.next+1+1+1)=some (.row fix12 47):=by
  rw[<-e2];simp (disch:=omega) only[Heap.get_new,nxn,get_put,z07,if_neg,if_pos,if_true]
 have y7:H2.get (H1.next+1+1+1+1)=some (.row [.slice none 0 0,.slice (some ⟨H1.next+1+1+1,0,none⟩) 6 6] 50):=by
  rw[<-e2];exact z0i
 repeat' (first|refine qZa ?_|(refine qZb ?_;simp (config:=qZc) (disch:=first|omega|rfl) only[sB,initTm,dBox,Za,Zb,Value.cells,one,reduceCtorEq,Zn,layC,zv6,bd47,ztj,zrk,cl43,z4b,zjs,e1,eu,e2]))
 refine(znb w2 y7 y6).mono ?_;rintro v H3 ⟨hx3,q,c,rfl,gq,hq⟩;have w3:=hx3.wf;have z0:=hx3.get w2 y0;have z1:=hx3.get w2 y1;have z2:=hx3.get w2 y2;have z3:=hx3.get w2 y3;have z4:=hx3.get w2 y4;have z5:=hx3.get w2 y5;have n3:=hx3.next;have hql:=w3 _ _ gq
 repeat' (first|refine qZg ?_|(refine z0n ?_;simp (config:=qZc) (disch:=first|omega|rfl) only[sA,ln50]))
 have hfk:∀i:Nat,i < 6->∃(kx:PK),fixK[i]?=some kx/\(fix12.drop (i*2)).take 2=[.string kx.1,.int .i64 kx.2]/\kIdx eqK ((fixK.take i).map fun x=>(x,Value.int .i64 1)) kx=none/\fixK.take (i+1)=fixK.take i++[kx]:=fun i hi=>by
  match i,hi with
  |0,_=>exact⟨_,rfl,rfl,rfl,rfl⟩
  |1,_=>exact⟨_,rfl,rfl,by decide,rfl⟩
  |2,_=>exact⟨_,rfl,rfl,by decide,rfl⟩
  |3,_=>exact⟨_,rfl,rfl,by decide,rfl⟩
  |4,_=>exact⟨_,rfl,rfl,by decide,rfl⟩
  |5,_=>exact⟨_,rfl,rfl,by decide,rfl⟩
 refine qZk (fun k' st=>∃tm G i,st=⟨tm,[],G⟩/\k'=6 - i/\i<=6/\tm.get 3=some (.pointer (some ⟨H1.next+1+1,0,none⟩))/\tm.get 23=some (.slice (some ⟨q,0,none⟩) 6 c)/\tm.get 24=some (.int .i64 ((6:Nat):Int))/\tm.get 25=some (.int .i64 (i:Nat)) /\
  MapK kkv G H.next ((fixK.take i).map fun x=>(x,Value.int .i64 1))/\(∀n,n < H3.next->n≠H.next->G.get n=H3.get n)/\H3.next<=G.next/\G.wf) ?_ 6 _ ?_
 rotate_left
 ·exact⟨_,_,0,rfl,rfl,Zo _,(by simp only[sG,Za,reduceCtorEq]),(by simp only[sG,Za,reduceCtorEq]),(by simp only[sG,Za,reduceCtorEq]),(by simp only[sB,Za,reduceCtorEq];rfl),⟨[],0,z0,rfl⟩,fun _ _ _=>rfl,Zf _,w3⟩
 rintro k' st ⟨tm,G,i,rfl,rfl,hi,t3,t23,t24,t25,hm,hk,hnG,wG⟩;by_cases hlt:i < 6
 ·obtain⟨kx,hkx,hdr,hno,htk⟩:=hfk i hlt;have gqG:G.get q=some (.row fix12 47):=(hk q hql (by omega)).trans gq;have hld:G.load ⟨q,i*2,none⟩ 2=some [.string kx.1,.int .i64 kx.2]:=by
   unfold Heap.load Heap.cells;simp only[gqG,hdr];rfl
  obtain⟨G1,eG1,hy1,gy1,ny1,wy1⟩:=z0r wG (.row [.string Zd,.int .i64 0] 47) (.row [.string kx.1,.int .i64 kx.2] 47);obtain⟨G2,eG2⟩:∃G2:Heap,(⟨G1.next+6,G1.t⟩:Heap)=G2:=⟨_,rfl⟩
  have hy2:HX G G2:=by rw[<-eG2];exact hy1.bump 6
  have wy2:=hy2.wf;have lk:G2.load ⟨G.next,0,none⟩ 2=some [.string kx.1,.int .i64 kx.2]:=by rw[<-eG2];exact(z6r gy1).1
  have gd:G.get (H1.next+1+1)=some (.row [.map (some H.next),.slice none 0 0,.int .i64 0,.map (some (H.next+1)),.map (some (H.next+1+1)),.map (some H1.next),.map (some (H1.next+1))] 110):=(hk _ (by omega) (by omega)).trans z5;have lf:G2.load ⟨H1.next+1+1,0,none⟩ 1=some [.map (some H.next)]:=by
   have:=hy2.get wG gd;unfold Heap.load Heap.cells;simp only[this];rfl
  obtain⟨Bm,eu',mu⟩:=zi4 (t:=71) zsw Tryd.underlying71 (hm.heap (H':=G2) (hy2.keep _ (by omega))) hno (v:=.int .i64 1);have hl6:i < 6:=hlt;have hc6:decide ((i:Int) < ((6:Nat):Int))=true:=decl hlt
  repeat' (first|refine qZa ?_|refine qZg ?_|(refine qZe ?_;try simp only[z00])|(refine qZb ?_;simp (config:=qZc) (disch:=first|omega|rfl) only[sB,dAlloc,Za,Zb,one,ia50,ld47,zr47,st47,t23,t24,t25,hc6,hld,eG1,z5t (i:=i) (by omega)])|(refine qZj [([(0,0),(1,0),(2,0),(3,0),(4,0)],some 5),([],none)] ?_ ?_;kernel_rfl;simp (config:=qZc) (disch:=first|omega|rfl) only[sD,sB,Za,Zb,reduceCtorEq,ld47,zbk,ld71,z0c,z0j,t3,eG2,lk,lf,z2g,eu',isAlloc,isRead])|(refine qZd ?_ ?_;simp (config:=qZc) (disch:=first|omega|rfl) only[sB];refine z05 ?_))
  refine⟨6 - (i+1),by omega,_,_,i+1,rfl,rfl,by omega,(by simp only[sG,Za,t3]),(by simp only[sG,Za,t23]),(by simp only[sG,Za,t24]),(by simp only[sG,Za]),by rw[htk,ZB];exact mu,fun n hn hne=>?_,by rw[z07];exact Zk hnG hy2.next,?_⟩
  ·rw[get_put,if_neg hne,hy2.keep n (by omega)];exact hk n hn hne
  ·exact(HK.one wy2 (Zh (by omega) hy2.next) (some Bm)).wf
 ·have hc6:decide ((i:Int) < ((6:Nat):Int))=false:=decn hlt;obtain rfl:i=6:=by omega
  repeat' (first|refine qZa ?_|(refine qZi ?_;try simp only[sB])|(refine qZf ?_)|(refine qZb ?_;simp (config:=qZc) (disch:=first|omega|rfl) only[sB,Za,t3,t24,t25,hc6])|(refine qZm ?_ ?_;simp (config:=qZc) (disch:=first|omega|rfl) only[sB];refine z05 ?_))
  have hx03:=hx2.trans hx3;have hxG:HX H G:=⟨Zk hx03.next hnG,fun n hn=>(hk n (by omega) (by omega)).trans (hx03.keep n hn),wG⟩
  have c5:=(hk (H1.next+1+1) (by omega) (by omega)).trans z5;have c1:=(hk (H.next+1) (by omega) (by omega)).trans z1;have c2:=(hk (H.next+1+1) (by omega) (by omega)).trans z2;have c3:=(hk H1.next (by omega) (by omega)).trans z3;have c4:=(hk (H1.next+1) (by omega) (by omega)).trans z4;have hblk:∀(j:Nat) (v:Value) (n:Nat),[Value.map (some H.next),.slice none 0 0,.int .i64 0,.map (some (H.next+1)),.map (some (H.next+1+1)),.map (some H1.next),.map (some (H1.next+1))][j]?=some v->blkOf v=some n ->
    (j=0/\n=H.next)\/(j=3/\n=H.next+1)\/(j=4/\n=H.next+1+1)\/(j=5/\n=H1.next)\/(j=6/\n=H1.next+1):=fun j v n h1 h2=>by
   match j,h1 with
   |0,h1=>cases h1;cases h2;exact .inl ⟨rfl,rfl⟩
   |1,h1=>cases h1;cases h2
   |2,h1=>cases h1;cases h2
   |3,h1=>cases h1;cases h2;exact .inr (.inl ⟨rfl,rfl⟩)
   |4,h1=>cases h1;cases h2;exact .inr (.inr (.inl ⟨rfl,rfl⟩))
   |5,h1=>cases h1;cases h2;exact .inr (.inr (.inr (.inl ⟨rfl,rfl⟩)))
   |6,h1=>cases h1;cases h2;exact .inr (.inr (.inr (.inr ⟨rfl,rfl⟩)))
   |j+7,h1=>simp at h1
  have hs:StR G H.next (H1.next+1+1) 110 (dFlds ⟨[],[],0⟩ []) [.map (some H.next),.slice none 0 0,.int .i64 0,.map (some (H.next+1)),.map (some (H.next+1+1)),.map (some H1.next),.map (some (H1.next+1))]:=by
   refine⟨c5,by omega,rfl,fun j f v h1 h2=>?_,fun j j' v u n h1 h2 h3 h4=>?_,fun j v h1 q=>?_,rfl⟩
   ·match j,h1,h2 with
    |0,h1,h2=>cases h1;cases h2;exact(by obtain⟨es,ck,g,e⟩:=hm;exact⟨_,es,ck,rfl,Zf _,by omega,g,e⟩)
    |1,h1,h2=>cases h1;cases h2;exact .inl ⟨rfl,rfl⟩
    |2,h1,h2=>cases h1;cases h2;exact⟨rfl,rfl⟩
    |3,h1,h2=>cases h1;cases h2;exact⟨_,[],0,rfl,by omega,by omega,c1,rfl⟩
    |4,h1,h2=>cases h1;cases h2;exact⟨_,_,_,rfl,by omega,by omega,c2,rfl⟩
    |5,h1,h2=>cases h1;cases h2;exact⟨_,[],0,rfl,by omega,by omega,c3,rfl⟩
    |6,h1,h2=>cases h1;cases h2;exact⟨_,[],0,rfl,by omega,by omega,c4,rfl⟩
    |j+7,h1,h2=>simp [dFlds] at h1
   ·have a1:=hblk j v n h1 h3;have a2:=hblk j' u n h2 h4;omega
   ·have a1:=hblk j v _ h1 q;omega
  exact z04 rfl (by simp only[sG,Za]) ⟨hxG,_,rfl,⟨⟨_,[],hs,rfl,fun i x hx=>by simp at hx⟩,fun p hp=>by simp at hp,fun p hp=>by simp at hp⟩⟩
theorem znc {H:Heap}{a b c d:Value}{l:List Value}:dExt (.tuple ⟨a :: b :: c :: d :: l⟩) 3 H=some (.val d H):=_root_.id rfl
structure OpS where
 kind:Int
 n:Int
 key:PK
 c:Cls
 last:Bool
structure RdO (H:Heap) (L:List OpS) (a:Option Addr) (c:Nat):Prop where
 len:L.length<=c
 cap:c<=maxLen
 el:∀(i:Nat) (hi:i < L.length),∃b o cs,a=some ⟨b,o,none⟩/\H.load ⟨b,o+i*31+1,none⟩ 1=some [.int .i64 L[i].kind]/\H.load ⟨b,o+i*31+2,none⟩ 1=some [.int .i64 L[i].n]/\H.load ⟨b,o+i*31+5,none⟩ 2=some [.string L[i].key.1,.int .i64 L[i].key.2] /\
  H.load ⟨b,o+i*31+8,none⟩ 15=some cs/\RdC H L[i].c cs/\H.load ⟨b,o+i*31+23,none⟩ 1=some [.bool L[i].last]
structure OpG (x:OpS):Prop where
 few:FewB 1000000 x.c.body
 key:x.key.1.size<=maxLen
theorem RdO.mono {H H':Heap}{L:List OpS}{a:Option Addr}{c:Nat}(r:RdO H L a c) (hx:HX H H') (hw:H.wf):RdO H' L a c :=
 ⟨r.len,r.cap,fun i hi=>by
  obtain⟨b,o,cs,h1,h2,h3,h4,h5,h6,h7⟩:=r.el i hi;exact⟨b,o,cs,h1,hx.load hw h2,hx.load hw h3,hx.load hw h4,hx.load hw h5,h6.mono hx hw,hx.load hw h7⟩⟩
def SS (G:Heap) (base:Nat) (v:Value) (n:Nat):Prop:=base<=n/\n < G.next/\blkOf v≠some n
def SeenR (G:Heap) (base:Nat) (L:List Cls) (v:Value):Prop:=∃rows,RepO G 55 15 base rows v/\rows.length=L.length/\∀(i:Nat) (c:Cls),L[i]?=some c->∃cs,rows[i]?=some cs/\RepD G (SS G base v) c cs
theorem SeenR.nil {G:Heap}{base:Nat}:SeenR G base [] (.slice none 0 0):=⟨[],.inl ⟨rfl,rfl⟩,rfl,fun i c h=>by simp at h⟩
theorem SeenR.to {G G':Heap}{base:Nat}{L:List Cls}{v:Value}(h:SeenR G base L v) (hk:∀n,base<=n->n < G.next->G'.get n=G.get n) (hn:G.next<=G'.next):SeenR G' base L v:=by
 obtain⟨rows,h1,h2,h3⟩:=h;refine⟨rows,zfu h1 hk hn,h2,fun i c hc=>?_⟩;obtain⟨cs,h4,h5⟩:=h3 i c hc;exact⟨cs,h4,h5.to fun n hs hl=>⟨hk n hs.1 hl,⟨hs.1,Zh hl hn,hs.2.2⟩,Zh hl hn⟩⟩
theorem SeenR.slice {G:Heap}{base:Nat}{L:List Cls}{v:Value}(h:SeenR G base L v):∃a c,v=.slice a L.length c/\L.length<=c/\c<=maxLen:=by
 obtain⟨rows,h1,h2,-⟩:=h;obtain⟨a,c,h3,h4,h5⟩:=h1.slice;rw[h2] at h3 h4;exact⟨a,c,h3,h4,h5⟩
theorem SeenR.el {G:Heap}{base:Nat}{L:List Cls}{a:Option Addr}{n c:Nat}(h:SeenR G base L (.slice a n c)) {i:Nat}{x:Cls}(hx:L[i]?=some x):∃b cs,a=some ⟨b,0,none⟩/\G.load ⟨b,i*15,none⟩ 15=some cs/\RdC G x cs:=by
 obtain⟨rows,h1,h2,h3⟩:=h;obtain⟨cs,h4,h5⟩:=h3 i x hx;rcases h1 with ⟨rfl,-⟩|⟨b,c',o,e⟩
 ·simp at h4
 ·injection e with e1 e2 e3;subst e1;exact⟨b,cs,rfl,o.load h4,h5.rd⟩
theorem SeenR.push {G:Heap}{base bs:Nat}{L:List Cls}{v:Value}{x:Cls}{cs:List Value}{S:Nat->Prop}(h:SeenR G base L v) (hw:G.wf) (hg:G.get bs=some (.row cs 55)) (hr:RepD G S x cs) (hS:∀n,S n->base<=n/\n < G.next/\blkOf v≠some n) (hm:L.length+1<=most) (hb:base<=G.next) :
  ∃H2 c,dAp Tryd.prog #[62,62] v (.slice (some ⟨bs,0,none⟩) 1 1) G=some (.val (.slice (some ⟨G.next,0,none⟩) (L.length+1) c) H2)/\SeenR H2 base (L++[x]) (.slice (some ⟨G.next,0,none⟩) (L.length+1) c)/\H2.next=G.next+1/\H2.wf/\∀n,n < G.next->blkOf v≠some n->H2.get n=G.get n:=by
 obtain⟨rows,h1,h2,h3⟩:=h;obtain⟨hl,hone⟩:=hr.len;have hfr:FR G base (.sl 55 15 rows) v:=h1;obtain⟨H2,c,e2,o2,n2,w2,k2,-⟩:=hfr.push (c1:=1) hw (ap62) (ld1 hg hl) hl hone (by rw[h2];exact hm) hb;rw[h2] at e2;refine⟨H2,c,e2,⟨rows++[cs],.inr ⟨G.next,c,o2,by simp [h2]⟩,by simp [h2],fun i y hy=>?_⟩,n2,w2,k2⟩;by_cases hi:i < L.length
 ·rw[ZC hi] at hy;rw[ZC (by omega)];obtain⟨cs2,q1,q2⟩:=h3 i y hy;exact⟨cs2,q1,q2.to fun n hs hl=>⟨k2 n hl hs.2.2,⟨hs.1,by omega,fun e=>by have:=Option.some.inj (show some G.next=some n from e);omega⟩,by omega⟩⟩
 ·have hil:=(List.getElem?_eq_some_iff.1 hy).1;simp only[Zy,List.length_singleton] at hil;have hie:i=L.length:=by omega
  subst hie;simp at hy;subst hy;refine⟨cs,by rw[<-h2];simp,hr.to fun n hs hl=>?_⟩;obtain⟨q1,q2,q3⟩:=hS n hs;exact⟨k2 n hl q3,⟨q1,by omega,fun e=>by have:=Option.some.inj (show some G.next=some n from e);omega⟩,by omega⟩
def Db.cl (D:Db) (i:Nat):Cls:=((D.lines[i]?).map (·.c)).getD zeroC
set_option maxHeartbeats 32000000 in
theorem z9s {L L2:List OpS}{a a2:Option Addr}{c c2:Nat}{k:PK}{H:Heap}(r1:RdO H L a c) (r2:RdO H L2 a2 c2) (hg1:∀x∈L,OpG x) (hg2:∀x∈L2,OpG x) (hk:k.1.size<=maxLen) (hn:L.length+L2.length+1<=most) (hw:H.wf) :
  EvF Tryd.prog okT 4 [.slice a L.length c,kkv k,.slice a2 L2.length c2] H fun v _=>v=.bool true:=by
 have hc1:c<=9223372036854775807:=by have:=r1.cap;unfold maxLen at this;exact this
 have hc2:c2<=9223372036854775807:=by have:=r2.cap;unfold maxLen at this;exact this
 have hl1:=r1.len;have hl2:=r2.len;refine EvF.enter rfl Tryd.func4 (by decide) rfl ?_;(repeat refine qZa ?_);refine qZb ?_;simp (config:=qZc) (disch:=first|omega|rfl) only[sB,initTm,dBox,Za,Zb,Value.cells,one,reduceCtorEq];obtain⟨H1,e1,hx1,g1,n1,w1⟩:=new1 hw (.row [.string k.1,.int .i64 k.2] 47);simp only[e1];clear e1
 repeat' (first|refine qZa ?_|(refine qZb ?_;simp (config:=qZc) (disch:=first|omega|rfl) only[sB,Za,reduceCtorEq,cl17]))
 refine(zu7 w1).mono ?_;rintro v H2 ⟨rfl,hx2⟩;have w2:=hx2.wf
 repeat' (first|refine qZa ?_|(refine qZb ?_;simp (config:=qZc) (disch:=first|omega|rfl) only[sB,Za,reduceCtorEq,cl18]))
 refine(zt3 w2).mono ?_;rintro v H3 ⟨hx3,d,rfl,h3⟩;have w3:=hx3.wf;have hx13:=(hx1.trans hx2).trans hx3;obtain⟨B,hB⟩:∃B,B=H2.next:=⟨_,rfl⟩
 rw[<-hB] at h3;have hBH:H.next < B:=by rw[hB];have:=hx2.next;omega
 have g3:=(hx2.trans hx3).get w1 g1;have hW0:DbW ⟨[],[],0⟩:=⟨List.nodup_nil,fun p hp=>by simp at hp,fun i x hx=>by simp at hx,fun x hx=>by simp at hx⟩
 (try simp (config:=qZc) (disch:=first|omega|rfl) only[]);(repeat refine qZa ?_);refine qZb ?_;simp (config:=qZc) (disch:=first|omega|rfl) only[sB,Za,reduceCtorEq,bEqP,Zq,Ze]
 refine qZm (by simp (config:=qZc) (disch:=first|omega|rfl) only[sB,Za,reduceCtorEq]) ?_;(try refine qZe ?_);(try simp only[z00,z03]);(repeat refine qZa ?_);refine qZb ?_;simp (config:=qZc) (disch:=first|omega|rfl) only[sA];(repeat refine qZa ?_);refine EvC.join (fun st=>∃(tm:Tr Value) (G:Heap) (D:Db),st=⟨tm,[],G⟩/\tm.get 2=some (.slice a2 L2.length c2)/\tm.get 4=some (.pointer (some ⟨H.next,0,none⟩))/\tm.get 8=some (ptr d)/\DbB G B d D/\DbW D/\HX H G/\G.get H.next=some (.row [.string k.1,.int .i64 k.2] 47)/\D.lines.length<=L.length) ?_ ?_
 ·refine qZg (qZk (fun k' st=>∃(tm:Tr Value) (G:Heap) (D:Db) (i:Nat),st=⟨tm,[],G⟩/\k'=L.length - i/\i<=L.length/\tm.get 0=some (.slice a L.length c)/\tm.get 2=some (.slice a2 L2.length c2)/\tm.get 4=some (.pointer (some ⟨H.next,0,none⟩))/\tm.get 8=some (ptr d)/\tm.get 9=some (.int .i64 (i:Nat))/\DbB G B d D/\DbW D/\HX H G/\G.get H.next=some (.row [.string k.1,.int .i64 k.2] 47)/\D.lines.length<=i) ?_ L.length _ ?_);rotate_left
  ·exact⟨_,_,_,0,rfl,rfl,Zo _,(by simp only[sG,reduceCtorEq]),(by simp only[sG,Za,reduceCtorEq]),(by simp only[sG,Za,reduceCtorEq]),(by simp only[sG,Za,reduceCtorEq]),(by simp only[sB,Za,reduceCtorEq];rfl),h3,hW0,hx13,g3,Zf _⟩
  rintro k' st ⟨tm,G,D,i,rfl,rfl,hi,t0,t2,t4,t8,t9,hG,wD,hxG,gk,hlD⟩;have wG:=hxG.wf;by_cases hlt:i < L.length;rotate_left
  ·repeat' (first|refine qZa ?_|(refine qZi ?_;try simp only[sB])|(refine qZb ?_;simp (config:=qZc) (disch:=first|omega|rfl) only[sB,Za,reduceCtorEq,ln45,t0,t9,decn hlt])|(refine qZm ?_ ?_;simp (config:=qZc) (disch:=first|omega|rfl) only[sB,Za];refine z05 ?_))
   exact⟨_,_,D,rfl,(by simp only[sG,Za,t2]),(by simp only[sG,Za,t4]),(by simp only[sG,Za,t8]),hG,wD,hxG,gk,by omega⟩
  obtain⟨b,o,cs,rfl,x1,x2,x5,x8,xc,x23⟩:=r1.el i hlt;have y1:=hxG.load hw x1;have y8:=hxG.load hw x8;have y23:=hxG.load hw x23;by_cases hkd:L[i].kind=1
  ·obtain⟨G1,eG1⟩:∃G1:Heap,(⟨G.next+12,G.t⟩:Heap)=G1:=⟨_,rfl⟩
   have hy1:HX G G1:=by rw[<-eG1];exact(HX.refl wG).bump 12
   obtain⟨hG1,dxG1⟩:=hG.keep wG hy1;have wG1:=hy1.wf;have v8:=hy1.load wG y8;have v23:=hy1.load wG y23
   repeat' (first|refine qZa ?_|refine qZg ?_|(refine qZe ?_;try simp only[z00])|(refine qZb ?_;simp (config:=qZc) (disch:=first|omega|rfl) only[sB,Za,reduceCtorEq,ln45,ia45,zad,ld3,t0,t9,decl hlt,y1,z0y hkd])|(refine qZj (id:=9) [([(0,0),(1,0),(2,0),(3,0),(4,0),(5,0),(6,0),(7,0),(8,0),(9,0),(10,0)],some 11),([],none)] ?_ ?_;kernel_rfl;simp (config:=qZc) (disch:=first|omega|rfl) only[sD,sB,Za,Zb,reduceCtorEq,ia45,zqc,ld55,zqd,ld4,cl19,t0,t8,t9,eG1,v8,v23,isAlloc,isRead])|(refine qZd ?_ ?_;simp (config:=qZc) (disch:=first|omega|rfl) only[sB,Za];refine z05 ?_))
   refine(zr5 hG1 wD wG1 xc (hxG.trans hy1) (by omega) hw (hg1 _ (Zz hlt)).few (by omega) L[i].last).mono ?_;rintro v G2 ⟨D',hG2,dxG2,wD',gr',hl',wG2⟩
   repeat' (first|(refine qZb ?_;simp (config:=qZc) (disch:=first|omega|rfl) only[sB,Za,t9,z5t (i:=i) (by omega)])|(refine z0q ?_;simp (config:=qZc) (disch:=first|omega|rfl) only[sD,z7t]))
   exact⟨L.length - (i+1),by omega,_,_,D',i+1,rfl,rfl,by omega,(by simp only[sG,reduceCtorEq,t0]),(by simp only[sG,Za,t2]),(by simp only[sG,Za,t4]),(by simp only[sG,Za,t8]),(by simp only[sG,Za]),hG2,wD',dxG2.hx hG1 (hxG.trans hy1) (by omega),(dxG2.off (hG1.off wG1 hBH)).1.trans (hy1.get wG gk),by omega⟩
  ·repeat' (first|refine qZa ?_|refine qZg ?_|(refine qZe ?_;try simp only[sA])|(refine qZb ?_;simp (config:=qZc) (disch:=first|omega|rfl) only[sB,Za,reduceCtorEq,ln45,ia45,zad,ld3,t0,t9,decl hlt,y1,z0t hkd,z5t (i:=i) (by omega)])|(refine qZd ?_ ?_;simp (config:=qZc) (disch:=first|omega|rfl) only[sB,Za];refine z05 ?_)|(refine qZm ?_ ?_;simp (config:=qZc) (disch:=first|omega|rfl) only[sB,Za];refine z05 ?_))
   exact⟨L.length - (i+1),by omega,_,_,D,i+1,rfl,rfl,by omega,(by simp only[sG,reduceCtorEq,t0]),(by simp only[sG,Za,t2]),(by simp only[sG,Za,t4]),(by simp only[sG,Za,t8]),(by simp only[sG,Za]),hG,wD,hxG,gk,by omega⟩
 rintro st ⟨tm,G,D,rfl,t2,t4,t8,hG,wD,hxG,gk,hlD⟩;have wG:=hxG.wf;have qk:=z6r gk;have hil:(D.ids k).length<=L.length:=Zk (wD.idl k) hlD;have hBG:B<=G.next:=by have:=hG.lo (.inl (.inl rfl));have:=hG.lt wG;omega
 (repeat refine qZa ?_);refine qZb ?_;simp (config:=qZc) (disch:=first|omega|rfl) only[sB,Za,ld47,cl20,t4,t8,qk];refine(zr2 hG wG (k:=k) (by omega)).mono ?_;rintro v Gi ⟨hxi,hvi⟩;have wGi:=hxi.wf;obtain⟨hGi,dxGi⟩:=hG.keep wG hxi;obtain⟨va,vc,rfl,hvl,hvc⟩:=hvi.slice;rw[z16] at hvl hvi ⊢;have hvm:vc<=9223372036854775807:=by unfold maxLen at hvc;exact hvc
 have hln:∀i∈D.ids k,∃x,D.lines[i]?=some x/\x.there=true/\GoodC x.c:=fun i hmem=>by
  cases hi:D.idx k with
  |none=>rw[Db.ids_none hi] at hmem;cases hmem
  |some j =>
   obtain⟨p,hp,-⟩:=Db.idx_some hi;rw[Db.ids_some hi hp] at hmem;obtain⟨x,h1,-,h3⟩:=(wD.ids p (Zr hp)).2 i hmem;exact⟨x,h1,h3,wD.good x (Zr h1)⟩
 (try simp (config:=qZc) (disch:=first|omega|rfl) only[]);(repeat refine qZa ?_);refine qZb ?_;simp (config:=qZc) (disch:=first|omega|rfl) only[sA]
 (repeat refine qZa ?_);refine qZb ?_;simp (config:=qZc) (disch:=first|omega|rfl) only[sA];(repeat refine qZa ?_);refine EvC.join (fun st=>∃(tm:Tr Value) (G2:Heap) (sv:Value),st=⟨tm,[],G2⟩/\tm.get 2=some (.slice a2 L2.length c2)/\tm.get 8=some (ptr d)/\tm.get 10=some (.slice va (D.ids k).length vc)/\tm.get 11=some sv/\HX Gi G2/\SeenR G2 G.next ((D.ids k).map D.cl) sv) ?_ ?_
 ·refine qZg (qZk (fun k' st=>∃(tm:Tr Value) (G2:Heap) (q:Nat) (sv:Value),st=⟨tm,[],G2⟩/\k'=(D.ids k).length - q/\q<=(D.ids k).length/\tm.get 2=some (.slice a2 L2.length c2)/\tm.get 8=some (ptr d)/\tm.get 10=some (.slice va (D.ids k).length vc)/\tm.get 11=some sv/\tm.get 12=some (.int .i64 (q:Nat))/\HX Gi G2/\SeenR G2 G.next (((D.ids k).take q).map D.cl) sv/\∀n,blkOf sv=some n->Gi.next<=n) ?_ (D.ids k).length _ ?_);rotate_left
  ·exact⟨_,_,0,_,rfl,rfl,Zo _,(by simp only[sG,Za,t2]),(by simp only[sG,Za,t8]),(by simp only[sG,Za]),(by simp only[sG,Za]),(by simp only[sB,Za];rfl),HX.refl wGi,.nil,fun n h=>(by cases h)⟩
  rintro k' st ⟨tm,G2,q,sv,rfl,rfl,hq,t2,t8,t10,t11,t12,hx2,hsv,hsb⟩;have wG2:=hx2.wf;by_cases hlt:q < (D.ids k).length;rotate_left
  ·obtain rfl:q=(D.ids k).length:=by omega
   rw[List.take_length] at hsv
   repeat' (first|refine qZa ?_|(refine qZi ?_;try simp only[sB])|(refine qZb ?_;simp (config:=qZc) (disch:=first|omega|rfl) only[sB,Za,ln60,t10,t12,decn hlt])|(refine qZm ?_ ?_;simp (config:=qZc) (disch:=first|omega|rfl) only[sB,Za];refine z05 ?_))
   exact⟨_,_,sv,rfl,(by simp only[sG,Za,t2]),(by simp only[sG,Za,t8]),(by simp only[sG,Za,t10]),(by simp only[sG,Za,t11]),hx2,hsv⟩
  obtain⟨x,hxl,hxt,hxg⟩:=hln _ (Zz hlt);have hcl:D.cl (D.ids k)[q]=x.c:=by unfold Db.cl;rw[hxl];rfl
  rcases hvi with ⟨e0,-⟩|⟨bb,cc,oo,ee⟩
  ·have:(idC (D.ids k)).length=0:=by rw[e0];rfl
   rw[z16] at this;omega
  injection ee with e1 e2 e3;subst e1;have hld:=oo.load (i:=q) (x:=[.int .i64 ((D.ids k)[q]:Nat)]) (by unfold idC;rw[Zv,Zc hlt];rfl);rw[Nat.mul_one] at hld;have hld2:=hx2.load wGi hld;obtain⟨hG2,dxG2⟩:=hGi.keep wGi hx2
  repeat' (first|refine qZa ?_|refine qZg ?_|(refine qZe ?_;try simp only[z00])|(refine qZb ?_;simp (config:=qZc) (disch:=first|omega|rfl) only[sB,Za,ld3,ln60,ia60,cl21,t8,t10,t12,decl hlt,hld2])|(refine qZd ?_ ?_;simp (config:=qZc) (disch:=first|omega|rfl) only[sB,Za];refine z05 ?_))
  refine(zeo hG2 wG2 hxl (.inr hxg.head) hxg.owb).mono ?_;rintro v G3 ⟨hx3,out,rfl,hout⟩;have hout0:=hout;obtain⟨oa,oc,xa,xc,ya,yc,rfl,-,-⟩:=hout;have wG3:=hx3.wf;obtain⟨G4,e4,hx4,g4,n4,w4⟩:=z0r wG3 (.row zero15 55) (.row (fift x.c.head oa oc x.c.body.kind x.c.body.term xa xc ya x.c.body.sub.length yc x.c.vars) 55);have q4:=z1n g4;obtain⟨G5,e5,hx5,g5,n5,w5⟩:=new1 w4 (.row (fift x.c.head oa oc x.c.body.kind x.c.body.term xa xc ya x.c.body.sub.length yc x.c.vars) 55);have hx25:=(hx3.trans hx4).trans hx5;have hx35:=hx4.trans hx5;have m3:=hx3.next;have m2:=hx2.next;have mi:=hxi.next;have m35:=hx35.next;have hs5:=hsv.to (fun n _ hl=>hx25.keep n hl) hx25.next;have hsl:∀n,blkOf sv=some n->n < G2.next:=fun n hn=>by
   obtain⟨rows,h1,-,-⟩:=hsv;exact(FR.lo (f:=.sl 55 15 rows) h1 hn).2
  have htl:(((D.ids k).take q).map D.cl).length=q:=by rw[Zt,Zp];omega
  obtain⟨G6,c6,e6,hs6,n6,w6,k6⟩:=hs5.push w5 g5 (hout0.to (S':=Rg G2.next G3.next) fun n hn hl=>⟨hx35.keep n hl,hn,by omega⟩) (fun n hn=>⟨by have:=hn.1;omega,by have:=hn.2;omega,fun e=>by have:=hsl n e;have:=hn.1;omega⟩) (by rw[htl];omega) (by omega);obtain⟨sa,sc,hsv',-,-⟩:=hsv.slice;rw[htl] at e6 hs6 hsv';have hx6:HX Gi G6:=(hx2.trans hx25).then (S:=fun n=>blkOf sv=some n) ⟨by omega,fun n hn hne=>k6 n hn hne,w6⟩ fun n hn e=>by have:=hsb n e;omega
  repeat' (first|refine qZa ?_|(refine qZe ?_;try simp only[z00])|(refine qZb ?_;simp (config:=qZc) (disch:=first|omega|rfl) only[sB,Za,Zb,Value.cells,one,layC,ld55,ztg,Zq,Ze,z0x rfl,t11,q4,e5,e6,t12,z5t (i:=q) (by omega)])|(refine z0n ?_;simp (config:=qZc) (disch:=first|omega|rfl) only[sB,dAlloc,Za,Zb,one,zr55,st55,znc,e4,hxt])|(refine qZm ?_ ?_;simp (config:=qZc) (disch:=first|omega|rfl) only[sB,Za];refine z05 ?_))
  refine⟨(D.ids k).length - (q+1),by omega,_,_,q+1,_,rfl,rfl,by omega,(by simp only[sG,Za,t2]),(by simp only[sG,Za,t8]),(by simp only[sG,Za,t10]),(by simp only[sB,Za];rfl),(by simp only[sG,Za]),hx6,?_,fun n hn=>?_⟩
  ·rw[<-List.take_append_getElem hlt,ZB,Zx,List.map_nil,hcl];exact hs6
  ·have:=Option.some.inj (show some G5.next=some n from hn);omega
 rintro st ⟨tm,Gs,sv,rfl,t2,t8,t10,t11,hxs,hsv⟩;have wGs:=hxs.wf;obtain⟨hGs,dxGs⟩:=hGi.keep wGi hxs;have mi:=hxi.next;have ms:=hxs.next;have hoffS:∀n,G.next<=n->n < Gs.next->Off Gs d D n:=fun n b1 b2=>⟨b2,fun q=>by have:=hG.hi wG (hG.mutx wG (hxi.trans hxs) q);omega⟩
 have hxHs:HX H Gs:=(hxG.trans hxi).trans hxs;have hvs:RepO Gs 3 1 G.next (idC (D.ids k)) (.slice va (D.ids k).length vc):=hvi.keep hxs;simp only[z00];(repeat refine qZa ?_);refine qZb ?_;simp (config:=qZc) (disch:=first|omega|rfl) only[sA];(repeat refine qZa ?_);refine EvC.join (fun st=>∃(tm:Tr Value) (G3:Heap) (D':Db),st=⟨tm,[],G3⟩/\tm.get 8=some (ptr d)/\tm.get 10=some (.slice va (D.ids k).length vc)/\tm.get 11=some sv/\DbB G3 B d D'/\DX Gs G3 d D D'/\DbW D'/\Grew D D'/\G3.wf) ?_ ?_
 ·refine qZg (qZk (fun k' st=>∃(tm:Tr Value) (G3:Heap) (D':Db) (i:Nat),st=⟨tm,[],G3⟩/\k'=L2.length - i/\i<=L2.length/\tm.get 2=some (.slice a2 L2.length c2)/\tm.get 8=some (ptr d)/\tm.get 10=some (.slice va (D.ids k).length vc)/\tm.get 11=some sv/\tm.get 17=some (.int .i64 (i:Nat))/\DbB G3 B d D'/\DX Gs G3 d D D'/\DbW D'/\Grew D D'/\D'.lines.length<=L.length+i/\G3.wf) ?_ L2.length _ ?_);rotate_left
  ·exact⟨_,_,D,0,rfl,rfl,Zo _,(by simp only[sG,Za,t2]),(by simp only[sG,Za,t8]),(by simp only[sG,Za,t10]),(by simp only[sG,Za,t11]),(by simp only[sB];rfl),hGs,⟨HK.refl wGs,fun n q=>.inl q⟩,wD,Grew.refl,by omega,wGs⟩
  rintro k' st ⟨tm,G3,D',i,rfl,rfl,hi,t2,t8,t10,t11,t17,h3',dx3,wD',gr3,hl3,w3'⟩;have hxH3:HX H G3:=dx3.hx hGs hxHs (by omega);by_cases hlt:i < L2.length;rotate_left
  ·repeat' (first|refine qZa ?_|(refine qZi ?_;try simp only[sB])|(refine qZb ?_;simp (config:=qZc) (disch:=first|omega|rfl) only[sB,Za,ln45,t2,t17,decn hlt])|(refine qZm ?_ ?_;simp (config:=qZc) (disch:=first|omega|rfl) only[sB,Za];refine z05 ?_))
   exact⟨_,_,D',rfl,(by simp only[sG,Za,t8]),(by simp only[sG,Za,t10]),(by simp only[sG,Za,t11]),h3',dx3,wD',gr3,w3'⟩
  obtain⟨b,o,cs,rfl,x1,x2,x5,x8,xc,x23⟩:=r2.el i hlt;have y1:=hxH3.load hw x1;have y2:=hxH3.load hw x2;have y5:=hxH3.load hw x5;have y8:=hxH3.load hw x8;have y23:=hxH3.load hw x23;by_cases k1:L2[i].kind=1
  ·obtain⟨G4,eG4⟩:∃G4:Heap,(⟨G3.next+12,G3.t⟩:Heap)=G4:=⟨_,rfl⟩
   have hy1:HX G3 G4:=by rw[<-eG4];exact(HX.refl w3').bump 12
   obtain⟨h4,dx4⟩:=h3'.keep w3' hy1;have w4:=hy1.wf;have v8:=hy1.load w3' y8;have v23:=hy1.load w3' y23
   repeat' (first|refine qZa ?_|refine qZg ?_|(refine qZe ?_;try simp only[z00])|(refine qZb ?_;simp (config:=qZc) (disch:=first|omega|rfl) only[sB,Za,ln45,ia45,zad,ld3,t2,t17,decl hlt,y1,z0y k1])|(refine qZj (id:=24) [([(0,0),(1,0),(2,0),(3,0),(4,0),(5,0),(6,0),(7,0),(8,0),(9,0),(10,0)],some 11),([],none)] ?_ ?_;kernel_rfl;simp (config:=qZc) (disch:=first|omega|rfl) only[sD,sB,Za,Zb,reduceCtorEq,ia45,zqc,ld55,zqd,ld4,cl19,t2,t8,t17,eG4,v8,v23,isAlloc,isRead])|(refine qZd ?_ ?_;simp (config:=qZc) (disch:=first|omega|rfl) only[sB,Za];refine z05 ?_))
   refine(zr5 h4 wD' w4 xc (hxH3.trans hy1) (by omega) hw (hg2 _ (Zz hlt)).few (by omega) L2[i].last).mono ?_;rintro v G5 ⟨D5,h5,dx5,w5,gr5,hl5,wG5⟩
   repeat' (first|(refine qZb ?_;simp (config:=qZc) (disch:=first|omega|rfl) only[sB,Za,t17,z5t (i:=i) (by omega)])|(refine z0q ?_;simp (config:=qZc) (disch:=first|omega|rfl) only[sD,z7t]))
   exact⟨L2.length - (i+1),by omega,_,_,D5,i+1,rfl,rfl,by omega,(by simp only[sG,Za,t2]),(by simp only[sG,Za,t8]),(by simp only[sG,Za,t10]),(by simp only[sG,Za,t11]),(by simp only[sG,Za]),h5,(dx3.trans dx4).trans dx5,w5,gr3.trans gr5,by omega,wG5⟩
  by_cases k2:L2[i].kind=2
  ·repeat' (first|refine qZa ?_|refine qZg ?_|(refine qZe ?_;try simp only[z00])|(refine qZb ?_;simp (config:=qZc) (disch:=first|omega|rfl) only[sB,Za,ln45,ia45,zad,ld3,zth,cl22,t2,t8,t17,decl hlt,y1,y2,z0t k1,z0y k2])|(refine qZd ?_ ?_;simp (config:=qZc) (disch:=first|omega|rfl) only[sB,Za];refine z05 ?_)|(refine qZm ?_ ?_;simp (config:=qZc) (disch:=first|omega|rfl) only[sB,Za];refine z05 ?_))
   by_cases hv:∃(m:Nat) (x:Ln),L2[i].n=(m:Nat)/\D'.lines[m]?=some x/\x.there=true
   ·obtain⟨m,x,hm,hxl,hxt⟩:=hv;obtain⟨p,hp,hkp,hmp⟩:=wD'.th m x hxl hxt;obtain⟨j,hj,hpj⟩:=wD'.idx hp;rw[hkp] at hj;rw[hm];refine(zi6 h3' wD' w3' hxl hxt hj hpj hmp).mono ?_;rintro v G5 ⟨rfl,h5,dx5,wG5⟩
    repeat' (first|(refine qZb ?_;simp (config:=qZc) (disch:=first|omega|rfl) only[sB,Za,t17,z5t (i:=i) (by omega)]))
    exact⟨L2.length - (i+1),by omega,_,_,_,i+1,rfl,rfl,by omega,(by simp only[sG,Za,t2]),(by simp only[sG,Za,t8]),(by simp only[sG,Za,t10]),(by simp only[sG,Za,t11]),(by simp only[sG,Za]),h5,dx3.trans dx5,wD'.gone hxl hkp hpj hmp,gr3.trans (Grew.gone hxl),by simp only[Db.gone,List.length_set];omega,wG5⟩
   ·refine(zn8 h3' w3' fun m x hm hxl=>by
     cases ht:x.there with
     |false=>rfl
     |true=>exact absurd ⟨m,x,hm,hxl,ht⟩ hv).mono ?_
    intro v G5 hx5;obtain⟨h5,dx5⟩:=h3'.keep w3' hx5
    repeat' (first|(refine qZb ?_;simp (config:=qZc) (disch:=first|omega|rfl) only[sB,Za,t17,z5t (i:=i) (by omega)]))
    exact⟨L2.length - (i+1),by omega,_,_,D',i+1,rfl,rfl,by omega,(by simp only[sG,Za,t2]),(by simp only[sG,Za,t8]),(by simp only[sG,Za,t10]),(by simp only[sG,Za,t11]),(by simp only[sG,Za]),h5,dx3.trans dx5,wD',gr3,by omega,hx5.wf⟩
  by_cases k8:L2[i].kind=8
  ·repeat' (first|refine qZa ?_|refine qZg ?_|(refine qZe ?_;try simp only[z00])|(refine qZb ?_;simp (config:=qZc) (disch:=first|omega|rfl) only[sB,Za,ln45,ia45,zad,ld3,ld47,zti,cl23,t2,t8,t17,decl hlt,y1,y5,z0t k1,z0t k2,z0y k8])|(refine qZd ?_ ?_;simp (config:=qZc) (disch:=first|omega|rfl) only[sB,Za];refine z05 ?_)|(refine qZm ?_ ?_;simp (config:=qZc) (disch:=first|omega|rfl) only[sB,Za];refine z05 ?_))
   refine(zjr h3' wD' w3' (k:=L2[i].key) (hg2 _ (Zz hlt)).key (by omega)).mono ?_;rintro v G5 ⟨D5,h5,dx5,w5,gr5,hl5,wG5⟩
   repeat' (first|(refine qZb ?_;simp (config:=qZc) (disch:=first|omega|rfl) only[sB,Za,t17,z5t (i:=i) (by omega)]))
   exact⟨L2.length - (i+1),by omega,_,_,D5,i+1,rfl,rfl,by omega,(by simp only[sG,Za,t2]),(by simp only[sG,Za,t8]),(by simp only[sG,Za,t10]),(by simp only[sG,Za,t11]),(by simp only[sG,Za]),h5,dx3.trans dx5,w5,gr3.trans gr5,by omega,wG5⟩
  ·repeat' (first|refine qZa ?_|refine qZg ?_|(refine qZe ?_;try simp only[sA])|(refine qZb ?_;simp (config:=qZc) (disch:=first|omega|rfl) only[sB,Za,ln45,ia45,zad,ld3,t2,t17,decl hlt,y1,z0t k1,z0t k2,z0t k8,z5t (i:=i) (by omega)])|(refine qZd ?_ ?_;simp (config:=qZc) (disch:=first|omega|rfl) only[sB,Za];refine z05 ?_)|(refine qZm ?_ ?_;simp (config:=qZc) (disch:=first|omega|rfl) only[sB,Za];refine z05 ?_))
   exact⟨L2.length - (i+1),by omega,_,_,D',i+1,rfl,rfl,by omega,(by simp only[sG,Za,t2]),(by simp only[sG,Za,t8]),(by simp only[sG,Za,t10]),(by simp only[sG,Za,t11]),(by simp only[sG,Za]),h3',dx3,wD',gr3,by omega,w3'⟩
 rintro st ⟨tm,G3,D',rfl,t8,t10,t11,h3',dx3,wD',gr3,w3'⟩;have hv3:=zfu hvs (fun n b1 b2=>(dx3.off (hoffS n b1 b2)).1) dx3.hk.next;have hsv3:=hsv.to (fun n b1 b2=>(dx3.off (hoffS n b1 b2)).1) dx3.hk.next;obtain⟨sa,sc,rfl,-,-⟩:=hsv.slice;have hsl:((D.ids k).map D.cl).length=(D.ids k).length:=Zt _;rw[hsl] at t11 hsv3;simp only[z00];(repeat refine qZa ?_);refine qZb ?_;simp (config:=qZc) (disch:=first|omega|rfl) only[sA]
 repeat' (first|refine qZg ?_)
 refine qZk (fun k' st=>∃(tm:Tr Value) (G:Heap) (q:Nat),st=⟨tm,[],G⟩/\k'=(D.ids k).length - q/\q<=(D.ids k).length/\tm.get 8=some (ptr d)/\tm.get 10=some (.slice va (D.ids k).length vc)/\tm.get 11=some (.slice sa (D.ids k).length sc)/\tm.get 18=some (.int .i64 (q:Nat))/\HX G3 G) ?_ (D.ids k).length _ ?_;rotate_left
 ·exact⟨_,_,0,rfl,rfl,Zo _,(by simp only[sG,Za,t8]),(by simp only[sG,Za,t10]),(by simp only[sG,Za,t11]),(by simp only[sB];rfl),HX.refl w3'⟩
 rintro k' st ⟨tm,G4,q,rfl,rfl,hq,t8,t10,t11,t18,hx4⟩;have w4:=hx4.wf;by_cases hlt:q < (D.ids k).length;rotate_left
 ·repeat' (first|refine qZa ?_|(refine qZi ?_;try simp only[sB])|(refine qZf ?_)|(refine qZb ?_;simp (config:=qZc) (disch:=first|omega|rfl) only[sB,Za,ln60,t10,t18,decn hlt])|(refine qZm ?_ ?_;simp (config:=qZc) (disch:=first|omega|rfl) only[sB,Za];refine z05 ?_))
  exact z04 rfl (by simp only[sG,Za]) rfl
 obtain⟨x,hxl,hxt,hxg⟩:=hln _ (Zz hlt);have hcl:D.cl (D.ids k)[q]=x.c:=by unfold Db.cl;rw[hxl];rfl
 obtain⟨x',hxl',hxc⟩:=gr3.2 _ _ hxl;have hxg':GoodC x'.c:=by rw[hxc];exact hxg
 rcases hv3 with ⟨e0,-⟩|⟨bb,cc,oo,ee⟩
 ·have:(idC (D.ids k)).length=0:=by rw[e0];rfl
  rw[z16] at this;omega
 injection ee with e1 e2 e3;subst e1;have hld:=oo.load (i:=q) (x:=[.int .i64 ((D.ids k)[q]:Nat)]) (by unfold idC;rw[Zv,Zc hlt];rfl);rw[Nat.mul_one] at hld;have hld4:=hx4.load w3' hld;obtain⟨h4,dx4⟩:=h3'.keep w3' hx4;have hsx:((D.ids k).map D.cl)[q]?=some x.c:=by rw[Zv,Zc hlt,<-hcl];rfl
 obtain⟨sb,scs,rfl,hsld,hsrd⟩:=hsv3.el hsx
 repeat' (first|refine qZa ?_|refine qZg ?_|(refine qZe ?_;try simp only[z00])|(refine qZb ?_;simp (config:=qZc) (disch:=first|omega|rfl) only[sB,Za,ld3,ln60,ia60,cl21,t8,t10,t18,decl hlt,hld4])|(refine qZd ?_ ?_;simp (config:=qZc) (disch:=first|omega|rfl) only[sB,Za];refine z05 ?_))
 refine(zeo h4 w4 hxl' (.inr hxg'.head) hxg'.owb).mono ?_;rintro v G5 ⟨hx5,out,rfl,hout⟩;have hout0:=hout;obtain⟨oa,oc,xa,xc,ya,yc,rfl,-,-⟩:=hout;have w5:=hx5.wf;obtain⟨G6,e6,hx6,g6,n6,w6⟩:=z0r w5 (.row zero15 55) (.row (fift x'.c.head oa oc x'.c.body.kind x'.c.body.term xa xc ya x'.c.body.sub.length yc x'.c.vars) 55);obtain⟨G7,e7⟩:∃G7:Heap,(⟨G6.next+7,G6.t⟩:Heap)=G7:=⟨_,rfl⟩
 have hx67:HX G6 G7:=by rw[<-e7];exact(HX.refl w6).bump 7
 have w7:=hx67.wf;have q7:=z1n (hx67.get w6 g6);have hx47:=((hx4.trans hx5).trans hx6).trans hx67;have hsld7:=hx47.load w3' hsld;have hs15:scs.length=15:=zgv hsld
 repeat' (first|refine qZa ?_|(refine qZj (id:=33) [([(0,0),(1,0),(2,0),(3,0),(4,0)],some 5),([(6,1)],none)] ?_ ?_;kernel_rfl;simp (config:=qZc) (disch:=first|omega|rfl) only[sD,sB,Za,Zb,reduceCtorEq,ld55,ia62,cl24,e7,t11,t18,q7,hsld7,isAlloc,isRead])|(refine z0n ?_;simp (config:=qZc) (disch:=first|omega|rfl) only[sB,dAlloc,Za,Zb,one,zr55,st55,znc,e6]))
 refine(z9l ((hout0.rd.mono hx6 w5).mono hx67 w6) (hsrd.mono hx47 w3') w7).mono ?_;rintro v G8 ⟨rfl,hx8⟩;rw[zup hxc]
 repeat' (first|refine qZa ?_|(refine qZe ?_;try simp only[sA])|(refine qZb ?_;simp (config:=qZc) (disch:=first|omega|rfl) only[sB,Za,z0x rfl,Zq,Ze,t18,z5t (i:=q) (by omega)])|(refine z0q ?_;simp (config:=qZc) (disch:=first|omega|rfl) only[sD,sB,Za,isAlloc,isRead])|(refine qZm ?_ ?_;simp (config:=qZc) (disch:=first|omega|rfl) only[sB,Za];refine z05 ?_))
 exact⟨(D.ids k).length - (q+1),by omega,_,_,q+1,rfl,rfl,by omega,(by simp only[sG,Za,t8]),(by simp only[sG,Za,t10]),(by simp only[sG,Za,t11]),(by simp only[sG,Za]),hx47.trans hx8⟩
end Go.Proofs.hq
end

section
namespace Go.Hb
open Go Go.RowKit Go.ChangeShapes Go.WideShapes
section
variable {P:Program}
theorem zfv {ok:Ok}{n nx:Nat}{f:FuncId}{args:List Value}{args':Array Value}{τ:Nat->Value}(hτ:∀j,(τ j).oneCell'=true) (hm:P.follows .mixedOrders=true)
  (hOK:∀N w0,OkFns P N w0 ok) (hnx:P.globals.size<=nx) (hrun:retTrue (dcall P ok n f args ⟨nx,.nil⟩)=true) (hl:LR (sig0 nx) τ args args'.toList) (W:World) :
  Calls P f args' W fun e W'=>e=.returned (.bool true)/\Below W.heap.size W W':=by
 obtain⟨H',h⟩:=zf4 hrun;refine(z7g hτ hm (hOK _ _) h hl (HR.start nx W) (GR.start hnx)).mono fun e w' he=>?_
 obtain⟨σ',hen,hH,_⟩:=he;cases e with
 |returned v'=>exact⟨by rw[show v'=.bool true from VR.flat_eq hen rfl],hH.below⟩
 |panicked _=>exact hen.elim
 |outgrown=>exact hen.elim
variable {H:Type}{enc:TypeId × Value->H}
end
end Go.Hb
end

section
namespace Go.Hb
open Go Go.RowKit
section
variable {H:Type}{enc:TypeId × Value->H}{P:Program}{W:World}{sp:Nat->Bool}{fuel:Nat}{t e:TypeId}{cs:List Value}{d:DataW H}{ps:List MemPlace}
theorem znd {k:IntKind}{n:Int}:ab P W (.int k n)=.int k n:=rfl
theorem zne {s:ByteArray}:ab P W (.string s)=.string s:=rfl
theorem z32 {k:IntKind}(ht:P.underlying t=some (.int k)) (h:DataW.trod enc P W 0 sp true fuel t cs=some (d,ps)):∃n,cs=[.int k n]/\(Lit.int k n).wf=true:=by
 cases fuel with
 |zero=>simp [DataW.trod] at h
 |succ m =>
  unfold DataW.trod at h;rw[ht] at h;split at h<;>simp_all
theorem z4f (ht:P.underlying t=some .string) (h:DataW.trod enc P W 0 sp true fuel t cs=some (d,ps)):∃s:ByteArray,cs=[.string s]/\s.size<=maxLen:=by
 cases fuel with
 |zero=>simp [DataW.trod] at h
 |succ m =>
  unfold DataW.trod at h;rw[ht] at h;split at h<;>simp_all
theorem trod_slice (ht:P.underlying t=some (.slice e)) (h:DataW.trod enc P W 0 sp true fuel t cs=some (d,ps)) :
  cs=[.slice none 0 0]\/∃a len cap m,fuel=m+1/\cs=[.slice (some a) len cap]/\len<=cap/\cap<=maxLen /\
   ∀i,i < len->∃es d' ps',W.cells? 0 (a.add (i*P.cellsOf e)) (P.cellsOf e)=some es/\DataW.trod enc P W 0 sp true m e es=some (d',ps'):=by
 cases fuel with
 |zero=>simp [DataW.trod] at h
 |succ m =>
  unfold DataW.trod at h;rw[ht] at h;split at h<;>simp_all
  obtain⟨⟨hl,hc⟩,h⟩:=h;simp only[Option.bind_eq_some_iff,Option.map_eq_some_iff] at h;obtain⟨elems,he,_⟩:=h;refine⟨_,_,_,⟨rfl,rfl,rfl⟩,hl,hc,fun i hi=>?_⟩;have hlen:=mapM_some_length he;have:=mapM_some_get he i i (by simp [hi]);rw[Zc (by rw[hlen];simpa using hi)] at this;simp only[Option.bind_eq_some_iff] at this;obtain⟨es,h1,h2⟩:=this;exact⟨es,h1,_,_,h2⟩
theorem zt4 (a:Addr) (i:Nat):(a.add i).block=a.block:=by unfold Addr.add;split<;>rfl
theorem z40 {a:Addr}{s i:Nat}{es:List Value}(hs:0 < s) (h:W.cells? 0 (a.add (i*s)) s=some es) (hsp:a.spot=none):(heapW P W).load ⟨a.block,a.off+i*s,none⟩ s=some (es.map (ab P W))/\es.length=s/\a.block < W.heap.size:=by
 obtain⟨_,hl,hc⟩:=World.cells?_some h;obtain⟨b,o,sp⟩:=a;obtain rfl:sp=none:=hsp;have hb:=World.cells?_block h hs;rw[zt4] at hb;refine⟨zir hs hl fun j v hj=>?_,hl,hb⟩;have hjl:j < es.length:=(List.getElem?_eq_some_iff.1 hj).1;have:=hc j (by omega);rw[add0,add0] at this;rw[this];exact hj
theorem z7a {a:Addr}{s:Nat}{es:List Value}(hs:0 < s) (h:W.cells? 0 (a.add (0*s)) s=some es):a.spot=none:=by
 obtain⟨_,hl,hc⟩:=World.cells?_some h;have e0:∀a:Addr,a.add 0=a:=fun a=>by unfold Addr.add;simp
 have:=hc 0 hs;rw[ZL,e0,e0,Zc (by omega)] at this;unfold World.cell? at this;split at this
 ·split at this
  ·cases this
  ·rename_i hn;simpa using hn
 ·cases this
end
section
variable {H:Type}{enc:TypeId × Value->H}{P:Program}{W:World}{sp:Nat->Bool}
structure TermTypes (P:Program) (tT tS tI tG tU:TypeId):Prop where
 fields:∃fs:Array Field,P.underlying tT=some (.struct fs)/\(fs.toList.map fun f=>(f.offset,f.type))=[(0,tI),(1,tG),(2,tG),(3,tU),(4,tI),(5,tS)]
 slice:P.underlying tS=some (.slice tT)
 int:P.underlying tI=some (.int .i64)
 str:P.underlying tG=some .string
 u64:P.underlying tU=some (.int .u64)
 cT:P.cellsOf tT=6
 cS:P.cellsOf tS=1
 cI:P.cellsOf tI=1
 cG:P.cellsOf tG=1
 cU:P.cellsOf tU=1
theorem zb0 {n:Int}(h:(Lit.int .i64 n).wf=true):i64 n:=by
 unfold i64;unfold Lit.wf at h;simp [IntKind.min,IntKind.max,IntKind.bits,IntKind.signed] at h;exact h
theorem zr6 {n:Int}(h:(Lit.int .u64 n).wf=true):u64 n:=by
 unfold u64;unfold Lit.wf at h;simp [IntKind.min,IntKind.max,IntKind.bits,IntKind.signed] at h;exact h
theorem z4h {cs:List Value}{o:Nat}{v:Value}(h:(cs.drop o).take 1=[v]):cs[o]?=some v:=by
 have:((cs.drop o).take 1)[0]?=some v:=by rw[h];rfl
 simpa [ZE,List.getElem?_drop] using this
theorem zi8 {cs:List Value}{a b c d e f:Value}(hl:cs.length=6) (h0:cs[0]?=some a) (h1:cs[1]?=some b) (h2:cs[2]?=some c) (h3:cs[3]?=some d) (h4:cs[4]?=some e) (h5:cs[5]?=some f):cs=[a,b,c,d,e,f]:=by
 match cs,hl with
 |[_,_,_,_,_,_],_=>simp at h0 h1 h2 h3 h4 h5;simp [h0,h1,h2,h3,h4,h5]
end
end Go.Hb
end

section
namespace Go.Hb
open Go Go.RowKit
section
variable {H:Type}{enc:TypeId × Value->H}{P:Program}{W:World}{sp:Nat->Bool}
end
end Go.Hb
end

section
namespace Go.Proofs.hq
open Go Go.RowKit Go.Hb
section
variable {H:Type}{enc:TypeId × Value->H}{P:Program}{W:World}{sp:Nat->Bool}
structure Wt (w:DataW H->Nat):Prop where
 pos:∀d,1<=w d
 agg:∀ps,(ps.map w).sum+1<=w (.agg ps)
 slice:∀es rest,(es.map w).sum+1<=w (.slice es rest)
theorem z1x {fuel:Nat}{t:TypeId}{cs:List Value}{d:DataW H}{ps:List MemPlace}{fs:Array Field}(ht:P.underlying t=some (.struct fs)) (h:DataW.trod enc P W 0 sp true fuel t cs=some (d,ps)) :
  ∃(m:Nat) (xs:List (DataW H × List MemPlace)),fuel=m+1/\cs.length=P.cellsOf t/\d=.agg (xs.map (·.1))/\∀(i:Nat) (f:Field),fs[i]?=some f->∃x,xs[i]?=some x/\DataW.trod enc P W 0 sp true m f.type ((cs.drop f.offset).take (P.cellsOf f.type))=some x:=by
 cases fuel with
 |zero=>simp [DataW.trod] at h
 |succ m =>
  unfold DataW.trod at h;rw[ht] at h;have h':(if cs.length=P.cellsOf t then (fs.toList.mapM fun f=>DataW.trod enc P W 0 sp true m f.type ((cs.drop f.offset).take (P.cellsOf f.type))).map fun xs=>(DataW.agg (xs.map (·.1)),xs.flatMap (·.2)) else none)=some (d,ps):=by
   split at h<;>first|exact h|simp_all
  split at h'
  ·rename_i hl;rw[Option.map_eq_some_iff] at h';obtain⟨xs,hx,he⟩:=h';cases he;refine⟨m,xs,rfl,hl,rfl,fun i f hf=>?_⟩;have hlen:=mapM_some_length hx;have:=mapM_some_get hx i f (by simpa using hf);have hi:=(Array.getElem?_eq_some_iff.1 hf).1;have hix:i < xs.length:=by rw[hlen];simpa using hi
   rw[Zc hix] at this;exact⟨xs[i],Zc hix,this⟩
  ·cases h'
theorem z7p {fuel:Nat}{t e:TypeId}{cs:List Value}{d:DataW H}{ps:List MemPlace}(ht:P.underlying t=some (.slice e)) (h:DataW.trod enc P W 0 sp true fuel t cs=some (d,ps)) :
  cs=[.slice none 0 0]\/∃(a:Addr) (cap m:Nat) (elems:List (DataW H × List MemPlace)) (rest:List (DataW H)),fuel=m+1/\cs=[.slice (some a) elems.length cap]/\elems.length<=cap/\cap<=maxLen/\d=.slice (elems.map (·.1)) rest /\
   ∀i x,elems[i]?=some x->∃es,W.cells? 0 (a.add (i*P.cellsOf e)) (P.cellsOf e)=some es/\DataW.trod enc P W 0 sp true m e es=some x:=by
 rcases DataW.trod_slice ht h with ⟨h1,-⟩|⟨a,len,cap,elems,rest,n,rfl,rfl,hx,-,hl,hm,rfl,hel,-⟩
 ·exact .inl h1
 ·cases hx;refine .inr ⟨a,cap,n,elems,_,rfl,rfl,hl,hm,rfl,fun i x hx=>?_⟩;have hi:=(List.getElem?_eq_some_iff.1 hx).1;have:=hel i hi;rw[hx,Option.bind_eq_some_iff] at this;exact this
theorem zfw:nd.ndL []=0:=by rw[nd.ndL]
theorem zce {t:Tm}{l:List Tm}:nd.ndL (t :: l)=nd t+nd.ndL l:=by rw[nd.ndL]
theorem zr7 (t:Tm):1<=nd t:=by rw[z1m];omega
theorem znf:∀l:List Tm,l.length<=nd.ndL l
 |[]=>Zo _
 |t :: l=>by have:=znf l;have:=zr7 t;rw[zce,ZJ];omega
theorem zr8 {w:DataW H->Nat}:∀(es:List (DataW H × List MemPlace)) (f:Nat->Tm),(∀i x,es[i]?=some x->7*nd (f i)<=w x.1)->7*nd.ndL ((Zi es.length).map f)<=((es.map (·.1)).map w).sum
 |[],f,_=>by simp [zfw]
 |x :: es,f,h=>by
  have h0:=h 0 x rfl;have ih:=zr8 (w:=w) es (fun i=>f (i+1)) fun i y hy=>h (i+1) y hy
  rw[ZJ,List.range_succ_eq_map,Zx,List.map_map,zce,Zx,Zx,List.sum_cons];have e:(f ∘ Nat.succ)=fun i=>f (i+1):=rfl
  rw[e];omega
theorem zph {b:Nat}{B:Blk}(h:(heapW P W).get b=some B):∃cs e,B=.ro cs e:=by
 rw[z62] at h;split at h
 ·unfold blkW at h;split at h
  ·cases h;exact⟨_,_,rfl⟩
  ·cases h
 ·cases h
theorem zt5 {b o n:Nat}{cs:List Value}(h:(heapW P W).load ⟨b,o,none⟩ n=some cs):∃cs e,(heapW P W).get b=some (.ro cs e):=by
 cases hg:(heapW P W).get b with
 |none=>unfold Heap.load Heap.cells at h;simp [hg] at h
 |some B=>obtain⟨cs,e,rfl⟩:=zph hg;exact⟨cs,e,rfl⟩
theorem zt6 {tT tS tI tG tU:TypeId}(T:TermTypes P tT tS tI tG tU) {w:DataW H->Nat}{a:Addr}{m cap:Nat}{elems:List (DataW H × List MemPlace)}
  (hnc:elems.length<=cap) (hcm:cap<=maxLen)
  (ih:∀(cs:List Value) (d:DataW H) (ps:List MemPlace),DataW.trod enc P W 0 sp true m tT cs=some (d,ps)->∃t,RepT (heapW P W) t (cs.map (ab P W))/\7*nd t<=w d)
  (hel:∀i x,elems[i]?=some x->∃es,W.cells? 0 (a.add (i*P.cellsOf tT)) (P.cellsOf tT)=some es/\DataW.trod enc P W 0 sp true m tT es=some x) :
  ∃l a' cells,ab P W (.slice (some a) elems.length cap)=.slice (some a') l.length cap/\RepL (heapW P W) l (some a') cap cells/\7*nd.ndL l<=((elems.map (·.1)).map w).sum/\(0 < l.length->a'.spot=none/\∃cs e,(heapW P W).get a'.block=some (.ro cs e)):=by
 rw[T.cT] at hel;have hsp:0 < elems.length->a.spot=none:=fun hn=>by
  obtain⟨es,he,_⟩:=hel 0 elems[0] (Zc hn);exact z7a (by omega) he
 have key:∀i,∃t cells,(∀x,elems[i]?=some x->(heapW P W).load ⟨a.block,a.off+i*6,none⟩ 6=some cells/\RepT (heapW P W) t cells/\7*nd t<=w x.1):=fun i=>by
  by_cases hi:i < elems.length
  ·obtain⟨es,he,ht⟩:=hel i elems[i] (Zc hi);obtain⟨t,hr,hwt⟩:=ih es elems[i].1 elems[i].2 ht;exact⟨t,_,fun x hx=>by rw[Zc hi] at hx;cases hx;exact⟨(z40 (by omega) he (hsp (by omega))).1,hr,hwt⟩⟩
  ·exact⟨.mk 0 Zd Zd 0 0 [],[],fun x hx=>absurd (List.getElem?_eq_some_iff.1 hx).1 hi⟩
 obtain⟨T',hT'⟩:=Classical.axiomOfChoice key;obtain⟨C,hC⟩:=Classical.axiomOfChoice hT';have hlen:((Zi elems.length).map T').length=elems.length:=by simp
 have hsum:=zr8 (w:=w) elems T' fun i x hx=>(hC i x hx).2.2
 by_cases hn:0 < elems.length
 ·have hbl:a.block < W.heap.size:=by
   obtain⟨es,he,_⟩:=hel 0 elems[0] (Zc hn);exact(z40 (P:=P) (by omega) he (hsp hn)).2.2
  have hab:ab P W (.slice (some a) elems.length cap)=.slice (some a) ((Zi elems.length).map T').length cap:=by
   unfold ab;rw[hlen];simp only;rw[if_pos ⟨hnc,hcm⟩,if_pos ⟨hsp hn,hbl⟩]
  refine⟨(Zi elems.length).map T',a,C,hab,⟨by rw[hlen];exact hnc,hcm,fun h=>(by cases h),fun i ad hi ha=>?_,fun i t ht=>?_⟩,hsum,fun _=>⟨hsp hn,zt5 (hC 0 _ (Zc hn)).1⟩⟩
  ·cases ha;rw[hlen] at hi;exact⟨hsp hn,(hC i _ (Zc hi)).1⟩
  ·rw[Zv,Option.map_eq_some_iff] at ht;obtain⟨j,hj,rfl⟩:=ht;have hi:i < elems.length:=by have:=(List.getElem?_eq_some_iff.1 hj).1;simpa using this
   rw[List.getElem?_range hi] at hj;cases hj;exact(hC i _ (Zc hi)).2.1
 ·have hn0:elems.length=0:=by omega
  obtain⟨a',hab⟩:∃a',ab P W (.slice (some a) elems.length cap)=.slice (some a') 0 cap:=by
   unfold ab;simp only;rw[if_pos ⟨hnc,hcm⟩,hn0];split
   ·exact⟨_,rfl⟩
   ·exact⟨_,rfl⟩
  exact⟨[],a',fun _=>[],hab,⟨Zo _,hcm,fun h=>(by cases h),fun i ad hi=>by simp at hi,fun i t h=>by simp at h⟩,by simp [zfw],fun h=>by simp at h⟩
theorem zv2 {tT tS tI tG tU:TypeId}(T:TermTypes P tT tS tI tG tU) {w:DataW H->Nat}(hw:Wt w):∀(fuel:Nat) (cs:List Value) (d:DataW H) (ps:List MemPlace),DataW.trod enc P W 0 sp true fuel tT cs=some (d,ps)->∃t,RepT (heapW P W) t (cs.map (ab P W))/\7*nd t<=w d:=by
 intro fuel
 induction fuel using Nat.strongRecOn with
 |_ fuel ih =>
 intro cs d ps h;obtain⟨fs,hf,hfs⟩:=T.fields;obtain⟨m,xs,rfl,hl,rfl,hall⟩:=z1x hf h;rw[T.cT] at hl;have fld:∀i o u,((fs.toList.map fun f=>(f.offset,f.type)))[i]?=some (o,u)->P.cellsOf u=1->∃x,xs[i]?=some x/\DataW.trod enc P W 0 sp true m u ((cs.drop o).take 1)=some x:=fun i o u hi hu=>by
  rw[Zv,Option.map_eq_some_iff] at hi;obtain⟨f,hf1,hf2⟩:=hi;obtain⟨x,hx,hd⟩:=hall i f (by simpa using hf1);cases hf2;rw[hu] at hd;exact⟨x,hx,hd⟩
 rw[hfs] at fld;obtain⟨d0,p0,t0⟩:=fld 0 0 tI rfl T.cI;obtain⟨d1,p1,t1⟩:=fld 1 1 tG rfl T.cG;obtain⟨d2,p2,t2⟩:=fld 2 2 tG rfl T.cG;obtain⟨d3,p3,t3⟩:=fld 3 3 tU rfl T.cU;obtain⟨d4,p4,t4⟩:=fld 4 4 tI rfl T.cI;obtain⟨d5,p5,t5⟩:=fld 5 5 tS rfl T.cS;have hbulk:6+w d5.1<=w (.agg (xs.map (·.1))):=by
  have h1:=hw.agg (xs.map (·.1))
  match xs,p0,p1,p2,p3,p4,p5,h1 with
  |x0 :: x1 :: x2 :: x3 :: x4 :: x5 :: r,p0,p1,p2,p3,p4,p5,h1 =>
   cases p5;simp only[Zx,List.sum_cons] at h1 ⊢;have:=hw.pos x0.1;have:=hw.pos x1.1;have:=hw.pos x2.1;have:=hw.pos x3.1;have:=hw.pos x4.1;omega
 obtain⟨k,h0,w0⟩:=z32 T.int t0;obtain⟨s,h1,w1⟩:=z4f T.str t1;obtain⟨u,h2,w2⟩:=z4f T.str t2;obtain⟨b,h3,w3⟩:=z32 T.u64 t3;obtain⟨v,h4,w4⟩:=z32 T.int t4;have hp5:=hw.pos d5.1;obtain⟨d5,q5⟩:=d5;rcases z7p T.slice t5 with h5|⟨a,c,m',elems,rest,rfl,h5,hnc,hcm,rfl,hel⟩
 ·rw[zi8 hl (z4h h0) (z4h h1) (z4h h2) (z4h h3) (z4h h4) (z4h h5)];refine⟨.mk k s u b v [],.mk k s u b v [] none 0 (fun _=>[]) (zb0 w0) w1 w2 (zr6 w3) (zb0 w4) (Zo _) (Zf _) (Zo _) (fun _=>⟨rfl,rfl⟩) (fun i ad hi=>by simp at hi) (fun i t ht=>by simp at ht),?_⟩;rw[z1m,show (Tm.mk k s u b v []).args=[] from rfl,zfw];(try simp only at hbulk);(try simp only at hp5);omega
 ·rw[zi8 hl (z4h h0) (z4h h1) (z4h h2) (z4h h3) (z4h h4) (z4h h5)];obtain⟨l,a',C,hab,rl,hn,-⟩:=zt6 T hnc hcm (ih m' (by omega)) hel;simp only[Zx,List.map_nil,znd,zne,hab];refine⟨.mk k s u b v l,.mk k s u b v l (some a') c C (zb0 w0) w1 w2 (zr6 w3) (zb0 w4) (Zk rl.len hcm) rl.len hcm (fun h=>(by cases h)) rl.load rl.rep,?_⟩;rw[z1m,show (Tm.mk k s u b v l).args=l from rfl];have:=hw.slice (elems.map (·.1)) rest;(try simp only at hbulk);(try simp only at hp5);omega
end
end Go.Proofs.hq
end

section
namespace Go.Proofs.hq
open Go Go.RowKit Go.Hb
theorem zr9:∀{l:List Tm}{u:Tm},u∈l->nd u<=nd.ndL l
 |t :: l,u,h=>by
  rw[zce];rcases List.mem_cons.1 h with rfl|h
  ·omega
  ·have:=zr9 h;omega
theorem zra {n:Nat}:∀(m:Nat) (t:Tm),SizeOf.sizeOf t < m->nd t<=n->Few n t
 |0,t,h,_=>absurd h (Nat.not_lt_zero _)
 |m+1,t,h,hn=>by
  have h1:=z1m t;have h2:=znf t.args;refine .mk (by omega) fun u hu=>zra m u ?_ ?_
  ·obtain⟨i,hi,rfl⟩:=ZK hu;have:=z23 (Zc hi);omega
  ·have:=zr9 hu;omega
end Go.Proofs.hq
end

section
namespace Go.Proofs.hq
open Go Go.RowKit Go.Hb
variable {ok:Ok}
set_option maxRecDepth 10000
attribute [local irreducible] LX LG EL STG SOP SGO SGD SAL SRD SEF SEG SLK SCK ES
structure OpV where
 kind:Int
 num:Int
 tm:Tm
 cell:Int × Int
structure RepO15 (H:Heap) (B:List OpV) (a:Option Addr) (c:Nat):Prop where
 len:B.length<=c
 cap:c<=maxLen
 el:∀(i:Nat) (h:i < B.length),∃b o a' c',a=some ⟨b,o,none⟩/\H.load ⟨b,o+i*15+1,none⟩ 1=some [.int .i64 B[i].kind]/\H.load ⟨b,o+i*15+2,none⟩ 1=some [.int .i64 B[i].num] /\
  H.load ⟨b,o+i*15+3,none⟩ 6=some (six B[i].tm a' c')/\H.load ⟨b,o+i*15+9,none⟩ 2=some [.int .i64 B[i].cell.1,.int .i64 B[i].cell.2]/\RepT H B[i].tm (six B[i].tm a' c')
theorem RepO15.mono {H H':Heap}{B:List OpV}{a:Option Addr}{c:Nat}(h:RepO15 H B a c) (hx:HX H H') (hw:H.wf):RepO15 H' B a c :=
 ⟨h.len,h.cap,fun i hi=>by obtain⟨b,o,a',c',e,l1,l2,l3,l4,r⟩:=h.el i hi;exact⟨b,o,a',c',e,hx.load hw l1,hx.load hw l2,hx.load hw l3,hx.load hw l4,r.mono hx hw⟩⟩
end Go.Proofs.hq
end

section
namespace Go.Proofs.hq
open Go Go.RowKit Go.Hb
theorem z6s {H:Heap}{b o n:Nat}{cs:List Value}(h:H.load ⟨b,o,none⟩ n=some cs) {k m:Nat}(hk:k+m<=n):H.load ⟨b,o+k,none⟩ m=some ((cs.drop k).take m):=by
 unfold Heap.load at h ⊢;simp only at h ⊢;cases hc:H.cells b with
 |none=>rw[hc] at h;cases h
 |some xs =>
  rw[hc] at h;simp only at h ⊢;split at h
  ·rename_i hl;have e:(xs.drop o).take n=cs:=Option.some.inj h;rw[Zs] at hl;have e1:(xs.drop (o+k)).take m=(cs.drop k).take m:=by
    rw[<-e,List.drop_take,List.drop_drop,List.take_take,Nat.min_eq_left (by omega)]
   have hl2:((cs.drop k).take m).length=m:=by
    rw[e] at hl;rw[Zp,List.length_drop];omega
   rw[e1,if_pos (by rw[Zs];exact hl2)]
  ·cases h
section
variable {H:Type}{enc:TypeId × Value->H}{P:Program}{W:World}{sp:Nat->Bool}
structure OpTypesW (P:Program) (tO tOS tT tI tC:TypeId):Prop where
 fields:∃fs:Array Field,P.underlying tO=some (.struct fs)/\∃x y z:TypeId,(fs.toList.map fun f=>(f.offset,f.type))=[(0,tI),(1,tI),(2,tI),(3,tT),(9,tC),(11,x),(12,y),(14,z)]
 slice:P.underlying tOS=some (.slice tO)
 cO:P.cellsOf tO=15
 cellf:∃fs:Array Field,P.underlying tC=some (.struct fs)/\(fs.toList.map fun f=>(f.offset,f.type))=[(0,tI),(1,tI)]
 cC:P.cellsOf tC=2
theorem zep {m:Nat}{cs:List Value}{xs:List (DataW H × List MemPlace)}{fs:Array Field}{L:List (Nat × TypeId)}(hfs:(fs.toList.map fun f=>(f.offset,f.type))=L)
  (hall:∀(i:Nat) (f:Field),fs[i]?=some f->∃x,xs[i]?=some x/\DataW.trod enc P W 0 sp true m f.type ((cs.drop f.offset).take (P.cellsOf f.type))=some x) (i o:Nat) (u:TypeId) (hi:L[i]?=some (o,u)) :
  ∃x,xs[i]?=some x/\DataW.trod enc P W 0 sp true m u ((cs.drop o).take (P.cellsOf u))=some x:=by
 rw[<-hfs,Zv,Option.map_eq_some_iff] at hi;obtain⟨f,hf1,hf2⟩:=hi;obtain⟨x,hx,hd⟩:=hall i f (by simpa using hf1);cases hf2;exact⟨x,hx,hd⟩
end
end Go.Proofs.hq
end

section
namespace Go.Proofs.hq
open Go Go.RowKit Go.Hb
variable {ok:Ok}
set_option maxRecDepth 10000
attribute [local irreducible] LX LG EL STG SOP SGO SGD SAL SRD SEF SEG SLK SCK ES
end Go.Proofs.hq
end

section
namespace Go.Proofs.hq
open Go Go.RowKit Go.Hb
section
variable {H:Type}{enc:TypeId × Value->H}{P:Program}{W:World}{sp:Nat->Bool}
structure BodyTypesW (P:Program) (tB tBS tK tT tI:TypeId):Prop where
 fields:∃fs:Array Field,P.underlying tB=some (.struct fs)/\(fs.toList.map fun f=>(f.offset,f.type))=[(0,tI),(1,tT),(7,tBS)]
 slice:P.underlying tBS=some (.slice tB)
 cB:P.cellsOf tB=8
 cBS:P.cellsOf tBS=1
 clausef:∃fs:Array Field,P.underlying tK=some (.struct fs)/\(fs.toList.map fun f=>(f.offset,f.type))=[(0,tT),(6,tB),(14,tI)]
 cK:P.cellsOf tK=15
theorem z9t {t:Bdy}{l:List Bdy}:szB.szBL (t :: l)=szB t+szB.szBL l:=by rw[szB.szBL]
theorem zt7 (u:Bdy):1<=szB u:=by rw[z7o];omega
theorem zi9:∀l:List Bdy,l.length<=szB.szBL l
 |[]=>Zo _
 |t :: l=>by have:=zi9 l;have:=zt7 t;rw[z9t,ZJ];omega
theorem zia:∀{l:List Bdy}{u:Bdy},u∈l->szB u<=szB.szBL l
 |t :: l,u,h=>by
  rw[z9t];rcases List.mem_cons.1 h with rfl|h
  ·omega
  ·have:=zia h;omega
theorem zfx {n:Nat}:∀(m:Nat) (b:Bdy),SizeOf.sizeOf b < m->szB b<=n->FewB n b
 |0,b,h,_=>absurd h (Nat.not_lt_zero _)
 |m+1,b,h,hn=>by
  rw[z7o] at hn;have h2:=zi9 b.sub;refine .mk (by omega) (zra _ _ (Zg _) (by omega)) fun u hu=>zfx m u ?_ ?_
  ·have:=b.size u hu;omega
  ·have:=zia hu;omega
theorem zng {w:DataW H->Nat}:∀(es:List (DataW H × List MemPlace)) (f:Nat->Bdy),(∀i x,es[i]?=some x->2*szB (f i)<=w x.1)->2*szB.szBL ((Zi es.length).map f)<=((es.map (·.1)).map w).sum
 |[],f,_=>by simp [szB.szBL]
 |x :: es,f,h=>by
  have h0:=h 0 x rfl;have ih:=zng (w:=w) es (fun i=>f (i+1)) fun i y hy=>h (i+1) y hy
  rw[ZJ,List.range_succ_eq_map,Zx,List.map_map,z9t,Zx,Zx,List.sum_cons];have e:(f ∘ Nat.succ)=fun i=>f (i+1):=rfl
  rw[e];omega
theorem zpi {tB tBS tK tT tI:TypeId}(Bt:BodyTypesW P tB tBS tK tT tI) {w:DataW H->Nat}{a:Addr}{m cap:Nat}{elems:List (DataW H × List MemPlace)}
  (hnc:elems.length<=cap) (hcm:cap<=maxLen)
  (ih:∀(cs:List Value) (d:DataW H) (ps:List MemPlace),DataW.trod enc P W 0 sp true m tB cs=some (d,ps)->∃b,RepB (heapW P W) b (cs.map (ab P W))/\2*szB b<=w d)
  (hel:∀i x,elems[i]?=some x->∃es,W.cells? 0 (a.add (i*P.cellsOf tB)) (P.cellsOf tB)=some es/\DataW.trod enc P W 0 sp true m tB es=some x) :
  ∃l a' cells,ab P W (.slice (some a) elems.length cap)=.slice (some a') l.length cap/\RepBL (heapW P W) l (some a') cap cells/\2*szB.szBL l<=((elems.map (·.1)).map w).sum:=by
 rw[Bt.cB] at hel;have hsp:0 < elems.length->a.spot=none:=fun hn=>by
  obtain⟨es,he,_⟩:=hel 0 elems[0] (Zc hn);exact z7a (by omega) he
 have key:∀i,∃t cells,(∀x,elems[i]?=some x->(heapW P W).load ⟨a.block,a.off+i*8,none⟩ 8=some cells/\RepB (heapW P W) t cells/\2*szB t<=w x.1):=fun i=>by
  by_cases hi:i < elems.length
  ·obtain⟨es,he,ht⟩:=hel i elems[i] (Zc hi);obtain⟨t,hr,hwt⟩:=ih es elems[i].1 elems[i].2 ht;exact⟨t,_,fun x hx=>by rw[Zc hi] at hx;cases hx;exact⟨(z40 (by omega) he (hsp (by omega))).1,hr,hwt⟩⟩
  ·exact⟨zeroB,[],fun x hx=>absurd (List.getElem?_eq_some_iff.1 hx).1 hi⟩
 obtain⟨T',hT'⟩:=Classical.axiomOfChoice key;obtain⟨C,hC⟩:=Classical.axiomOfChoice hT';have hlen:((Zi elems.length).map T').length=elems.length:=by simp
 have hsum:=zng (w:=w) elems T' fun i x hx=>(hC i x hx).2.2
 by_cases hn:0 < elems.length
 ·have hbl:a.block < W.heap.size:=by
   obtain⟨es,he,_⟩:=hel 0 elems[0] (Zc hn);exact(z40 (P:=P) (by omega) he (hsp hn)).2.2
  have hab:ab P W (.slice (some a) elems.length cap)=.slice (some a) ((Zi elems.length).map T').length cap:=by
   unfold ab;rw[hlen];simp only;rw[if_pos ⟨hnc,hcm⟩,if_pos ⟨hsp hn,hbl⟩]
  refine⟨(Zi elems.length).map T',a,C,hab,⟨by rw[hlen];exact hnc,hcm,fun h=>(by cases h),fun i ad hi ha=>?_,fun i t ht=>?_⟩,hsum⟩
  ·cases ha;rw[hlen] at hi;exact⟨hsp hn,(hC i _ (Zc hi)).1⟩
  ·rw[Zv,Option.map_eq_some_iff] at ht;obtain⟨j,hj,rfl⟩:=ht;have hi:i < elems.length:=by have:=(List.getElem?_eq_some_iff.1 hj).1;simpa using this
   rw[List.getElem?_range hi] at hj;cases hj;exact(hC i _ (Zc hi)).2.1
 ·have hn0:elems.length=0:=by omega
  obtain⟨a',hab⟩:∃a',ab P W (.slice (some a) elems.length cap)=.slice (some a') 0 cap:=by
   unfold ab;simp only;rw[if_pos ⟨hnc,hcm⟩,hn0];split
   ·exact⟨_,rfl⟩
   ·exact⟨_,rfl⟩
  exact⟨[],a',fun _=>[],hab,⟨Zo _,hcm,fun h=>(by cases h),fun i ad hi=>by simp at hi,fun i t h=>by simp at h⟩,by simp [szB.szBL]⟩
theorem zb1 {cs ts:List Value}{x y:Value}(hl:cs.length=8) (h0:(cs.drop 0).take 1=[x]) (h1:(cs.drop 1).take 6=ts) (h7:(cs.drop 7).take 1=[y]):cs=x :: (ts++[y]):=by
 match cs,hl with
 |[a,b,c,d,e,f,g,h],_ =>
  simp only[List.drop_zero,List.drop_succ_cons,List.take_succ_cons,List.take_zero] at h0 h1 h7;cases h0;cases h7;subst h1;rfl
theorem znh {cs hs bs:List Value}{y:Value}(hl:cs.length=15) (h0:(cs.drop 0).take 6=hs) (h1:(cs.drop 6).take 8=bs) (h7:(cs.drop 14).take 1=[y]):cs=hs++(bs++[y]):=by
 match cs,hl with
 |[a0,a1,a2,a3,a4,a5,a6,a7,a8,a9,aa,ab,ac,ad,ae],_ =>
  simp only[List.drop_zero,List.drop_succ_cons,List.take_succ_cons,List.take_zero] at h0 h1 h7;cases h7;subst h0;subst h1;rfl
theorem w3 {w:DataW H->Nat}(hw:Wt w) {xs:List (DataW H × List MemPlace)}{d0 d1 d2:DataW H}{p0 p1 p2:List MemPlace}(x0:xs[0]?=some (d0,p0)) (x1:xs[1]?=some (d1,p1)) (x2:xs[2]?=some (d2,p2)):1+w d0+w d1+w d2<=w (.agg (xs.map (·.1))):=by
 have h1:=hw.agg (xs.map (·.1))
 match xs,x0,x1,x2,h1 with
 |y0 :: y1 :: y2 :: r,x0,x1,x2,h1 =>
  cases x0;cases x1;cases x2;simp only[Zx,List.sum_cons] at h1 ⊢;omega
theorem zv3 {tS tG tU tB tBS tK tT tI:TypeId}(T:TermTypes P tT tS tI tG tU) (Bt:BodyTypesW P tB tBS tK tT tI) {w:DataW H->Nat}(hw:Wt w):∀(fuel:Nat) (cs:List Value) (d:DataW H) (ps:List MemPlace),DataW.trod enc P W 0 sp true fuel tB cs=some (d,ps)->∃b,RepB (heapW P W) b (cs.map (ab P W))/\2*szB b<=w d:=by
 intro fuel
 induction fuel using Nat.strongRecOn with
 |_ fuel ih =>
 intro cs d ps h;obtain⟨fs,hf,hfs⟩:=Bt.fields;obtain⟨m,xs,rfl,hl,rfl,hall⟩:=z1x hf h;rw[Bt.cB] at hl;have fld:=zep hfs hall;obtain⟨⟨d0,p0⟩,x0,t0⟩:=fld 0 0 tI rfl;obtain⟨⟨d1,p1⟩,x1,t1⟩:=fld 1 1 tT rfl;obtain⟨⟨d2,p2⟩,x2,t2⟩:=fld 2 7 tBS rfl;rw[T.cI] at t0;rw[T.cT] at t1;rw[Bt.cBS] at t2;obtain⟨k,h0,w0⟩:=z32 T.int t0;obtain⟨t,hr,hn⟩:=zv2 T hw _ _ _ _ t1;obtain⟨ta,tc,tcells,h6,-⟩:=hr.six;have hb:=w3 hw x0 x1 x2;have hp0:=hw.pos d0;have hnp:=zr7 t;rcases z7p Bt.slice t2 with h5|⟨a,c,m',elems,rest,rfl,h5,hnc,hcm,rfl,hel⟩
 ·have hc:=zb1 hl h0 rfl h5;rw[hc];refine⟨.mk k t [],?_,?_⟩
  ·rw[Zx,ZB,znd];exact .mk k t [] _ none 0 (fun _=>[]) (zb0 w0) hr (Zf _) (Zo _) (fun _=>⟨rfl,rfl⟩) (fun i ad hi=>by simp at hi) (fun i u hu=>by simp at hu)
  ·rw[z7o,show (Bdy.mk k t []).sub=[] from rfl,show (Bdy.mk k t []).term=t from rfl];simp only[szB.szBL];have:=hw.pos d2;omega
 ·have hc:=zb1 hl h0 rfl h5;rw[hc];obtain⟨l,a',C,hab,rl,hn2⟩:=zpi Bt hnc hcm (ih m' (by omega)) hel;refine⟨.mk k t l,?_,?_⟩
  ·rw[Zx,ZB,znd,Zx,List.map_nil,hab];exact .mk k t l _ (some a') c C (zb0 w0) hr rl.len hcm (fun h=>(by cases h)) rl.load rl.rep
  ·rw[z7o,show (Bdy.mk k t l).sub=l from rfl,show (Bdy.mk k t l).term=t from rfl];have:=hw.slice (elems.map (·.1)) rest;omega
theorem zv4 {tS tG tU tB tBS tK tT tI:TypeId}(T:TermTypes P tT tS tI tG tU) (Bt:BodyTypesW P tB tBS tK tT tI) {w:DataW H->Nat}(hw:Wt w) (fuel:Nat) (cs:List Value) (d:DataW H) (ps:List MemPlace) (h:DataW.trod enc P W 0 sp true fuel tK cs=some (d,ps)):∃c,RdC (heapW P W) c (cs.map (ab P W))/\7*nd c.head<=w d/\2*szB c.body<=w d:=by
 obtain⟨fs,hf,hfs⟩:=Bt.clausef;obtain⟨m,xs,rfl,hl,rfl,hall⟩:=z1x hf h;rw[Bt.cK] at hl;have fld:=zep hfs hall;obtain⟨⟨d0,p0⟩,x0,t0⟩:=fld 0 0 tT rfl;obtain⟨⟨d1,p1⟩,x1,t1⟩:=fld 1 6 tB rfl;obtain⟨⟨d2,p2⟩,x2,t2⟩:=fld 2 14 tI rfl;rw[T.cT] at t0;rw[Bt.cB] at t1;rw[T.cI] at t2;obtain⟨v,h2,w2⟩:=z32 T.int t2;obtain⟨t,hr,hn⟩:=zv2 T hw _ _ _ _ t0;obtain⟨b,hrb,hnb⟩:=zv3 T Bt hw _ _ _ _ t1;obtain⟨ta,tc,tcells,h6,-⟩:=hr.six;obtain⟨ua,uc,xa,xc,h8⟩:=hrb.eight;have hb:=w3 hw x0 x1 x2;have hc:=znh hl rfl rfl h2;refine⟨⟨t,b,v⟩,?_,by simp only;omega,by simp only;omega⟩;rw[hc,ZB,ZB,h6,h8];rw[h6] at hr;rw[h8] at hrb;exact⟨ta,tc,ua,uc,xa,xc,rfl,hr,hrb⟩
end
end Go.Proofs.hq
end

section
namespace Go.Hb
open Go Go.RowKit
theorem zcf:∀{l:List Nat}{a:Nat},a∈l->a<=l.sum
 |b :: l,a,h=>by
  rw[List.sum_cons];rcases List.mem_cons.1 h with rfl|h
  ·omega
  ·have:=zcf h;omega
section
variable {H:Type}{enc:TypeId × Value->H}{P:Program}{W:World}{sp:Nat->Bool}
theorem zeq {w:DataW H->Nat}(hpos:∀d,1<=w d):∀l:List (DataW H),l.length<=(l.map w).sum
 |[]=>Zf _
 |d :: l=>by
  have:=zeq hpos l;have:=hpos d;rw[Zx,List.sum_cons,ZJ];omega
theorem zjt {α:Type}{tS tE:TypeId}{K:Nat}{row:α->List Value}{G:α->Nat->Prop}(hG:∀x m n,m<=n->G x m->G x n) (hS:P.underlying tS=some (.slice tE)) (hc:P.cellsOf tE=K) (hK:0 < K) {w:DataW H->Nat}(hws:∀es rest,(es.map w).sum<=w (.slice es rest)) (hpos:∀d,1<=w d)
  (hE:∀fuel es d ps,DataW.trod enc P W 0 sp true fuel tE es=some (d,ps)->∃x:α,es.map (ab P W)=row x/\G x (w d)) (z:α)
  {v:Value}{fuel:Nat}{d:DataW H}{ps:List MemPlace}(h:DataW.trod enc P W 0 sp true fuel tS v.cells.toList=some (d,ps)) (hv:∀cs,v≠.agg cs) :
  ∃(L:List α) (a:Option Addr) (c:Nat),abV P W v=.slice a L.length c/\L.length<=c/\c<=maxLen/\(∀(i:Nat) (hi:i < L.length),∃b o,a=some ⟨b,o,none⟩/\(heapW P W).load ⟨b,o+i*K,none⟩ K=some (row L[i]))/\L.length<=w d/\∀x∈L,G x (w d):=by
 have hcv:v.cells.toList=[v]:=by
  unfold Value.cells;split
  ·rename_i cs;exact absurd rfl (hv cs)
  ·rfl
 rw[hcv] at h;have hab:abV P W v=ab P W v:=by
  unfold abV;split
  ·rename_i cs;exact absurd rfl (hv _)
  ·rfl
 rw[hab];rcases DataW.trod_slice hS h with ⟨h1,-⟩|⟨a,len,cap,elems,rest,n,rfl,he,hx,-,hl,hm,rfl,hel,-⟩
 ·cases h1;exact⟨[],none,0,rfl,Zf _,Zo _,fun i hi=>by simp at hi,Zo _,fun p hp=>by simp at hp⟩
 ·cases he;cases hx;rw[hc] at hel;have hl':elems.length<=cap:=hl;have hget:∀i x,elems[i]?=some x->∃es,W.cells? 0 (a.add (i*K)) K=some es/\DataW.trod enc P W 0 sp true n tE es=some x:=fun i x hx=>by
   have hi:=(List.getElem?_eq_some_iff.1 hx).1;have:=hel i hi;rw[hx,Option.bind_eq_some_iff] at this;exact this
  have key:∀i,∃s:α,i < elems.length->a.spot=none->(heapW P W).load ⟨a.block,a.off+i*K,none⟩ K=some (row s)/\G s (w (.slice (elems.map (·.1)) (rest.map (·.1)))):=fun i=>by
   by_cases hi:i < elems.length
   ·obtain⟨es,h1,h2⟩:=hget i elems[i] (Zc hi);obtain⟨s,h0,h3⟩:=hE _ _ elems[i].1 elems[i].2 h2;refine⟨s,fun _ hsp=>⟨?_,?_⟩⟩
    ·have:=(z40 (P:=P) hK h1 hsp).1;rw[h0] at this;exact this
    ·have h4:=hws (elems.map (·.1)) (rest.map (·.1));have h5:w elems[i].1<=((elems.map (·.1)).map w).sum:=zcf (List.mem_map.2 ⟨elems[i].1,List.mem_map.2 ⟨elems[i],Zz hi,rfl⟩,rfl⟩);exact hG _ _ _ (by omega) h3
   ·exact⟨z,fun h=>absurd h hi⟩
  obtain⟨f,hf⟩:=Classical.axiomOfChoice key;have hlen:((Zi elems.length).map f).length=elems.length:=by simp
  by_cases hn:0 < elems.length
  ·obtain⟨es0,h1,-⟩:=hget 0 elems[0] (Zc hn);have hsp:a.spot=none:=z7a hK h1;have hbl:a.block < W.heap.size:=(z40 (P:=P) hK h1 hsp).2.2;have hab2:ab P W (.slice (some a) elems.length cap)=.slice (some a) ((Zi elems.length).map f).length cap:=by
    unfold ab;rw[hlen];simp only;rw[if_pos ⟨hl',hm⟩,if_pos ⟨hsp,hbl⟩]
   refine⟨(Zi elems.length).map f,some a,cap,hab2,by rw[hlen];exact hl',hm,fun i hi=>⟨a.block,a.off,?_,?_⟩,by rw[hlen];exact Zk (by simpa using zeq hpos (elems.map (·.1))) (hws _ _),fun p hp=>?_⟩
   ·obtain⟨b,o,sp⟩:=a;obtain rfl:sp=none:=hsp;rfl
   ·rw[hlen] at hi;rw[(hf i hi hsp).1];simp
   ·obtain⟨i,hi,rfl⟩:=List.mem_map.1 hp;exact(hf i (List.mem_range.1 hi) hsp).2
  ·have hn0:elems.length=0:=by omega
   obtain⟨a',hab2⟩:∃a',ab P W (.slice (some a) elems.length cap)=.slice (some a') 0 cap:=by
    rw[hn0] at hl' ⊢;unfold ab;simp only;rw[if_pos ⟨hl',hm⟩];split
    ·exact⟨_,rfl⟩
    ·exact⟨_,rfl⟩
   exact⟨[],some a',cap,hab2,Zo _,hm,fun i hi=>by simp at hi,Zo _,fun p hp=>by simp at hp⟩
end
end Go.Hb
namespace Go.Proofs.hq
open Go Go.RowKit Go.Hb
section
variable {H:Type}{enc:TypeId × Value->H}{P:Program}{W:World}{sp:Nat->Bool}
theorem zfy {fuel:Nat}{t:TypeId}{cs:List Value}{d:DataW H}{ps:List MemPlace}(ht:P.underlying t=some .bool) (h:DataW.trod enc P W 0 sp true fuel t cs=some (d,ps)):∃b:Bool,cs=[.bool b]:=by
 cases fuel with
 |zero=>simp [DataW.trod] at h
 |succ m =>
  unfold DataW.trod at h;rw[ht] at h;split at h<;>simp_all
structure OpRow (H:Heap) (x:List Value × OpS) (m:Nat):Prop where
 kd:(x.1.drop 1).take 1=[.int .i64 x.2.kind]
 nn:(x.1.drop 2).take 1=[.int .i64 x.2.n]
 ky:(x.1.drop 5).take 2=[.string x.2.key.1,.int .i64 x.2.key.2]
 cl:RdC H x.2.c ((x.1.drop 8).take 15)
 la:(x.1.drop 23).take 1=[.bool x.2.last]
 few:2*szB x.2.c.body<=m
 sz:x.2.key.1.size<=maxLen
theorem zpj {w:DataW H->Nat}{xs:List (DataW H × List MemPlace)}{i:Nat}{x:DataW H × List MemPlace}(h:xs[i]?=some x):w x.1<=((xs.map (·.1)).map w).sum:=zcf (List.mem_map.2 ⟨x.1,List.mem_map.2 ⟨x,Zr h,rfl⟩,rfl⟩)
theorem z6t {f:Value->Value}{cs:List Value}{o n:Nat}{l:List Value}(h:(cs.drop o).take n=l):((cs.map f).drop o).take n=l.map f:=by
 rw[<-h,List.map_take,List.map_drop]
theorem zni {tS tE tG tI tKy tKs tB tT tTS tU tBo tBoS tK:TypeId}{fs gs:Array Field}(T:TermTypes P tT tTS tI tG tU) (Bt:BodyTypesW P tBo tBoS tK tT tI) (hS:P.underlying tS=some (.slice tE)) (hf:P.underlying tE=some (.struct fs))
  (hfs:(fs.toList.map fun f=>(f.offset,f.type))=[(0,tI),(1,tI),(2,tI),(3,tG),(4,tG),(5,tKy),(7,tKs),(8,tK),(23,tB),(24,tB),(25,tT)])
  (hk:P.underlying tKy=some (.struct gs)) (hgs:(gs.toList.map fun f=>(f.offset,f.type))=[(0,tG),(1,tI)]) (hc:P.cellsOf tE=31) (hcK:P.cellsOf tKy=2) (hcG:P.cellsOf tG=1) (hb:P.underlying tB=some .bool) (hcb:P.cellsOf tB=1)
  {w:DataW H->Nat}(hw:Wt w) {v:Value}{fuel:Nat}{d:DataW H}{ps:List MemPlace}(h:DataW.trod enc P W 0 sp true fuel tS v.cells.toList=some (d,ps)) (hv:∀cs,v≠.agg cs) :
  ∃L a c,abV P W v=.slice a L.length c/\RdO (heapW P W) L a c/\L.length<=w d/\∀x∈L,2*szB x.c.body<=w d/\x.key.1.size<=maxLen:=by
 obtain⟨L,a,c,h1,h2,h3,h4,h5,h6⟩:=zjt (α:=List Value × OpS) (row:=fun x=>x.1) (G:=OpRow (heapW P W)) (fun x m n hmn g=>{ g with few:=Zk g.few hmn }) hS hc (by omega) (fun es rest=>by have:=hw.slice es rest;omega) hw.pos (fun fuel es d ps ht=>by
  obtain⟨m,xs,rfl,hl,rfl,hall⟩:=z1x hf ht;rw[hc] at hl;have fld:=zep hfs hall;obtain⟨⟨d1,p1⟩,x1,t1⟩:=fld 1 1 tI rfl;obtain⟨⟨d2,p2⟩,x2,t2⟩:=fld 2 2 tI rfl;obtain⟨⟨d5,p5⟩,x5,t5⟩:=fld 5 5 tKy rfl;obtain⟨⟨d7,p7⟩,x7,t7⟩:=fld 7 8 tK rfl;obtain⟨⟨d8,p8⟩,x8,t8⟩:=fld 8 23 tB rfl;rw[T.cI] at t1 t2;rw[hcK] at t5;rw[Bt.cK] at t7;rw[hcb] at t8;obtain⟨kd,e1,-⟩:=z32 T.int t1;obtain⟨nn,e2,-⟩:=z32 T.int t2;obtain⟨la,e8⟩:=zfy hb t8;obtain⟨cl,rc,-,n2⟩:=zv4 T Bt hw _ _ _ _ t7;obtain⟨m',ys,rfl,hl5,rfl,hall5⟩:=z1x hk t5;have fld5:=zep hgs hall5;obtain⟨⟨q0,r0⟩,y0,s0⟩:=fld5 0 0 tG rfl;obtain⟨⟨q1,r1⟩,y1,s1⟩:=fld5 1 1 tI rfl;rw[hcG] at s0;rw[T.cI] at s1;obtain⟨nm,f0,hnm⟩:=z4f T.str s0;obtain⟨ar,f1,-⟩:=z32 T.int s1;have hky:(es.drop 5).take 2=[.string nm,.int .i64 ar]:=by
   generalize (es.drop 5).take 2=ks at hl5 f0 f1;rw[hcK] at hl5
   match ks,hl5 with
   |[u0,u1],_ =>
    simp only[List.drop_zero,List.drop_succ_cons,List.take_succ_cons,List.take_zero] at f0 f1;cases f0;cases f1;rfl
  have b1:=hw.agg (xs.map (·.1));have b7:=zpj (w:=w) x7;simp only at b7;refine⟨(es.map (ab P W),⟨kd,nn,(nm,ar),cl,la⟩),rfl,⟨z6t e1,z6t e2,z6t hky,?_,z6t e8,by simp only;omega,hnm⟩⟩;simp only;rw[z6t rfl];exact rc) ([],⟨0,0,(Zd,0),⟨zeroT,zeroB,0⟩,false⟩) h hv
 refine⟨L.map (·.2),a,c,by rw[Zt];exact h1,⟨by rw[Zt];exact h2,h3,fun i hi=>?_⟩,by rw[Zt];exact h5,fun x hx=>?_⟩
 ·rw[Zt] at hi;obtain⟨b,o,ha,hld⟩:=h4 i hi;have g:=h6 _ (Zz hi);simp only[List.getElem_map];refine⟨b,o,(L[i].1.drop 8).take 15,ha,?_,?_,?_,z6s hld (by omega),g.cl,?_⟩
  ·rw[<-g.kd];exact z6s hld (by omega)
  ·rw[<-g.nn];exact z6s hld (by omega)
  ·rw[<-g.ky];exact z6s hld (by omega)
  ·rw[<-g.la];exact z6s hld (by omega)
 ·obtain⟨y,hy,rfl⟩:=List.mem_map.1 hx;have g:=h6 y hy;exact⟨g.few,g.sz⟩
theorem zt8 {tT tTS tU tG tI tKy:TypeId}{gs:Array Field}(T:TermTypes P tT tTS tI tG tU) (hk:P.underlying tKy=some (.struct gs)) (hgs:(gs.toList.map fun f=>(f.offset,f.type))=[(0,tG),(1,tI)]) (hcK:P.cellsOf tKy=2) {fuel:Nat}{cs:List Value}{d:DataW H}{ps:List MemPlace}
  (h:DataW.trod enc P W 0 sp true fuel tKy cs=some (d,ps)):∃nm ar,cs=[.string nm,.int .i64 ar]/\nm.size<=maxLen:=by
 obtain⟨m',ys,rfl,hl5,rfl,hall5⟩:=z1x hk h;have fld5:=zep hgs hall5;obtain⟨⟨q0,r0⟩,y0,s0⟩:=fld5 0 0 tG rfl;obtain⟨⟨q1,r1⟩,y1,s1⟩:=fld5 1 1 tI rfl;rw[T.cG] at s0;rw[T.cI] at s1;obtain⟨nm,f0,hnm⟩:=z4f T.str s0;obtain⟨ar,f1,-⟩:=z32 T.int s1;rw[hcK] at hl5
 match cs,hl5 with
 |[u0,u1],_ =>
  simp only[List.drop_zero,List.drop_succ_cons,List.take_succ_cons,List.take_zero] at f0 f1;cases f0;cases f1;exact⟨nm,ar,rfl,hnm⟩
end
end Go.Proofs.hq
end
