import Derived.Test.YtbooidfibigfcaaDoorM3
import Derived.Test.YtbooidfibigfcaaDoorM4
/- Lemmas on the program's own code, towards the laws of this folder, part 5. Conditions: as each lemma says. -/
open Bool renaming false_eq_true -> Ze
open ByteArray renaming empty -> Zd
open Int renaming reduceToNat -> ZO
open List renaming drop_eq_getElem_cons -> ZI, getElem?_append_left -> ZC, getElem?_eq_getElem -> Zc, getElem_mem -> Zz, length_append -> Zy, length_map -> Zt, length_take -> Zp, map_append -> ZB, map_cons -> Zx, mem_cons_of_mem -> Zm, take_of_length_le -> Zl
open Nat renaming beq_eq -> Zs, le_refl -> Zf, le_trans -> Zk, lt_of_lt_of_le -> Zh, lt_succ_self -> Zg, reduceAdd -> Zb, reduceEqDiff -> Za, reduceLeDiff -> Zn, zero_add -> ZF, zero_le -> Zo, zero_mul -> ZL
section
namespace Go.Proofs.hq
open Go Go.RowKit Go.Hb
variable {ok:Ok}
set_option maxRecDepth 10000
attribute [local irreducible] LX LG EL STG SOP SGO SGD SAL SRD SEF SEG SLK SCK ES
theorem zmf:∀(l:List Tm),(∀t∈l,∀n,n+nd t<=4000->cnt t n=n+nd t)->∀n,n+nd.ndL l<=4000->cntL l n=n+nd.ndL l
 |[],_,n,_=>by rw[cntL,nd.ndL];rfl
 |t :: l,h,n,hn=>by
  rw[nd.ndL] at hn ⊢;rw[cntL,if_neg (by omega),h t (by simp) n (by omega),zmf l (fun u hu=>h u (Zm _ hu)) _ (by omega)];omega
theorem z3z:∀(m:Nat) (t:Tm),SizeOf.sizeOf t < m->∀n,n+nd t<=4000->cnt t n=n+nd t
 |0,_,h,_,_=>by omega
 |m+1,t,h,n,hn=>by
  rw[z1m] at hn ⊢;rw[z56,zmf _ (fun u hu k=>z3z m u (by have:=z0g hu;omega) k) _ (by omega)];omega
theorem zmg:∀{l:List Tm}{u:Tm},u∈l->nd u<=nd.ndL l
 |t :: l,u,h=>by
  rw[nd.ndL];rcases List.mem_cons.1 h with rfl|h
  ·omega
  ·have:=zmg h;omega
theorem z18 {t u:Tm}(h:checkS t=0) (hu:u∈t.args):checkS u=0:=by
 have h1:=z0h.1 h;have h2:=zaj _ t (Zg _) 0 h1.1;have h3:=zmg hu;have h4:=z1m t;have h5:=z3z _ u (Zg _) 0 (by omega);exact z0h.2 ⟨by omega,h1.2.args u hu⟩
theorem zc1 {H:Heap}{b o n:Nat}{l:List Value}(hw:H.wf) (h:H.load ⟨b,o,none⟩ n=some l):b < H.next:=by
 unfold Heap.load Heap.cells at h;simp only at h;cases hg:H.get b with
 |none=>rw[hg] at h;cases h
 |some B=>exact hw b B hg
theorem neu (n:Nat):(n=n+1)=False:=by simp
theorem neu' (n:Nat):(n+1=n)=False:=by simp
theorem zqt:mkiOk Tryd.prog 196=true:=by kernel_rfl
set_option maxHeartbeats 8000000 in
theorem zje {m:Nat}(hb:BodyP m) {t:Tm}{cs:List Value}{H:Heap}(hs:SizeOf.sizeOf t < m+1) (r:RepT H t cs) (h2:t.args.length=2) (hc:checkS t=0) (hw:H.wf) :
  EvG Tryd.prog okT 116 [.agg ⟨cs⟩] H (BodyEnd H (withinF (bodyF m) t)):=by
 have r0:=r;obtain⟨a,c,cells,rfl,-,-,-,-,-,rl⟩:=r.six;obtain⟨x,y,hxy⟩:∃x y,t.args=[x,y]:=by
  match hl:t.args,h2 with
  |[x,y],_=>exact⟨x,y,rfl⟩
 have ex:t.at 0=x:=by unfold Tm.at;rw[hxy];rfl
 have ey:t.at 1=y:=by unfold Tm.at;rw[hxy];rfl
 have g0:t.args[0]'(by omega)=x:=by simp [hxy]
 have g1:t.args[1]'(by omega)=y:=by simp [hxy]
 obtain⟨b,o,a1,c1,rfl,hld0,hr0⟩:=rl.el (i:=0) (by omega);obtain⟨b',o',a2,c2,e2,hld1,hr1⟩:=rl.el (i:=1) (by omega);cases e2;rw[g0] at hld0 hr0;rw[g1] at hld1 hr1;simp only[ZL,Nat.add_zero,Nat.one_mul] at hld0 hld1;have hcx:=z18 hc (u:=x) (by rw[hxy];simp);have hcy:=z18 hc (u:=y) (by rw[hxy];simp);have hsy:SizeOf.sizeOf y < SizeOf.sizeOf t:=z0g (by rw[hxy];simp);refine EvG.enter rfl Tryd.func116 (by decide) rfl ?_;(repeat refine qZa ?_);refine qZb ?_;simp (config:=qZc) (disch:=first|omega|rfl) only[sB,initTm,dBox,dAlloc,Value.cells,one,zr53];obtain⟨H2,e2,hx2,gt,gq,hn2,hw2⟩:=new2 hw (.row (six t (some ⟨b,o,none⟩) c) 26) (.row zero8 53);simp only[e2];clear e2;have qt:=row6 gt;have l0:=hx2.load hw hld0;have l1:=hx2.load hw hld1;have hbl:=zc1 hw2 l0;have b8:(b=H2.next+8)=False:=by simp;omega
 have b9:(b=H2.next+9)=False:=by simp;omega
 have h8:(H.next=H2.next+8)=False:=by simp;omega
 have h9:(H.next=H2.next+9)=False:=by simp;omega
 (repeat refine qZa ?_);refine EvC.meet (fun st=>∃tm G,st=⟨tm,[],G⟩/\tm.get 1=some (.pointer (some ⟨H.next,0,none⟩))/\tm.get 2=some (.pointer (some ⟨H.next+1,0,none⟩))/\tm.get 3=some (.pointer (some ⟨H2.next+8,0,none⟩))/\tm.get 4=some (.pointer (some ⟨H2.next+9,0,none⟩)) /\
  G.get (H2.next+8)=some (.row (six x a1 c1) 26)/\G.get (H2.next+9)=some (.row (six y a2 c2) 26)/\HX H2 G) ?_ ?_
 ·refine qZj [([(0,0),(1,0),(2,0),(3,0),(8,0),(9,0)],some 10),([(4,0),(5,0),(6,0),(7,0)],some 11),([],none)] (by kernel_rfl) ?_;simp (config:=qZc) (disch:=first|omega|rfl) only[sV,sD,sB,dAlloc,Za,Zb,one,reduceCtorEq,cutC,ZO,z10,ld22,ld26,zr26,st26,isAlloc,isRead,dalloc,qt,l0,l1,iz22,ZL,Nat.one_mul,neu,neu',b8,b9,h8,h9];have hxb:=(HX.refl hw2).bump 12;refine⟨_,_,rfl,(by simp only[sG,Za,reduceCtorEq]),(by simp only[sG,Za,reduceCtorEq]),(by simp only[sG,Za,reduceCtorEq]),(by simp only[sG,Za,reduceCtorEq]),by rw[get_put,if_neg (by omega),get_put,if_pos rfl],by rw[get_put,if_pos rfl],
   (((hxb.put (i:=H2.next+8) (by omega) (by show _ < H2.next+12;omega) _).put (i:=H2.next+9) (by omega) (by show _ < H2.next+12;omega) _).put (i:=H2.next+8) (by omega) (by show _ < H2.next+12;omega) _).put (i:=H2.next+9) (by omega) (by show _ < H2.next+12;omega) _⟩
 rintro st ⟨tm,G,rfl,t1,t2,t3,t4,gx,gy,hx3⟩;have qx:=row6 gx;have qy:=row6 gy;have gt3:=hx3.get hw2 gt;have gq3:=hx3.get hw2 gq;have n3:=hx3.next;have hxG:=hx2.trans hx3;have hwG:=hxG.wf;have lx:=hwG _ _ gx;have lyy:=hwG _ _ gy;have qt3:=row6 gt3;simp only[z00];(repeat refine qZa ?_);refine EvC.join (fun st=>∃tm',st=⟨tm',[],G⟩/\tm'.get 1=some (.pointer (some ⟨H.next,0,none⟩))/\tm'.get 2=some (.pointer (some ⟨H.next+1,0,none⟩))/\tm'.get 3=some (.pointer (some ⟨H2.next+8,0,none⟩))/\tm'.get 4=some (.pointer (some ⟨H2.next+9,0,none⟩)) /\
  ¬(isNum (t.at 1)\/((t.at 0).kind≠2/\(t.at 0).kind≠1))/\¬((t.at 0).kind=1\/(t.at 1).kind=1)) ?_ ?_
 ·rw[ex,ey];refine qZg ?_;obtain⟨bb,hbb⟩:∃bb:Bool,(bb=true↔(isNum y\/(x.kind≠2/\x.kind≠1))):=⟨decide (isNum y\/(x.kind≠2/\x.kind≠1)),decide_eq_true_iff⟩
  (repeat refine qZa ?_);refine EvC.meet (fun st=>∃tm',st=⟨tm',[],G⟩/\tm'.get 1=some (.pointer (some ⟨H.next,0,none⟩))/\tm'.get 2=some (.pointer (some ⟨H.next+1,0,none⟩))/\tm'.get 3=some (.pointer (some ⟨H2.next+8,0,none⟩))/\tm'.get 4=some (.pointer (some ⟨H2.next+9,0,none⟩))/\tm'.get 14=some (.bool bb)) ?_ ?_
  ·by_cases y3:y.kind=3
   ·have hb':bb=true:=hbb.2 (.inl (.inl y3));refine qZb ?_;simp (config:=qZc) (disch:=first|omega|rfl) only[sB,Za,z0o,ld3,t4,qy,z0y y3];exact⟨_,rfl,(by simp only[sG,Za,t1]),(by simp only[sG,Za,t2]),(by simp only[sG,Za,t3]),(by simp only[sG,Za,t4]),by rw[hb'];first|(simp only[sG,Za];rfl)|simp only[sG,Za]⟩
   by_cases y4:y.kind=4
   ·have hb':bb=true:=hbb.2 (.inl (.inr y4));refine qZb ?_;simp (config:=qZc) (disch:=first|omega|rfl) only[sB,Za,z0o,ld3,t4,qy,z0t y3,z0y y4,Ze];exact⟨_,rfl,(by simp only[sG,Za,t1]),(by simp only[sG,Za,t2]),(by simp only[sG,Za,t3]),(by simp only[sG,Za,t4]),by rw[hb'];first|(simp only[sG,Za];rfl)|simp only[sG,Za]⟩
   have hn:¬isNum y:=fun h=>by rcases h with h|h;exact y3 h;exact y4 h
   by_cases x2:x.kind=2
   ·have hb':bb=false:=by
     cases hq:bb with
     |false=>rfl
     |true=>rcases hbb.1 hq with h|h;exact absurd h hn;exact absurd x2 h.1
    refine qZb ?_;simp (config:=qZc) (disch:=first|omega|rfl) only[sB,Za,z0o,ld3,t3,t4,qx,qy,z0t y3,z0t y4,z0x x2,Ze];exact⟨_,rfl,(by simp only[sG,Za,t1]),(by simp only[sG,Za,t2]),(by simp only[sG,Za,t3]),(by simp only[sG,Za,t4]),by rw[hb'];first|(simp only[sG,Za];rfl)|simp only[sG,Za]⟩
   by_cases x1:x.kind=1
   ·have hb':bb=false:=by
     cases hq:bb with
     |false=>rfl
     |true=>rcases hbb.1 hq with h|h;exact absurd h hn;exact absurd x1 h.2
    refine qZb ?_;simp (config:=qZc) (disch:=first|omega|rfl) only[sB,Za,z0o,ld3,t3,t4,qx,qy,z0t y3,z0t y4,z1y x2,z0x x1,Ze];exact⟨_,rfl,(by simp only[sG,Za,t1]),(by simp only[sG,Za,t2]),(by simp only[sG,Za,t3]),(by simp only[sG,Za,t4]),by rw[hb'];first|(simp only[sG,Za];rfl)|simp only[sG,Za]⟩
   ·have hb':bb=true:=hbb.2 (.inr ⟨x2,x1⟩);refine qZb ?_;simp (config:=qZc) (disch:=first|omega|rfl) only[sB,Za,z0o,ld3,t3,t4,qx,qy,z0t y3,z0t y4,z1y x2,z1y x1,Ze];exact⟨_,rfl,(by simp only[sG,Za,t1]),(by simp only[sG,Za,t2]),(by simp only[sG,Za,t3]),(by simp only[sG,Za,t4]),by rw[hb'];first|(simp only[sG,Za];rfl)|simp only[sG,Za]⟩
  rintro st ⟨tm,rfl,t1,t2,t3,t4,t14⟩;simp only[z00];cases bb with
  |true =>
   have hw':withinF (bodyF m) t=none:=by unfold withinF;rw[ex,ey,if_pos (hbb.1 rfl)]
   refine qZd (by simp only[sA,t14]) ?_;refine EvC.regP 2 _ rfl rfl ?_;simp (config:=qZc) (disch:=first|omega|rfl) only[sB,Za,Value.cells,layC,ztv,zhn,z1e,z9b zqt,zdy,zam];refine And.intro rfl ⟨hxG,?_⟩;rw[hw'];rfl
  |false =>
   have hnb:¬(isNum y\/(x.kind≠2/\x.kind≠1)):=fun h=>by have:=hbb.2 h;cases this
   refine qZm (by simp only[sA,t14]) ?_;by_cases hcl:x.kind=1\/y.kind=1
   ·have hw':withinF (bodyF m) t=some (callB t):=by unfold withinF;rw[ex,ey,if_neg hnb,if_pos hcl]
    (repeat refine qZa ?_);refine EvC.meet (fun st=>∃tm',st=⟨tm',[],G⟩/\tm'.get 1=some (.pointer (some ⟨H.next,0,none⟩))/\tm'.get 2=some (.pointer (some ⟨H.next+1,0,none⟩))/\tm'.get 35=some (.bool true)) ?_ ?_
    ·by_cases x1:x.kind=1
     ·refine qZb ?_;simp (config:=qZc) (disch:=first|omega|rfl) only[sB,Za,z0o,ld3,t3,qx,z0y x1];exact⟨_,rfl,(by simp only[sG,Za,t1]),(by simp only[sG,Za,t2]),by first|(simp only[sG,Za];rfl)|simp only[sG,Za]⟩
     ·have y1:=hcl.resolve_left x1;refine qZb ?_;simp (config:=qZc) (disch:=first|omega|rfl) only[sB,Za,z0o,ld3,t3,t4,qx,qy,z0t x1,z0y y1,Ze];exact⟨_,rfl,(by simp only[sG,Za,t1]),(by simp only[sG,Za,t2]),by first|(simp only[sG,Za];rfl)|simp only[sG,Za]⟩
    rintro st ⟨tm,rfl,t1,t2,t35⟩;simp only[z00];refine qZd (by simp only[sA,t35]) ?_;(repeat refine qZa ?_);refine qZb ?_;simp (config:=qZc) (disch:=first|omega|rfl) only[sB,Za,ld26,ztw,t1,qt3];refine(ze1 (r0.mono hxG hw) hc hwG).mono ?_;rintro v H5 ⟨hx5,out,rfl,hob⟩;obtain⟨ta,tc,sa,sc,rfl⟩:=hob.rep.eight;have gq5:=hx5.get hwG gq3;have n5:=hx5.next;have nG:=hxG.next
    repeat' (first|(refine qZf ?_;try simp only[z06,z01])|(refine z0n ?_;simp (config:=qZc) (disch:=first|omega|rfl) only[sB,Zb,one,st53,t2,gq5]))
    refine z17 (z0b rfl (by simp only[sB,Za,t2];rfl) (by simp only[sB,Zb,cutC,ld53];rfl) ⟨(hxG.trans hx5).pt (by omega) gq5 _,?_⟩);rw[hw'];exact⟨_,rfl,hob.to (fun n hn hl=>⟨by have:=hn.1;rw[get_put,if_neg (by omega)],by rw[z07];exact hl⟩) fun n hn=>⟨by have:=hn.1;omega,by rw[z07];exact hn.2⟩⟩
   have x1:¬x.kind=1:=fun h=>hcl (.inl h)
   have y1:¬y.kind=1:=fun h=>hcl (.inr h)
   repeat' (first|refine qZa ?_|(refine qZe ?_;try simp only[sA])|(refine qZb ?_;simp (config:=qZc) (disch:=first|omega|rfl) only[sB,Za,z0o,ld3,t3,t4,qx,qy,z0t x1,z0t y1,Ze])|(refine qZm ?_ ?_;simp (config:=qZc) (disch:=first|omega|rfl) only[sB,Za];refine z05 ?_))
   exact⟨_,rfl,(by simp only[sG,Za,t1]),(by simp only[sG,Za,t2]),(by simp only[sG,Za,t3]),(by simp only[sG,Za,t4]),hnb,fun h=>by rcases h with h|h;exact x1 h;exact y1 h⟩
 rw[ex,ey];rintro st ⟨tm,rfl,t1,t2,t3,t4,hnb,hnc⟩;have hwi:withinF (bodyF m) t=(bodyF m y).map fun b=>.mk 7 x [b]:=by unfold withinF;rw[ex,ey,if_neg hnb,if_neg hnc]
 rw[hwi];have hx2k:x.kind=2:=by
  by_cases h:x.kind=2
  ·exact h
  ·exact absurd (.inr ⟨h,fun h'=>hnc (.inl h')⟩) hnb
 have hxa:x.args=[]:=by
  have k:=z2f (z0h.1 hcx).2.node;exact(z29 k.2.2.1).2.2.2.2 (by omega)
 obtain⟨H4,e4,hx4,g4,hn4,hw4⟩:=new1 hwG (.row (six y a2 c2) 26);have hyG:=(hr1.mono hxG hw).mono hx4 hwG;have rly:RepL H4 [y] (some ⟨G.next,0,none⟩) 1 (fun _=>six y a2 c2):=RepL.of_row g4 (fun i hi=>by
   match i,hi with
   |0,_=>rfl) (fun i u hu=>by
   match i,hu with
   |0,hu=>cases hu;exact hyG) (Zf _) (by decide)
 have hsub:=z9e hb (k:=7) (by decide) rly (by show 1<=64;decide) (fun u hu=>by
  rw[List.mem_singleton] at hu;subst hu;exact⟨by omega,hcy⟩) hw4
 have es:subBF (bodyF m) 7 [y]=(bodyF m y).map fun b=>.mk 7 zeroT [b]:=by
  unfold subBF;rw[subBL];cases bodyF m y<;>rfl
 cases hby:bodyF m y with
 |none =>
  rw[es,hby] at hsub;(repeat refine qZa ?_);refine EvC.regP 2 _ rfl rfl ?_;simp (config:=qZc) (disch:=first|omega|rfl) only[sB,Za,Zb,Value.cells,one,layC,ld26,zde,z9w,z74,t4,qy];simp only[e4];refine EvG.toP hsub ?_;rintro e H5 ⟨hx5,he⟩;exact⟨_,he,And.intro rfl ⟨(hxG.trans hx4).trans hx5,rfl⟩⟩
 |some bd =>
  rw[es,hby] at hsub;(repeat refine qZa ?_);refine qZb ?_;simp (config:=qZc) (disch:=first|omega|rfl) only[sB,dAlloc,Za,Zb,Value.cells,one,layC,zr53,ld26,zde,z9w,t4,qy];simp only[e4];refine EvG.toF hsub ?_;rintro e H5 ⟨hx5,out,he,hob⟩;obtain⟨ts,sa,sc,rfl,hts,hobl⟩:=hob.parts;obtain⟨a5,c5,cells5,rfl,-⟩:=hts.six;have he:e=.ret (.agg ⟨eightT 7 zeroT a5 c5 sa 1 sc⟩):=he;refine⟨_,he,?_⟩;(try simp (config:=qZc) (disch:=first|omega|rfl) only[sB,Zb,one,st53]);obtain⟨H6,e6,hx6,g6,hn6,hw6⟩:=z0r hx5.wf (.row zero8 53) (.row (eightT 7 zeroT a5 c5 sa 1 sc) 53);simp only[e6];clear e6;have q6:=row8 g6;have n5:=hx5.next;have hx46:=hx5.trans hx6;have gx6:=hx46.get hw4 (hx4.get hwG gx);have qx6:=row6 gx6;have gq6:=hx46.get hw4 (hx4.get hwG gq3);have nG:=hxG.next;have ne5:(H.next+1=H5.next)=False:=by simp;omega
  repeat' (first|refine qZa ?_|(refine qZf ?_)|(refine qZb ?_;simp (config:=qZc) (disch:=first|omega|rfl) only[sB,Za,Zb,one,cutC,Zn,ld26,st26,st53,z8u,ld53,t2,t3,qx6,q6,g6,gq6,ne5]))
  have hxf:=((hxG.trans hx4).trans hx46)
  refine z17 (z0b rfl (by simp only[sB,Za,t2];rfl) (by simp only[sB,Zb,cutC,ld53];rfl) ⟨(hxf.pt (i:=H5.next) (by omega) g6 _).pt (by omega) (by rw[get_put,if_neg (by omega)];exact gq6) _,?_⟩);obtain⟨ax,cx,cellsx,ee,-,-,-,-,-,rlx⟩:=hr0.six;obtain⟨-,-,-,-,-,rfl,rfl⟩:=zbu ee;refine⟨_,rfl,OBL.mk (k:=7) (t:=x) (ts:=six x a1 c1) (hobl.to (fun n hn hl=>?_) fun n hn=>?_) (by decide) (RepS.leaf hr0.bd hxa rlx.cap fun h=>(rlx.nil h).2) hxa⟩
  ·have:H4.next<=n:=hn.1;rw[get_put,if_neg (by omega),get_put,if_neg (by omega)];exact⟨hx6.keep n hl,by rw[z07,z07];omega⟩
  ·have:H4.next<=n:=hn.1;exact⟨by omega,by rw[z07,z07];have:=hn.2;omega⟩
theorem ldA5 {H:Heap}{b o:Nat}{x0 x1 x2 x3 x4 x5:Value}(h:H.load ⟨b,o,none⟩ 6=some [x0,x1,x2,x3,x4,x5]):H.load ⟨b,o+5,none⟩ 1=some [x5]:=by
 unfold Heap.load at h ⊢;simp only at h ⊢;cases hc:H.cells b with
 |none=>rw[hc] at h;cases h
 |some cs =>
  rw[hc] at h;simp only at h ⊢;split at h
  ·rename_i hb;simp only[Option.some.injEq] at h;have e:(cs.drop (o+5)).take 1=[x5]:=by
    have:((cs.drop o).take 6).drop 5=[x5]:=by rw[h];rfl
    rw[List.drop_take,List.drop_drop] at this;exact this
   rw[e];rfl
  ·cases h
theorem zmh {m:Nat}{t:Tm}(h:isNum t):bodyF (m+1) t=none:=by rw[bodyF,if_pos h]
set_option maxHeartbeats 16000000 in
theorem zmi {m:Nat}(hb:BodyP m) {t:Tm}{cs:List Value}{H:Heap}(hs:SizeOf.sizeOf t < m+1) (r:RepT H t cs) (hc:checkS t=0) (hw:H.wf) :
  EvG Tryd.prog okT 110 [.agg ⟨cs⟩] H (BodyEnd H (bodyF (m+1) t)):=by
  have r0:=r;have hf:=(z0h.1 hc).2;have hfew:=z58 hf;have hlf:∀{u:Tm},u∈t.args->SizeOf.sizeOf u < m/\checkS u=0:=fun hu=>⟨by have:=z0g hu;omega,z18 hc hu⟩
  obtain⟨a,c,cells,rfl,-,-,-,-,-,rl⟩:=r.six;refine EvG.enter rfl Tryd.func110 (by decide) rfl ?_;(repeat refine qZa ?_);refine qZb ?_;simp (config:=qZc) (disch:=first|omega|rfl) only[sB,initTm,dBox,dAlloc,Value.cells,one,zr53];obtain⟨H2,e2,hx,gt,gq,hn2,hw2⟩:=new2 hw (.row (six t a c) 26) (.row zero8 53);simp only[e2];clear e2;have qt:=row6 gt;have lt:=hw2 _ _ gq;(repeat refine qZa ?_);refine EvC.join (fun st=>∃tm G,st=⟨tm,[],G⟩/\tm.get 1=some (.pointer (some ⟨H.next,0,none⟩))/\tm.get 2=some (.pointer (some ⟨H.next+1,0,none⟩))/\G.get H.next=some (.row (six t a c) 26)/\G.get (H.next+1)=some (.row zero8 53)/\HX H G /\
   bodyF (m+1) t=some (.mk 3 t [])) ?_ ?_
  rotate_left
  ·rintro st ⟨tm,G,rfl,t1,t2,gt,gq,hx,hbd⟩;have qt:=row6 gt;(repeat refine qZa ?_);refine qZb ?_;simp (config:=qZc) (disch:=first|omega|rfl) only[sB,Za,Zb,Value.cells,one,Zn,layC,ld26,bd53,cl95,t1,qt];refine(zc0 (r0.mono hx hw) hc hx.wf).mono ?_;rintro v H5 ⟨hx5,out,rfl,hot⟩;obtain⟨ta,tc,cellst,rfl,-⟩:=hot.rep.six;have gq5:=hx5.get hx.wf gq;have n5:=hx5.next;have nx:=hx.next;have lq:=hx.wf _ _ gq
   repeat' (first|(refine qZf ?_)|(refine z0n ?_;simp (config:=qZc) (disch:=first|omega|rfl) only[sB,Za,Zb,one,Zn,st53,t2,gq5]))
   refine z17 (z0b rfl (by simp only[sB,Za,t2];rfl) (by simp only[sB,Zb,cutC,ld53];rfl) ⟨(hx.trans hx5).pt (by omega) gq5 _,?_⟩);rw[hbd];have hot':OT (H5.put (H.next+1) (some (.row (eightT 3 t ta tc none 0 0) 53))) (Rg H.next H5.next) t (six t ta tc):=hot.to fun n hn hl=>⟨by have:=hn.1;rw[get_put,if_neg (by omega)],⟨by have:=hn.1;omega,hl⟩,by rw[z07];exact hl⟩
   exact⟨_,rfl,.leaf _ 3 t (six t ta tc) (by decide) hot'.1 hot'.2⟩
  refine qZg ?_;(repeat refine qZa ?_);refine EvC.meet (fun st=>∃tm',st=⟨tm',[],H2⟩/\tm'.get 1=some (.pointer (some ⟨H.next,0,none⟩))/\tm'.get 2=some (.pointer (some ⟨H.next+1,0,none⟩))/\tm'.get 3=some (.bool (decide (isNum t)))) ?_ ?_
  ·by_cases n3:t.kind=3
   ·have hd:decide (isNum t)=true:=decide_eq_true (.inl n3);refine qZb ?_;simp (config:=qZc) (disch:=first|omega|rfl) only[sB,Za,reduceCtorEq,z0o,ld3,qt,z0y n3];exact⟨_,rfl,(by simp only[sG,Za,reduceCtorEq]),(by simp only[sG,Za,reduceCtorEq]),by rw[hd];first|(simp only[sG,Za,reduceCtorEq];rfl)|simp only[sG,Za,reduceCtorEq]⟩
   by_cases n4:t.kind=4
   ·have hd:decide (isNum t)=true:=decide_eq_true (.inr n4);refine qZb ?_;simp (config:=qZc) (disch:=first|omega|rfl) only[sB,Za,reduceCtorEq,z0o,ld3,qt,z0t n3,z0y n4,Ze];exact⟨_,rfl,(by simp only[sG,Za,reduceCtorEq]),(by simp only[sG,Za,reduceCtorEq]),by rw[hd];first|(simp only[sG,Za,reduceCtorEq];rfl)|simp only[sG,Za,reduceCtorEq]⟩
   ·have hd:decide (isNum t)=false:=decide_eq_false fun h=>by rcases h with h|h;exact n3 h;exact n4 h
    refine qZb ?_;simp (config:=qZc) (disch:=first|omega|rfl) only[sB,Za,reduceCtorEq,z0o,ld3,qt,z0t n3,z0t n4,Ze];exact⟨_,rfl,(by simp only[sG,Za,reduceCtorEq]),(by simp only[sG,Za,reduceCtorEq]),by rw[hd];first|(simp only[sG,Za,reduceCtorEq];rfl)|simp only[sG,Za,reduceCtorEq]⟩
  rintro st ⟨tm,rfl,t1,t2,t3⟩;simp only[z00];by_cases hn:isNum t
  ·have hd:decide (isNum t)=true:=decide_eq_true hn;refine qZd (by simp only[sA,t3,hd]) ?_;refine EvC.regP 2 _ rfl rfl ?_;simp (config:=qZc) (disch:=first|omega|rfl) only[sB,Za,Value.cells,layC,ztv,zhn,z1e,z9b zqt,zdy,zam];exact And.intro rfl ⟨hx,by rw[zmh hn];rfl⟩
  have hd:decide (isNum t)=false:=decide_eq_false hn;refine qZm (by simp only[sA,t3,hd]) ?_;refine EvC.frame (fun tm=>tm.get 1=some (.pointer (some ⟨H.next,0,none⟩))/\tm.get 2=some (.pointer (some ⟨H.next+1,0,none⟩))) ⟨t1,t2⟩ ?_;clear t1 t2 t3 hd tm;rintro tm ⟨t1,t2⟩;by_cases k1:t.kind=1
  ·have hbd:bodyF (m+1) t=some (callB t):=by rw[bodyF,if_neg hn,if_pos k1]
   (repeat refine qZa ?_);refine qZb ?_;simp (config:=qZc) (disch:=first|omega|rfl) only[sB,Za,z0o,ld3,t1,qt,z0y k1];refine qZd (by simp (config:=qZc) (disch:=first|omega|rfl) only[sB,Za]) ?_;(try refine qZe ?_);(try simp only[z00,z03]);(repeat refine qZa ?_);refine qZb ?_;simp (config:=qZc) (disch:=first|omega|rfl) only[sB,Za,ld26,ztw,t1,qt];refine(ze1 (r0.mono hx hw) hc hx.wf).mono ?_;rintro v H5 ⟨hx5,out,rfl,hob⟩;obtain⟨ta,tc,sa,sc,rfl⟩:=hob.rep.eight;have gq5:=hx5.get hx.wf gq;have n5:=hx5.next;have nx:=hx.next;have lq:=hx.wf _ _ gq
   repeat' (first|(refine qZf ?_;try simp only[z06,z01])|(refine z0n ?_;simp (config:=qZc) (disch:=first|omega|rfl) only[sB,Zb,one,st53,t2,gq5]))
   refine z17 (z0b rfl (by simp only[sB,Za,t2];rfl) (by simp only[sB,Zb,cutC,ld53];rfl) ⟨(hx.trans hx5).pt (by omega) gq5 _,?_⟩);rw[hbd];exact⟨_,rfl,hob.to (fun n hn hl=>⟨by have:=hn.1;rw[get_put,if_neg (by omega)],by rw[z07];exact hl⟩) fun n hn=>⟨by have:=hn.1;omega,by rw[z07];exact hn.2⟩⟩
  (repeat refine qZa ?_);refine qZb ?_;simp (config:=qZc) (disch:=first|omega|rfl) only[sB,Za,z0o,ld3,t1,qt,z0t k1];refine qZm (by simp (config:=qZc) (disch:=first|omega|rfl) only[sB,Za]) ?_;(try refine qZe ?_);(try simp only[z00,z03]);refine EvC.frame (fun tm=>tm.get 1=some (.pointer (some ⟨H.next,0,none⟩))/\tm.get 2=some (.pointer (some ⟨H.next+1,0,none⟩))) ⟨(by simp only[sG,Za,t1]),(by simp only[sG,Za,t2])⟩ ?_;clear t1 t2 tm;rintro tm ⟨t1,t2⟩;by_cases ktrue:t.kind=2/\t.name=sTrue
  ·have hbd:bodyF (m+1) t=some (.mk 1 zeroT []):=by rw[bodyF,if_neg hn,if_neg k1,if_pos ktrue]
   (repeat refine qZa ?_);refine qZb ?_;simp (config:=qZc) (disch:=first|omega|rfl) only[sB,Za,z0o,ld3,z1t,ld9,t1,qt,z0y ktrue.1,z2w,zho ktrue.2];refine qZd (by simp (config:=qZc) (disch:=first|omega|rfl) only[sB,Za]) ?_;(try refine qZe ?_);(try simp only[z00,z03]);have lq:=hx.wf _ _ gq
   repeat' (first|refine qZa ?_|(refine qZf ?_;try simp only[z06,z01])|(refine qZb ?_;simp (config:=qZc) (disch:=first|omega|rfl) only[sB,Za,Zb,Value.cells,one,Zn,layC,st53,bd53,t2,gq]))
   refine z17 (z0b rfl (by simp only[sB,Za,t2];rfl) (by simp only[sB,Zb,cutC,ld53];rfl) ⟨hx.pt (by omega) gq _,?_⟩);rw[hbd];exact⟨_,rfl,OB.nil (by decide)⟩
  refine EvC.cut (fun st=>∃tm',st=⟨tm',[],H2⟩/\tm'.get 1=some (.pointer (some ⟨H.next,0,none⟩))/\tm'.get 2=some (.pointer (some ⟨H.next+1,0,none⟩))/\tm'.get 20=some (.bool false)) ?_ ?_
  ·by_cases k2:t.kind=2
   ·have kn:t.name≠sTrue:=fun h=>ktrue ⟨k2,h⟩
    refine qZb ?_;simp (config:=qZc) (disch:=first|omega|rfl) only[sB,Za,z0o,ld3,z1t,ld9,t1,qt,z0y k2,z2w,zmc kn];exact⟨_,rfl,(by simp only[sG,Za,t1]),(by simp only[sG,Za,t2]),by first|(simp only[sG,Za];rfl)|simp only[sG,Za]⟩
   ·refine qZb ?_;simp (config:=qZc) (disch:=first|omega|rfl) only[sB,Za,z0o,ld3,t1,qt,z0t k2,Ze];exact⟨_,rfl,(by simp only[sG,Za,t1]),(by simp only[sG,Za,t2]),by first|(simp only[sG,Za];rfl)|simp only[sG,Za]⟩
  clear t1 t2 tm;rintro st ⟨tm,rfl,t1,t2,tc⟩;refine qZm (by simp (config:=qZc) (disch:=first|omega|rfl) only[sA,tc]) ?_;(try refine qZe ?_);(try simp only[z00,z03]);clear tc;by_cases kexc:t.kind=2/\t.name=sExc
  ·have hbd:bodyF (m+1) t=some (.mk 2 zeroT []):=by rw[bodyF,if_neg hn,if_neg k1,if_neg ktrue,if_pos kexc]
   (repeat refine qZa ?_);refine qZb ?_;simp (config:=qZc) (disch:=first|omega|rfl) only[sB,Za,z0o,ld3,z1t,ld9,t1,qt,z0y kexc.1,z2w,zho kexc.2];refine qZd (by simp (config:=qZc) (disch:=first|omega|rfl) only[sB,Za]) ?_;(try refine qZe ?_);(try simp only[z00,z03]);have lq:=hx.wf _ _ gq
   repeat' (first|refine qZa ?_|(refine qZf ?_;try simp only[z06,z01])|(refine qZb ?_;simp (config:=qZc) (disch:=first|omega|rfl) only[sB,Za,Zb,Value.cells,one,Zn,layC,st53,bd53,t2,gq]))
   refine z17 (z0b rfl (by simp only[sB,Za,t2];rfl) (by simp only[sB,Zb,cutC,ld53];rfl) ⟨hx.pt (by omega) gq _,?_⟩);rw[hbd];exact⟨_,rfl,OB.nil (by decide)⟩
  refine EvC.cut (fun st=>∃tm',st=⟨tm',[],H2⟩/\tm'.get 1=some (.pointer (some ⟨H.next,0,none⟩))/\tm'.get 2=some (.pointer (some ⟨H.next+1,0,none⟩))/\tm'.get 30=some (.bool false)) ?_ ?_
  ·by_cases k2:t.kind=2
   ·have kn:t.name≠sExc:=fun h=>kexc ⟨k2,h⟩
    refine qZb ?_;simp (config:=qZc) (disch:=first|omega|rfl) only[sB,Za,z0o,ld3,z1t,ld9,t1,qt,z0y k2,z2w,zmc kn];exact⟨_,rfl,(by simp only[sG,Za,t1]),(by simp only[sG,Za,t2]),by first|(simp only[sG,Za];rfl)|simp only[sG,Za]⟩
   ·refine qZb ?_;simp (config:=qZc) (disch:=first|omega|rfl) only[sB,Za,z0o,ld3,t1,qt,z0t k2,Ze];exact⟨_,rfl,(by simp only[sG,Za,t1]),(by simp only[sG,Za,t2]),by first|(simp only[sG,Za];rfl)|simp only[sG,Za]⟩
  clear t1 t2 tm;rintro st ⟨tm,rfl,t1,t2,tc⟩;refine qZm (by simp (config:=qZc) (disch:=first|omega|rfl) only[sA,tc]) ?_;(try refine qZe ?_);(try simp only[z00,z03]);clear tc;(repeat refine qZa ?_);refine qZb ?_;simp (config:=qZc) (disch:=first|omega|rfl) only[sB,Za,ld26,zdi,t1,qt];refine(z7m (s:=sCol) (r0.mono hx hw) hx.wf).mono ?_;clear qt;rintro v H3 ⟨rfl,hx3⟩;replace gt:=hx3.get hx.wf gt;replace gq:=hx3.get hx.wf gq;replace hx:=hx.trans hx3;clear hx3;have qt:=row6 gt;by_cases hF:isF t sCol
  ·have hd:decide (isF t sCol)=true:=decide_eq_true hF;(try simp (config:=qZc) (disch:=first|omega|rfl) only[]);refine qZd (by simp (config:=qZc) (disch:=first|omega|rfl) only[sB,Za,hd]) ?_;(try refine qZe ?_);(try simp only[z00,z03]);have hbd:bodyF (m+1) t=withinF (bodyF m) t:=by rw[bodyF,if_neg hn,if_neg k1,if_neg ktrue,if_neg kexc,if_pos hF]
   have hcon:=zje hb hs (r0.mono hx hw) hF.2.2 hc hx.wf;cases ho:withinF (bodyF m) t with
   |none =>
    (repeat refine qZa ?_);refine EvC.regP 1 _ rfl rfl ?_;simp (config:=qZc) (disch:=first|omega|rfl) only[sB,Za,ld26,ztx,z74,t1,qt];refine EvG.toP hcon ?_;rintro e H5 ⟨hx5,he⟩;rw[ho] at he;exact⟨_,he,And.intro rfl ⟨hx.trans hx5,by rw[hbd,ho]⟩⟩
   |some bd =>
    (repeat refine qZa ?_);refine qZb ?_;simp (config:=qZc) (disch:=first|omega|rfl) only[sB,Za,ld26,ztx,t1,qt];refine EvG.toF hcon ?_;rintro e H5 ⟨hx5,he⟩;rw[ho] at he;obtain⟨out,rfl,hob⟩:=he;refine⟨_,rfl,?_⟩;obtain⟨ta,tc,sa,sc,rfl⟩:=hob.rep.eight;have gq5:=hx5.get hx.wf gq;have n5:=hx5.next;have nx:=hx.next;have lq:=hx.wf _ _ gq
    repeat' (first|(refine qZf ?_;try simp only[z06,z01])|(refine z0n ?_;simp (config:=qZc) (disch:=first|omega|rfl) only[sB,Zb,one,st53,t2,gq5]))
    refine z17 (z0b rfl (by simp only[sB,Za,t2];rfl) (by simp only[sB,Zb,cutC,ld53];rfl) ⟨(hx.trans hx5).pt (by omega) gq5 _,?_⟩);rw[hbd,ho];exact⟨_,rfl,hob.to (fun n hn hl=>⟨by have:=hn.1;rw[get_put,if_neg (by omega)],by rw[z07];exact hl⟩) fun n hn=>⟨by have:=hn.1;omega,by rw[z07];exact hn.2⟩⟩
  have fcol:=hF;clear hF;have hd:decide (isF t sCol)=false:=decide_eq_false fcol;(try simp (config:=qZc) (disch:=first|omega|rfl) only[]);refine qZm (by simp (config:=qZc) (disch:=first|omega|rfl) only[sB,Za,hd]) ?_;(try refine qZe ?_);(try simp only[z00,z03]);clear hd;refine EvC.frame (fun tm=>tm.get 1=some (.pointer (some ⟨H.next,0,none⟩))/\tm.get 2=some (.pointer (some ⟨H.next+1,0,none⟩))) ⟨(by simp only[sG,Za,t1]),(by simp only[sG,Za,t2])⟩ ?_;clear t1 t2 tm;rintro tm ⟨t1,t2⟩;(repeat refine qZa ?_);refine qZb ?_;simp (config:=qZc) (disch:=first|omega|rfl) only[sB,Za,ld26,zdi,t1,qt];refine(z7m (s:=sCma) (r0.mono hx hw) hx.wf).mono ?_;clear qt;rintro v H3 ⟨rfl,hx3⟩;replace gt:=hx3.get hx.wf gt;replace gq:=hx3.get hx.wf gq;replace hx:=hx.trans hx3;clear hx3;have qt:=row6 gt;by_cases hF:isF t sCma
  ·have hd:decide (isF t sCma)=true:=decide_eq_true hF;(try simp (config:=qZc) (disch:=first|omega|rfl) only[]);refine qZd (by simp (config:=qZc) (disch:=first|omega|rfl) only[sB,Za,hd]) ?_;(try refine qZe ?_);(try simp only[z00,z03]);have hbd:bodyF (m+1) t=subBF (bodyF m) 4 t.args:=by rw[bodyF,if_neg hn,if_neg k1,if_neg ktrue,if_neg kexc,if_neg fcol,if_pos hF]
   have hcon:=z9e hb (k:=4) (by decide) (rl.mono hx hw) hfew (fun u hu=>hlf hu) hx.wf;cases ho:subBF (bodyF m) 4 t.args with
   |none =>
    (repeat refine qZa ?_);refine EvC.regP 2 _ rfl rfl ?_;simp (config:=qZc) (disch:=first|omega|rfl) only[sB,Za,z10,ld22,z9w,z74,t1,qt];refine EvG.toP hcon ?_;rintro e H5 ⟨hx5,he⟩;rw[ho] at he;exact⟨_,he,And.intro rfl ⟨hx.trans hx5,by rw[hbd,ho]⟩⟩
   |some bd =>
    (repeat refine qZa ?_);refine qZb ?_;simp (config:=qZc) (disch:=first|omega|rfl) only[sB,Za,z10,ld22,z9w,t1,qt];refine EvG.toF hcon ?_;rintro e H5 ⟨hx5,he⟩;rw[ho] at he;obtain⟨out,rfl,hob⟩:=he;refine⟨_,rfl,?_⟩;obtain⟨ta,tc,sa,sc,rfl⟩:=hob.rep.eight;have gq5:=hx5.get hx.wf gq;have n5:=hx5.next;have nx:=hx.next;have lq:=hx.wf _ _ gq
    repeat' (first|(refine qZf ?_;try simp only[z06,z01])|(refine z0n ?_;simp (config:=qZc) (disch:=first|omega|rfl) only[sB,Zb,one,st53,t2,gq5]))
    refine z17 (z0b rfl (by simp only[sB,Za,t2];rfl) (by simp only[sB,Zb,cutC,ld53];rfl) ⟨(hx.trans hx5).pt (by omega) gq5 _,?_⟩);rw[hbd,ho];exact⟨_,rfl,hob.to (fun n hn hl=>⟨by have:=hn.1;rw[get_put,if_neg (by omega)],by rw[z07];exact hl⟩) fun n hn=>⟨by have:=hn.1;omega,by rw[z07];exact hn.2⟩⟩
  have fcma:=hF;clear hF;have hd:decide (isF t sCma)=false:=decide_eq_false fcma;(try simp (config:=qZc) (disch:=first|omega|rfl) only[]);refine qZm (by simp (config:=qZc) (disch:=first|omega|rfl) only[sB,Za,hd]) ?_;(try refine qZe ?_);(try simp only[z00,z03]);clear hd;refine EvC.frame (fun tm=>tm.get 1=some (.pointer (some ⟨H.next,0,none⟩))/\tm.get 2=some (.pointer (some ⟨H.next+1,0,none⟩))) ⟨(by simp only[sG,Za,t1]),(by simp only[sG,Za,t2])⟩ ?_;clear t1 t2 tm;rintro tm ⟨t1,t2⟩;(repeat refine qZa ?_);refine qZb ?_;simp (config:=qZc) (disch:=first|omega|rfl) only[sB,Za,ld26,zdi,t1,qt];refine(z7m (s:=sArr) (r0.mono hx hw) hx.wf).mono ?_;clear qt;rintro v H3 ⟨rfl,hx3⟩;replace gt:=hx3.get hx.wf gt;replace gq:=hx3.get hx.wf gq;replace hx:=hx.trans hx3;clear hx3;have qt:=row6 gt;by_cases hF:isF t sArr
  ·have hd:decide (isF t sArr)=true:=decide_eq_true hF;(try simp (config:=qZc) (disch:=first|omega|rfl) only[]);refine qZd (by simp (config:=qZc) (disch:=first|omega|rfl) only[sB,Za,hd]) ?_;(try refine qZe ?_);(try simp only[z00,z03]);have hbd:bodyF (m+1) t=subBF (bodyF m) 6 t.args:=by rw[bodyF,if_neg hn,if_neg k1,if_neg ktrue,if_neg kexc,if_neg fcol,if_neg fcma,if_pos hF]
   have hcon:=z9e hb (k:=6) (by decide) (rl.mono hx hw) hfew (fun u hu=>hlf hu) hx.wf;cases ho:subBF (bodyF m) 6 t.args with
   |none =>
    (repeat refine qZa ?_);refine EvC.regP 2 _ rfl rfl ?_;simp (config:=qZc) (disch:=first|omega|rfl) only[sB,Za,z10,ld22,z9w,z74,t1,qt];refine EvG.toP hcon ?_;rintro e H5 ⟨hx5,he⟩;rw[ho] at he;exact⟨_,he,And.intro rfl ⟨hx.trans hx5,by rw[hbd,ho]⟩⟩
   |some bd =>
    (repeat refine qZa ?_);refine qZb ?_;simp (config:=qZc) (disch:=first|omega|rfl) only[sB,Za,z10,ld22,z9w,t1,qt];refine EvG.toF hcon ?_;rintro e H5 ⟨hx5,he⟩;rw[ho] at he;obtain⟨out,rfl,hob⟩:=he;refine⟨_,rfl,?_⟩;obtain⟨ta,tc,sa,sc,rfl⟩:=hob.rep.eight;have gq5:=hx5.get hx.wf gq;have n5:=hx5.next;have nx:=hx.next;have lq:=hx.wf _ _ gq
    repeat' (first|(refine qZf ?_;try simp only[z06,z01])|(refine z0n ?_;simp (config:=qZc) (disch:=first|omega|rfl) only[sB,Zb,one,st53,t2,gq5]))
    refine z17 (z0b rfl (by simp only[sB,Za,t2];rfl) (by simp only[sB,Zb,cutC,ld53];rfl) ⟨(hx.trans hx5).pt (by omega) gq5 _,?_⟩);rw[hbd,ho];exact⟨_,rfl,hob.to (fun n hn hl=>⟨by have:=hn.1;rw[get_put,if_neg (by omega)],by rw[z07];exact hl⟩) fun n hn=>⟨by have:=hn.1;omega,by rw[z07];exact hn.2⟩⟩
  have farr:=hF;clear hF;have hd:decide (isF t sArr)=false:=decide_eq_false farr;(try simp (config:=qZc) (disch:=first|omega|rfl) only[]);refine qZm (by simp (config:=qZc) (disch:=first|omega|rfl) only[sB,Za,hd]) ?_;(try refine qZe ?_);(try simp only[z00,z03]);clear hd;refine EvC.frame (fun tm=>tm.get 1=some (.pointer (some ⟨H.next,0,none⟩))/\tm.get 2=some (.pointer (some ⟨H.next+1,0,none⟩))) ⟨(by simp only[sG,Za,t1]),(by simp only[sG,Za,t2])⟩ ?_;clear t1 t2 tm;rintro tm ⟨t1,t2⟩;refine EvC.cut (fun st=>∃tm' G',st=⟨tm',[],G'⟩/\tm'.get 1=some (.pointer (some ⟨H.next,0,none⟩))/\tm'.get 2=some (.pointer (some ⟨H.next+1,0,none⟩))/\tm'.get 57=some (.bool (decide (isF t sSem/\isF (t.at 0) sArr)))/\G'.get H.next=some (.row (six t a c) 26)/\G'.get (H.next+1)=some (.row zero8 53)/\HX H G') ?_ ?_
  ·refine qZb ?_;simp (config:=qZc) (disch:=first|omega|rfl) only[sB,Za,ld26,zdi,t1,qt];refine(z7m (s:=sSem) (r0.mono hx hw) hx.wf).mono ?_;clear qt;rintro v H3 ⟨rfl,hx3⟩;replace gt:=hx3.get hx.wf gt;replace gq:=hx3.get hx.wf gq;replace hx:=hx.trans hx3;clear hx3;have qt:=row6 gt;by_cases hse:isF t sSem;rotate_left
   ·have fsa:decide (isF t sSem/\isF (t.at 0) sArr)=false:=decide_eq_false fun h=>hse h.1
    have hd:decide (isF t sSem)=false:=decide_eq_false hse;(try simp (config:=qZc) (disch:=first|omega|rfl) only[sB,Za,hd,Ze]);exact⟨_,_,rfl,(by simp only[sG,Za,t1]),(by simp only[sG,Za,t2]),by rw[fsa];first|(simp only[sG,Za];rfl)|simp only[sG,Za],gt,gq,hx⟩
   have hd:decide (isF t sSem)=true:=decide_eq_true hse;obtain⟨x,y,hxy⟩:∃x y,t.args=[x,y]:=by
    match hl:t.args,hse.2.2 with
    |[x,y],_=>exact⟨x,y,rfl⟩
   have ex:t.at 0=x:=by unfold Tm.at;rw[hxy];rfl
   have hl2:t.args.length=2:=hse.2.2;have i0:t.args[0]'(by omega)=x:=by simp [hxy]
   obtain⟨b,o,a1,c1,rfl,hld0,hr0⟩:=rl.el (i:=0) (by omega);rw[i0] at hld0 hr0;simp only[ZL,Nat.add_zero,Nat.one_mul] at hld0;have l0:=hx.load hw hld0;(try simp (config:=qZc) (disch:=first|omega|rfl) only[sB,Za,ZO,ld26,zdi,z10,ld22,hd,t1,qt,l0,iz22,ZL]);refine(z7m (s:=sArr) (hr0.mono hx hw) hx.wf).mono ?_;clear qt;rintro v H4 ⟨rfl,hx3⟩;have hde:decide (isF t sSem/\isF (t.at 0) sArr)=decide (isF x sArr):=by rw[ex];simp [hse]
   (try simp (config:=qZc) (disch:=first|omega|rfl) only[]);exact⟨_,_,rfl,(by simp only[sG,Za,t1]),(by simp only[sG,Za,t2]),by rw[hde];first|(simp only[sG,Za];rfl)|simp only[sG,Za],hx3.get hx.wf gt,hx3.get hx.wf gq,hx.trans hx3⟩
  clear t1 t2 tm gt gq hx qt;rintro st ⟨tm,G,rfl,t1,t2,tc,gt,gq,hx⟩;have qt:=row6 gt;by_cases fsa:isF t sSem/\isF (t.at 0) sArr
  ·have hd:decide (isF t sSem/\isF (t.at 0) sArr)=true:=decide_eq_true fsa;obtain⟨x,y,hxy⟩:∃x y,t.args=[x,y]:=by
    match hl:t.args,fsa.1.2.2 with
    |[x,y],_=>exact⟨x,y,rfl⟩
   have ex:t.at 0=x:=by unfold Tm.at;rw[hxy];rfl
   have ey:t.at 1=y:=by unfold Tm.at;rw[hxy];rfl
   have hl2:t.args.length=2:=fsa.1.2.2;have fx:isF x sArr:=ex ▸ fsa.2;obtain⟨p,q,hpq⟩:∃p q,x.args=[p,q]:=by
    match hl:x.args,fx.2.2 with
    |[p,q],_=>exact⟨p,q,rfl⟩
   have ep:(t.at 0).at 0=p:=by rw[ex];unfold Tm.at;rw[hpq];rfl
   have eq:(t.at 0).at 1=q:=by rw[ex];unfold Tm.at;rw[hpq];rfl
   have hx2:x.args.length=2:=fx.2.2;have i0:t.args[0]'(by omega)=x:=by simp [hxy]
   have i1:t.args[1]'(by omega)=y:=by simp [hxy]
   have j0:x.args[0]'(by omega)=p:=by simp [hpq]
   have j1:x.args[1]'(by omega)=q:=by simp [hpq]
   obtain⟨b,o,a1,c1,rfl,hld0,hr0⟩:=rl.el (i:=0) (by omega);obtain⟨b',o',a2,c2,e2,hld1,hr1⟩:=rl.el (i:=1) (by omega);cases e2;rw[i0] at hld0 hr0;rw[i1] at hld1 hr1;obtain⟨ax,cx,cellsx,ee,-,-,-,-,-,rlx⟩:=hr0.six;obtain⟨-,-,-,-,-,rfl,rfl⟩:=zbu ee;obtain⟨bx,ox,a3,c3,rfl,hld2,hr2⟩:=rlx.el (i:=0) (by omega);obtain⟨b'',o'',a4,c4,e4,hld3,hr3⟩:=rlx.el (i:=1) (by omega);cases e4;rw[j0] at hld2 hr2;rw[j1] at hld3 hr3;simp only[ZL,Nat.add_zero,Nat.one_mul] at hld0 hld1 hld2 hld3;have l0:=ldA5 (hx.load hw hld0);have l1:=hx.load hw hld1;have l2:=hx.load hw hld2;have l3:=hx.load hw hld3;obtain⟨L,eL⟩:∃L,six p a3 c3++six q a4 c4++six y a2 c2=L:=⟨_,rfl⟩
   obtain⟨Hq,e5⟩:∃Hq,(⟨G.next+21,G.t⟩:Heap).put (G.next+18) (some (.row L 26))=Hq:=⟨_,rfl⟩
   have hxq:HX G Hq:=by rw[<-e5];exact(((HX.refl hx.wf).bump 21).put (by omega) (by show _ < G.next+21;omega) _)
   have gL:Hq.get (G.next+18)=some (.row L 26):=by rw[<-e5,get_put,if_pos rfl]
   have gq5:=hxq.get hx.wf gq;have gt5:=hxq.get hx.wf gt;have hxf:=hx.trans hxq;have rl3:RepL Hq [p,q,y] (some ⟨G.next+18,0,none⟩) 3 (fun i=>(L.drop (i*6)).take 6):=RepL.of_row gL (fun i hi=>rfl) (fun i u hu=>by
     match i,hu with
     |0,hu=>cases hu;rw[<-eL];exact hr2.mono hxf hw
     |1,hu=>cases hu;rw[<-eL];exact hr3.mono hxf hw
     |2,hu=>cases hu;rw[<-eL];exact hr1.mono hxf hw) (Zf _) (by decide)
   have hmx:x∈t.args:=by rw[hxy];simp
   have hmy:y∈t.args:=by rw[hxy];simp
   have hcx:=z18 hc hmx;have hxl:=z0g hmx;have hcon:=z9e hb (k:=6) (by decide) rl3 (by show 3<=64;decide) (fun u hu=>by
     have hux:u∈x.args\/u=y:=by
      rw[hpq];simp only[List.mem_cons,List.not_mem_nil,or_false] at hu ⊢;rcases hu with h|h|h
      ·exact .inl (.inl h)
      ·exact .inl (.inr h)
      ·exact .inr h
     rcases hux with hu|rfl
     ·exact⟨by have:=z0g hu;omega,z18 hcx hu⟩
     ·exact hlf hmy) hxq.wf
   have hbd:bodyF (m+1) t=subBF (bodyF m) 6 [p,q,y]:=by rw[bodyF,if_neg hn,if_neg k1,if_neg ktrue,if_neg kexc,if_neg fcol,if_neg fcma,if_neg farr,if_pos fsa,ep,eq,ey]
   have nx:=hx.next;have lq:=hx.wf _ _ gq;have eL':=eL;simp only[six,List.cons_append,List.nil_append] at eL';have neq:(H.next+1=G.next+18)=False:=by simp;omega
   refine qZd (by simp (config:=qZc) (disch:=first|omega|rfl) only[sA,tc,hd]) ?_;(try refine qZe ?_);(try simp only[z00,z03]);cases ho:subBF (bodyF m) 6 [p,q,y] with
   |none =>
    (repeat refine qZa ?_);refine EvC.drwP 19 _ [(0,0),(1,0),(2,0),(3,0),(4,0),(5,0),(6,0),(7,0),(8,0),(9,0),(10,0),(11,0),(12,0),(13,0),(14,0),(15,0),(16,0),(17,0),(18,0)] [([],some 20),([],none)] (by kernel_rfl) (by kernel_rfl) rfl rfl ?_;simp (config:=qZc) (disch:=first|omega|rfl) only[sD,sB,Za,Zb,Value.cells,one,reduceCtorEq,Zn,layC,ZO,ld26,st53,z10,ld22,z9w,zqh,isAlloc,isRead,dalloc,zm8,t1,t2,qt,l0,l1,l2,l3,iz22,ZL,Nat.one_mul,zsm,eL',e5,gq5];refine EvG.toP hcon ?_;rintro e H5 ⟨hx5,he⟩;rw[ho] at he;exact⟨_,he,And.intro rfl ⟨hxf.trans hx5,by rw[hbd,ho]⟩⟩
   |some bd =>
    (repeat refine qZa ?_);refine qZj [([(0,0),(1,0),(2,0),(3,0),(4,0),(5,0),(6,0),(7,0),(8,0),(9,0),(10,0),(11,0),(12,0),(13,0),(14,0),(15,0),(16,0),(17,0),(18,0)],some 19),([],some 20),([],none)] (by kernel_rfl) ?_;simp (config:=qZc) (disch:=first|omega|rfl) only[sD,sB,Za,Zb,Value.cells,one,reduceCtorEq,Zn,layC,ZO,ld26,z10,ld22,z9w,zqh,isAlloc,isRead,dalloc,t1,qt,l0,l1,l2,l3,iz22,ZL,Nat.one_mul,eL',e5];refine EvG.toF hcon ?_;rintro e H5 ⟨hx5,he⟩;rw[ho] at he;obtain⟨out,rfl,hob⟩:=he;refine⟨_,rfl,?_⟩;obtain⟨ta,tc,sa,sc,rfl⟩:=hob.rep.eight;have gq6:=hx5.get hxq.wf gq5;have n5:=hx5.next;have nq:=hxq.next
    repeat' (first|(refine qZf ?_;try simp only[z06,z01])|(refine z0q ?_;simp (config:=qZc) (disch:=first|omega|rfl) only[sD,sB,Za,Zb,one,st53,t2,gq6]))
    refine z17 (z0b rfl (by simp only[sB,Za,t2];rfl) (by simp only[sB,Zb,cutC,ld53];rfl) ⟨(hxf.trans hx5).pt (by omega) gq6 _,?_⟩);rw[hbd,ho];exact⟨_,rfl,hob.to (fun n hn hl=>⟨by have:=hn.1;rw[get_put,if_neg (by omega)],by rw[z07];exact hl⟩) fun n hn=>⟨by have:=hn.1;omega,by rw[z07];exact hn.2⟩⟩
  have hd:decide (isF t sSem/\isF (t.at 0) sArr)=false:=decide_eq_false fsa;refine qZm (by simp (config:=qZc) (disch:=first|omega|rfl) only[sA,tc,hd]) ?_;(try refine qZe ?_);(try simp only[z00,z03]);clear tc hd;(repeat refine qZa ?_);refine qZb ?_;simp (config:=qZc) (disch:=first|omega|rfl) only[sB,Za,ld26,zdi,t1,qt];refine(z7m (s:=sSem) (r0.mono hx hw) hx.wf).mono ?_;clear qt;rintro v H3 ⟨rfl,hx3⟩;replace gt:=hx3.get hx.wf gt;replace gq:=hx3.get hx.wf gq;replace hx:=hx.trans hx3;clear hx3;have qt:=row6 gt;by_cases hF:isF t sSem
  ·have hd:decide (isF t sSem)=true:=decide_eq_true hF;(try simp (config:=qZc) (disch:=first|omega|rfl) only[]);refine qZd (by simp (config:=qZc) (disch:=first|omega|rfl) only[sB,Za,hd]) ?_;(try refine qZe ?_);(try simp only[z00,z03]);have hbd:bodyF (m+1) t=subBF (bodyF m) 5 t.args:=by rw[bodyF,if_neg hn,if_neg k1,if_neg ktrue,if_neg kexc,if_neg fcol,if_neg fcma,if_neg farr,if_neg fsa,if_pos hF]
   have hcon:=z9e hb (k:=5) (by decide) (rl.mono hx hw) hfew (fun u hu=>hlf hu) hx.wf;cases ho:subBF (bodyF m) 5 t.args with
   |none =>
    (repeat refine qZa ?_);refine EvC.regP 2 _ rfl rfl ?_;simp (config:=qZc) (disch:=first|omega|rfl) only[sB,Za,z10,ld22,z9w,z74,t1,qt];refine EvG.toP hcon ?_;rintro e H5 ⟨hx5,he⟩;rw[ho] at he;exact⟨_,he,And.intro rfl ⟨hx.trans hx5,by rw[hbd,ho]⟩⟩
   |some bd =>
    (repeat refine qZa ?_);refine qZb ?_;simp (config:=qZc) (disch:=first|omega|rfl) only[sB,Za,z10,ld22,z9w,t1,qt];refine EvG.toF hcon ?_;rintro e H5 ⟨hx5,he⟩;rw[ho] at he;obtain⟨out,rfl,hob⟩:=he;refine⟨_,rfl,?_⟩;obtain⟨ta,tc,sa,sc,rfl⟩:=hob.rep.eight;have gq5:=hx5.get hx.wf gq;have n5:=hx5.next;have nx:=hx.next;have lq:=hx.wf _ _ gq
    repeat' (first|(refine qZf ?_;try simp only[z06,z01])|(refine z0n ?_;simp (config:=qZc) (disch:=first|omega|rfl) only[sB,Zb,one,st53,t2,gq5]))
    refine z17 (z0b rfl (by simp only[sB,Za,t2];rfl) (by simp only[sB,Zb,cutC,ld53];rfl) ⟨(hx.trans hx5).pt (by omega) gq5 _,?_⟩);rw[hbd,ho];exact⟨_,rfl,hob.to (fun n hn hl=>⟨by have:=hn.1;rw[get_put,if_neg (by omega)],by rw[z07];exact hl⟩) fun n hn=>⟨by have:=hn.1;omega,by rw[z07];exact hn.2⟩⟩
  have fsem:=hF;clear hF;have hd:decide (isF t sSem)=false:=decide_eq_false fsem;(try simp (config:=qZc) (disch:=first|omega|rfl) only[]);refine qZm (by simp (config:=qZc) (disch:=first|omega|rfl) only[sB,Za,hd]) ?_;(try refine qZe ?_);(try simp only[z00,z03]);clear hd;have hbd:bodyF (m+1) t=some (.mk 3 t []):=by rw[bodyF,if_neg hn,if_neg k1,if_neg ktrue,if_neg kexc,if_neg fcol,if_neg fcma,if_neg farr,if_neg fsa,if_neg fsem]
  exact⟨_,_,rfl,(by simp only[sG,Za,t1]),(by simp only[sG,Za,t2]),gt,gq,hx,hbd⟩
theorem zc2:∀m:Nat,BodyP m
 |0=>fun h=>absurd h (Nat.not_lt_zero _)
 |m+1=>fun hs r hc hw=>zmi (zc2 m) hs r hc hw
end Go.Proofs.hq
end

section
namespace Go.Proofs.hq
open Go Go.RowKit Go.Hb
inductive RepBI (H:Heap) (S:Nat->Prop):Bdy->List Value->Prop
 |mk (k:Int) (t:Tm) (l:List Bdy) (cs:List Value) (a:Option Addr) (c:Nat) (cells:Nat->List Value):i64 k->RepS H S t cs->l.length<=c->c<=maxLen->(a=none->l=[]/\c=0) ->
   (∀i ad,i < l.length->a=some ad->ad.spot=none/\S ad.block/\ad.block < H.next/\H.load ⟨ad.block,ad.off+i*8,none⟩ 8=some (cells i))->(∀i u,l[i]?=some u->RepBI H S u (cells i)) ->
   RepBI H S (.mk k t l) (eight k cs a l.length c)
theorem ze3 {H G:Heap}{b o n:Nat}(h:G.get b=H.get b):G.load ⟨b,o,none⟩ n=H.load ⟨b,o,none⟩ n:=by
 unfold Heap.load Heap.cells;simp only[h]
section
variable {H H':Heap}{S S':Nat->Prop}{u:Bdy}{cs:List Value}
theorem RepBI.rep (h:RepBI H S u cs):RepB H u cs:=by
 induction h with
 |mk k t l ts a c cells h1 h2 h3 h4 h5 h6 h7 ih=>exact .mk k t l ts a c cells h1 h2.rep h3 h4 h5 (fun i ad hi ha=>⟨(h6 i ad hi ha).1,(h6 i ad hi ha).2.2.2⟩) ih
theorem RepBI.to (h:RepBI H S u cs) (hk:∀n,S n->n < H.next->H'.get n=H.get n/\S' n/\n < H'.next):RepBI H' S' u cs:=by
 induction h with
 |mk k t l ts a c cells h1 h2 h3 h4 h5 h6 h7 ih =>
  refine .mk k t l ts a c cells h1 (h2.to hk) h3 h4 h5 (fun i ad hi ha=>?_) ih;obtain⟨p1,p2,p3,p4⟩:=h6 i ad hi ha;obtain⟨k1,k2,k3⟩:=hk _ p2 p3;exact⟨p1,k2,k3,by rw[ze3 k1];exact p4⟩
theorem RepBI.inv (h:RepBI H S u cs):∃(ta:Option Addr) (tc:Nat) (a:Option Addr) (c:Nat) (cells:Nat->List Value),cs=eightT u.kind u.term ta tc a u.sub.length c/\i64 u.kind/\RepS H S u.term (six u.term ta tc)/\u.sub.length<=c/\c<=maxLen /\
  ∀i (hi:i < u.sub.length),∃b o,a=some ⟨b,o,none⟩/\S b/\b < H.next/\H.load ⟨b,o+i*8,none⟩ 8=some (cells i)/\RepBI H S u.sub[i] (cells i):=by
 cases h with
 |mk k t l ts a c cells h1 h2 h3 h4 h5 h6 h7 =>
  obtain⟨ta,tc,cellst,rfl,-⟩:=h2.rep.inv;refine⟨ta,tc,a,c,cells,rfl,h1,h2,h3,h4,fun i hi=>?_⟩;cases a with
  |none=>obtain⟨rfl,_⟩:=h5 rfl;exact absurd hi (Nat.not_lt_zero _)
  |some ad =>
   obtain⟨p1,p2,p3,p4⟩:=h6 i ad hi rfl;obtain⟨b,o,s⟩:=ad;obtain rfl:s=none:=p1;exact⟨b,o,rfl,p2,p3,p4,h7 i _ (Zc hi)⟩
theorem OB.bi {TB TT:TypeId}(h:OB H TB TT S u cs):RepBI H S u cs:=by
 induction h with
 |leaf S k t cs h1 h2 h3=>exact .mk k t [] cs none 0 (fun _=>[]) h1 h2 (Zf _) (Zo _) (fun _=>⟨rfl,rfl⟩) (fun i ad hi=>by simp at hi) (fun i u hu=>by simp at hu)
 |node S k t cs l b c cells Si h1 h2 h3 h4 h5 h6 h7 h8 h9 h10 h11 h12 h13 ih =>
  refine .mk k t l cs (some ⟨b,0,none⟩) c (fun i=>(cells.drop (i*8)).take 8) h1 h2 h4 h5 (fun h=>by cases h) (fun i ad hi ha=>?_) (fun i u hu=>(ih i u hu).to fun n hn hl=>⟨rfl,h12 i n (List.getElem?_eq_some_iff.1 hu).1 hn,hl⟩);cases ha;refine⟨rfl,h7,h8,?_⟩;have hle:i*8+8<=l.length*8:=by omega
  unfold Heap.load Heap.cells;simp only[h6,ZF];rw[if_pos (by rw[Zs,Zp,List.length_drop];omega)]
end
theorem RepT.toS {H:Heap}{t:Tm}{cs:List Value}(hw:H.wf) (r:RepT H t cs):RepS H (fun n=>n < H.next) t cs:=by
 intro G hG
 induction r with
 |mk k s u b v l a c cells h1 h2 h3 h4 h5 h6 h7 h8 h9 h10 h11 ih =>
  refine .mk k s u b v l a c cells h1 h2 h3 h4 h5 h6 h7 h8 h9 (fun i ad hi ha=>⟨(h10 i ad hi ha).1,?_⟩) ih;have h:=(h10 i ad hi ha).2;have hl:=zc1 hw h;rw[ze3 (hG _ hl hl)];exact h
theorem RepB.bi {H:Heap}{u:Bdy}{cs:List Value}(hw:H.wf) (r:RepB H u cs):RepBI H (fun n=>n < H.next) u cs:=by
 induction r with
 |mk k t l ts a c cells h1 h2 h3 h4 h5 h6 h7 ih =>
  refine .mk k t l ts a c cells h1 (RepT.toS hw h2) h3 h4 h5 (fun i ad hi ha=>?_) ih;obtain⟨p1,p2⟩:=h6 i ad hi ha;have hl:=zc1 hw p2;exact⟨p1,hl,hl,p2⟩
inductive FewB (n:Nat):Bdy->Prop
 |mk {b:Bdy}:b.sub.length<=n->Few n b.term->(∀u∈b.sub,FewB n u)->FewB n b
theorem FewB.len {n:Nat}{b:Bdy}(h:FewB n b):b.sub.length<=n:=by cases h;assumption
theorem FewB.term {n:Nat}{b:Bdy}(h:FewB n b):Few n b.term:=by cases h;assumption
theorem FewB.sub {n:Nat}{b:Bdy}(h:FewB n b):∀u∈b.sub,FewB n u:=by cases h;assumption
def LT (H:Heap) (T:TypeId) (E:Nat->Prop) (l:List Tm) (a:Option Addr) (c:Nat):Prop :=
 (l=[]/\a=none/\c=0)\/∃(b:Nat) (cells:List Value),a=some ⟨b,0,none⟩/\l.length<=c/\c<=maxLen/\H.get b=some (.row cells T)/\¬E b/\b < H.next/\l.length*6<=cells.length/\∀i u,l[i]?=some u->RepS H E u ((cells.drop (i*6)).take 6)
section
variable {H H':Heap}{T:TypeId}{E E':Nat->Prop}{l:List Tm}{a:Option Addr}{c:Nat}
theorem LT.nil:LT H T E [] none 0:=.inl ⟨rfl,rfl,rfl⟩
theorem LT.to (h:LT H T E l a c) (hk:∀n,E n\/a=some ⟨n,0,none⟩->n < H.next->H'.get n=H.get n) (hn:H.next<=H'.next) (hs:∀n,E n->E' n) (hne:∀n,a=some ⟨n,0,none⟩->¬E' n):LT H' T E' l a c:=by
 rcases h with h|⟨b,cells,rfl,h1,h2,h3,h4,h5,h6,h7⟩
 ·exact .inl h
 ·exact .inr ⟨b,cells,rfl,h1,h2,(hk b (.inr rfl) h5).trans h3,hne b rfl,Zh h5 hn,h6,fun i u hu=>(h7 i u hu).to fun n hn' hl=>⟨hk n (.inl hn') hl,hs n hn',Zh hl hn⟩⟩
theorem zui {cells:List Value}{i n:Nat}(h:i < n) (vs:List Value) (hn:n*6<=cells.length):((cells.take (n*6)++vs).drop (i*6)).take 6=(cells.drop (i*6)).take 6:=by
 have h1:(cells.take (n*6)).length=n*6:=by rw[Zp];omega
 rw[List.drop_append_of_le_length (by omega),List.take_append_of_le_length (by rw[List.length_drop];omega),List.drop_take,List.take_take];congr 1;omega
theorem LT.push {P:Program}{t:TypeId}(hp:apOk P t T 6) {E2:Nat->Prop}{u:Tm}{cs:List Value}{c1:Nat}{ad:Addr}(h:LT H T E l a c) (hw:H.wf) (hl:H.load ad (1*6)=some cs) (hu:RepS H E2 u cs) (hE:∀n,E2 n->a≠some ⟨n,0,none⟩)
  (hEl:∀n,E n->n < H.next) (hE2l:∀n,E2 n->n < H.next) (hm:l.length+1<=most) (h2:∀n,E n\/E2 n->E' n) (hnew:¬E' H.next) :
  ∃H2,dAp P #[t,t] (.slice a l.length c) (.slice (some ad) 1 c1) H=some (.val (.slice (some ⟨H.next,0,none⟩) (l.length+1) (l.length+1)) H2)/\LT H2 T E' (l++[u]) (some ⟨H.next,0,none⟩) (l.length+1)/\HK (fun n=>a=some ⟨n,0,none⟩) H H2/\H2.next=H.next+1:=by
 have hmax:l.length+1<=maxLen:=Zk hm (by simp [most,maxLen]);obtain⟨hone,hlen⟩:=zfn hu.rep;rcases h with ⟨rfl,rfl,rfl⟩|⟨b,cells,rfl,h1,h2',h3,h4,h5,h6,h7⟩
 ·have hx:=(HX.refl hw).new (some (.row cs T));refine⟨_,z47 hp (by omega) hm hl hone,?_,hx.hk _,rfl⟩;refine .inr ⟨H.next,cs,rfl,Zf _,hmax,z0i,hnew,Zg _,by simp [hlen],fun i v hv=>?_⟩
  match i,hv with
  |0,hv =>
   cases hv;rw[ZL,List.drop_zero,Zl (by omega)];exact hu.to fun n hn hl=>⟨hx.keep n hl,h2 n (.inr hn),Nat.lt_succ_of_lt hl⟩
 ·have hcells:(cells.take (l.length*6)).all one=true:=z5r _ h6 fun i hi=>(zfn (h7 i _ (Zc hi)).rep).1
  have hk:HK (fun n=>some (⟨b,0,none⟩:Addr)=some ⟨n,0,none⟩) H ((H.put b none).new (some (.row (cells.take (l.length*6)++cs) T))):=((HK.refl (S:=fun n=>some (⟨b,0,none⟩:Addr)=some ⟨n,0,none⟩) hw).put (.inl rfl) h5 none).new _;have hkeep:∀n,n < H.next->n≠b->((H.put b none).new (some (.row (cells.take (l.length*6)++cs) T))).get n=H.get n:=fun n hn hne=>by
   rw[z1d (by rw[z07];exact hn),z2d hne]
  refine⟨_,z3a hp (by omega) hm hl hone h3 h6 hcells,?_,hk,rfl⟩;have htl:(cells.take (l.length*6)).length=l.length*6:=by rw[Zp];omega
  refine .inr ⟨H.next,cells.take (l.length*6)++cs,rfl,by simp,hmax,z0i,hnew,Zg _,by simp [hlen,htl];omega,fun i v hv=>?_⟩;by_cases hi:i < l.length
  ·rw[ZC hi] at hv;rw[zui hi _ h6];exact(h7 i v hv).to fun n hn hl=>⟨hkeep n hl fun e=>h4 (e ▸ hn),h2 n (.inl hn),Nat.lt_succ_of_lt hl⟩
  ·have hil:i=l.length:=by
    have:=(List.getElem?_eq_some_iff.1 hv).1;simp at this;omega
   subst hil;simp at hv;subst hv;have e8:((cells.take (l.length*6)++cs).drop (l.length*6)).take 6=cs:=by rw[List.drop_left' htl,Zl (by omega)]
   rw[e8];exact hu.to fun n hn hl=>⟨hkeep n hl fun e=>hE n hn (by rw[e]),h2 n (.inr hn),Nat.lt_succ_of_lt hl⟩
theorem LT.repL (h:LT H T E l a c):∃cells,RepL H l a c cells/\∀i u,l[i]?=some u->RepS H E u (cells i):=by
 rcases h with ⟨rfl,rfl,rfl⟩|⟨b,cells,rfl,h1,h2,h3,h4,h5,h6,h7⟩
 ·exact⟨fun _=>[],⟨Zf _,Zo _,fun _=>⟨rfl,rfl⟩,(fun i ad hi=>by simp at hi),(fun i u hu=>by simp at hu)⟩,(fun i u hu=>by simp at hu)⟩
 ·exact⟨fun i=>(cells.drop (i*6)).take 6,RepL.of_row h3 (fun i hi=>rfl) (fun i u hu=>(h7 i u hu).rep) h1 h2,h7⟩
theorem LT.comp {s:ByteArray}(h:LT H T E l a c) (hs:s.size<=maxLen) (he:∀n,E n->E' n) (hb:∀n,a=some ⟨n,0,none⟩->E' n) (hm:c<=maxLen):RepS H E' (cmpT s l) (six (cmpT s l) a c):=by
 rcases h with ⟨rfl,rfl,rfl⟩|⟨b,cells,rfl,h1,h2,h3,h4,h5,h6,h7⟩
 ·exact RepS.leaf (ze0 hs) rfl (Zo _) fun _=>rfl
 ·exact RepS.row (t:=cmpT s l) (ze0 hs) rfl h3 (hb b rfl) h5 h6 h1 h2 fun j hj=>(h7 j _ (Zc hj)).to fun n hn hl=>⟨rfl,he n hn,hl⟩
end
end Go.Proofs.hq
end

section
namespace Go.Proofs.hq
open Go Go.RowKit Go.Hb
variable {ok:Ok}
set_option maxRecDepth 10000
attribute [local irreducible] LX LG EL STG SOP SGO SGD SAL SRD SEF SEG SLK SCK ES
theorem zjf {k:Int}{t:Tm}{l:List Tm}(h2:k≠2) (h3:k≠3) (h4:¬(k=4/\l.length=2)) (h5:¬(k=5/\l.length=2)) (h6:¬(k=6/\l.length=2)) (h6':¬(k=6/\l.length=3)) (h7:¬(k=7/\l.length=1)):tellB k t l=atmT sTrue:=by
 unfold tellB;rw[if_neg h2,if_neg h3,if_neg h4,if_neg h5,if_neg h6,if_neg h6',if_neg h7]
theorem z4e {H:Heap}{S:Nat->Prop}{s:ByteArray}(h:s.size<=maxLen):RepS H S (atmT s) (six (atmT s) none 0) :=
 RepS.leaf ⟨by show i64 2;decide,h,by show ByteArray.empty.size<=_;decide,by show u64 0;decide,by show i64 0;decide⟩ rfl (Zo _) fun _=>rfl
theorem z6j {H:Heap}{S:Nat->Prop}{s:ByteArray}{x y:Tm}{a a':Option Addr}{c c' b:Nat}(hs:s.size<=maxLen) (hg:H.get b=some (.row (six x a c++six y a' c') 26)) (hS:S b) (hw:H.wf) (hx:RepS H S x (six x a c)) (hy:RepS H S y (six y a' c')) :
  RepS H S (cmpT s [x,y]) (six (cmpT s [x,y]) (some ⟨b,0,none⟩) 2) :=
 RepS.row (t:=cmpT s [x,y]) (ze0 hs) rfl hg hS (hw _ _ hg) (Zf _) (Zf _) (by decide) fun j hj=>by
  match j,hj with
  |0,_=>exact hx
  |1,_=>exact hy
theorem LT.el {H:Heap}{T:TypeId}{E:Nat->Prop}{l:List Tm}{a:Option Addr}{c:Nat}(h:LT H T E l a c) {i:Nat}(hi:i < l.length) :
  ∃b a' c',a=some ⟨b,0,none⟩/\H.load ⟨b,i*6,none⟩ 6=some (six l[i] a' c')/\RepS H E l[i] (six l[i] a' c')/\b < H.next:=by
 rcases h with ⟨rfl,-,-⟩|⟨b,cells,rfl,h1,h2,h3,h4,h5,h6,h7⟩
 ·exact absurd hi (Nat.not_lt_zero _)
 ·have hr:=h7 i _ (Zc hi);obtain⟨a',c',cells',e,-⟩:=hr.rep.six;refine⟨b,a',c',rfl,?_,e ▸ hr,h5⟩;unfold Heap.load Heap.cells;simp only[h3,e];rfl
set_option maxHeartbeats 16000000 in
theorem zc3 {m:Nat}:∀{u:Bdy}{cs:List Value}{S:Nat->Prop}{H:Heap},SizeOf.sizeOf u < m->RepBI H S u cs->FewB 1000000 u->(∀n,S n->n < H.next)->H.wf ->
  EvF Tryd.prog okT 93 [.agg ⟨cs⟩] H fun v H'=>HX H H'/\∃out,v=.agg ⟨out⟩/\RepS H' (fun n=>S n\/(H.next<=n/\n < H'.next)) (toldB u) out:=by
 induction m with
 |zero=>intro u cs S H h;omega
 |succ m ih =>
 intro u cs S H hsz r hfew hS hw;have hlen:=hfew.len;have ean:apOk Tryd.prog 22 26 6:=ap22;obtain⟨ta,tc,a,c,cells,rfl,hk,hr,hlc,hcm,hel⟩:=r.inv;refine EvF.enter rfl Tryd.func93 (by decide) rfl ?_;(repeat refine qZa ?_);refine qZb ?_;simp (config:=qZc) (disch:=first|omega|rfl) only[sB,initTm,dBox,dAlloc,Value.cells,one,zr26];obtain⟨H2,e2,hx2,gb,gq,hn2,hw2⟩:=new2 hw (.row (eightT u.kind u.term ta tc a u.sub.length c) 53) (.row zero6 26);simp only[e2];clear e2;have qb:=row8 gb;have hmx:u.sub.length<=9223372036854775807:=by omega
 (repeat refine qZa ?_);refine qZb ?_;simp (config:=qZc) (disch:=first|omega|rfl) only[sA];(repeat refine qZa ?_);refine qZb ?_;simp (config:=qZc) (disch:=first|omega|rfl) only[sB,Za,reduceCtorEq,z3e,ld51,ln51,qb];refine EvC.join (fun st=>∃tm G ao co,st=⟨tm,[],G⟩/\tm.get 1=some (.pointer (some ⟨H.next,0,none⟩))/\tm.get 2=some (.pointer (some ⟨H.next+1,0,none⟩))/\tm.get 3=some (.slice ao u.sub.length co) /\
  G.get H.next=some (.row (eightT u.kind u.term ta tc a u.sub.length c) 53)/\G.get (H.next+1)=some (.row zero6 26) /\
  LT G 26 (fun n=>(S n\/(H.next+2<=n/\n < G.next))/\ao≠some ⟨n,0,none⟩) (u.sub.map toldB) ao co/\(∀n,ao=some ⟨n,0,none⟩->H.next+2<=n/\n < G.next)/\HX H G) ?_ ?_
 ·refine qZg (qZk (fun k' st=>∃tm G i ao co,st=⟨tm,[],G⟩/\k'=u.sub.length - i/\i<=u.sub.length/\tm.get 1=some (.pointer (some ⟨H.next,0,none⟩))/\tm.get 2=some (.pointer (some ⟨H.next+1,0,none⟩))/\tm.get 3=some (.slice ao i co) /\
   tm.get 7=some (.slice a u.sub.length c)/\tm.get 8=some (.int .i64 u.sub.length)/\tm.get 9=some (.int .i64 (i:Nat)) /\
   G.get H.next=some (.row (eightT u.kind u.term ta tc a u.sub.length c) 53)/\G.get (H.next+1)=some (.row zero6 26) /\
   LT G 26 (fun n=>(S n\/(H.next+2<=n/\n < G.next))/\ao≠some ⟨n,0,none⟩) ((u.sub.take i).map toldB) ao co/\(∀n,ao=some ⟨n,0,none⟩->H.next+2<=n/\n < G.next)/\HX H G) ?_ u.sub.length _ ?_)
  rotate_left
  ·exact⟨_,_,0,none,0,rfl,rfl,Zo _,(by simp only[sG,Za,reduceCtorEq]),(by simp only[sG,Za,reduceCtorEq]),(by simp only[sG,Za,reduceCtorEq]),(by simp only[sG,Za,reduceCtorEq]),(by simp only[sG,Za,reduceCtorEq]),(by simp only[sB,Za,reduceCtorEq];rfl),gb,gq,.nil,fun n h=>(by cases h),hx2⟩
  rintro k' st ⟨tm,G,i,ao,co,rfl,rfl,hi,t1,t2,t3,t7,t8,t9,gbG,gqG,hlt',hao,hxG⟩;have hwG:=hxG.wf;by_cases hlt:i < u.sub.length;rotate_left
  ·repeat' (first|refine qZa ?_|(refine qZi ?_;try simp only[sB])|(refine qZb ?_;simp (config:=qZc) (disch:=first|omega|rfl) only[sA,t8,t9,decn hlt])|(refine qZm ?_ ?_;simp (config:=qZc) (disch:=first|omega|rfl) only[sB];refine z05 ?_))
   obtain rfl:i=u.sub.length:=by omega
   rw[List.take_length] at hlt';exact⟨_,_,ao,co,rfl,(by simp only[sG,Za,t1]),(by simp only[sG,Za,t2]),(by simp only[sG,Za,t3]),gbG,gqG,hlt',hao,hxG⟩
  obtain⟨b,o,rfl,hSb,hbl,hld,hri⟩:=hel i hlt;obtain⟨ta1,tc1,a1,c1,cells1,e1,-⟩:=hri.inv;rw[e1] at hld hri;have hld1:=hxG.load hw hld;(repeat refine qZa ?_);refine qZb ?_;simp (config:=qZc) (disch:=first|omega|rfl) only[sA,t8,t9,decl hlt];(repeat refine qZa ?_);refine qZd (by simp (config:=qZc) (disch:=first|omega|rfl) only[sB]) ?_;(try refine qZe ?_);(try simp only[z00,z03]);refine qZa ?_;refine qZg ?_;(repeat refine qZa ?_);refine qZb ?_;simp (config:=qZc) (disch:=first|omega|rfl) only[sB,dAlloc,Za,Zb,one,ia51,ld53,zr53,st53,t7,t9,hld1];obtain⟨H4,e4,hx4,g5,hn4,hw4⟩:=z0r hwG (.row zero8 53) (.row (eightT u.sub[i].kind u.sub[i].term ta1 tc1 a1 u.sub[i].sub.length c1) 53);simp only[e4];clear e4;have q5:=row8 g5;have hxf:=hxG.trans hx4;refine qZb ?_;simp (config:=qZc) (disch:=first|omega|rfl) only[sB,Za,Zb,Value.cells,layC,ld53,cl93,zde,t3,q5];have hsz1:=Bdy.size u u.sub[i] (Zz _)
  refine(ih (u:=u.sub[i]) (by omega) (hri.to fun n hn hl=>⟨hxf.keep n hl,hn,Zh hl hxf.next⟩) (hfew.sub _ (Zz _)) (fun n hn=>Zh (hS n hn) hxf.next) hw4).mono ?_;rintro v H5 ⟨hx5,out,rfl,hrep⟩;obtain⟨t6,k6,cells6,rfl,-⟩:=hrep.rep.six;(try simp (config:=qZc) (disch:=first|omega|rfl) only[sB,Za,Zb,one]);obtain⟨H6,e6,hx6,g6,hn6,hw6⟩:=new1 hx5.wf (.row (six (toldB u.sub[i]) t6 k6) 26);simp only[e6];clear e6;have hx46:=hx4.trans (hx5.trans hx6);have n4:=hx4.next;have n5:=hx5.next;have nG:=hxG.next;have lqG:=hwG _ _ gqG;have etl:((u.sub.take i).map toldB).length=i:=by rw[Zt,Zp];omega
  obtain⟨H7,e7,hlt7,hk7,hn7⟩:=LT.push (P:=Tryd.prog) (t:=22) (E':=fun n=>(S n\/(H.next+2<=n/\n < H6.next+1))/\(some ⟨H6.next,0,none⟩:Option Addr)≠some ⟨n,0,none⟩) (E2:=fun n=>S n\/(H4.next<=n/\n < H5.next)) (u:=toldB u.sub[i]) (c1:=1) ean
   (hlt'.to (H':=H6) (E':=fun n=>(S n\/(H.next+2<=n/\n < G.next))/\ao≠some ⟨n,0,none⟩) (fun n _ hl=>hx46.keep n hl) hx46.next (fun n hn=>hn) fun n hn h=>h.2 hn) hw6 (ld1 g6 rfl) (hrep.to fun n hn hl=>⟨hx6.keep n hl,hn,by omega⟩)
   (fun n hn ha=>by
    have h1:=hao n ha;rcases hn with hn|hn
    ·have:=hS n hn;omega
    ·omega) (fun n hn=>by
    rcases hn.1 with h|h
    ·have:=hS n h;omega
    ·omega) (fun n hn=>by
    rcases hn with h|h
    ·have:=hS n h;omega
    ·omega) (by rw[etl];unfold most;omega) (fun n hn=>by
    rcases hn with ⟨h,_⟩|h
    ·refine⟨h.imp_right fun h=>⟨h.1,by omega⟩,fun e=>?_⟩;injection e with e;injection e with e;rcases h with h|h
     ·have:=hS n h;omega
     ·omega
    ·refine⟨h.imp_right fun h=>⟨by omega,by omega⟩,fun e=>?_⟩;injection e with e;injection e with e;rcases h with h|h
     ·have:=hS n h;omega
     ·omega) (fun h=>h.2 rfl)
  rw[etl] at e7 hlt7;have ha1:ao≠some ⟨H.next,0,none⟩:=fun h=>by have:=hao _ h;omega
  have ha2:ao≠some ⟨H.next+1,0,none⟩:=fun h=>by have:=hao _ h;omega
  have gb7:=hk7.get hw6 (hx46.get hwG gbG) ha1;have gq7:=hk7.get hw6 (hx46.get hwG gqG) ha2;have hx7:HX H H7:=(hxG.trans hx46).then hk7 fun n hn h=>by have:=hao _ h;omega
  repeat' (first|(refine qZb ?_;simp (config:=qZc) (disch:=first|omega|rfl) only[sB,Za,t9,z0d])|(refine z0n ?_;simp (config:=qZc) (disch:=first|omega|rfl) only[sB,Za,e7]))
  refine⟨u.sub.length - (i+1),by omega,_,_,i+1,some ⟨H6.next,0,none⟩,i+1,rfl,rfl,by omega,(by simp only[sG,Za,t1]),(by simp only[sG,Za,t2]),(by simp only[sG,Za]),(by simp only[sG,Za,t7]),(by simp only[sG,Za,t8]),(by simp only[sB,Za];rfl),gb7,gq7,?_,fun n h=>by injection h with h;injection h with h;omega,hx7⟩;rw[<-List.take_append_getElem hlt,ZB,hn7];exact hlt7
 rintro st ⟨tm,G,ao,co,rfl,t1,t2,t3,gb,gq,hlt',hao,hxG⟩;have qb:=row8 gb;have htold:=z2s u;have hll:(u.sub.map toldB).length=u.sub.length:=Zt _;have hww:=hxG.wf;have lq:=hww _ _ gq;have hcm':co<=maxLen:=by
  rcases hlt' with ⟨-,-,rfl⟩|⟨b,cells,-,-,h,-⟩
  ·exact Zo _
  ·exact h
 have hrG:RepS G S u.term (six u.term ta tc):=hr.to fun n hn hl=>⟨hxG.keep n hl,hn,Zh hl hxG.next⟩
 simp only[z00];(repeat refine qZa ?_);refine qZg ?_;generalize hL:u.sub.map toldB=L at htold hll hlt';by_cases k2:u.kind=2
 ·(repeat refine qZa ?_);refine qZb ?_;simp (config:=qZc) (disch:=first|omega|rfl) only[sB,Za,z1j,ld3,t1,qb,z0y k2];refine qZd (by simp (config:=qZc) (disch:=first|omega|rfl) only[sB,Za]) ?_;(try refine qZe ?_);(try simp only[z00,z03]);(repeat refine qZa ?_);refine qZb ?_;simp (config:=qZc) (disch:=first|omega|rfl) only[sB,Za,cl99];refine(z4d hww).mono ?_;rintro v H5 ⟨rfl,hx5⟩;have n5:=hx5.next;have nG:=hxG.next;have gq5:=hx5.get hww gq
  repeat' (first|(refine qZf ?_;try simp only[z06,z01])|(refine z0n ?_;simp (config:=qZc) (disch:=first|omega|rfl) only[sB,Zb,one,st26,t2,gq5]))
  refine z0b rfl (by simp only[sB,Za,t2];rfl) (by simp only[sB,Zb,cutC,ld26];rfl) ⟨(hxG.trans hx5).pt (by omega) gq5 _,_,rfl,?_⟩;rw[htold,tellB,if_pos k2];exact z4e (by decide)
 (repeat refine qZa ?_);refine qZb ?_;simp (config:=qZc) (disch:=first|omega|rfl) only[sB,Za,z1j,ld3,t1,qb,z0t k2];refine qZm (by simp (config:=qZc) (disch:=first|omega|rfl) only[sB,Za]) ?_;(try refine qZe ?_);(try simp only[z00,z03]);refine EvC.frame (fun tm=>tm.get 1=some (.pointer (some ⟨H.next,0,none⟩))/\tm.get 2=some (.pointer (some ⟨H.next+1,0,none⟩))/\tm.get 3=some (.slice ao u.sub.length co)) ⟨(by simp only[sG,Za,t1]),(by simp only[sG,Za,t2]),(by simp only[sG,Za,t3])⟩ ?_;clear t1 t2 t3 tm;rintro tm ⟨t1,t2,t3⟩;by_cases k3:u.kind=3
 ·(repeat refine qZa ?_);refine qZb ?_;simp (config:=qZc) (disch:=first|omega|rfl) only[sB,Za,z1j,ld3,t1,qb,z0y k3];refine qZd (by simp (config:=qZc) (disch:=first|omega|rfl) only[sB,Za]) ?_;(try refine qZe ?_);(try simp only[z00,z03]);have nG:=hxG.next
  repeat' (first|refine qZa ?_|(refine qZf ?_;try simp only[z06,z01])|(refine qZb ?_;simp (config:=qZc) (disch:=first|omega|rfl) only[sB,Za,Zb,one,st26,z8u,ld26,t1,t2,qb,gq]))
  refine z0b rfl (by simp only[sB,Za,t2];rfl) (by simp only[sB,Zb,cutC,ld26];rfl) ⟨hxG.pt (by omega) gq _,_,rfl,?_⟩;rw[htold,tellB,if_neg k2,if_pos k3];refine hrG.to fun n hn hl=>?_
  have:=hS n hn;exact⟨by rw[get_put,if_neg (by omega)],.inl hn,by rw[z07];exact hl⟩
 (repeat refine qZa ?_);refine qZb ?_;simp (config:=qZc) (disch:=first|omega|rfl) only[sB,Za,z1j,ld3,t1,qb,z0t k3];refine qZm (by simp (config:=qZc) (disch:=first|omega|rfl) only[sB,Za]) ?_;(try refine qZe ?_);(try simp only[z00,z03]);refine EvC.frame (fun tm=>tm.get 1=some (.pointer (some ⟨H.next,0,none⟩))/\tm.get 2=some (.pointer (some ⟨H.next+1,0,none⟩))/\tm.get 3=some (.slice ao u.sub.length co)) ⟨(by simp only[sG,Za,t1]),(by simp only[sG,Za,t2]),(by simp only[sG,Za,t3])⟩ ?_;clear t1 t2 t3 tm;rintro tm ⟨t1,t2,t3⟩;by_cases k4:u.kind=4/\L.length=2
 ·have hl':(u.sub.length:Int)=2:=by omega
  (repeat refine qZa ?_);refine qZb ?_;simp (config:=qZc) (disch:=first|omega|rfl) only[sB,Za,z1j,ld3,ln22,t1,t3,qb,z0y k4.1,z0y hl'];refine qZd (by simp (config:=qZc) (disch:=first|omega|rfl) only[sB,Za]) ?_;(try refine qZe ?_);(try simp only[z00,z03]);(repeat refine qZa ?_);refine qZb ?_;simp (config:=qZc) (disch:=first|omega|rfl) only[sB,Za,cl77,t3];refine(z2t hww).mono ?_;rintro v H5 ⟨rfl,hx5⟩;have n5:=hx5.next;have nG:=hxG.next;have gq5:=hx5.get hww gq
  repeat' (first|(refine qZf ?_;try simp only[z06,z01])|(refine z0n ?_;simp (config:=qZc) (disch:=first|omega|rfl) only[sB,Zb,one,st26,t2,gq5]))
  refine z0b rfl (by simp only[sB,Za,t2];rfl) (by simp only[sB,Zb,cutC,ld26];rfl) ⟨(hxG.trans hx5).pt (by omega) gq5 _,_,rfl,?_⟩;rw[htold,tellB,if_neg k2,if_neg k3,if_pos k4];have hcmp:RepS G (fun n=>S n\/(H.next+2<=n/\n < G.next)) (cmpT sCma L) (six (cmpT sCma L) ao co):=hlt'.comp (by decide) (fun n hn=>hn.1) (fun n hn=>.inr (hao n hn)) hcm';have e6:six (cmpT sCma L) ao co=[.int .i64 5,.string sCma,.string Zd,.int .u64 0,.int .i64 0,.slice ao u.sub.length co]:=by show [_,_,_,_,_,Value.slice ao L.length co]=_;rw[hll];rfl
  rw[e6] at hcmp;refine hcmp.to fun n hn hl=>?_
  have hne:n≠H.next+1:=by
   rcases hn with h|h
   ·have:=hS n h;omega
   ·omega
  exact⟨by rw[get_put,if_neg hne];exact hx5.keep n hl,hn.imp_right fun h=>⟨by omega,by rw[z07];omega⟩,by rw[z07];omega⟩
 refine EvC.cut (fun st=>∃tm',st=⟨tm',[],G⟩/\tm'.get 1=some (.pointer (some ⟨H.next,0,none⟩))/\tm'.get 2=some (.pointer (some ⟨H.next+1,0,none⟩))/\tm'.get 3=some (.slice ao u.sub.length co)/\tm'.get 30=some (.bool false)) ?_ ?_
 ·by_cases kk:u.kind=4
  ·have hl':(u.sub.length:Int)≠2:=fun h=>k4 ⟨kk,by omega⟩
   refine qZb ?_;simp (config:=qZc) (disch:=first|omega|rfl) only[sB,Za,z1j,ld3,ln22,t1,t3,qb,z0y kk,z0t hl'];exact⟨_,rfl,(by simp only[sG,Za,t1]),(by simp only[sG,Za,t2]),(by simp only[sG,Za,t3]),by first|(simp only[sG,Za];rfl)|simp only[sG,Za]⟩
  ·refine qZb ?_;simp (config:=qZc) (disch:=first|omega|rfl) only[sB,Za,z1j,ld3,t1,qb,z0t kk,Ze];exact⟨_,rfl,(by simp only[sG,Za,t1]),(by simp only[sG,Za,t2]),(by simp only[sG,Za,t3]),by first|(simp only[sG,Za];rfl)|simp only[sG,Za]⟩
 clear t1 t2 t3 tm;rintro st ⟨tm,rfl,t1,t2,t3,tc⟩;refine qZm (by simp (config:=qZc) (disch:=first|omega|rfl) only[sA,tc]) ?_;(try refine qZe ?_);(try simp only[z00,z03]);clear tc;by_cases k5:u.kind=5/\L.length=2
 ·have hl':(u.sub.length:Int)=2:=by omega
  (repeat refine qZa ?_);refine qZb ?_;simp (config:=qZc) (disch:=first|omega|rfl) only[sB,Za,z1j,ld3,ln22,t1,t3,qb,z0y k5.1,z0y hl'];refine qZd (by simp (config:=qZc) (disch:=first|omega|rfl) only[sB,Za]) ?_;(try refine qZe ?_);(try simp only[z00,z03]);(repeat refine qZa ?_);refine qZb ?_;simp (config:=qZc) (disch:=first|omega|rfl) only[sB,Za,cl77,t3];refine(z2t hww).mono ?_;rintro v H5 ⟨rfl,hx5⟩;have n5:=hx5.next;have nG:=hxG.next;have gq5:=hx5.get hww gq
  repeat' (first|(refine qZf ?_;try simp only[z06,z01])|(refine z0n ?_;simp (config:=qZc) (disch:=first|omega|rfl) only[sB,Zb,one,st26,t2,gq5]))
  refine z0b rfl (by simp only[sB,Za,t2];rfl) (by simp only[sB,Zb,cutC,ld26];rfl) ⟨(hxG.trans hx5).pt (by omega) gq5 _,_,rfl,?_⟩;rw[htold,tellB,if_neg k2,if_neg k3,if_neg k4,if_pos k5];have hcmp:RepS G (fun n=>S n\/(H.next+2<=n/\n < G.next)) (cmpT sSem L) (six (cmpT sSem L) ao co):=hlt'.comp (by decide) (fun n hn=>hn.1) (fun n hn=>.inr (hao n hn)) hcm';have e6:six (cmpT sSem L) ao co=[.int .i64 5,.string sSem,.string Zd,.int .u64 0,.int .i64 0,.slice ao u.sub.length co]:=by show [_,_,_,_,_,Value.slice ao L.length co]=_;rw[hll];rfl
  rw[e6] at hcmp;refine hcmp.to fun n hn hl=>?_
  have hne:n≠H.next+1:=by
   rcases hn with h|h
   ·have:=hS n h;omega
   ·omega
  exact⟨by rw[get_put,if_neg hne];exact hx5.keep n hl,hn.imp_right fun h=>⟨by omega,by rw[z07];omega⟩,by rw[z07];omega⟩
 refine EvC.cut (fun st=>∃tm',st=⟨tm',[],G⟩/\tm'.get 1=some (.pointer (some ⟨H.next,0,none⟩))/\tm'.get 2=some (.pointer (some ⟨H.next+1,0,none⟩))/\tm'.get 3=some (.slice ao u.sub.length co)/\tm'.get 41=some (.bool false)) ?_ ?_
 ·by_cases kk:u.kind=5
  ·have hl':(u.sub.length:Int)≠2:=fun h=>k5 ⟨kk,by omega⟩
   refine qZb ?_;simp (config:=qZc) (disch:=first|omega|rfl) only[sB,Za,z1j,ld3,ln22,t1,t3,qb,z0y kk,z0t hl'];exact⟨_,rfl,(by simp only[sG,Za,t1]),(by simp only[sG,Za,t2]),(by simp only[sG,Za,t3]),by first|(simp only[sG,Za];rfl)|simp only[sG,Za]⟩
  ·refine qZb ?_;simp (config:=qZc) (disch:=first|omega|rfl) only[sB,Za,z1j,ld3,t1,qb,z0t kk,Ze];exact⟨_,rfl,(by simp only[sG,Za,t1]),(by simp only[sG,Za,t2]),(by simp only[sG,Za,t3]),by first|(simp only[sG,Za];rfl)|simp only[sG,Za]⟩
 clear t1 t2 t3 tm;rintro st ⟨tm,rfl,t1,t2,t3,tc⟩;refine qZm (by simp (config:=qZc) (disch:=first|omega|rfl) only[sA,tc]) ?_;(try refine qZe ?_);(try simp only[z00,z03]);clear tc;by_cases k6:u.kind=6/\L.length=2
 ·have hl':(u.sub.length:Int)=2:=by omega
  (repeat refine qZa ?_);refine qZb ?_;simp (config:=qZc) (disch:=first|omega|rfl) only[sB,Za,z1j,ld3,ln22,t1,t3,qb,z0y k6.1,z0y hl'];refine qZd (by simp (config:=qZc) (disch:=first|omega|rfl) only[sB,Za]) ?_;(try refine qZe ?_);(try simp only[z00,z03]);(repeat refine qZa ?_);refine qZb ?_;simp (config:=qZc) (disch:=first|omega|rfl) only[sB,Za,cl77,t3];refine(z2t hww).mono ?_;rintro v H5 ⟨rfl,hx5⟩;have n5:=hx5.next;have nG:=hxG.next;have gq5:=hx5.get hww gq
  repeat' (first|(refine qZf ?_;try simp only[z06,z01])|(refine z0n ?_;simp (config:=qZc) (disch:=first|omega|rfl) only[sB,Zb,one,st26,t2,gq5]))
  refine z0b rfl (by simp only[sB,Za,t2];rfl) (by simp only[sB,Zb,cutC,ld26];rfl) ⟨(hxG.trans hx5).pt (by omega) gq5 _,_,rfl,?_⟩;rw[htold,tellB,if_neg k2,if_neg k3,if_neg k4,if_neg k5,if_pos k6];have hcmp:RepS G (fun n=>S n\/(H.next+2<=n/\n < G.next)) (cmpT sArr L) (six (cmpT sArr L) ao co):=hlt'.comp (by decide) (fun n hn=>hn.1) (fun n hn=>.inr (hao n hn)) hcm';have e6:six (cmpT sArr L) ao co=[.int .i64 5,.string sArr,.string Zd,.int .u64 0,.int .i64 0,.slice ao u.sub.length co]:=by show [_,_,_,_,_,Value.slice ao L.length co]=_;rw[hll];rfl
  rw[e6] at hcmp;refine hcmp.to fun n hn hl=>?_
  have hne:n≠H.next+1:=by
   rcases hn with h|h
   ·have:=hS n h;omega
   ·omega
  exact⟨by rw[get_put,if_neg hne];exact hx5.keep n hl,hn.imp_right fun h=>⟨by omega,by rw[z07];omega⟩,by rw[z07];omega⟩
 refine EvC.cut (fun st=>∃tm',st=⟨tm',[],G⟩/\tm'.get 1=some (.pointer (some ⟨H.next,0,none⟩))/\tm'.get 2=some (.pointer (some ⟨H.next+1,0,none⟩))/\tm'.get 3=some (.slice ao u.sub.length co)/\tm'.get 52=some (.bool false)) ?_ ?_
 ·by_cases kk:u.kind=6
  ·have hl':(u.sub.length:Int)≠2:=fun h=>k6 ⟨kk,by omega⟩
   refine qZb ?_;simp (config:=qZc) (disch:=first|omega|rfl) only[sB,Za,z1j,ld3,ln22,t1,t3,qb,z0y kk,z0t hl'];exact⟨_,rfl,(by simp only[sG,Za,t1]),(by simp only[sG,Za,t2]),(by simp only[sG,Za,t3]),by first|(simp only[sG,Za];rfl)|simp only[sG,Za]⟩
  ·refine qZb ?_;simp (config:=qZc) (disch:=first|omega|rfl) only[sB,Za,z1j,ld3,t1,qb,z0t kk,Ze];exact⟨_,rfl,(by simp only[sG,Za,t1]),(by simp only[sG,Za,t2]),(by simp only[sG,Za,t3]),by first|(simp only[sG,Za];rfl)|simp only[sG,Za]⟩
 clear t1 t2 t3 tm;rintro st ⟨tm,rfl,t1,t2,t3,tc⟩;refine qZm (by simp (config:=qZc) (disch:=first|omega|rfl) only[sA,tc]) ?_;(try refine qZe ?_);(try simp only[z00,z03]);clear tc;by_cases k6t:u.kind=6/\L.length=3
 ·have hl':(u.sub.length:Int)=3:=by omega
  obtain⟨x,y,z,hxy⟩:∃x y z,L=[x,y,z]:=by
   match L,k6t.2 with
   |[x,y,z],_=>exact⟨x,y,z,rfl⟩
  subst hxy;obtain⟨b,a1,c1,rfl,l0,r1,hbl⟩:=hlt'.el (i:=0) (by show 0 < 3;decide);obtain⟨b',a2,c2,e2,l1,r2,-⟩:=hlt'.el (i:=1) (by show 1 < 3;decide);cases e2;obtain⟨b'',a3,c3,e3,l2,r3,-⟩:=hlt'.el (i:=2) (by show 2 < 3;decide);cases e3;simp only[List.getElem_cons_zero,List.getElem_cons_succ,ZL,Nat.one_mul] at l0 l1 l2 r1 r2 r3;have nG:=hxG.next;obtain⟨L4,eL4⟩:∃L4,six x a1 c1++six y a2 c2=L4:=⟨_,rfl⟩
  have eL4':=eL4;simp only[six,List.cons_append,List.nil_append] at eL4';obtain⟨H4,e4⟩:∃H4,(⟨G.next+14,G.t⟩:Heap).put (G.next+6) (some (.row L4 26))=H4:=⟨_,rfl⟩
  have hx4:HX G H4:=by rw[<-e4];exact(((HX.refl hww).bump 14).put (by omega) (by show _ < G.next+14;omega) _)
  have n4:H4.next=G.next+14:=by rw[<-e4];rfl
  have g4:H4.get (G.next+6)=some (.row L4 26):=by rw[<-e4,get_put,if_pos rfl]
  have nb6:(b=G.next+6)=False:=by simp;omega
  (repeat refine qZa ?_);refine qZb ?_;simp (config:=qZc) (disch:=first|omega|rfl) only[sB,Za,z1j,ld3,ln22,t1,t3,qb,z0y k6t.1,z0y hl'];refine qZd (by simp (config:=qZc) (disch:=first|omega|rfl) only[sB,Za]) ?_;(try refine qZe ?_);(try simp only[z00,z03]);(repeat refine qZa ?_);refine qZj [([(0,0),(1,0),(2,0),(3,0),(4,0),(5,0),(6,0)],some 7),([(8,0),(9,0),(10,0),(11,1)],some 12),([],some 13),([],none)] (by kernel_rfl) ?_;simp (config:=qZc) (disch:=first|omega|rfl) only[sD,sB,Za,Zb,Value.cells,one,reduceCtorEq,Zn,layC,ZO,ld26,cl77,zae,isAlloc,isRead,dalloc,t3,l0,l1,iz22,ZL,Nat.one_mul,eL4',e4];refine(z2t hx4.wf).mono ?_;rintro v H5 ⟨rfl,hx5⟩;have n5:=hx5.next;have l2':=hx5.load hx4.wf (hx4.load hww l2);obtain⟨L6,eL6⟩:∃L6,six (cmpT sArr [x,y]) (some ⟨G.next+6,0,none⟩) 2++six z a3 c3=L6:=⟨_,rfl⟩
  have eL6':[.int .i64 5,.string sArr,.string Zd,.int .u64 0,.int .i64 0,.slice (some ⟨G.next+6,0,none⟩) 2 2,.int .i64 z.kind,.string z.name,.string z.num,.int .u64 z.bits,.int .i64 z.var,.slice a3 z.args.length c3]=L6:=eL6;obtain⟨H6,e6⟩:∃H6,H5.put (G.next+11) (some (.row L6 26))=H6:=⟨_,rfl⟩
  have hx6:HX G H6:=by rw[<-e6];exact(hx4.trans hx5).put (by omega) (by omega) _
  have n6:H6.next=H5.next:=by rw[<-e6];rfl
  have g6:H6.get (G.next+11)=some (.row L6 26):=by rw[<-e6,get_put,if_pos rfl]
  have g46:H6.get (G.next+6)=some (.row L4 26):=by rw[<-e6,get_put,if_neg (by omega)];exact hx5.get hx4.wf g4
  have l24:=hx4.load hww l2
  repeat' (first|(refine z0q ?_;simp (config:=qZc) (disch:=first|omega|rfl) only[sV,sD,sB,Za,Zb,Value.cells,one,reduceCtorEq,Zn,layC,ZO,ld26,cl77,zae,t3,l2,l2',iz22,Nat.reduceMul,eL6',e6,isAlloc,isRead,dalloc]))
  refine(z2t hx6.wf).mono ?_;rintro v H7 ⟨rfl,hx7⟩;have n7:=hx7.next;have hx67:=hx6.trans hx7;have gq7:=hx67.get hww gq
  repeat' (first|(refine qZf ?_;try simp only[z06,z01])|(refine z0q ?_;simp (config:=qZc) (disch:=first|omega|rfl) only[sD,sB,Za,Zb,one,st26,t2,gq7]))
  refine z0b rfl (by simp only[sB,Za,t2];rfl) (by simp only[sB,Zb,cutC,ld26];rfl) ⟨(hxG.trans hx67).pt (by omega) gq7 _,_,rfl,?_⟩;have k4':¬(u.kind=4/\[x,y,z].length=2):=k4;rw[htold,tellB,if_neg k2,if_neg k3,if_neg k4,if_neg k5,if_neg k6,if_pos k6t];have rr:∀{w:Tm}{cs:List Value},RepS G (fun n=>(S n\/(H.next+2<=n/\n < G.next))/\(some ⟨b,0,none⟩:Option Addr)≠some ⟨n,0,none⟩) w cs->RepS H7 (fun n=>(S n\/(H.next+2<=n/\n < H7.next))) w cs:=fun h=>h.to fun n hn hl=>⟨hx67.keep n hl,hn.1.imp_right fun h=>⟨h.1,by omega⟩,by omega⟩
  subst eL4 eL6;have ho:RepS H7 (fun n=>(S n\/(H.next+2<=n/\n < H7.next))) (cmpT sSem [cmpT sArr [x,y],z]) (six (cmpT sSem [cmpT sArr [x,y],z]) (some ⟨G.next+11,0,none⟩) 2) :=
   z6j (by decide) (hx7.get hx6.wf g6) (.inr ⟨by omega,by omega⟩) hx7.wf (z6j (by decide) (hx7.get hx6.wf g46) (.inr ⟨by omega,by omega⟩) hx7.wf (rr r1) (rr r2)) (rr r3)
  refine ho.to fun n hn hl=>?_
  have hne:n≠H.next+1:=by
   rcases hn with h|h
   ·have:=hS n h;omega
   ·omega
  exact⟨by rw[get_put,if_neg hne],hn.imp_right fun h=>⟨by omega,by rw[z07];omega⟩,by rw[z07];omega⟩
 refine EvC.cut (fun st=>∃tm',st=⟨tm',[],G⟩/\tm'.get 1=some (.pointer (some ⟨H.next,0,none⟩))/\tm'.get 2=some (.pointer (some ⟨H.next+1,0,none⟩))/\tm'.get 3=some (.slice ao u.sub.length co)/\tm'.get 63=some (.bool false)) ?_ ?_
 ·by_cases kk:u.kind=6
  ·have hl':(u.sub.length:Int)≠3:=fun h=>k6t ⟨kk,by omega⟩
   refine qZb ?_;simp (config:=qZc) (disch:=first|omega|rfl) only[sB,Za,z1j,ld3,ln22,t1,t3,qb,z0y kk,z0t hl'];exact⟨_,rfl,(by simp only[sG,Za,t1]),(by simp only[sG,Za,t2]),(by simp only[sG,Za,t3]),by first|(simp only[sG,Za];rfl)|simp only[sG,Za]⟩
  ·refine qZb ?_;simp (config:=qZc) (disch:=first|omega|rfl) only[sB,Za,z1j,ld3,t1,qb,z0t kk,Ze];exact⟨_,rfl,(by simp only[sG,Za,t1]),(by simp only[sG,Za,t2]),(by simp only[sG,Za,t3]),by first|(simp only[sG,Za];rfl)|simp only[sG,Za]⟩
 clear t1 t2 t3 tm;rintro st ⟨tm,rfl,t1,t2,t3,tc⟩;refine qZm (by simp (config:=qZc) (disch:=first|omega|rfl) only[sA,tc]) ?_;(try refine qZe ?_);(try simp only[z00,z03]);clear tc;by_cases k7:u.kind=7/\L.length=1
 ·have hl':(u.sub.length:Int)=1:=by omega
  obtain⟨x,hxy⟩:∃x,L=[x]:=by
   match L,k7.2 with
   |[x],_=>exact⟨x,rfl⟩
  subst hxy;obtain⟨b,a1,c1,rfl,l0,r1,hbl⟩:=hlt'.el (i:=0) (by show 0 < 1;decide);simp only[List.getElem_cons_zero,ZL] at l0 r1;have nG:=hxG.next;obtain⟨L4,eL4⟩:∃L4,six u.term ta tc++six x a1 c1=L4:=⟨_,rfl⟩
  have eL4':=eL4;simp only[six,List.cons_append,List.nil_append] at eL4';obtain⟨H4,e4⟩:∃H4,(⟨G.next+8,G.t⟩:Heap).put (G.next+5) (some (.row L4 26))=H4:=⟨_,rfl⟩
  have hx4:HX G H4:=by rw[<-e4];exact(((HX.refl hww).bump 8).put (by omega) (by show _ < G.next+8;omega) _)
  have n4:H4.next=G.next+8:=by rw[<-e4];rfl
  have g4:H4.get (G.next+5)=some (.row L4 26):=by rw[<-e4,get_put,if_pos rfl]
  (repeat refine qZa ?_);refine qZb ?_;simp (config:=qZc) (disch:=first|omega|rfl) only[sB,Za,z1j,ld3,ln22,t1,t3,qb,z0y k7.1,z0y hl'];refine qZd (by simp (config:=qZc) (disch:=first|omega|rfl) only[sB,Za]) ?_;(try refine qZe ?_);(try simp only[z00,z03]);(repeat refine qZa ?_);refine qZj [([(0,0),(1,0),(2,0),(3,0),(4,0),(5,0)],some 6),([],some 7),([],none)] (by kernel_rfl) ?_;simp (config:=qZc) (disch:=first|omega|rfl) only[sD,sB,Za,Zb,Value.cells,one,reduceCtorEq,Zn,layC,ZO,z8u,ld26,cl77,zae,isAlloc,isRead,dalloc,t1,t3,qb,l0,iz22,ZL,eL4',e4];refine(z2t hx4.wf).mono ?_;rintro v H5 ⟨rfl,hx5⟩;have n5:=hx5.next;have hx45:=hx4.trans hx5;have gq5:=hx45.get hww gq
  repeat' (first|(refine qZf ?_;try simp only[z06,z01])|(refine z0q ?_;simp (config:=qZc) (disch:=first|omega|rfl) only[sD,sB,Za,Zb,one,st26,t2,gq5]))
  refine z0b rfl (by simp only[sB,Za,t2];rfl) (by simp only[sB,Zb,cutC,ld26];rfl) ⟨(hxG.trans hx45).pt (by omega) gq5 _,_,rfl,?_⟩;rw[htold,tellB,if_neg k2,if_neg k3,if_neg k4,if_neg k5,if_neg k6,if_neg k6t,if_pos k7];subst eL4;have ho:RepS H5 (fun n=>(S n\/(H.next+2<=n/\n < H5.next))) (cmpT sCol [u.term,x]) (six (cmpT sCol [u.term,x]) (some ⟨G.next+5,0,none⟩) 2) :=
   z6j (by decide) (hx5.get hx4.wf g4) (.inr ⟨by omega,by omega⟩) hx5.wf (hrG.to fun n hn hl=>⟨hx45.keep n hl,.inl hn,by omega⟩) (r1.to fun n hn hl=>⟨hx45.keep n hl,hn.1.imp_right fun h=>⟨h.1,by omega⟩,by omega⟩)
  refine ho.to fun n hn hl=>?_
  have hne:n≠H.next+1:=by
   rcases hn with h|h
   ·have:=hS n h;omega
   ·omega
  exact⟨by rw[get_put,if_neg hne],hn.imp_right fun h=>⟨by omega,by rw[z07];omega⟩,by rw[z07];omega⟩
 refine EvC.join (fun st=>∃tm',st=⟨tm',[],G⟩/\tm'.get 2=some (.pointer (some ⟨H.next+1,0,none⟩))) ?_ ?_
 ·by_cases kk:u.kind=7
  ·have hl':(u.sub.length:Int)≠1:=fun h=>k7 ⟨kk,by omega⟩
   repeat' (first|refine qZa ?_|(refine qZe ?_;try simp only[z00])|(refine qZb ?_;simp (config:=qZc) (disch:=first|omega|rfl) only[sB,Za,z1j,ld3,ln22,t1,t3,qb,z0y kk,z0t hl'])|(refine qZm ?_ ?_;simp (config:=qZc) (disch:=first|omega|rfl) only[sB,Za];refine z05 ?_))
   exact⟨_,rfl,(by simp only[sG,Za,t2])⟩
  ·repeat' (first|refine qZa ?_|(refine qZe ?_;try simp only[z00])|(refine qZb ?_;simp (config:=qZc) (disch:=first|omega|rfl) only[sB,Za,z1j,ld3,t1,qb,z0t kk,Ze])|(refine qZm ?_ ?_;simp (config:=qZc) (disch:=first|omega|rfl) only[sB,Za];refine z05 ?_))
   exact⟨_,rfl,(by simp only[sG,Za,t2])⟩
 rintro st ⟨tm,rfl,t2⟩;(repeat refine qZa ?_);refine qZb ?_;simp (config:=qZc) (disch:=first|omega|rfl) only[sB,Za,cl99];refine(z4d hww).mono ?_;rintro v H5 ⟨rfl,hx5⟩;have n5:=hx5.next;have nG:=hxG.next;have gq5:=hx5.get hww gq
 repeat' (first|(refine qZf ?_)|(refine z0n ?_;simp (config:=qZc) (disch:=first|omega|rfl) only[sB,Zb,one,st26,t2,gq5]))
 refine z0b rfl (by simp only[sB,Za,t2];rfl) (by simp only[sB,Zb,cutC,ld26];rfl) ⟨(hxG.trans hx5).pt (by omega) gq5 _,_,rfl,?_⟩;rw[htold,zjf k2 k3 k4 k5 k6 k6t k7];exact z4e (by decide)
set_option maxHeartbeats 2000000 in
theorem zc4 {s:ByteArray}{H:Heap}(hs:s.size<=maxLen) (hw:H.wf) :
  EvF Tryd.prog okT 103 [.string s] H fun v H'=>HX H H'/\RepES H' (Rg H.next H'.next) (.ball (resT s)) v:=by
 refine EvF.enter rfl Tryd.func103 (by decide) rfl ?_;(repeat refine qZa ?_);refine qZb ?_;simp (config:=qZc) (disch:=first|omega|rfl) only[sA,initTm];(repeat refine qZa ?_);refine qZb ?_;simp (config:=qZc) (disch:=first|omega|rfl) only[sB,Za,Zb,Value.cells,reduceCtorEq,layC,cl99,zde];refine(z4d hw).mono ?_;rintro v H3 ⟨rfl,hx3⟩;have n3:=hx3.next
 repeat' (first|(refine z0n ?_;simp (config:=qZc) (disch:=first|omega|rfl) only[sB,Za,Zb,one,reduceCtorEq,cl77,zo4]))
 obtain⟨H4,e4,hx4,g4,hn4,hw4⟩:=new1 hx3.wf (.row (six (atmT s) none 0) 26);simp only[e4];refine(z2t hw4).mono ?_;rintro v H5 ⟨rfl,hx5⟩;have n5:=hx5.next;have g5:=hx5.get hw4 g4;have hr:RepS H5 (fun n=>n=H3.next) (resT s) (six (resT s) (some ⟨H3.next,0,none⟩) 1):=RepS.row (t:=resT s) (ze0 (by decide)) rfl g5 rfl (hx5.wf _ _ g5) (Zf _) (Zf _) (by decide) fun j hj=>by
  match j,hj with
  |0,_=>exact z4e hs
 skip
 refine(z7x hr hx5.wf (fun n hn=>by omega)).mono ?_;rintro v H6 ⟨hx6,he⟩;have n6:=hx6.next
 repeat' (first|(refine qZf ?_))
 refine z04 rfl (by simp only[sG,Za,reduceCtorEq]) ⟨((hx3.trans hx4).trans hx5).trans hx6,he.to fun n hn hl=>⟨rfl,?_,hl⟩⟩;rcases hn with rfl|hn
 ·exact⟨by omega,by omega⟩
 ·exact⟨by omega,by omega⟩
set_option maxHeartbeats 4000000 in
theorem z6k {s:ByteArray}{t:Tm}{cs:List Value}{H:Heap}(hs:s.size<=maxLen) (r0:RepT H t cs) (hc:checkS t=0) (hw:H.wf) :
  EvF Tryd.prog okT 102 [.string s,.agg ⟨cs⟩] H fun v H'=>HX H H'/\RepES H' (Rg H.next H'.next) (.ball (typeT s t)) v:=by
 obtain⟨a,c,cells,rfl,-⟩:=r0.six;refine EvF.enter rfl Tryd.func102 (by decide) rfl ?_;(repeat refine qZa ?_);refine qZb ?_;simp (config:=qZc) (disch:=first|omega|rfl) only[sB,initTm,dBox,Value.cells,one,reduceCtorEq];obtain⟨H2,e2,hx2,gt,hn2,hw2⟩:=new1 hw (.row (six t a c) 26);simp only[e2];clear e2;have qt:=row6 gt;(repeat refine qZa ?_);refine qZj [([(0,0)],some 1),([(2,0)],some 3),([(4,2)],some 5),([],some 6),([(7,4)],none)] (by kernel_rfl) ?_;simp (config:=qZc) (disch:=first|omega|rfl) only[sD,sB,Za,Zb,reduceCtorEq,cl99,isAlloc,isRead];have hxb:HX H2 ⟨H2.next+8,H2.t⟩:=(HX.refl hw2).bump 8;refine(z4d hxb.wf).mono ?_;rintro v H3 ⟨rfl,hx3⟩;have n3:H2.next+8<=H3.next:=hx3.next;have qt3:=row6 (hx3.get hxb.wf (show (⟨H2.next+8,H2.t⟩:Heap).get H.next=_ from gt));have hx23:=hxb.trans hx3;have hxh3:=hx2.trans hx23
 repeat' (first|(refine z0q ?_;simp (config:=qZc) (disch:=first|omega|rfl) only[sV,sD,sB,Za,reduceCtorEq,ld26,cl95,qt,qt3,isAlloc,isRead]))
 refine(zc0 (r0.mono hxh3 hw) hc hx3.wf).mono ?_;rintro v H4 ⟨hx4,out,rfl,hot⟩;obtain⟨a4,c4,cells4,rfl,-⟩:=hot.rep.six;have n4:=hx4.next;obtain⟨L,eL⟩:∃L,six (atmT s) none 0++six t a4 c4=L:=⟨_,rfl⟩
 have eL':=eL;simp only[six,List.cons_append,List.nil_append] at eL';obtain⟨H5,e5⟩:∃H5,H4.put (H2.next+4) (some (.row L 26))=H5:=⟨_,rfl⟩
 have hx5:HX H H5:=by rw[<-e5];exact(hxh3.trans hx4).put (by omega) (by omega) _
 have n5:H5.next=H4.next:=by rw[<-e5];rfl
 have g5:H5.get (H2.next+4)=some (.row L 26):=by rw[<-e5,get_put,if_pos rfl]
 repeat' (first|(refine z0q ?_;simp (config:=qZc) (disch:=first|omega|rfl) only[sD,sB,Za,Zb,Value.cells,one,reduceCtorEq,Zn,layC,zae,cl77,eL',e5,isAlloc,dalloc]))
 refine(z2t hx5.wf).mono ?_;rintro v H6 ⟨rfl,hx6⟩;have n6:=hx6.next;have g6:=hx6.get hx5.wf g5;subst eL;have hr:RepS H6 (fun n=>n=H2.next+4\/(H3.next<=n/\n < H4.next)) (typeT s t) (six (typeT s t) (some ⟨H2.next+4,0,none⟩) 2):=z6j (by decide) g6 (.inl rfl) hx6.wf (z4e hs) (hot.1.to fun n hn hl=>by
  have h1:H3.next<=n:=hn.1;have h2:n < H4.next:=hn.2;exact⟨by rw[hx6.keep n (by omega),<-e5,get_put,if_neg (by omega)],.inr ⟨h1,h2⟩,by omega⟩)
 repeat' (first|(refine z0q ?_;simp (config:=qZc) (disch:=first|omega|rfl) only[sD,sB,Za,reduceCtorEq,zo4]))
 refine(z7x hr hx6.wf (fun n hn=>by rcases hn with hn|hn<;>omega)).mono ?_;rintro v H7 ⟨hx7,he⟩;have n7:=hx7.next
 repeat' (first|(refine qZf ?_)|(refine z0q ?_;simp (config:=qZc) (disch:=first|omega|rfl) only[sD,sB,Za,Zb,reduceCtorEq,isAlloc,isRead]))
 refine z04 rfl (by simp only[sG,Za,reduceCtorEq]) ⟨(hx5.trans hx6).trans hx7,he.to fun n hn hl=>⟨rfl,?_,hl⟩⟩;rcases hn with (rfl|hn)|hn
 ·exact⟨by omega,by omega⟩
 ·exact⟨by omega,by omega⟩
 ·exact⟨by omega,by omega⟩
theorem zmj {P:Program}{tm:Tr Value}{H:Heap}{K:Tr Value->Heap->Prop}(h:K tm H):EPl P [] tm H K:=h
theorem zw1 {x y:Operand}{H:Heap}:dBin Tryd.prog .neq 20 x y .nilIface .nilIface H=some (.val (.bool false) H):=by
 cases x<;>cases y<;>kernel_rfl
theorem zqu:taZ Tryd.prog 196=some (.agg ⟨[]⟩):=by kernel_rfl
theorem z7n {n:Nat}:decide (((n:Nat):Int) > 4000)=decide (4000 < n):=by
 by_cases h:4000 < n
 ·rw[decide_eq_true h,decide_eq_true (by omega)]
 ·rw[decide_eq_false h,decide_eq_false (by omega)]
set_option maxHeartbeats 8000000 in
theorem ze4 {fn:Func}{tm:Tr Value}{K:Value->Heap->Prop}{p1 p2 p3:Nat}{H:Heap}(hK:∀H',HX H H'->EvM Tryd.prog okT fn tm [] none H' K) (hw:H.wf) :
  EvM Tryd.prog okT fn tm [⟨.fn (.func 109) #[.pointer (some ⟨p1,0,none⟩),.pointer (some ⟨p2,0,none⟩),.pointer (some ⟨p3,0,none⟩)],#[]⟩] none H K:=by
 refine EvM.recov Tryd.func109 (by decide) (by kernel_rfl) rfl rfl rfl rfl rfl ?_;refine⟨rfl,_,_,z51,zmj ?_⟩;refine EvSq.cons ?_;(repeat refine qZa ?_);refine qZb ?_;simp (config:=qZc) (disch:=first|omega|rfl) only[sB,initTm,dAlloc,Za,Zb,reduceCtorEq,ztt,ztu,drecov,z24,zma zqu];(repeat refine qZa ?_);refine qZb ?_;simp (config:=qZc) (disch:=first|omega|rfl) only[sB,Za,reduceCtorEq];refine qZm (by simp (config:=qZc) (disch:=first|omega|rfl) only[sB,Za,reduceCtorEq]) ?_;(try refine qZe ?_);(try simp only[z00,z03]);(repeat refine qZa ?_);refine qZb ?_;simp (config:=qZc) (disch:=first|omega|rfl) only[sB,Za,reduceCtorEq,zw1];refine qZm (by simp (config:=qZc) (disch:=first|omega|rfl) only[sB,Za,reduceCtorEq]) ?_;(try refine qZe ?_);(try simp only[z00,z03]);refine EvSq.nil ⟨.inl rfl,rfl,?_⟩;exact hK _ (((HX.refl hw).new _).put (Zf _) (Zg _) _)
theorem zox:(drecov (some stopCh)).1=.iface 196 (.agg #[]):=rfl
theorem zoy:dsettle (drecov (some stopCh)).2=none:=rfl
set_option maxHeartbeats 8000000 in
theorem zmk {fn:Func}{tm:Tr Value}{K:Value->Heap->Prop}{p1 p2 p3:Nat}{t:Tm}{a:Option Addr}{c:Nat}{cs8:List Value}{v3:Value}{H:Heap}(hl8:cs8.length=8) (r:RepT H t (six t a c)) (hc:checkS t=0) (g1:H.get p1=some (.row (six t a c) 26)) (g2:H.get p2=some (.row cs8 53)) (g3:H.get p3=some (.row [v3] 153)) (h23:p2≠p3)
  (hK:∀H' ev,HX H H'->RepES H' (Rg H.next H'.next) (.ball (typeT sCallable t)) ev->EvM Tryd.prog okT fn tm [] none ((H'.put p2 (some (.row zero8 53))).put p3 (some (.row [ev] 153))) K) (hw:H.wf) :
  EvM Tryd.prog okT fn tm [⟨.fn (.func 109) #[.pointer (some ⟨p1,0,none⟩),.pointer (some ⟨p2,0,none⟩),.pointer (some ⟨p3,0,none⟩)],#[]⟩] (some stopCh) H K:=by
 refine EvM.recov Tryd.func109 (by decide) (by kernel_rfl) rfl rfl rfl rfl rfl ?_;rw[zox,zoy];refine⟨rfl,_,_,z51,zmj ?_⟩;refine EvSq.cons ?_;(repeat refine qZa ?_);refine qZb ?_;simp (config:=qZc) (disch:=first|omega|rfl) only[sB,initTm,dAlloc,Za,Zb,reduceCtorEq,ztt,ztu,z24,zfm zqu];obtain⟨H2,e2,hx2,-,hn2,hw2⟩:=z0r hw (.row [] 196) (.row [] 196);simp only[e2];clear e2;have g12:=hx2.get hw g1;have q1:=row6 g12;(repeat refine qZa ?_);refine qZb ?_;simp (config:=qZc) (disch:=first|omega|rfl) only[sB,Za,reduceCtorEq];refine qZd (by simp (config:=qZc) (disch:=first|omega|rfl) only[sB,Za,reduceCtorEq]) ?_;(try refine qZe ?_);(try simp only[z00,z03]);refine qZb ?_;simp (config:=qZc) (disch:=first|omega|rfl) only[sB,Za,Zb,Value.cells,reduceCtorEq,layC,bd53,ld26,zo5,st53,q1];refine(z6k (s:=sCallable) (by decide) (r.mono hx2 hw) hc hw2).mono ?_;rintro v H3 ⟨hx3,he⟩;have hx23:=hx2.trans hx3;have n2:=hx2.next;have n3:=hx3.next;have g23:=hx23.get hw g2;have g33:=hx23.get hw g3
 have hl2:=hx23.wf _ _ g23;obtain⟨pb,ab,cb,rfl,-,-⟩:=he.rep;have e32:(p3=p2)=False:=by simp;exact fun h=>h23 h.symm
 have d8:List.drop 8 cs8=[]:=List.drop_eq_nil_of_le (by omega);have d81:(8<=cs8.length)=True:=by simp;omega
 repeat' (first|(refine z0n ?_;simp (config:=qZc) (disch:=first|omega|rfl) only[sB,Za,Zb,one,reduceCtorEq,zrp,g23,g33,e32,d8,d81]))
 refine EvSq.nil ⟨.inl rfl,rfl,?_⟩;refine hK H3 _ hx23 (he.to fun n hn hl=>⟨rfl,⟨by have:=hn.1;omega,hn.2⟩,hl⟩)
end Go.Proofs.hq
end

section
namespace Go.Hb
open Go Go.RowKit
theorem z6l {P:Program}{ok:Ok}{fn:Func}{tm:Tr Value}{H:Heap}{K:Value->Heap->Prop}{a b:Tmp}{t t':TypeId}{ad bd:Addr}{v u:Value}(h:fn.results.toList=[.cell a t,.cell b t']) (ha:tm.get a=some (.pointer (some ad))) (hv:dLoad P t (.pointer (some ad)) H=some (.val v H))
  (hb:tm.get b=some (.pointer (some bd))) (hu:dLoad P t' (.pointer (some bd)) H=some (.val u H)) (hk:K (.tuple ⟨[v,u]⟩) H):EvM P ok fn tm [] none H K:=by
 refine EvM.now (v:=.tuple ⟨[v,u]⟩) ?_ hk;have key:∀{t:TypeId}{ad:Addr}{v:Value},dLoad P t (.pointer (some ad)) H=some (.val v H)->dload P t ad H=some v:=fun {t ad v} hd=>by
  unfold dLoad at hd;simp only at hd;cases h1:dload P t ad H with
  |none=>rw[h1] at hd;simp at hd
  |some w=>rw[h1] at hd;simp at hd;rw[hd]
 simp [dres,h,dresL,dres1,ha,hb,key hv,key hu]
end Go.Hb
namespace Go.Proofs.hq
open Go Go.RowKit Go.Hb
variable {ok:Ok}
set_option maxRecDepth 10000
attribute [local irreducible] LX LG EL STG SOP SGO SGD SAL SRD SEF SEG SLK SCK ES
theorem zc5 {n:Nat}:Few n zeroT:=.mk (Zo _) fun u hu=>by cases hu
theorem zhr {t:Tm}(h:Few 64 t):Few 64 (cmpT sCall [t]):=.mk (by show 1<=64;decide) fun u hu=>by
 have:u=t:=by simpa [cmpT,Tm.args] using hu
 rw[this];exact h
theorem z7y {t:Tm}(h:Fine t):Few 64 t:=Fine.few _ (Zg _) h
theorem FewB.leaf {n:Nat}{k:Int}{t:Tm}(h:Few n t):FewB n (.mk k t []):=.mk (Zo _) h fun u hu=>by cases hu
theorem ze5 {f:Tm->Option Bdy}{n:Nat}:∀{l:List Tm}{bs:List Bdy},(∀t∈l,∀b,f t=some b->FewB n b)->subBL f l=some bs->∀b∈bs,FewB n b
 |[],bs,_,h=>by cases h;intro b hb;cases hb
 |u :: l,bs,hf,h=>by
  rw[subBL] at h;split at h
  ·rename_i c cs h1 h2;cases h;intro b hb;rcases List.mem_cons.1 hb with rfl|hb
   ·exact hf u (by simp) _ h1
   ·exact ze5 (fun t ht=>hf t (Zm _ ht)) h2 b hb
  ·cases h
theorem z6m {f:Tm->Option Bdy}{n:Nat}{k:Int}{l:List Tm}{b:Bdy}(hl:l.length<=n) (hf:∀t∈l,∀b,f t=some b->FewB n b) (h:subBF f k l=some b):FewB n b:=by
 unfold subBF at h;cases hs:subBL f l with
 |none=>rw[hs] at h;cases h
 |some bs =>
  rw[hs] at h;cases h;exact .mk (by show bs.length<=n;rw[zhq hs];exact hl) zc5 (ze5 hf hs)
theorem zao {t:Tm}{i:Nat}(h:i < t.args.length):t.at i∈t.args:=by
 unfold Tm.at;rw[List.getD_eq_getElem?_getD,Zc h];exact Zz h
theorem z9f:∀{m:Nat}{t:Tm}{b:Bdy},Fine t->bodyF m t=some b->FewB 64 b
 |0,t,b,_,h=>by cases h
 |m+1,t,b,hf,h=>by
  have ih:∀u,Fine u->∀b,bodyF m u=some b->FewB 64 b:=fun u hu b hb=>z9f hu hb
  have hl:=z58 hf;have hargs:∀u∈t.args,∀b,bodyF m u=some b->FewB 64 b:=fun u hu=>ih u (hf.args u hu)
  rw[bodyF] at h;split at h
  ·cases h
  split at h
  ·cases h;exact .leaf (zhr (z7y hf))
  split at h
  ·cases h;exact .leaf zc5
  split at h
  ·cases h;exact .leaf zc5
  split at h
  ·rename_i hF;unfold withinF at h;split at h
   ·cases h
   split at h
   ·cases h;exact .leaf (zhr (z7y hf))
   cases hb:bodyF m (t.at 1) with
   |none=>rw[hb] at h;cases h
   |some c =>
    rw[hb] at h;cases h;refine .mk (by show 1<=64;decide) (z7y (hf.args _ (zao (by rw[hF.2.2];decide)))) fun u hu=>?_
    have:u=c:=by simpa [Bdy.sub] using hu
    subst this;exact hargs _ (zao (by rw[hF.2.2];decide)) _ hb
  split at h
  ·exact z6m hl hargs h
  split at h
  ·exact z6m hl hargs h
  split at h
  ·rename_i hF;have hx:=hf.args _ (zao (i:=0) (by rw[hF.1.2.2];decide));refine z6m (by show 3<=64;decide) (fun u hu=>?_) h;have hu':u∈(t.at 0).args\/u∈t.args:=by
    simp only[List.mem_cons,List.not_mem_nil,or_false] at hu;rcases hu with rfl|rfl|rfl
    ·exact .inl (zao (by rw[hF.2.2.2];decide))
    ·exact .inl (zao (by rw[hF.2.2.2];decide))
    ·exact .inr (zao (by rw[hF.1.2.2];decide))
   rcases hu' with hu|hu
   ·exact ih u (hx.args u hu)
   ·exact hargs u hu
  split at h
  ·exact z6m hl hargs h
  ·cases h;exact .leaf (z7y hf)
theorem FewB.up {n m:Nat}{b:Bdy}(f:FewB n b) (h:n<=m):FewB m b:=by
 induction f with
 |mk h1 h2 _ ih=>exact .mk (Zk h1 h) (h2.up h) ih
def ReadyEnd (H:Heap) (t:Tm) (v:Value) (H':Heap):Prop:=HX H H'/\∃out ev,v=.tuple ⟨[.agg ⟨out⟩,ev]⟩/\OB H' 53 26 (Rg H.next H'.next) (readyS t).1 out/\RepES H' (Rg H.next H'.next) (readyS t).2 ev
set_option maxHeartbeats 16000000 in
theorem z9g {t:Tm}{cs:List Value}{H:Heap}(r0:RepT H t cs) (hw:H.wf):EvF Tryd.prog okT 94 [.agg ⟨cs⟩] H (ReadyEnd H t):=by
 obtain⟨a,c,cells,rfl,-⟩:=r0.six;refine EvF.enterM rfl Tryd.func94 (by decide) rfl ?_;(repeat refine qZa ?_);refine qZb ?_;simp (config:=qZc) (disch:=first|omega|rfl) only[sB,initTm,dBox,dAlloc,Value.cells,one,zr53,zvl];obtain⟨H2,e2,hx2,gt,gb,ge,hn2,hw2⟩:=zw0 hw (.row (six t a c) 26) (.row zero8 53) (.row [.nilIface] 153);simp only[e2];clear e2;have ge:H2.get (H.next+1+1)=some (.row [.nilIface] 153):=ge;have qt:=row6 gt;have hlt:=hw2 _ _ ge;(repeat refine qZa ?_);refine qZb ?_;simp (config:=qZc) (disch:=first|omega|rfl) only[sB,Za,reduceCtorEq,ld26,cl74,qt];refine(z2n t _ _ (r0.mono hx2 hw) hw2).mono ?_;rintro v H3 ⟨rfl,hx3⟩;have gt3:=hx3.get hw2 gt;have gb3:=hx3.get hw2 gb;have ge3:=hx3.get hw2 ge;have hx:=hx2.trans hx3;have n3:=hx3.next;have hww:=hx.wf;have qb3:=row8 gb3;have qt3:=row6 gt3;have ne1:(H.next+2=H.next+1)=False:=by simp
 by_cases h0:checkS t=0;rotate_left
 ·repeat' (first|refine qZa ?_|(refine qZf ?_;try simp only[z06,z01])|(refine qZb ?_;simp (config:=qZc) (disch:=first|omega|rfl) only[sB,Za,Zb,one,reduceCtorEq,ld53,st53,zrp,z1y h0,gb3,ge3,qb3,z1e,z9b zme,ne1])|(refine qZd ?_ ?_;simp (config:=qZc) (disch:=first|omega|rfl) only[sB,Za,reduceCtorEq];refine z05 ?_))
  have hrs:readyS t=(zeroB,.num (checkS t)):=by unfold readyS;rw[if_pos h0]
  refine z6l rfl (by simp only[sB,Za,reduceCtorEq];rfl) (by simp only[sB,Zb,cutC,ld53,neu];rfl) (by simp only[sB,Za,reduceCtorEq];rfl) (by simp only[sB,Za,cutC,zo9];rfl) ⟨(hx.pt (by omega) gb3 _).pt (i:=H.next+1+1) (by omega) (by rw[get_put,if_neg (by omega)];exact ge3) _,_,_,rfl,?_,?_⟩
  ·rw[hrs];exact OB.nil (by decide)
  ·rw[hrs];exact RepES.num
 (repeat refine qZa ?_);refine qZb ?_;simp (config:=qZc) (disch:=first|omega|rfl) only[sB,Za,reduceCtorEq,z0x h0];refine qZm (by simp (config:=qZc) (disch:=first|omega|rfl) only[sB,Za,reduceCtorEq]) ?_;(try refine qZe ?_);(try simp only[z00,z03]);(repeat refine qZa ?_);refine qZb ?_;simp (config:=qZc) (disch:=first|omega|rfl) only[sB,Za,reduceCtorEq,List.map_toArray,zjd,zmb,zug];have hlt3:=hww _ _ ge3;cases ho:bodyF (SizeOf.sizeOf t+1) t with
 |none =>
  have hrs:readyS t=(zeroB,.ball (typeT sCallable t)):=by unfold readyS;rw[if_neg (fun h=>h h0),ho]
  (repeat refine qZa ?_);refine EvC.regP 1 _ rfl rfl ?_;simp (config:=qZc) (disch:=first|omega|rfl) only[sB,Za,reduceCtorEq,ld26,zo8,z74,qt3];refine EvG.toP (zc2 _ (Zg _) (r0.mono hx hw) h0 hww) ?_;rintro e H5 ⟨hx5,he⟩;rw[ho] at he;refine⟨_,he,?_⟩;have hxf:=hx.trans hx5;have n5:=hx5.next;have gb5:=hx5.get hww gb3;have ge5:=hx5.get hww ge3;refine zmk (H:=H5) (cs8:=zero8) rfl (r0.mono hxf hw) h0 (hx5.get hww gt3) gb5 ge5 (by omega) (fun H6 ev hx6 he6=>?_) hxf.wf;have gb6:=hx6.get hxf.wf gb5;have ge6:=hx6.get hxf.wf ge5;have n6:=hx6.next;have hx16:=hxf.trans hx6;refine z6l rfl (by simp only[sB,Za,reduceCtorEq];rfl) (by simp only[sB,Zb,cutC,ld53,neu];rfl) (by simp only[sB,Za,reduceCtorEq];rfl) (by simp only[sB,Za,cutC,zo9];rfl) ⟨(hx16.pt (by omega) gb6 _).pt (i:=H.next+1+1) (by omega) (by rw[get_put,if_neg (by omega)];exact ge6) _,_,_,rfl,?_,?_⟩
  ·rw[hrs];exact OB.nil (by decide)
  ·rw[hrs];refine he6.to fun n hn hl=>?_
   have:=hn.1;exact⟨by rw[get_put,if_neg (by omega),get_put,if_neg (by omega)],⟨by omega,by rw[z07,z07];exact hl⟩,by rw[z07,z07];exact hl⟩
 |some bd =>
  (repeat refine qZa ?_);refine qZb ?_;simp (config:=qZc) (disch:=first|omega|rfl) only[sB,Za,reduceCtorEq,ld26,zo8,qt3];refine EvG.toF (zc2 _ (Zg _) (r0.mono hx hw) h0 hww) ?_;rintro e H5 ⟨hx5,he⟩;rw[ho] at he;obtain⟨out,rfl,hob⟩:=he;refine⟨_,rfl,?_⟩;obtain⟨ta,tc,sa,sc,rfl⟩:=hob.rep.eight;have hxf:=hx.trans hx5;have n5:=hx5.next;have gb5:=hx5.get hww gb3;have ge5:=hx5.get hww ge3;(try simp (config:=qZc) (disch:=first|omega|rfl) only[sB,Zb,one,st53,gb5]);obtain⟨H6,e6⟩:∃H6,H5.put (H.next+1) (some (.row (eightT bd.kind bd.term ta tc sa bd.sub.length sc) 53))=H6:=⟨_,rfl⟩
  simp only[e6];have hx6:HX H H6:=by rw[<-e6];exact hxf.pt (by omega) gb5 _
  have n6:H6.next=H5.next:=by rw[<-e6];rfl
  have gb6:H6.get (H.next+1)=some (.row (eightT bd.kind bd.term ta tc sa bd.sub.length sc) 53):=by rw[<-e6,get_put,if_pos rfl]
  have ge6:H6.get (H.next+1+1)=some (.row [.nilIface] 153):=by rw[<-e6,get_put,if_neg (by omega)];exact ge5
  have qb6:=row8 gb6;have hob6:OB H6 53 26 (Rg H3.next H5.next) bd (eightT bd.kind bd.term ta tc sa bd.sub.length sc):=hob.to (fun n hn hl=>⟨by have:=hn.1;rw[<-e6,get_put,if_neg (by omega)],by omega⟩) fun _ hn=>hn
  have hfew:=(z9f (z0h.1 h0).2 ho).up (m:=1000000) (by decide);(repeat refine qZa ?_);refine qZb ?_;simp (config:=qZc) (disch:=first|omega|rfl) only[sB,Za,reduceCtorEq,ld53,cl93,cl75,qb6];refine(zc3 (Zg _) hob6.bi hfew (fun n hn=>by have:=hn.2;omega) hx6.wf).mono ?_;rintro v H7 ⟨hx7,outT,rfl,hrT⟩
  skip
  refine(z1i _ _ _ hrT.rep hx7.wf).mono ?_;rintro v H8 ⟨rfl,hx8⟩;have hx68:=hx7.trans hx8;have n7:=hx7.next;have n8:=hx8.next;have gb8:=hx68.get hx6.wf gb6;have ge8:=hx68.get hx6.wf ge6;have qb8:=row8 gb8;have hx18:=hx6.trans hx68;(try simp (config:=qZc) (disch:=first|omega|rfl) only[sA]);by_cases h4:4000 < cnt (toldB bd) 0
  ·have hd:decide (((cnt (toldB bd) 0:Nat):Int) > 4000)=true:=by rw[z7n];exact decide_eq_true h4
   have hrs:readyS t=(zeroB,.ball (resT sNodes)):=by unfold readyS;rw[if_neg (fun h=>h h0),ho];simp only;rw[if_pos h4]
   refine qZd (by simp (config:=qZc) (disch:=first|omega|rfl) only[sB,Za,reduceCtorEq,hd]) ?_;(try refine qZe ?_);(try simp only[z00,z03]);(repeat refine qZa ?_);refine qZb ?_;simp (config:=qZc) (disch:=first|omega|rfl) only[sB,Za,Zb,Value.cells,reduceCtorEq,layC,st53,bd53,zro];refine(zc4 (s:=sNodes) (by decide) hx18.wf).mono ?_;rintro v H9 ⟨hx9,he9⟩;obtain⟨pb,ab,cb,rfl,-,-⟩:=he9.rep;have n9:=hx9.next;have gb9:=hx9.get hx18.wf gb8;have ge9:=hx9.get hx18.wf ge8
   repeat' (first|(refine qZf ?_;try simp only[z06,z01])|(refine z0n ?_;simp (config:=qZc) (disch:=first|omega|rfl) only[sB,Za,Zb,one,reduceCtorEq,zrp,gb9,ge9,ne1]))
   obtain⟨H9',e9⟩:∃H9',(H9.put (H.next+1) (some (.row zero8 53))).put (H.next+1+1) (some (.row [.iface 184 (.pointer (some ⟨pb,0,none⟩))] 153))=H9':=⟨_,rfl⟩
   have g1:H9'.get (H.next+1)=some (.row zero8 53):=by rw[<-e9,get_put,if_neg (by omega),get_put,if_pos rfl]
   have g2:H9'.get (H.next+1+1)=some (.row [.iface 184 (.pointer (some ⟨pb,0,none⟩))] 153):=by rw[<-e9,get_put,if_pos rfl]
   have hx9':HX H H9':=by rw[<-e9];exact((hx18.trans hx9).pt (by omega) gb9 _).pt (i:=H.next+1+1) (by omega) (by rw[get_put,if_neg (by omega)];exact ge9) _
   have n9':H9'.next=H9.next:=by rw[<-e9];rfl
   have he9':RepES H9' (Rg H8.next H9.next) (.ball (resT sNodes)) (.iface 184 (.pointer (some ⟨pb,0,none⟩))):=he9.to fun n hn hl=>⟨by have:=hn.1;rw[<-e9,get_put,if_neg (by omega),get_put,if_neg (by omega)],hn,by omega⟩
   simp only[e9];refine ze4 (H:=H9') (fun H10 hx10=>?_) hx9'.wf;have g1':=hx10.get hx9'.wf g1;have q1':=row8 g1';have q2':=row1 (hx10.get hx9'.wf g2);have n10:=hx10.next;refine z6l rfl (by simp only[sB,Za,reduceCtorEq];rfl) (by simp only[sA,ld53,q1'];rfl) (by simp only[sB,Za,reduceCtorEq];rfl) (by simp only[sA,zo9,q2'];rfl) ⟨hx9'.trans hx10,_,_,rfl,?_,?_⟩
   ·rw[hrs];exact OB.nil (by decide)
   ·rw[hrs];exact he9'.to fun n hn hl=>⟨hx10.keep n hl,⟨by have:=hn.1;omega,by have:=hn.2;omega⟩,by omega⟩
  ·have hd:decide (((cnt (toldB bd) 0:Nat):Int) > 4000)=false:=by rw[z7n];exact decide_eq_false h4
   have hrs:readyS t=(bd,.ok):=by unfold readyS;rw[if_neg (fun h=>h h0),ho];simp only;rw[if_neg h4]
   refine qZm (by simp (config:=qZc) (disch:=first|omega|rfl) only[sB,Za,reduceCtorEq,hd]) ?_;(try refine qZe ?_);(try simp only[z00,z03])
   repeat' (first|refine qZa ?_|(refine qZf ?_)|(refine qZb ?_;simp (config:=qZc) (disch:=first|omega|rfl) only[sB,Za,Zb,one,reduceCtorEq,ld53,st53,zts,gb8,ge8,qb8,ne1]))
   obtain⟨H9',e9⟩:∃H9',(H8.put (H.next+1) (some (.row (eightT bd.kind bd.term ta tc sa bd.sub.length sc) 53))).put (H.next+1+1) (some (.row [.nilIface] 153))=H9':=⟨_,rfl⟩
   have g1:H9'.get (H.next+1)=some (.row (eightT bd.kind bd.term ta tc sa bd.sub.length sc) 53):=by rw[<-e9,get_put,if_neg (by omega),get_put,if_pos rfl]
   have g2:H9'.get (H.next+1+1)=some (.row [.nilIface] 153):=by rw[<-e9,get_put,if_pos rfl]
   have hx9':HX H H9':=by rw[<-e9];exact(hx18.pt (by omega) gb8 _).pt (i:=H.next+1+1) (by omega) (by rw[get_put,if_neg (by omega)];exact ge8) _
   have n9':H9'.next=H8.next:=by rw[<-e9];rfl
   have hob9:OB H9' 53 26 (Rg H3.next H5.next) bd (eightT bd.kind bd.term ta tc sa bd.sub.length sc):=hob6.to (fun n hn hl=>⟨by have:=hn.1;rw[<-e9,get_put,if_neg (by omega),get_put,if_neg (by omega)];exact hx68.keep n hl,by omega⟩) fun _ hn=>hn
   simp only[e9];refine ze4 (H:=H9') (fun H10 hx10=>?_) hx9'.wf;have g1':=hx10.get hx9'.wf g1;have q1':=row8 g1';have q2':=row1 (hx10.get hx9'.wf g2);have n10:=hx10.next;refine z6l rfl (by simp only[sB,Za,reduceCtorEq];rfl) (by simp only[sA,ld53,q1'];rfl) (by simp only[sB,Za,reduceCtorEq];rfl) (by simp only[sA,zo9,q2'];rfl) ⟨hx9'.trans hx10,_,_,rfl,?_,?_⟩
   ·rw[hrs];exact(hob9.keep hx10).sub fun n hn=>⟨by have:=hn.1;omega,by have:=hn.2;omega⟩
   ·rw[hrs];exact RepES.fine
end Go.Proofs.hq
end

section
namespace Go.Proofs.hq
open Go Go.RowKit Go.Hb
variable {ok:Ok}
set_option maxRecDepth 10000
attribute [local irreducible] LX LG EL STG SOP SGO SGD SAL SRD SEF SEG SLK SCK ES
section
variable {f:Int->Int}
abbrev ren (f:Int->Int) (t:Tm):Tm:=sub (fun n=>varT (f n)) t
theorem z9h {t:Tm}(h:t.kind=1):ren f t=varT (f t.var):=z96 h
theorem z4g {t:Tm}(h:t.kind≠1):ren f t=.mk t.kind t.name t.num t.bits t.var (t.args.map (ren f)):=zlu h
theorem zhs:∀(m:Nat) {t:Tm},SizeOf.sizeOf t < m->Fine t->nd (ren f t)=nd t
 |0,t,h,_=>by omega
 |m+1,t,h,hf=>by
  by_cases k:t.kind=1
  ·rw[z9h k];have h1:nd t=1:=by rw[z1m,z6g hf k];rfl
   rw[h1];rfl
  ·rw[z1m (ren f t),z1m t,show (ren f t).args=t.args.map (ren f) by rw[z4g k];rfl];have go:∀l:List Tm,(∀u∈l,SizeOf.sizeOf u < m/\Fine u)->nd.ndL (l.map (ren f))=nd.ndL l:=by
    intro l
    induction l with
    |nil=>intro _;rfl
    |cons x l ih =>
     intro hl;rw[Zx,nd.ndL,nd.ndL,zhs m (hl x (by simp)).1 (hl x (by simp)).2,ih fun u hu=>hl u (by simp [hu])]
   rw[go t.args fun u hu=>⟨by have:=z0g hu;omega,hf.args u hu⟩]
theorem zc6:∀(m:Nat) {t:Tm},SizeOf.sizeOf t < m->Fine t->occ (ren f t)=(occ t).map f
 |0,t,h,_=>by omega
 |m+1,t,h,hf=>by
  by_cases k:t.kind=1
  ·rw[z9h k,z3f,z3f t,z6g hf k,if_pos k];rfl
  ·rw[z3f (ren f t),z3f t,if_neg k,show (ren f t).args=t.args.map (ren f) by rw[z4g k];rfl,if_neg (by rw[z4g k];exact k)];have go:∀l:List Tm,(∀u∈l,SizeOf.sizeOf u < m/\Fine u)->occL (l.map (ren f))=(occL l).map f:=by
    intro l
    induction l with
    |nil=>intro _;rfl
    |cons x l ih =>
     intro hl;rw[Zx,occL,occL,zc6 m (hl x (by simp)).1 (hl x (by simp)).2,ih fun u hu=>hl u (by simp [hu]),ZB]
   simpa using go t.args fun u hu=>⟨by have:=z0g hu;omega,hf.args u hu⟩
theorem zht {l:List Tm}(h:∀u∈l,Fine u):occL (l.map (ren f))=(occL l).map f:=by
 induction l with
 |nil=>rfl
 |cons x l ih=>rw[Zx,occL,occL,zc6 _ (Zg _) (h x (by simp)),ih fun u hu=>h u (by simp [hu]),ZB]
theorem z5c (l:List Tm):plainL l=l.map (ren (plcZ (uniq (occL l)))):=_root_.id rfl
theorem zc7 {t:Tm}(hf:∀n,0<=f n) (h:checkS t=0):checkS (ren f t)=0:=by
 obtain⟨h1,h2⟩:=z0h.1 h;refine z0h.2 ⟨?_,zhm (fun n _=>zhl (hf n)) _ t (Zg _) h2⟩;have h3:=zaj _ t (Zg _) 0 h1;have h4:=zhs (f:=f) _ (Zg _) h2;rw[z3z _ _ (Zg _) 0 (by omega)];omega
theorem _root_.Go.Hb.FL.repD {H:Heap}{T:TypeId}{S:Nat->Prop}{l:List Tm}{a:Option Addr}{c:Nat}(h:FL H T S l a c) (hw:H.wf):∃cells,∀G:Heap,(∀n,S n->n < H.next->G.get n=H.get n)->RepL G l a c cells:=by
 cases h with
 |nil=>exact⟨fun _=>[],fun G _=>⟨Zf _,Zo _,fun _=>⟨rfl,rfl⟩,fun i ad hi=>by simp at hi,fun i t h=>by simp at h⟩⟩
 |row _ _ b c cells Si ai ci h1 h2 h3 h4 h5 h6 h7 h8 h9 h10 h11 =>
  refine⟨fun i=>(cells.drop (i*6)).take 6,fun G hk=>RepL.of_row (by rw[hk b h7 (hw b _ h3)];exact h3) (fun i hi=>rfl) (fun i t ht=>?_) h1 h2⟩;show RepT G t ((cells.drop (i*6)).take 6);rw[h5 i t ht];exact RepF.rep (T:=T) (S:=Si i) ⟨ai i,ci i,rfl,h6 i t ht,(h11 i t ht).heap (fun n hn hl=>hk n (h9 i n (List.getElem?_eq_some_iff.1 ht).1 hn) hl) hw⟩
theorem _root_.Go.Hb.FL.elS {H:Heap}{T:TypeId}{S:Nat->Prop}{l:List Tm}{a:Option Addr}{c:Nat}(h:FL H T S l a c) (hw:H.wf) {i:Nat}(hi:i < l.length):∃b o a1 c1,a=some ⟨b,o,none⟩/\H.load ⟨b,o+i*6,none⟩ 6=some (six l[i] a1 c1)/\RepS H S l[i] (six l[i] a1 c1):=by
 obtain⟨cells,hc⟩:=h.repD hw;have he:=Zc hi;obtain⟨b,o,rfl,hl,hr⟩:=(hc H fun _ _ _=>rfl).at he;obtain⟨a1,c1,-,h3,-⟩:=hr.six;rw[h3] at hl;exact⟨b,o,a1,c1,rfl,hl,fun G hG=>by rw[<-h3];exact(hc G hG).rep i _ he⟩
end
abbrev isF2 (t:Tm) (s:ByteArray) (x y:Tm):Prop:=t.kind=5/\t.name=s/\t.args=[x,y]
theorem isF2.f {t x y:Tm}{s:ByteArray}(h:isF2 t s x y):isF t s:=⟨h.1,h.2.1,by rw[h.2.2];rfl⟩
theorem isF2.a0 {t x y:Tm}{s:ByteArray}(h:isF2 t s x y):t.at 0=x:=by unfold Tm.at;rw[h.2.2];rfl
theorem isF2.a1 {t x y:Tm}{s:ByteArray}(h:isF2 t s x y):t.at 1=y:=by unfold Tm.at;rw[h.2.2];rfl
theorem isF.two {t:Tm}{s:ByteArray}(h:isF t s):∃x y,isF2 t s x y:=by
 obtain⟨h1,h2,h3⟩:=h
 match hl:t.args,h3 with
 |[x,y],_=>exact⟨x,y,h1,h2,hl⟩
theorem isF.ne {t:Tm}{s u:ByteArray}(h:isF t s) (hs:s≠u):¬isF t u:=fun k=>hs (h.2.1.symm.trans k.2.1)
structure Oth (t:Tm):Prop where
 num:¬isNum t
 var:t.kind≠1
 tru:¬(t.kind=2/\t.name=sTrue)
 cut:¬(t.kind=2/\t.name=sExc)
 col:¬isF t sCol
 cma:¬isF t sCma
 arr:¬isF t sArr
 sem:¬isF t sSem
inductive BdR:Tm->Bdy->Prop
 |var {t}:t.kind=1->BdR t (callB t)
 |tru {t}:t.kind=2->t.name=sTrue->BdR t (.mk 1 zeroT [])
 |cut {t}:t.kind=2->t.name=sExc->BdR t (.mk 2 zeroT [])
 |mcall {t x y}:isF2 t sCol x y->(x.kind=1\/x.kind=2)->¬isNum y->(x.kind=1\/y.kind=1)->BdR t (callB t)
 |mod {t x y b}:isF2 t sCol x y->x.kind=2->y.kind≠1->¬isNum y->BdR y b->BdR t (.mk 7 x [b])
 |and {t x y b d}:isF2 t sCma x y->BdR x b->BdR y d->BdR t (.mk 4 zeroT [b,d])
 |arr {t x y b d}:isF2 t sArr x y->BdR x b->BdR y d->BdR t (.mk 6 zeroT [b,d])
 |ite {t x y u w b d e}:isF2 t sSem x y->isF2 x sArr u w->BdR u b->BdR w d->BdR y e->BdR t (.mk 6 zeroT [b,d,e])
 |or {t x y b d}:isF2 t sSem x y->¬isF x sArr->BdR x b->BdR y d->BdR t (.mk 5 zeroT [b,d])
 |call {t}:Oth t->BdR t (.mk 3 t [])
theorem zsn {f:Tm->Option Bdy}{k:Int}{x y:Tm}{b:Bdy}(h:subBF f k [x,y]=some b):∃b1 b2,f x=some b1/\f y=some b2/\b=.mk k zeroT [b1,b2]:=by
 unfold subBF at h;simp only[subBL] at h;cases h1:f x<;>cases h2:f y<;>simp [h1,h2] at h
 exact⟨_,_,rfl,rfl,h.symm⟩
theorem zw2 {f:Tm->Option Bdy}{k:Int}{x y z:Tm}{b:Bdy}(h:subBF f k [x,y,z]=some b):∃b1 b2 b3,f x=some b1/\f y=some b2/\f z=some b3/\b=.mk k zeroT [b1,b2,b3]:=by
 unfold subBF at h;simp only[subBL] at h;cases h1:f x<;>cases h2:f y<;>cases h3:f z<;>simp [h1,h2,h3] at h
 exact⟨_,_,_,rfl,rfl,rfl,h.symm⟩
theorem zml:∀{m:Nat}{t:Tm}{b:Bdy},bodyF m t=some b->BdR t b:=by
 intro m
 induction m with
 |zero=>intro t b h;cases h
 |succ m ih =>
  intro t b h;rw[bodyF] at h;by_cases h1:isNum t
  ·rw[if_pos h1] at h;cases h
  rw[if_neg h1] at h;by_cases h2:t.kind=1
  ·rw[if_pos h2] at h;cases h;exact .var h2
  rw[if_neg h2] at h;by_cases h3:t.kind=2/\t.name=sTrue
  ·rw[if_pos h3] at h;cases h;exact .tru h3.1 h3.2
  rw[if_neg h3] at h;by_cases h4:t.kind=2/\t.name=sExc
  ·rw[if_pos h4] at h;cases h;exact .cut h4.1 h4.2
  rw[if_neg h4] at h;by_cases h5:isF t sCol
  ·rw[if_pos h5] at h;obtain⟨x,y,hf⟩:=h5.two;unfold withinF at h;rw[hf.a0,hf.a1] at h;by_cases k1:isNum y\/(x.kind≠2/\x.kind≠1)
   ·rw[if_pos k1] at h;cases h
   rw[if_neg k1] at h;by_cases k2:x.kind=1\/y.kind=1
   ·rw[if_pos k2] at h;cases h;exact .mcall hf (by omega) (fun q=>k1 (.inl q)) k2
   rw[if_neg k2] at h;cases hb:bodyF m y<;>rw[hb] at h<;>cases h
   exact .mod hf (by omega) (by omega) (fun q=>k1 (.inl q)) (ih hb)
  rw[if_neg h5] at h;by_cases h6:isF t sCma
  ·rw[if_pos h6] at h;obtain⟨x,y,hf⟩:=h6.two;rw[hf.2.2] at h;obtain⟨b1,b2,e1,e2,rfl⟩:=zsn h;exact .and hf (ih e1) (ih e2)
  rw[if_neg h6] at h;by_cases h7:isF t sArr
  ·rw[if_pos h7] at h;obtain⟨x,y,hf⟩:=h7.two;rw[hf.2.2] at h;obtain⟨b1,b2,e1,e2,rfl⟩:=zsn h;exact .arr hf (ih e1) (ih e2)
  rw[if_neg h7] at h;by_cases h8:isF t sSem/\isF (t.at 0) sArr
  ·rw[if_pos h8] at h;obtain⟨x,y,hf⟩:=h8.1.two;rw[hf.a0] at h8;obtain⟨u,w,hg⟩:=h8.2.two;rw[hf.a0,hf.a1,hg.a0,hg.a1] at h;obtain⟨b1,b2,b3,e1,e2,e3,rfl⟩:=zw2 h;exact .ite hf hg (ih e1) (ih e2) (ih e3)
  rw[if_neg h8] at h;by_cases h9:isF t sSem
  ·rw[if_pos h9] at h;obtain⟨x,y,hf⟩:=h9.two;rw[hf.2.2] at h;obtain⟨b1,b2,e1,e2,rfl⟩:=zsn h;exact .or hf (fun q=>h8 ⟨h9,by rw[hf.a0];exact q⟩) (ih e1) (ih e2)
  rw[if_neg h9] at h;cases h;exact .call ⟨h1,h2,h3,h4,h5,h6,h7,h9⟩
theorem isF2.lt {t x y:Tm}{s:ByteArray}(h:isF2 t s x y):SizeOf.sizeOf x < SizeOf.sizeOf t/\SizeOf.sizeOf y < SizeOf.sizeOf t:=⟨z0g (by rw[h.2.2];simp),z0g (by rw[h.2.2];simp)⟩
theorem isF.nn {t:Tm}{s:ByteArray}(h:isF t s):¬isNum t/\t.kind≠1/\∀u,¬(t.kind=2/\t.name=u):=by
 have:=h.1;exact⟨fun q=>by rcases q with q|q<;>omega,by omega,fun u q=>by omega⟩
theorem zhu:∀{m:Nat}{t:Tm}{b:Bdy},SizeOf.sizeOf t < m->BdR t b->bodyF m t=some b:=by
 intro m
 induction m with
 |zero=>intro t b h;omega
 |succ m ih =>
  intro t b hs h;have go:∀{s:ByteArray},isF t s->bodyF (m+1) t=(if isF t sCol then withinF (bodyF m) t
    else if isF t sCma then subBF (bodyF m) 4 t.args
    else if isF t sArr then subBF (bodyF m) 6 t.args
    else if isF t sSem/\isF (t.at 0) sArr then subBF (bodyF m) 6 [(t.at 0).at 0,(t.at 0).at 1,t.at 1]
    else if isF t sSem then subBF (bodyF m) 5 t.args
    else some (.mk 3 t [])):=fun hf=>by
   obtain⟨h1,h2,h3⟩:=hf.nn;rw[bodyF,if_neg h1,if_neg h2,if_neg (h3 _),if_neg (h3 _)]
  cases h with
  |var h=>rw[bodyF,if_neg (fun q=>by rcases q with q|q<;>omega),if_pos h]
  |tru h1 h2=>rw[bodyF,if_neg (fun q=>by rcases q with q|q<;>omega),if_neg (by omega),if_pos ⟨h1,h2⟩]
  |cut h1 h2=>rw[bodyF,if_neg (fun q=>by rcases q with q|q<;>omega),if_neg (by omega),if_neg (fun q=>by rw[h2] at q;exact absurd q.2 (by decide)),if_pos ⟨h1,h2⟩]
  |mcall hf h1 h2 h3 =>
   rw[go hf.f,if_pos hf.f];unfold withinF;rw[hf.a0,hf.a1,if_neg (fun q=>by rcases q with q|q;exact h2 q;omega),if_pos h3]
  |mod hf h1 h2 h3 hb =>
   rw[go hf.f,if_pos hf.f];unfold withinF;rw[hf.a0,hf.a1,if_neg (fun q=>by rcases q with q|q;exact h3 q;omega),if_neg (by omega),ih (by have:=hf.lt;omega) hb];rfl
  |and hf hb hd =>
   rw[go hf.f,if_neg (hf.f.ne (by decide)),if_pos hf.f,hf.2.2];unfold subBF;simp only[subBL,ih (by have:=hf.lt;omega) hb,ih (by have:=hf.lt;omega) hd];rfl
  |arr hf hb hd =>
   rw[go hf.f,if_neg (hf.f.ne (by decide)),if_neg (hf.f.ne (by decide)),if_pos hf.f,hf.2.2];unfold subBF;simp only[subBL,ih (by have:=hf.lt;omega) hb,ih (by have:=hf.lt;omega) hd];rfl
  |ite hf hg hb hd he =>
   have l1:=hf.lt;have l2:=hg.lt;rw[go hf.f,if_neg (hf.f.ne (by decide)),if_neg (hf.f.ne (by decide)),if_neg (hf.f.ne (by decide)),if_pos ⟨hf.f,by rw[hf.a0];exact hg.f⟩,hf.a0,hf.a1,hg.a0,hg.a1];unfold subBF;simp only[subBL,ih (by omega) hb,ih (by omega) hd,ih (by omega) he];rfl
  |or hf hn hb hd =>
   rw[go hf.f,if_neg (hf.f.ne (by decide)),if_neg (hf.f.ne (by decide)),if_neg (hf.f.ne (by decide)),if_neg (fun q=>hn (by rw[hf.a0] at q;exact q.2)),if_pos hf.f,hf.2.2];unfold subBF;simp only[subBL,ih (by have:=hf.lt;omega) hb,ih (by have:=hf.lt;omega) hd];rfl
  |call h=>rw[bodyF,if_neg h.num,if_neg h.var,if_neg h.tru,if_neg h.cut,if_neg h.col,if_neg h.cma,if_neg h.arr,if_neg (fun q=>h.sem q.1),if_neg h.sem]
theorem z1k {t:Tm}:toldB (callB t)=cmpT sCall [t]:=by rw[z2s];rfl
theorem ze6:toldB (.mk 1 zeroT [])=atmT sTrue:=by rw[z2s];rfl
theorem ze7:toldB (.mk 2 zeroT [])=atmT sExc:=by rw[z2s];rfl
theorem zap {t:Tm}:toldB (.mk 3 t [])=t:=by rw[z2s];rfl
theorem zaq {x:Tm}{b:Bdy}:toldB (.mk 7 x [b])=cmpT sCol [x,toldB b]:=by rw[z2s];rfl
theorem zar {b d:Bdy}:toldB (.mk 4 zeroT [b,d])=cmpT sCma [toldB b,toldB d]:=by rw[z2s];rfl
theorem zas {b d:Bdy}:toldB (.mk 5 zeroT [b,d])=cmpT sSem [toldB b,toldB d]:=by rw[z2s];rfl
theorem zat {b d:Bdy}:toldB (.mk 6 zeroT [b,d])=cmpT sArr [toldB b,toldB d]:=by rw[z2s];rfl
theorem z75 {b d e:Bdy}:toldB (.mk 6 zeroT [b,d,e])=cmpT sSem [cmpT sArr [toldB b,toldB d],toldB e]:=by rw[z2s];rfl
theorem cmp2 {s:ByteArray}{x y:Tm}:isF2 (cmpT s [x,y]) s x y:=⟨rfl,rfl,rfl⟩
theorem zhv {t:Tm}:Oth (cmpT sCall [t]) :=
 ⟨(fun q=>by rcases q with q|q<;>cases q),(fun q=>by cases q),(fun q=>by cases q.1),(fun q=>by cases q.1),(fun q=>by cases q.2.2),(fun q=>by cases q.2.2),(fun q=>by cases q.2.2),(fun q=>by cases q.2.2)⟩
theorem z3i {s:ByteArray}{l:List Tm}:¬isNum (cmpT s l)/\(cmpT s l).kind≠1:=⟨(fun q=>by rcases q with q|q<;>cases q),(fun q=>by cases q)⟩
theorem zuj {t:Tm}{b:Bdy}(h:BdR t b):BdR (toldB b) b/\¬isNum (toldB b)/\(toldB b).kind≠1/\(isF (toldB b) sArr->isF t sArr):=by
 induction h with
 |var h=>rw[z1k];exact⟨.call zhv,z3i.1,z3i.2,(fun q=>by cases q.2.2)⟩
 |tru h1 h2=>rw[ze6];exact⟨.tru rfl rfl,(fun q=>by rcases q with q|q<;>cases q),(fun q=>by cases q),(fun q=>by cases q.1)⟩
 |cut h1 h2=>rw[ze7];exact⟨.cut rfl rfl,(fun q=>by rcases q with q|q<;>cases q),(fun q=>by cases q),(fun q=>by cases q.1)⟩
 |mcall hf h1 h2 h3=>rw[z1k];exact⟨.call zhv,z3i.1,z3i.2,(fun q=>by cases q.2.2)⟩
 |mod hf h1 h2 h3 hb ih=>rw[zaq];exact⟨.mod cmp2 h1 ih.2.2.1 ih.2.1 ih.1,z3i.1,z3i.2,fun q=>absurd q (cmp2.f.ne (by decide))⟩
 |and hf hb hd i1 i2=>rw[zar];exact⟨.and cmp2 i1.1 i2.1,z3i.1,z3i.2,fun q=>absurd q (cmp2.f.ne (by decide))⟩
 |arr hf hb hd i1 i2=>rw[zat];exact⟨.arr cmp2 i1.1 i2.1,z3i.1,z3i.2,fun q=>hf.f⟩
 |ite hf hg hb hd he i1 i2 i3=>rw[z75];exact⟨.ite cmp2 cmp2 i1.1 i2.1 i3.1,z3i.1,z3i.2,fun q=>absurd q (cmp2.f.ne (by decide))⟩
 |or hf hn hb hd i1 i2=>rw[zas];exact⟨.or cmp2 (fun q=>hn (i1.2.2.2 q)) i1.1 i2.1,z3i.1,z3i.2,fun q=>absurd q (cmp2.f.ne (by decide))⟩
 |call h=>rw[zap];exact⟨.call h,h.num,h.var,fun q=>q⟩
def szB:Bdy->Nat
 |.mk _ t l=>1+nd t+szBL l
where szBL:List Bdy->Nat
 |[]=>0
 |b :: l=>szB b+szBL l
theorem z4s {t:Tm}{l:List Tm}:nd.ndL (t :: l)=nd t+nd.ndL l:=by rw[nd.ndL]
theorem zso (t:Tm):1<=nd t:=by rw[z1m];omega
theorem z5s {s:ByteArray}{x y:Tm}:nd (cmpT s [x,y])=1+nd x+nd y:=by rw[z1m];show 1+nd.ndL [x,y]=_;rw[z4s,z4s,nd.ndL];omega
theorem zc8 {s:ByteArray}{x:Tm}:nd (cmpT s [x])=1+nd x:=by rw[z1m];show 1+nd.ndL [x]=_;rw[z4s,nd.ndL,Nat.add_zero]
theorem zjg {t x y:Tm}{s:ByteArray}(h:isF2 t s x y):nd t=1+nd x+nd y:=by rw[z1m,h.2.2,z4s,z4s,nd.ndL];omega
theorem z76:nd zeroT=1:=by rw[z1m];rfl
theorem zqv {s:ByteArray}:nd (atmT s)=1:=by rw[z1m];rfl
theorem zmm {t:Tm}{b:Bdy}(hf:Fine t) (h:BdR t b):nd t<=nd (toldB b)/\szB b<=2*nd (toldB b):=by
 have lf:∀{t:Tm},Fine t->t.kind≠5->nd t=1:=fun h k=>by rw[z1m,(z29 (z2f h.node).2.2.1).2.2.2.2 k];rfl
 induction h with
 |var h=>rw[z1k,zc8,callB];simp only[szB,szB.szBL,zc8];omega
 |tru h1 h2=>rw[ze6,zqv,lf hf (by omega)];simp only[szB,szB.szBL,z76];omega
 |cut h1 h2=>rw[ze7,zqv,lf hf (by omega)];simp only[szB,szB.szBL,z76];omega
 |mcall h h1 h2 h3=>rw[z1k,zc8,callB];simp only[szB,szB.szBL,zc8];omega
 |mod h h1 h2 h3 hb ih =>
  have:=ih (hf.args _ (by rw[h.2.2];simp));have hx:=lf (hf.args _ (show _∈_ by rw[h.2.2];exact List.mem_cons_self)) (by omega);rw[zaq,z5s,zjg h];simp only[szB,szB.szBL];omega
 |and h hb hd i1 i2 =>
  have:=i1 (hf.args _ (by rw[h.2.2];simp));have:=i2 (hf.args _ (by rw[h.2.2];simp));rw[zar,z5s,zjg h];simp only[szB,szB.szBL,z76];omega
 |arr h hb hd i1 i2 =>
  have:=i1 (hf.args _ (by rw[h.2.2];simp));have:=i2 (hf.args _ (by rw[h.2.2];simp));rw[zat,z5s,zjg h];simp only[szB,szB.szBL,z76];omega
 |ite h hg hb hd he i1 i2 i3 =>
  have hx:=hf.args _ (show _∈_ by rw[h.2.2];exact List.mem_cons_self);have:=i1 (hx.args _ (by rw[hg.2.2];simp));have:=i2 (hx.args _ (by rw[hg.2.2];simp));have:=i3 (hf.args _ (by rw[h.2.2];simp));rw[z75,z5s,z5s,zjg h,zjg hg];simp only[szB,szB.szBL,z76];omega
 |or h hn hb hd i1 i2 =>
  have:=i1 (hf.args _ (by rw[h.2.2];simp));have:=i2 (hf.args _ (by rw[h.2.2];simp));rw[zas,z5s,zjg h];simp only[szB,szB.szBL,z76];omega
 |call h=>rw[zap];simp only[szB,szB.szBL];have:=zso ‹Tm›;omega
abbrev sInst:ByteArray:=⟨#[105,110,115,116,97,110,116,105,97,116,105,111,110,95,101,114,114,111,114]⟩
abbrev sAtomW:ByteArray:=⟨#[97,116,111,109]⟩
noncomputable def stripF:Nat->ByteArray->Tm->ByteArray × Tm × Er
 |0,m,t=>(m,t,.ok)
 |k+1,m,t=>if isF t sCol then
   (if (t.at 0).kind=1 then (Zd,t,.ball (atmT sInst)) else if (t.at 0).kind=2 then stripF k (t.at 0).name (t.at 1) else (Zd,t,.ball (typeT sAtomW (t.at 0))))
  else (m,t,.ok)
noncomputable def stripS (m:ByteArray) (t:Tm):ByteArray × Tm × Er:=stripF (SizeOf.sizeOf t+1) m t
def StripEnd (H0 H:Heap) (R:ByteArray × Tm × Er) (v:Value) (H':Heap):Prop:=HX H H'/\∃a c ev,v=.tuple ⟨[.string R.1,.agg ⟨six R.2.1 a c⟩,ev]⟩/\RepT H0 R.2.1 (six R.2.1 a c)/\RepES H' (Rg H.next H'.next) R.2.2 ev/\checkS R.2.1=0
set_option maxHeartbeats 8000000 in
theorem zhw {m:ByteArray}{t:Tm}{cs:List Value}{H0 H:Heap}(r0:RepT H0 t cs) (hx0:HX H0 H) (hw0:H0.wf) (hc:checkS t=0) (hw:H.wf):EvF Tryd.prog okT 98 [.string m,.agg ⟨cs⟩] H (StripEnd H0 H (stripS m t)):=by
 obtain⟨a,c,cells,rfl,-⟩:=r0.six;refine EvF.enter rfl Tryd.func98 (by decide) rfl ?_;(repeat refine qZa ?_);refine qZb ?_;simp (config:=qZc) (disch:=first|omega|rfl) only[sB,initTm,dBox,dAlloc,Value.cells,one,reduceCtorEq,zr26];obtain⟨H2,e2,hx2,g3,g5,hn2,hw2⟩:=new2 hw (.row (six t a c) 26) (.row zero6 26);simp only[e2];clear e2;(repeat refine qZa ?_);refine EvC.join (fun st=>∃tm H' u m' a c,st=⟨tm,[],H'⟩/\(m',u,Er.ok)=stripS m t/\checkS u=0/\tm.get 0=some (.string m')/\tm.get 3=some (.pointer (some ⟨H.next,0,none⟩))/\tm.get 5=some (.pointer (some ⟨H.next+1,0,none⟩)) /\
  H'.get H.next=some (.row (six u a c) 26)/\H'.get (H.next+1)=some (.row zero6 26)/\RepT H0 u (six u a c)/\HX H H') ?_ ?_
 ·refine qZg (qZk (fun k st=>∃tm H' u m' a c,st=⟨tm,[],H'⟩/\SizeOf.sizeOf u < k/\stripF k m' u=stripS m t/\checkS u=0/\tm.get 0=some (.string m')/\tm.get 3=some (.pointer (some ⟨H.next,0,none⟩))/\tm.get 5=some (.pointer (some ⟨H.next+1,0,none⟩)) /\
   H'.get H.next=some (.row (six u a c) 26)/\H'.get (H.next+1)=some (.row zero6 26)/\RepT H0 u (six u a c)/\HX H H') ?_ (SizeOf.sizeOf t+1) _ ?_)
  rotate_left
  ·exact⟨_,_,t,m,a,c,rfl,Zg _,rfl,hc,(by simp only[sG,reduceCtorEq]),(by simp only[sG,Za,reduceCtorEq]),(by simp only[sG,Za,reduceCtorEq]),g3,g5,r0,hx2⟩
  rintro k st ⟨tm,H',u,m',a,c,rfl,hk,hR,hcu,t0,t3,t5,g3,g5,ru,hx⟩;have hw':=hx.wf;have q3:=row6 g3;(repeat refine qZa ?_);refine qZb ?_;simp (config:=qZc) (disch:=first|omega|rfl) only[sB,ld26,zdi,t3,q3];refine(z7m (s:=sCol) (ru.mono (hx0.trans hx) hw0) hw').mono ?_;rintro v H3 ⟨rfl,hx3⟩;have g3:=hx3.get hw' g3;have g5:=hx3.get hw' g5;have hx:=hx.trans hx3;have w3:=hx.wf;have q3:=row6 g3;obtain⟨k,rfl⟩:∃n,k=n+1:=⟨k - 1,by omega⟩
  (try simp (config:=qZc) (disch:=first|omega|rfl) only[]);by_cases hi:isF u sCol
  rotate_left
  ·rw[stripF,if_neg hi] at hR
   repeat' (first|(refine qZi ?_;try simp only[sB,decide_eq_false hi])|(refine qZm ?_ ?_;simp (config:=qZc) (disch:=first|omega|rfl) only[sB,Za,decide_eq_false hi];refine z05 ?_))
   exact⟨_,_,u,m',a,c,rfl,hR,hcu,(by simp only[sG,reduceCtorEq,t0]),(by simp only[sG,Za,t3]),(by simp only[sG,Za,t5]),g3,g5,ru,hx⟩
  rw[stripF,if_pos hi] at hR;refine qZd (by simp (config:=qZc) (disch:=first|omega|rfl) only[sB,Za,decide_eq_true hi]) ?_;(try refine qZe ?_);(try simp only[z00,z03]);obtain⟨x,y,hxy⟩:∃x y,u.args=[x,y]:=by
   match hl:u.args,hi.2.2 with
   |[x,y],_=>exact⟨x,y,rfl⟩
  have ex:u.at 0=x:=by unfold Tm.at;rw[hxy];rfl
  have ey:u.at 1=y:=by unfold Tm.at;rw[hxy];rfl
  have x0:u.args[0]'(by rw[hxy];simp)=x:=by simp [hxy]
  have y1:u.args[1]'(by rw[hxy];simp)=y:=by simp [hxy]
  obtain⟨a0,c0,cells0,hcs,-,-,-,-,-,rl⟩:=ru.six;obtain⟨-,-,-,-,-,rfl,rfl⟩:=zbu hcs;obtain⟨b,o,a1,c1,rfl,hld0,hr0⟩:=rl.el (i:=0) (by rw[hxy];simp);obtain⟨b',o',a2,c2,e2,hld1,hr1⟩:=rl.el (i:=1) (by rw[hxy];simp);cases e2;rw[x0] at hld0 hr0;rw[y1] at hld1 hr1;simp only[ZL,Nat.add_zero,Nat.one_mul] at hld0 hld1;have hcx:=z18 hcu (u:=x) (by rw[hxy];simp);have hcy:=z18 hcu (u:=y) (by rw[hxy];simp);have hsy:SizeOf.sizeOf y < SizeOf.sizeOf u:=z0g (by rw[hxy];simp);rw[ex,ey] at hR;have hxl:u.args.length=2:=hi.2.2;have l0:=(hx0.trans hx).load hw0 hld0;(repeat refine qZa ?_);refine qZg ?_;(repeat refine qZa ?_);refine qZb ?_;simp (config:=qZc) (disch:=first|omega|rfl) only[sB,dAlloc,Za,Zb,one,ZO,zr26,ld26,z10,ld22,st26,t3,q3,hxl,l0,iz22,ZL];obtain⟨H4,e4,hx4,g7,hn4,w4⟩:=z0r w3 (.row zero6 26) (.row (six x a1 c1) 26);simp only[e4];clear e4;have g3:=hx4.get w3 g3;have g5:=hx4.get w3 g5;have q3:=row6 g3;have q7:=row6 g7;have hx:=hx.trans hx4;have l1:=(hx0.trans hx).load hw0 hld1
  (repeat refine qZa ?_);refine qZb ?_;simp (config:=qZc) (disch:=first|omega|rfl) only[sB,Za,z0o,ld3,q7];(repeat refine qZa ?_);refine qZg ?_;have n4:=hx.next;by_cases k1:x.kind=1
  ·rw[if_pos k1] at hR;(repeat refine qZa ?_);refine qZb ?_;simp (config:=qZc) (disch:=first|omega|rfl) only[sB,Za,z0y k1];refine qZd (by simp (config:=qZc) (disch:=first|omega|rfl) only[sB,Za]) ?_;(try refine qZe ?_);(try simp only[z00,z03]);(repeat refine qZa ?_);refine qZj [([],some 1),([],some 2),([(0,0),(3,2)],some 4),([(5,3)],none)] (by kernel_rfl) ?_;simp (config:=qZc) (disch:=first|omega|rfl) only[sD,sA,Zb,cl99];have hb:=(HX.refl w4).bump 6;refine(z4d hb.wf).mono ?_;rintro v H5 ⟨rfl,hx5⟩;have w5:=hx5.wf;have q35:=row6 ((hb.trans hx5).get w4 g3)
   repeat' (first|(refine z0q ?_;simp (config:=qZc) (disch:=first|omega|rfl) only[sD,sB,Za,zo4]))
   refine(z7x (S:=fun _=>False) (z4e (by decide)) w5 (fun _ h=>h.elim)).mono ?_;rintro v H6 ⟨hx6,he6⟩;have hx46:=(hb.trans hx5).trans hx6;have q36:=row6 (hx46.get w4 g3);have g5:=hx46.get w4 g5;have n6:=hx46.next
   repeat' (first|(refine qZf ?_;try simp only[z06,z01])|(refine z0q ?_;simp (config:=qZc) (disch:=first|omega|rfl) only[sV,sD,sB,Za,Zb,one,reduceCtorEq,ld26,st26,t3,q3,q35,q36,g5,t5,isAlloc,isRead]))
   have hxz:=(hx.trans hx46).pt (i:=H.next+1) (by omega) g5 (some (.row (six u (some ⟨b,o,none⟩) c) 26));have n5:H4.next+6<=H5.next:=hx5.next;have n56:=hx6.next;rw[<-hR];refine z4p rfl (by simp only[sB,Za];rfl) (by simp only[sB,Za,t5];rfl) (by simp only[sB,Zb,cutC,ld26]) (by simp only[sG,Za]) ⟨hxz,_,_,_,rfl,ru,he6.to fun n hn hl=>?_,hcu⟩;have hn':=hn.resolve_left (fun h=>h);exact⟨by rw[get_put,if_neg (by omega)],⟨by omega,by rw[z07];omega⟩,by rw[z07];omega⟩
  rw[if_neg k1] at hR;(repeat refine qZa ?_);refine qZb ?_;simp (config:=qZc) (disch:=first|omega|rfl) only[sB,Za,z0t k1];refine qZm (by simp (config:=qZc) (disch:=first|omega|rfl) only[sB,Za]) ?_;(try refine qZe ?_);(try simp only[z00,z03]);by_cases k2:x.kind=2
  ·rw[if_pos k2] at hR;(repeat refine qZa ?_);refine qZb ?_;simp (config:=qZc) (disch:=first|omega|rfl) only[sB,Za,z0y k2];refine qZd (by simp (config:=qZc) (disch:=first|omega|rfl) only[sB,Za]) ?_;(try refine qZe ?_);(try simp only[z00,z03]);refine qZj [([(0,0),(1,0),(2,0),(3,0),(4,0),(5,0),(6,0)],some 7),([],none)] (by kernel_rfl) ?_;simp (config:=qZc) (disch:=first|omega|rfl) only[sD,sB,Za,Zb,one,reduceCtorEq,ZO,ld26,z10,ld22,st26,z1t,ld9,isAlloc,isRead,t3,q3,q7,g3,l1,hxl,iz22,Nat.one_mul];have hb:=hx.bump 8;have hz:=hb.pt (i:=H.next) (Zf _) (show Heap.get ⟨H4.next+8,H4.t⟩ H.next=_ from g3) (some (.row (six y a2 c2) 26));exact⟨k,Zg _,_,_,y,x.name,a2,c2,rfl,by omega,hR,hcy,(by simp only[sG,reduceCtorEq]),(by simp only[sG,Za,reduceCtorEq,t3]),(by simp only[sG,Za,reduceCtorEq,t5]),by rw[get_put,if_pos rfl],by rw[get_put,if_neg (by omega)];exact g5,hr1,hz⟩
  ·rw[if_neg k2] at hR;(repeat refine qZa ?_);refine qZb ?_;simp (config:=qZc) (disch:=first|omega|rfl) only[sB,Za,z0t k2];refine qZm (by simp (config:=qZc) (disch:=first|omega|rfl) only[sB,Za]) ?_;(try refine qZe ?_);(try simp only[z00,z03]);(repeat refine qZa ?_);refine qZj [([(1,0)],some 2),([(0,0),(3,1)],some 4),([(5,2)],none)] (by kernel_rfl) ?_;simp (config:=qZc) (disch:=first|omega|rfl) only[sD,sB,Za,Zb,reduceCtorEq,ld26,zo5,isAlloc,isRead,q7];have hb:=(HX.refl w4).bump 6;refine(z6k (s:=sAtomW) (by decide) ((hr0.mono (hx0.trans hx) hw0).mono hb w4) hcx hb.wf).mono ?_;rintro v H6 ⟨hx6,he6⟩;have hx46:=hb.trans hx6;have q36:=row6 (hx46.get w4 g3);have g5:=hx46.get w4 g5;have n6:=hx46.next
   repeat' (first|(refine qZf ?_;try simp only[z06,z01])|(refine z0q ?_;simp (config:=qZc) (disch:=first|omega|rfl) only[sV,sD,sB,Za,Zb,one,reduceCtorEq,ld26,st26,t3,q3,q36,g5,t5,isAlloc,isRead]))
   have hxz:=(hx.trans hx46).pt (i:=H.next+1) (by omega) g5 (some (.row (six u (some ⟨b,o,none⟩) c) 26));have n5:H4.next+6<=H6.next:=hx6.next;rw[<-hR];refine z4p rfl (by simp only[sB,Za];rfl) (by simp only[sB,Za,t5];rfl) (by simp only[sB,Zb,cutC,ld26]) (by simp only[sG,Za]) ⟨hxz,_,_,_,rfl,ru,he6.to fun n hn hl=>?_,hcu⟩;have hn':H4.next+6<=n:=hn.1;exact⟨by rw[get_put,if_neg (by omega)],⟨by omega,by rw[z07];omega⟩,by rw[z07];omega⟩
 ·rintro st ⟨tm,H',u,m',a,c,rfl,hR,hcu,t0,t3,t5,g3,g5,ru,hx⟩;have q3:=row6 g3;simp only[z00];have hz:=(hx.bump 5).pt (i:=H.next+1) (by omega) (show Heap.get ⟨H'.next+5,H'.t⟩ (H.next+1)=_ from g5) (some (.row (six u a c) 26));(repeat refine qZa ?_);refine qZj [([(0,0),(1,0),(2,0)],some 3),([(4,1)],none)] (by kernel_rfl) ?_;simp (config:=qZc) (disch:=first|omega|rfl) only[sD,sB,Za,Zb,one,reduceCtorEq,ld26,st26,isAlloc,isRead,t0,t3,t5,q3,g5]
  repeat' (first|(refine qZf ?_))
  rw[<-hR];refine z4p rfl (by simp only[sG,Za]) (by simp only[sB,Za,t5];rfl) (by simp only[sB,Zb,cutC,ld26]) (by simp only[sG,Za]) ⟨hz,_,_,_,rfl,ru,RepES.fine,hcu⟩
def RBEnd (H:Heap) (o:Option Bdy) (v:Value) (H':Heap):Prop:=HX H H'/\∃out bd,v=.tuple ⟨[.agg ⟨out⟩,.bool o.isSome]⟩/\OB H' 53 26 (Rg H.next H'.next) bd out/\∀b,o=some b->bd=b
theorem OBL.one {H:Heap}{TB TT:TypeId}{S N:Nat->Prop}{u:Bdy}{cs:List Value}{b:Nat}(hg:H.get b=some (.row cs TB)) (hu:OB H TB TT N u cs) (hw:H.wf) (hS:S b) (hN:∀n,N n->S n) (hb:¬N b):OBL H TB TT S [u] (some ⟨b,0,none⟩) 1:=by
 obtain⟨hone,hlen⟩:=hu.rep.ones;refine .inr ⟨b,cs,fun _=>N,rfl,Zf _,by decide,hg,hS,hw _ _ hg,by simp [hlen],fun i v hv=>?_,fun i _=>hb,fun i n _ hn=>hN n hn,fun i j n hi hj _ _=>by simp at hi hj;omega⟩
 match i,hv with
 |0,hv =>
  cases hv;rw[ZL,List.drop_zero,Zl (by omega)];exact hu
abbrev saidT (e:Int) (b:Bool) (t:Tm) (a:Option Addr) (c:Nat):List Value:=[.int .i64 e,.bool b,.int .i64 t.kind,.string t.name,.string t.num,.int .u64 t.bits,.int .i64 t.var,.slice a t.args.length c]
abbrev said0:List Value:=[.int .i64 0,.bool false,.int .i64 0,.string Zd,.string Zd,.int .u64 0,.int .i64 0,.slice none 0 0]
def RSaid (H:Heap) (S:Nat->Prop):Er->List Value->Prop
 |.ok,cs=>cs=said0
 |.num e,cs=>e≠0/\cs=[.int .i64 e,.bool false,.int .i64 0,.string Zd,.string Zd,.int .u64 0,.int .i64 0,.slice none 0 0]
 |.ball t,cs=>∃a c,cs=saidT 0 true t a c/\RepS H S t (six t a c)
theorem RSaid.to {H H2:Heap}{S S2:Nat->Prop}{e:Er}{cs:List Value}(h:RSaid H S e cs) (hk:∀n,S n->n < H.next->H2.get n=H.get n/\S2 n/\n < H2.next):RSaid H2 S2 e cs:=by
 cases e with
 |ok=>exact h
 |num e=>exact h
 |ball t=>obtain⟨a,c,h1,h2⟩:=h;exact⟨a,c,h1,h2.to hk⟩
theorem RSaid.cells {H:Heap}{S:Nat->Prop}{e:Er}{cs:List Value}(h:RSaid H S e cs):∃n b t a c,cs=saidT n b t a c:=by
 cases e with
 |ok=>exact⟨0,false,zeroT,none,0,h⟩
 |num e=>exact⟨e,false,zeroT,none,0,h.2⟩
 |ball t=>obtain⟨a,c,h1,h2⟩:=h;exact⟨0,true,t,a,c,h1⟩
def noneB:Er->Bool
 |.ok=>true
 |_=>false
noncomputable def madeE (t:Tm):Er:=match bodyF (SizeOf.sizeOf t+1) t with
 |none=>.ball (typeT sCallable t)
 |some b=>if 4000 < cnt (toldB b) 0 then .ball (resT sNodes) else .ok
def RReadyEnd (H:Heap) (t:Tm) (v:Value) (H':Heap):Prop:=HX H H'/\∃out sd,v=.tuple ⟨[.agg ⟨out⟩,.agg ⟨sd⟩]⟩/\OB H' 53 26 (Rg H.next H'.next) (readyS t).1 out/\RSaid H' (Rg H.next H'.next) (readyS t).2 sd
abbrev mark8:List Value:=[.int .i64 (-1),.int .i64 0,.string Zd,.string Zd,.int .u64 0,.int .i64 0,.slice none 0 0,.slice none 0 0]
abbrev mark1:List Value:=[.int .i64 (-1),.string Zd,.string Zd,.int .u64 0,.int .i64 0,.slice none 0 0]
end Go.Proofs.hq
end

section
namespace Go.Hb
open Go Go.RowKit
def dNilK (v:Value) (H:Heap):Option Dr:=match v with
 |.pointer (some a)=>some (.val (.pointer (some a)) H)
 |.func (.func f) a b=>some (.val (.func (.func f) a b) H)
 |_=>none
theorem zhx {P:Program}{H:Heap}{d:Option Tmp}{x:Operand}{ty:TypeId}{pos:String}{af:Array Edge}{g:Option (Nat × Bool)}{ρ:Operand->Value}:dop P ⟨d,.nilCheck x,ty,pos,af,g⟩ ρ H=dNilK (ρ x) H:=_root_.id rfl
theorem ze8 {H:Heap}{a:Addr}:dNilK (.pointer (some a)) H=some (.val (.pointer (some a)) H):=_root_.id rfl
end Go.Hb
namespace Go.Proofs.hq
open Go Go.RowKit Go.Hb
variable {ok:Ok}
set_option maxRecDepth 10000
attribute [local irreducible] LX LG EL STG SOP SGO SGD SAL SRD SEF SEG SLK SCK ES
theorem zmn:taZ Tryd.prog 184=some (.pointer none):=by kernel_rfl
end Go.Proofs.hq
end

section
namespace Go.Proofs.hq
open Go Go.RowKit Go.Hb
variable {ok:Ok}
set_option maxRecDepth 10000
attribute [local irreducible] LX LG EL STG SOP SGO SGD SAL SRD SEF SEG SLK SCK ES
abbrev sClause:ByteArray:=⟨#[99,108,97,117,115,101]⟩
structure Cls where
 head:Tm
 body:Bdy
 vars:Int
def zeroC:Cls:=⟨zeroT,zeroB,0⟩
noncomputable def madeC (h r:Tm):Cls:=⟨(plainL [h,r]).getD 0 zeroT,(readyS ((plainL [h,r]).getD 1 zeroT)).1,(uniq (occL (plainL [h,r]))).length⟩
noncomputable def readB (m:ByteArray) (h r:Tm):ByteArray × Cls × Er :=
 if h.kind=1 then (Zd,zeroC,.ball (atmT sInst))
 else if isNum h then (Zd,zeroC,.ball (typeT sCallable h))
 else match bodyF (SizeOf.sizeOf r+1) r with
  |none=>(Zd,zeroC,.ball (typeT sCallable r))
  |some b=>if 400 < cnt h 0+cnt (toldB b) 0 then (Zd,zeroC,.ball (resT sClause)) else (m,madeC h r,.ok)
noncomputable def readH (m:ByteArray) (h r:Tm):ByteArray × Cls × Er :=
 match stripS m h with
 |(m2,h2,.ok)=>readB m2 h2 r
 |(_,_,e)=>(Zd,zeroC,e)
noncomputable def headOf (t:Tm):Tm:=if isF t sNck then t.at 0 else t
noncomputable def restOf (t:Tm):Tm:=if isF t sNck then t.at 1 else atmT sTrue
noncomputable def readS (m:ByteArray) (t:Tm):ByteArray × Cls × Er :=
 if checkS t≠0 then (Zd,zeroC,.num (checkS t))
 else match stripS m t with
  |(m1,t1,.ok)=>readH m1 (headOf t1) (restOf t1)
  |(_,_,e)=>(Zd,zeroC,e)
abbrev fift (h:Tm) (ha:Option Addr) (hc:Nat) (k:Int) (t:Tm) (ta:Option Addr) (tc:Nat) (a:Option Addr) (n c:Nat) (v:Int):List Value :=
 [.int .i64 h.kind,.string h.name,.string h.num,.int .u64 h.bits,.int .i64 h.var,.slice ha h.args.length hc,.int .i64 k,.int .i64 t.kind,.string t.name,.string t.num,.int .u64 t.bits,.int .i64 t.var,.slice ta t.args.length tc,.slice a n c,.int .i64 v]
abbrev zero15:List Value:=[.int .i64 0,.string Zd,.string Zd,.int .u64 0,.int .i64 0,.slice none 0 0,.int .i64 0,.int .i64 0,.string Zd,.string Zd,.int .u64 0,.int .i64 0,.slice none 0 0,.slice none 0 0,.int .i64 0]
def RepC (H:Heap) (S:Nat->Prop) (c:Cls) (cs:List Value):Prop:=∃ha hc ta tc a k,cs=fift c.head ha hc c.body.kind c.body.term ta tc a c.body.sub.length k c.vars/\RepS H S c.head (six c.head ha hc)/\OB H 53 26 S c.body (eightT c.body.kind c.body.term ta tc a c.body.sub.length k)
theorem RepC.zero {H:Heap}{S:Nat->Prop}:RepC H S zeroC zero15:=⟨none,0,none,0,none,0,rfl,RepS.leaf z9c rfl (Zo _) fun _=>rfl,OB.nil (by decide)⟩
theorem RepC.to {H H2:Heap}{S S2:Nat->Prop}{c:Cls}{cs:List Value}(h:RepC H S c cs) (hk:∀n,S n->n < H.next->H2.get n=H.get n/\S2 n/\n < H2.next) (hs:∀n,S n->S2 n):RepC H2 S2 c cs:=by
 obtain⟨ha,hc,ta,tc,a,k,h1,h2,h3⟩:=h;exact⟨ha,hc,ta,tc,a,k,h1,h2.to hk,h3.to (fun n hn hl=>⟨(hk n hn hl).1,(hk n hn hl).2.2⟩) hs⟩
theorem z1n {H:Heap}{p:Nat}{T:TypeId}{x0 x1 x2 x3 x4 x5 x6 x7 x8 x9 xa xb xc xd xe:Value}(h:H.get p=some (Blk.row [x0,x1,x2,x3,x4,x5,x6,x7,x8,x9,xa,xb,xc,xd,xe] T)) :
  H.load ⟨p,0,none⟩ 6=some [x0,x1,x2,x3,x4,x5]/\H.load ⟨p,6,none⟩ 8=some [x6,x7,x8,x9,xa,xb,xc,xd]/\H.load ⟨p,14,none⟩ 1=some [xe]/\H.load ⟨p,0,none⟩ 15=some [x0,x1,x2,x3,x4,x5,x6,x7,x8,x9,xa,xb,xc,xd,xe]:=by
 refine⟨?_,?_,?_,?_⟩<;>simp only[Heap.load,Heap.cells,h]<;>rfl
def ReadEnd (H:Heap) (R:ByteArray × Cls × Er) (v:Value) (H':Heap):Prop:=HX H H'/\∃cs ev,v=.tuple ⟨[.string R.1,.agg ⟨cs⟩,ev]⟩/\RepC H' (Rg H.next H'.next) R.2.1 cs/\RepES H' (Rg H.next H'.next) R.2.2 ev
theorem zqw:isIface Tryd.prog 153=true:=by kernel_rfl
theorem ze9 {H:Heap}{x y:Operand}{T:TypeId}{v:Value}:dBin Tryd.prog .neq 153 x y (.iface T v) .nilIface H=some (.val (.bool true) H):=by
 simp only[dBin,dnil,zqw,nilEq,if_true]
theorem zuk {H:Heap}{x y:Operand}{T:TypeId}{v:Value}:dBin Tryd.prog .eql 153 x y (.iface T v) .nilIface H=some (.val (.bool false) H):=by
 simp only[dBin,dnil,zqw,nilEq,if_true]
theorem zau {n:Nat}{H:Heap}:dBin Tryd.prog .neq 153 (.tmp n) (.const .nilIface) .nilIface .nilIface H=some (.val (.bool false) H):=by kernel_rfl
theorem zul {n:Nat}{H:Heap}:dBin Tryd.prog .eql 153 (.tmp n) (.const .nilIface) .nilIface .nilIface H=some (.val (.bool true) H):=by kernel_rfl
theorem RepE.some {H:Heap}{e:Er}{v:Value}(h:RepE H e v) (he:e≠.ok):∃T x,v=.iface T x:=by
 cases e with
 |ok=>exact absurd rfl he
 |num n=>exact⟨_,_,h⟩
 |ball t=>obtain⟨p,a,c,h,-⟩:=h;exact⟨_,_,h⟩
theorem z77:checkS (atmT sTrue)=0:=by kernel_rfl
theorem z30 {H G:Heap}{R:ByteArray × Cls × Er}{e:Er}{ev:Value}{tm:Tr Value}{cs5:List Value}{lo hi:Nat}(hR:R=(Zd,zeroC,e)) (hx:HX H G) (g5:G.get (H.next+1)=some (.row cs5 55)) (t4:tm.get 4=some (.string Zd)) (t5:tm.get 5=some (.pointer (some ⟨H.next+1,0,none⟩))) (t6:tm.get 6=some ev)
  (he:RepES G (Rg lo hi) e ev) (h1:H.next+2<=lo) (h2:hi<=G.next):Ex.leave Tryd.prog okT Tryd.f76 (ReadEnd H R) .ret ⟨tm,[],G.put (H.next+1) (some (.row zero15 55))⟩:=by
 have hz:=hx.pt (i:=H.next+1) (by omega) g5 (some (.row zero15 55));subst hR;refine z4p rfl t4 t5 (by simp only[sB,Zb,cutC,ld55]) t6 ⟨hz,_,_,rfl,RepC.zero,he.to fun n hn hl=>?_⟩;have:=hn.1;exact⟨by rw[get_put,if_neg (by omega)],⟨by omega,by rw[z07];exact hl⟩,by rw[z07];exact hl⟩
set_option maxHeartbeats 16000000 in
theorem zsp {m:ByteArray}{t:Tm}{cs:List Value}{H:Heap}(r0:RepT H t cs) (hw:H.wf):EvF Tryd.prog okT 76 [.string m,.agg ⟨cs⟩] H (ReadEnd H (readS m t)):=by
 obtain⟨a,c,cells,rfl,-⟩:=r0.six;refine EvF.enter rfl Tryd.func76 (by decide) rfl ?_;(repeat refine qZa ?_);refine qZb ?_;simp (config:=qZc) (disch:=first|omega|rfl) only[sB,initTm,dBox,dAlloc,Value.cells,one,reduceCtorEq,zr55];obtain⟨H2,e2,hx2,g3,g5,hn2,hw2⟩:=new2 hw (.row (six t a c) 26) (.row zero15 55);simp only[e2];clear e2;(repeat refine qZa ?_);refine qZb ?_;simp (config:=qZc) (disch:=first|omega|rfl) only[sA,dAlloc,zr55];obtain⟨H3,e3,hx3,g7,hn3,w3⟩:=new1 hw2 (.row zero15 55);simp only[e3];clear e3;have g3:=hx3.get hw2 g3;have g5:=hx3.get hw2 g5;have hx:=hx2.trans hx3;have q3:=row6 g3;(repeat refine qZa ?_);refine qZb ?_;simp (config:=qZc) (disch:=first|omega|rfl) only[sB,Za,reduceCtorEq,ld26,cl74,q3];refine(z2n t _ _ (r0.mono hx hw) w3).mono ?_;rintro v H4 ⟨rfl,hx4⟩;have g3:=hx4.get w3 g3;have g5:=hx4.get w3 g5;have g7:=hx4.get w3 g7;have hx:=hx.trans hx4;have w4:=hx.wf;have n4:=hx4.next;have q3:=row6 g3;have q7:=z1n g7;(try simp (config:=qZc) (disch:=first|omega|rfl) only[]);by_cases hc:checkS t=0;rotate_left
 ·have hR:readS m t=(Zd,zeroC,.num (checkS t)):=by unfold readS;rw[if_pos hc]
  repeat' (first|refine qZa ?_|(refine qZf ?_;try simp only[z06,z01])|(refine qZb ?_;simp (config:=qZc) (disch:=first|omega|rfl) only[sB,Za,reduceCtorEq,z1y hc])|(refine qZj (id:=4) [([(0,0),(3,0)],some 4),([(1,0),(2,0),(5,1)],none)] ?_ ?_;kernel_rfl;simp (config:=qZc) (disch:=first|omega|rfl) only[sD,sB,Za,Zb,one,reduceCtorEq,ld55,st55,q7,g5,z1e,z9b zme,isAlloc,isRead,zh2,Bool.and_true])|(refine qZd ?_ ?_;simp (config:=qZc) (disch:=first|omega|rfl) only[sB,Za,reduceCtorEq];refine z05 ?_))
  exact z30 hR (hx.bump _) g5 (by simp only[sB,Za,reduceCtorEq];rfl) (by simp only[sG,Za,reduceCtorEq]) (by simp only[sG,Za,reduceCtorEq]) (RepES.num (S:=Rg (H.next+2) (H.next+2))) (Zf _) (by show H.next+2<=H4.next+_;omega)
 (repeat refine qZa ?_);refine qZb ?_;simp (config:=qZc) (disch:=first|omega|rfl) only[sB,Za,reduceCtorEq,z0x hc];refine qZm (by simp (config:=qZc) (disch:=first|omega|rfl) only[sB,Za,reduceCtorEq]) ?_;(try refine qZe ?_);(try simp only[z00,z03]);(repeat refine qZa ?_);refine qZb ?_;simp (config:=qZc) (disch:=first|omega|rfl) only[sB,Za,reduceCtorEq,ld26,cl98,q3];refine(zhw (m:=m) r0 hx hw hc w4).mono ?_;rintro v H5 ⟨hx5,a1,c1,ev1,rfl,r1,he1,hc1⟩;have g3:=hx5.get w4 g3;have g5:=hx5.get w4 g5;have g7:=hx5.get w4 g7;have hx5':=hx.trans hx5;have n5:=hx5.next;obtain⟨⟨m1,t1,e1⟩,hS⟩:∃R,stripS m t=R:=⟨_,rfl⟩
 rw[hS] at r1 he1 hc1 ⊢;simp only at r1 he1 hc1;(try simp (config:=qZc) (disch:=first|omega|rfl) only[sB,Za,Zb,one,reduceCtorEq,st26,g3]);obtain⟨H6,e6⟩:∃H6,H5.put H.next (some (.row (six t1 a1 c1) 26))=H6:=⟨_,rfl⟩
 simp only[e6];have hx6:HX H H6:=by rw[<-e6];exact hx5'.pt (i:=H.next) (Zf _) g3 _
 have n6:H6.next=H5.next:=by rw[<-e6];rfl
 have k6:∀n,n≠H.next->H6.get n=H5.get n:=fun n hn=>by rw[<-e6,get_put,if_neg hn]
 have g3:H6.get H.next=some (.row (six t1 a1 c1) 26):=by rw[<-e6,get_put,if_pos rfl]
 have g5:=(k6 _ (by omega)).trans g5;have g7:=(k6 _ (by omega)).trans g7;clear e6;have w6:=hx6.wf;have he1:RepES H6 (Rg H4.next H5.next) e1 ev1:=he1.to fun n hn hl=>⟨k6 n (by have:=hn.1;omega),hn,by omega⟩
 have q3:=row6 g3;have q7:=z1n g7;by_cases ho:e1=.ok;rotate_left
 ·have hR:readS m t=(Zd,zeroC,e1):=by
   unfold readS;rw[if_neg (fun h=>h hc),hS];cases e1 with
   |ok=>exact absurd rfl ho
   |num n=>rfl
   |ball u=>rfl
  obtain⟨T0,x0,rfl⟩:=he1.rep.some ho
  repeat' (first|refine qZa ?_|(refine qZf ?_;try simp only[z06,z01])|(refine qZb ?_;simp (config:=qZc) (disch:=first|omega|rfl) only[sB,Za,reduceCtorEq,ze9])|(refine qZj (id:=7) [([(0,0),(2,0)],some 3),([(1,0),(4,1)],none)] ?_ ?_;kernel_rfl;simp (config:=qZc) (disch:=first|omega|rfl) only[sD,sB,Za,Zb,one,reduceCtorEq,ld55,st55,q7,g5,isAlloc,isRead,Bool.and_true])|(refine qZd ?_ ?_;simp (config:=qZc) (disch:=first|omega|rfl) only[sB,Za,reduceCtorEq];refine z05 ?_))
  exact z30 hR (hx6.bump _) g5 (by simp only[sB,Za,reduceCtorEq];rfl) (by simp only[sG,Za,reduceCtorEq]) (by simp only[sG,Za,reduceCtorEq]) (RepES.to he1 fun n hn hl=>⟨rfl,hn,by show n < H6.next+_;omega⟩) (by omega) (by show _<=H6.next+_;omega)
 subst ho;obtain rfl:ev1=.nilIface:=he1.rep;(repeat refine qZa ?_);refine qZb ?_;simp (config:=qZc) (disch:=first|omega|rfl) only[sB,Za,reduceCtorEq,zau];refine qZm (by simp (config:=qZc) (disch:=first|omega|rfl) only[sB,Za,reduceCtorEq]) ?_;(try refine qZe ?_);(try simp only[z00,z03]);(repeat refine qZa ?_);refine EvC.meet (fun st=>∃tm G p10 p11,st=⟨tm,[],G⟩/\tm.get 0=some (.string m1)/\tm.get 3=some (.pointer (some ⟨H.next,0,none⟩))/\tm.get 5=some (.pointer (some ⟨H.next+1,0,none⟩))/\tm.get 7=some (.pointer (some ⟨H2.next,0,none⟩)) /\
  tm.get 10=some (.pointer (some ⟨p10,0,none⟩))/\tm.get 11=some (.pointer (some ⟨p11,0,none⟩))/\G.get p10=some (.row (six t1 a1 c1) 26)/\G.get p11=some (.row (six (atmT sTrue) none 0) 26)/\p10≠p11/\H6.next<=p10/\H6.next<=p11/\HX H6 G) ?_ ?_
 ·refine qZj [([],some 1),([(0,0),(2,0),(3,0)],some 4),([],some 5),([],none)] (by kernel_rfl) ?_;simp (config:=qZc) (disch:=first|omega|rfl) only[sD,sA,Zb,cl99];have hb:=(HX.refl w6).bump 6;refine(z4d (s:=sTrue) hb.wf).mono ?_;rintro v H7 ⟨rfl,hx7⟩;have hx67:=hb.trans hx7;have q37:=row6 (hx67.get w6 g3);have n7:H6.next+6<=H7.next:=hx7.next;have w7:=hx7.wf
  repeat' (first|(refine z0q ?_;simp (config:=qZc) (disch:=first|omega|rfl) only[sV,sD,sB,dAlloc,Za,Zb,one,reduceCtorEq,ld26,st26,zr26,q3,q37,neu,neu',isAlloc,isRead,dalloc]))
  exact⟨_,_,H6.next+2,H6.next+3,rfl,(by simp only[sG,reduceCtorEq]),(by simp only[sG,Za,reduceCtorEq]),(by simp only[sG,Za,reduceCtorEq]),(by simp only[sG,Za,reduceCtorEq]),(by simp only[sG,Za,reduceCtorEq]),(by simp only[sG,Za,reduceCtorEq]),by rw[get_put,if_neg (by omega),get_put,if_pos rfl],by rw[get_put,if_pos rfl],by omega,by omega,by omega,
   (((hx67.put (i:=H6.next+2) (by omega) (by omega) _).put (i:=H6.next+3) (by omega) (by show _ < H7.next;omega) _).put (i:=H6.next+2) (by omega) (by show _ < H7.next;omega) _).put (i:=H6.next+3) (by omega) (by show _ < H7.next;omega) _⟩
 ·rintro st ⟨tm,G,p10,p11,rfl,t0,t3,t5,t7,t10,t11,g10,g11,hne,h10,h11,hxG⟩;simp only[z00];have wG:=hxG.wf;have g3:=hxG.get w6 g3;have g5:=hxG.get w6 g5;have g7:=hxG.get w6 g7;have hxHG:=hx6.trans hxG;have q3:=row6 g3;(repeat refine qZa ?_);refine qZb ?_;simp (config:=qZc) (disch:=first|omega|rfl) only[sB,ld26,zdi,t3,q3];refine(z7m (s:=sNck) (r1.mono hxHG hw) wG).mono ?_;rintro v H8 ⟨rfl,hx8⟩;have g3:=hx8.get wG g3;have g5:=hx8.get wG g5;have g7:=hx8.get wG g7;have g10:=hx8.get wG g10;have g11:=hx8.get wG g11;have hxH8:=hxHG.trans hx8;have q3:=row6 g3;have w8:=hx8.wf;have n8:=hx8.next;have nG:=hxG.next;(try simp (config:=qZc) (disch:=first|omega|rfl) only[]);refine EvC.join (fun st=>∃tm G ah ch ar cr,st=⟨tm,[],G⟩/\tm.get 0=some (.string m1)/\tm.get 3=some (.pointer (some ⟨H.next,0,none⟩))/\tm.get 5=some (.pointer (some ⟨H.next+1,0,none⟩))/\tm.get 7=some (.pointer (some ⟨H2.next,0,none⟩)) /\
   tm.get 10=some (.pointer (some ⟨p10,0,none⟩))/\tm.get 11=some (.pointer (some ⟨p11,0,none⟩))/\G.get p10=some (.row (six (headOf t1) ah ch) 26)/\G.get p11=some (.row (six (restOf t1) ar cr) 26) /\ 
   G.get (H.next+1)=some (.row zero15 55)/\G.get H2.next=some (.row zero15 55)/\RepT H (headOf t1) (six (headOf t1) ah ch)/\RepT H (restOf t1) (six (restOf t1) ar cr)/\checkS (headOf t1)=0/\checkS (restOf t1)=0/\HX H G) ?_ ?_
  ·by_cases hn:isF t1 sNck
   ·obtain⟨x,y,hxy⟩:∃x y,t1.args=[x,y]:=by
     match hl:t1.args,hn.2.2 with
     |[x,y],_=>exact⟨x,y,rfl⟩
    have eh:headOf t1=x:=by unfold headOf;rw[if_pos hn];unfold Tm.at;rw[hxy];rfl
    have er:restOf t1=y:=by unfold restOf;rw[if_pos hn];unfold Tm.at;rw[hxy];rfl
    have x0:t1.args[0]'(by rw[hxy];simp)=x:=by simp [hxy]
    have y1:t1.args[1]'(by rw[hxy];simp)=y:=by simp [hxy]
    obtain⟨a0,c0,cells0,hcs,-,-,-,-,-,rl⟩:=r1.six;obtain⟨-,-,-,-,-,rfl,rfl⟩:=zbu hcs;obtain⟨b,o,ax,cx,rfl,hld0,hr0⟩:=rl.el (i:=0) (by rw[hxy];simp);obtain⟨b',o',ay,cy,e2,hld1,hr1⟩:=rl.el (i:=1) (by rw[hxy];simp);cases e2;rw[x0] at hld0 hr0;rw[y1] at hld1 hr1;simp only[ZL,Nat.add_zero,Nat.one_mul] at hld0 hld1;have hcx:=z18 hc1 (u:=x) (by rw[hxy];simp);have hcy:=z18 hc1 (u:=y) (by rw[hxy];simp);have l0:=hxH8.load hw hld0;have l1:=hxH8.load hw hld1;have hxl:t1.args.length=2:=hn.2.2;have nf1:(p10=p11)=False:=eq_false hne;have nf2:(p11=p10)=False:=eq_false (Ne.symm hne);refine qZd (by simp (config:=qZc) (disch:=first|omega|rfl) only[sB,Za,decide_eq_true hn]) ?_;(try refine qZe ?_);(try simp only[z00,z03]);have lb:=zc1 hw hld0;have n56:=hx6.next;have nf3:(H.next=p10)=False:=by simp;omega
    have nf4:(b=p10)=False:=by simp;omega
    refine qZj [([(0,0),(1,0),(2,0),(3,0)],some 8),([(4,0),(5,0),(6,0),(7,0)],some 9),([],none)] (by kernel_rfl) ?_;simp (config:=qZc) (disch:=first|omega|rfl) only[sV,sD,sB,Za,Zb,one,reduceCtorEq,cutC,ZO,ld26,st26,z10,ld22,isAlloc,isRead,t3,t10,t11,q3,g10,g11,hxl,l0,l1,iz22,ZL,Nat.one_mul,nf2,nf3,nf4];rw[eh,er];have hz:=((hxH8.bump 10).pt (i:=p10) (by omega) (show Heap.get ⟨H8.next+10,H8.t⟩ p10=_ from g10) (some (.row (six x ax cx) 26))).pt (i:=p11) (by omega) (by rw[get_put,if_neg (Ne.symm hne)];exact g11) (some (.row (six y ay cy) 26));exact⟨_,_,ax,cx,ay,cy,rfl,(by simp only[sG,reduceCtorEq,t0]),(by simp only[sG,Za,t3]),(by simp only[sG,Za,t5]),(by simp only[sG,Za,t7]),(by simp only[sG,Za,t10]),(by simp only[sG,Za,t11]),by rw[get_put,if_neg hne,get_put,if_pos rfl],by rw[get_put,if_pos rfl],by rw[get_put,if_neg (by omega),get_put,if_neg (by omega)];exact g5,by rw[get_put,if_neg (by omega),get_put,if_neg (by omega)];exact g7,hr0,hr1,hcx,hcy,hz⟩
   ·have eh:headOf t1=t1:=by unfold headOf;rw[if_neg hn]
    have er:restOf t1=atmT sTrue:=by unfold restOf;rw[if_neg hn]
    rw[eh,er];refine qZm (by simp (config:=qZc) (disch:=first|omega|rfl) only[sB,Za,decide_eq_false hn]) ?_;(try refine qZe ?_);(try simp only[z00,z03]);exact⟨_,_,a1,c1,none,0,rfl,(by simp only[sG,reduceCtorEq,t0]),(by simp only[sG,Za,t3]),(by simp only[sG,Za,t5]),(by simp only[sG,Za,t7]),(by simp only[sG,Za,t10]),(by simp only[sG,Za,t11]),g10,g11,g5,g7,r1,(z4e (S:=fun _=>False) (by decide)).rep,hc1,z77,hxH8⟩
  ·rintro st ⟨tm,G,ah,ch,ar,cr,rfl,t0,t3,t5,t7,t10,t11,g10,g11,g5,g7,rh,rr,hch,hcr,hxG⟩;simp only[z00];have hR1:readS m t=readH m1 (headOf t1) (restOf t1):=by
    unfold readS;rw[if_neg (fun h=>h hc),hS]
   rw[hR1];generalize headOf t1=h at *;generalize restOf t1=r at *;have wG:=hxG.wf;have q10:=row6 g10;(repeat refine qZa ?_);refine qZb ?_;simp (config:=qZc) (disch:=first|omega|rfl) only[sB,Za,ld26,cl98,t0,t10,q10];refine(zhw (m:=m1) rh hxG hw hch wG).mono ?_;rintro v H9 ⟨hx9,a2,c2,ev2,rfl,r2,he2,hc2⟩;have lp:=wG _ _ g10;have lq:=wG _ _ g11;have l7:=wG _ _ g7;have n9:=hx9.next;have g10:=hx9.get wG g10;have g11:=hx9.get wG g11;have g5:=hx9.get wG g5;have g7:=hx9.get wG g7;have hx9':=hxG.trans hx9;obtain⟨⟨m2,t2,e2⟩,hS2⟩:∃R,stripS m1 h=R:=⟨_,rfl⟩
   rw[hS2] at r2 he2 hc2 ⊢;simp only at r2 he2 hc2;have b10:H.next+3<=p10:=by omega
   have b11:H.next+3<=p11:=by omega
   (try simp (config:=qZc) (disch:=first|omega|rfl) only[sB,Za,Zb,one,reduceCtorEq,st26,t10,g10]);obtain⟨H10,e10⟩:∃H10,H9.put p10 (some (.row (six t2 a2 c2) 26))=H10:=⟨_,rfl⟩
   simp only[e10];have hx10:HX H H10:=by rw[<-e10];exact hx9'.pt (i:=p10) (by omega) g10 _
   have n10:H10.next=H9.next:=by rw[<-e10];rfl
   have k10:∀n,n≠p10->H10.get n=H9.get n:=fun n hn=>by rw[<-e10,get_put,if_neg hn]
   have g10:H10.get p10=some (.row (six t2 a2 c2) 26):=by rw[<-e10,get_put,if_pos rfl]
   have g5:=(k10 _ (by omega)).trans g5;have g7:=(k10 _ (by omega)).trans g7;have g11:=(k10 _ (Ne.symm hne)).trans g11;clear e10;have w10:=hx10.wf;have he2:RepES H10 (Rg G.next H9.next) e2 ev2:=he2.to fun n hn hl=>⟨k10 n (by have:=hn.1;omega),hn,by omega⟩
   have q10:=row6 g10;have q11:=row6 g11;have q7:=z1n g7;have dG:H.next+2<=G.next:=by omega
   clear g3 q3;by_cases ho2:e2=.ok;rotate_left
   ·have hR:readH m1 h r=(Zd,zeroC,e2):=by
     unfold readH;rw[hS2];cases e2 with
     |ok=>exact absurd rfl ho2
     |num n=>rfl
     |ball u=>rfl
    obtain⟨T0,x0,rfl⟩:=he2.rep.some ho2
    repeat' (first|refine qZa ?_|(refine qZf ?_;try simp only[z06,z01])|(refine qZb ?_;simp (config:=qZc) (disch:=first|omega|rfl) only[sB,Za,reduceCtorEq,ze9])|(refine qZj (id:=13) [([(0,0),(2,0)],some 3),([(1,0),(4,1)],none)] ?_ ?_;kernel_rfl;simp (config:=qZc) (disch:=first|omega|rfl) only[sD,sB,Za,Zb,one,reduceCtorEq,ld55,st55,t5,t7,q7,g5,isAlloc,isRead,Bool.and_true])|(refine qZd ?_ ?_;simp (config:=qZc) (disch:=first|omega|rfl) only[sB,Za,reduceCtorEq];refine z05 ?_))
    exact z30 hR (hx10.bump _) g5 (by simp only[sB,Za,reduceCtorEq];rfl) (by simp only[sG,Za,reduceCtorEq,t5]) (by simp only[sG,Za,reduceCtorEq]) (RepES.to he2 fun n hn hl=>⟨rfl,hn,by show n < H10.next+_;omega⟩) dG (by show _<=H10.next+_;omega)
   subst ho2;obtain rfl:ev2=.nilIface:=he2.rep;have hR2:readH m1 h r=readB m2 t2 r:=by unfold readH;rw[hS2]
   rw[hR2];(repeat refine qZa ?_);refine qZb ?_;simp (config:=qZc) (disch:=first|omega|rfl) only[sB,Za,reduceCtorEq,zau];refine qZm (by simp (config:=qZc) (disch:=first|omega|rfl) only[sB,Za,reduceCtorEq]) ?_;(try refine qZe ?_);(try simp only[z00,z03]);(repeat refine qZa ?_);refine qZb ?_;simp (config:=qZc) (disch:=first|omega|rfl) only[sB,Za,reduceCtorEq,z0o,ld3,t10,q10];(repeat refine qZa ?_);refine EvC.join (fun st=>∃tm',st=⟨tm',[],H10⟩/\tm'.get 0=some (.string m2)/\tm'.get 5=some (.pointer (some ⟨H.next+1,0,none⟩))/\tm'.get 7=some (.pointer (some ⟨H2.next,0,none⟩)) /\
    tm'.get 10=some (.pointer (some ⟨p10,0,none⟩))/\tm'.get 11=some (.pointer (some ⟨p11,0,none⟩))/\t2.kind≠1/\¬isNum t2) ?_ ?_
   ·refine qZg ?_;by_cases k1:t2.kind=1
    ·have hR:readB m2 t2 r=(Zd,zeroC,.ball (atmT sInst)):=by unfold readB;rw[if_pos k1]
     (repeat refine qZa ?_);refine qZb ?_;simp (config:=qZc) (disch:=first|omega|rfl) only[sB,Za,reduceCtorEq,z0y k1];refine qZd (by simp (config:=qZc) (disch:=first|omega|rfl) only[sB,Za,reduceCtorEq]) ?_;(try refine qZe ?_);(try simp only[z00,z03]);(repeat refine qZa ?_);refine qZj [([],some 1),([],some 2),([(0,0),(3,2)],some 4),([(5,3)],none)] (by kernel_rfl) ?_;simp (config:=qZc) (disch:=first|omega|rfl) only[sD,sA,Zb,cl99];have hb:=(HX.refl w10).bump 6;refine(z4d hb.wf).mono ?_;rintro v H11 ⟨rfl,hx11⟩;have w11:=hx11.wf;have q711:=z1n ((hb.trans hx11).get w10 g7)
     repeat' (first|(refine z0q ?_;simp (config:=qZc) (disch:=first|omega|rfl) only[sD,sB,Za,reduceCtorEq,zo4]))
     refine(z7x (S:=fun _=>False) (z4e (by decide)) w11 (fun _ h=>h.elim)).mono ?_;rintro v H12 ⟨hx12,he12⟩;have hx02:=(hb.trans hx11).trans hx12;have q712:=z1n (hx02.get w10 g7);have g5:=hx02.get w10 g5
     repeat' (first|(refine qZf ?_;try simp only[z06,z01])|(refine z0q ?_;simp (config:=qZc) (disch:=first|omega|rfl) only[sV,sD,sB,Za,Zb,one,reduceCtorEq,ld55,st55,t5,t7,q7,q711,q712,g5,isAlloc,isRead]))
     have n11:H10.next+6<=H11.next:=hx11.next;exact z30 (lo:=H11.next) (hi:=H12.next) hR (hx10.trans hx02) g5 (by simp only[sB,Za,reduceCtorEq];rfl) (by simp only[sG,Za,reduceCtorEq,t5]) (by simp only[sG,Za,reduceCtorEq]) (he12.to fun n hn hl=>⟨rfl,hn.resolve_left (fun h=>h),hl⟩) (by omega) (Zf _)
    by_cases k3:isNum t2
    ·have hR:readB m2 t2 r=(Zd,zeroC,.ball (typeT sCallable t2)):=by unfold readB;rw[if_neg k1,if_pos k3]
     (repeat refine qZa ?_);refine qZb ?_;simp (config:=qZc) (disch:=first|omega|rfl) only[sB,Za,reduceCtorEq,z0t k1];refine qZm (by simp (config:=qZc) (disch:=first|omega|rfl) only[sB,Za,reduceCtorEq]) ?_;(try refine qZe ?_);(try simp only[z00,z03]);by_cases k33:t2.kind=3
     ·(repeat refine qZa ?_);refine qZb ?_;simp (config:=qZc) (disch:=first|omega|rfl) only[sB,Za,reduceCtorEq,z0y k33];refine qZd (by simp (config:=qZc) (disch:=first|omega|rfl) only[sB,Za,reduceCtorEq]) ?_;(try refine qZe ?_);(try simp only[z00,z03]);refine qZd (by simp (config:=qZc) (disch:=first|omega|rfl) only[sB,Za,reduceCtorEq]) ?_;(try refine qZe ?_);(try simp only[z00,z03]);(repeat refine qZa ?_);refine qZj [([(1,0)],some 2),([(0,0),(3,1)],some 4),([(5,2)],none)] (by kernel_rfl) ?_;simp (config:=qZc) (disch:=first|omega|rfl) only[sD,sB,Za,Zb,reduceCtorEq,ld26,zo5,isAlloc,isRead,t10,q10];have hb:=(HX.refl w10).bump 6;refine(z6k (s:=sCallable) (by decide) ((r2.mono hx10 hw).mono hb w10) hc2 hb.wf).mono ?_;rintro v H12 ⟨hx12,he12⟩;have hx02:=hb.trans hx12;have q712:=z1n (hx02.get w10 g7);have g5:=hx02.get w10 g5
      repeat' (first|(refine qZf ?_;try simp only[z06,z01])|(refine z0q ?_;simp (config:=qZc) (disch:=first|omega|rfl) only[sV,sD,sB,Za,Zb,one,reduceCtorEq,ld55,st55,t5,t7,q7,q712,g5,isAlloc,isRead]))
      have n11:H10.next+6<=H12.next:=hx12.next;exact z30 (lo:=H10.next+6) (hi:=H12.next) hR (hx10.trans hx02) g5 (by simp only[sB,Za,reduceCtorEq];rfl) (by simp only[sG,Za,reduceCtorEq,t5]) (by simp only[sG,Za,reduceCtorEq]) (he12.to fun n hn hl=>⟨rfl,hn,hl⟩) (by omega) (Zf _)
     ·have k44:t2.kind=4:=k3.resolve_left k33;(repeat refine qZa ?_);refine qZb ?_;simp (config:=qZc) (disch:=first|omega|rfl) only[sB,Za,reduceCtorEq,z0t k33];refine qZm (by simp (config:=qZc) (disch:=first|omega|rfl) only[sB,Za,reduceCtorEq]) ?_;(try refine qZe ?_);(try simp only[z00,z03]);refine qZb ?_;simp (config:=qZc) (disch:=first|omega|rfl) only[sB,Za,reduceCtorEq,z0y k44];refine qZd (by simp (config:=qZc) (disch:=first|omega|rfl) only[sB,Za,reduceCtorEq]) ?_;(try refine qZe ?_);(try simp only[z00,z03]);(repeat refine qZa ?_);refine qZj [([(1,0)],some 2),([(0,0),(3,1)],some 4),([(5,2)],none)] (by kernel_rfl) ?_;simp (config:=qZc) (disch:=first|omega|rfl) only[sD,sB,Za,Zb,reduceCtorEq,ld26,zo5,isAlloc,isRead,t10,q10];have hb:=(HX.refl w10).bump 6;refine(z6k (s:=sCallable) (by decide) ((r2.mono hx10 hw).mono hb w10) hc2 hb.wf).mono ?_;rintro v H12 ⟨hx12,he12⟩;have hx02:=hb.trans hx12;have q712:=z1n (hx02.get w10 g7);have g5:=hx02.get w10 g5
      repeat' (first|(refine qZf ?_;try simp only[z06,z01])|(refine z0q ?_;simp (config:=qZc) (disch:=first|omega|rfl) only[sV,sD,sB,Za,Zb,one,reduceCtorEq,ld55,st55,t5,t7,q7,q712,g5,isAlloc,isRead]))
      have n11:H10.next+6<=H12.next:=hx12.next;exact z30 (lo:=H10.next+6) (hi:=H12.next) hR (hx10.trans hx02) g5 (by simp only[sB,Za,reduceCtorEq];rfl) (by simp only[sG,Za,reduceCtorEq,t5]) (by simp only[sG,Za,reduceCtorEq]) (he12.to fun n hn hl=>⟨rfl,hn,hl⟩) (by omega) (Zf _)
    ·have k33:t2.kind≠3:=fun e=>k3 (.inl e)
     have k44:t2.kind≠4:=fun e=>k3 (.inr e)
     repeat' (first|refine qZa ?_|(refine qZe ?_;try simp only[sA])|(refine qZb ?_;simp (config:=qZc) (disch:=first|omega|rfl) only[sB,Za,reduceCtorEq,z0t k1,z0t k33,z0t k44])|(refine qZm ?_ ?_;simp (config:=qZc) (disch:=first|omega|rfl) only[sB,Za,reduceCtorEq];refine z05 ?_))
     exact⟨_,rfl,(by simp only[sG,reduceCtorEq]),(by simp only[sG,Za,reduceCtorEq,t5]),(by simp only[sG,Za,reduceCtorEq,t7]),(by simp only[sG,Za,reduceCtorEq,t10]),(by simp only[sG,Za,reduceCtorEq,t11]),k1,k3⟩
   ·rintro st ⟨tm',rfl,t0,t5,t7,t10,t11,k1,k3⟩;simp only[z00];have hR3:readB m2 t2 r=match bodyF (SizeOf.sizeOf r+1) r with
      |none=>(Zd,zeroC,.ball (typeT sCallable r))
      |some b=>if 400 < cnt t2 0+cnt (toldB b) 0 then (Zd,zeroC,.ball (resT sClause)) else (m2,madeC t2 r,.ok):=by
     unfold readB;rw[if_neg k1,if_neg k3]
    (repeat refine qZa ?_);refine qZb ?_;simp (config:=qZc) (disch:=first|omega|rfl) only[sB,Za,ld26,cl94,t11,q11];refine(z9g (rr.mono hx10 hw) w10).mono ?_;rintro v H11 ⟨hx11,out,ev,rfl,hob,hev⟩;obtain⟨ta,tc,sa,sc,rfl⟩:=hob.rep.eight;have w11:=hx11.wf;have n11:=hx11.next;(try simp (config:=qZc) (disch:=first|omega|rfl) only[sB,dAlloc,Za,Zb,one,zr53,st53]);obtain⟨H12,e12,hx12,g12,hn12,w12⟩:=z0r w11 (.row zero8 53) (.row (eightT (readyS r).1.kind (readyS r).1.term ta tc sa (readyS r).1.sub.length sc) 53);simp only[e12];clear e12;have hx012:=hx11.trans hx12;have hxH12:=hx10.trans hx012;have g10:=hx012.get w10 g10;have g11:=hx012.get w10 g11;have g5:=hx012.get w10 g5;have g7:=hx012.get w10 g7;have q10:=row6 g10;have q11:=row6 g11;have q12:=row8 g12;have q7:=z1n g7;have d12:H.next+2<=H12.next:=by have:=hx012.next;omega
    have hev:RepES H12 (Rg H10.next H11.next) (readyS r).2 ev:=hev.to fun n hn hl=>⟨hx12.keep n hl,hn,by omega⟩
    cases hb:bodyF (SizeOf.sizeOf r+1) r with
    |none =>
     have hrs:readyS r=(zeroB,.ball (typeT sCallable r)):=by unfold readyS;rw[if_neg (fun h=>h hcr),hb]
     rw[hb] at hR3;rw[hrs] at hev;obtain⟨pb,ab,cb,rfl,gb,rb⟩:=hev.rep;have qb:=row6 gb;have hne1:((typeT sCallable r).name.toList == sResE.toList)=false:=zah (show sTypeE≠sResE by decide);(repeat refine qZa ?_);refine qZb ?_;simp (config:=qZc) (disch:=first|omega|rfl) only[sB,Za,z24,zfm zmn];(repeat refine qZa ?_);refine qZj [([(0,0),(1,0),(2,0),(3,0),(4,0),(5,0),(6,0),(7,0),(8,0),(9,0),(10,0),(11,0),(12,0),(13,0)],some 14),([(15,0)],some 16),([],some 17),([(18,3),(19,3),(20,3),(21,3)],none)] (by kernel_rfl) ?_;simp (config:=qZc) (disch:=first|omega|rfl) only[sD,sB,Za,Zb,reduceCtorEq,zl3,z1t,ld9,isAlloc,isRead,qb,zhx,ze8,z2c,hne1,zuk];refine qZm (by simp (config:=qZc) (disch:=first|omega|rfl) only[sB,Za]) ?_;(try refine qZe ?_);(try simp only[z00,z03])
     repeat' (first|refine qZa ?_|(refine qZf ?_;try simp only[z06,z01])|(refine qZb ?_;simp (config:=qZc) (disch:=first|omega|rfl) only[sB,Za,ze9])|(refine qZj (id:=25) [([(0,0),(2,0)],some 3),([(1,0),(4,1)],none)] ?_ ?_;kernel_rfl;simp (config:=qZc) (disch:=first|omega|rfl) only[sD,sB,Za,Zb,one,reduceCtorEq,ld55,st55,t5,t7,q7,g5,isAlloc,isRead,Bool.and_true])|(refine qZd ?_ ?_;simp (config:=qZc) (disch:=first|omega|rfl) only[sB,Za];refine z05 ?_))
     refine z30 (lo:=H10.next) (hi:=H11.next) hR3 ((hxH12.bump 22).bump 5) g5 (by simp only[sB,Za];rfl) (by simp only[sG,Za,t5]) (by simp only[sG,Za]) (hev.to fun n hn hl=>⟨rfl,hn,by show n < H12.next+22+5;omega⟩) (by omega) (by show _<=H12.next+22+5;omega)
    |some b =>
     rw[hb] at hR3;simp only at hR3;by_cases h4:4000 < cnt (toldB b) 0
     ·have hrs:readyS r=(zeroB,.ball (resT sNodes)):=by unfold readyS;rw[if_neg (fun h=>h hcr),hb];simp only;rw[if_pos h4]
      have hR4:readB m2 t2 r=(Zd,zeroC,.ball (resT sClause)):=by rw[hR3,if_pos (by omega)]
      rw[hrs] at hev;obtain⟨pb,ab,cb,rfl,gb,rb⟩:=hev.rep;have qb:=row6 gb;have hne1:((resT sNodes).name.toList == sResE.toList)=true:=z2b rfl;(repeat refine qZa ?_);refine qZb ?_;simp (config:=qZc) (disch:=first|omega|rfl) only[sB,Za,z24,zfm zmn];(repeat refine qZa ?_);refine qZj [([(0,0),(1,0),(2,0),(3,0),(4,0),(5,0),(6,0),(7,0),(8,0),(9,0),(10,0),(11,0),(12,0),(13,0)],some 14),([(15,0)],some 16),([],some 17),([(18,3),(19,3),(20,3),(21,3)],none)] (by kernel_rfl) ?_;simp (config:=qZc) (disch:=first|omega|rfl) only[sD,sB,Za,Zb,reduceCtorEq,zl3,z1t,ld9,isAlloc,isRead,qb,zhx,ze8,z2c,hne1];refine qZd (by simp (config:=qZc) (disch:=first|omega|rfl) only[sB,Za]) ?_;(try refine qZe ?_);(try simp only[z00,z03]);(repeat refine qZa ?_);refine qZj [([],some 1),([(0,0),(2,1)],some 3),([(4,2)],none)] (by kernel_rfl) ?_;simp (config:=qZc) (disch:=first|omega|rfl) only[sD,sA,Zb,zro];have hb2:HX H12 ⟨H12.next+22+5,H12.t⟩:=((HX.refl w12).bump 22).bump 5;refine(zc4 (s:=sClause) (by decide) hb2.wf).mono ?_
      rintro v H13 ⟨hx13,he13⟩;have hx23:=hb2.trans hx13;have q713:=z1n (hx23.get w12 g7);have g5:=hx23.get w12 g5
      repeat' (first|(refine qZf ?_;try simp only[z06,z01])|(refine z0q ?_;simp (config:=qZc) (disch:=first|omega|rfl) only[sV,sD,sB,Za,Zb,one,reduceCtorEq,ld55,st55,t5,t7,q7,q713,g5,isAlloc,isRead]))
      have n13:H12.next+22+5<=H13.next:=hx13.next;exact z30 (lo:=H12.next+22+5) (hi:=H13.next) hR4 (hxH12.trans hx23) g5 (by simp only[sB,Za];rfl) (by simp only[sG,Za,t5]) (by simp only[sG,Za]) (he13.to fun n hn hl=>⟨rfl,hn,hl⟩) (by omega) (Zf _)
     ·have hrs:readyS r=(b,.ok):=by unfold readyS;rw[if_neg (fun h=>h hcr),hb];simp only;rw[if_neg h4]
      rw[hrs] at hev;obtain rfl:ev=.nilIface:=hev.rep;(repeat refine qZa ?_);refine qZb ?_;simp (config:=qZc) (disch:=first|omega|rfl) only[sB,Za,z24,zma zmn];(repeat refine qZa ?_);refine qZj [([(0,0),(1,0),(2,0),(3,0),(4,0),(5,0),(6,0),(7,0),(8,0),(9,0),(10,0),(11,0),(12,0),(13,0)],some 14),([(15,0)],some 16),([],some 17),([(18,3),(19,3),(20,3),(21,3)],none)] (by kernel_rfl) ?_;simp (config:=qZc) (disch:=first|omega|rfl) only[sD,sB,Za,Zb,reduceCtorEq,ld26,cl75,isAlloc,isRead,t10,q10,zul];have hb2:HX H12 ⟨H12.next+22,H12.t⟩:=(HX.refl w12).bump 22;refine(z1i _ _ _ (r2.mono (hxH12.bump 22) hw) hb2.wf).mono ?_;rintro v H13 ⟨rfl,hx13⟩;have hx213:=hb2.trans hx13;have q1213:=row8 (hx213.get w12 g12)
      repeat' (first|(refine z0q ?_;simp (config:=qZc) (disch:=first|omega|rfl) only[sV,sD,sB,Za,reduceCtorEq,ld53,cl93,q12,q1213,isAlloc,isRead]))
      have hfew:=(z9f (z0h.1 hcr).2 hb).up (m:=1000000) (by decide);have hrb:(readyS r).1=b:=by rw[hrs]
      have w13:=hx13.wf;have hk3:=hx12.trans hx213;have hob13:OB H13 53 26 (Rg H10.next H11.next) (readyS r).1 _:=hob.keep hk3;refine(zc3 (Zg _) hob13.bi (by rw[hrb];exact hfew) (fun n hn=>by have:=hn.2;have:=hk3.next;omega) w13).mono ?_;rintro v H14 ⟨hx14,outT,rfl,hrT⟩;rw[hrb] at hrT
      repeat' (first|(refine z0q ?_;simp (config:=qZc) (disch:=first|omega|rfl) only[sD,sB,Za,cl75]))
      refine(z1i _ _ _ hrT.rep hx14.wf).mono ?_;rintro v H15 ⟨rfl,hx15⟩
      repeat' (first|(refine z0q ?_;simp (config:=qZc) (disch:=first|omega|rfl) only[sD,sB,Za,Zb,reduceCtorEq,isAlloc,isRead]))
      have hx25:=(hx213.trans hx14).trans hx15;have g10:=hx25.get w12 g10;have g11:=hx25.get w12 g11;have g5:=hx25.get w12 g5;have g7:=hx25.get w12 g7;have q10:=row6 g10;have q11:=row6 g11;have q7:=z1n g7;have w15:=hx25.wf;have n25:=hx25.next;have hxH15:=hxH12.trans hx25;have cp1:=z4a t2;have cp2:=z4a (toldB b);by_cases h400:400 < cnt t2 0+cnt (toldB b) 0
      ·have hR4:readB m2 t2 r=(Zd,zeroC,.ball (resT sClause)):=by rw[hR3,if_pos h400]
       have hd:decide ((cnt t2 0:Int)+(cnt (toldB b) 0:Int) > 400)=true:=decide_eq_true (by omega);refine qZd (by simp (config:=qZc) (disch:=first|omega|rfl) only[sB,Za,z0d,hd]) ?_;(try refine qZe ?_);(try simp only[z00,z03]);(repeat refine qZa ?_);refine qZj [([],some 1),([(0,0),(2,1)],some 3),([(4,2)],none)] (by kernel_rfl) ?_;simp (config:=qZc) (disch:=first|omega|rfl) only[sD,sA,Zb,zro];have hb2:HX H15 ⟨H15.next+5,H15.t⟩:=(HX.refl w15).bump 5;refine(zc4 (s:=sClause) (by decide) hb2.wf).mono ?_;rintro v H16 ⟨hx16,he16⟩;have hx23:=hb2.trans hx16;have q716:=z1n (hx23.get w15 g7);have g5:=hx23.get w15 g5
       repeat' (first|(refine qZf ?_;try simp only[z06,z01])|(refine z0q ?_;simp (config:=qZc) (disch:=first|omega|rfl) only[sV,sD,sB,Za,Zb,one,reduceCtorEq,ld55,st55,t5,t7,q7,q716,g5,isAlloc,isRead]))
       have n16:H15.next+5<=H16.next:=hx16.next;exact z30 (lo:=H15.next+5) (hi:=H16.next) hR4 (hxH15.trans hx23) g5 (by simp only[sB,Za];rfl) (by simp only[sG,Za,t5]) (by simp only[sG,Za]) (he16.to fun n hn hl=>⟨rfl,hn,hl⟩) (by omega) (Zf _)
      have hR4:readB m2 t2 r=(m2,madeC t2 r,.ok):=by rw[hR3,if_neg h400]
      have hd:decide ((cnt t2 0:Int)+(cnt (toldB b) 0:Int) > 400)=false:=decide_eq_false (by omega);refine qZm (by simp (config:=qZc) (disch:=first|omega|rfl) only[sB,Za,z0d,hd]) ?_;(try refine qZe ?_);(try simp only[z00,z03]);(repeat refine qZa ?_);refine qZb ?_;simp (config:=qZc) (disch:=first|omega|rfl) only[sB,Za,zau];refine qZm (by simp (config:=qZc) (disch:=first|omega|rfl) only[sB,Za]) ?_;(try refine qZe ?_);(try simp only[z00,z03]);(repeat refine qZa ?_);refine qZb ?_;simp (config:=qZc) (disch:=first|omega|rfl) only[sB,Za,Zb,Value.cells,one,Zn,layC,ld26,zae,zvi,t10,t11,q10,q11];obtain⟨H16,e16,k16,g16,hn16,w16⟩:=new1 w15 (.row (six t2 a2 c2++six r ar cr) 26);have e16':=e16;simp only[six,List.cons_append,List.nil_append] at e16';simp only[e16'];clear e16 e16';have hxH16:=hxH15.trans k16;have hch2:chkL [t2,r]=0:=by simp [chkL,hc2,hcr]
      have ho2:(occL [t2,r]).length<=8000:=by
       have:=zm5 hc2;have:=zm5 hcr;simp only[occL,Zy,List.length_nil];omega
      refine(zou (RepL.two (r2.mono hxH16 hw) (rr.mono hxH16 hw) g16) (Zk ho2 (by simp [most])) (by simp [most]) w16).mono ?_;rintro v H17 ⟨ap,kp,rfl,hfl,hx17⟩;rw[if_pos hch2] at hfl ⊢;have hff:∀u∈[t2,r],Fine u:=fun u hu=>by
       rcases List.mem_cons.1 hu with rfl|hu
       ·exact(z0h.1 hc2).2
       ·rw[List.mem_singleton.1 hu];exact(z0h.1 hcr).2
      have hpo:(occL (plainL [t2,r])).length<=8000:=by rw[z5c,zht hff,Zt];exact ho2
      have hpc:chkL (plainL [t2,r])=0:=by
       have hp:=fun n=>(z6i (uniq (occL [t2,r])) n).1
       rw[z5c];simp [chkL,zc7 hp hc2,zc7 hp hcr]
      have hmc:madeC t2 r=⟨(plainL [t2,r]).getD 0 zeroT,(readyS ((plainL [t2,r]).getD 1 zeroT)).1,(uniq (occL (plainL [t2,r]))).length⟩:=rfl;obtain⟨u0,u1,hpl⟩:∃u0 u1,plainL [t2,r]=[u0,u1]:=⟨_,_,rfl⟩
      have hu1:checkS u1=0:=z90 hpc u1 (by rw[hpl];simp);rw[hpl] at hfl hpo hpc hmc ⊢;obtain⟨cellsp,rlp⟩:=hfl.rep;have w17:=hx17.wf;have n17:=hx17.next;(try simp (config:=qZc) (disch:=first|omega|rfl) only[sB,Za,Zb]);(repeat refine qZa ?_);refine qZb ?_;simp (config:=qZc) (disch:=first|omega|rfl) only[sB,Za,cl28];refine(zbx rlp (Zk hpo (by simp [most])) w17).mono ?_;rintro v H18 ⟨u,rfl,hil,hx18⟩;rw[if_pos hpc] at hil;obtain⟨au,ku,rfl,-,-⟩:=hil.slice;obtain⟨bp,op,ax0,cx0,hap,ld0,rs0⟩:=hfl.elS (i:=0) w17 (by simp);obtain⟨bp',op',ax1,cx1,hap',ld1,rs1⟩:=hfl.elS (i:=1) w17 (by simp);subst hap;cases hap';simp only[ZL,Nat.add_zero,Nat.one_mul,List.getElem_cons_zero,List.getElem_cons_succ] at ld0 ld1 rs0 rs1;have ld1':=hx18.load w17 ld1;have w18:=hx18.wf;have n18:=hx18.next;(try simp (config:=qZc) (disch:=first|omega|rfl) only[sB,Za]);(repeat refine qZa ?_);refine qZb ?_;simp (config:=qZc) (disch:=first|omega|rfl) only[sB,Za,ZO,ld26,cl94,ld1',iz22,Nat.one_mul]
      refine(z9g (rs1.rep.mono hx18 w17) w18).mono ?_;rintro v H19 ⟨hx19,outB,evB,rfl,hoB,-⟩;obtain⟨bta,btc,bsa,bsc,rfl⟩:=hoB.rep.eight;have w19:=hx19.wf;have n19:=hx19.next;(try simp (config:=qZc) (disch:=first|omega|rfl) only[sB,dAlloc,Za,Zb,one,zr53,st53]);obtain⟨H20,e20,hx20,g20,hn20,w20⟩:=z0r w19 (.row zero8 53) (.row (eightT (readyS u1).1.kind (readyS u1).1.term bta btc bsa (readyS u1).1.sub.length bsc) 53);simp only[e20];clear e20;have k20:=(hx18.trans hx19).trans hx20;have hx16':=hx17.trans k20;have ld0':=k20.load w17 ld0;have q20:=row8 g20;have g5:=hx16'.get w16 (k16.get w15 g5);have hxH20:=hxH16.trans hx16';have nU:(uniq (occL [u0,u1])).length<=8000:=Zk (zbw _) hpo;(repeat refine qZa ?_);refine qZj [([(0,0),(1,0),(2,0),(3,0),(4,0),(5,0),(6,0),(7,0),(8,0)],some 9),([(10,1)],none)] (by kernel_rfl) ?_;simp (config:=qZc) (disch:=first|omega|rfl) only[sD,sB,Za,Zb,Value.cells,one,reduceCtorEq,Zn,layC,ZO,ld26,st55,ld53,ln60,bd55,isAlloc,isRead,t0,t5,ld0',q20,g5,iz22,ZL]
      repeat' (first|(refine qZf ?_))
      have hxb:=hxH20.bump 11;have hz:=hxb.pt (i:=H.next+1) (by omega) (show Heap.get ⟨H20.next+11,H20.t⟩ (H.next+1)=_ from g5) (some (.row (fift u0 ax0 cx0 (readyS u1).1.kind (readyS u1).1.term bta btc bsa (readyS u1).1.sub.length bsc (uniq (occL [u0,u1])).length) 55));rw[hR4,hmc];refine z4p rfl (by simp only[sG,Za]) (by simp only[sB,Za,t5];rfl) (by simp only[sB,Zb,cutC,ld55];rfl) (by simp only[sG,Za]) ⟨hz,_,_,rfl,⟨_,_,_,_,_,_,rfl,?_,?_⟩,RepES.fine⟩
      ·refine rs0.to fun n hn hl=>?_
       have a1:=hn.1;have a2:=k20.next;exact⟨by rw[get_put,if_neg (by omega)];exact k20.keep n hl,⟨by omega,by rw[z07];show n < H20.next+11;omega⟩,by rw[z07];show n < H20.next+11;omega⟩
      ·refine hoB.to (fun n hn hl=>?_) fun n hn=>?_
       ·have a1:=hn.1;have a2:=hx20.next;exact⟨by rw[get_put,if_neg (by omega)];exact hx20.keep n hl,by rw[z07];show n < H20.next+11;omega⟩
       ·have a1:=hn.1;have a3:=hn.2;have a2:=hx20.next;exact⟨by omega,by rw[z07];show n < H20.next+11;omega⟩
theorem zmo {t:Tm}(hn:nodeS t=0) (h:∀u∈t.args,Fine u):Fine t:=by
 unfold Fine;rw[z5q,if_pos hn];have hl:∀l:List Tm,(∀u∈l,Fine u)->allL nodeS l=0:=by
  intro l
  induction l with
  |nil=>intro _;rfl
  |cons u l ih =>
   intro hu;rw[allL,if_pos (show allE nodeS u=0 from hu u (by simp))];exact ih fun v hv=>hu v (Zm _ hv)
 exact hl t.args h
theorem z3g {s:ByteArray}{x y:Tm}(hs:nodeS (cmpT s [zeroT,zeroT])=0) (hx:Fine x) (hy:Fine y):Fine (cmpT s [x,y]) :=
 zmo (by rw[show cmpT s [x,y]=.mk 5 s Zd 0 0 [x,y] from rfl,z99 (l:=[zeroT,zeroT]) (l':=[x,y]) rfl];exact hs) fun u hu=>by
  rcases List.mem_cons.1 hu with rfl|hu
  ·exact hx
  ·rw[List.mem_singleton.1 hu];exact hy
theorem z6n {s:ByteArray}{x:Tm}(hs:nodeS (cmpT s [zeroT])=0) (hx:Fine x):Fine (cmpT s [x]) :=
 zmo (by rw[show cmpT s [x]=.mk 5 s Zd 0 0 [x] from rfl,z99 (l:=[zeroT]) (l':=[x]) rfl];exact hs) fun u hu=>by rw[List.mem_singleton.1 hu];exact hx
theorem zc9:nodeS (cmpT sCall [zeroT])=0:=by kernel_rfl
theorem zum:nodeS (cmpT sCol [zeroT,zeroT])=0:=by kernel_rfl
theorem zun:nodeS (cmpT sCma [zeroT,zeroT])=0:=by kernel_rfl
theorem zqx:nodeS (cmpT sArr [zeroT,zeroT])=0:=by kernel_rfl
theorem zqy:nodeS (cmpT sSem [zeroT,zeroT])=0:=by kernel_rfl
theorem zuo:nodeS (cmpT sNck [zeroT,zeroT])=0:=by kernel_rfl
theorem zmp:Fine (atmT sTrue):=(z0h.1 z77).2
theorem zoz:Fine (atmT sExc):=(z0h.1 (show checkS (atmT sExc)=0 by kernel_rfl)).2
theorem isF2.fine {t x y:Tm}{s:ByteArray}(h:isF2 t s x y) (hf:Fine t):Fine x/\Fine y:=⟨hf.args _ (by rw[h.2.2];simp),hf.args _ (by rw[h.2.2];simp)⟩
theorem zea {t:Tm}{b:Bdy}(hf:Fine t) (h:BdR t b):Fine (toldB b):=by
 induction h with
 |var h=>rw[z1k];exact z6n zc9 hf
 |tru h1 h2=>rw[ze6];exact zmp
 |cut h1 h2=>rw[ze7];exact zoz
 |mcall h h1 h2 h3=>rw[z1k];exact z6n zc9 hf
 |mod h h1 h2 h3 hb ih=>rw[zaq];exact z3g zum (h.fine hf).1 (ih (h.fine hf).2)
 |and h hb hd i1 i2=>rw[zar];exact z3g zun (i1 (h.fine hf).1) (i2 (h.fine hf).2)
 |arr h hb hd i1 i2=>rw[zat];exact z3g zqx (i1 (h.fine hf).1) (i2 (h.fine hf).2)
 |ite h hg hb hd he i1 i2 i3=>rw[z75];exact z3g zqy (z3g zqx (i1 (hg.fine (h.fine hf).1).1) (i2 (hg.fine (h.fine hf).1).2)) (i3 (h.fine hf).2)
 |or h hn hb hd i1 i2=>rw[zas];exact z3g zqy (i1 (h.fine hf).1) (i2 (h.fine hf).2)
 |call h=>rw[zap];exact hf
theorem z5d {s:ByteArray}{x y:Tm}:occ (cmpT s [x,y])=occ x++occ y:=by rw[z3f,if_neg (by intro q;cases q)];show []++occL [x,y]=_;simp [occL]
theorem zhy {s:ByteArray}{x:Tm}:occ (cmpT s [x])=occ x:=by rw[z3f,if_neg (by intro q;cases q)];show []++occL [x]=_;simp [occL]
theorem zav {t x y:Tm}{s:ByteArray}(h:isF2 t s x y):occ t=occ x++occ y:=by rw[z3f,if_neg (by have:=h.1;omega),h.2.2];simp [occL]
theorem zhz {t:Tm}(hf:Fine t) (k:t.kind=2):occ t=[]:=by rw[z3f,if_neg (by omega),(z29 (z2f hf.node).2.2.1).2.2.2.2 (by omega)];rfl
theorem zmq {s:ByteArray}:occ (atmT s)=[]:=by rw[z3f,if_neg (by intro q;cases q)];rfl
theorem zp0 {t:Tm}{b:Bdy}(hf:Fine t) (h:BdR t b):occ (toldB b)=occ t:=by
 induction h with
 |var h=>rw[z1k,zhy]
 |tru h1 h2=>rw[ze6,zmq,zhz hf h1]
 |cut h1 h2=>rw[ze7,zmq,zhz hf h1]
 |mcall h h1 h2 h3=>rw[z1k,zhy]
 |mod h h1 h2 h3 hb ih=>rw[zaq,z5d,zav h,ih (h.fine hf).2]
 |and h hb hd i1 i2=>rw[zar,z5d,zav h,i1 (h.fine hf).1,i2 (h.fine hf).2]
 |arr h hb hd i1 i2=>rw[zat,z5d,zav h,i1 (h.fine hf).1,i2 (h.fine hf).2]
 |ite h hg hb hd he i1 i2 i3=>rw[z75,z5d,z5d,zav h,zav hg,i1 (hg.fine (h.fine hf).1).1,i2 (hg.fine (h.fine hf).1).2,i3 (h.fine hf).2]
 |or h hn hb hd i1 i2=>rw[zas,z5d,zav h,i1 (h.fine hf).1,i2 (h.fine hf).2]
 |call h=>rw[zap]
theorem zfo {n:Int}{t:Tm}:∀{l:List Tm},t∈l->n∈occ t->n∈occL l
 |u :: l,h,hn=>by
  rw[occL];rcases List.mem_cons.1 h with rfl|h
  ·exact List.mem_append_left _ hn
  ·exact List.mem_append_right _ (zfo h hn)
section
variable {f:Int->Int}
theorem z1w {t:Tm}:(ren f t).kind=t.kind:=by
 by_cases k:t.kind=1
 ·rw[z9h k,k];rfl
 ·rw[z4g k];rfl
theorem z9i {t x y:Tm}{s:ByteArray}(h:isF2 t s x y):isF2 (ren f t) s (ren f x) (ren f y):=by
 rw[z4g (by have:=h.1;omega),h.2.2];exact⟨h.1,h.2.1,rfl⟩
theorem z78 {t:Tm}{s:ByteArray}:isF (ren f t) s↔isF t s:=by
 by_cases k:t.kind=1
 ·rw[z9h k];exact⟨fun q=>(by cases q.1),fun q=>(by have:=q.1;omega)⟩
 ·rw[z4g k];exact⟨fun q=>⟨q.1,q.2.1,by have:=q.2.2;simpa [Tm.args] using this⟩,fun q=>⟨q.1,q.2.1,by have:=q.2.2;simpa [Tm.args] using this⟩⟩
theorem z4t {s:ByteArray}{l:List Tm}:ren f (cmpT s l)=cmpT s (l.map (ren f)):=by rw[z4g (by intro q;cases q)];rfl
theorem zmr {s:ByteArray}:ren f (atmT s)=atmT s:=by rw[z4g (by intro q;cases q)];rfl
theorem zca {t:Tm}:isNum (ren f t)↔isNum t:=by unfold isNum;rw[z1w]
theorem zsq {t:Tm}(h:Oth t):Oth (ren f t):=by
 have hn:(ren f t).name=t.name:=by rw[z4g h.var];rfl
 exact⟨fun q=>h.num (zca.1 q),by rw[z1w];exact h.var,by rw[z1w,hn];exact h.tru,by rw[z1w,hn];exact h.cut,fun q=>h.col (z78.1 q),fun q=>h.cma (z78.1 q),fun q=>h.arr (z78.1 q),fun q=>h.sem (z78.1 q)⟩
theorem zw3 {t:Tm}{b:Bdy}(hf:Fine t) (h:BdR t b):∃b',BdR (ren f t) b'/\toldB b'=ren f (toldB b):=by
 induction h with
 |@var t h=>exact⟨callB (ren f t),.var (by rw[z1w];exact h),by rw[z1k,z1k,z4t];rfl⟩
 |tru h1 h2=>exact⟨_,.tru (by rw[z1w];exact h1) (by rw[z4g (by omega)];exact h2),by rw[ze6,zmr]⟩
 |cut h1 h2=>exact⟨_,.cut (by rw[z1w];exact h1) (by rw[z4g (by omega)];exact h2),by rw[ze7,zmr]⟩
 |@mcall t x y h h1 h2 h3=>exact⟨callB (ren f t),.mcall (z9i h) (by rw[z1w];exact h1) (fun q=>h2 (zca.1 q)) (by rw[z1w,z1w];exact h3),by rw[z1k,z1k,z4t];rfl⟩
 |mod h h1 h2 h3 hb ih =>
  obtain⟨b',i1,i2⟩:=ih (h.fine hf).2;exact⟨_,.mod (z9i h) (by rw[z1w];exact h1) (by rw[z1w];exact h2) (fun q=>h3 (zca.1 q)) i1,by rw[zaq,zaq,z4t,i2];rfl⟩
 |and h hb hd i1 i2 =>
  obtain⟨b',j1,j2⟩:=i1 (h.fine hf).1;obtain⟨d',k1,k2⟩:=i2 (h.fine hf).2;exact⟨_,.and (z9i h) j1 k1,by rw[zar,zar,z4t,j2,k2];rfl⟩
 |arr h hb hd i1 i2 =>
  obtain⟨b',j1,j2⟩:=i1 (h.fine hf).1;obtain⟨d',k1,k2⟩:=i2 (h.fine hf).2;exact⟨_,.arr (z9i h) j1 k1,by rw[zat,zat,z4t,j2,k2];rfl⟩
 |ite h hg hb hd he i1 i2 i3 =>
  obtain⟨b',j1,j2⟩:=i1 (hg.fine (h.fine hf).1).1;obtain⟨d',k1,k2⟩:=i2 (hg.fine (h.fine hf).1).2;obtain⟨e',l1,l2⟩:=i3 (h.fine hf).2;exact⟨_,.ite (z9i h) (z9i hg) j1 k1 l1,by rw[z75,z75,z4t,j2,k2,l2];simp only[Zx,List.map_nil,z4t]⟩
 |or h hn hb hd i1 i2 =>
  obtain⟨b',j1,j2⟩:=i1 (h.fine hf).1;obtain⟨d',k1,k2⟩:=i2 (h.fine hf).2;exact⟨_,.or (z9i h) (fun q=>hn (z78.1 q)) j1 k1,by rw[zas,zas,z4t,j2,k2];rfl⟩
 |call h=>exact⟨_,.call (zsq h),by rw[zap,zap]⟩
theorem zqz:∀(m:Nat) {t:Tm},SizeOf.sizeOf t < m->Fine t->(∀n∈occ t,f n=n)->ren f t=t
 |0,t,h,_,_=>by omega
 |m+1,t,h,hf,ho=>by
  by_cases k:t.kind=1
  ·have hb:=z29 (z2f hf.node).2.2.1;rw[z9h k,ho t.var (by rw[z3f,if_pos k];simp)];obtain⟨k',s,u,b,v,l⟩:=t;have e1:=hb.1 (by omega) (by omega);have e2:=hb.2.1 (by omega);have e3:=hb.2.2.1 (by omega);have e5:=hb.2.2.2.2 (by omega);simp only[Tm.name,Tm.num,Tm.bits,Tm.args,Tm.kind] at e1 e2 e3 e5 k;subst e1 e2 e3 e5 k;rfl
  ·rw[z4g k];have hm:t.args.map (ren f)=t.args:=by
    have:∀l:List Tm,(∀u∈l,ren f u=u)->l.map (ren f)=l:=fun l hl=>by
     conv=>rhs;rw[<-List.map_id l]
     exact List.map_congr_left hl
    refine this _ fun u hu=>zqz m (by have:=z0g hu;omega) (hf.args u hu) fun n hn=>ho n ?_
    rw[z3f];exact List.mem_append_right _ (zfo hu hn)
   rw[hm];obtain⟨k',s,u,b,v,l⟩:=t;rfl
end
theorem zeb {n:Int}:∀(l acc:List Int),n∈acc\/n∈l->n∈l.foldl addU acc
 |[],acc,h=>by rcases h with h|h;exact h;simp at h
 |a :: l,acc,h=>by
  refine zeb l (addU acc a) ?_;rcases h with h|h
  ·refine .inl ?_;unfold addU;split
   ·exact h
   ·exact List.mem_append_left _ h
  ·rcases List.mem_cons.1 h with rfl|h
   ·refine .inl ?_;unfold addU;split
    ·assumption
    ·simp
   ·exact .inr h
theorem z9j {n:Int}{l:List Int}(h:n∈l):n∈uniq l:=zeb l [] (.inr h)
theorem zec {F:Int->Int}:∀(l acc:List Int),(∀a b,(a∈acc\/a∈l)->(b∈acc\/b∈l)->F a=F b->a=b)->(l.map F).foldl addU (acc.map F)=(l.foldl addU acc).map F
 |[],acc,_=>rfl
 |a :: l,acc,h=>by
  have e:addU (acc.map F) (F a)=(addU acc a).map F:=by
   unfold addU;by_cases k:a∈acc
   ·rw[if_pos (List.mem_map_of_mem k),if_pos k]
   ·rw[if_neg (fun q=>by
     obtain⟨b,hb,e⟩:=List.mem_map.1 q;exact k (h b a (.inl hb) (.inr (by simp)) e ▸ hb)),if_neg k,ZB];rfl
  rw[Zx,List.foldl_cons,List.foldl_cons,e];refine zec l _ fun x y hx hy=>h x y ?_ ?_
  ·rcases hx with hx|hx
   ·unfold addU at hx;split at hx
    ·exact .inl hx
    ·rcases List.mem_append.1 hx with hx|hx
     ·exact .inl hx
     ·exact .inr (by rw[List.mem_singleton.1 hx];simp)
   ·exact .inr (Zm _ hx)
  ·rcases hy with hx|hx
   ·unfold addU at hx;split at hx
    ·exact .inl hx
    ·rcases List.mem_append.1 hx with hx|hx
     ·exact .inl hx
     ·exact .inr (by rw[List.mem_singleton.1 hx];simp)
   ·exact .inr (Zm _ hx)
theorem zp1 {F:Int->Int}{l:List Int}(h:∀a∈l,∀b∈l,F a=F b->a=b):uniq (l.map F)=(uniq l).map F :=
 zec l [] fun a b ha hb=>h a (ha.resolve_left (by simp)) b (hb.resolve_left (by simp))
theorem idx_some {L:List Int}{n:Int}(h:n∈L):∃i,L.idxOf? n=some i/\L[i]?=some n:=by
 cases e:L.idxOf? n with
 |none =>
  rw[List.idxOf?,List.findIdx?_eq_none_iff] at e;have:=e n h;simp at this
 |some i =>
  rw[List.idxOf?,List.findIdx?_eq_some_iff_getElem] at e;obtain⟨hi,hn,-⟩:=e;exact⟨i,rfl,by rw[Zc hi];simp at hn;rw[hn]⟩
theorem zms {L:List Int}{a b:Int}(ha:a∈L) (hb:b∈L) (h:plcZ L a=plcZ L b):a=b:=by
 obtain⟨i,e1,e2⟩:=idx_some ha;obtain⟨j,e3,e4⟩:=idx_some hb;unfold plcZ at h;rw[e1,e3] at h;have:i=j:=by simp only[Option.getD_some] at h;omega
 subst this;rw[e2] at e4;exact Option.some.inj e4
theorem zsr {F:Int->Int}{L:List Int}{n:Int}(h:∀a∈L,F a=F n->a=n):plcZ (L.map F) (F n)=plcZ L n:=by
 have:(L.map F).idxOf? (F n)=L.idxOf? n:=by
  unfold List.idxOf?;rw[List.findIdx?_map]
  induction L with
  |nil=>rfl
  |cons a L ih =>
   rw[List.findIdx?_cons,List.findIdx?_cons,ih fun x hx=>h x (Zm _ hx)];have:((fun x=>x == F n) ∘ F) a=(a == n):=by
    show (F a == F n)=(a == n)
    by_cases e:a=n
    ·subst e;rw[beq_self_eq_true,beq_self_eq_true]
    ·have:F a≠F n:=fun q=>e (h a (by simp) q)
     rw[beq_eq_false_iff_ne.2 this,beq_eq_false_iff_ne.2 e]
   rw[this]
 unfold plcZ;rw[this]
theorem zss {l:List Int}{n:Int}(h:n∈l):plcZ (uniq (l.map (plcZ (uniq l)))) (plcZ (uniq l) n)=plcZ (uniq l) n:=by
 have hi:∀a∈l,∀b∈l,plcZ (uniq l) a=plcZ (uniq l) b->a=b:=fun a ha b hb e=>zms (z9j ha) (z9j hb) e
 rw[zp1 hi];exact zsr fun a ha e=>zms ha (z9j h) e
theorem zmt {l l2:List Tm}(hf:∀u∈l2,Fine u) (ho:occL l2=(occL l).map (plcZ (uniq (occL l)))):plainL l2=l2:=by
 rw[z5c];have:∀l3:List Tm,(∀u∈l3,u∈l2)->l3.map (ren (plcZ (uniq (occL l2))))=l3:=by
  intro l3
  induction l3 with
  |nil=>intro _;rfl
  |cons u l3 ih =>
   intro hu;rw[Zx,ih fun v hv=>hu v (Zm _ hv),zqz _ (Zg _) (hf u (hu u (by simp))) fun n hn=>?_];have hm:n∈occL l2:=zfo (hu u (by simp)) hn;rw[ho] at hm ⊢;obtain⟨k,hk,rfl⟩:=List.mem_map.1 hm;exact zss hk
 exact this l2 fun u hu=>hu
theorem zed:∀{k:Nat}{m m':ByteArray}{t t':Tm},SizeOf.sizeOf t < k->checkS t=0->stripF k m t=(m',t',.ok)->checkS t'=0/\¬isF t' sCol:=by
 intro k
 induction k with
 |zero=>intro m m' t t' h;omega
 |succ k ih =>
  intro m m' t t' hs hc h;rw[stripF] at h;by_cases k1:isF t sCol
  ·rw[if_pos k1] at h;obtain⟨x,y,hf⟩:=k1.two;rw[hf.a0,hf.a1] at h;by_cases k2:x.kind=1
   ·rw[if_pos k2] at h;cases h
   rw[if_neg k2] at h;by_cases k3:x.kind=2
   ·rw[if_pos k3] at h;exact ih (by have:=hf.lt;omega) (z18 hc (by rw[hf.2.2];simp)) h
   ·rw[if_neg k3] at h;cases h
  ·rw[if_neg k1] at h;cases h;exact⟨hc,k1⟩
theorem zee {m:ByteArray}{t:Tm}(h:¬isF t sCol):stripS m t=(m,t,.ok):=by unfold stripS;rw[stripF,if_neg h]
structure Good (b:Bdy):Prop where
 ex:∃u,Fine u/\BdR u b
 few:nd (toldB b)<=4000
theorem Good.fine {b:Bdy}(h:Good b):Fine (toldB b):=by obtain⟨u,h1,h2⟩:=h.ex;exact zea h1 h2
theorem Good.check {b:Bdy}(h:Good b):checkS (toldB b)=0:=z0h.2 ⟨by have:=h.few;rw[z3z _ _ (Zg _) 0 (by omega)];omega,h.fine⟩
theorem Good.R {b:Bdy}(h:Good b):BdR (toldB b) b:=by obtain⟨u,h1,h2⟩:=h.ex;exact(zuj h2).1
theorem Good.size {b:Bdy}(h:Good b):szB b<=8000:=by obtain⟨u,h1,h2⟩:=h.ex;have:=(zmm h1 h2).2;have:=h.few;omega
theorem Good.F {b:Bdy}(h:Good b):bodyF (SizeOf.sizeOf (toldB b)+1) (toldB b)=some b:=zhu (Zg _) h.R
theorem Good.ready {b:Bdy}(h:Good b):readyS (toldB b)=(b,.ok):=by
 unfold readyS;rw[if_neg (fun q=>q h.check),h.F];simp only;rw[if_neg (by have:=h.few;rw[z3z _ _ (Zg _) 0 (by omega)];omega)]
theorem zst {t:Tm}{n:Nat}(h:cnt t 0<=n) (hn:n<=4000):nd t<=n:=by
 have:=zaj _ t (Zg _) 0 (by omega);omega
theorem zjh {t:Tm}(h:(readyS t).2=.ok):Good (readyS t).1:=by
 unfold readyS at h ⊢;by_cases k:checkS t=0;rotate_left
 ·rw[if_pos k] at h;cases h
 rw[if_neg (fun q=>q k)] at h ⊢;cases hb:bodyF (SizeOf.sizeOf t+1) t with
 |none=>rw[hb] at h;cases h
 |some b =>
  rw[hb] at h;simp only at h ⊢;by_cases k4:4000 < cnt (toldB b) 0
  ·rw[if_pos k4] at h;cases h
  rw[if_neg k4];exact⟨⟨t,(z0h.1 k).2,zml hb⟩,zst (show cnt (toldB b) 0<=4000 by omega) (Zf _)⟩
structure GoodC (c:Cls):Prop where
 good:Good c.body
 head:checkS c.head=0
 col:¬isF c.head sCol
 var:c.head.kind≠1
 num:¬isNum c.head
 few:nd c.head+nd (toldB c.body)<=400
 fix:plainL [c.head,toldB c.body]=[c.head,toldB c.body]
 vars:c.vars=(uniq (occL [c.head,toldB c.body])).length
theorem zji {m m':ByteArray}{h r:Tm}{c:Cls}(hh:checkS h=0) (hr:checkS r=0) (hc:¬isF h sCol) (e:readB m h r=(m',c,.ok)):m'=m/\GoodC c:=by
 unfold readB at e;by_cases k1:h.kind=1
 ·rw[if_pos k1] at e;cases e
 rw[if_neg k1] at e;by_cases k2:isNum h
 ·rw[if_pos k2] at e;cases e
 rw[if_neg k2] at e;cases hb:bodyF (SizeOf.sizeOf r+1) r with
 |none=>rw[hb] at e;cases e
 |some b =>
  rw[hb] at e;simp only at e;by_cases k4:400 < cnt h 0+cnt (toldB b) 0
  ·rw[if_pos k4] at e;cases e
  rw[if_neg k4] at e;cases e;refine⟨rfl,?_⟩;obtain⟨f,ef⟩:∃f,plcZ (uniq (occL [h,r]))=f:=⟨_,rfl⟩
  have hf:∀n,0<=f n:=fun n=>by rw[<-ef];exact(z6i _ n).1
  have fh:=(z0h.1 hh).2;have fr:=(z0h.1 hr).2;have hpl:plainL [h,r]=[ren f h,ren f r]:=by rw[z5c,ef];rfl
  have hR:=zml hb;obtain⟨b1,hR1,ht1⟩:=zw3 (f:=f) fr hR;have hr1:=zc7 hf hr;have hh1:=zc7 hf hh;have fr1:=(z0h.1 hr1).2;have fh1:=(z0h.1 hh1).2;have ftb:=zea fr hR;have n1:nd h<=400:=zst (by omega) (by decide);have n2:nd (toldB b)<=400:=zst (by omega) (by decide);have c1:=z3z _ h (Zg _) 0 (by omega);have c2:=z3z _ (toldB b) (Zg _) 0 (by omega);have n3:nd (toldB b1)=nd (toldB b):=by rw[ht1,zhs _ (Zg _) ftb]
  have n4:nd (ren f h)=nd h:=zhs _ (Zg _) fh;have hg:Good b1:=⟨⟨_,fr1,hR1⟩,by omega⟩
  have hry:readyS (ren f r)=(b1,.ok):=by
   unfold readyS;rw[if_neg (fun q=>q hr1),zhu (Zg _) hR1];simp only;rw[if_neg (by rw[z3z _ _ (Zg _) 0 (by omega)];omega)]
  have ho1:occ (toldB b1)=(occ r).map f:=by rw[zp0 fr1 hR1,zc6 _ (Zg _) fr]
  have ho2:occL [ren f h,toldB b1]=(occL [h,r]).map f:=by
   simp only[occL,List.append_nil];rw[ho1,zc6 _ (Zg _) fh,ZB]
  have hm:madeC h r=⟨ren f h,b1,(uniq (occL [ren f h,ren f r])).length⟩:=by
   unfold madeC;rw[hpl];show Cls.mk (ren f h) (readyS (ren f r)).1 _=_;rw[hry]
  rw[hm];refine⟨hg,hh1,fun q=>hc (z78.1 q),by show (ren f h).kind≠1;rw[z1w];exact k1,fun q=>k2 (zca.1 q),by show nd (ren f h)+nd (toldB b1)<=400;omega,?_,?_⟩
  ·exact zmt (l:=[h,r]) (fun u hu=>by
    rcases List.mem_cons.1 hu with rfl|hu
    ·exact fh1
    ·rw[List.mem_singleton.1 hu];exact hg.fine) (by rw[ef];exact ho2)
  ·show ((uniq (occL [ren f h,ren f r])).length:Int)=((uniq (occL [ren f h,toldB b1])).length:Int)
   rw[ho2,<-zht (l:=[h,r]) (fun u hu=>by
    rcases List.mem_cons.1 hu with rfl|hu
    ·exact fh
    ·rw[List.mem_singleton.1 hu];exact fr)]
   rfl
theorem isF.chk {t:Tm}{s:ByteArray}(h:isF t s) (hc:checkS t=0):checkS (t.at 0)=0/\checkS (t.at 1)=0:=by
 obtain⟨x,y,hf⟩:=h.two;rw[hf.a0,hf.a1];exact⟨z18 hc (by rw[hf.2.2];simp),z18 hc (by rw[hf.2.2];simp)⟩
theorem zjj {m m':ByteArray}{t:Tm}{c:Cls}(e:readS m t=(m',c,.ok)):GoodC c:=by
 unfold readS at e;by_cases k:checkS t=0;rotate_left
 ·rw[if_pos k] at e;cases e
 rw[if_neg (fun q=>q k)] at e;obtain⟨⟨m1,t1,e1⟩,hS⟩:∃R,stripS m t=R:=⟨_,rfl⟩
 rw[hS] at e;cases e1 with
 |num n=>cases e
 |ball u=>cases e
 |ok =>
  obtain⟨c1,-⟩:=zed (Zg _) k hS;simp only at e;have hhr:checkS (headOf t1)=0/\checkS (restOf t1)=0:=by
   unfold headOf restOf;by_cases kn:isF t1 sNck
   ·rw[if_pos kn,if_pos kn];exact kn.chk c1
   ·rw[if_neg kn,if_neg kn];exact⟨c1,z77⟩
  unfold readH at e;obtain⟨⟨m2,t2,e2⟩,hS2⟩:∃R,stripS m1 (headOf t1)=R:=⟨_,rfl⟩
  rw[hS2] at e;cases e2 with
  |num n=>cases e
  |ball u=>cases e
  |ok =>
   obtain⟨c2,hn⟩:=zed (Zg _) hhr.1 hS2;exact(zji c2 hhr.2 hn e).2
def wholeC (c:Cls):Tm:=cmpT sNck [c.head,toldB c.body]
theorem GoodC.check {c:Cls}(h:GoodC c):checkS (wholeC c)=0:=by
 refine z0h.2 ⟨?_,z3g zuo (z0h.1 h.head).2 h.good.fine⟩;have e:nd (wholeC c)=1+nd c.head+nd (toldB c.body):=z5s;have:=h.few;rw[z3z _ _ (Zg _) 0 (by omega)];omega
theorem GoodC.read {c:Cls}(h:GoodC c) (m:ByteArray):readS m (wholeC c)=(m,c,.ok):=by
 have hw:isF2 (wholeC c) sNck c.head (toldB c.body):=cmp2;have hf:=h.few;unfold readS;rw[if_neg (fun q=>q h.check),zee (hw.f.ne (by decide))];simp only;unfold headOf restOf readH;rw[if_pos hw.f,if_pos hw.f,hw.a0,hw.a1,zee h.col];simp only;unfold readB;rw[if_neg h.var,if_neg h.num,h.good.F];simp only;rw[z3z _ _ (Zg _) 0 (by omega),z3z _ _ (Zg _) 0 (by omega),if_neg (by omega)];have hm:madeC c.head (toldB c.body)=c:=by
  unfold madeC;rw[h.fix];show Cls.mk c.head (readyS (toldB c.body)).1 _=c;rw[h.good.ready];show Cls.mk c.head c.body _=c;rw[<-h.vars]
 rw[hm]
theorem z9k (t:Tm):cnt t 0<=nd t:=by
 have h1:=z4a t;by_cases h:cnt t 0<=4000
 ·have:=zaj _ t (Zg _) 0 h;omega
 ·by_cases k:nd t<=4000
  ·have:=z3z _ t (Zg _) 0 (by omega);omega
  ·omega
theorem z7o (u:Bdy):szB u=1+nd u.term+szB.szBL u.sub:=by obtain⟨k,t,l⟩:=u;rw[szB];rfl
noncomputable def szF:Bdy->Nat->Nat
 |.mk _ t l,n=>szFL l (n+(1+cnt t 0))
where szFL:List Bdy->Nat->Nat
 |[],n=>n
 |b :: l,n=>if 20000 < n then n else szFL l (szF b n)
theorem zmu (u:Bdy) (n:Nat):szF u n=szF.szFL u.sub (n+(1+cnt u.term 0)):=by obtain⟨k,t,l⟩:=u;rw[szF];rfl
theorem zmv {l:List Bdy}{i:Nat}(h:i < l.length) (n:Nat):szF.szFL (l.drop i) n=if 20000 < n then n else szF.szFL (l.drop (i+1)) (szF l[i] n):=by
 rw[ZI h,szF.szFL]
theorem zmw:∀(m:Nat) (u:Bdy) (n:Nat),SizeOf.sizeOf u < m->n<=20000->szF u n<=24002
 |0,_,_,h,_=>absurd h (Nat.not_lt_zero _)
 |m+1,u,n,hs,hn=>by
  rw[zmu];have hc:=z4a u.term;have:∀l:List Bdy,(∀b∈l,SizeOf.sizeOf b < m)->∀k,k<=24002->szF.szFL l k<=24002:=by
   intro l
   induction l with
   |nil=>intro _ k hk;rw[szF.szFL];exact hk
   |cons b l ih =>
    intro hb k hk;rw[szF.szFL];split
    ·exact hk
    ·exact ih (fun x hx=>hb x (Zm _ hx)) _ (zmw m b k (hb b (by simp)) (by omega))
  exact this u.sub (fun b hb=>by have:=u.size b hb;omega) _ (by omega)
theorem zr0:∀(m:Nat) (u:Bdy) (n:Nat),SizeOf.sizeOf u < m->szF u n<=n+szB u
 |0,_,_,h=>absurd h (Nat.not_lt_zero _)
 |m+1,u,n,hs=>by
  rw[zmu,z7o];have hc:=z9k u.term;have:∀l:List Bdy,(∀b∈l,SizeOf.sizeOf b < m)->∀k,szF.szFL l k<=k+szB.szBL l:=by
   intro l
   induction l with
   |nil=>intro _ k;rw[szF.szFL,szB.szBL];omega
   |cons b l ih =>
    intro hb k;rw[szF.szFL,szB.szBL];split
    ·omega
    ·have h1:=ih (fun x hx=>hb x (Zm _ hx)) (szF b k);have h2:=zr0 m b k (hb b (by simp));omega
  have h1:=this u.sub (fun b hb=>by have:=u.size b hb;omega) (n+(1+cnt u.term 0));omega
theorem zp2 {l:List Bdy}{i:Nat}(h:¬i < l.length) (n:Nat):szF.szFL (l.drop i) n=n:=by
 rw[List.drop_eq_nil_of_le (by omega),szF.szFL]
set_option maxHeartbeats 8000000 in
theorem zmx {m:Nat}:∀{u:Bdy}{cs:List Value}{n:Nat}{H:Heap},SizeOf.sizeOf u < m->RepB H u cs->n<=20000->H.wf ->
  EvF Tryd.prog okT 92 [.agg ⟨cs⟩,.int .i64 n] H fun v H'=>HX H H'/\v=.int .i64 (szF u n):=by
 induction m with
 |zero=>intro u cs n H h;omega
 |succ m ih =>
 intro u cs n H hsz r hn hw;obtain⟨ts,a,c,cells,rfl,hk,rt,rl⟩:=r.inv;obtain⟨ta,tc,cellst,rfl,-⟩:=rt.inv;have hz:=zmu u n;have hcn:=z4a u.term;have hm:=rl.cap;have hl:=rl.len;have hmx:u.sub.length<=9223372036854775807:=Zk hl (Zk hm (by decide));show EvF Tryd.prog okT 92 [.agg ⟨eightT u.kind u.term ta tc a u.sub.length c⟩,.int .i64 n] H _;refine EvF.enter rfl Tryd.func92 (by decide) rfl ?_;(repeat refine qZa ?_);refine qZb ?_;simp (config:=qZc) (disch:=first|omega|rfl) only[sB,initTm,dBox,Value.cells,one,reduceCtorEq];obtain⟨H2,e2,hx2,gp,hnx,hw2⟩:=new1 hw (.row (eightT u.kind u.term ta tc a u.sub.length c) 53);simp only[e2];have q1:=row8 gp;clear e2;(repeat refine qZa ?_);refine qZb ?_;simp (config:=qZc) (disch:=first|omega|rfl) only[sB,Za,reduceCtorEq,z8u,ld26,cl75,q1];refine(z1i _ _ _ (rt.mono hx2 hw) hw2).mono ?_;rintro v H3 ⟨rfl,hx3⟩;have gp3:=hx3.get hw2 gp;have q1:=row8 gp3;have hx:=hx2.trans hx3
 repeat' (first|refine qZa ?_|refine qZg ?_|(refine qZb ?_;simp (config:=qZc) (disch:=first|omega|rfl) only[sB,Za,reduceCtorEq,z3e,ld51,ln51,q1])|(refine z0n ?_;simp (config:=qZc) (disch:=first|omega|rfl) only[sB,Za,reduceCtorEq,z0d]))
 refine qZk (fun k st=>∃tm H' i x,st=⟨tm,[],H'⟩/\k=u.sub.length - i/\i<=u.sub.length/\x<=24002/\szF.szFL (u.sub.drop i) x=szF u n /\
   tm.get 1=some (.int .i64 (x:Nat))/\tm.get 14=some (.slice a u.sub.length c)/\tm.get 15=some (.int .i64 u.sub.length)/\tm.get 16=some (.int .i64 (i:Nat))/\HX H H') ?_ u.sub.length _ ?_
 rotate_left
 ·exact⟨_,_,0,n+(1+cnt u.term 0),rfl,rfl,by omega,by omega,by rw[List.drop_zero,hz],(by simp only[sB,Za,reduceCtorEq];rfl),(by simp only[sG,Za,reduceCtorEq]),(by simp only[sG,Za,reduceCtorEq]),(by simp only[sB,Za,reduceCtorEq];rfl),hx⟩
 rintro k st ⟨tm,H',i,x,rfl,rfl,hi,hxc,hxs,t1,t14,t15,t16,hx'⟩;by_cases hlt:i < u.sub.length
 ·obtain⟨b,o,rfl,hld,hr1⟩:=rl.el hlt;obtain⟨ua,uc,va,vc,hc1⟩:=hr1.eight;rw[hc1] at hr1 hld;have hld1:=hx'.load hw hld;have w':=hx'.wf;rw[zmv hlt] at hxs;(repeat refine qZa ?_);refine qZb ?_;simp (config:=qZc) (disch:=first|omega|rfl) only[sA,t15,t16,decl hlt];(repeat refine qZa ?_);refine qZd (by simp (config:=qZc) (disch:=first|omega|rfl) only[sB]) ?_;(try refine qZe ?_);(try simp only[z00,z03]);(repeat refine qZa ?_);refine qZg ?_;(repeat refine qZa ?_);refine qZb ?_;simp (config:=qZc) (disch:=first|omega|rfl) only[sB,dAlloc,Za,Zb,one,ia51,ld53,zr53,st53,t14,t16,hld1];obtain⟨H4,e4,hx4,g6,hn4,w4⟩:=z0r w' (.row zero8 53) (.row (eightT u.sub[i].kind u.sub[i].term ua uc va u.sub[i].sub.length vc) 53);simp only[e4];clear e4;have q6:=row8 g6;have hs:=u.size _ (Zz hlt);by_cases hb:20000 < x
  ·rw[if_pos hb] at hxs;have hd:decide ((x:Int) > 20000)=true:=decide_eq_true (by omega)
   repeat' (first|refine qZa ?_|(refine qZi ?_;try simp only[sB,reduceCtorEq])|(refine qZf ?_)|(refine qZb ?_;simp (config:=qZc) (disch:=first|omega|rfl) only[sB,Za,t1,hd])|(refine qZd ?_ ?_;simp (config:=qZc) (disch:=first|omega|rfl) only[sB,Za];refine z05 ?_))
   exact z04 rfl (by simp only[sB,Za];rfl) ⟨hx'.trans hx4,by rw[hxs]⟩
  rw[if_neg hb] at hxs;have hd:decide ((x:Int) > 20000)=false:=decide_eq_false (by omega);(repeat refine qZa ?_);refine qZb ?_;simp (config:=qZc) (disch:=first|omega|rfl) only[sB,Za,t1,hd];refine qZm (by simp (config:=qZc) (disch:=first|omega|rfl) only[sB,Za]) ?_;(try refine qZe ?_);(try simp only[z00,z03]);refine qZb ?_;simp (config:=qZc) (disch:=first|omega|rfl) only[sB,Za,ld53,cl92,t1,q6];refine(ih (u:=u.sub[i]) (n:=x) (by omega) ((hr1.mono hx' hw).mono hx4 w') (by omega) w4).mono ?_;rintro v H5 ⟨hx5,rfl⟩
  repeat' (first|(refine qZb ?_;simp (config:=qZc) (disch:=first|omega|rfl) only[sB,Za,t16,z0d]))
  exact⟨u.sub.length - (i+1),by omega,_,_,i+1,szF u.sub[i] x,rfl,rfl,by omega,zmw _ _ _ (Zg _) (by omega),hxs,(by simp only[sG,Za]),(by simp only[sG,Za,t14]),(by simp only[sG,Za,t15]),(by simp only[sB,Za];rfl),(hx'.trans hx4).trans hx5⟩
 ·rw[zp2 hlt] at hxs
  repeat' (first|refine qZa ?_|(refine qZi ?_;try simp only[sB])|(refine qZf ?_)|(refine qZb ?_;simp (config:=qZc) (disch:=first|omega|rfl) only[sB,Za,t1,t15,t16,decn hlt])|(refine qZm ?_ ?_;simp (config:=qZc) (disch:=first|omega|rfl) only[sB];refine z05 ?_))
  exact z04 rfl (by simp only[sB,Za];rfl) ⟨hx',by rw[hxs]⟩
end Go.Proofs.hq
end
