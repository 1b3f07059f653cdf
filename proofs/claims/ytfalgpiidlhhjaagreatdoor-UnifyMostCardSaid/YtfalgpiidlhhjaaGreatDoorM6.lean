import Derived.Test.YtfalgpiidlhhjaaGreatDoorM3
import Derived.Test.YtfalgpiidlhhjaaGreatDoorM5
import Derived.Test.YtfalgpiidlhhjaaGreatDoorM4
/- Lemmas on the program's own code, towards the laws of this folder, part 6. Conditions: as each lemma says. -/
open Bool renaming and_eq_true -> Zi, false_eq_true -> Zd, not_false -> Zw, not_true -> Zn
open ByteArray renaming empty -> Zh
open Int renaming eq_ofNat_of_zero_le -> Zk, toNat_natCast -> Zv
open List renaming append_assoc -> ZF, drop_eq_getElem_cons -> ZB, foldl_cons -> ZP, getElem?_eq_getElem -> Zc, getElem?_eq_none -> ZM, getElem?_map -> Zj, getElem?_take -> ZJ, getElem_mem -> ZD, length_append -> Zm, length_map -> Zp, length_set -> Zy, length_singleton -> ZN, length_take -> ZH, map_append -> ZK, mem_cons_of_mem -> Zl, mem_of_getElem? -> ZG, mem_singleton -> Zx, prefix_refl -> Zz, range -> Zg, take_append_getElem -> ZL, take_of_length_le -> Zq
open Nat renaming le_refl -> Ze, le_trans -> ZC, lt_add_right -> ZQ, lt_of_lt_of_le -> Zo, lt_succ_self -> Zf, reduceAdd -> Zb, reduceEqDiff -> Za, reduceLeDiff -> Zr, zero_le -> ZA
open Option renaming bind_some -> Zs
section
namespace Go.Hb
open Go Go.RowKit
def Bes (H0 H:Heap) (s:Nat):Prop:=∀n D,H0.get n=some D->H.get n=some D/\¬Mut H s n
theorem Bes.load {H0 H:Heap}{s:Nat}(h:Bes H0 H s) {a:Addr}{n:Nat}{l:List Value}(hl:H0.load a n=some l):H.load a n=some l:=by
 unfold Heap.load at hl ⊢;split at hl
 ·rename_i cs hs hc;have:H.cells a.block=some cs:=by
   unfold Heap.cells at hc ⊢;cases hg:H0.get a.block with
   |none=>rw[hg] at hc;cases hc
   |some D=>rw[(h _ D hg).1];rw[hg] at hc;exact hc
  rw[hs,this];exact hl
 ·cases hl
theorem Bes.rep {H0 H:Heap}{s:Nat}(h:Bes H0 H s) {t:Tm}{cs:List Value}(r:RepT H0 t cs):RepT H t cs:=by
 induction r with
 |mk k s u b v l a c cells h1 h2 h3 h4 h5 h6 h7 h8 h9 h10 h11 ih =>
  exact .mk k s u b v l a c cells h1 h2 h3 h4 h5 h6 h7 h8 h9 (fun i ad hi ha=>⟨(h10 i ad hi ha).1,h.load (h10 i ad hi ha).2⟩) ih
end Go.Hb
namespace Go.Proofs.hq
open Go Go.RowKit Go.Hb
variable {ok:Ok}
set_option maxRecDepth 10000
attribute [local irreducible] LX LG EL STG SOP SGO SGD SAL SRD SEF SEG SLK SCK ES
theorem _root_.Go.Hb.Bes.sx {H0 H H':Heap}{s:Nat}(h:Bes H0 H s) (hw:H.wf) (hx:SX s H H'):Bes H0 H' s:=fun n D hD=>by
 obtain⟨h1,h2⟩:=h n D hD;exact⟨hx.own hw h2 h1,hx.nm (hw _ _ h1) h2⟩
theorem _root_.Go.Hb.Bes.hx {H0 H H':Heap}{s:Nat}(h:Bes H0 H s) (hw:H.wf) (hs:s < H.next) (hx:HX H H'):Bes H0 H' s:=h.sx hw (hx.sx hs)
theorem St.bes {H0 H:Heap}{B s:Nat}{σ:SS}(hs:St H B s σ) (hw0:H0.wf) (hB:H0.next<=B) (hx:HX H0 H):Bes H0 H s:=fun n D hD=>⟨hx.get hw0 hD,fun q=>by have:=hs.mlo q;have:=hw0 _ _ hD;omega⟩
set_option maxHeartbeats 8000000 in
theorem zsa {H0:Heap}{B s:Nat}:∀(m:Nat) {t:Tm}{cs:List Value}{H:Heap}{σ:SS},SizeOf.sizeOf t < m->RepT H0 t cs->Fine t->Bes H0 H s->H.wf->St H B s σ->(∀v∈occ t,okV σ v)->σ.own.length=σ.cells.length ->
  σ.cells.length+2*nd t<=most->σ.consts.length+nd t<=most->σ.funs.length+nd t<=most ->
  EvF Tryz.prog okT 62 [.pointer (some ⟨s,0,none⟩),.agg ⟨cs⟩] H fun r H'=>r=.agg ⟨two (layS σ t).2⟩/\St H' B s (layS σ t).1/\SX s H H':=by
 intro m
 induction m with
 |zero=>intro t cs H σ h;omega
 |succ m ih =>
 intro t cs H σ hsz r hfine hx0 hw hs hocc hol hmc hmk hmf;have hs0:=hs.lt hw;have hnd:=z25 t;obtain⟨a,c,cells,rfl,-,-,-,-,-,rl⟩:=r.six;have hmx:=rl.max;refine EvF.enter rfl Tryz.func62 (by decide) rfl ?_;(repeat refine qZa ?_);refine qZb ?_;simp only[sB,initTm,dBox,dAlloc,Value.cells,one,reduceCtorEq,zr42];obtain⟨H1,e1,hx1,g1,g1',n1,w1⟩:=new2 hw (.row (six t a c) 40) (.row (two (0,0)) 42);simp only[e1];have q1:=row6 g1;have hs1:=hs.keep hw hx1;have nm1:=hs.fresh hw hx1 (Ze _);have nm1':=hs.fresh hw hx1 (Nat.le_succ _);by_cases k1:t.kind=1
 ·have hv:=hocc t.var (by rw[z3d,if_pos k1];simp);obtain⟨n,en⟩:=Zk hv.1;have hn:n < σ.vars.length:=by have:=hv.2.1;omega
  obtain⟨H2,e2,hx2,w2⟩:=z3g w1 10;have hs2:=hs1.keep w1 hx2;obtain⟨a0,c0,a1,c1,a2,c2,a3,c3,a4,c4,a5,c5,r6,r7,a8,c8,a9,c9,h,l0,l1,l2,l3,l4,l5,l6,l7,l8,l9,b0,b1,b2,b3,b4,b5,b8,b9⟩:=hs2.open;obtain⟨b,rfl,o,ld⟩:=h.el1 (i:=2) (k:=n) (x:=int1 (gi σ.vars n)) rfl rfl (by rw[Zj,za2 hn];rfl);have g2:=row6 (hx2.get w1 g1);have g2':=hx2.get w1 g1';rw[en] at g2
  repeat' (first|refine qZa ?_|refine qZg ?_|(refine qZf ?_;try simp only[z04,z02])|(refine qZb ?_;simp only[sB,Za,reduceCtorEq,z1c,ld3,q1,z0v k1])|(refine qZj (id:=4) [([(0,0),(1,0),(2,0),(3,0),(4,0),(5,0),(6,0),(7,0),(8,0)],some 9),([],none)] ?_ ?_;kernel_rfl;simp (disch:=first|omega|rfl) only[sD,sB,Za,Zb,Value.cells,one,reduceCtorEq,Zr,layC,ld3,z3r,ld28,z4d,ia28,bd42,st42,z07,z0a,e2,l2,ld,g2,g2',isAlloc,isRead])|(refine qZd ?_ ?_;simp only[sB,Za,reduceCtorEq];refine z01 ?_))
  refine z0s rfl (by simp only[sB,Za,reduceCtorEq];rfl) (by simp only[sB,Zb,cutC,ld42];rfl) ?_;rw[z68 k1,en];have hxx:=(hx1.trans hx2).pt (by omega) g2' (some (.row (two (2,gi σ.vars n)) 42));exact⟨rfl,hs.keep hw hxx,hxx.sx hs0⟩
 by_cases k5:t.kind=5
 ·have hlen:t.args.length<=64:=z4y hfine;have hll:=z7h t.args;obtain⟨a0,c0,a1,c1,a2,c2,a3,c3,a4,c4,a5,c5,r6,r7,a8,c8,a9,c9,h,l0,l1,l2,l3,l4,l5,l6,l7,l8,l9,b0,b1,b2,b3,b4,b5,b8,b9⟩:=hs1.open
  repeat' (first|refine qZa ?_|refine qZg ?_|(refine qZe ?_;try simp only[sA])|(refine qZb ?_;simp only[sB,Za,Zb,Value.cells,one,reduceCtorEq,Zr,layC,z1c,ld3,bd42,z1n,ld27,ln27,z38,ld9,z1k,ld32,ln32,zue,zuf,z07,z0a,q1,l0,z0h k1,z0v k5])|(refine qZd ?_ ?_;simp only[sB,Za,reduceCtorEq];refine z01 ?_)|(refine qZm ?_ ?_;simp only[sB,Za,reduceCtorEq];refine z01 ?_))
  refine(zix (k:=(t.name,(t.args.length:Int))) hs1 w1 (by omega)).mono ?_;rintro r H2 ⟨rfl,hs2,hx2⟩;have hF:=z2s σ (t.name,(t.args.length:Int))
  repeat' (first|(refine z0f ?_;simp only[sB,Za,Zb,one,reduceCtorEq,cl60]))
  refine(zf3 (c:=(5,((functorS σ (t.name,(t.args.length:Int))).2:Int))) (o:=-1) hs2 hx2.wf (by rw[hF.2.2.1];omega) (by rw[hF.2.2.2.1];omega)).mono ?_;rintro r H3 ⟨hs3,hx3⟩;have hx13:=hx2.trans hx3;have g3:=hx13.own w1 nm1 g1;have g3':=hx13.own w1 nm1' g1';have nm3:=hx13.nm (w1 _ _ g1) nm1;have nm3':=hx13.nm (w1 _ _ g1') nm1';have q3:=row6 g3
  repeat' (first|refine qZa ?_|refine qZg ?_|(refine qZb ?_;simp only[sB,Za,reduceCtorEq,z1k,ld32,ln32,q3]))
  have hH0:layH σ (t.name,(t.args.length:Int)) 0={ (functorS σ (t.name,(t.args.length:Int))).1 with cells:=(functorS σ (t.name,(t.args.length:Int))).1.cells++[(5,((functorS σ (t.name,(t.args.length:Int))).2:Int))],own:=(functorS σ (t.name,(t.args.length:Int))).1.own++[-1] }:=by
   rw[layH,hF.2.2.1,hF.2.2.2.1];simp
  have hHs:∀i,layH σ (t.name,(t.args.length:Int)) (i+1)={ layH σ (t.name,(t.args.length:Int)) i with cells:=(layH σ (t.name,(t.args.length:Int)) i).cells++[(0,0)],own:=(layH σ (t.name,(t.args.length:Int)) i).own++[-2] }:=fun i=>by
   simp [layH,List.replicate_succ']
  have hHg:=za8 σ (t.name,(t.args.length:Int));rw[<-hH0] at hs3;refine qZk (fun k st=>∃tm H' i,st=⟨tm,[],H'⟩/\k=t.args.length - i/\i<=t.args.length/\tm.get 0=some (.pointer (some ⟨s,0,none⟩))/\tm.get 3=some (.pointer (some ⟨H.next,0,none⟩))/\tm.get 4=some (.pointer (some ⟨H.next+1,0,none⟩))/\tm.get 5=some (.int .i64 σ.cells.length) /\
    tm.get 46=some (.int .i64 t.args.length)/\tm.get 47=some (.int .i64 (i:Nat))/\St H' B s (layH σ (t.name,(t.args.length:Int)) i)/\SX s H1 H') ?_ t.args.length _ ?_
  ·rintro k st ⟨tm,H',i,rfl,rfl,hi,t0,t3,t4,t5,t46,t47,hs',hx'⟩;by_cases hlt:i < t.args.length
   ·repeat' (first|refine qZa ?_|refine qZg ?_|(refine qZe ?_;try simp only[z00])|(refine qZb ?_;simp only[sB,Za,Value.cells,reduceCtorEq,layC,bd42,cl60,t0,t46,t47,decl hlt])|(refine qZd ?_ ?_;simp only[sB];refine z01 ?_))
    have hg:=hHg i;refine(zf3 (c:=(0,0)) (o:=-2) hs' hx'.wf (by rw[hg.2.2.2.2.1];omega) (by rw[hg.2.2.2.2.2.1];omega)).mono ?_;rintro r H4 ⟨hs4,hx4⟩;rw[<-hHs] at hs4
    repeat' (first|(refine qZb ?_;simp (disch:=first|omega|rfl) only[sB,Za,t47,z05]))
    exact⟨_,by omega,_,_,i+1,rfl,rfl,by omega,(by simp only[sG,reduceCtorEq,t0]),(by simp only[sG,Za,t3]),(by simp only[sG,Za,t4]),(by simp only[sG,Za,t5]),(by simp only[sG,Za,t46]),(by simp only[sB,Za];rfl),hs4,hx'.trans hx4⟩
   ·obtain rfl:i=t.args.length:=by omega
    have g4:=hx'.own w1 nm1 g1;have q4:=row6 g4
    repeat' (first|refine qZa ?_|refine qZg ?_|(refine qZi ?_;try simp only[sB])|(refine qZb ?_;simp only[sB,Za,z1k,ld32,ln32,t3,t46,t47,q4,decn hlt])|(refine qZm ?_ ?_;simp only[sB];refine z01 ?_))
    have hAg:=fun j=>zde (σ:=layH σ (t.name,(t.args.length:Int)) t.args.length) (at':=σ.cells.length) (l:=t.args) (fun u _ σ=>z7b _ u (Zf _) σ) j
    have hg:=hHg t.args.length;refine qZk (fun k st=>∃tm H' i,st=⟨tm,[],H'⟩/\k=t.args.length - i/\i<=t.args.length/\tm.get 0=some (.pointer (some ⟨s,0,none⟩))/\tm.get 4=some (.pointer (some ⟨H.next+1,0,none⟩))/\tm.get 5=some (.int .i64 σ.cells.length) /\
      tm.get 54=some (.slice a t.args.length c)/\tm.get 55=some (.int .i64 t.args.length)/\tm.get 56=some (.int .i64 (i:Nat))/\St H' B s (layA (layH σ (t.name,(t.args.length:Int)) t.args.length) σ.cells.length 0 (t.args.take i))/\SX s H1 H') ?_ t.args.length _ ?_
    ·rintro k st ⟨tm,H',i,rfl,rfl,hi,t0,t4,t5,t54,t55,t56,hs',hx'⟩;have hx0':Bes H0 H' s:=(hx0.hx hw hs0 hx1).sx w1 hx';have hA:=hAg i hi;by_cases hlt:i < t.args.length
     ·obtain⟨b,o,a1,c1,rfl,hld,hr1⟩:=rl.el hlt;have hld1:=hx0'.load hld;have hnl:nd.ndL (t.args.take i)+nd t.args[i]+(t.args.length - (i+1))<=nd.ndL t.args:=by
       have app:∀(a b:List Tm),nd.ndL (a++b)=nd.ndL a+nd.ndL b:=fun a b=>by
        induction a with
        |nil=>rw[nd.ndL];simp
        |cons t a ih=>rw[List.cons_append,nd.ndL,nd.ndL,ih];omega
       have e1:t.args=t.args.take i++t.args[i] :: t.args.drop (i+1):=by
        rw[<-ZB hlt,List.take_append_drop]
       have e2:nd.ndL t.args=nd.ndL (t.args.take i)+(nd t.args[i]+nd.ndL (t.args.drop (i+1))):=by
        conv=>lhs;rw[e1]
        rw[app,nd.ndL]
       have e3:=z7h (t.args.drop (i+1));rw[List.length_drop] at e3;omega
      have hAl:=hA.cells;have hAo:=hA.own;have hAk:=hA.consts;have hAf:=hA.funs;rw[hg.2.2.2.2.1] at hAl hAo;rw[hg.2.2.2.2.2.1] at hAo;rw[hg.2.2.2.2.2.2.1] at hAk;have hgf:=hg.2.2.2.2.2.2.2;have hol2:(layA (layH σ (t.name,(t.args.length:Int)) t.args.length) σ.cells.length 0 (t.args.take i)).own.length=(layA (layH σ (t.name,(t.args.length:Int)) t.args.length) σ.cells.length 0 (t.args.take i)).cells.length:=by
       clear hg hA hAl hAk hAf;omega
      obtain⟨H4,e4,hx4,g4,hn4,hw4⟩:=z0o hx'.wf (.row zero6 40) (.row (six t.args[i] a1 c1) 40);have q4:=row6 g4
      repeat' (first|refine qZa ?_|refine qZg ?_|(refine qZe ?_;try simp only[z00])|(refine qZb ?_;simp (disch:=first|omega|rfl) only[sB,dAlloc,Za,Zb,one,reduceCtorEq,zr42,ld40,ia32,zr40,st40,cl62,t0,t54,t55,t56,decl hlt,hld1,e4,q4])|(refine qZd ?_ ?_;simp only[sB];refine z01 ?_))
      have hsz':=z1t (Zc hlt);generalize hτ:layA (layH σ (t.name,(t.args.length:Int)) t.args.length) σ.cells.length 0 (t.args.take i)=τ at *;refine(ih (σ:=τ) (by omega) hr1 (hfine.args _ (ZD hlt)) (hx0'.hx hx'.wf (hs'.lt hx'.wf) hx4) hx4.wf (hs'.keep hx'.wf hx4) (fun v hv=>?_) hol2 (by omega) (by omega) (by omega)).mono ?_
      ·have:=hocc v (z7i (ZD hlt) hv);have ev:=hA.vars.trans hg.1;unfold okV at this ⊢;rw[ev];exact this
      rintro r H5 ⟨rfl,hs5,hx5⟩;obtain⟨H6,e6,hx6,g6,hn6,hw6⟩:=z0o hx5.wf (.row [.int .i64 0,.int .i64 0] 42) (.row (two (layS τ t.args[i]).2) 42);have hs6:=hs5.keep hx5.wf hx6;obtain⟨H7,e7,hx7,w7⟩:=z3g hw6 11;have hs7:=hs6.keep hw6 hx7;have q7:=z0l (hx7.get hw6 g6);obtain⟨a0,c0,a1,c1,a2,c2,a3,c3,a4,c4,a5,c5,r6,r7,a8,c8,a9,c9,h,l0,l1,l2,l3,l4,l5,l6,l7,l8,l9,b0,b1,b2,b3,b4,b5,b8,b9⟩:=hs7.open;have hlS:=(z7b _ t.args[i] (Zf _) τ).cells;have hkl:σ.cells.length+1+i < (layS τ t.args[i]).1.cells.length:=by omega
      obtain⟨b3,cs,rfl,o3,gb,hle⟩:=h.row (i:=0) (k:=σ.cells.length+1+i) rfl rfl (by simpa using hkl);obtain⟨H8,e8,s8,x8⟩:=h.write (i:=0) (k:=σ.cells.length+1+i) (y:=two (layS τ t.args[i]).2) w7 rfl rfl (by simpa using hkl) gb rfl rfl;have hs8:St H8 B s { (layS τ t.args[i]).1 with cells:=(layS τ t.args[i]).1.cells.set (σ.cells.length+1+i) (layS τ t.args[i]).2 }:=⟨_,by simpa [flds,List.map_set] using s8⟩
      clear s8;have hle':(σ.cells.length+1+i)*2+2<=cs.length:=by rw[Zp] at hle;omega
      have hmm:most=34359738368:=rfl;have ew1:IntKind.i64.wrap ((σ.cells.length:Int)+1)=((σ.cells.length+1:Nat):Int):=by rw[z05]<;>omega
      have ew2:IntKind.i64.wrap (((σ.cells.length+1:Nat):Int)+(i:Int))=((σ.cells.length+1+i:Nat):Int):=by rw[z05]<;>omega
      have ew3:IntKind.i64.wrap ((i:Int)+1)=((i+1:Nat):Int):=by rw[z05]<;>omega
      repeat' (first|(refine qZb ?_;simp only[sB,Za,t56,ew3])|(refine qZj (id:=16) [([(0,0),(1,0),(2,0),(3,0),(4,0),(5,0),(6,0),(7,0),(8,0),(9,0)],some 10),([],none)] ?_ ?_;kernel_rfl;simp (disch:=first|omega|rfl) only[sD,sB,Za,Zb,one,reduceCtorEq,st42,z1n,ld27,ld42,ia27,z07,z0a,t0,t5,e7,q7,l0,ew1,ew2,gb,hle',e8,isAlloc,isRead])|(refine z0f ?_;simp (disch:=first|omega|rfl) only[sB,Zb,one,st42,e6]))
      rw[<-hτ] at hs8;refine⟨_,by omega,_,_,i+1,rfl,rfl,by omega,(by simp only[sG,reduceCtorEq,t0]),(by simp only[sG,Za,t4]),(by simp only[sG,Za,t5]),(by simp only[sG,Za,t54]),(by simp only[sG,Za,t55]),(by simp only[sG,Za]),?_,hx'.trans (((hx4.sx (hs'.lt hx'.wf)).trans hx5).trans (((hx6.trans hx7).sx (hs5.lt hx5.wf)).trans x8))⟩;rw[z69 hlt];exact hs8
     ·obtain rfl:i=t.args.length:=by omega
      rw[List.take_length] at hs';have g4:=hx'.own w1 nm1' g1'
      repeat' (first|refine qZa ?_|(refine qZi ?_;try simp only[sB])|(refine qZf ?_)|(refine qZb ?_;simp only[sB,Za,Zb,Value.cells,one,Zr,layC,bd42,st42,t4,t5,t55,t56,g4,decn hlt])|(refine qZm ?_ ?_;simp only[sB];refine z01 ?_))
      refine z0s rfl (by simp only[sB,Za,t4];rfl) (by simp only[sB,Zb,cutC,ld42];rfl) ?_;rw[z4n k5];have l2':=hx'.wf _ _ g4;have nm2:=hx'.nm (w1 _ _ g1') nm1';exact⟨rfl,(hs'.box hx'.wf l2' nm2 _).1,((hx1.sx hs0).trans hx').box (Nat.le_succ _) l2' nm2 _⟩
    ·refine⟨_,_,0,rfl,rfl,by omega,(by simp only[sG,reduceCtorEq,t0]),(by simp only[sG,Za,t4]),(by simp only[sG,Za,t5]),(by simp only[sG,Za]),(by simp only[sG,Za]),(by simp only[sB,Za];rfl),?_,hx'⟩;rw[List.take_zero,layA];exact hs'
  ·exact⟨_,_,0,rfl,rfl,by omega,(by simp only[sG,reduceCtorEq]),(by simp only[sG,Za,reduceCtorEq]),(by simp only[sG,Za,reduceCtorEq]),(by simp only[sG,Za,reduceCtorEq]),(by simp only[sG,Za,reduceCtorEq]),(by simp only[sB,Za,reduceCtorEq];rfl),hs3,hx13⟩
 ·have hk:=z1b hfine.node;have hargs:t.args=[]:=(z1h hk.2.2.1).2.2.2.2 k5
  repeat' (first|refine qZa ?_|refine qZg ?_|(refine qZb ?_;simp only[sB,Za,Zb,Value.cells,one,reduceCtorEq,Zr,layC,z1c,ld3,bd42,ld40,zud,q1,z0h k1,z0h k5])|(refine qZm ?_ ?_;simp only[sB,Za,reduceCtorEq];refine z01 ?_))
  refine(zlm hs1 w1 hargs (by omega)).mono ?_;rintro r H2 ⟨rfl,hs2,hx2⟩;have g2':=hx2.own w1 nm1' g1'
  repeat' (first|(refine qZf ?_;try simp only[z04,z02])|(refine z0f ?_;simp only[sB,Za,Zb,one,reduceCtorEq,st42,g2']))
  refine z0s rfl (by simp only[sB,Za,reduceCtorEq];rfl) (by simp only[sB,Zb,cutC,ld42];rfl) ?_;rw[z4m k1 k5];have l2':=hx2.wf _ _ g2';have nm2:=hx2.nm (w1 _ _ g1') nm1';exact⟨rfl,(hs2.box hx2.wf l2' nm2 _).1,((hx1.sx hs0).trans hx2).box (Nat.le_succ _) l2' nm2 _⟩
set_option maxHeartbeats 8000000 in
theorem zhj {H0:Heap}{B s:Nat}{t:Tm}{cs:List Value}{H:Heap}{σ:SS}(r:RepT H0 t cs) (hx0:Bes H0 H s) (hw:H.wf) (hs:St H B s σ) (hol:σ.own.length=σ.cells.length)
  (hb:checkS t=0->σ.cells.length+2*nd t<=most/\σ.consts.length+nd t<=most/\σ.funs.length+nd t<=most) :
  EvF Tryz.prog okT 19 [.pointer (some ⟨s,0,none⟩),.agg ⟨cs⟩] H fun r H'=>r=.tuple ⟨[.agg ⟨two (layV σ t).2.1⟩,.int .i64 (layV σ t).2.2]⟩/\St H' B s (layV σ t).1/\SX s H H':=by
 have hs0:=hs.lt hw;obtain⟨a,c,cells,rfl,-,-,-,-,-,rl⟩:=r.six;have hmx:=rl.max;refine EvF.enter rfl Tryz.func19 (by decide) rfl ?_;(repeat refine qZa ?_);refine qZb ?_;simp only[sB,initTm,dBox,dAlloc,Value.cells,one,reduceCtorEq,zr42];obtain⟨H1,e1,hx1,g1,g1',n1,w1⟩:=new2 hw (.row (six t a c) 40) (.row (two (0,0)) 42);simp only[e1];have q1:=row6 g1;have hs1:=hs.keep hw hx1;have nm1:=hs.fresh hw hx1 (Ze _);have nm1':=hs.fresh hw hx1 (Nat.le_succ _);obtain⟨H2,e2,hx2,g2,n2,w2⟩:=new1 w1 (.row (six t a c) 40)
 repeat' (first|refine qZa ?_|(refine qZe ?_;try simp only[z00])|(refine qZb ?_;simp only[sB,Za,Zb,Value.cells,one,reduceCtorEq,layC,ld40,zgs,cl61,bEqP,q1,e2])|(refine qZm ?_ ?_;simp only[sB,Za,reduceCtorEq];refine z01 ?_))
 refine(zbi ((hx0.hx hw hs0 (hx1.trans hx2)).rep r) g2 w2).mono ?_;rintro v H3 ⟨u,rfl,hI,hx3⟩;have hx13:=hx2.trans hx3;have hxx:=hx1.trans hx13;have g3:=hx13.get w1 g1;have g3':=hx13.get w1 g1';have q3:=row6 g3;have hs3:=hs.keep hw hxx;by_cases h0:checkS t=0
 ·rw[if_pos h0] at hI;obtain⟨va,vc,rfl,hvl,hvm⟩:=hI.slice;have hfine:=(z1d.1 h0).2;have w3:=hxx.wf
  repeat' (first|refine qZa ?_|refine qZg ?_|(refine qZe ?_;try simp only[z00])|(refine qZb ?_;simp only[sB,Za,reduceCtorEq,ln28,z13 h0])|(refine z0f ?_;simp only[sB,Za,reduceCtorEq])|(refine qZm ?_ ?_;simp only[sB,Za,reduceCtorEq];refine z01 ?_))
  refine qZk (fun k st=>∃tm i,st=⟨tm,[],H3⟩/\k=(uniq (occ t)).length - i/\i<=(uniq (occ t)).length/\tm.get 0=some (.pointer (some ⟨s,0,none⟩))/\tm.get 3=some (.pointer (some ⟨H.next,0,none⟩))/\tm.get 4=some (.pointer (some ⟨H.next+1,0,none⟩)) /\
    tm.get 25=some (.slice va (uniq (occ t)).length vc)/\tm.get 26=some (.int .i64 (uniq (occ t)).length)/\tm.get 27=some (.int .i64 (i:Nat))/\∀v∈(uniq (occ t)).take i,okV σ v) ?_ (uniq (occ t)).length _ ?_
  ·rintro k st ⟨tm,i,rfl,rfl,hi,t0,t3,t4,t25,t26,t27,hok⟩;by_cases hlt:i < (uniq (occ t)).length
   ·obtain⟨vb,rfl,-,hld,-⟩:=hI.at hlt
    repeat' (first|refine qZa ?_|refine qZg ?_|(refine qZe ?_;try simp only[z00])|(refine qZb ?_;simp (disch:=first|omega|rfl) only[sB,Za,reduceCtorEq,ia28,ld3,cl38,t0,t25,t26,t27,decl hlt,hld])|(refine qZd ?_ ?_;simp only[sB];refine z01 ?_))
    refine(zrj hs3).mono ?_;rintro r H' ⟨rfl,rfl⟩;by_cases hv:okV σ (uniq (occ t))[i]
    ·simp only[if_pos hv];have hul:=z7f (occ t);have hof:=zfb h0;have ew:IntKind.i64.wrap ((i:Int)+1)=((i+1:Nat):Int):=by rw[z05]<;>omega
     repeat' (first|refine qZa ?_|(refine qZe ?_;try simp only[sA])|(refine qZb ?_;simp only[sB,Za,t27,z13 rfl,ew])|(refine z0f ?_;simp only[sB,Za])|(refine qZm ?_ ?_;simp only[sB,Za];refine z01 ?_))
     refine⟨_,by omega,_,i+1,rfl,rfl,by omega,(by simp only[sG,reduceCtorEq,t0]),(by simp only[sG,Za,t3]),(by simp only[sG,Za,t4]),(by simp only[sG,Za,t25]),(by simp only[sG,Za,t26]),(by simp only[sG,Za]),fun v hv'=>?_⟩;rw[<-ZL hlt] at hv';rcases List.mem_append.1 hv' with h|h
     ·exact hok v h
     ·rw[Zx] at h;rw[h];exact hv
    ·simp only[if_neg hv];have d9:((133:Int) != 0)=true:=rfl
     repeat' (first|refine qZa ?_|(refine qZf ?_;try simp only[z04,z02])|(refine qZb ?_;simp only[sB,Za,Zb,Value.cells,one,layC,bd42,st42,t4,d9,g3'])|(refine z0f ?_;simp only[sB,Za])|(refine qZd ?_ ?_;simp only[sB,Za];refine z01 ?_))
     have el:layV σ t=(σ,(0,0),133):=by
      rw[layV,if_neg (by omega),if_neg (fun q=>hv (q _ (zbh.1 (ZD hlt))))]
     rw[el];have hput:=hxx.pt (by omega) g3' (some (.row (two (0,0)) 42));exact z0d rfl (by simp only[sB,Za,t4];rfl) (by simp only[sB,Zb,cutC,ld42]) (by simp only[sG,Za]) ⟨rfl,hs.keep hw hput,hput.sx hs0⟩
   ·obtain rfl:i=(uniq (occ t)).length:=by omega
    rw[List.take_length] at hok;have hall:∀v∈occ t,okV σ v:=fun v hv=>hok v (zbh.2 hv)
    have el:layV σ t=((layS σ t).1,(layS σ t).2,0):=by rw[layV,if_neg (by omega),if_pos hall]
    rw[el];obtain⟨b1,b2,b3⟩:=hb h0
    repeat' (first|refine qZa ?_|(refine qZi ?_;try simp only[sB])|(refine qZb ?_;simp only[sB,Za,reduceCtorEq,ld40,cl62,t0,t3,t26,t27,q3,decn hlt])|(refine qZm ?_ ?_;simp only[sB];refine z01 ?_))
    refine(zsa _ (Zf _) r hfine (hx0.hx hw hs0 hxx) w3 hs3 hall hol b1 b2 b3).mono ?_;rintro r' H4 ⟨rfl,hs4,hx4⟩;have nm3':=hs.fresh hw hxx (Nat.le_succ H.next);have g4':=hx4.own w3 nm3' g3'
    repeat' (first|(refine qZf ?_)|(refine z0f ?_;simp only[sB,Zb,one,st42,t4,g4']))
    have l4':=hx4.wf _ _ g4';have nm4:=hx4.nm (w3 _ _ g3') nm3';exact z0d rfl (by simp only[sB,Za,t4];rfl) (by simp only[sB,Zb,cutC,ld42]) (by simp only[sG,Za]) ⟨rfl,(hs4.box hx4.wf l4' nm4 _).1,((hxx.sx hs0).trans hx4).box (Nat.le_succ _) l4' nm4 _⟩
  ·exact⟨_,0,rfl,rfl,by omega,(by simp only[sG,reduceCtorEq]),(by simp only[sG,Za,reduceCtorEq]),(by simp only[sG,Za,reduceCtorEq]),(by simp only[sG,Za,reduceCtorEq]),(by simp only[sG,Za,reduceCtorEq]),(by simp only[sB,Za,reduceCtorEq];rfl),by simp⟩
 ·have el:layV σ t=(σ,(0,0),checkS t):=by rw[layV,if_pos h0]
  rw[el];have hput:=hxx.pt (by omega) g3' (some (.row (two (0,0)) 42))
  repeat' (first|refine qZa ?_|(refine qZf ?_;try simp only[z04,z02])|(refine qZb ?_;simp only[sB,Za,Zb,Value.cells,one,reduceCtorEq,layC,bd42,st42,z29 h0,g3'])|(refine z0f ?_;simp only[sB,Za,reduceCtorEq])|(refine qZd ?_ ?_;simp only[sB,Za,reduceCtorEq];refine z01 ?_))
  exact z0d rfl (by simp only[sB,Za,reduceCtorEq];rfl) (by simp only[sB,Zb,cutC,ld42]) (by simp only[sG,Za,reduceCtorEq]) ⟨rfl,hs.keep hw hput,hput.sx hs0⟩
end Go.Proofs.hq
end

section
namespace Go.Proofs.hq
open Go Go.RowKit Go.Hb
variable {ok:Ok}
set_option maxRecDepth 10000
attribute [local irreducible] LX LG EL STG SOP SGO SGD SAL SRD SEF SEG SLK SCK ES
theorem RC.grow {σ τ:SS}(g:Grow σ τ) (ho:σ.own.length=σ.cells.length) {c:Int × Int}{t:Tm}(h:RC σ c t):RC τ c t:=⟨h.rd.grow g ho,z7j g ho h.may,h.fine,h.bd⟩
theorem zjb {t:Tm}(h:checkS t=0):nd t<=4000:=by
 have hz:=z1d.1 h;have:=hz.1;have:=zdc _ t (Zf _) 0 this;omega
theorem zfg (a:ByteArray):(a == a)=true:=by
 cases a with
 |mk x=>exact(beq_self_eq_true x:(x == x)=true)
theorem zjc (t:Tm):eqCst t t=true:=by
 unfold eqCst;rw[beq_self_eq_true t.kind,zfg,zfg,beq_self_eq_true t.bits];rfl
structure KI (σ:SS):Prop where
 fa:∀k∈σ.funs,0 < k.2/\k.2<=64
 ci:∀(i j:Nat) (t:Tm),σ.consts[i]?=some t->σ.consts[j]?=some t->i=j
theorem KI.same {σ τ:SS}(h:KI σ) (h1:τ.funs=σ.funs) (h2:τ.consts=σ.consts):KI τ:=⟨by rw[h1];exact h.fa,by rw[h2];exact h.ci⟩
theorem KI.atomic {σ:SS}(h:KI σ) (t:Tm):KI (atomicS σ t).1:=by
 unfold atomicS;cases hf:σ.consts.findIdx? (eqCst t) with
 |some j=>exact h
 |none =>
  have hn:=List.findIdx?_eq_none_iff.1 hf;have hno:∀i:Nat,σ.consts[i]?≠some t:=fun i q=>by
   have:=hn t (ZG q);rw[zjc] at this;cases this
  refine⟨h.fa,fun i j u hi hj=>?_⟩;simp only[List.getElem?_append] at hi hj;split at hi
  ·split at hj
   ·exact h.ci i j u hi hj
   ·have:u=t:=by
     rw[List.getElem?_singleton] at hj;split at hj
     ·exact(Option.some.inj hj).symm
     ·cases hj
    exact absurd (this ▸ hi) (hno i)
  ·have e1:u=t/\i=σ.consts.length:=by
    rw[List.getElem?_singleton] at hi;split at hi
    ·exact⟨(Option.some.inj hi).symm,by omega⟩
    ·cases hi
   split at hj
   ·exact absurd (e1.1 ▸ hj) (hno j)
   ·rw[List.getElem?_singleton] at hj;split at hj
    ·omega
    ·cases hj
theorem KI.functor {σ:SS}{k:ByteArray × Int}(h:KI σ) (hk:0 < k.2/\k.2<=64):KI (functorS σ k).1:=by
 unfold functorS;split
 ·exact h
 ·refine⟨fun x hx=>?_,h.ci⟩;simp only[List.mem_append,Zx] at hx;rcases hx with hx|rfl
  ·exact h.fa x hx
  ·exact hk
theorem zq3:∀(m:Nat) {t:Tm}{σ:SS},SizeOf.sizeOf t < m->Fine t->KI σ->KI (layS σ t).1
 |0,_,_,h,_,_=>by omega
 |m+1,t,σ,hsz,hf,h=>by
  by_cases k1:t.kind=1
  ·rw[z68 k1];exact h
  ·by_cases k5:t.kind=5
   ·rw[z4n k5];have hk5:=(z1b hf.node).2.2.2.2.1 k5;have hg:=za8 σ (t.name,(t.args.length:Int)) t.args.length;have hH:KI (layH σ (t.name,(t.args.length:Int)) t.args.length):=(h.functor (k:=(t.name,(t.args.length:Int))) ⟨by show (0:Int) < (t.args.length:Int);omega,by show (t.args.length:Int)<=64;omega⟩).same rfl rfl;have key:∀(l:List Tm) (τ:SS) (a i:Nat),(∀u∈l,u∈t.args)->KI τ->KI (layA τ a i l):=by
     intro l
     induction l with
     |nil=>intro τ a i _ hτ;rw[layA];exact hτ
     |cons u l ih =>
      intro τ a i hl hτ;rw[layA];have hu:=hl u (by simp);exact ih _ a (i+1) (fun v hv=>hl v (Zl _ hv)) ((zq3 m (by have:=z0g hu;omega) (hf.args _ hu) hτ).same rfl rfl)
    exact key t.args _ _ _ (fun _ h=>h) hH
   ·rw[z4m k1 k5];exact h.atomic t
structure PS (σ:SS) (w k:Nat):Prop where
 wf:WF noU σ
 unb:Unb σ
 con:∀u∈σ.consts,AtF u
 fv:σ.vars.length=6+k
 fc:σ.cells.length<=6+2*w+k
 fk:σ.consts.length<=w
 ff:σ.funs.length<=w
 ki:KI σ
 tr:σ.trail=[]
 ms:σ.marks=[]
theorem PS.start:PS (mkN 6) 0 0:=by
 have h:=z5n 6;exact⟨zdt 6,zmb 6,fun u hu=>(by rw[h.2.2.2.2.1] at hu;cases hu),h.1,by rw[h.2.1];omega,by rw[h.2.2.2.2.1];simp,by rw[h.2.2.2.2.2.1];simp,⟨fun k hk=>(by rw[h.2.2.2.2.2.1] at hk;cases hk),fun i j t hi=>(by rw[h.2.2.2.2.1] at hi;simp at hi)⟩,h.2.2.2.2.2.2.1,h.2.2.2.2.2.2.2⟩
theorem PS.tok {σ:SS}{w k:Nat}(h:PS σ w k) (hw:w<=100000) (hk:k<=100000):TOk σ:=h.wf.tok (by have:=h.fc;unfold most;omega) (by have:=h.fv;unfold most;omega)
theorem PS.few {σ:SS}{w k:Nat}(h:PS σ w k) (hw:w<=100000) (hk:k<=100000) {t:Tm}(h0:checkS t=0):σ.cells.length+2*nd t<=most/\σ.consts.length+nd t<=most/\σ.funs.length+nd t<=most:=by
 have:=zjb h0;have:=h.fc;have:=h.fk;have:=h.ff;unfold most;omega
theorem zfh {σ:SS}{t:Tm}(h:(layV σ t).2.2=0):checkS t=0/\(∀v∈occ t,okV σ v)/\layV σ t=((layS σ t).1,(layS σ t).2,0):=by
 unfold layV at h ⊢;by_cases h0:checkS t=0
 ·rw[if_neg (by omega)] at h ⊢;by_cases h1:∀v∈occ t,okV σ v
  ·rw[if_pos h1];exact⟨h0,h1,rfl⟩
  ·rw[if_neg h1] at h;exact absurd h (show ¬(133:Int)=0 by decide)
 ·rw[if_pos h0] at h;exact absurd h h0
theorem zol {σ:SS}{t:Tm}(h:(layV σ t).2.2≠0):(layV σ t).1=σ:=by
 unfold layV at h ⊢;split
 ·rfl
 ·rename_i h0;rw[if_neg h0] at h;split
  ·rename_i h1;rw[if_pos h1] at h;exact absurd rfl h
  ·rfl
theorem PS.lay {σ:SS}{w k:Nat}(h:PS σ w k) {t:Tm}(hb:BdA t) (h0:(layV σ t).2.2=0):PS (layV σ t).1 (w+nd t) k/\RC (layV σ t).1 (layV σ t).2.1 t/\Grow σ (layV σ t).1:=by
 obtain⟨a1,a2,a3,a4,a5,a6,a7,a8,a9⟩:=zbk h.wf hb;have hm:=a3 h0;obtain⟨hc,hall,e⟩:=zfh h0;have hf:=(z1d.1 hc).2;obtain⟨hr,hcon⟩:=zq2 _ (Zf _) h.wf (fun a q=>q.elim) hf hb hall h.unb h.con;refine⟨⟨a1,h.unb.grow h.wf a2 a6,?_,by rw[a6];exact h.fv,by have:=h.fc;omega,by have:=h.fk;omega,by have:=h.ff;omega,by rw[e];exact zq3 _ (Zf _) hf h.ki,by rw[e];exact(z7b _ t (Zf _) σ).trail.trans h.tr,by rw[e];exact(z7b _ t (Zf _) σ).marks.trans h.ms⟩,⟨?_,hm,hf,hb⟩,a2⟩
 ·rw[e];exact hcon
 ·rw[e] at a2 ⊢;exact hr.low (ZA _)
theorem PS.okV {σ:SS}{w k n:Nat}(h:PS σ w k) (hn:n < σ.vars.length):okV σ (n:Int):=by
 obtain⟨k',h1,-⟩:=h.wf.var n hn;exact⟨by omega,by omega,by rw[h1];omega⟩
section
variable {P:Program}{ok:Ok}{fn:Func}{tm:Tr Value}{H:Heap}{K:Value->Heap->Prop}
theorem zhk {t:TypeId}{ad:Addr}{v:Value}(hd:dLoad P t (.pointer (some ad)) H=some (.val v H)):dload P t ad H=some v:=by
 simp only[dLoad] at hd;cases hx:dload P t ad H with
 |none=>rw[hx] at hd;cases hd
 |some u=>rw[hx] at hd;simp only[Option.map_some,Option.some.injEq,Dr.val.injEq] at hd;rw[hd.1]
theorem z6u {p a b q:Tmp}{t t':TypeId}{ad bd:Addr}{u v y z:Value}(h:fn.results.toList=[.tmp p,.cell a t,.cell b t',.tmp q]) (hp:tm.get p=some u) (ha:tm.get a=some (.pointer (some ad))) (hd:dLoad P t (.pointer (some ad)) H=some (.val v H))
  (hb:tm.get b=some (.pointer (some bd))) (hd':dLoad P t' (.pointer (some bd)) H=some (.val y H)) (hq:tm.get q=some z) (hk:K (.tuple ⟨[u,v,y,z]⟩) H):Ex.leave P ok fn K .ret ⟨tm,[],H⟩:=by
 refine EvV.now (v:=.tuple ⟨[u,v,y,z]⟩) ?_ hk;simp only[dres,h,dresL,dres1,hp,ha,zhk hd,hb,zhk hd',hq,Option.getD_some]
end
set_option maxHeartbeats 8000000 in
theorem zom {H:Heap}{t t':Tm}{cs cs':List Value}(r0:RepT H t cs) (r0':RepT H t' cs') (hw:H.wf) :
  EvF Tryz.prog okT 14 [.agg ⟨cs⟩,.agg ⟨cs'⟩] H fun v H'=>HX H H'/\∃s x y,
   v=.tuple ⟨[.pointer (some ⟨s,0,none⟩),.agg ⟨two x⟩,.agg ⟨two y⟩,.bool false]⟩ \/
   (v=.tuple ⟨[.pointer (some ⟨s,0,none⟩),.agg ⟨two x⟩,.agg ⟨two y⟩,.bool true]⟩/\∃B σ,H.next<=B/\St H' B s σ/\PS σ (nd t+nd t') 0/\RC σ x t/\RC σ y t'/\checkS t=0/\checkS t'=0/\(∀v∈occ t,okV σ v)):=by
 obtain⟨a,c,cells,rfl,-⟩:=r0.six;obtain⟨a',c',cells',rfl,-⟩:=r0'.six;refine EvF.enter rfl Tryz.func14 (by decide) rfl ?_;(repeat refine qZa ?_);refine qZb ?_;simp only[sB,initTm,dBox,dAlloc,Za,Value.cells,one,reduceCtorEq,zr42];obtain⟨H1,e1,hx1,g1,g2,n1,w1⟩:=new2 hw (.row (six t a c) 40) (.row (six t' a' c') 40);simp only[e1];obtain⟨H2,e2,hx2,g3,g4,n2,w2⟩:=new2 w1 (.row (two (0,0)) 42) (.row (two (0,0)) 42);simp only[e2];have hx12:=hx1.trans hx2;have g1:=hx2.get w1 g1;have g2:=hx2.get w1 g2;have g3:H2.get (H.next+1+1)=some (.row (two (0,0)) 42):=by rw[<-g3,n1]
 have g4:H2.get (H.next+1+1+1)=some (.row (two (0,0)) 42):=by rw[<-g4,n1]
 clear e1 e2
 repeat' (first|refine qZa ?_|(refine qZb ?_;simp only[sB,Za,reduceCtorEq,cl6]))
 refine(ztw w2).mono ?_;rintro v A1 ⟨s,rfl,hs1,k1⟩
 repeat' (first|refine qZa ?_|refine qZg ?_|(refine qZe ?_;try simp only[z00])|(refine qZb ?_;simp only[sB,Za,reduceCtorEq,bEqP])|(refine qZm ?_ ?_;simp only[sB,Za,reduceCtorEq];refine z01 ?_))
 refine qZk (fun k st=>∃tm H' i,st=⟨tm,[],H'⟩/\k=6 - i/\i<=6/\tm.get 2=some (.pointer (some ⟨H.next,0,none⟩))/\tm.get 3=some (.pointer (some ⟨H.next+1,0,none⟩))/\tm.get 5=some (.pointer (some ⟨H.next+1+1,0,none⟩))/\tm.get 6=some (.pointer (some ⟨H.next+1+1+1,0,none⟩)) /\
   tm.get 8=some (.pointer (some ⟨s,0,none⟩))/\tm.get 9=some (.int .i64 (i:Nat))/\St H' H2.next s (mkN i)/\HX H2 H') ?_ 6 _ ?_
 rotate_left
 ·exact⟨_,_,0,rfl,rfl,by omega,(by simp only[sG,Za,reduceCtorEq]),(by simp only[sG,Za,reduceCtorEq]),(by simp only[sG,Za,reduceCtorEq]),(by simp only[sG,Za,reduceCtorEq]),(by simp only[sG,Za,reduceCtorEq]),(by simp only[sB,Za,reduceCtorEq];rfl),hs1,k1⟩
 rintro k st ⟨tm,H',i,rfl,rfl,hi,t2,t3,t5,t6,t8,t9,hs',hx'⟩;by_cases hlt:i < 6
 ·have d1:decide ((i:Int) < 6)=true:=decide_eq_true (by omega);have hml:=z5n i;have ew:IntKind.i64.wrap ((i:Int)+1)=((i+1:Nat):Int):=by rw[z05]<;>omega
  repeat' (first|refine qZa ?_|refine qZg ?_|(refine qZe ?_;try simp only[z00])|(refine qZb ?_;simp only[sB,Za,cl18,t8,t9,d1])|(refine qZd ?_ ?_;simp only[sB,Za];refine z01 ?_))
  refine(zrk hs' hx'.wf (by rw[hml.2.1];unfold most;omega) (by rw[hml.2.2.1];unfold most;omega) (by rw[hml.1];unfold most;omega) (by rw[hml.2.2.2.1];unfold most;omega)).mono ?_;rintro v H3 ⟨-,hs3,hx3⟩
  repeat' (first|(refine qZb ?_;simp only[sB,Za,t9,ew]))
  exact⟨_,by omega,_,_,i+1,rfl,rfl,by omega,(by simp only[sG,Za,t2]),(by simp only[sG,Za,t3]),(by simp only[sG,Za,t5]),(by simp only[sG,Za,t6]),(by simp only[sG,Za,t8]),(by simp only[sG,Za]),hs3,hs'.hx hx' (Ze _) hx3⟩
 obtain rfl:i=6:=by omega
 have d6:decide (((6:Nat):Int) < 6)=false:=by decide
 have hbd:=zm6 _ (Zf _) r0;have hbd':=zm6 _ (Zf _) r0';have q1:=(row6 (hx'.get w2 g1)).2.2.2.2.2.2;have hHB:H.next<=H2.next:=hx12.next
 repeat' (first|refine qZa ?_|(refine qZi ?_;try simp only[sB])|(refine qZb ?_;simp only[sB,Za,ld40,cl19,t2,t8,t9,d6,q1])|(refine qZm ?_ ?_;simp only[sB,Za];refine z01 ?_))
 refine(zhj r0 (hs'.bes hw hHB (hx12.trans hx')) hx'.wf hs' PS.start.wf.lo (PS.start.few (by omega) (by omega))).mono ?_;rintro v H3 ⟨rfl,hs3,hx3⟩;have hxH3:=hs'.hx hx' (Ze _) hx3;have w3:=hx3.wf;have hlay:=PS.start.lay hbd;have hnot:=zol (σ:=mkN 6) (t:=t);have hokk:=zfh (σ:=mkN 6) (t:=t);generalize hlv:layV (mkN 6) t=lv at *;obtain⟨ρ,c0,e0'⟩:=lv;simp only at hs3 hlay hnot hokk;have hps:∃w,w<=4000/\PS ρ w 0:=by
  by_cases he:e0'=0
  ·have:=zjb (hokk he).1;exact⟨_,by omega,(hlay he).1⟩
  ·rw[hnot he];exact⟨0,by omega,PS.start⟩
 obtain⟨w,hwl,hps⟩:=hps;(try simp only[sB,dAlloc,Za,Zb,one,zr42,st42]);obtain⟨H4,e4,hx4,g5,n4,w4⟩:=z0o w3 (.row [.int .i64 0,.int .i64 0] 42) (.row (two c0) 42);have hs4:=hs3.keep w3 hx4;have hxH4:=hxH3.trans hx4;have q2:=(row6 (hxH4.get w2 g2)).2.2.2.2.2.2;simp only[e4]
 repeat' (first|refine qZa ?_|(refine qZb ?_;simp only[sB,Za,ld40,cl19,t3,t8,q2]))
 refine(zhj r0' (hs4.bes hw hHB (hx12.trans hxH4)) w4 hs4 hps.wf.lo (hps.few (by omega) (by omega))).mono ?_;rintro v H5 ⟨rfl,hs5,hx5⟩;have hxH5:=hs4.hx hxH4 (Ze _) hx5;have w5:=hx5.wf;have hlay2:=hps.lay hbd';have hlay3:=fun (he:e0'=0)=>(hlay he).1.lay hbd'
 have hokk2:=zfh (σ:=ρ) (t:=t');have m5:¬Mut H4 s H3.next:=hs3.fresh w3 hx4 (Ze _);have g5:=hx5.own w4 m5 g5;generalize hlv2:layV ρ t'=lv2 at *;obtain⟨τ,c1,e1'⟩:=lv2;simp only at hs5 hlay2 hokk2 hlay3;(try simp only[sB,dAlloc,Za,Zb,one,zr42,st42]);obtain⟨H6,e6,hx6,g6,n6,w6⟩:=z0o w5 (.row [.int .i64 0,.int .i64 0] 42) (.row (two c1) 42);simp only[e6];have hs6:=hs5.keep w5 hx6;have hxH6:=hxH5.trans hx6;have q5:=z0l (hx6.get w5 g5);have q6:=z0l g6;have g3':=hxH6.get w2 g3;have g4':=hxH6.get w2 g4;have ne0:(H.next=H.next+1)=False:=by simp
 have ne00:(H.next+1=H.next)=False:=by simp
 have ne1:(H.next+1+1=H.next+1+1+1)=False:=by simp
 have ne2:(H.next+1+1+1=H.next+1+1)=False:=by simp
 have hxb:HX H ⟨H6.next+13,H6.t⟩:=(hx12.trans hxH6).bump 13;have hsb:St ⟨H6.next+13,H6.t⟩ H2.next s τ:=hs6.keep w6 ((HX.refl w6).bump 13);have fin:∀C D,HX H ((Heap.put ⟨H6.next+13,H6.t⟩ (H.next+1+1) (some C)).put (H.next+1+1+1) (some D))/\St ((Heap.put ⟨H6.next+13,H6.t⟩ (H.next+1+1) (some C)).put (H.next+1+1+1) (some D)) H2.next s τ:=fun C D=>by
  have hxc:=hxb.pt (i:=H.next+1+1) (by omega) (show Heap.get ⟨H6.next+13,H6.t⟩ _=_ from g3') (some C);have b1:=hsb.box hxb.wf (n:=H.next+1+1) (by have:=hxH6.next;show _ < H6.next+13;omega) (fun q=>by have:=hsb.mlo q;omega) (some C);have g4c:Heap.get (Heap.put ⟨H6.next+13,H6.t⟩ (H.next+1+1) (some C)) (H.next+1+1+1)=some (.row (two (0,0)) 42):=by rw[get_put,if_neg (by omega)];exact g4'
  exact⟨hxc.pt (i:=H.next+1+1+1) (by omega) g4c (some D),(b1.1.box hxc.wf (n:=H.next+1+1+1) (by rw[z14];have:=hxH6.next;show _ < H6.next+13;omega) (fun q=>by have:=b1.1.mlo q;omega) (some D)).1⟩
 refine EvC.frame (fun tm=>tm.get 5=some (.pointer (some ⟨H.next+1+1,0,none⟩))/\tm.get 6=some (.pointer (some ⟨H.next+1+1+1,0,none⟩))/\tm.get 8=some (.pointer (some ⟨s,0,none⟩))/\tm.get 10=some (.pointer (some ⟨H3.next,0,none⟩))/\tm.get 11=some (.int .i64 e0')/\tm.get 12=some (.pointer (some ⟨H5.next,0,none⟩))/\tm.get 13=some (.int .i64 e1')) ⟨(by simp only[sG,Za,t5]),(by simp only[sG,Za,t6]),(by simp only[sG,Za,t8]),(by simp only[sG,Za]),(by simp only[sG,Za]),(by simp only[sG,Za]),(by simp only[sG,Za])⟩ ?_;clear t2 t3 t5 t6 t8 t9 e4 e6;rintro tm ⟨t5,t6,t8,t10,t11,t12,t13⟩;have hne3:∀{p:Nat},H2.next<=p->(H.next+1+1=p)=False:=fun h=>by simp;omega
 have hne31:(H.next+1+1=H3.next)=False:=by have:=hxH3.next;simp;omega
 have hne32:(H.next+1+1=H5.next)=False:=by have:=hxH5.next;simp;omega
 have hne33:(H3.next=H.next+1+1)=False:=by have:=hxH3.next;simp;omega
 have hne34:(H5.next=H.next+1+1)=False:=by have:=hxH5.next;simp;omega
 by_cases he:e0'=0;rotate_left
 ·repeat' (first|refine qZa ?_|(refine qZf ?_)|(refine qZj [([(0,0),(1,0),(3,0),(4,0),(5,0),(9,0)],some 10),([(2,0)],some 11),([(6,0),(7,0),(8,0),(12,2)],none)] ?_ ?_;kernel_rfl;simp only[sV,sD,sB,Za,Zb,one,reduceCtorEq,cutC,st42,ld42,t5,t6,t8,t10,t11,t12,g3',g4',q5,q6,z0h he,ne2,hne34,isAlloc,isRead]))
  exact z6u rfl (by simp only[sG,Za]) (by simp only[sB,Za,t5];rfl) (by simp only[sB,Za,Zb,cutC,ld42,ne0]) (by simp only[sB,Za,t6];rfl) (by simp only[sB,Za,Zb,cutC,ld42,ne00]) (by simp only[sG,Za]) ⟨(fin _ _).1,s,c0,c1,.inl rfl⟩
 by_cases he1:e1'=0;rotate_left
 ·repeat' (first|refine qZa ?_|(refine qZf ?_)|(refine qZj [([(0,0),(1,0),(3,0),(4,0),(5,0),(9,0)],some 10),([(2,0)],some 11),([(6,0),(7,0),(8,0),(12,2)],none)] ?_ ?_;kernel_rfl;simp only[sV,sD,sB,Za,Zb,one,reduceCtorEq,cutC,st42,ld42,t5,t6,t8,t10,t11,t12,t13,g3',g4',q5,q6,z0v he,z0h he1,ne2,hne34,isAlloc,isRead]))
  exact z6u rfl (by simp only[sG,Za]) (by simp only[sB,Za,t5];rfl) (by simp only[sB,Za,Zb,cutC,ld42,ne0]) (by simp only[sB,Za,t6];rfl) (by simp only[sB,Za,Zb,cutC,ld42,ne00]) (by simp only[sG,Za]) ⟨(fin _ _).1,s,c0,c1,.inl rfl⟩
 obtain⟨hp1,hr1,hg1⟩:=hlay he;obtain⟨hp2,hr2,hg2⟩:=hlay3 he he1;have hk1:=hokk he;have hk2:=hokk2 he1
 repeat' (first|refine qZa ?_|(refine qZf ?_)|(refine qZj [([(0,0),(1,0),(3,0),(4,0),(5,0),(9,0)],some 10),([(2,0)],some 11),([(6,0),(7,0),(8,0),(12,2)],none)] ?_ ?_;kernel_rfl;simp only[sV,sD,sB,Za,Zb,one,reduceCtorEq,cutC,st42,ld42,t5,t6,t8,t10,t11,t12,t13,g3',g4',q5,q6,z0v he,z0v he1,ne2,hne34,isAlloc,isRead]))
 refine z6u rfl (by simp only[sG,Za]) (by simp only[sB,Za,t5];rfl) (by simp only[sB,Za,Zb,cutC,ld42,ne0]) (by simp only[sB,Za,t6];rfl) (by simp only[sB,Za,Zb,cutC,ld42,ne00]) (by simp only[sG,Za]) ⟨(fin _ _).1,s,c0,c1,.inr ⟨rfl,H2.next,τ,hHB,(fin _ _).2,?_,hr1.grow hg2 hp1.wf.lo,hr2,hk1.1,hk2.1,?_⟩⟩
 ·have e:0+nd t+nd t'=nd t+nd t':=by omega
  rw[e] at hp2;exact hp2
 ·intro v hv;have h1:=hk1.2.1 v hv;obtain⟨n,rfl⟩:=Zk h1.1;exact hp2.okV (by rw[hp2.fv];have:=h1.2.1;have:=(z5n 6).1;omega)
section
open Classical
mutual
noncomputable def matchS:Tm->Tm->List (Int × Tm)->Option (List (Int × Tm))
 |.mk k s u b v l,t,M=>if k=1 then (match lookT M v with|some old=>if old=t then some M else none|none=>some (M++[(v,t)]))
  else if k=t.kind/\s=t.name/\u=t.num/\b=t.bits/\l.length=t.args.length then matchL l t.args M else none
noncomputable def matchL:List Tm->List Tm->List (Int × Tm)->Option (List (Int × Tm))
 |[],_,M=>some M
 |x :: l,m,M=>match matchS x (m.headD x) M with
  |some M'=>matchL l (m.drop 1) M'
  |none=>none
end
theorem z3y {t u:Tm}{M:List (Int × Tm)}(h:t.kind=1):matchS t u M=match lookT M t.var with|some old=>if old=u then some M else none|none=>some (M++[(t.var,u)]):=by
 obtain⟨k,s,w,b,v,l⟩:=t;rw[matchS,if_pos (show k=1 from h)];rfl
def alike (t u:Tm):Prop:=t.kind=u.kind/\t.name=u.name/\t.num=u.num/\t.bits=u.bits/\t.args.length=u.args.length
theorem z6v {t u:Tm}{M:List (Int × Tm)}(h:t.kind≠1) (ha:alike t u):matchS t u M=matchL t.args u.args M:=by
 obtain⟨k,s,w,b,v,l⟩:=t;have ha':k=u.kind/\s=u.name/\w=u.num/\b=u.bits/\l.length=u.args.length:=ha;rw[matchS,if_neg (show ¬k=1 from h),if_pos ha'];rfl
theorem z3z {t u:Tm}{M:List (Int × Tm)}(h:t.kind≠1) (ha:¬alike t u):matchS t u M=none:=by
 obtain⟨k,s,w,b,v,l⟩:=t;have ha':¬(k=u.kind/\s=u.name/\w=u.num/\b=u.bits/\l.length=u.args.length):=ha;rw[matchS,if_neg (show ¬k=1 from h),if_neg ha']
theorem zmg {l m:List Tm}{i:Nat}{M:List (Int × Tm)}(h:i < l.length) (h':i < m.length):matchL (l.drop i) (m.drop i) M=match matchS l[i] m[i] M with
  |some M'=>matchL (l.drop (i+1)) (m.drop (i+1)) M'
  |none=>none:=by
 rw[ZB h,ZB h',matchL];rfl
end
def FineB (M:List (Int × Tm)):Prop:=∀p∈M,Fine p.2
theorem FineB.snoc {M:List (Int × Tm)}{n:Int}{t:Tm}(h:FineB M) (ht:Fine t):FineB (M++[(n,t)]):=fun p hp=>by
 rcases List.mem_append.1 hp with hp|hp
 ·exact h p hp
 ·rw[List.mem_singleton.1 hp];exact ht
set_option maxHeartbeats 16000000 in
theorem zsb {H0:Heap}{p f r:Nat}(hw0:H0.wf) (hpr:p≠r) (hfr:f≠r) (hr:H0.next<=r):∀(m:Nat) {t u:Tm}{cs cu:List Value}{M:List (Int × Tm)}{H:Heap},SizeOf.sizeOf t < m->RepT H0 t cs->RepT H0 u cu->Fine t->Fine u->FineB M->HX H0 H ->
  H.get p=some (.row [.map (some r)] 85)->H.get f=some (.row [.func (.func 53) #[] #[.pointer (some ⟨p,0,none⟩),.pointer (some ⟨f,0,none⟩)]] 52)->MapT H0 H r M ->
  EvF Tryz.prog okT 53 [.agg ⟨cs⟩,.agg ⟨cu⟩,.pointer (some ⟨p,0,none⟩),.pointer (some ⟨f,0,none⟩)] H fun v H'=>HK (·=r) H H' /\
   ((∃M',matchS t u M=some M'/\v=.bool true/\MapT H0 H' r M'/\FineB M')\/(matchS t u M=none/\v=.bool false)):=by
 have hcall:callable Tryz.prog 53=true:=by kernel_rfl
 intro m
 induction m with
 |zero=>intro t u cs cu M H h;omega
 |succ m ih =>
 intro t u cs cu M H hsz r0 r1 hft hfu hfM hx0 gp gf hm;have hw:=hx0.wf;have hrl:=hm.lt hw;obtain⟨a,c,cells,rfl,-,-,-,-,-,rl⟩:=r0.six;obtain⟨a',c',cells',rfl,-,-,-,-,-,rl'⟩:=r1.six;refine EvF.enter rfl Tryz.func53 (by decide) rfl ?_;(repeat refine qZa ?_);refine qZb ?_;simp only[sB,initTm,dBox,Za,Zb,Value.cells,one,reduceCtorEq];obtain⟨H2,e2,hx2,gt,gu,hn2,hw2⟩:=new2 hw (.row (six t a c) 40) (.row (six u a' c') 40);simp only[e2];clear e2;have q1:=row6 gt;have q2:=row6 gu;have gp2:=hx2.get hw gp;have gf2:=hx2.get hw gf;have lp:=row1 gp2;have hm2:=hm.keep hx2 hw;by_cases k1:t.kind=1
 ·(repeat refine qZa ?_);refine qZb ?_;simp only[sB,Za,reduceCtorEq,z1c,ld3,q1,z0v k1];refine qZd (by simp only[sB,Za,reduceCtorEq]) ?_;(try refine qZe ?_);(try simp only[z00,z0b]);obtain⟨MM,hM,hMn⟩:=hm2;rcases z6f (lookT M t.var) with ⟨old,hl⟩|hl
  ·skip
   obtain⟨cso,hg,hro⟩:=(hMn t.var).1 old hl;obtain⟨a2,c2,cells2,rfl,-⟩:=hro.six;(repeat refine qZa ?_);refine qZb ?_;simp only[sB,dAlloc,Za,Zb,one,reduceCtorEq,ld3,ld85,z4d,zr40,st40,lp,q1,z15,z4w z94 hM hg];obtain⟨H3,e3,hx3,g3,hn3,hw3⟩:=z0o hw2 (.row zero6 40) (.row (six old a2 c2) 40);simp only[e3];clear e3;have q3:=row6 g3;have q23:=row6 (hx3.get hw2 gu);have hx03:=(hx0.trans hx2).trans hx3;have hfo:Fine old:=by
    have h1:=hfM _ (z4q hl);exact h1
   repeat' (first|refine qZa ?_|(refine qZe ?_;try simp only[z00])|(refine qZb ?_;simp only[sB,Za,reduceCtorEq,ld40,cl54,Zn,q3,q23])|(refine qZm ?_ ?_;simp only[sB,Za,reduceCtorEq];refine z01 ?_))
   refine(zoc (Zf _) (hro.mono hx03 hw0) (r1.mono hx03 hw0) hfo hfu hx03.wf).mono ?_;rintro v H4 ⟨rfl,hx4⟩;have hk:=(((hx2.trans hx3).trans hx4).hk (·=r))
   by_cases he:old=u
   ·have hz:ordT old u=0:=by rw[he];exact zdn u
    have hz':(ordT old u == 0)=true:=z0v hz
    repeat' (first|(refine qZf ?_;try simp only[z04,z02])|(refine z0f ?_;simp only[sB,Za,reduceCtorEq,hz']))
    exact z03 rfl (by simp only[sG,Za,reduceCtorEq]) ⟨hk,.inl ⟨M,by rw[z3y k1,hl];simp only[he,if_true],rfl,hm.keep ((hx2.trans hx3).trans hx4) hw,hfM⟩⟩
   ·have hz:ordT old u≠0:=fun h=>he (zdp _ (Zf _) hfo hfu (RepT.u64s hro) (RepT.u64s r1) h)
    have hz':(ordT old u == 0)=false:=z0h hz
    repeat' (first|(refine qZf ?_;try simp only[z04,z02])|(refine z0f ?_;simp only[sB,Za,reduceCtorEq,hz']))
    exact z03 rfl (by simp only[sG,Za,reduceCtorEq]) ⟨hk,.inr ⟨by rw[z3y k1,hl];simp only[he,if_false],rfl⟩⟩
  ·skip
   have hg:=(hMn t.var).2 hl;(repeat refine qZa ?_);refine qZb ?_;simp only[sB,dAlloc,Za,Zb,one,reduceCtorEq,ld3,ld85,z4d,zr40,st40,lp,q1,z15,z63 z94 hM hg];obtain⟨H3,e3,hx3,g3,hn3,hw3⟩:=z0o hw2 (.row zero6 40) (.row zero6 40);simp only[e3];clear e3;have q13:=row6 (hx3.get hw2 gt);have q23:=row6 (hx3.get hw2 gu);have lp3:=row1 (hx3.get hw2 gp2);have k23:=hx2.trans hx3;obtain⟨K,hup,hm4⟩:=(hm.keep k23 hw).push z94 hl r1
   repeat' (first|refine qZa ?_|(refine qZf ?_;try simp only[z04,z02])|(refine qZb ?_;simp only[sB,Za,reduceCtorEq,ld3,ld85,z4d,ld40,Zw,lp3,q13,q23,z24,hup])|(refine qZd ?_ ?_;simp only[sB,Za,reduceCtorEq];refine z01 ?_))
   exact z03 rfl (by simp only[sG,Za,reduceCtorEq]) ⟨(k23.hk (fun x=>x=r)).put (.inl rfl) (Zo hrl k23.next) _,.inl ⟨_,by rw[z3y k1,hl],rfl,hm4,hfM.snoc hfu⟩⟩
 have k0:t.kind≠1:=k1;have hk2:=hx2.hk (·=r);by_cases k1:t.kind=u.kind;rotate_left
 ·repeat' (first|refine qZa ?_|(refine qZe ?_;try simp only[z00])|(refine qZf ?_;try simp only[z04,z02])|(refine qZb ?_;simp only[sB,Za,reduceCtorEq,z1c,ld3,z0h k0,z29 k1,q1,q2])|(refine qZd ?_ ?_;simp only[sB,Za,reduceCtorEq];refine z01 ?_)|(refine qZm ?_ ?_;simp only[sB,Za,reduceCtorEq];refine z01 ?_))
  exact z03 rfl (by simp only[sG,Za,reduceCtorEq]) ⟨hk2,.inr ⟨z3z k0 fun h=>k1 h.1,rfl⟩⟩
 by_cases k2:t.name=u.name;rotate_left
 ·repeat' (first|refine qZa ?_|(refine qZe ?_;try simp only[z00])|(refine qZf ?_;try simp only[z04,z02])|(refine qZb ?_;simp only[sB,Za,reduceCtorEq,z1c,ld3,z38,ld9,z0h k0,z13 k1,q1,q2,z1p,zhb k2,Zw,Zd])|(refine qZd ?_ ?_;simp only[sB,Za,reduceCtorEq];refine z01 ?_)|(refine qZm ?_ ?_;simp only[sB,Za,reduceCtorEq];refine z01 ?_))
  exact z03 rfl (by simp only[sG,Za,reduceCtorEq]) ⟨hk2,.inr ⟨z3z k0 fun h=>k2 h.2.1,rfl⟩⟩
 by_cases k3:t.num=u.num;rotate_left
 ·repeat' (first|refine qZa ?_|(refine qZe ?_;try simp only[z00])|(refine qZf ?_;try simp only[z04,z02])|(refine qZb ?_;simp only[sB,Za,reduceCtorEq,z1c,ld3,z38,ld9,z4k,z0h k0,z13 k1,q1,q2,z1p,z2n k2,zhb k3,Zw,Zn,Zd])|(refine qZd ?_ ?_;simp only[sB,Za,reduceCtorEq];refine z01 ?_)|(refine qZm ?_ ?_;simp only[sB,Za,reduceCtorEq];refine z01 ?_))
  exact z03 rfl (by simp only[sG,Za,reduceCtorEq]) ⟨hk2,.inr ⟨z3z k0 fun h=>k3 h.2.2.1,rfl⟩⟩
 by_cases k4:t.bits=u.bits;rotate_left
 ·repeat' (first|refine qZa ?_|(refine qZe ?_;try simp only[z00])|(refine qZf ?_;try simp only[z04,z02])|(refine qZb ?_;simp only[sB,Za,reduceCtorEq,z1c,ld3,z38,ld9,z4k,z56,ld38,z0h k0,z13 k1,q1,q2,z1p,z2n k2,z2n k3,z29 k4,Zn,Zd])|(refine qZd ?_ ?_;simp only[sB,Za,reduceCtorEq];refine z01 ?_)|(refine qZm ?_ ?_;simp only[sB,Za,reduceCtorEq];refine z01 ?_))
  exact z03 rfl (by simp only[sG,Za,reduceCtorEq]) ⟨hk2,.inr ⟨z3z k0 fun h=>k4 h.2.2.2.1,rfl⟩⟩
 by_cases k6:(t.args.length:Int)=u.args.length;rotate_left
 ·repeat' (first|refine qZa ?_|(refine qZe ?_;try simp only[z00])|(refine qZf ?_;try simp only[z04,z02])|(refine qZb ?_;simp only[sB,Za,reduceCtorEq,z1c,ld3,z38,ld9,z4k,z56,ld38,z1k,ld32,ln32,z0h k0,z13 k1,q1,q2,z1p,z2n k2,z2n k3,z13 k4,z29 k6,Zn,Zd])|(refine qZd ?_ ?_;simp only[sB,Za,reduceCtorEq];refine z01 ?_)|(refine qZm ?_ ?_;simp only[sB,Za,reduceCtorEq];refine z01 ?_))
  exact z03 rfl (by simp only[sG,Za,reduceCtorEq]) ⟨hk2,.inr ⟨z3z k0 fun h=>k6 (by rw[h.2.2.2.2]),rfl⟩⟩
 have hlen:t.args.length=u.args.length:=by omega
 have hmx:=rl.max;have hyes:∀M,matchS t u M=matchL t.args u.args M:=fun M=>z6v k0 ⟨k1,k2,k3,k4,hlen⟩
 repeat' (first|refine qZa ?_|refine qZg ?_|(refine qZe ?_;try simp only[z00])|(refine qZb ?_;simp only[sB,Za,reduceCtorEq,z1c,ld3,z38,ld9,z4k,z56,ld38,z1k,ld32,ln32,z0h k0,z13 k1,q1,q2,z1p,z2n k2,z2n k3,z13 k4,z13 k6,Zn,Zd])|(refine qZm ?_ ?_;simp only[sB,Za,reduceCtorEq];refine z01 ?_))
 refine qZk (fun k st=>∃tm H' i M',st=⟨tm,[],H'⟩/\k=t.args.length - i/\i<=t.args.length/\matchL (t.args.drop i) (u.args.drop i) M'=matchS t u M /\
   tm.get 3=some (.pointer (some ⟨f,0,none⟩))/\tm.get 4=some (.pointer (some ⟨H.next,0,none⟩))/\tm.get 5=some (.pointer (some ⟨H.next+1,0,none⟩))/\tm.get 71=some (.int .i64 t.args.length)/\tm.get 72=some (.int .i64 (i:Nat)) /\
   MapT H0 H' r M'/\FineB M'/\HK (·=r) H2 H') ?_ t.args.length _ ?_
 ·rintro k st ⟨tm,H',i,M',rfl,rfl,hi,hml,t3,t4,t5,t71,t72,hm',hfM',hk'⟩;have hw':=hk'.wf;have hrn:∀n,n < H0.next->¬n=r:=fun n hn q=>by omega
  have hx':HX H0 H':=(hx0.trans hx2).then hk' hrn;have gt':=hk'.get hw2 gt (by omega);have gu':=hk'.get hw2 gu (by omega);have gp':=hk'.get hw2 gp2 hpr;have gf':=hk'.get hw2 gf2 hfr;have q1:=row6 gt';have q2:=row6 gu';have lf:=row1 gf';by_cases hlt:i < t.args.length
  ·have hlt':i < u.args.length:=by omega
   obtain⟨b,o,a1,c1,rfl,hld,hr1⟩:=rl.el hlt;obtain⟨b',o',a2,c2,rfl,hld',hr2⟩:=rl'.el hlt';have hld1:=hx'.load hw0 hld;have hld2:=hx'.load hw0 hld';have hb:=(HX.refl hw').bump 13;have hs:=z1t (Zc hlt)
   repeat' (first|refine qZa ?_|refine qZg ?_|(refine qZe ?_;try simp only[z00])|(refine qZb ?_;simp (config:=qZc) only[sB,Za,t71,t72,decl hlt])|(refine qZj [([(0,0),(1,0),(2,0),(3,0),(4,0),(5,0),(6,0),(7,0),(8,0),(9,0),(10,0)],some 11),([(12,1)],none)] ?_ ?_;kernel_rfl;simp (config:=qZc) (disch:=first|omega|rfl) only[sD,sB,Za,Zb,reduceCtorEq,ld40,z1k,ld32,ld52,ia32,t3,t4,t5,q1,q2,hld1,hld2,lf,z10,z0m hcall,isAlloc,isRead])|(refine qZd ?_ ?_;simp (config:=qZc) only[sB];refine z01 ?_))
   refine(ih (t:=t.args[i]) (u:=u.args[i]) (M:=M') (by omega) hr1 hr2 (hft.args _ (ZD _)) (hfu.args _ (ZD _)) hfM' (hx'.trans hb) gp' gf' (hm'.heap rfl)).mono ?_;rintro v H4 ⟨hk4,h4⟩;have hk24:HK (·=r) H2 H4:=(hk'.bump 13).trans hk4;rw[zmg hlt hlt'] at hml;rcases h4 with ⟨M4,e4,rfl,hm4,hf4⟩|⟨e4,rfl⟩
   ·simp only[e4] at hml
    repeat' (first|(refine qZe ?_;try simp only[sA])|(refine qZb ?_;simp (config:=qZc) (disch:=first|omega|rfl) only[sB,Za,t72,z05])|(refine z0p ?_;simp (config:=qZc) only[sD,sB,Za,Zn,isAlloc,isRead])|(refine qZm ?_ ?_;simp (config:=qZc) only[sB,Za];refine z01 ?_))
    exact⟨t.args.length - (i+1),by omega,_,_,i+1,M4,rfl,rfl,by omega,hml,(by simp only[sG,Za,t3]),(by simp only[sG,Za,t4]),(by simp only[sG,Za,t5]),(by simp only[sG,Za,t71]),(by simp only[sB,Za];rfl),hm4,hf4,hk24⟩
   ·simp only[e4] at hml
    repeat' (first|refine qZa ?_|(refine qZf ?_;try simp only[z04,z02])|(refine qZb ?_;simp only[sA])|(refine z0p ?_;simp only[sD,sB,Za,Zw,isAlloc,isRead])|(refine qZd ?_ ?_;simp only[sB,Za];refine z01 ?_))
    exact z03 rfl (by simp only[sG,Za]) ⟨hk2.trans hk24,.inr ⟨hml.symm,rfl⟩⟩
  ·obtain rfl:i=t.args.length:=by omega
   repeat' (first|refine qZa ?_|(refine qZi ?_;try simp only[sB])|(refine qZf ?_)|(refine qZb ?_;simp only[sA,t71,t72,decn hlt])|(refine qZm ?_ ?_;simp only[sB];refine z01 ?_))
   rw[List.drop_of_length_le (Ze _),matchL] at hml;exact z03 rfl (by simp only[sG,Za]) ⟨hk2.trans hk',.inl ⟨M',hml.symm,rfl,hm',hfM'⟩⟩
 ·exact⟨_,_,0,M,rfl,rfl,ZA _,by rw[List.drop_zero,List.drop_zero,hyes],(by simp only[sG,Za,reduceCtorEq]),(by simp only[sG,Za,reduceCtorEq]),(by simp only[sG,Za,reduceCtorEq]),(by simp only[sG,Za,reduceCtorEq]),(by simp only[sB,Za,reduceCtorEq];rfl),hm2,hfM,HK.refl hw2⟩
theorem zdv {M M':List (Int × Tm)}{n:Int}{u:Tm}(h:M <+: M') (hl:lookT M n=some u):lookT M' n=some u:=by
 obtain⟨X,rfl⟩:=h;unfold lookT at *;rw[List.find?_append];cases hf:M.find? (fun p=>p.1 == n) with
 |none=>rw[hf] at hl;cases hl
 |some p=>rw[hf] at hl;simpa using hl
theorem zbn {t:Tm}(h:Fine t) (k:t.kind=1):occ t=[t.var]:=by
 rw[z3d,if_pos k,z6e h k,occL,List.append_nil]
theorem zhl {t:Tm}(k:t.kind≠1):occ t=occL t.args:=by rw[z3d,if_neg k,List.nil_append]
theorem zdw:∀(m:Nat) {t u:Tm}{M M':List (Int × Tm)},SizeOf.sizeOf t < m->Fine t->matchS t u M=some M'->M <+: M'/\∀n∈occ t,lookT M' n≠none
 |0,t,u,M,M',h,_,_=>by omega
 |m+1,t,u,M,M',h,f,hm=>by
  by_cases k:t.kind=1
  ·rw[z3y k] at hm;rw[zbn f k];cases hl:lookT M t.var with
   |some old =>
    rw[hl] at hm;simp only at hm;split at hm
    ·cases hm;exact⟨Zz _,fun n hn=>by rw[Zx] at hn;subst hn;rw[hl];exact fun q=>by cases q⟩
    ·cases hm
   |none =>
    rw[hl] at hm;cases hm;refine⟨List.prefix_append _ _,fun n hn=>?_⟩;rw[Zx] at hn;subst hn;rw[z6t hl,if_pos rfl];exact fun q=>by cases q
  ·by_cases hal:alike t u
   ·rw[z6v k hal] at hm;rw[zhl k];have go:∀(l mm:List Tm) (M M':List (Int × Tm)),(∀u∈l,SizeOf.sizeOf u < m/\Fine u)->matchL l mm M=some M'->M <+: M'/\∀n∈occL l,lookT M' n≠none:=by
     intro l
     induction l with
     |nil=>intro mm M M' _ h;rw[matchL] at h;cases h;exact⟨Zz _,fun n hn=>by rw[occL] at hn;cases hn⟩
     |cons x l ih =>
      intro mm M M' hl h;rw[matchL] at h;cases e1:matchS x (mm.headD x) M with
      |none=>rw[e1] at h;cases h
      |some M1 =>
       rw[e1] at h;obtain⟨p1,o1⟩:=zdw m (hl x (by simp)).1 (hl x (by simp)).2 e1;obtain⟨p2,o2⟩:=ih _ M1 M' (fun u hu=>hl u (Zl _ hu)) h;refine⟨p1.trans p2,fun n hn=>?_⟩;rw[occL] at hn;rcases List.mem_append.1 hn with hn|hn
       ·cases hq:lookT M1 n with
        |none=>exact absurd hq (o1 n hn)
        |some w=>rw[zdv p2 hq];exact fun q=>by cases q
       ·exact o2 n hn
    exact go t.args u.args M M' (fun u hu=>⟨by have:=z0g hu;omega,f.args u hu⟩) hm
   ·rw[z3z k hal] at hm;cases hm
theorem zty {t:Tm}(h:Fine t) (k:t.kind=1):t=varT t.var:=by
 obtain⟨b1,b2,b3,b4,b5⟩:=z1h (z1b h.node).2.2.1;exact za1 k (b1 (by omega) (by omega)) (b2 (by omega)) (b3 (by omega)) rfl (b5 (by omega))
def Cons (σ:Int->Option Tm) (M:List (Int × Tm)):Prop:=∀p∈M,p.2=(σ p.1).getD (varT p.1)
theorem Cons.look {σ:Int->Option Tm}{M:List (Int × Tm)}(h:Cons σ M) {n:Int}{u:Tm}(hl:lookT M n=some u):u=(σ n).getD (varT n):=h _ (z4q hl)
theorem zdx {σ:Int->Option Tm}:∀(m:Nat) {t:Tm}{M:List (Int × Tm)},SizeOf.sizeOf t < m->Fine t->Cons σ M->∃M',matchS t (subO σ t) M=some M'/\Cons σ M'/\M <+: M'/\∀n∈occ t,lookT M' n≠none
 |0,t,M,h,_,_=>by omega
 |m+1,t,M,h,f,hc=>by
  by_cases k:t.kind=1
  ·have hv:subO σ t=(σ t.var).getD (varT t.var):=by rw[z3e k];congr 1;exact zty f k
   rw[z3y k,zbn f k];cases hl:lookT M t.var with
   |some old =>
    have:=hc.look hl;refine⟨M,?_,hc,Zz _,fun n hn=>by rw[Zx] at hn;subst hn;rw[hl];exact fun q=>by cases q⟩;simp only[hv,this,if_true]
   |none =>
    refine⟨_,rfl,fun p hp=>?_,List.prefix_append _ _,fun n hn=>?_⟩
    ·rcases List.mem_append.1 hp with hp|hp
     ·exact hc p hp
     ·rw[List.mem_singleton.1 hp];exact hv
    ·rw[Zx] at hn;subst hn;rw[z6t hl,if_pos rfl];exact fun q=>by cases q
  ·have hs:=zbm (σ:=σ) k;have hal:alike t (subO σ t):=by rw[hs];exact⟨rfl,rfl,rfl,rfl,by simp [Tm.args]⟩
   have ha:(subO σ t).args=t.args.map (subO σ):=by rw[hs];rfl
   rw[z6v k hal,zhl k,ha];have go:∀(l:List Tm) (M:List (Int × Tm)),(∀u∈l,SizeOf.sizeOf u < m/\Fine u)->Cons σ M->∃M',matchL l (l.map (subO σ)) M=some M'/\Cons σ M'/\M <+: M'/\∀n∈occL l,lookT M' n≠none:=by
    intro l
    induction l with
    |nil=>intro M _ hc;exact⟨M,by rw[matchL],hc,Zz _,fun n hn=>by rw[occL] at hn;cases hn⟩
    |cons x l ih =>
     intro M hl hc;obtain⟨M1,e1,c1,p1,o1⟩:=zdx m (hl x (by simp)).1 (hl x (by simp)).2 hc;obtain⟨M2,e2,c2,p2,o2⟩:=ih M1 (fun u hu=>hl u (Zl _ hu)) c1;refine⟨M2,?_,c2,p1.trans p2,fun n hn=>?_⟩
     ·rw[matchL,List.map_cons,List.headD_cons,e1];simp only[List.drop_succ_cons,List.drop_zero];exact e2
     ·rw[occL] at hn;rcases List.mem_append.1 hn with hn|hn
      ·cases hq:lookT M1 n with
       |none=>exact absurd hq (o1 n hn)
       |some w=>rw[zdv p2 hq];exact fun q=>by cases q
      ·exact o2 n hn
   exact go t.args M (fun u hu=>⟨by have:=z0g hu;omega,f.args u hu⟩) hc
def wN (σ:Int->Option Tm) (n:Int):Nat:=match σ n with|some u=>nd u - 1|none=>0
theorem zmh (t:Tm):1<=nd t:=by rw[z25];omega
theorem zfi {σ:Int->Option Tm}:∀(m:Nat) {t:Tm},SizeOf.sizeOf t < m->Fine t->nd (subO σ t)=nd t+((occ t).map (wN σ)).sum
 |0,t,h,_=>by omega
 |m+1,t,h,f=>by
  by_cases k:t.kind=1
  ·rw[z3e k,zbn f k];have h1:nd t=1:=by rw[z25,z6e f k];rfl
   unfold wN;cases hs:σ t.var with
   |none=>simp [hs]
   |some u=>have:=zmh u;simp [hs,h1];omega
  ·have ha:(subO σ t).args=t.args.map (subO σ):=by rw[zbm k];rfl
   rw[z25 (subO σ t),z25 t,ha,zhl k];have go:∀l:List Tm,(∀u∈l,SizeOf.sizeOf u < m/\Fine u)->nd.ndL (l.map (subO σ))=nd.ndL l+((occL l).map (wN σ)).sum:=by
    intro l
    induction l with
    |nil=>intro _;rw[List.map_nil,occL];simp
    |cons x l ih =>
     intro hl;have e1:=zfi m (σ:=σ) (hl x (by simp)).1 (hl x (by simp)).2;have e2:=ih fun u hu=>hl u (Zl _ hu)
     rw[List.map_cons,occL,ZK,List.sum_append,nd.ndL,nd.ndL,e1,e2];omega
   have:=go t.args fun u hu=>⟨by have:=z0g hu;omega,f.args u hu⟩
   omega
theorem z98:∀(m:Nat) (t:Tm),SizeOf.sizeOf t < m->∀n,n+nd t<=4000->cnt t n=n+nd t
 |0,t,h,_,_=>by omega
 |m+1,t,h,n,hn=>by
  rw[z4x];rw[z25] at hn ⊢;have go:∀(l:List Tm),(∀u∈l,SizeOf.sizeOf u < m)->∀n,n+nd.ndL l<=4000->cntL l n=n+nd.ndL l:=by
   intro l
   induction l with
   |nil=>intro _ n hn;rw[cntL];simp [nd.ndL]
   |cons x l ih =>
    intro hl n hn;rw[nd.ndL] at hn ⊢;have h1:=zmh x;rw[cntL,if_neg (by omega),z98 m x (hl x (by simp)) n (by omega),ih (fun u hu=>hl u (Zl _ hu)) _ (by omega)];omega
  have:=go t.args (fun u hu=>by have:=z0g hu;omega) (n+1) (by omega);rw[this];omega
theorem z3f {t:Tm}:checkS t=0↔nd t<=4000/\Fine t:=by
 rw[z1d];constructor
 ·rintro ⟨h1,h2⟩;have:=zdc _ t (Zf _) 0 h1;exact⟨by omega,h2⟩
 ·rintro ⟨h1,h2⟩;have:=z98 _ t (Zf _) 0 (by omega);exact⟨by omega,h2⟩
theorem zq4 {σ:Int->Option Tm}:∀(l:List Int) (m:Nat),m<=4000->(∀n∈l,∀u,σ n=some u->nd u<=4000)->(allS σ m l<=4000↔m+(l.map (wN σ)).sum<=4000)
 |[],m,h,_=>by simp [allS]
 |n :: l,m,h,hσ=>by
  have hover:∀(l:List Int) (m:Nat),4000 < m->4000 < allS σ m l:=by
   intro l
   induction l with
   |nil=>intro m h;exact h
   |cons n l ih =>
    intro m h;unfold allS;rw[ZP];refine ih _ ?_;unfold addN;split
    ·rw[if_neg (by omega)];exact h
    ·exact h
  unfold allS;rw[ZP,List.map_cons,List.sum_cons];have e:addN σ m n=m+wN σ n:=by
   unfold addN wN;cases hs:σ n with
   |none=>rfl
   |some u =>
    have h1:=hσ n (by simp) u hs;have h2:=z98 _ u (Zf _) 0 (by omega);have h3:=zmh u;simp only[if_pos h];omega
  rw[e];by_cases hm:m+wN σ n<=4000
  ·have:=zq4 l (m+wN σ n) hm (fun k hk=>hσ k (Zl _ hk));unfold allS at this;rw[this];omega
  ·have:=hover l (m+wN σ n) (by omega);unfold allS at this;omega
theorem zdy {σ:Int->Option Tm}:∀(m:Nat) {t:Tm},SizeOf.sizeOf t < m->Fine t->(∀n∈occ t,∀u,σ n=some u->Fine u)->Fine (subO σ t)
 |0,t,h,_,_=>by omega
 |m+1,t,h,f,hσ=>by
  by_cases k:t.kind=1
  ·rw[z3e k];cases hs:σ t.var with
   |none=>exact f
   |some u=>exact hσ t.var (by rw[zbn f k];simp) u hs
  ·rw[zbm k];unfold Fine;rw[z5i];have hn:nodeS (.mk t.kind t.name t.num t.bits t.var (t.args.map (subO σ)))=0:=by
    have h1:=f.node;obtain⟨kk,s,w,b,v,l⟩:=t;exact(zm2 (by simp [Tm.args])).trans h1
   rw[if_pos hn];show allL nodeS (t.args.map (subO σ))=0;have hocc:∀u∈t.args,∀n∈occ u,n∈occ t:=fun u hu n hn=>by
    rw[zhl k];have go:∀l:List Tm,u∈l->n∈occL l:=by
     intro l
     induction l with
     |nil=>intro h;cases h
     |cons x l ih =>
      intro h;rw[occL,List.mem_append];rcases List.mem_cons.1 h with rfl|h
      ·exact .inl hn
      ·exact .inr (ih h)
    exact go _ hu
   have go:∀l:List Tm,(∀u∈l,Fine (subO σ u))->allL nodeS (l.map (subO σ))=0:=by
    intro l
    induction l with
    |nil=>intro _;rfl
    |cons x l ih =>
     intro hl;rw[List.map_cons,allL];have:allE nodeS (subO σ x)=0:=hl x (by simp);rw[if_pos this];exact ih fun u hu=>hl u (Zl _ hu)
   exact go t.args fun u hu=>zdy m (by have:=z0g hu;omega) (f.args u hu) fun n hn=>hσ n (hocc u hu n hn)
end Go.Proofs.hq
end

section
namespace Go.Proofs.hq
open Go Go.RowKit Go.Hb
def arS (σ:SS) (p:Int):List (Int × Int):=(σ.cells.drop (p.toNat+1)).take ((σ.funs[(ci σ.cells p).2.toNat]?).getD (e0,0)).2.toNat
noncomputable def standsF (σ:SS) (v:Int × Int):Nat->List (Int × Int)->Bool × Int
 |0,[]=>(false,0)
 |0,_ :: _=>(false,140)
 |_+1,[]=>(false,0)
 |k+1,c :: r=>if dr σ.cells c=v then (true,0) else standsF σ v k ((if (dr σ.cells c).1=4 then arS σ (dr σ.cells c).2 else [])++r)
theorem zfj {σ:SS}{v:Int × Int}(k:Nat):standsF σ v k []=(false,0):=by cases k<;>rfl
theorem z5o (σ:SS) (v:Int × Int):∀(k:Nat) (L:List (Int × Int)),standsF σ v k L=(true,0)\/standsF σ v k L=(false,0)\/standsF σ v k L=(false,140)
 |0,[]=>.inr (.inl rfl)
 |0,_ :: _=>.inr (.inr rfl)
 |_+1,[]=>.inr (.inl rfl)
 |k+1,c :: r=>by
  rw[standsF];split
  ·exact .inl rfl
  ·exact z5o σ v k _
def numS (σ:SS) (c:Int × Int):Int:=(ci σ.cells c.2).2
def flS (σ:SS) (v:Int):Bool:=if okV σ v then (σ.flags[v.toNat]?).getD false else false
noncomputable def bindsS (σ:SS) (v c:Int × Int) (occ:Bool):SS × Bool × Int :=
 if occ=true/\c.1=4/\standsF σ v 20000 [c]≠(false,0) then (σ,false,(standsF σ v 20000 [c]).2) else ((bindS σ (numS σ v) c).1,true,(bindS σ (numS σ v) c).2)
def firstS (σ:SS) (m n:Int):Bool:=if flS σ m=flS σ n then decide (n < m) else flS σ n
noncomputable def orderS (σ:SS) (x y:Int × Int):(Int × Int) × (Int × Int):=if x.1=2/\y.1=2/\x≠y/\firstS σ (numS σ x) (numS σ y)=false then (y,x) else (x,y)
def funS (σ:SS) (p:Int):ByteArray × Int:=(σ.funs[(ci σ.cells p).2.toNat]?).getD (e0,0)
noncomputable def meets2 (σ:SS) (x y:Int × Int) (occ:Bool):SS × List ((Int × Int) × (Int × Int)) × Bool × Int :=
 if x=y/\x.1≠4 then (σ,[],true,0)
 else if x.1=2 then ((bindsS σ x y occ).1,[],(bindsS σ x y occ).2)
 else if y.1=2 then ((bindsS σ y x occ).1,[],(bindsS σ y x occ).2)
 else if x.1≠4\/y.1≠4 then (σ,[],false,0)
 else if funS σ x.2≠funS σ y.2 then (σ,[],false,0)
 else (σ,(arS σ x.2).zip (arS σ y.2),true,0)
noncomputable def meetsS (σ:SS) (a b:Int × Int) (occ:Bool):SS × List ((Int × Int) × (Int × Int)) × Bool × Int :=
 meets2 σ (orderS σ (dr σ.cells a) (dr σ.cells b)).1 (orderS σ (dr σ.cells a) (dr σ.cells b)).2 occ
noncomputable def runF (occ:Bool):Nat->SS->List ((Int × Int) × (Int × Int))->SS × Bool × Int
 |0,σ,[]=>(σ,true,0)
 |0,σ,_ :: _=>(σ,false,140)
 |_+1,σ,[]=>(σ,true,0)
 |k+1,σ,p :: r=>if (meetsS σ p.1 p.2 occ).2.2=(true,0) then runF occ k (meetsS σ p.1 p.2 occ).1 ((meetsS σ p.1 p.2 occ).2.1++r) else ((meetsS σ p.1 p.2 occ).1,false,(meetsS σ p.1 p.2 occ).2.2.2)
theorem zon {occ:Bool}{σ:SS}(k:Nat):runF occ k σ []=(σ,true,0):=by cases k<;>rfl
structure UOk (σ:SS):Prop where
 wf:WF noU σ
 fa:∀k∈σ.funs,0 < k.2/\k.2<=64
 fc:σ.cells.length<=most
 fv:σ.vars.length<=most
theorem UOk.tok {σ:SS}(h:UOk σ):TOk σ:=h.wf.tok h.fc h.fv
inductive ShU (σ:SS):Int × Int->Prop
 |var (a v:Nat):a < σ.cells.length->ci σ.cells a=(1,(v:Int))->v < σ.vars.length->gi σ.vars v=(a:Int)->ShU σ (2,(a:Int))
 |con (j:Nat):j < σ.consts.length->ShU σ (3,(j:Int))
 |str (p f:Nat) (nm:ByteArray) (n:Nat):p < σ.cells.length->ci σ.cells p=(5,(f:Int))->σ.funs[f]?=some (nm,(n:Int))->0 < n->n<=64->p+1+n<=σ.cells.length->(∀i:Nat,i < n->mayS σ (ci σ.cells ((p+1+i:Nat):Int))=true)->ShU σ (4,(p:Int))
theorem UOk.sh {σ:SS}(h:UOk σ) {c:Int × Int}(hm:mayS σ c=true):(∃m,Der σ.cells m c (dr σ.cells c))/\mayS σ (dr σ.cells c)=true/\ShU σ (dr σ.cells c):=by
 obtain⟨m,d,hd⟩:=h.wf.der c hm;obtain⟨hdm,hd2⟩:=h.wf.dmay hd hm;rw[z4f hd];refine⟨⟨m,hd⟩,hdm,?_⟩;have hdm':=hdm;rw[z2m] at hdm;obtain⟨d1,d2⟩:=d;simp only at hdm hd2;rcases hdm with ⟨a,b,e⟩|⟨a,b,e,f⟩|⟨a,b,e,f,g⟩
 ·subst a;obtain⟨n,rfl⟩:=Zk b;exact .con n (by omega)
 ·subst a;obtain⟨n,rfl⟩:=Zk b;have h1:=hd2 rfl;cases h.wf.cell n (by omega) with
  |var v ov hv' gv q =>
   rcases q with q|q
   ·exact .var n v (by omega) q hv' gv
   ·exact absurd h1 q.1
  |fn f' q=>omega
  |arg q=>omega
 ·subst a;obtain⟨n,rfl⟩:=Zk b;cases h.wf.cell n (by omega) with
  |var v q=>omega
  |arg q=>omega
  |fn f' q1 q2 hf q3 q4 q5 =>
   obtain⟨k1,k2⟩:=h.fa _ (ZD hf);obtain⟨w,hw⟩:=Zk q3;have hle:n+1+w<=σ.cells.length:=by
    have:=(q5 (w - 1) (by omega)).1;omega
   refine .str n f' (σ.funs[f'].1) w (by omega) q2 (by rw[Zc hf,<-hw]) (by omega) (by omega) hle fun i hi=>?_
   obtain⟨r1,r2⟩:=q5 i (by omega);cases h.wf.cell (n+1+i) r1 with
   |var v q=>omega
   |fn f'' q=>omega
   |arg _ q=>rcases q with q|q;exact q;exact q.elim
theorem z4b {σ:SS}{p f n:Nat}{nm:ByteArray}(h1:ci σ.cells p=(5,(f:Int))) (h2:σ.funs[f]?=some (nm,(n:Int))):arS σ (p:Int)=(σ.cells.drop (p+1)).take n:=by
 unfold arS;rw[h1,Zv,Zv,h2];simp
theorem z7m {σ:SS}{p f n:Nat}{nm:ByteArray}(h1:ci σ.cells p=(5,(f:Int))) (h2:σ.funs[f]?=some (nm,(n:Int))):funS σ (p:Int)=(nm,(n:Int)):=by
 unfold funS;rw[h1,Zv,h2];rfl
theorem z99 {σ:SS}{p n i:Nat}(h:p+1+n<=σ.cells.length) (hi:i < n):((σ.cells.drop (p+1)).take n)[i]?=some (ci σ.cells ((p+1+i:Nat):Int)):=by
 rw[ZJ,if_pos hi,List.getElem?_drop,z35 (by omega)]
theorem z2p {σ:SS}{p n:Nat}(h:p+1+n<=σ.cells.length):((σ.cells.drop (p+1)).take n).length=n:=by rw[ZH,List.length_drop];omega
inductive Val (σ:SS) (ν:Int->Tm):Int × Int->Tm->Prop
 |var (a:Nat) (v:Int):a < σ.cells.length->ci σ.cells a=(1,v)->Val σ ν (2,(a:Int)) (ν v)
 |go (a:Nat) (t:Tm):a < σ.cells.length->(ci σ.cells a).1≠1->Val σ ν (ci σ.cells a) t->Val σ ν (2,(a:Int)) t
 |con (j:Nat) (t:Tm):σ.consts[j]?=some t->Val σ ν (3,(j:Int)) t
 |str (p f:Nat) (nm:ByteArray) (l:List Tm):ci σ.cells p=(5,(f:Int))->σ.funs[f]?=some (nm,(l.length:Int))->p+1+l.length<=σ.cells.length->(∀(i:Nat) (u:Tm),l[i]?=some u->Val σ ν (ci σ.cells ((p+1+i:Nat):Int)) u)->Val σ ν (4,(p:Int)) (.mk 5 nm e0 0 0 l)
theorem Val.dr {σ:SS}{ν:Int->Tm}{m:Nat}{c d:Int × Int}(hd:Der σ.cells m c d) {t:Tm}(h:Val σ ν c t):Val σ ν d t:=by
 induction hd with
 |stop k=>exact h
 |var=>exact h
 |go k1 k2 k3 k4 _ ih =>
  cases h with
  |var a v h1 h2=>exact absurd (show (ci σ.cells (a:Int)).1=1 by rw[h2]) k4
  |go a t h1 h2 h3=>exact ih h3
  |con j=>exact absurd k1 (by simp)
  |str p=>exact absurd k1 (by simp)
theorem z4r {σ:SS}{ν:Int->Tm}{p f n:Nat}{nm:ByteArray}{t:Tm}(h1:ci σ.cells p=(5,(f:Int))) (h2:σ.funs[f]?=some (nm,(n:Int))) (h:Val σ ν (4,(p:Int)) t) :
  ∃l:List Tm,t=.mk 5 nm e0 0 0 l/\l.length=n/\p+1+l.length<=σ.cells.length/\∀(i:Nat) (u:Tm),l[i]?=some u->Val σ ν (ci σ.cells ((p+1+i:Nat):Int)) u:=by
 cases h with
 |str _ f' nm' l k1 k2 k3 k4 =>
  rw[h1] at k1;have e:f'=f:=by have:=congrArg Prod.snd k1;simp only at this;omega
  subst e;rw[h2] at k2;obtain⟨rfl,e2⟩:=Prod.mk.inj (Option.some.inj k2);exact⟨l,rfl,by omega,k3,k4⟩
theorem Val.det {σ:SS}{ν:Int->Tm}{c:Int × Int}{t:Tm}(h:Val σ ν c t):∀{t':Tm},Val σ ν c t'->t=t':=by
 induction h with
 |var a v h1 h2 =>
  intro t' k;cases k with
  |var _ v' k1 k2=>rw[h2] at k2;have:=congrArg Prod.snd k2;simp only at this;rw[this]
  |go _ _ k1 k2 k3=>exact absurd (by rw[h2]) k2
 |go a t h1 h2 h3 ih =>
  intro t' k;cases k with
  |var _ v' k1 k2=>exact absurd (by rw[k2]) h2
  |go _ _ k1 k2 k3=>exact ih k3
 |con j t h1 =>
  intro t' k;cases k with
  |con _ _ k1=>rw[h1] at k1;exact Option.some.inj k1
 |str p f nm l h1 h2 h3 h4 ih =>
  intro t' k;obtain⟨l',rfl,k2,k3,k4⟩:=z4r h1 h2 k;have:l=l':=List.ext_getElem? fun i=>by
   by_cases hi:i < l.length
   ·have hi':i < l'.length:=by omega
    rw[Zc hi,Zc hi'];rw[ih i _ (Zc hi) (k4 i _ (Zc hi'))]
   ·rw[ZM (by omega),ZM (by omega)]
  rw[this]
theorem zmi {l:List Tm}{u:Tm}{k v:Int}{b:Int}{nm s:ByteArray}(h:u∈l):SizeOf.sizeOf u < SizeOf.sizeOf (Tm.mk k nm s b v l):=by
 have:=List.sizeOf_lt_of_mem h;simp only[Tm.mk.sizeOf_spec];omega
theorem Val.bind {σ τ:SS}{ν:Int->Tm}{k:Nat}{v:Int}{d:Int × Int}{t0:Tm}(hk:k < σ.cells.length) (hc:ci σ.cells k=(1,v)) (hd:Val σ ν d t0) (ht:t0=ν v) (h2:d.1=2->∃b:Nat,d=(2,(b:Int))/\b≠k/\∃w,ci σ.cells b=(1,w)) (h1:d.1≠1) (hτ:τ.cells=σ.cells.set k d) (hco:τ.consts=σ.consts) (hfu:τ.funs=σ.funs) :
  ∀(m:Nat) {c:Int × Int}{t:Tm},SizeOf.sizeOf t < m->Val σ ν c t->Val τ ν c t
 |0,_,_,h,_=>by omega
 |m+1,c,t,hm,h=>by
  have ih:∀{c:Int × Int}{t:Tm},SizeOf.sizeOf t < m->Val σ ν c t->Val τ ν c t:=fun h3 h4=>Val.bind hk hc hd ht h2 h1 hτ hco hfu m h3 h4
  have hlen:τ.cells.length=σ.cells.length:=by rw[hτ,Zy]
  have hci:∀n:Nat,ci τ.cells n=if n=k then d else ci σ.cells n:=fun n=>by rw[hτ,z57 hk]
  have hstr:∀(p f:Nat) (nm:ByteArray) (l:List Tm),SizeOf.sizeOf (Tm.mk 5 nm e0 0 0 l) < m+1->ci σ.cells p=(5,(f:Int))->σ.funs[f]?=some (nm,(l.length:Int))->p+1+l.length<=σ.cells.length->(∀(i:Nat) (u:Tm),l[i]?=some u->Val σ ν (ci σ.cells ((p+1+i:Nat):Int)) u)->Val τ ν (4,(p:Int)) (.mk 5 nm e0 0 0 l):=fun p f nm l hs k1 k2 k3 k4=>by
   have hpk:p≠k:=fun e=>by rw[e,hc] at k1;cases k1
   refine .str p f nm l (by rw[hci,if_neg hpk];exact k1) (by rw[hfu];exact k2) (by rw[hlen];exact k3) fun i u hu=>?_
   have hlt:=zmi (k:=5) (v:=0) (b:=0) (nm:=nm) (s:=e0) (ZG hu);have hi:=(List.getElem?_eq_some_iff.1 hu).1;have:=ih (show SizeOf.sizeOf u < m by omega) (k4 i u hu);rw[hci];by_cases e:p+1+i=k
   ·rw[if_pos e];have q:=k4 i u hu;rw[e,hc] at q;cases q
   ·rw[if_neg e];exact this
  have hdv:SizeOf.sizeOf t0 < m+1->Val τ ν d t0:=fun hs=>by
   cases hd with
   |var a v' k1 k2 =>
    obtain⟨b,eb,hbk,w,hw⟩:=h2 rfl;have:b=a:=by have:=congrArg Prod.snd eb;simp only at this;omega
    subst this;exact .var b v' (by rw[hlen];exact k1) (by rw[hci,if_neg hbk];exact k2)
   |go a _ k1 k2 k3 =>
    obtain⟨b,eb,hbk,w,hw⟩:=h2 rfl;have:b=a:=by have:=congrArg Prod.snd eb;simp only at this;omega
    subst this;exact absurd (by rw[hw]) k2
   |con j _ k1=>exact .con j _ (by rw[hco];exact k1)
   |str p f nm l k1 k2 k3 k4=>exact hstr p f nm l hs k1 k2 k3 k4
  clear hd
  induction h with
  |var a v' k1 k2 =>
   by_cases e:a=k
   ·subst e;rw[hc] at k2;have ev:v=v':=by have:=congrArg Prod.snd k2;exact this
    subst ev;rw[<-ht] at hm ⊢;refine .go a _ (by rw[hlen];exact k1) (by rw[hci,if_pos rfl];exact h1) ?_;rw[hci,if_pos rfl];exact hdv hm
   ·exact .var a v' (by rw[hlen];exact k1) (by rw[hci,if_neg e];exact k2)
  |go a t k1 k2 k3 ih2 =>
   have e:a≠k:=fun e=>by rw[e,hc] at k2;exact k2 rfl
   exact .go a _ (by rw[hlen];exact k1) (by rw[hci,if_neg e];exact k2) (by rw[hci,if_neg e];exact ih2 hm)
  |con j t k1=>exact .con j _ (by rw[hco];exact k1)
  |str p f nm l k1 k2 k3 k4 _=>exact hstr p f nm l hm k1 k2 k3 k4
end Go.Proofs.hq
end

section
namespace Go.Proofs.hq
open Go Go.RowKit Go.Hb
variable {ok:Ok}
set_option maxRecDepth 10000
attribute [local irreducible] LX LG EL STG SOP SGO SGD SAL SRD SEF SEG SLK SCK ES
theorem zmj {c d:Int × Int}:(c.1 == d.1 && c.2 == d.2)=decide (c=d):=by
 obtain⟨a,b⟩:=c;obtain⟨a',b'⟩:=d;by_cases h1:a=a'<;>by_cases h2:b=b'<;>simp [h1,h2]
theorem zoo {H:Heap}{x y:Operand}{c d:Int × Int}:dBin Tryz.prog .eql 42 x y (.agg ⟨[.int .i64 c.1,.int .i64 c.2]⟩) (.agg ⟨[.int .i64 d.1,.int .i64 d.2]⟩) H=some (.val (.bool (decide (c=d))) H):=by
 rw[zf4,zmj]
theorem _root_.Go.Hb.RepO.pushF {P:Program}{t e:TypeId}{w B:Nat}{L:List (List Value)}{v:Value}{H:Heap}(h:RepO H e w B L v) (hw:H.wf) (hp:apOk P t e w) {y:List Value}{p:Nat}(hl:H.load ⟨p,0,none⟩ w=some y) (hy:y.length=w) (ha:y.all one=true) (hm:L.length+1<=most) (hB:B<=H.next) :
  ∃H2 v2,dAp P #[t,t] v (.slice (some ⟨p,0,none⟩) 1 1) H=some (.val v2 H2)/\RepO H2 e w B (L++[y]) v2/\H2.next=H.next+1/\H2.wf/\blkOf v2=some H.next/\(∀n,n < H.next->blkOf v≠some n->H2.get n=H.get n)/\∀A,HX A H->A.next<=B->HX A H2:=by
 obtain⟨H2,c,e1,o,n1,w1,k1,-⟩:=FR.push (c1:=1) (show FR H B (.sl e w L) v from h) hw hp (y:=y) (ad:=⟨p,0,none⟩) (by rw[Nat.one_mul];exact hl) hy ha hm hB;refine⟨H2,_,e1,.inr ⟨_,c,o,by simp⟩,n1,w1,rfl,k1,fun A hx hA=>⟨by have:=hx.next;omega,fun i hi=>?_,w1⟩⟩;have:=hx.next;rw[k1 i (by omega) fun q=>by have:=(FR.lo (show FR H B (.sl e w L) v from h) q).1;omega];exact hx.keep i hi
set_option maxHeartbeats 8000000 in
theorem zmk {H:Heap}{B s:Nat}{σ:SS}{v c:Int × Int}(h:UOk σ) (hs:St H B s σ) (hw:H.wf) (hc:mayS σ c=true) :
  EvF Tryz.prog okT 149 [.pointer (some ⟨s,0,none⟩),.agg ⟨two v⟩,.agg ⟨two c⟩] H fun r H'=>r=.tuple ⟨[.bool (standsF σ v 20000 [c]).1,.int .i64 (standsF σ v 20000 [c]).2]⟩/\HX H H':=by
 have ho:=h.wf.lo;have hT:=h.tok;refine EvF.enter rfl Tryz.func149 (by decide) rfl ?_;(repeat refine qZa ?_);refine qZb ?_;simp (disch:=first|omega|rfl) only[sB,initTm,dBox,Za,Zb,Value.cells,one,reduceCtorEq];obtain⟨H1,e1,hx1,g1,g2,n1,w1⟩:=new2 hw (.row [.int .i64 v.1,.int .i64 v.2] 42) (.row [.int .i64 c.1,.int .i64 c.2] 42);simp only[e1];have q1:=z0l g1;have q2:=z0l g2;obtain⟨H2,e2,hx2,g3,n2,w2⟩:=new1 w1 (.row [.int .i64 c.1,.int .i64 c.2] 42)
 repeat' (first|refine qZa ?_|refine qZg ?_|(refine qZb ?_;simp (disch:=first|omega|rfl) only[sB,Za,Zb,Value.cells,one,reduceCtorEq,layC,ld42,zks,q2,e2]))
 have ro2:RepO H2 42 2 H1.next ([c].map two) (.slice (some ⟨H1.next,0,none⟩) 1 1):=.inr ⟨H1.next,1,by rw[<-e2];exact OwnS.first (y:=two c) rfl rfl (Ze _),rfl⟩;refine qZk (fun k st=>∃(tm:Tr Value) (G:Heap) (n:Nat) (u:Value) (L:List (Int × Int)),st=⟨tm,[],G⟩/\k=20001 - n/\1<=n/\n<=20001/\tm.get 0=some (.pointer (some ⟨s,0,none⟩))/\tm.get 4=some (.pointer (some ⟨H.next,0,none⟩))/\tm.get 8=some u/\tm.get 9=some (.int .i64 (n:Nat)) /\
   RepO G 42 2 H1.next (L.map two) u/\L.length<=64*n/\(∀d∈L,mayS σ d=true)/\standsF σ v (20001 - n) L.reverse=standsF σ v 20000 [c]/\HX H1 G) ?_ 20000 _ ?_
 rotate_left
 ·exact⟨_,_,1,_,[c],rfl,rfl,Ze _,by omega,(by simp only[sG,reduceCtorEq]),(by simp only[sG,Za,reduceCtorEq]),(by simp only[sG,Za,reduceCtorEq]),(by simp only[sB,Za,reduceCtorEq];rfl),ro2,by simp,fun d hd=>by rw[Zx] at hd;rw[hd];exact hc,rfl,hx2⟩
 rintro k st ⟨tm,G,n,u,L,rfl,rfl,hn1,hn2,t0,t4,t8,t9,hro,hll,hmay,hst,hxG⟩;obtain⟨a,c',rfl,hlc,hcm⟩:=hro.slice;rw[Zp] at t8 hlc hro;have wG:=hxG.wf;have hxHG:=hx1.trans hxG;have hsG:=hs.keep hw hxHG;have hml:maxLen=9223372036854775807:=rfl;by_cases h0:L.length=0
 ·have d0:decide ((L.length:Int) > 0)=false:=decide_eq_false (by omega);have hL:L=[]:=List.length_eq_zero_iff.1 h0
  repeat' (first|refine qZa ?_|(refine qZi ?_;try simp only[sB])|(refine qZf ?_)|(refine qZb ?_;simp only[sB,Za,ln27,t8,d0])|(refine qZm ?_ ?_;simp only[sB,Za];refine z01 ?_))
  rw[hL,List.reverse_nil,zfj] at hst;exact z0j rfl (by simp only[sB,Za];rfl) (by simp only[sB,Za];rfl) ⟨by rw[<-hst],hxHG⟩
 have d0:decide ((L.length:Int) > 0)=true:=decide_eq_true (by omega);obtain⟨L',p,rfl⟩:∃L' p,L=L'++[p]:=⟨L.dropLast,L.getLast (fun h=>h0 (by rw[h];rfl)),(List.dropLast_concat_getLast _).symm⟩
 rw[List.reverse_append,List.reverse_singleton,List.singleton_append] at hst;by_cases hbig:n=20001
 ·subst hbig;have d1:decide (((20001:Nat):Int) > 20000)=true:=by decide
  rw[Nat.sub_self,standsF] at hst
  repeat' (first|refine qZa ?_|refine qZg ?_|(refine qZe ?_;try simp only[z00])|(refine qZf ?_;try simp only[z04,z02])|(refine qZb ?_;simp only[sB,Za,ln27,t8,t9,d0,d1])|(refine qZd ?_ ?_;simp only[sB,Za];refine z01 ?_))
  exact z0j rfl (by simp only[sB,Za];rfl) (by simp only[sB,Za];rfl) ⟨by rw[<-hst],hxHG⟩
 have d1:decide ((n:Int) > 20000)=false:=decide_eq_false (by omega);have hp:mayS σ p=true:=hmay p (by simp);obtain⟨b,cc,how,hv⟩:=hro.own (by simp);have ldp:=how.load (i:=L'.length) (x:=two p) (by simp);simp only[Zp,Zm,ZN] at hv t8 hlc;obtain⟨rfl,rfl⟩:a=some ⟨b,0,none⟩/\c'=cc:=by injection hv with h1 h2 h3;exact⟨h1,h3⟩
 have ew:IntKind.i64.wrap (((L'.length+1:Nat):Int) - 1)=(L'.length:Int):=by rw[z05]<;>omega
 have hlt1:L'.length < L'.length+1:=Zf _;have d0':decide (((L'.length+1:Nat):Int) > 0)=true:=decide_eq_true (by omega);(repeat refine qZa ?_);refine qZb ?_;simp only[sB,Za,ln27,t8,d0'];refine qZd (by simp only[sB,Za]) ?_;(try refine qZe ?_);(try simp only[z00,z0b]);(repeat refine qZa ?_);refine qZg ?_;(repeat refine qZa ?_);refine qZb ?_;simp only[sB,Za,t9,d1];refine qZm (by simp only[sB,Za]) ?_;(try refine qZe ?_);(try simp only[z00,z0b]);(repeat refine qZa ?_);refine qZb ?_;simp (disch:=first|omega|rfl) only[sB,Za,reduceCtorEq,ld42,ln27,ia27,cl64,t0,t8,ew,ldp];refine(z3v hsG wG ho (fun _=>h.wf.der _ hp)).mono ?_;rintro r G2 ⟨d,e,rfl,hde,hy2⟩;rw[if_pos hp] at hde;obtain⟨rfl,m1,hd1⟩:=hde;obtain⟨-,hdm,hsh⟩:=h.sh hp;rw[z4f hd1] at hdm hsh;have v2:=hy2.wf;obtain⟨G3,f3,hy3,k3,m3,v3⟩:=z0o v2 (.row [.int .i64 0,.int .i64 0] 42) (.row [.int .i64 d.1,.int .i64 d.2] 42);have hyG:=hy2.trans hy3;have sl1:=z55 (P:=Tryz.prog) (H:=G3) (t:=27) (e:=42) (s:=2) (a:=some ⟨b,0,none⟩) (n:=L'.length+1) (c:=c') (m:=L'.length) (k:=.i64) sl27 (by omega);have q3:=z0l k3
 have qv:=z0l ((hxG.trans hyG).get w1 g1);have hk:20001 - n=(20000 - n)+1:=by omega
 rw[hk,standsF,z4f hd1] at hst;have roL:RepO G3 42 2 H1.next (L'.map two) (.slice (some ⟨b,0,none⟩) L'.length c'):=by
  have:=RepO.takeO (how.keep hyG) L'.length (by simp)
  rwa [ZK,List.take_left' (by simp)] at this
 have hx3:=hxHG.trans hyG;have en1:IntKind.i64.wrap ((n:Int)+1)=((n+1:Nat):Int):=by rw[z05]<;>omega
 (try simp (disch:=first|omega|rfl) only[sB,dAlloc,Za,Zb,one,zr42,st42,f3]);(repeat refine qZa ?_);refine qZb ?_;simp only[sB,Za,ln27,t8,ew,sl1]
 (repeat refine qZa ?_);refine qZb ?_;simp only[sB,Za,ld42,t4,q3,qv,zoo];by_cases hdv:d=v
 ·rw[if_pos hdv] at hst;have dd:decide (d=v)=true:=decide_eq_true hdv;refine qZd (by simp only[sB,Za,dd]) ?_;(try refine qZe ?_);(try simp only[z00,z0b])
  repeat' (first|refine qZa ?_|(refine qZf ?_;try simp only[z04,z02])|(refine qZb ?_;simp only[sA]))
  exact z0j rfl (by simp only[sB,Za];rfl) (by simp only[sB,Za];rfl) ⟨by rw[<-hst],hx3⟩
 rw[if_neg hdv] at hst;have dd:decide (d=v)=false:=decide_eq_false hdv;refine qZm (by simp only[sB,Za,dd]) ?_;(try refine qZe ?_);(try simp only[z00,z0b]);refine EvC.frame (fun tm=>tm.get 0=some (.pointer (some ⟨s,0,none⟩))/\tm.get 4=some (.pointer (some ⟨H.next,0,none⟩))/\tm.get 8=some (.slice (some ⟨b,0,none⟩) L'.length c')/\tm.get 9=some (.int .i64 (n:Nat))/\tm.get 10=some (.pointer (some ⟨G2.next,0,none⟩))) ⟨(by simp only[sG,reduceCtorEq,t0]),(by simp only[sG,Za,t4]),(by simp only[sG,Za]),(by simp only[sG,Za,t9]),(by simp only[sG,Za])⟩ ?_;clear t0 t4 t8 t9;rintro tm ⟨t0,t4,t8,t9,t10⟩;have hmay':∀d∈L',mayS σ d=true:=fun d hd=>hmay d (by simp [hd])
 have hll':L'.length<=64*n:=by simp at hll;omega
 by_cases h4:d.1=4;rotate_left
 ·rw[if_neg h4,List.nil_append] at hst
  repeat' (first|refine qZa ?_|(refine qZi ?_;try simp only[sB,reduceCtorEq])|(refine qZb ?_;simp only[sB,Za,z0w,ld3,t10,q3,z29 h4])|(refine qZd ?_ ?_;simp only[sB,Za];refine z01 ?_))
  repeat' (first|(refine z0f ?_;simp only[sB,Za,t9,en1]))
  exact⟨_,by omega,_,_,n+1,_,L',rfl,rfl,by omega,by omega,(by simp only[sG,reduceCtorEq,t0]),(by simp only[sG,Za,t4]),(by simp only[sG,Za,t8]),(by simp only[sG,Za]),roL,by omega,hmay',by rw[show 20001 - (n+1)=20000 - n by omega];exact hst,hxG.trans hyG⟩
 rw[if_pos h4] at hst;cases hsh with
 |var=>exact absurd h4 (by simp)
 |con=>exact absurd h4 (by simp)
 |str p' f nm ar p1 p2 p3 p4 p5 p6 p7 =>
  rw[z4b p2 p3] at hst
  repeat' (first|refine qZa ?_|(refine qZe ?_;try simp only[z00])|(refine qZb ?_;simp only[sB,Za,reduceCtorEq,ld42,z0w,ld3,cl67,t10,q3,z13 rfl,t0])|(refine qZm ?_ ?_;simp only[sB,Za];refine z01 ?_))
  refine(zbl ((hsG.keep wG hy2).keep v2 hy3) v3 ho hdm p4 p5 p2 p3 p6 p1).mono ?_;rintro r G4 ⟨hy4,qa,rfl,ga,hqa⟩;have v4:=hy4.wf;obtain⟨G5,f5,hy5,k5,m5,v5⟩:=z0o v4 (.row (keyC (Zh,0)) 116) (.row (keyC (nm,(ar:Int))) 116);(try simp (disch:=first|omega|rfl) only[sB,dAlloc,Za,Zb,one,zik,zil,f5]);have ew2:IntKind.i64.wrap ((ar:Int) - 1)=(ar:Int) - 1:=by rw[z05]<;>omega
  (repeat refine qZa ?_);refine qZb ?_;simp only[sB,Za,ln27,ew2];have hy45:=hy4.trans hy5;have ga5:=hy5.get v4 ga;have ro5:=roL.keep hy45;have hx5:=(hxG.trans hyG).trans hy45;have hbq:b≠qa:=by have:=how.hi;have:=hyG.next;omega
  generalize hA:(σ.cells.drop (p'+1)).take ar=A at hst ga5 ga;have hAl:A.length=ar:=by rw[<-hA];exact z2p p6
  have hAm:∀d∈A,mayS σ d=true:=fun d hd=>by
   rw[<-hA] at hd;obtain⟨i,hi,rfl⟩:=List.getElem_of_mem hd;have hin:i < ar:=by rw[z2p p6] at hi;exact hi
   have e:=z99 p6 hin;rw[Zc hi] at e;rw[Option.some.inj e];exact p7 i hin
  refine EvC.frame (fun tm=>tm.get 0=some (.pointer (some ⟨s,0,none⟩))/\tm.get 4=some (.pointer (some ⟨H.next,0,none⟩))/\tm.get 8=some (.slice (some ⟨b,0,none⟩) L'.length c')/\tm.get 9=some (.int .i64 (n:Nat))/\tm.get 13=some (.slice (some ⟨qa,0,none⟩) ar ar)/\tm.get 15=some (.int .i64 ((ar:Int) - 1))) ⟨(by simp only[sG,reduceCtorEq,t0]),(by simp only[sG,Za,t4]),(by simp only[sG,Za,t8]),(by simp only[sG,Za,t9]),(by simp only[sG,Za]),(by simp only[sG,Za])⟩ ?_;clear t0 t4 t8 t9 t10;rintro tm ⟨t0,t4,t8,t9,t13,t15⟩;(repeat refine qZa ?_);refine EvC.join (fun st=>∃(tm:Tr Value) (K:Heap) (u:Value),st=⟨tm,[],K⟩/\tm.get 0=some (.pointer (some ⟨s,0,none⟩))/\tm.get 4=some (.pointer (some ⟨H.next,0,none⟩))/\tm.get 8=some u/\tm.get 9=some (.int .i64 (n:Nat))/\RepO K 42 2 H1.next ((L'++A.reverse).map two) u/\HX H1 K) ?_ ?_
  ·refine qZg (qZk (fun k' st=>∃(tm:Tr Value) (K:Heap) (i:Nat) (u:Value),st=⟨tm,[],K⟩/\k'=i/\i<=ar/\tm.get 0=some (.pointer (some ⟨s,0,none⟩))/\tm.get 4=some (.pointer (some ⟨H.next,0,none⟩))/\tm.get 8=some u/\tm.get 9=some (.int .i64 (n:Nat))/\tm.get 13=some (.slice (some ⟨qa,0,none⟩) ar ar)/\tm.get 15=some (.int .i64 ((i:Int) - 1)) /\
    RepO K 42 2 H1.next ((L'++(A.drop i).reverse).map two) u/\K.get qa=some (.row (A.map two).flatten 42)/\blkOf u≠some qa/\HX H1 K) ?_ ar _ ?_)
   rotate_left
   ·exact⟨_,_,ar,_,rfl,rfl,Ze _,(by simp only[t0]),(by simp only[t4]),(by simp only[Option.some.injEq,t8];rfl),(by simp only[t9]),(by simp only[t13]),(by simp only[t15]),by rw[List.drop_eq_nil_of_le (by omega)];simpa using ro5,ga5,fun q=>hbq (by injection q),hx5⟩
   clear t0 t4 t8 t9 t13 t15;rintro i st ⟨tm,K,i',u,rfl,rfl,hi,t0,t4,t8,t9,t13,t15,hro,gqa,hbu,hxK⟩;have wK:=hxK.wf;by_cases hi0:i=0
   ·subst hi0;have d:decide ((((0:Nat):Int) - 1) >= 0)=false:=by decide
    repeat' (first|refine qZa ?_|(refine qZi ?_;try simp only[sB,Za,reduceCtorEq])|(refine qZb ?_;simp only[sB,t15,d])|(refine qZm ?_ ?_;simp only[sB,Za];refine z01 ?_))
    exact⟨_,_,u,rfl,(by simp only[sG,reduceCtorEq,t0]),(by simp only[sG,Za,t4]),(by simp only[sG,Za,t8]),(by simp only[sG,Za,t9]),hro,hxK⟩
   ·obtain⟨j,rfl⟩:∃j,i=j+1:=⟨i - 1,by omega⟩
    have ej:((j+1:Nat):Int) - 1=(j:Int):=by omega
    rw[ej] at t15;have d:decide ((j:Int) >= 0)=true:=decide_eq_true (by omega);have hja:j < ar:=by omega
    have hjA:j < A.length:=by omega
    have hdr:A.drop j=A[j] :: A.drop (j+1):=ZB hjA;have lda:=zmf wK gqa (by rw[hAl];omega) (Zc hjA);generalize A[j]=w at *;obtain⟨K1,g1',hk1,gK1,nK1,wK1⟩:=new1 wK (.row [.int .i64 w.1,.int .i64 w.2] 42);have ldK:K1.load ⟨K.next,0,none⟩ 2=some (two w):=by simp only[Heap.load,Heap.cells,gK1];rfl
    have hxK1:=hxK.trans hk1;obtain⟨K2,v2',e2',hro2,n2',wK2,hb2,hkg,hkA⟩:=(hro.keep hk1).pushF wK1 (P:=Tryz.prog) ap27 ldK rfl rfl (by rw[Zp,Zm,List.length_reverse,List.length_drop];unfold most;omega) hxK1.next;have ew3:IntKind.i64.wrap ((j:Int) - 1)=(j:Int) - 1:=by rw[z05]<;>omega
    repeat' (first|refine qZa ?_|refine qZg ?_|(refine qZe ?_;try simp only[z00])|(refine qZb ?_;simp (disch:=first|omega|rfl) only[sB,Za,Zb,Value.cells,one,layC,ld42,zks,ia27,t15,d,t8,t13,lda,g1',e2',ew3])|(refine qZd ?_ ?_;simp only[sB,Za];refine z01 ?_))
    have hro3:RepO K2 42 2 H1.next ((L'++(A.drop j).reverse).map two) v2':=by
     rw[hdr,List.reverse_cons,<-ZF,ZK];exact hro2
    have hq1:=hk1.get wK gqa;have hqlt:=wK1 _ _ hq1;exact⟨j,by omega,_,K2,j,v2',rfl,rfl,by omega,(by simp only[sG,reduceCtorEq,t0]),(by simp only[sG,Za,t4]),(by simp only[sG,Za]),(by simp only[sG,Za,t9]),(by simp only[sG,Za,t13]),(by simp only[sG,Za]),hro3,(hkg qa hqlt hbu).trans hq1,by rw[hb2];intro q;have:=Option.some.inj q;omega,hkA H1 hxK1 (Ze _)⟩
  ·rintro st ⟨tm,K,u,rfl,t0,t4,t8,t9,hro,hxK⟩;try simp only[z00]
   repeat' (first|(refine qZb ?_;simp only[sB,Za,t9,en1]))
   exact⟨_,by omega,_,K,n+1,u,L'++A.reverse,rfl,rfl,by omega,by omega,(by simp only[sG,reduceCtorEq,t0]),(by simp only[sG,Za,t4]),(by simp only[sG,Za,t8]),(by simp only[sG,Za]),hro,by rw[Zm,List.length_reverse];omega,fun d hd=>by
    rcases List.mem_append.1 hd with q|q
    ·exact hmay' d q
    ·exact hAm d (List.mem_reverse.1 q),by rw[show 20001 - (n+1)=20000 - n by omega,List.reverse_append,List.reverse_reverse];exact hst,hxK⟩
theorem UOk.varb {σ:SS}(h:UOk σ):VarB σ:=fun n hn=>by
 obtain⟨k,h1,h2,-⟩:=h.wf.var n hn;rw[h1];omega
theorem zsc {H:Heap}{x y:Operand}{a b n m:Int}:dBin Tryz.prog .neq 42 x y (.agg ⟨[.int .i64 a,.int .i64 n]⟩) (.agg ⟨[.int .i64 b,.int .i64 m]⟩) H=some (.val (.bool (!(a == b && n == m))) H):=by
 have g:(Tryz.prog.eqGuardType Tryz.prog.depth 42)=false:=by kernel_rfl
 simp only[dBin,dnil,flat,flatL,eqGuard,binOp];simp only[Bool.and_self,Zn,Zw,Zd,if_false,flat,z09,z3t,Zs,g,if_true,z1j,zh5]
theorem zvg {H:Heap}{x y:Operand}{c d:Int × Int}:dBin Tryz.prog .neq 42 x y (.agg ⟨[.int .i64 c.1,.int .i64 c.2]⟩) (.agg ⟨[.int .i64 d.1,.int .i64 d.2]⟩) H=some (.val (.bool (!decide (c=d))) H):=by
 rw[zsc,zmj]
theorem ztz {H:Heap}{x y:Operand}{k l:ByteArray × Int}:dBin Tryz.prog .neq 116 x y (.agg ⟨[.string k.1,.int .i64 k.2]⟩) (.agg ⟨[.string l.1,.int .i64 l.2]⟩) H=some (.val (.bool (!eqFun k l)) H):=by
 have g:(Tryz.prog.eqGuardType Tryz.prog.depth 116)=false:=by kernel_rfl
 have hk:pureRun Tryz.prog (Op.equal 116 (.agg ⟨[.string k.1,.int .i64 k.2]⟩) (.agg ⟨[.string l.1,.int .i64 l.2]⟩))=some (eqFun k l):=keyK.eq k l;simp only[dBin,dnil,flat,flatL,eqGuard,binOp];simp only[Bool.and_self,Zn,Zw,Zd,if_false,flat,z09,z3t,Zs,g,if_true,z1j,hk]
set_option maxHeartbeats 8000000 in
theorem zhm {H:Heap}{B s a w:Nat}{σ:SS}{c:Int × Int}{oc:Bool}(h:UOk σ) (hs:St H B s σ) (hw:H.wf) (ha:a < σ.cells.length) (hca:ci σ.cells a=(1,(w:Int))) (hc:mayS σ c=true) (htr:σ.trail.length+1<=most) :
  EvF Tryz.prog okT 120 [.pointer (some ⟨s,0,none⟩),.agg ⟨two (2,(a:Int))⟩,.agg ⟨two c⟩,.bool oc] H fun r H'=>r=.tuple ⟨[.bool (bindsS σ (2,(a:Int)) c oc).2.1,.int .i64 (bindsS σ (2,(a:Int)) c oc).2.2]⟩/\St H' B s (bindsS σ (2,(a:Int)) c oc).1/\SX s H H':=by
 have hs0:=hs.lt hw;have enum:numS σ (2,(a:Int))=w:=by unfold numS;rw[hca]
 refine EvF.enter rfl Tryz.func120 (by decide) rfl ?_;(repeat refine qZa ?_);refine qZb ?_;simp only[sB,initTm,dBox,Za,Zb,Value.cells,one,reduceCtorEq];obtain⟨H1,e1,hx1,g1,g2,n1,w1⟩:=new2 hw (.row [.int .i64 2,.int .i64 (a:Nat)] 42) (.row [.int .i64 c.1,.int .i64 c.2] 42);simp only[e1];clear e1;have q1:=z0l g1;have q2:=z0l g2;have hs1:=hs.keep hw hx1;have fin:∀(tm:Tr Value) (G:Heap),tm.get 0=some (.pointer (some ⟨s,0,none⟩))->tm.get 5=some (.pointer (some ⟨H.next,0,none⟩))->tm.get 6=some (.pointer (some ⟨H.next+1,0,none⟩))->HX H1 G->True:=fun _ _ _ _ _ _=>trivial
 clear fin;obtain⟨Z,hZ⟩:∃Z:Bool,Z=decide (oc=true/\c.1=4):=⟨_,rfl⟩
 (repeat refine qZa ?_);refine EvC.join (fun st=>∃tm,st=⟨tm,[],H1⟩/\tm.get 0=some (.pointer (some ⟨s,0,none⟩))/\tm.get 5=some (.pointer (some ⟨H.next,0,none⟩))/\tm.get 6=some (.pointer (some ⟨H.next+1,0,none⟩))/\tm.get 17=some (.bool Z)) ?_ ?_
 ·cases oc with
  |false =>
   have dz:Z=false:=by rw[hZ];simp
   repeat' (first|(refine qZb ?_;simp only[sB,Za,reduceCtorEq,Zd]))
   exact⟨_,rfl,(by simp only[sG,reduceCtorEq]),(by simp only[sG,Za,reduceCtorEq]),(by simp only[sG,Za,reduceCtorEq]),by rw[dz];first|(simp only[sG,Za,reduceCtorEq];rfl)|simp only[sG,Za,reduceCtorEq]⟩
  |true =>
   by_cases h4:c.1=4
   ·have dz:Z=true:=by rw[hZ];simp [h4]
    repeat' (first|(refine qZb ?_;simp only[sB,Za,reduceCtorEq,z0w,ld3,q2,z0v h4]))
    exact⟨_,rfl,(by simp only[sG,reduceCtorEq]),(by simp only[sG,Za,reduceCtorEq]),(by simp only[sG,Za,reduceCtorEq]),by rw[dz];first|(simp only[sG,Za,reduceCtorEq];rfl)|simp only[sG,Za,reduceCtorEq]⟩
   ·have dz:Z=false:=by rw[hZ];simp [h4]
    repeat' (first|(refine qZb ?_;simp only[sB,Za,reduceCtorEq,z0w,ld3,q2,z0h h4]))
    exact⟨_,rfl,(by simp only[sG,reduceCtorEq]),(by simp only[sG,Za,reduceCtorEq]),(by simp only[sG,Za,reduceCtorEq]),by rw[dz];first|(simp only[sG,Za,reduceCtorEq];rfl)|simp only[sG,Za,reduceCtorEq]⟩
 rintro st ⟨tm,rfl,t0,t5,t6,t17⟩;simp only[z00];(repeat refine qZa ?_);refine EvC.join (fun st=>∃tm G,st=⟨tm,[],G⟩/\tm.get 0=some (.pointer (some ⟨s,0,none⟩))/\tm.get 5=some (.pointer (some ⟨H.next,0,none⟩))/\tm.get 6=some (.pointer (some ⟨H.next+1,0,none⟩))/\HX H1 G/\¬(oc=true/\c.1=4/\standsF σ (2,(a:Int)) 20000 [c]≠(false,0))) ?_ ?_
 ·by_cases h4:oc=true/\c.1=4
  ·rw[hZ,decide_eq_true h4] at t17
   repeat' (first|refine qZa ?_|(refine qZb ?_;simp only[sB,Za,ld42,zuw,t0,t5,t6,q1,q2])|(refine qZd ?_ ?_;simp only[sA,t17];refine z01 ?_))
   refine(zmk (v:=(2,(a:Int))) h hs1 w1 hc).mono ?_;rintro r G ⟨rfl,hxG⟩;rcases z5o σ (2,(a:Int)) 20000 [c] with e|e|e
   ·rw[e];have eb:bindsS σ (2,(a:Int)) c oc=(σ,false,0):=by rw[bindsS,e,if_pos ⟨h4.1,h4.2,by simp⟩]
    repeat' (first|refine qZa ?_|(refine qZf ?_;try simp only[z04,z02])|(refine qZb ?_;simp only[sB,Za])|(refine z0f ?_;simp only[sB,Za])|(refine qZd ?_ ?_;simp only[sB,Za];refine z01 ?_))
    rw[eb];exact z0j rfl (by simp only[sG,Za]) (by simp only[sG,Za]) ⟨rfl,hs1.keep w1 hxG,(hx1.trans hxG).sx hs0⟩
   ·rw[e]
    repeat' (first|refine qZa ?_|(refine qZe ?_;try simp only[z00])|(refine qZb ?_;simp only[sB,Za,z13 rfl,Zd])|(refine z0f ?_;simp only[sB,Za])|(refine qZm ?_ ?_;simp only[sB,Za];refine z01 ?_))
    exact⟨_,G,rfl,(by simp only[sG,reduceCtorEq,t0]),(by simp only[sG,Za,t5]),(by simp only[sG,Za,t6]),hxG,fun q=>q.2.2 rfl⟩
   ·rw[e];have eb:bindsS σ (2,(a:Int)) c oc=(σ,false,140):=by rw[bindsS,e,if_pos ⟨h4.1,h4.2,by simp⟩]
    have d9:((140:Int) != 0)=true:=rfl
    repeat' (first|refine qZa ?_|(refine qZf ?_;try simp only[z04,z02])|(refine qZb ?_;simp only[sB,Za,d9,Zd])|(refine z0f ?_;simp only[sB,Za])|(refine qZd ?_ ?_;simp only[sB,Za];refine z01 ?_))
    rw[eb];exact z0j rfl (by simp only[sG,Za]) (by simp only[sG,Za]) ⟨rfl,hs1.keep w1 hxG,(hx1.trans hxG).sx hs0⟩
  ·rw[hZ,decide_eq_false h4] at t17
   repeat' (first|(refine qZe ?_;try simp only[z00])|(refine qZm ?_ ?_;simp only[sA,t17];refine z01 ?_))
   exact⟨_,H1,rfl,(by simp only[t0]),(by simp only[t5]),(by simp only[t6]),HX.refl w1,fun q=>h4 ⟨q.1,q.2.1⟩⟩
 clear t0 t5 t6 t17;rintro st ⟨tm,G,rfl,t0,t5,t6,hxG,hno⟩;simp only[z00];have eb:bindsS σ (2,(a:Int)) c oc=((bindS σ w c).1,true,(bindS σ w c).2):=by rw[bindsS,if_neg hno,enum]
 have wG:=hxG.wf;obtain⟨G1,e1,hy1,wG1⟩:=z3g wG 8;have q1':=z0l (hy1.get wG (hxG.get w1 g1));have q2g:=hy1.get wG (hxG.get w1 g2);have q2':=z0l q2g;have hs2:=(hs1.keep w1 hxG).keep wG hy1
 repeat' (first|refine qZa ?_|(refine qZj [([(1,0),(2,0)],some 3),([(0,0),(4,0)],some 5),([(6,2),(7,2)],none)] ?_ ?_;kernel_rfl;simp only[sD,sB,Za,Zb,reduceCtorEq,ld42,zqo,t0,t5,e1,q1',isAlloc,isRead]))
 refine(z97 hs2 wG1 ha hca).mono ?_;rintro r G2 ⟨rfl,hy2⟩;have q2'':=z0l (hy2.get wG1 q2g)
 repeat' (first|(refine z0p ?_;simp only[sV,sD,sB,Za,reduceCtorEq,ld42,cl32,t0,t6,q2',q2'',isAlloc,isRead]))
 refine(zrp (hs2.keep wG1 hy2) hy2.wf h.varb h.wf.lo (fun _=>h.wf.der _ hc) htr).mono ?_;rintro r G3 ⟨rfl,hs3,hx3⟩
 repeat' (first|(refine qZf ?_)|(refine z0p ?_;simp only[sD,sB,Za,Zb,isAlloc,isRead]))
 rw[eb];exact z0j rfl (by simp only[sG,Za]) (by simp only[sG,Za]) ⟨rfl,hs3,(((hx1.trans hxG).trans (hy1.trans hy2)).sx hs0).trans hx3⟩
theorem bNeB {H:Heap}{x y:Operand}{a b:Bool}:dBin Tryz.prog .neq 4 x y (.bool a) (.bool b) H=some (.val (.bool (a != b)) H):=by
 cases a<;>cases b<;>kernel_rfl
theorem ShU.ref {σ:SS}{d:Int × Int}(h:ShU σ d) (h2:d.1=2):∃a w:Nat,d=(2,(a:Int))/\a < σ.cells.length/\ci σ.cells a=(1,(w:Int)):=by
 cases h with
 |var a v h1 h3=>exact⟨a,v,rfl,h1,h3⟩
 |con=>exact absurd h2 (by simp)
 |str=>exact absurd h2 (by simp)
abbrev pairZ:List Value:=[.int .i64 0,.int .i64 0,.int .i64 0,.int .i64 0]
set_option maxHeartbeats 16000000 in
theorem zop {H:Heap}{B s:Nat}{σ:SS}{a b:Int × Int}{oc:Bool}(h:UOk σ) (hs:St H B s σ) (hw:H.wf) (ha:mayS σ a=true) (hb:mayS σ b=true) (htr:σ.trail.length+1<=most) :
  EvF Tryz.prog okT 89 [.pointer (some ⟨s,0,none⟩),.agg ⟨two a⟩,.agg ⟨two b⟩,.bool oc] H fun r H'=>∃v,r=.tuple ⟨[v,.bool (meetsS σ a b oc).2.2.1,.int .i64 (meetsS σ a b oc).2.2.2]⟩/\St H' B s (meetsS σ a b oc).1/\SX s H H' /\
   RepO H' 110 4 H.next ((meetsS σ a b oc).2.1.map four) v/\∀n,blkOf v=some n->¬Mut H' s n:=by
 have hs0:=hs.lt hw;have ho:=h.wf.lo;refine EvF.enter rfl Tryz.func89 (by decide) rfl ?_;(repeat refine qZa ?_);refine qZb ?_;simp (disch:=first|omega|rfl) only[sB,initTm,dBox,Za,Zb,Value.cells,one,reduceCtorEq];obtain⟨H1,e1,hx1,g1,g2,n1,w1⟩:=new2 hw (.row [.int .i64 a.1,.int .i64 a.2] 42) (.row [.int .i64 b.1,.int .i64 b.2] 42);simp only[e1];clear e1;have q1:=z0l g1;have hs1:=hs.keep hw hx1
 repeat' (first|refine qZa ?_|(refine qZb ?_;simp only[sB,Za,reduceCtorEq,ld42,cl64,q1]))
 refine(z3v hs1 w1 ho (fun _=>h.wf.der _ ha)).mono ?_;rintro r H2 ⟨x,e,rfl,hde,hx2⟩;rw[if_pos ha] at hde;obtain⟨rfl,m1,hd1⟩:=hde;obtain⟨-,hxm,hxs⟩:=h.sh ha;rw[z4f hd1] at hxm hxs;obtain⟨H3,e3,hx3,g3,n3,w3⟩:=z0o hx2.wf (.row [.int .i64 0,.int .i64 0] 42) (.row [.int .i64 x.1,.int .i64 x.2] 42);have q2:=z0l (hx3.get hx2.wf (hx2.get w1 g2))
 repeat' (first|refine qZa ?_|(refine qZb ?_;simp only[sB,Za,reduceCtorEq,ld42,cl64,q2])|(refine z0f ?_;simp (disch:=first|omega|rfl) only[sB,dAlloc,Za,Zb,one,reduceCtorEq,zr42,st42,e3]))
 refine(z3v ((hs1.keep w1 hx2).keep hx2.wf hx3) w3 ho (fun _=>h.wf.der _ hb)).mono ?_;rintro r H4 ⟨y,e,rfl,hde,hx4⟩;rw[if_pos hb] at hde;obtain⟨rfl,m2,hd2⟩:=hde;obtain⟨-,hym,hys⟩:=h.sh hb;rw[z4f hd2] at hym hys;obtain⟨H5,e5,hx5,g5,n5,w5⟩:=z0o hx4.wf (.row [.int .i64 0,.int .i64 0] 42) (.row [.int .i64 y.1,.int .i64 y.2] 42);(try simp (disch:=first|omega|rfl) only[sB,dAlloc,Za,Zb,one,reduceCtorEq,zr42,st42,e5]);have hx15:=hx2.trans (hx3.trans (hx4.trans hx5));have hx05:=hx1.trans hx15;have hs5:=hs.keep hw hx05;have g3':=hx5.get hx4.wf (hx4.get w3 g3);have q3:=z0l g3';have q5:=z0l g5;have ne35:H2.next≠H4.next:=by have:=hx4.next;omega
 have lo3:H.next<=H2.next:=(hx1.trans hx2).next;have lo5:H.next<=H4.next:=by have:=hx4.next;omega
 have hM:meetsS σ a b oc=meets2 σ (orderS σ x y).1 (orderS σ x y).2 oc:=by rw[meetsS,z4f hd1,z4f hd2]
 rw[hM];clear hM;obtain⟨Z,hZ⟩:∃Z:Bool,Z=decide (x.1=2/\y.1=2/\x≠y):=⟨_,rfl⟩
 (repeat refine qZa ?_);refine EvC.join (fun st=>∃tm,st=⟨tm,[],H5⟩/\tm.get 0=some (.pointer (some ⟨s,0,none⟩))/\tm.get 3=some (.bool oc)/\tm.get 11=some (.pointer (some ⟨H2.next,0,none⟩))/\tm.get 13=some (.pointer (some ⟨H4.next,0,none⟩))/\tm.get 56=some (.bool Z)) ?_ ?_
 ·by_cases k1:x.1=2
  ·by_cases k2:y.1=2
   ·have dz:Z=!decide (x=y):=by rw[hZ];simp [k1,k2]
    repeat' (first|(refine qZb ?_;simp only[sB,Za,reduceCtorEq,ld42,z0w,ld3,q3,q5,z0v k1,z0v k2,zvg]))
    exact⟨_,rfl,(by simp only[sG,reduceCtorEq]),(by simp only[sG,Za,reduceCtorEq]),(by simp only[sG,Za,reduceCtorEq]),(by simp only[sG,Za,reduceCtorEq]),by rw[dz];first|(simp only[sG,Za,reduceCtorEq];rfl)|simp only[sG,Za,reduceCtorEq]⟩
   ·have dz:Z=false:=by rw[hZ];simp [k2]
    repeat' (first|(refine qZb ?_;simp only[sB,Za,reduceCtorEq,z0w,ld3,q3,q5,z0v k1,z0h k2,Zd]))
    exact⟨_,rfl,(by simp only[sG,reduceCtorEq]),(by simp only[sG,Za,reduceCtorEq]),(by simp only[sG,Za,reduceCtorEq]),(by simp only[sG,Za,reduceCtorEq]),by rw[dz];first|(simp only[sG,Za,reduceCtorEq];rfl)|simp only[sG,Za,reduceCtorEq]⟩
  ·have dz:Z=false:=by rw[hZ];simp [k1]
   repeat' (first|(refine qZb ?_;simp only[sB,Za,reduceCtorEq,z0w,ld3,q3,z0h k1,Zd]))
   exact⟨_,rfl,(by simp only[sG,reduceCtorEq]),(by simp only[sG,Za,reduceCtorEq]),(by simp only[sG,Za,reduceCtorEq]),(by simp only[sG,Za,reduceCtorEq]),by rw[dz];first|(simp only[sG,Za,reduceCtorEq];rfl)|simp only[sG,Za,reduceCtorEq]⟩
 rintro st ⟨tm,rfl,t0,t3,t11,t13,t56⟩;simp only[z00];(repeat refine qZa ?_);refine EvC.join (fun st=>∃tm G,st=⟨tm,[],G⟩/\tm.get 0=some (.pointer (some ⟨s,0,none⟩))/\tm.get 3=some (.bool oc)/\tm.get 11=some (.pointer (some ⟨H2.next,0,none⟩))/\tm.get 13=some (.pointer (some ⟨H4.next,0,none⟩))/\HX H G/\H5.next<=G.next /\
  G.get H2.next=some (.row [.int .i64 (orderS σ x y).1.1,.int .i64 (orderS σ x y).1.2] 42)/\G.get H4.next=some (.row [.int .i64 (orderS σ x y).2.1,.int .i64 (orderS σ x y).2.2] 42)) ?_ ?_
 ·by_cases k:x.1=2/\y.1=2/\x≠y;rotate_left
  ·rw[hZ,decide_eq_false k] at t56;have eo:orderS σ x y=(x,y):=by rw[orderS,if_neg fun q=>k ⟨q.1,q.2.1,q.2.2.1⟩]
   repeat' (first|(refine qZe ?_;try simp only[z00])|(refine qZm ?_ ?_;simp only[sA,t56];refine z01 ?_))
   rw[eo];exact⟨_,H5,rfl,(by simp only[t0]),(by simp only[t3]),(by simp only[t11]),(by simp only[t13]),hx05,Ze _,g3',g5⟩
  ·rw[hZ,decide_eq_true k] at t56;obtain⟨k1,k2,k3⟩:=k;obtain⟨xa,xw,rfl,xl,xc⟩:=hxs.ref k1;obtain⟨ya,yw,rfl,yl,yc⟩:=hys.ref k2;have ex:numS σ (2,(xa:Int))=xw:=by unfold numS;rw[xc]
   have ey:numS σ (2,(ya:Int))=yw:=by unfold numS;rw[yc]
   obtain⟨G1,f1,hy1,v1⟩:=z3g w5 8;have q3':=z0l (hy1.get w5 g3');have q5g:=hy1.get w5 g5;have q5':=z0l q5g
   repeat' (first|refine qZa ?_|(refine qZj (id:=4) [([(0,0),(1,0)],some 2),([(3,0),(4,0)],some 5),([(6,2),(7,2)],none)] ?_ ?_;kernel_rfl;simp only[sD,sB,Za,Zb,reduceCtorEq,ld42,zqo,t0,t11,f1,q3',isAlloc,isRead])|(refine qZd ?_ ?_;simp only[sA,t56];refine z01 ?_))
   refine(z97 (hs5.keep w5 hy1) v1 xl xc).mono ?_;rintro r G2 ⟨rfl,hy2⟩;have v2:=hy2.wf;have q5'':=z0l (hy2.get v1 q5g)
   repeat' (first|(refine z0p ?_;simp only[sV,sD,sB,Za,reduceCtorEq,ld42,zqo,t0,t13,q5',q5'',isAlloc,isRead]))
   refine(z97 ((hs5.keep w5 hy1).keep v1 hy2) v2 yl yc).mono ?_;rintro r G3 ⟨rfl,hy3⟩;have v3:=hy3.wf;have hs3:=((hs5.keep w5 hy1).keep v1 hy2).keep v2 hy3
   repeat' (first|refine qZa ?_|(refine qZb ?_;simp only[sB,Za,reduceCtorEq,cl40,t0])|(refine z0p ?_;simp only[sD,sB,Za,Zb,isAlloc,isRead]))
   refine(za3 hs3 h.wf.lf).mono ?_;rintro r G4 ⟨rfl,rfl⟩
   skip
   refine(za3 hs3 h.wf.lf).mono ?_;rintro r G5 ⟨rfl,rfl⟩;have hyG:=hy1.trans (hy2.trans hy3);have g3g:=hyG.get w5 g3';have g5g:=hyG.get w5 g5;have q3g:=z0l g3g;have q5g':=z0l g5g;obtain⟨p,hp⟩:∃p,p=flS σ xw:=⟨_,rfl⟩
   obtain⟨q,hq⟩:∃q,q=flS σ yw:=⟨_,rfl⟩
   have hp':(if okV σ (xw:Int) then (σ.flags[((xw:Int)).toNat]?).getD false else false)=p:=hp.symm;have hq':(if okV σ (yw:Int) then (σ.flags[((yw:Int)).toNat]?).getD false else false)=q:=hq.symm;rw[hp',hq'];(repeat refine qZa ?_);refine qZb ?_;simp (disch:=first|omega|rfl) only[sB,Za,bNeB];(repeat refine qZa ?_);refine EvC.join (fun st=>∃tm,st=⟨tm,[],G5⟩/\tm.get 0=some (.pointer (some ⟨s,0,none⟩))/\tm.get 3=some (.bool oc)/\tm.get 11=some (.pointer (some ⟨H2.next,0,none⟩))/\tm.get 13=some (.pointer (some ⟨H4.next,0,none⟩))/\tm.get 17=some (.bool (firstS σ xw yw))) ?_ ?_
   ·by_cases hpq:p=q
    ·have ef:firstS σ xw yw=decide ((yw:Int) < xw):=by rw[firstS,<-hp,<-hq,if_pos hpq]
     have d1:(p != q)=false:=by rw[hpq];cases q<;>rfl
     repeat' (first|(refine qZe ?_;try simp only[z00,d1])|(refine qZm ?_ ?_;simp only[sB,Za,d1];refine z01 ?_))
     exact⟨_,rfl,(by simp only[sG,reduceCtorEq,t0]),(by simp only[sG,Za,t3]),(by simp only[sG,Za,t11]),(by simp only[sG,Za,t13]),by rw[ef];first|(simp only[sG,Za];rfl)|simp only[sG,Za]⟩
    ·have ef:firstS σ xw yw=q:=by rw[firstS,<-hp,<-hq,if_neg hpq]
     have d1:(p != q)=true:=by revert hpq;cases p<;>cases q<;>simp
     repeat' (first|(refine qZb ?_;simp only[sB,Za,d1])|(refine qZd ?_ ?_;simp only[sB,Za,d1];refine z01 ?_))
     exact⟨_,rfl,(by simp only[sG,reduceCtorEq,t0]),(by simp only[sG,Za,t3]),(by simp only[sG,Za,t11]),(by simp only[sG,Za,t13]),by rw[ef];first|(simp only[sG,Za];rfl)|simp only[sG,Za]⟩
   clear t0 t3 t11 t13 t56;rintro st ⟨tm,rfl,t0,t3,t11,t13,t17⟩;simp only[z00];cases hfst:firstS σ xw yw with
   |true =>
    have eo:orderS σ (2,(xa:Int)) (2,(ya:Int))=((2,(xa:Int)),(2,(ya:Int))):=by rw[orderS,ex,ey,hfst,if_neg (by simp)]
    rw[hfst] at t17
    repeat' (first|refine qZa ?_|(refine qZe ?_;try simp only[z00])|(refine qZb ?_;simp only[sB,t17,Zn])|(refine qZm ?_ ?_;simp only[sB,Za];refine z01 ?_))
    rw[eo];exact⟨_,G5,rfl,(by simp only[sG,reduceCtorEq,t0]),(by simp only[sG,Za,t3]),(by simp only[sG,Za,t11]),(by simp only[sG,Za,t13]),hx05.trans hyG,hyG.next,g3g,g5g⟩
   |false =>
    have eo:orderS σ (2,(xa:Int)) (2,(ya:Int))=((2,(ya:Int)),(2,(xa:Int))):=by rw[orderS,ex,ey,hfst,if_pos ⟨rfl,rfl,k3,rfl⟩]
    rw[hfst] at t17;obtain⟨K1,f2⟩:∃K1,G5.put H2.next (some (.row [.int .i64 2,.int .i64 (ya:Nat)] 42))=K1:=⟨_,rfl⟩
    have hxK1:HX H K1:=by rw[<-f2];exact(hx05.trans hyG).pt lo3 g3g _
    have k3g:K1.get H2.next=some (.row [.int .i64 2,.int .i64 (ya:Nat)] 42):=by rw[<-f2,get_put,if_pos rfl]
    have k5g:K1.get H4.next=some (.row [.int .i64 2,.int .i64 (xa:Nat)] 42)->True:=fun _=>trivial
    clear k5g;have k5g:K1.get H4.next=some (.row [.int .i64 2,.int .i64 (ya:Nat)] 42):=by rw[<-f2,get_put,if_neg ne35.symm];exact g5g
    repeat' (first|refine qZa ?_|(refine qZb ?_;simp (disch:=first|omega|rfl) only[sB,Za,Zb,one,ld42,st42,t17,t11,t13,q3g,q5g',g3g,f2,k5g,Zw])|(refine qZd ?_ ?_;simp only[sB,Za];refine z01 ?_))
    rw[eo];refine⟨_,_,rfl,(by simp only[sG,reduceCtorEq,t0]),(by simp only[sG,Za,t3]),(by simp only[sG,Za,t11]),(by simp only[sG,Za,t13]),hxK1.pt lo5 k5g _,?_,?_,?_⟩
    ·rw[z14,<-f2,z14];exact hyG.next
    ·rw[get_put,if_neg ne35];exact k3g
    ·rw[get_put,if_pos rfl]
 clear t0 t3 t11 t13 t56 q1 q2 q3 q5 e3 e5 hZ Z;rintro st ⟨tm,G,rfl,t0,t3,t11,t13,hxG,hnG,gX,gY⟩;simp only[z00];obtain⟨hXm,hYm,hXs,hYs⟩:mayS σ (orderS σ x y).1=true/\mayS σ (orderS σ x y).2=true/\ShU σ (orderS σ x y).1/\ShU σ (orderS σ x y).2:=by
  unfold orderS;split
  ·exact⟨hym,hxm,hys,hxs⟩
  ·exact⟨hxm,hym,hxs,hys⟩
 generalize (orderS σ x y).1=X at *;generalize (orderS σ x y).2=Y at *;clear hxm hym hxs hys g3 g3' g5 hd1 hd2;have wG:=hxG.wf;have hsG:=hs.keep hw hxG;have qX:=z0l gX;have qY:=z0l gY;have nil:∀{G':Heap},RepO G' 110 4 H.next (([]:List ((Int × Int) × (Int × Int))).map four) (.slice none 0 0)/\∀n,blkOf (.slice none 0 0)=some n->¬Mut G' s n:=fun {G'}=>⟨.inl ⟨rfl,rfl⟩,fun n q=>by cases q⟩
 obtain⟨Y0,hY0⟩:∃Y0:Bool,Y0=decide (X=Y/\X.1≠4):=⟨_,rfl⟩
 (repeat refine qZa ?_);refine qZg ?_;(repeat refine qZa ?_);refine EvC.join (fun st=>∃tm,st=⟨tm,[],G⟩/\tm.get 0=some (.pointer (some ⟨s,0,none⟩))/\tm.get 3=some (.bool oc)/\tm.get 11=some (.pointer (some ⟨H2.next,0,none⟩))/\tm.get 13=some (.pointer (some ⟨H4.next,0,none⟩))/\tm.get 80=some (.bool Y0)) ?_ ?_
 ·by_cases k1:X=Y
  ·have d1:decide (X=Y)=true:=decide_eq_true k1;by_cases k2:X.1=4
   ·have dz:Y0=false:=by rw[hY0];simp [k2]
    repeat' (first|(refine qZb ?_;simp only[sB,Za,ld42,z0w,ld3,t11,t13,qX,qY,zoo,d1,z13 k2]))
    exact⟨_,rfl,(by simp only[sG,reduceCtorEq,t0]),(by simp only[sG,Za,t3]),(by simp only[sG,Za,t11]),(by simp only[sG,Za,t13]),by rw[dz];first|(simp only[sG,Za];rfl)|simp only[sG,Za]⟩
   ·have dz:Y0=true:=by rw[hY0,decide_eq_true ⟨k1,k2⟩]
    repeat' (first|(refine qZb ?_;simp only[sB,Za,ld42,z0w,ld3,t11,t13,qX,qY,zoo,d1,z29 k2]))
    exact⟨_,rfl,(by simp only[sG,reduceCtorEq,t0]),(by simp only[sG,Za,t3]),(by simp only[sG,Za,t11]),(by simp only[sG,Za,t13]),by rw[dz];first|(simp only[sG,Za];rfl)|simp only[sG,Za]⟩
  ·have d1:decide (X=Y)=false:=decide_eq_false k1;have dz:Y0=false:=by rw[hY0];simp [k1]
   repeat' (first|(refine qZb ?_;simp only[sB,Za,ld42,t11,t13,qX,qY,zoo,d1,Zd]))
   exact⟨_,rfl,(by simp only[sG,reduceCtorEq,t0]),(by simp only[sG,Za,t3]),(by simp only[sG,Za,t11]),(by simp only[sG,Za,t13]),by rw[dz];first|(simp only[sG,Za];rfl)|simp only[sG,Za]⟩
 clear t0 t3 t11 t13;rintro st ⟨tm,rfl,t0,t3,t11,t13,t80⟩;simp only[z00];by_cases k1:X=Y/\X.1≠4
 ·have em:meets2 σ X Y oc=(σ,[],true,0):=by rw[meets2,if_pos k1]
  rw[hY0,decide_eq_true k1] at t80
  repeat' (first|refine qZa ?_|(refine qZf ?_;try simp only[z04,z02])|(refine qZb ?_;simp only[sA])|(refine qZd ?_ ?_;simp only[sA,t80];refine z01 ?_))
  rw[em];exact z1a rfl (by simp only[sG,Za]) (by simp only[sG,Za]) (by simp only[sG,Za]) ⟨_,rfl,hsG,hxG.sx hs0,nil⟩
 rw[hY0,decide_eq_false k1] at t80;by_cases k2:X.1=2
 ·obtain⟨xa,xw,rfl,xl,xc⟩:=hXs.ref k2;have em:meets2 σ (2,(xa:Int)) Y oc=((bindsS σ (2,(xa:Int)) Y oc).1,[],(bindsS σ (2,(xa:Int)) Y oc).2):=by rw[meets2,if_neg k1,if_pos rfl]
  repeat' (first|refine qZa ?_|(refine qZb ?_;simp only[sB,Za,reduceCtorEq,ld42,z0w,ld3,zt3,t0,t3,t11,t13,qX,qY,z0v rfl])|(refine qZd ?_ ?_;simp only[sB,Za,t80];refine z01 ?_)|(refine qZm ?_ ?_;simp only[sA,t80];refine z01 ?_))
  refine(zhm h hsG wG xl xc hYm htr).mono ?_;rintro r G2 ⟨rfl,hs2,x2⟩
  repeat' (first|refine qZa ?_|(refine qZf ?_;try simp only[z04,z02])|(refine qZb ?_;simp only[sB,Za])|(refine z0f ?_;simp only[sB,Za]))
  rw[em];exact z1a rfl (by simp only[sG,Za]) (by simp only[sG,Za]) (by simp only[sG,Za]) ⟨_,rfl,hs2,(hxG.sx hs0).trans x2,nil⟩
 by_cases k3:Y.1=2
 ·obtain⟨ya,yw,rfl,yl,yc⟩:=hYs.ref k3;have em:meets2 σ X (2,(ya:Int)) oc=((bindsS σ (2,(ya:Int)) X oc).1,[],(bindsS σ (2,(ya:Int)) X oc).2):=by rw[meets2,if_neg k1,if_neg k2,if_pos rfl]
  repeat' (first|refine qZa ?_|(refine qZb ?_;simp only[sB,Za,reduceCtorEq,ld42,z0w,ld3,zt3,t0,t3,t11,t13,qX,qY,z0h k2,z0v rfl])|(refine qZd ?_ ?_;simp only[sB,Za,t80];refine z01 ?_)|(refine qZm ?_ ?_;simp only[sB,Za,t80];refine z01 ?_))
  refine(zhm h hsG wG yl yc hXm htr).mono ?_;rintro r G2 ⟨rfl,hs2,x2⟩
  repeat' (first|refine qZa ?_|(refine qZf ?_;try simp only[z04,z02])|(refine qZb ?_;simp only[sB,Za])|(refine z0f ?_;simp only[sB,Za]))
  rw[em];exact z1a rfl (by simp only[sG,Za]) (by simp only[sG,Za]) (by simp only[sG,Za]) ⟨_,rfl,hs2,(hxG.sx hs0).trans x2,nil⟩
 by_cases k4:X.1≠4\/Y.1≠4
 ·have em:meets2 σ X Y oc=(σ,[],false,0):=by rw[meets2,if_neg k1,if_neg k2,if_neg k3,if_pos k4]
  by_cases k5:X.1=4
  ·have k6:Y.1≠4:=k4.resolve_left fun q=>q k5
   repeat' (first|refine qZa ?_|(refine qZf ?_;try simp only[z04,z02])|(refine qZb ?_;simp only[sB,Za,z0w,ld3,t11,t13,qX,qY,z0h k2,z0h k3,z13 k5,z29 k6,Zd])|(refine qZd ?_ ?_;simp only[sB,Za,t80];refine z01 ?_)|(refine qZm ?_ ?_;simp only[sB,Za,t80];refine z01 ?_))
   rw[em];exact z1a rfl (by simp only[sG,Za]) (by simp only[sG,Za]) (by simp only[sG,Za]) ⟨_,rfl,hsG,hxG.sx hs0,nil⟩
  ·repeat' (first|refine qZa ?_|(refine qZf ?_;try simp only[z04,z02])|(refine qZb ?_;simp only[sB,Za,z0w,ld3,t11,t13,qX,qY,z0h k2,z0h k3,z29 k5])|(refine qZd ?_ ?_;simp only[sB,Za,t80];refine z01 ?_)|(refine qZm ?_ ?_;simp only[sB,Za,t80];refine z01 ?_))
   rw[em];exact z1a rfl (by simp only[sG,Za]) (by simp only[sG,Za]) (by simp only[sG,Za]) ⟨_,rfl,hsG,hxG.sx hs0,nil⟩
 obtain⟨k5,k6⟩:X.1=4/\Y.1=4:=by
  rw[not_or,Decidable.not_not,Decidable.not_not] at k4;exact k4
 cases hXs with
 |var=>exact absurd k5 (by simp)
 |con=>exact absurd k5 (by simp)
 |str p f nm n p1 p2 p3 p4 p5 p6 p7 =>
 cases hYs with
 |var=>exact absurd k6 (by simp)
 |con=>exact absurd k6 (by simp)
 |str p' f' nm' n' p1' p2' p3' p4' p5' p6' p7' =>
 have fx:=z7m p2 p3;have fy:=z7m p2' p3'
 repeat' (first|refine qZa ?_|(refine qZe ?_;try simp only[sA])|(refine qZb ?_;simp only[sB,Za,reduceCtorEq,ld42,z0w,ld3,cl67,t0,t11,t13,qX,qY,z0h k2,z13 rfl,Zd])|(refine qZm ?_ ?_;simp only[sB,Za,t80];refine z01 ?_))
 refine(zbl hsG wG ho hXm p4 p5 p2 p3 p6 p1).mono ?_;rintro r G1 ⟨hy1,qa,rfl,ga,hqa⟩;have v1:=hy1.wf;obtain⟨G2,f2,hy2,k2g,m2',v2⟩:=z0o v1 (.row [.string Zh,.int .i64 0] 116) (.row [.string nm,.int .i64 (n:Nat)] 116);have qY2:=z0l (hy2.get v1 (hy1.get wG gY))
 repeat' (first|refine qZa ?_|(refine qZb ?_;simp only[sB,Za,reduceCtorEq,ld42,cl67,t0,t13,qY2])|(refine z0f ?_;simp (disch:=first|omega|rfl) only[sB,dAlloc,Za,Zb,one,zik,zil,f2]))
 refine(zbl ((hsG.keep wG hy1).keep v1 hy2) v2 ho hYm p4' p5' p2' p3' p6' p1').mono ?_;rintro r G3 ⟨hy3,qb,rfl,gb,hqb⟩;have v3:=hy3.wf;obtain⟨G4,f4,hy4,k4g,m4',v4⟩:=z0o v3 (.row [.string Zh,.int .i64 0] 116) (.row [.string nm',.int .i64 (n':Nat)] 116);have hyG:=hy1.trans (hy2.trans (hy3.trans hy4));have q24:=z0l k4g;have q22:=z0l (hy4.get v3 (hy3.get v2 k2g));have hx4':=hxG.trans hyG;have hs4:=hsG.keep wG hyG;have bnk:=fun (H:Heap) (x y:Operand)=>ztz (H:=H) (x:=x) (y:=y) (k:=(nm,(n:Int))) (l:=(nm',(n':Int)))
 (try simp (disch:=first|omega|rfl) only[sB,dAlloc,Za,Zb,one,zik,zil,f4]);(repeat refine qZa ?_);refine qZb ?_;simp only[sB,Za,zb4,q24,q22,bnk]
 by_cases k7:(nm,(n:Int))=(nm',(n':Int))
 rotate_left
 ·have em:meets2 σ (4,(p:Int)) (4,(p':Int)) oc=(σ,[],false,0):=by
   rw[meets2,if_neg k1,if_neg k2,if_neg k3,if_neg k4];show (if funS σ (p:Int)≠funS σ (p':Int) then _ else _)=_;rw[fx,fy,if_pos k7]
  have d7:eqFun (nm,(n:Int)) (nm',(n':Int))=false:=by
   cases hq:eqFun (nm,(n:Int)) (nm',(n':Int)) with
   |false=>rfl
   |true =>
    unfold eqFun at hq;rw[Zi] at hq;exact absurd (Prod.ext (zof hq.1) (eq_of_beq hq.2)) k7
  refine qZd (by simp only[sB,Za,d7,Zw]) ?_;(try refine qZe ?_);(try simp only[z00,z0b])
  repeat' (first|refine qZa ?_|(refine qZf ?_;try simp only[z04,z02])|(refine qZb ?_;simp only[sA]))
  rw[em];exact z1a rfl (by simp only[sG,Za]) (by simp only[sG,Za]) (by simp only[sG,Za]) ⟨_,rfl,hs4,hx4'.sx hs0,nil⟩
 have enn:n'=n:=by have:=congrArg Prod.snd k7;simp only at this;omega
 subst enn;have em:meets2 σ (4,(p:Int)) (4,(p':Int)) oc=(σ,((σ.cells.drop (p+1)).take n').zip ((σ.cells.drop (p'+1)).take n'),true,0):=by
  rw[meets2,if_neg k1,if_neg k2,if_neg k3,if_neg k4];show (if funS σ (p:Int)≠funS σ (p':Int) then _ else (σ,(arS σ (p:Int)).zip (arS σ (p':Int)),true,0))=_;rw[fx,fy,if_neg (fun q=>q k7),z4b p2 p3,z4b p2' p3']
 have d7:eqFun (nm,(n':Int)) (nm',(n':Int))=true:=by
  unfold eqFun;rw[Zi];exact⟨by have:nm=nm':=congrArg Prod.fst k7;rw[this];exact zfg _,beq_self_eq_true _⟩
 rw[em];clear em;refine qZm (by simp only[sB,Za,d7,Zn]) ?_;(try refine qZe ?_);(try simp only[z00,z0b]);have la:=z2p p6;have lb:=z2p p6';have ga4:=hy4.get v3 (hy3.get v2 (hy2.get v1 ga));have gb4:=hy4.get v3 gb;refine EvC.frame (fun tm=>tm.get 25=some (.slice (some ⟨qa,0,none⟩) n' n')/\tm.get 28=some (.slice (some ⟨qb,0,none⟩) n' n')) ⟨(by simp only[sG,Za]),(by simp only[sG,Za])⟩ ?_;clear t0 t3 t11 t13 t80;rintro tm ⟨t25,t28⟩;obtain⟨G5,f5,hy5,k5g,m5,v5⟩:=new1 v4 (.row (repL n' pairZ) 110);have hmn:n'<=most:=by unfold most;omega
 repeat' (first|refine qZa ?_|refine qZg ?_|(refine qZb ?_;simp only[sB,Za,ln27,t25,z8b zuh hmn,f5]))
 generalize hA:(σ.cells.drop (p+1)).take n'=A at *;generalize hA':(σ.cells.drop (p'+1)).take n'=A' at *;have hx5':=hx4'.trans hy5;have om:OwnS G5 110 4 H.next (List.replicate n' pairZ) G4.next n':=by
  rw[<-f5];exact OwnS.made (L:=List.replicate n' pairZ) (by simp) (fun x hx=>by rw[List.eq_of_mem_replicate hx];rfl) (fun x hx=>by rw[List.eq_of_mem_replicate hx];rfl) hx4'.next (by unfold maxLen;omega)
 have ga5:=hy5.get v4 ga4;have gb5:=hy5.get v4 gb4;have nqa:qa≠G4.next:=by have:=hy4.next;have:=v4 _ _ ga4;omega
 have nqb:qb≠G4.next:=by have:=v4 _ _ gb4;omega
 refine qZk (fun k st=>∃(tm:Tr Value) (K:Heap) (i:Nat) (L:List (List Value)),st=⟨tm,[],K⟩/\k=n' - i/\i<=n'/\tm.get 25=some (.slice (some ⟨qa,0,none⟩) n' n')/\tm.get 28=some (.slice (some ⟨qb,0,none⟩) n' n')/\tm.get 30=some (.slice (some ⟨G4.next,0,none⟩) n' n')/\tm.get 147=some (.int .i64 (n':Nat))/\tm.get 148=some (.int .i64 (i:Nat)) /\
  OwnS K 110 4 H.next L G4.next n'/\L.length=n'/\(∀j:Nat,j < i->L[j]?=((A.zip A').map four)[j]?)/\K.get qa=some (.row (A.map two).flatten 42)/\K.get qb=some (.row (A'.map two).flatten 42)/\HX H K/\G5.next<=K.next) ?_ n' _ ?_
 rotate_left
 ·exact⟨_,_,0,_,rfl,rfl,ZA _,(by simp only[sG,Za,t25]),(by simp only[sG,Za,t28]),(by simp only[sG,Za]),(by simp only[sG,Za]),(by simp only[sB,Za];rfl),om,by simp,fun j hj=>by omega,ga5,gb5,hx5',Ze _⟩
 clear t25 t28;rintro k st ⟨tm,K,i,L,rfl,rfl,hi,t25,t28,t30,t147,t148,hO,hL,hE,gqa,gqb,hxK,hnK⟩;have wK:=hxK.wf;by_cases hlt:i < n'
 ·have hia:i < A.length:=by omega
  have hib:i < A'.length:=by omega
  have lda:=zmf wK gqa (by rw[la];unfold maxLen;omega) (Zc hia);have ldb:=zmf wK gqb (by rw[lb];unfold maxLen;omega) (Zc hib);have hz:((A.zip A').map four)[i]?=some (four (A[i],A'[i])):=by
   rw[Zj,Zc (by rw[List.length_zip];omega),List.getElem_zip];rfl
  obtain⟨u,hu⟩:∃u,u=A[i]:=⟨_,rfl⟩
  obtain⟨u',hu'⟩:∃u',u'=A'[i]:=⟨_,rfl⟩
  rw[<-hu] at lda hz;rw[<-hu'] at ldb hz;obtain⟨K1,c1,hk1,vK1⟩:=z3g wK 13;have lda1:=hk1.load wK lda;have ldb1:=hk1.load wK ldb;have hO1:=hO.keep hk1;obtain⟨cs,hg,hle,-⟩:=id hO1.row;have hle':i*4+4<=cs.length:=by rw[hL] at hle;omega
  have hO2:=hO1.set hg (i:=i) (y:=four (u,u')) (by omega) rfl rfl;have ew:IntKind.i64.wrap ((i:Int)+1)=((i+1:Nat):Int):=by rw[z05]<;>omega
  repeat' (first|refine qZa ?_|refine qZg ?_|(refine qZe ?_;try simp only[z00])|(refine qZb ?_;simp only[sB,Za,t147,t148,decl hlt,ew])|(refine qZj (id:=29) [([(0,0),(1,0),(2,0),(3,0),(4,0),(5,0),(6,0),(7,0),(8,0),(9,0),(10,0),(11,0)],some 12),([],none)] ?_ ?_;kernel_rfl;simp (disch:=first|omega|rfl) only[sD,sB,Za,Zb,Value.cells,one,reduceCtorEq,Zr,layC,ld42,ia27,zsv,zqj,zsx,t25,t28,t30,c1,lda1,ldb1,hg,hle',isAlloc,isRead])|(refine qZd ?_ ?_;simp only[sB];refine z01 ?_))
  refine⟨_,by omega,_,_,i+1,L.set i (four (u,u')),rfl,rfl,by omega,(by simp only[sG,Za,t25]),(by simp only[sG,Za,t28]),(by simp only[sG,Za,t30]),(by simp only[sG,Za,t147]),(by simp only[sG,Za]),hO2,by rw[Zy];exact hL,fun j hj=>?_,?_,?_,(hxK.trans hk1).pt hO.lo hg _,?_⟩
  ·rw[List.getElem?_set];by_cases q:i=j
   ·subst q;rw[if_pos rfl,if_pos (by omega),hz]
   ·rw[if_neg q];exact hE j (by omega)
  ·rw[get_put,if_neg nqa];exact hk1.get wK gqa
  ·rw[get_put,if_neg nqb];exact hk1.get wK gqb
  ·rw[z14];exact ZC hnK hk1.next
 ·obtain rfl:i=n':=by omega
  have eL:L=(A.zip A').map four:=List.ext_getElem? fun j=>by
   by_cases q:j < i
   ·exact hE j q
   ·rw[ZM (by omega),ZM (by rw[Zp,List.length_zip];omega)]
  subst eL
  repeat' (first|refine qZa ?_|(refine qZi ?_;try simp only[sB])|(refine qZf ?_)|(refine qZb ?_;simp only[sB,Za,t30,t147,t148,decn hlt])|(refine qZm ?_ ?_;simp only[sB];refine z01 ?_))
  refine z1a rfl (by simp only[sB,Za];rfl) (by simp only[sG,Za]) (by simp only[sG,Za]) ⟨_,rfl,hs.keep hw hxK,hxK.sx hs0,.inr ⟨G4.next,i,hO,by rw[hL]⟩,fun m q=>?_⟩;have:G4.next=m:=Option.some.inj q;subst this;exact hs.fresh hw hxK hx4'.next
end Go.Proofs.hq
end

section
namespace Go.Proofs.hq
open Go Go.RowKit Go.Hb
theorem z9a {σ:SS}{ν:Int->Tm}{a w:Nat}(h:UOk σ) (ha:a < σ.cells.length) (hc:ci σ.cells a=(1,(w:Int))):∀(k:Nat) (L:List (Int × Int)),(∀c∈L,mayS σ c=true/\∃t,Val σ ν c t/\SizeOf.sizeOf t < SizeOf.sizeOf (ν w))->(standsF σ (2,(a:Int)) k L).1=false
 |0,[],_=>rfl
 |0,_ :: _,_=>rfl
 |_+1,[],_=>rfl
 |k+1,c :: r,hL=>by
  obtain⟨hm,t,hv,hs⟩:=hL c (by simp);obtain⟨⟨m,hd⟩,hdm,hsh⟩:=h.sh hm;have hvd:=hv.dr hd;rw[standsF,if_neg]
  ·refine z9a (ν:=ν) h ha hc k _ fun c' hc'=>?_
   rcases List.mem_append.1 hc' with q|q
   ·split at q
    ·rename_i h4;generalize dr σ.cells c=d at *;cases hsh with
     |var=>exact absurd h4 (by simp)
     |con=>exact absurd h4 (by simp)
     |str p f nm n p1 p2 p3 p4 p5 p6 p7 =>
      obtain⟨l,rfl,l1,l2,l3⟩:=z4r p2 p3 hvd;rw[z4b p2 p3] at q;obtain⟨i,hi,rfl⟩:=List.getElem_of_mem q;have hin:i < n:=by rw[z2p p6] at hi;exact hi
      have e:=z99 p6 hin;rw[Zc hi] at e;rw[Option.some.inj e];have hl:=Zc (l:=l) (i:=i) (by omega);have:=zmi (k:=5) (v:=0) (b:=0) (nm:=nm) (s:=e0) (ZG hl);exact⟨p7 i hin,_,l3 i _ hl,by omega⟩
    ·cases q
   ·exact hL c' (Zl _ q)
  ·intro e;rw[e] at hvd;cases hvd with
   |var _ w' k1 k2 =>
    rw[hc] at k2;have:(w:Int)=w':=congrArg Prod.snd k2;subst this;omega
   |go _ _ k1 k2 k3=>rw[hc] at k2;exact k2 rfl
theorem ShU.dr {σ:SS}{d:Int × Int}(h:ShU σ d):dr σ.cells d=d:=by
 cases h with
 |var a v h1 h2 h3 h4=>exact z4f (Der.var rfl (by show (0:Int)<=(a:Int);omega) (by show (a:Int) < _;omega) (by show (ci σ.cells (a:Int)).1=1;rw[h2]))
 |con j=>exact z4f (Der.stop (by simp))
 |str p=>exact z4f (Der.stop (by simp))
structure Ux (σ τ:SS):Prop where
 ok:UOk τ
 cells:τ.cells.length=σ.cells.length
 own:τ.own=σ.own
 vars:τ.vars=σ.vars
 flags:τ.flags=σ.flags
 consts:τ.consts=σ.consts
 funs:τ.funs=σ.funs
 marks:τ.marks=σ.marks
 bk:∀ σ0,Back σ0 σ->Back σ0 τ
 tr:(∀x∈σ.trail,TrOk σ x)->∀x∈τ.trail,TrOk τ x
theorem Ux.refl {σ:SS}(h:UOk σ):Ux σ σ:=⟨h,rfl,rfl,rfl,rfl,rfl,rfl,rfl,fun _ h=>h,fun h=>h⟩
theorem Ux.trans {σ τ υ:SS}(h:Ux σ τ) (k:Ux τ υ):Ux σ υ :=
 ⟨k.ok,k.cells.trans h.cells,k.own.trans h.own,k.vars.trans h.vars,k.flags.trans h.flags,k.consts.trans h.consts,k.funs.trans h.funs,k.marks.trans h.marks,fun s q=>k.bk s (h.bk s q),fun q=>k.tr (h.tr q)⟩
structure Nx (σ τ:SS) (ν:Int->Tm):Prop extends Ux σ τ where
 val:∀c t,Val σ ν c t->Val τ ν c t
theorem Nx.refl {σ:SS}{ν:Int->Tm}(h:UOk σ):Nx σ σ ν:=⟨Ux.refl h,fun _ _ h=>h⟩
theorem Nx.trans {σ τ υ:SS}{ν:Int->Tm}(h:Nx σ τ ν) (k:Nx τ υ ν):Nx σ υ ν:=⟨h.toUx.trans k.toUx,fun c t q=>k.val c t (h.val c t q)⟩
theorem zbo {σ τ:SS}(h1:τ.cells.length=σ.cells.length) (h2:τ.own=σ.own) (h3:τ.consts=σ.consts) (c:Int × Int):mayS τ c=mayS σ c:=by unfold mayS;rw[h1,h2,h3]
theorem Ux.may {σ τ:SS}(h:Ux σ τ) {c:Int × Int}(hm:mayS σ c=true):mayS τ c=true:=by rw[zbo h.cells h.own h.consts];exact hm
theorem zml {σ:SS}(h:UOk σ) (v:Int) (d:Int × Int):Ux σ (bindS σ v d).1/\(bindS σ v d).1.trail.length<=σ.trail.length+1:=by
 obtain⟨hwf,hr⟩:=h.wf.bind (v:=v) (c:=d);have hbk:=fun σ0 (q:Back σ0 σ)=>q.bind (v:=v) (c:=d) h.wf
 rcases hr with e|⟨n,k,rfl,hn,hg,hk,hc,e⟩
 ·rw[e];exact⟨Ux.refl h,Nat.le_succ _⟩
 ·rw[e] at hwf hbk ⊢;have hlen:({ σ with cells:=σ.cells.set k (Hb.dr σ.cells d),trail:=σ.trail++[(0,(n:Int))] }:SS).cells.length=σ.cells.length:=by simp
  refine⟨⟨⟨hwf,h.fa,by rw[hlen];exact h.fc,h.fv⟩,hlen,rfl,rfl,rfl,rfl,rfl,rfl,hbk,fun q x hx=>?_⟩,by simp⟩;simp only[List.mem_append,Zx] at hx;rcases hx with hx|rfl
  ·exact(q x hx).same rfl hlen
  ·exact⟨.inl rfl,n,k,rfl,hn,hg,by rw[hlen];exact hk⟩
theorem zhn {σ:SS}(h:UOk σ) (v c:Int × Int) (occ:Bool):Ux σ (bindsS σ v c occ).1/\(bindsS σ v c occ).1.trail.length<=σ.trail.length+1:=by
 unfold bindsS;split
 ·exact⟨Ux.refl h,Nat.le_succ _⟩
 ·exact zml h _ _
theorem zdz {σ:SS}(h:UOk σ) {x y:Int × Int}(hx:ShU σ x) (hy:ShU σ y) (occ:Bool):(Ux σ (meets2 σ x y occ).1/\(meets2 σ x y occ).1.trail.length<=σ.trail.length+1)/\((meets2 σ x y occ).2.1.length<=64/\∀p∈(meets2 σ x y occ).2.1,mayS σ p.1=true/\mayS σ p.2=true):=by
 unfold meets2;split
 ·exact⟨⟨Ux.refl h,Nat.le_succ _⟩,by simp,fun p hp=>by cases hp⟩
 split
 ·exact⟨zhn h _ _ _,by simp,fun p hp=>by cases hp⟩
 split
 ·exact⟨zhn h _ _ _,by simp,fun p hp=>by cases hp⟩
 split
 ·exact⟨⟨Ux.refl h,Nat.le_succ _⟩,by simp,fun p hp=>by cases hp⟩
 split
 ·exact⟨⟨Ux.refl h,Nat.le_succ _⟩,by simp,fun p hp=>by cases hp⟩
 rename_i n4 hf;refine⟨⟨Ux.refl h,Nat.le_succ _⟩,?_⟩;rw[not_or,Decidable.not_not,Decidable.not_not] at n4;cases hx with
 |var=>exact absurd n4.1 (by simp)
 |con=>exact absurd n4.1 (by simp)
 |str p f nm n p1 p2 p3 p4 p5 p6 p7 =>
  cases hy with
  |var=>exact absurd n4.2 (by simp)
  |con=>exact absurd n4.2 (by simp)
  |str q g nm' n' q1 q2 q3 q4 q5 q6 q7 =>
   show ((arS σ (p:Int)).zip (arS σ (q:Int))).length<=64/\∀z∈(arS σ (p:Int)).zip (arS σ (q:Int)),_;rw[z4b p2 p3,z4b q2 q3];refine⟨by rw[List.length_zip,z2p p6,z2p q6];omega,fun z hz=>?_⟩;obtain⟨i,hi,rfl⟩:=List.getElem_of_mem hz;have hin:i < n/\i < n':=by rw[List.length_zip,z2p p6,z2p q6] at hi;omega
   have e1:=z99 p6 hin.1;have e2:=z99 q6 hin.2;rw[Zc (by rw[z2p p6];exact hin.1)] at e1;rw[Zc (by rw[z2p q6];exact hin.2)] at e2;rw[List.getElem_zip,Option.some.inj e1,Option.some.inj e2];exact⟨p7 i hin.1,q7 i hin.2⟩
theorem zmm {σ:SS}(h:UOk σ) {a b:Int × Int}(ha:mayS σ a=true) (hb:mayS σ b=true) (occ:Bool):(Ux σ (meetsS σ a b occ).1/\(meetsS σ a b occ).1.trail.length<=σ.trail.length+1)/\((meetsS σ a b occ).2.1.length<=64/\∀p∈(meetsS σ a b occ).2.1,mayS σ p.1=true/\mayS σ p.2=true):=by
 obtain⟨-,-,s1⟩:=h.sh ha;obtain⟨-,-,s2⟩:=h.sh hb;unfold meetsS orderS;split
 ·exact zdz h s2 s1 occ
 ·exact zdz h s1 s2 occ
theorem zsd {σ:SS}{ν:Int->Tm}(h:UOk σ) {a w:Nat}(ha:a < σ.cells.length) (hc:ci σ.cells a=(1,(w:Int))) (hw:w < σ.vars.length) (hg:gi σ.vars w=(a:Int)) {d:Int × Int}(hm:mayS σ d=true) (hs:ShU σ d) (hne:d≠(2,(a:Int))) (hv:Val σ ν d (ν w)) :
  ∃ τ,bindS σ w d=(τ,0)/\Nx σ τ ν:=by
 have hd:=hs.dr;have hf0:freeS σ w=0:=by
  unfold freeS;rw[if_pos ⟨by omega,by omega,by rw[hg];omega⟩,hg,hc];rfl
 have e:bindS σ w d=({ σ with cells:=σ.cells.set a d,trail:=σ.trail++[(0,(w:Int))] },0):=by
  rw[bindS,if_neg (by omega),if_neg (by rw[hm];simp),hd,if_neg (by rw[hg];exact hne),hg,Zv]
 refine⟨_,e,⟨by have:=(zml h w d).1;rw[e] at this;exact this,fun c t q=>?_⟩⟩;show Val ({ σ with cells:=σ.cells.set a d,trail:=σ.trail++[(0,(w:Int))] }:SS) ν c t;refine Val.bind (τ:={ σ with cells:=σ.cells.set a d,trail:=σ.trail++[(0,(w:Int))] }) (t0:=ν w) ha hc hv rfl (fun h2=>?_) ?_ rfl rfl rfl _ (Zf _) q
 ·cases hs with
  |var b v' k1 k2=>exact⟨b,rfl,fun e=>hne (by rw[e]),_,k2⟩
  |con j=>exact absurd h2 (by simp)
  |str p=>exact absurd h2 (by simp)
 ·cases hs<;>simp
theorem zbp {σ:SS}{ν:Int->Tm}(h:UOk σ) {a w:Nat}(ha:a < σ.cells.length) (hc:ci σ.cells a=(1,(w:Int))) (hw:w < σ.vars.length) (hg:gi σ.vars w=(a:Int)) {d:Int × Int}(hm:mayS σ d=true) (hs:ShU σ d) (hne:d≠(2,(a:Int))) (hv:Val σ ν d (ν w)) (occ:Bool) :
  (∃ τ,bindsS σ (2,(a:Int)) d occ=(τ,true,0)/\Nx σ τ ν)\/bindsS σ (2,(a:Int)) d occ=(σ,false,140):=by
 obtain⟨τ,e,n⟩:=zsd h ha hc hw hg hm hs hne hv;have enum:numS σ (2,(a:Int))=w:=by unfold numS;rw[hc]
 unfold bindsS;split
 ·rename_i hq;obtain⟨-,q4,q5⟩:=hq;right;have hn:(standsF σ (2,(a:Int)) 20000 [d]).1=false:=by
   cases hs with
   |var=>exact absurd q4 (by simp)
   |con=>exact absurd q4 (by simp)
   |str p f nm m p1 p2 p3 p4 p5 p6 p7 =>
    obtain⟨l,el,l1,l2,l3⟩:=z4r p2 p3 hv;rw[show 20000=19999+1 from rfl,standsF,if_neg]
    ·refine z9a (ν:=ν) h ha hc _ _ fun c hc'=>?_
     have hdd:dr σ.cells (4,(p:Int))=(4,(p:Int)):=z4f (Der.stop (by simp));rw[hdd,if_pos rfl,List.append_nil,z4b p2 p3] at hc';obtain⟨i,hi,rfl⟩:=List.getElem_of_mem hc';have hin:i < m:=by rw[z2p p6] at hi;exact hi
     have e:=z99 p6 hin;rw[Zc hi] at e;rw[Option.some.inj e];have hl:=Zc (l:=l) (i:=i) (by omega);have:=zmi (k:=5) (v:=0) (b:=0) (nm:=nm) (s:=e0) (ZG hl);exact⟨p7 i hin,_,l3 i _ hl,by rw[el];exact this⟩
    ·have hdd:dr σ.cells (4,(p:Int))=(4,(p:Int)):=z4f (Der.stop (by simp));rw[hdd];intro q;cases q
  rcases z5o σ (2,(a:Int)) 20000 [d] with r|r|r
  ·rw[r] at hn;cases hn
  ·exact absurd r q5
  ·rw[r]
 ·left;rw[enum,e];exact⟨τ,rfl,n⟩
def Two2 (σ:SS) (ν:Int->Tm) (p:(Int × Int) × (Int × Int)):Prop:=mayS σ p.1=true/\mayS σ p.2=true/\∃u,Val σ ν p.1 u/\Val σ ν p.2 u
theorem Two2.nx {σ τ:SS}{ν:Int->Tm}{p:(Int × Int) × (Int × Int)}(h:Two2 σ ν p) (n:Nx σ τ ν):Two2 τ ν p:=by
 obtain⟨h1,h2,u,h3,h4⟩:=h;exact⟨n.may h1,n.may h2,u,n.val _ _ h3,n.val _ _ h4⟩
theorem Val.ref {σ:SS}{ν:Int->Tm}{a w:Nat}{t:Tm}(hc:ci σ.cells a=(1,(w:Int))) (h:Val σ ν (2,(a:Int)) t):t=ν w:=by
 cases h with
 |var _ v k1 k2=>rw[hc] at k2;have:(w:Int)=v:=congrArg Prod.snd k2;rw[this]
 |go _ _ k1 k2 k3=>rw[hc] at k2;exact absurd rfl k2
theorem ze0 {σ:SS}{ν:Int->Tm}(h:UOk σ) (hk:KI σ) (hat:∀u∈σ.consts,AtF u) {x y:Int × Int}(hx:mayS σ x=true) (hy:mayS σ y=true) (sx:ShU σ x) (sy:ShU σ y) {t:Tm}(vx:Val σ ν x t) (vy:Val σ ν y t) (occ:Bool) :
  (∃ τ L,meets2 σ x y occ=(τ,L,true,0)/\Nx σ τ ν/\∀p∈L,Two2 τ ν p)\/meets2 σ x y occ=(σ,[],false,140):=by
 unfold meets2;split
 ·exact .inl ⟨σ,[],rfl,Nx.refl h,fun p hp=>by cases hp⟩
 rename_i hxy;cases sx with
 |var a w a1 a2 a3 a4 =>
  have et:=vx.ref a2;have hne:y≠(2,(a:Int)):=fun e=>hxy ⟨e.symm,show (2:Int)≠4 by decide⟩
  rw[if_pos rfl];rcases zbp h a1 a2 a3 a4 hy sy hne (et ▸ vy) occ with ⟨τ,e,n⟩|e
  ·left;rw[e];exact⟨τ,[],rfl,n,fun p hp=>by cases hp⟩
  ·right;rw[e]
 |con j j1 =>
  rw[if_neg (show ¬((3:Int)=2) by decide)];cases sy with
  |var a w a1 a2 a3 a4 =>
   have et:=vy.ref a2;rw[if_pos rfl];rcases zbp h a1 a2 a3 a4 hx (.con j j1) (fun e=>by cases e) (et ▸ vx) occ with ⟨τ,e,n⟩|e
   ·left;rw[e];exact⟨τ,[],rfl,n,fun p hp=>by cases hp⟩
   ·right;rw[e]
  |con i i1 =>
   cases vx with
   |con _ _ k1 =>
    cases vy with
    |con _ _ k2 =>
     have:=hk.ci j i t k1 k2;subst this;exact absurd ⟨rfl,show (3:Int)≠4 by decide⟩ hxy
  |str p f nm n p1 p2 p3 p4 p5 p6 p7 =>
   cases vx with
   |con _ _ k1 =>
    have hA:=hat t (ZG k1);obtain⟨l,rfl,-⟩:=z4r p2 p3 vy;exact absurd rfl hA.2.2
 |str p f nm n p1 p2 p3 p4 p5 p6 p7 =>
  rw[if_neg (show ¬((4:Int)=2) by decide)];cases sy with
  |var a w a1 a2 a3 a4 =>
   have et:=vy.ref a2;rw[if_pos rfl];rcases zbp h a1 a2 a3 a4 hx (.str p f nm n p1 p2 p3 p4 p5 p6 p7) (fun e=>by cases e) (et ▸ vx) occ with ⟨τ,e,n⟩|e
   ·left;rw[e];exact⟨τ,[],rfl,n,fun p hp=>by cases hp⟩
   ·right;rw[e]
  |con i i1 =>
   cases vy with
   |con _ _ k1 =>
    have hA:=hat t (ZG k1);obtain⟨l,rfl,-⟩:=z4r p2 p3 vx;exact absurd rfl hA.2.2
  |str q g nm' n' q1 q2 q3 q4 q5 q6 q7 =>
   obtain⟨l,rfl,l1,l2,l3⟩:=z4r p2 p3 vx;obtain⟨l',e',l1',l2',l3'⟩:=z4r q2 q3 vy;injection e' with f1 f2 f3 f4 f5 f6;subst f6;subst f2;obtain rfl:n'=n:=by omega
   rw[if_neg (show ¬((4:Int)=2) by decide),if_neg (show ¬((4:Int)≠4\/(4:Int)≠4) by decide)];show (∃ τ L,(if funS σ (p:Int)≠funS σ (q:Int) then _ else _)=_/\_)\/_;rw[z7m p2 p3,z7m q2 q3,if_neg (fun h=>h rfl)];left;refine⟨σ,_,rfl,Nx.refl h,fun z hz=>?_⟩;show Two2 σ ν z;have hz':z∈(arS σ (p:Int)).zip (arS σ (q:Int)):=hz;rw[z4b p2 p3,z4b q2 q3] at hz';obtain⟨i,hi,rfl⟩:=List.getElem_of_mem hz';have hin:i < n':=by rw[List.length_zip,z2p p6,z2p q6] at hi;omega
   have e1:=z99 p6 hin;have e2:=z99 q6 hin;rw[Zc (by rw[z2p p6];exact hin)] at e1;rw[Zc (by rw[z2p q6];exact hin)] at e2;rw[List.getElem_zip,Option.some.inj e1,Option.some.inj e2];have hl:=Zc (l:=l) (i:=i) (by omega);exact⟨p7 i hin,q7 i hin,_,l3 i _ hl,l3' i _ hl⟩
theorem zmn {σ:SS}{ν:Int->Tm}(h:UOk σ) (hk:KI σ) (hat:∀u∈σ.consts,AtF u) {p:(Int × Int) × (Int × Int)}(hp:Two2 σ ν p) (occ:Bool) :
  (∃ τ L,meetsS σ p.1 p.2 occ=(τ,L,true,0)/\Nx σ τ ν/\∀p∈L,Two2 τ ν p)\/meetsS σ p.1 p.2 occ=(σ,[],false,140):=by
 obtain⟨h1,h2,u,v1,v2⟩:=hp;obtain⟨⟨m1,d1⟩,k1,s1⟩:=h.sh h1;obtain⟨⟨m2,d2⟩,k2,s2⟩:=h.sh h2;unfold meetsS orderS;split
 ·exact ze0 h hk hat k2 k1 s2 s1 (v2.dr d2) (v1.dr d1) occ
 ·exact ze0 h hk hat k1 k2 s1 s2 (v1.dr d1) (v2.dr d2) occ
theorem zmo {ν:Int->Tm}(occ:Bool):∀(k:Nat) {σ:SS}(L:List ((Int × Int) × (Int × Int))),UOk σ->KI σ->(∀u∈σ.consts,AtF u)->(∀p∈L,Two2 σ ν p)->∃ τ,(runF occ k σ L=(τ,true,0)\/runF occ k σ L=(τ,false,140))/\Nx σ τ ν
 |0,σ,[],h,_,_,_=>⟨σ,.inl rfl,Nx.refl h⟩
 |0,σ,_ :: _,h,_,_,_=>⟨σ,.inr rfl,Nx.refl h⟩
 |_+1,σ,[],h,_,_,_=>⟨σ,.inl rfl,Nx.refl h⟩
 |k+1,σ,p :: r,h,hk,hat,hL=>by
  rw[runF];rcases zmn h hk hat (hL p (by simp)) occ with ⟨τ,M,e,n,hM⟩|e
  ·rw[e,if_pos rfl];obtain⟨υ,e2,n2⟩:=zmo occ k (σ:=τ) (M++r) n.ok (hk.same n.funs n.consts) (by rw[n.consts];exact hat) (fun q hq=>by
    rcases List.mem_append.1 hq with hq|hq
    ·exact hM q hq
    ·exact(hL q (Zl _ hq)).nx n)
   exact⟨υ,e2,n.trans n2⟩
  ·rw[e,if_neg (by simp)];exact⟨σ,.inr rfl,Nx.refl h⟩
end Go.Proofs.hq
end

section
namespace Go.Proofs.hq
open Go Go.RowKit Go.Hb
variable {ok:Ok}
set_option maxRecDepth 10000
attribute [local irreducible] LX LG EL STG SOP SGO SGD SAL SRD SEF SEG SLK SCK ES
theorem _root_.Go.Hb.EvC.label {P:Program}{ok:Ok}{x:Ctx}{l:Nat}{st:_root_.Go.Hb.St}{Q:Ex->_root_.Go.Hb.St->Prop}(h:Q .normal st):EvC P ok x (.label l) st Q:=Upon.now (fun n=>by rw[dcode]) h
theorem _root_.Go.Hb.SX.side {A C D:Heap}{s:Nat}{S:Nat->Prop}(h:SX s A C) (hk:HK S C D) (hS:∀n,S n->A.next<=n) (hm:∀n,Mut D s n->Mut C s n):SX s A D :=
 ⟨⟨ZC h.next hk.next,fun i hi hmi=>(hk.keep i (by have:=h.next;omega) (fun q=>by have:=hS i q;omega)).trans (h.hk.keep i hi hmi),hk.wf⟩,fun n q=>h.mt n (hm n q)⟩
def markS (σ:SS):SS:={ σ with marks:=σ.marks++[((σ.trail.length:Int),(σ.cells.length:Int),(σ.vars.length:Int))] }
noncomputable def uniR (σ:SS) (a b:Int × Int) (oc:Bool):SS × Bool × Int :=
 (if (runF oc 20000 (markS σ) [(a,b)]).2.1=true then { (runF oc 20000 (markS σ) [(a,b)]).1 with marks:=σ.marks } else σ,(runF oc 20000 (markS σ) [(a,b)]).2)
theorem UOk.marks {σ:SS}(h:UOk σ) (m:List (Int × Int × Int)):UOk { σ with marks:=m }:=⟨h.wf.other (t:=σ.trail) (m:=m) (f:=σ.flags) rfl,h.fa,h.fc,h.fv⟩
theorem zho {σ:SS}(h:UOk σ):UOk (markS σ):=h.marks _
theorem z6g (σ:SS) (c:Int × Int):mayS (markS σ) c=mayS σ c:=zbo rfl rfl rfl c
set_option maxHeartbeats 16000000 in
theorem zu0 {H:Heap}{B s:Nat}{σ:SS}{a b:Int × Int}{oc:Bool}(h:UOk σ) (hs:St H B s σ) (hw:H.wf) (ha:mayS σ a=true) (hb:mayS σ b=true) (htr:σ.trail.length+20001<=most) (hto:∀x∈σ.trail,TrOk σ x) (hmk:σ.marks.length+1<=most) :
  EvF Tryz.prog okT 49 [.pointer (some ⟨s,0,none⟩),.agg ⟨two a⟩,.agg ⟨two b⟩,.bool oc] H fun r H'=>r=.tuple ⟨[.bool (uniR σ a b oc).2.1,.int .i64 (uniR σ a b oc).2.2]⟩/\St H' B s (uniR σ a b oc).1/\SX s H H':=by
 have hs0:=hs.lt hw;have ho:=h.wf.lo;refine EvF.enter rfl Tryz.func49 (by decide) rfl ?_;(repeat refine qZa ?_);refine qZb ?_;simp (disch:=first|omega|rfl) only[sB,initTm,dBox,Za,Zb,Value.cells,one,reduceCtorEq];refine EvC.scope ?_;obtain⟨H1,e1,hx1,g1,g2,n1,w1⟩:=new2 hw (.row [.int .i64 a.1,.int .i64 a.2] 42) (.row [.int .i64 b.1,.int .i64 b.2] 42);simp only[e1];clear e1;have q1:=z0l g1;have q2:=z0l g2;have hs1:=hs.keep hw hx1;obtain⟨H2,e2,hx2,g3,n2,w2⟩:=new1 w1 (.row [.int .i64 a.1,.int .i64 a.2,.int .i64 b.1,.int .i64 b.2] 42);(repeat refine qZa ?_);refine qZb ?_;simp (disch:=first|omega|rfl) only[sB,Za,Zb,Value.cells,one,reduceCtorEq,Zr,layC,ld42,zsu,cl63,q1,q2,e2];have ld1:H2.load ⟨H1.next,0,none⟩ 2=some (two a):=by simp only[Heap.load,Heap.cells,g3];rfl
 have ld2:H2.load ⟨H1.next,0+2,none⟩ 2=some (two b):=by simp only[Heap.load,Heap.cells,g3];rfl
 refine(zs9 (hs1.keep w1 hx2) w2 ho (fun c q=>h.wf.der c q) ha hb ld1 ld2).mono ?_;rintro r H3 ⟨rfl,hx3⟩;have w3:=hx3.wf;have hx23:=hx2.trans hx3;(try simp only[]);(repeat refine qZa ?_);refine qZb ?_;simp only[sB,Za,reduceCtorEq];refine qZm (by simp only[sB,Za,reduceCtorEq,z13 rfl]) ?_;(try refine qZe ?_);(try simp only[z00,z0b]);(repeat refine qZa ?_);refine qZb ?_;simp only[sB,Za,reduceCtorEq,cl9];refine(zrl (hs1.keep w1 hx23) w3 hmk).mono ?_;rintro r H4 ⟨rfl,hs4,x4⟩;have w4:=x4.wf;have nm1:¬Mut H3 s H.next:=hs.fresh hw (hx1.trans hx23) (Ze _);have nm2:¬Mut H3 s (H.next+1):=hs.fresh hw (hx1.trans hx23) (by omega);have q1':=z0l (x4.own w3 nm1 (hx23.get w1 g1));have q2':=z0l (x4.own w3 nm2 (hx23.get w1 g2));have x04:=((hx1.trans hx23).sx hs0).trans x4;obtain⟨H5,e5,hx5,g5,n5,w5⟩:=new1 w4 (.row [.int .i64 a.1,.int .i64 a.2,.int .i64 b.1,.int .i64 b.2] 110);(try simp only[]);(repeat refine qZa ?_);refine qZb ?_;simp (disch:=first|omega|rfl) only[sB,Za,Zb,Value.cells,one,reduceCtorEq,Zr,layC,ld42,zsv,zko,q1',q2',e5]
 (repeat refine qZa ?_);refine qZb ?_;simp only[sA];(repeat refine qZa ?_);have hs5:St H5 B s (markS σ):=hs4.keep w4 hx5;have ro5:RepO H5 110 4 H.next ([(a,b)].map four) (.slice (some ⟨H4.next,0,none⟩) 1 1):=.inr ⟨H4.next,1,by rw[<-e5];exact OwnS.first (y:=four (a,b)) rfl rfl x04.next,rfl⟩;have x05:=x04.trans (hx5.sx (hs4.lt w4));have nmv:¬Mut H5 s H4.next:=hs4.fresh w4 hx5 (Ze _);refine EvC.label ?_;simp only[z00];(repeat refine qZa ?_);refine qZb ?_;simp only[sA];refine EvC.join (fun st=>∃(tm:Tr Value) (G:Heap) (τ:SS) (okb:Bool) (e:Int),st=⟨tm,[],G⟩/\tm.get 0=some (.pointer (some ⟨s,0,none⟩))/\tm.get 11=some (.int .i64 σ.marks.length)/\tm.get 13=some (.bool okb)/\tm.get 14=some (.int .i64 e)/\runF oc 20000 (markS σ) [(a,b)]=(τ,okb,e)/\Ux (markS σ) τ/\St G B s τ/\SX s H G) ?_ ?_
 ·refine qZg (qZk (fun k st=>∃(tm:Tr Value) (G:Heap) (n:Nat) (v:Value) (L:List ((Int × Int) × (Int × Int))) (τ:SS),st=⟨tm,[],G⟩/\k=20001 - n/\1<=n/\n<=20001/\tm.get 0=some (.pointer (some ⟨s,0,none⟩))/\tm.get 3=some (.bool oc)/\tm.get 11=some (.int .i64 σ.marks.length)/\tm.get 12=some v/\tm.get 13=some (.bool true)/\tm.get 14=some (.int .i64 0)/\tm.get 15=some (.int .i64 (n:Nat)) /\
   RepO G 110 4 H.next (L.map four) v/\(∀m,blkOf v=some m->¬Mut G s m)/\L.length<=64*n/\(∀p∈L,mayS τ p.1=true/\mayS τ p.2=true)/\runF oc (20001 - n) τ L.reverse=runF oc 20000 (markS σ) [(a,b)]/\Ux (markS σ) τ/\τ.trail.length+1<=σ.trail.length+n/\St G B s τ/\SX s H G) ?_ 20000 _ ?_)
  rotate_left
  ·exact⟨_,_,1,_,[(a,b)],markS σ,rfl,rfl,Ze _,by omega,(by simp only[sG,reduceCtorEq]),(by simp only[sG,Za,reduceCtorEq]),(by simp only[sG,Za,reduceCtorEq]),(by simp only[sG,Za,reduceCtorEq]),(by simp only[sG,Za,reduceCtorEq]),(by simp only[sG,Za,reduceCtorEq]),(by simp only[sB,Za,reduceCtorEq];rfl),ro5,fun m q=>by cases q;exact nmv,by simp,fun p hp=>by rw[Zx] at hp;rw[hp,z6g,z6g];exact⟨ha,hb⟩,rfl,Ux.refl (zho h),Ze _,hs5,x05⟩
  rintro k st ⟨tm,G,n,v,L,τ,rfl,rfl,hn1,hn2,t0,t3,t11,t12,t13,t14,t15,hro,hnm,hll,hmay,hrun,hux,htl,hsG,xG⟩;obtain⟨va,vc,rfl,hlc,hcm⟩:=hro.slice;rw[Zp] at t12 hlc hro;have wG:=xG.wf;have hml:maxLen=9223372036854775807:=rfl;by_cases h0:L.length=0
  ·have d0:decide ((L.length:Int) > 0)=false:=decide_eq_false (by omega);have hL:L=[]:=List.length_eq_zero_iff.1 h0;rw[hL,List.reverse_nil,zon] at hrun
   repeat' (first|refine qZa ?_|(refine qZi ?_;try simp only[sB])|(refine qZb ?_;simp only[sB,Za,zij,t12,d0])|(refine qZm ?_ ?_;simp only[sB,Za];refine z01 ?_))
   exact⟨_,G,τ,true,0,rfl,(by simp only[sG,reduceCtorEq,t0]),(by simp only[sG,Za,t11]),(by simp only[sG,Za,t13]),(by simp only[sG,Za,t14]),hrun.symm,hux,hsG,xG⟩
  have d0:decide ((L.length:Int) > 0)=true:=decide_eq_true (by omega);obtain⟨L',p,rfl⟩:∃L' p,L=L'++[p]:=⟨L.dropLast,L.getLast (fun h=>h0 (by rw[h];rfl)),(List.dropLast_concat_getLast _).symm⟩
  rw[List.reverse_append,List.reverse_singleton,List.singleton_append] at hrun;by_cases hbig:n=20001
  ·subst hbig;have d1:decide (((20001:Nat):Int) > 20000)=true:=by decide
   rw[Nat.sub_self,runF] at hrun
   repeat' (first|refine qZa ?_|refine qZg ?_|(refine qZe ?_;try simp only[z00])|(refine qZi ?_;try simp only[sB,reduceCtorEq])|(refine qZb ?_;simp only[sB,Za,zij,t12,t15,d0,d1])|(refine qZd ?_ ?_;simp only[sB,Za];refine z01 ?_))
   exact⟨_,G,τ,false,140,rfl,(by simp only[sG,reduceCtorEq,t0]),(by simp only[sG,Za,t11]),(by simp only[sG,Za]),(by simp only[sG,Za]),hrun.symm,hux,hsG,xG⟩
  have d1:decide ((n:Int) > 20000)=false:=decide_eq_false (by omega);obtain⟨hp1,hp2⟩:=hmay p (by simp);obtain⟨bb,cc,how,hv⟩:=hro.own (by simp);have ldp:=how.load (i:=L'.length) (x:=four p) (by simp);simp only[Zp,Zm,ZN] at hv t12 hlc;obtain⟨rfl,rfl⟩:va=some ⟨bb,0,none⟩/\vc=cc:=by injection hv with h1 h2 h3;exact⟨h1,h3⟩
  have ew:IntKind.i64.wrap (((L'.length+1:Nat):Int) - 1)=(L'.length:Int):=by rw[z05]<;>omega
  have hlt1:L'.length < L'.length+1:=Zf _;have d0':decide (((L'.length+1:Nat):Int) > 0)=true:=decide_eq_true (by omega);(repeat refine qZa ?_);refine qZb ?_;simp only[sB,Za,zij,t12,d0'];refine qZd (by simp only[sB,Za]) ?_;(try refine qZe ?_);(try simp only[z00,z0b]);(repeat refine qZa ?_);refine qZg ?_;(repeat refine qZa ?_);refine qZb ?_;simp only[sB,Za,t15,d1];refine qZm (by simp only[sB,Za]) ?_;(try refine qZe ?_);(try simp only[z00,z0b]);rw[four] at ldp;(repeat refine qZa ?_);refine qZb ?_;simp (disch:=first|omega|rfl) only[sB,dAlloc,Za,Zb,one,zij,zqj,zsw,zu5,zsx,t12,ew,ldp];obtain⟨G1,f1,hy1,k1,m1,v1⟩:=z0o wG (.row pairZ 110) (.row [.int .i64 p.1.1,.int .i64 p.1.2,.int .i64 p.2.1,.int .i64 p.2.2] 110);simp only[f1];have sl1:=z55 (P:=Tryz.prog) (H:=G1) (t:=111) (e:=110) (s:=4) (a:=some ⟨bb,0,none⟩) (n:=L'.length+1) (c:=vc) (m:=L'.length) (k:=.i64) zu6 (by omega);have kp:G1.load ⟨G.next,0,none⟩ 2=some (two p.1):=by simp only[Heap.load,Heap.cells,k1];rfl
  have kq:G1.load ⟨G.next,2,none⟩ 2=some (two p.2):=by simp only[Heap.load,Heap.cells,k1];rfl
  have hs1':=hsG.keep wG hy1;have roL:RepO G1 110 4 H.next (L'.map four) (.slice (some ⟨bb,0,none⟩) L'.length vc):=by
   have:=RepO.takeO (how.keep hy1) L'.length (by simp)
   rwa [ZK,List.take_left' (by simp)] at this
  have hbm:¬Mut G s bb:=hnm bb rfl;have hbm1:¬Mut G1 s bb:=fun q=>hbm (HX.mut hy1 (hsG.lt wG) q)
  have hbl:bb < G.next:=how.hi;have hblo:H.next<=bb:=how.lo;have hll':L'.length+1<=64*n:=by simpa using hll
  have en1:IntKind.i64.wrap ((n:Int)+1)=((n+1:Nat):Int):=by rw[z05]<;>omega
  have hk:20001 - n=(20000 - n)+1:=by omega
  rw[hk,runF] at hrun;(repeat refine qZa ?_);refine qZb ?_;simp only[sB,Za,zij,t12,ew,sl1];(repeat refine qZa ?_);refine qZb ?_;simp only[sA];(repeat refine qZa ?_);refine qZb ?_;simp only[sB,Za,reduceCtorEq,ld42,zqk,zql,cl89,t0,t3,kp,kq];refine(zop hux.ok hs1' v1 hp1 hp2 (by unfold most at htr ⊢;omega)).mono ?_;rintro r G2 ⟨vm,rfl,hs2,x2,hrm,hnm2⟩;obtain⟨⟨hux2,htl2⟩,hM64,hMm⟩:=zmm hux.ok hp1 hp2 oc;have hM:∃ υ M okb e,meetsS τ p.1 p.2 oc=(υ,M,okb,e):=⟨_,_,_,_,rfl⟩
  obtain⟨υ,M,okb,e,hM⟩:=hM;rw[hM] at hrun hs2 hrm hux2 htl2 hM64 hMm ⊢;simp only at hrun hs2 hrm hux2 htl2 hM64 hMm ⊢;have v2:=x2.wf;have xG2:=(xG.trans (hy1.sx (hsG.lt wG))).trans x2;have ro2:RepO G2 110 4 H.next (L'.map four) (.slice (some ⟨bb,0,none⟩) L'.length vc):=FR.heap (f:=.sl 110 4 (L'.map four)) roL (fun n q=>by cases q;exact x2.get (n:=bb) (by have:=hy1.next;omega) hbm1) x2.next;have hbm2:¬Mut G2 s bb:=x2.nm (by have:=hy1.next;omega) hbm1;(try simp only[sB,Za]);by_cases hok:(okb,e)=(true,0)
  rotate_left
  ·rw[if_neg hok] at hrun;cases okb with
   |false =>
    repeat' (first|refine qZa ?_|(refine qZi ?_;try simp only[sB,reduceCtorEq])|(refine qZb ?_;simp only[sB,Za,Zw])|(refine qZd ?_ ?_;simp only[sB,Za];refine z01 ?_))
    exact⟨_,G2,υ,false,e,rfl,(by simp only[sG,reduceCtorEq,t0]),(by simp only[sG,Za,t11]),(by simp only[sG,Za]),(by simp only[sG,Za]),hrun.symm,hux.trans hux2,hs2,xG2⟩
   |true =>
    have he:e≠0:=fun q=>hok (by rw[q])
    repeat' (first|refine qZa ?_|(refine qZi ?_;try simp only[sB,reduceCtorEq])|(refine qZb ?_;simp only[sB,Za,Zn,z29 he,Zd])|(refine qZd ?_ ?_;simp only[sB,Za];refine z01 ?_))
    exact⟨_,G2,υ,false,e,rfl,(by simp only[sG,reduceCtorEq,t0]),(by simp only[sG,Za,t11]),(by simp only[sG,Za]),(by simp only[sG,Za]),hrun.symm,hux.trans hux2,hs2,xG2⟩
  rw[if_pos hok] at hrun;obtain⟨rfl,rfl⟩:=Prod.mk.inj hok;obtain⟨ma,mc,rfl,hmlc,hmcm⟩:=hrm.slice;rw[Zp] at hmlc hrm ⊢;(repeat refine qZa ?_);refine qZb ?_;simp only[sB,Za,Zn,z13 rfl,Zd];refine qZm (by simp only[sB,Za]) ?_;(try refine qZe ?_);(try simp only[z00,z0b]);have ew2:IntKind.i64.wrap ((M.length:Int) - 1)=(M.length:Int) - 1:=by rw[z05]<;>omega
  (repeat refine qZa ?_);refine qZb ?_;simp only[sB,Za,zij,ew2];have hmb:∀q,blkOf (.slice ma M.length mc)=some q->q≠bb:=fun q hq e=>by
   have:=(FR.lo (show FR G2 G1.next (.sl 110 4 (M.map four)) _ from hrm) hq).1;have:=hy1.next;omega
  refine EvC.frame (fun tm=>tm.get 0=some (.pointer (some ⟨s,0,none⟩))/\tm.get 3=some (.bool oc)/\tm.get 11=some (.int .i64 σ.marks.length)/\tm.get 12=some (.slice (some ⟨bb,0,none⟩) L'.length vc)/\tm.get 13=some (.bool true)/\tm.get 14=some (.int .i64 0)/\tm.get 15=some (.int .i64 (n:Nat))/\tm.get 17=some (.slice ma M.length mc)/\tm.get 18=some (.int .i64 ((M.length:Int) - 1))) ⟨(by simp only[sG,reduceCtorEq,t0]),(by simp only[sG,Za,t3]),(by simp only[sG,Za,t11]),(by simp only[sG,Za]),(by simp only[sG,Za]),(by simp only[sG,Za]),(by simp only[sG,Za,t15]),(by simp only[sG,Za]),(by simp only[sG,Za])⟩ ?_;clear t0 t3 t11 t12 t13 t14 t15;rintro tm ⟨t0,t3,t11,t12,t13,t14,t15,t17,t18⟩;(repeat refine qZa ?_)
  refine EvC.join (fun st=>∃(tm:Tr Value) (K:Heap) (u:Value),st=⟨tm,[],K⟩/\tm.get 0=some (.pointer (some ⟨s,0,none⟩))/\tm.get 3=some (.bool oc)/\tm.get 11=some (.int .i64 σ.marks.length)/\tm.get 12=some u/\tm.get 13=some (.bool true)/\tm.get 14=some (.int .i64 0)/\tm.get 15=some (.int .i64 (n:Nat))/\RepO K 110 4 H.next ((L'++M.reverse).map four) u/\(∀m,blkOf u=some m->¬Mut K s m)/\St K B s υ/\SX s H K) ?_ ?_
  ·refine qZg (qZk (fun k' st=>∃(tm:Tr Value) (K:Heap) (i:Nat) (u:Value),st=⟨tm,[],K⟩/\k'=i/\i<=M.length/\tm.get 0=some (.pointer (some ⟨s,0,none⟩))/\tm.get 3=some (.bool oc)/\tm.get 11=some (.int .i64 σ.marks.length)/\tm.get 12=some u/\tm.get 13=some (.bool true)/\tm.get 14=some (.int .i64 0)/\tm.get 15=some (.int .i64 (n:Nat))/\tm.get 17=some (.slice ma M.length mc)/\tm.get 18=some (.int .i64 ((i:Int) - 1)) /\
    RepO K 110 4 H.next ((L'++(M.drop i).reverse).map four) u/\(∀m,blkOf u=some m->¬Mut K s m)/\RepO K 110 4 G1.next (M.map four) (.slice ma M.length mc)/\(∀q,blkOf (.slice ma M.length mc)=some q->blkOf u≠some q)/\St K B s υ/\SX s H K) ?_ M.length _ ?_)
   rotate_left
   ·exact⟨_,_,M.length,_,rfl,rfl,Ze _,(by simp only[t0]),(by simp only[t3]),(by simp only[t11]),(by simp only[Option.some.injEq,t12];rfl),(by simp only[t13]),(by simp only[t14]),(by simp only[t15]),(by simp only[t17]),(by simp only[t18]),by rw[List.drop_eq_nil_of_le (Ze _)];simpa using ro2,fun m q=>by cases q;exact hbm2,hrm,fun q hq e=>hmb q hq (by injection e with e;exact e.symm),hs2,xG2⟩
   clear t0 t3 t11 t12 t13 t14 t15 t17 t18;rintro i st ⟨tm,K,i',u,rfl,rfl,hi,t0,t3,t11,t12,t13,t14,t15,t17,t18,hro,hum,hrm,hne,hsK,xK⟩;have wK:=xK.wf;by_cases hi0:i=0
   ·subst hi0;have d:decide ((((0:Nat):Int) - 1) >= 0)=false:=by decide
    repeat' (first|refine qZa ?_|(refine qZi ?_;try simp only[sB,Za,reduceCtorEq])|(refine qZb ?_;simp only[sB,t18,d])|(refine qZm ?_ ?_;simp only[sB,Za];refine z01 ?_))
    exact⟨_,_,u,rfl,(by simp only[sG,reduceCtorEq,t0]),(by simp only[sG,Za,t3]),(by simp only[sG,Za,t11]),(by simp only[sG,Za,t12]),(by simp only[sG,Za,t13]),(by simp only[sG,Za,t14]),(by simp only[sG,Za,t15]),hro,hum,hsK,xK⟩
   ·obtain⟨j,rfl⟩:∃j,i=j+1:=⟨i - 1,by omega⟩
    have ej:((j+1:Nat):Int) - 1=(j:Int):=by omega
    rw[ej] at t18;have d:decide ((j:Int) >= 0)=true:=decide_eq_true (by omega);have hja:j < M.length:=by omega
    have hdr:M.drop j=M[j] :: M.drop (j+1):=ZB hja;obtain⟨mb,mc',hmo,hme⟩:=hrm.own (fun q=>by rw[List.map_eq_nil_iff] at q;rw[q] at hja;simp at hja);have ldm:=hmo.load (i:=j) (x:=four M[j]) (by rw[Zj,Zc hja];rfl);rw[Zp] at hme;have eam:ma=some ⟨mb,0,none⟩:=by injection hme
    rw[eam] at t17;generalize hw':M[j]=w at *;rw[four] at ldm;obtain⟨K1,g1',hk1,gK1,nK1,wK1⟩:=new1 wK (.row [.int .i64 w.1.1,.int .i64 w.1.2,.int .i64 w.2.1,.int .i64 w.2.2] 110);have ldK:K1.load ⟨K.next,0,none⟩ 4=some (four w):=by simp only[Heap.load,Heap.cells,gK1];rfl
    have hB1:H.next<=K1.next:=ZC xK.next hk1.next;obtain⟨K2,v2',e2',hro2,n2',wK2,hb2,hkg,-⟩:=(hro.keep hk1).pushF wK1 (P:=Tryz.prog) zu7 ldK rfl rfl (by rw[Zp,Zm,List.length_reverse,List.length_drop];unfold most;omega) hB1;have ew3:IntKind.i64.wrap ((j:Int) - 1)=(j:Int) - 1:=by rw[z05]<;>omega
    repeat' (first|refine qZa ?_|refine qZg ?_|(refine qZe ?_;try simp only[z00])|(refine qZb ?_;simp (disch:=first|omega|rfl) only[sB,Za,Zb,Value.cells,one,layC,zko,zqj,zsw,t18,d,t12,t17,ldm,g1',e2',ew3])|(refine qZd ?_ ?_;simp only[sB,Za];refine z01 ?_))
    have hro3:RepO K2 110 4 H.next ((L'++(M.drop j).reverse).map four) v2':=by
     rw[hdr,List.reverse_cons,<-ZF,ZK];exact hro2
    have hK12:HK (fun n=>blkOf u=some n) K1 K2:=⟨by omega,fun i hi hn=>hkg i hi hn,wK2⟩
    have hum1:∀m,blkOf u=some m->¬Mut K1 s m:=fun m q r=>hum m q (HX.mut hk1 (hsK.lt wK) r)
    have hsK1:=hsK.keep wK hk1;obtain⟨hsK2,hmm⟩:=hsK1.beside wK1 hK12 hum1;have xK1:=xK.trans (hk1.sx (hsK.lt wK));have xK2:=xK1.side hK12 (fun n q=>(FR.lo (show FR K H.next (.sl 110 4 _) u from hro) q).1) hmm;have hrm2:RepO K2 110 4 G1.next (M.map four) (.slice ma M.length mc):=FR.heap (f:=.sl 110 4 (M.map four)) (hrm.keep hk1) (fun n q=>hkg n (by have:=(FR.lo (show FR K G1.next (.sl 110 4 (M.map four)) (.slice ma M.length mc) from hrm) q).2;omega) (hne n q)) (by omega);rw[<-eam] at t17;exact⟨j,by omega,_,K2,j,v2',rfl,rfl,by omega,(by simp only[sG,reduceCtorEq,t0]),(by simp only[sG,Za,t3]),(by simp only[sG,Za,t11]),(by simp only[sG,Za]),(by simp only[sG,Za,t13]),(by simp only[sG,Za,t14]),(by simp only[sG,Za,t15]),(by simp only[sG,Za,t17]),(by simp only[sG,Za]),hro3,fun m q r=>by rw[hb2] at q;cases q;have:=hsK1.mhi wK1 (hmm _ r);omega,hrm2,fun q hq e=>by rw[hb2] at e;cases e;have:=(FR.lo (show FR K G1.next (.sl 110 4 (M.map four)) (.slice ma M.length mc) from hrm) hq).2;omega,hsK2,xK2⟩
  ·rintro st ⟨tm,K,u,rfl,t0,t3,t11,t12,t13,t14,t15,hro,hum,hsK,xK⟩;try simp only[z00]
   repeat' (first|(refine qZb ?_;simp only[sB,Za,t15,en1]))
   exact⟨_,by omega,_,K,n+1,u,L'++M.reverse,υ,rfl,rfl,by omega,by omega,(by simp only[sG,reduceCtorEq,t0]),(by simp only[sG,Za,t3]),(by simp only[sG,Za,t11]),(by simp only[sG,Za,t12]),(by simp only[sG,Za,t13]),(by simp only[sG,Za,t14]),(by simp only[sG,Za]),hro,hum,by rw[Zm,List.length_reverse];omega,fun z hz=>by
    rcases List.mem_append.1 hz with q|q
    ·have:=hmay z (by simp [q]);exact⟨hux2.may this.1,hux2.may this.2⟩
    ·have:=hMm z (List.mem_reverse.1 q);exact⟨hux2.may this.1,hux2.may this.2⟩,by rw[show 20001 - (n+1)=20000 - n by omega,List.reverse_append,List.reverse_reverse];exact hrun,hux.trans hux2,by omega,hsK,xK⟩
 rintro st ⟨tm,G,τ,okb,e,rfl,t0,t11,t13,t14,hrun,hux,hsG,xG⟩;simp only[z00];have wG:=xG.wf;have emk:τ.marks=σ.marks++[((σ.trail.length:Int),(σ.cells.length:Int),(σ.vars.length:Int))]:=hux.marks;have hbk:=hux.bk _ (Back.refl (markS σ));have hcond:(0:Int)<=(σ.marks.length:Int)/\(σ.marks.length:Int) < (τ.marks.length:Int):=by rw[emk,Zm,ZN];omega
 have etk:τ.marks.take ((σ.marks.length:Int)).toNat=σ.marks:=by rw[emk,Zv,List.take_left' rfl]
 cases okb with
 |true =>
  have eu:uniR σ a b oc=({ τ with marks:=σ.marks },true,e):=by rw[uniR,hrun];rfl
  repeat' (first|refine qZa ?_|(refine qZe ?_;try simp only[z00])|(refine qZb ?_;simp only[sB,Za,reduceCtorEq,cl90,t13,Zn,t0,t11])|(refine qZm ?_ ?_;simp only[sB,Za];refine z01 ?_))
  refine(zd9 hsG wG).mono ?_;rintro r G1 ⟨rfl,hs1,x1⟩;rw[if_pos hcond,etk] at hs1
  repeat' (first|refine qZa ?_|(refine qZf ?_)|(refine qZb ?_;simp only[sB,Za,t13,t14]))
  rw[eu];exact z0j rfl (by simp only[sG,Za]) (by simp only[sG,Za]) ⟨rfl,hs1,xG.trans x1⟩
 |false =>
  have eu:uniR σ a b oc=(σ,false,e):=by rw[uniR,hrun];rfl
  have hmk':τ.marks[σ.marks.length]'(by rw[emk];simp)=((σ.trail.length:Int),(σ.cells.length:Int),(σ.vars.length:Int)):=by simp [emk]
  have h1:σ.trail.length<=τ.trail.length:=hbk.tr.length_le;have h2:τ.cells.length=σ.cells.length:=hux.cells;have h3:τ.vars=σ.vars:=hux.vars
  repeat' (first|refine qZa ?_|(refine qZb ?_;simp only[sB,Za,reduceCtorEq,cl30,t13,Zw,t0,t11])|(refine qZd ?_ ?_;simp only[sB,Za];refine z01 ?_))
  refine(zm4 hsG wG (by rw[emk];simp) hmk' h1 (by omega) (by rw[h3];exact Ze _) hux.ok.wf.lo hux.ok.wf.lf (hux.tr fun x hx=>(hto x hx).same rfl rfl)).mono ?_;rintro r G1 ⟨rfl,hs1,x1⟩;have e1:undoS τ σ.marks.length σ.trail.length σ.cells.length σ.vars.length={ markS σ with consts:=τ.consts,funs:=τ.funs,marks:=τ.marks.take (σ.marks.length+1) }:=by
   rcases zac (n:=σ.marks.length) hbk with q|q|q
   ·exact q
   ·exact absurd h.wf.lf q
   ·exact absurd h.wf.lo q
  rw[e1] at hs1
  repeat' (first|refine qZa ?_|(refine qZb ?_;simp only[sB,Za,reduceCtorEq,cl90,t0,t11]))
  refine(zd9 hs1 x1.wf).mono ?_;rintro r G2 ⟨rfl,hs2,x2⟩;have e2:({ markS σ with consts:=τ.consts,funs:=τ.funs,marks:=τ.marks.take (σ.marks.length+1) }:SS).marks=σ.marks++[((σ.trail.length:Int),(σ.cells.length:Int),(σ.vars.length:Int))]:=by
   show τ.marks.take (σ.marks.length+1)=_;rw[emk,Zq (by simp)]
  rw[if_pos (by rw[e2,Zm,ZN];omega)] at hs2;have e3:({ ({ markS σ with consts:=τ.consts,funs:=τ.funs,marks:=τ.marks.take (σ.marks.length+1) }:SS) with marks:=({ markS σ with consts:=τ.consts,funs:=τ.funs,marks:=τ.marks.take (σ.marks.length+1) }:SS).marks.take ((σ.marks.length:Int)).toNat }:SS)=σ:=by
   rw[e2,Zv,List.take_left' rfl];have c1:τ.consts=σ.consts:=hux.consts;have c2:τ.funs=σ.funs:=hux.funs;rw[c1,c2];rfl
  rw[e3] at hs2
  repeat' (first|refine qZa ?_|(refine qZf ?_)|(refine qZb ?_;simp only[sB,Za,t13,t14]))
  rw[eu];exact z0j rfl (by simp only[sG,Za]) (by simp only[sG,Za]) ⟨rfl,hs2,(xG.trans x1).trans x2⟩
theorem zmp {H:Heap}{B s:Nat}{σ:SS}{a b:Int × Int}(h:UOk σ) (hs:St H B s σ) (hw:H.wf) (ha:mayS σ a=true) (hb:mayS σ b=true) (htr:σ.trail.length+20001<=most) (hto:∀x∈σ.trail,TrOk σ x) (hmk:σ.marks.length+1<=most) :
  EvF Tryz.prog okT 15 [.pointer (some ⟨s,0,none⟩),.agg ⟨two a⟩,.agg ⟨two b⟩] H fun r H'=>r=.tuple ⟨[.bool (uniR σ a b true).2.1,.int .i64 (uniR σ a b true).2.2]⟩/\St H' B s (uniR σ a b true).1/\SX s H H':=by
 refine EvF.enter rfl Tryz.func15 (by decide) rfl ?_;(repeat refine qZa ?_);refine qZb ?_;simp only[sB,initTm,dBox,Za,Zb,Value.cells,one,reduceCtorEq];obtain⟨H1,e1,hx1,g1,g2,n1,w1⟩:=new2 hw (.row [.int .i64 a.1,.int .i64 a.2] 42) (.row [.int .i64 b.1,.int .i64 b.2] 42);simp only[e1];have q1:=z0l g1;have q2:=z0l g2
 repeat' (first|refine qZa ?_|(refine qZb ?_;simp only[sB,Za,reduceCtorEq,ld42,cl49,q1,q2]))
 refine(zu0 h (hs.keep hw hx1) w1 ha hb htr hto hmk).mono ?_;rintro r H2 ⟨rfl,hs2,x2⟩
 repeat' (first|(refine qZf ?_)|(refine z0f ?_;simp only[sB,Za,reduceCtorEq]))
 exact z0j rfl (by simp only[sG,Za,reduceCtorEq]) (by simp only[sG,Za,reduceCtorEq]) ⟨rfl,hs2,(hx1.sx (hs.lt hw)).trans x2⟩
end Go.Proofs.hq
end

section
namespace Go.Proofs.hq
open Go Go.RowKit Go.Hb
theorem zmq {σ:Int->Option Tm}{t:Tm}(h:AtF t):subO σ t=t:=by
 have ha:=h.args.1;obtain⟨k,s,u,b,v,l⟩:=t;have hk:k≠1:=h.2.1;have hl:l=[]:=ha;subst hl;rw[subO,if_neg hk,subOL]
theorem ze1 {σ:Int->Option Tm}{nm:ByteArray}{l:List Tm}:subO σ (.mk 5 nm e0 0 0 l)=.mk 5 nm e0 0 0 (l.map (subO σ)):=by
 rw[subO,if_neg (by decide),z95]
theorem zad {σ:Int->Option Tm}{v:Int}:subO σ (varTm v)=(σ v).getD (varTm v):=z3e rfl
theorem zq5 {σ:SS}{ν:Int->Tm}{lo:Nat}{f:Int->Option Tm}(hat:∀u∈σ.consts,AtF u) {c:Int × Int}{t:Tm}(h:RD σ lo c t):(∀v∈occ t,f v=some (ν v))->Val σ ν c (subO f t):=by
 induction h with
 |var v a h1 h2 h3 h4 h5 =>
  intro ho;have:=ho v (by rw[show varTm (v:Int)=varTm v from rfl,z3d];simp [varTm,Tm.kind,Tm.var]);rw[zad,this];exact .var a v h3 h4
 |con j t h h' =>
  intro _;rw[zmq (hat t (ZG h))];exact .con j t h
 |str p f' nm l h1 h2 h3 h4 h5 _ ih =>
  intro ho;rw[ze1];have hle:p+1+l.length<=σ.cells.length:=by
   by_cases h0:l.length=0
   ·omega
   ·have:=h5 (l.length - 1) (by omega);omega
  refine .str p f' nm _ h3 (by rw[Zp];exact h4) (by rw[Zp];exact hle) fun i u hu=>?_
  rw[Zj,Option.map_eq_some_iff] at hu;obtain⟨w,hw,rfl⟩:=hu;exact ih i w hw fun v hv=>ho v (z7i (ZG hw) hv)
theorem zhp {σ:SS}{ν:Int->Tm}(h:UOk σ) (hat:∀u∈σ.consts,AtF u):∀(k:Nat) {c:Int × Int}{x:Tm}{n:Nat},mayS σ c=true->Val σ ν c x->Fine x->n<=4000->4001 - n<=k->(toldF σ k c n).2<=4000 ->
  subO (fun v=>some (ν v)) (toldF σ k c n).1=x/\Fine (toldF σ k c n).1
 |0,c,x,n,_,_,_,hn,hk,_=>by omega
 |k+1,c,x,n,hm,hv,hf,hn,hk,hle=>by
  obtain⟨⟨m,hd⟩,hdm,hsh⟩:=h.sh hm;have hvd:=hv.dr hd;rw[toldF] at hle ⊢;generalize dr σ.cells c=d at *;cases hsh with
  |var a w a1 a2 a3 a4 =>
   rw[if_pos rfl];show subO _ (varTm (ci σ.cells (a:Int)).2)=x/\Fine (varTm (ci σ.cells (a:Int)).2);rw[a2,zad];exact⟨(hvd.ref a2).symm,zoh (by show (0:Int)<=(w:Int);omega)⟩
  |con j j1 =>
   rw[if_neg (show ¬((3:Int)=2) by decide),if_pos rfl];show subO _ ((σ.consts[((j:Int)).toNat]?).getD zeroTm)=x/\Fine ((σ.consts[((j:Int)).toNat]?).getD zeroTm);cases hvd with
   |con _ _ k1 =>
    rw[Zv,k1];have hA:=hat x (ZG k1);exact⟨zmq hA,hA.1⟩
  |str p f nm n' p1 p2 p3 p4 p5 p6 p7 =>
   obtain⟨l,rfl,l1,l2,l3⟩:=z4r p2 p3 hvd;rw[if_neg (show ¬((4:Int)=2) by decide),if_neg (show ¬((4:Int)=3) by decide)] at hle ⊢;simp only[p2,Zv,p3,Option.getD_some] at hle ⊢;have key:∀i,i<=n'->n+1<=((Zg i).foldl (stepT (toldF σ k) fun i=>ci σ.cells ((p:Int)+1+i)) ([],n+1)).2/\((Zg i).foldl (stepT (toldF σ k) fun i=>ci σ.cells ((p:Int)+1+i)) ([],n+1)).2<=4000 /\
     ((Zg i).foldl (stepT (toldF σ k) fun i=>ci σ.cells ((p:Int)+1+i)) ([],n+1)).1.length=i/\((Zg i).foldl (stepT (toldF σ k) fun i=>ci σ.cells ((p:Int)+1+i)) ([],n+1)).1.map (subO fun v=>some (ν v))=l.take i /\
     ∀u∈((Zg i).foldl (stepT (toldF σ k) fun i=>ci σ.cells ((p:Int)+1+i)) ([],n+1)).1,Fine u:=by
    intro i
    induction i with
    |zero =>
     intro _;refine⟨Ze _,?_,rfl,by simp,fun u hu=>by cases hu⟩;by_cases q:((Zg 0).foldl (stepT (toldF σ k) fun i=>ci σ.cells ((p:Int)+1+i)) ([],n+1)).2<=4000
     ·exact q
     ·rw[z8v (ZA n') q] at hle;exact absurd hle q
    |succ i ih =>
     intro hi;obtain⟨i1,i2,i3,i4,i5⟩:=ih (by omega);have hq:((Zg (i+1)).foldl (stepT (toldF σ k) fun i=>ci σ.cells ((p:Int)+1+i)) ([],n+1)).2<=4000:=by
      by_cases q:((Zg (i+1)).foldl (stepT (toldF σ k) fun i=>ci σ.cells ((p:Int)+1+i)) ([],n+1)).2<=4000
      ·exact q
      ·rw[z8v hi q] at hle;exact absurd hle q
     generalize hF:(Zg i).foldl (stepT (toldF σ k) fun i=>ci σ.cells ((p:Int)+1+i)) ([],n+1)=F at *;obtain⟨acc,m'⟩:=F;rw[z8w hF i2] at hq ⊢;simp only at i1 i2 i3 i4 i5 hq ⊢;have e:ci σ.cells ((p:Int)+1+(i:Int))=ci σ.cells ((p+1+i:Nat):Int):=by congr 1
     rw[e] at hq ⊢;have hil:i < l.length:=by omega
     have hl:=Zc hil;obtain⟨r1,r2⟩:=zhp h hat k (n:=m') (p7 i (by omega)) (l3 i _ hl) (hf.args _ (ZD hil)) i2 (by omega) hq;have:=z7g σ k (ci σ.cells ((p+1+i:Nat):Int)) m' i2;refine⟨by omega,hq,by simp [i3],?_,fun u hu=>?_⟩
     ·rw[ZK,i4,List.map_cons,List.map_nil,r1,ZL hil]
     ·rcases List.mem_append.1 hu with hu|hu
      ·exact i5 u hu
      ·rw[Zx] at hu;rw[hu];exact r2
   obtain⟨-,-,k3,k4,k5⟩:=key n' (Ze _);generalize (Zg n').foldl (stepT (toldF σ k) fun i=>ci σ.cells ((p:Int)+1+i)) ([],n+1)=F at *;have e4:F.1.map (subO fun v=>some (ν v))=l:=by rw[k4,Zq (by omega)]
   refine⟨by rw[ze1,e4],zok ?_ fun u hu=>k5 u hu⟩;have hn:=hf.node;have hlen:F.1.length=l.length:=by omega
   have hb:blankB (.mk 5 nm e0 0 0 F.1)=blankB (.mk 5 nm e0 0 0 l):=by
    simp only[blankB,Tm.kind,Tm.name,Tm.num,Tm.bits,Tm.var,Tm.args,hlen]
   have:nodeS (.mk 5 nm e0 0 0 F.1)=nodeS (.mk 5 nm e0 0 0 l):=by
    simp [nodeS,nodeE,hb,Tm.kind,Tm.name,Tm.num,Tm.bits,Tm.var,Tm.args,hlen]
   rw[this];exact hn
end Go.Proofs.hq
end

section
namespace Go.Proofs.hq
open Go Go.RowKit Go.Hb
variable {ok:Ok}
set_option maxRecDepth 10000
attribute [local irreducible] LX LG EL STG SOP SGO SGD SAL SRD SEF SEG SLK SCK ES
theorem zu1 {H0 H1:Heap}{B:List (Int × Tm)}{p r:Nat}(gp:H1.get p=some (.row [.map (some r)] 85)) (hm:MapT H0 H1 r B) (hx0:HX H0 H1) (hw0:H0.wf) (hf:∀n u,lookT B n=some u->Fine u) :
  ByOpt 47 #[.pointer (some ⟨p,0,none⟩)] (lookT B) fun G=>HX H1 G :=
 ⟨fun n G _ hj hw=>zoj (hj.get hx0.wf gp) (hm.keep hj hx0.wf) (hx0.trans hj) hw0,fun G G' hj hx=>hj.trans hx,hf⟩
abbrev zero7:List Value:=.int .i64 0 :: zero6
theorem row7 {H:Heap}{p:Nat}{T:TypeId}{x0 x1 x2 x3 x4 x5 x6:Value}(h:H.get p=some (Blk.row [x0,x1,x2,x3,x4,x5,x6] T)) :
  H.load ⟨p,0,none⟩ 1=some [x0]/\H.load ⟨p,1,none⟩ 6=some [x1,x2,x3,x4,x5,x6]/\H.load ⟨p,0,none⟩ 7=some [x0,x1,x2,x3,x4,x5,x6]:=by
 refine⟨?_,?_,?_⟩<;>simp only[Heap.load,Heap.cells,h]<;>rfl
theorem zse {B:List (Int × Tm)}{i:Nat}(h:i < B.length):B.take (i+1)=B.take i++[(B[i].1,B[i].2)]:=by rw[<-ZL h]
set_option maxHeartbeats 16000000 in
theorem zu2 {t:Tm}{cs:List Value}{B:List (Int × Tm)}{a:Option Addr}{c:Nat}{H:Heap}(r0:RepT H t cs) (rb:RepB7 H B a c) (hw:H.wf) :
  EvF Tryz.prog okT 10 [.agg ⟨cs⟩,.slice a B.length c] H fun v H'=>HX H H' /\
   ((PutOk t B/\∃out,v=.tuple ⟨[.agg ⟨out⟩,.int .i64 0]⟩/\RepS H' (Rg H.next H'.next) (subO (lookT B) t) out/\TopR H' 40 (Rg H.next H'.next) (subO (lookT B) t) out)\/(¬PutOk t B/\∃e:Int,v=.tuple ⟨[.agg ⟨zero6⟩,.int .i64 e]⟩/\e≠0)):=by
 have hmx:B.length<=9223372036854775807:=ZC rb.len rb.cap;obtain⟨at_,ct,cellst,rfl,-,-,-,-,-,rlt⟩:=r0.six;refine EvF.enter rfl Tryz.func10 (by decide) rfl ?_;(repeat refine qZa ?_);refine qZb ?_;simp only[sB,initTm,dBox,dAlloc,Value.cells,one,reduceCtorEq,zr40];obtain⟨A2,e2,hx2,gt,g4,hn2,hw2⟩:=new2 hw (.row (six t at_ ct) 40) (.row zero6 40);simp only[e2];clear e2;(repeat refine qZa ?_);refine qZb ?_;simp only[sA,dAlloc,zr40];obtain⟨A3,e3,hx3,g6,hn3,hw3⟩:=new1 hw2 (.row zero6 40);simp only[e3];clear e3;have gt:=hx3.get hw2 gt;have g4:=hx3.get hw2 g4;have hx:=hx2.trans hx3;rw[hn2] at g6 hn3;have qt:=row6 gt
 repeat' (first|refine qZa ?_|(refine qZb ?_;simp only[sB,Za,reduceCtorEq,ld40,cl42,qt]))
 refine(z5k t _ _ (r0.mono hx hw) hx.wf).mono ?_;rintro v A4 ⟨rfl,k4⟩;have gt:=k4.get hx.wf gt;have g4:=k4.get hx.wf g4;have g6:=k4.get hx.wf g6;have hx:=hx.trans k4;have n4:=k4.next;have q6:=row6 g6;have ne46:(H.next+1=H.next+2)=False:=by simp
 by_cases h0:checkS t=0;rotate_left
 ·rw[hn2] at *
  repeat' (first|refine qZa ?_|(refine qZf ?_;try simp only[z04,z02])|(refine qZb ?_;simp only[sB,Za,Zb,one,reduceCtorEq,ld40,st40,z29 h0,q6,g4])|(refine qZd ?_ ?_;simp only[sB,Za,reduceCtorEq];refine z01 ?_))
  refine z0d rfl (by simp only[sB,Za,reduceCtorEq];rfl) (by simp only[sB,Zb,cutC,ld40]) (by simp only[sG,Za,reduceCtorEq]) ⟨hx.pt (by omega) g4 _,.inr ⟨fun h=>h0 h.1,_,rfl,h0⟩⟩
 rw[hn2] at *
 repeat' (first|refine qZa ?_|refine qZg ?_|(refine qZe ?_;try simp only[z00])|(refine qZb ?_;simp only[sB,dAlloc,Za,one,reduceCtorEq,zr85,st85,ln48,z13 h0,z47])|(refine qZm ?_ ?_;simp only[sB,Za,reduceCtorEq];refine z01 ?_))
 obtain⟨A5,e5,k5,gr,n5,w5⟩:=new1 hx.wf (.map [] 0);obtain⟨A6,e6,k6,gp,n6,w6⟩:=z0o w5 (.row [.map none] 85) (.row [.map (some A4.next)] 85);rw[n5] at e6 gp;simp only[e5,e6];have gr:=k6.get w5 gr;have k56:=k5.trans k6;have gt:=k56.get hx.wf gt;have g4:=k56.get hx.wf g4;have g6:=k56.get hx.wf g6;have hr4:=hx.next;have hx:=hx.trans k56;clear e5 e6 k5 k6 k56;have hpr:A4.next+1≠A4.next:=by omega
 have hm0:MapT H A6 A4.next (B.take 0):=⟨[],⟨[],0,gr,rfl⟩,fun n=>⟨fun u hu=>by simp [lookT] at hu,fun _=>rfl⟩⟩
 have hr5:H.next+3<=A4.next:=by omega
 have hp5:H.next+3<=A4.next+1:=by omega
 generalize A4.next+1=p at *;generalize A4.next=r at *;clear n4 n5 n6 gr hr4 hn3 hn2 k4 qt q6 hx2 hx3 hw2 hw3 w5;refine qZk (fun k st=>∃tm H' i,st=⟨tm,[],H'⟩/\k=B.length - i/\i<=B.length/\tm.get 2=some (.pointer (some ⟨H.next,0,none⟩))/\tm.get 4=some (.pointer (some ⟨H.next+1,0,none⟩))/\tm.get 6=some (.pointer (some ⟨H.next+2,0,none⟩))/\tm.get 8=some (.pointer (some ⟨p,0,none⟩)) /\
  tm.get 22=some (.slice a B.length c)/\tm.get 23=some (.int .i64 B.length)/\tm.get 24=some (.int .i64 (i:Nat))/\H'.get H.next=some (.row (six t at_ ct) 40)/\H'.get (H.next+1)=some (.row zero6 40)/\H'.get (H.next+2)=some (.row zero6 40) /\
  H'.get p=some (.row [.map (some r)] 85)/\MapT H H' r (B.take i)/\(∀(j:Nat) (hj:j < B.length),j < i->0<=B[j].1/\lookT (B.take j) B[j].1=none/\checkS B[j].2=0)/\HX H H') ?_ B.length _ ?_
 rotate_left
 ·exact⟨_,_,0,rfl,rfl,ZA _,(by simp only[sG,Za,reduceCtorEq]),(by simp only[sG,Za,reduceCtorEq]),(by simp only[sG,Za,reduceCtorEq]),(by simp only[sG,Za,reduceCtorEq]),(by simp only[sG,Za,reduceCtorEq]),(by simp only[sG,Za,reduceCtorEq]),(by simp only[sB,Za,reduceCtorEq];rfl),gt,g4,g6,gp,hm0,fun j hj h=>by omega,hx⟩
 clear gt g4 g6 gp hm0 hx w6;rintro k st ⟨tm,A,i,rfl,rfl,hi,t2,t4,t6,t8,t22,t23,t24,gt,g4,g6,gp,hm,hok,hx⟩;have hwA:=hx.wf;have q6:=row6 g6;have qt:=row6 gt;by_cases hlt:i < B.length
 ·obtain⟨b,o,a1,c1,rfl,hld,hrb⟩:=rb.el i hlt;have hld:=hx.load hw hld;(repeat refine qZa ?_);refine qZb ?_;simp only[sA,t23,t24,decl hlt];(repeat refine qZa ?_);refine qZd (by simp only[sB]) ?_;(try refine qZe ?_);(try simp only[z00,z0b]);refine qZa ?_;refine qZg ?_;(repeat refine qZa ?_);refine qZb ?_;simp (disch:=first|omega|rfl) only[sB,dAlloc,Za,Zb,one,ia48,ld87,zr87,st87,t22,t24,hld];obtain⟨A1,e1,k1,g10,n1,w1⟩:=z0o hwA (.row zero7 87) (.row (seven B[i].1 B[i].2 a1 c1) 87);simp only[e1];clear e1;have q10:=row7 g10;have lp:=row1 (k1.get hwA gp);obtain⟨M,hM,hMn⟩:=hm.keep k1 hwA;have gt1:=k1.get hwA gt;have g41:=k1.get hwA g4;have g61:=k1.get hwA g6;have gp1:=k1.get hwA gp;rcases z6f (lookT (B.take i) B[i].1) with ⟨u,hl⟩|hl
  ·skip
   obtain⟨csu,hg,hru⟩:=(hMn B[i].1).1 u hl;obtain⟨a2,c2,cells2,rfl,-⟩:=hru.six;(repeat refine qZa ?_);refine qZb ?_;simp only[sB,dAlloc,Za,Zb,one,zr40,st40,ld85,z76,ld3,t8,lp,q10,z15,z4w z94 hM hg];obtain⟨A3,e3,k3,g3,n3,w3⟩:=z0o w1 (.row zero6 40) (.row (six u a2 c2) 40);simp only[e3];clear e3;have g43:=k3.get w1 g41;have q63:=row6 (k3.get w1 g61)
   repeat' (first|refine qZa ?_|(refine qZf ?_;try simp only[z04,z02])|(refine qZb ?_;simp only[sB,Za,Zb,one,ld40,st40,t4,t6,q63,g43])|(refine qZd ?_ ?_;simp only[sB,Za];refine z01 ?_))
   refine z0d rfl (by simp only[sB,Za,t4];rfl) (by simp only[sB,Zb,cutC,ld40]) (by simp only[sB,Za];rfl) ⟨((hx.trans k1).trans k3).pt (by omega) g43 _,.inr ⟨fun h=>?_,_,rfl,by decide⟩⟩;have:=(h.2.1 i hlt).2.1;rw[hl] at this;cases this
  ·skip
   have hg:=(hMn B[i].1).2 hl;(repeat refine qZa ?_);refine qZb ?_;simp only[sB,dAlloc,Za,Zb,one,zr40,st40,ld85,z76,ld3,t8,lp,q10,z15,z63 z94 hM hg];obtain⟨A3,e3,k3,g3,n3,w3⟩:=z0o w1 (.row zero6 40) (.row zero6 40);simp only[e3];clear e3;have g103:=k3.get w1 g10;have q103:=row7 g103;have g43:=k3.get w1 g41;have g63:=k3.get w1 g61;have q63:=row6 g63;have hx3:=(hx.trans k1).trans k3;by_cases hneg:B[i].1 < 0
   ·repeat' (first|refine qZa ?_|(refine qZf ?_;try simp only[z04,z02])|(refine qZb ?_;simp only[sB,Za,Zb,one,ld40,st40,z76,ld3,t4,t6,q103,decide_eq_true hneg,q63,g43,Zd])|(refine qZd ?_ ?_;simp only[sB,Za];refine z01 ?_))
    refine z0d rfl (by simp only[sB,Za,t4];rfl) (by simp only[sB,Zb,cutC,ld40]) (by simp only[sB,Za];rfl) ⟨hx3.pt (by omega) g43 _,.inr ⟨fun h=>?_,_,rfl,by decide⟩⟩;have:=(h.2.1 i hlt).1;omega
   repeat' (first|refine qZa ?_|(refine qZe ?_;try simp only[z00])|(refine qZb ?_;simp only[sB,Za,ld40,cl42,z76,ld3,zkn,q103,decide_eq_false hneg,Zd])|(refine qZm ?_ ?_;simp only[sB,Za];refine z01 ?_))
   refine(z5k _ _ _ (hrb.mono hx3 hw) hx3.wf).mono ?_;rintro v A5 ⟨rfl,k5⟩;have g105:=k5.get hx3.wf g103;have q105:=row7 g105;have g45:=k5.get hx3.wf g43;have g65:=k5.get hx3.wf g63;have q65:=row6 g65;have hx5:=hx3.trans k5;have k15:=(k1.trans k3).trans k5;by_cases hc:checkS B[i].2=0;rotate_left
   ·repeat' (first|refine qZa ?_|(refine qZf ?_;try simp only[z04,z02])|(refine qZb ?_;simp only[sB,Za,Zb,one,ld40,st40,t4,t6,z29 hc,q65,g45])|(refine qZd ?_ ?_;simp only[sB,Za];refine z01 ?_))
    refine z0d rfl (by simp only[sB,Za,t4];rfl) (by simp only[sB,Zb,cutC,ld40]) (by simp only[sG,Za]) ⟨hx5.pt (by omega) g45 _,.inr ⟨fun h=>hc (h.2.1 i hlt).2.2,_,rfl,hc⟩⟩
   have gp5:=k15.get hwA gp;have lp5:=row1 gp5;obtain⟨K,hup,hm6⟩:=(hm.keep k15 hwA).push z94 hl hrb;have hrl:=hm.lt hwA;have hrl5:r < A5.next:=Zo hrl k15.next
   repeat' (first|refine qZa ?_|(refine qZe ?_;try simp only[z00])|(refine qZb ?_;simp (disch:=first|omega|rfl) only[sB,Za,ld40,ld85,z76,ld3,zkn,t8,t24,z13 hc,lp5,q105,z24,hup,z05])|(refine qZm ?_ ?_;simp only[sB,Za];refine z01 ?_))
   have gt5:=k15.get hwA gt;exact⟨B.length - (i+1),by omega,_,_,i+1,rfl,rfl,by omega,(by simp only[sG,Za,t2]),(by simp only[sG,Za,t4]),(by simp only[sG,Za,t6]),(by simp only[sG,Za,t8]),(by simp only[sG,Za,t22]),(by simp only[sG,Za,t23]),(by simp only[sB,Za];rfl),by rw[get_put,if_neg (by omega)];exact gt5,by rw[get_put,if_neg (by omega)];exact g45,by rw[get_put,if_neg (by omega)];exact g65,
    by rw[get_put,if_neg hpr];exact gp5,by rw[zse hlt];exact hm6,fun j hj hji=>by
     by_cases e:j=i
     ·subst e;exact⟨by omega,hl,hc⟩
     ·exact hok j hj (by omega),hx5.put (by omega) hrl5 _⟩
 ·obtain rfl:i=B.length:=by omega
  rw[List.take_length] at hm;have hfine:∀n u,lookT B n=some u->Fine u:=fun n u hu=>by
   obtain⟨j,hj,e⟩:=List.getElem_of_mem (z4q hu);have:=(hok j hj hj).2.2;rw[e] at this;exact(z1d.1 this).2
  have hft:=(z1d.1 h0)
  repeat' (first|refine qZa ?_|(refine qZi ?_;try simp only[sB])|(refine qZb ?_;simp only[sB,dAlloc,Za,ld40,cl43,zr3,t2,t23,t24,decn hlt,qt])|(refine qZm ?_ ?_;simp only[sB];refine z01 ?_))
  refine(z5j t _ _ (r0.mono hx hw) hx.wf).mono ?_;rintro v A1 ⟨rfl,k1⟩;have gt1:=k1.get hwA gt;have g41:=k1.get hwA g4;have g61:=k1.get hwA g6;have gp1:=k1.get hwA gp;have hm1:=hm.keep k1 hwA;have hx1:=hx.trans k1;(try simp only[sB,one,st3]);obtain⟨A2,e2,k2,gq,n2,w2⟩:=z0o hx1.wf (.row [.int .i64 0] 3) (.row [.int .i64 ((cnt t 0:Nat):Int)] 3);simp only[e2];clear e2;have qt2:=row6 (k2.get hx1.wf gt1);(repeat refine qZa ?_);refine qZb ?_;simp only[sB,Za,ld40,cl44,t2,t8,qt2,List.map_toArray];have E:=zs8 (tot:=occ t) (m:=cnt t 0) gp1 hm1 hx1 hw (Ze _) (by omega);refine(zlh hx1.wf (by kernel_rfl) E _ (Zf _) (r0.mono hx1 hw) (S:=fun n=>n=A1.next) (pre:=[]) ⟨k2,fun n=>Iff.rfl,gq⟩ (by rw[List.nil_append];exact Zz _)).mono ?_;rintro v A3 ⟨S3,⟨k3,hS3,gq3⟩,-,-⟩;rw[List.nil_append] at gq3;have gt3:=k3.get hx1.wf gt1;have g43:=k3.get hx1.wf g41;have g63:=k3.get hx1.wf g61;have q63:=row6 g63;have qt3:=row6 gt3;have lq3:=row1 gq3;have hx3:=hx1.trans k3;by_cases h4:4000 < allS (lookT B) (cnt t 0) (occ t)
  ·have hd:decide (((allS (lookT B) (cnt t 0) (occ t):Nat):Int) > 4000)=true:=decide_eq_true (by omega)
   repeat' (first|refine qZa ?_|(refine qZf ?_;try simp only[z04,z02])|(refine qZb ?_;simp only[sB,Za,Zb,one,ld40,st40,ld3,t4,t6,lq3,hd,q63,g43])|(refine qZd ?_ ?_;simp only[sB,Za];refine z01 ?_))
   refine z0d rfl (by simp only[sB,Za,t4];rfl) (by simp only[sB,Zb,cutC,ld40]) (by simp only[sB,Za];rfl) ⟨hx3.pt (by omega) g43 _,.inr ⟨fun h=>?_,_,rfl,by decide⟩⟩;have:=h.2.2;omega
  ·have hd:decide (((allS (lookT B) (cnt t 0) (occ t):Nat):Int) > 4000)=false:=decide_eq_false (by omega)
   repeat' (first|refine qZa ?_|(refine qZe ?_;try simp only[z00])|(refine qZb ?_;simp only[sB,Za,ld40,ld3,cl46,t2,t8,lq3,hd,qt3,List.map_toArray])|(refine qZm ?_ ?_;simp only[sB,Za];refine z01 ?_))
   refine(zja (by kernel_rfl) (zu1 gp1 hm1 hx1 hw hfine) (Zf _) (r0.mono hx3 hw) hft.2 k3 hx3.wf).mono ?_;rintro v A5 ⟨out,rfl,hrep,htop,k5⟩;have g45:=k5.get hx3.wf g43;obtain⟨a5,c5,cells5,rfl,-⟩:=hrep.rep.six
   repeat' (first|(refine qZf ?_)|(refine z0f ?_;simp only[sB,Zb,one,st40,t4,g45]))
   refine z0d rfl (by simp only[sB,Za,t4];rfl) (by simp only[sB,Zb,cutC,ld40];rfl) (by simp only[sG,Za]) ⟨(hx3.trans k5).pt (by omega) g45 _,.inl ⟨⟨h0,fun j hj=>hok j hj hj,by omega⟩,_,rfl,?_,?_⟩⟩
   ·have n3:=hx3.next;have l4:=hx3.wf _ _ g43;refine hrep.to fun n hn hl=>?_
    have:=hn.1;exact⟨by rw[get_put,if_neg (by omega)],⟨by omega,hl⟩,hl⟩
   ·have n3:=hx3.next;have l4:=hx3.wf _ _ g43;refine htop.heap fun n hn hl=>?_
    have:=hn.1;exact⟨by rw[get_put,if_neg (by omega)],⟨by omega,hl⟩,hl⟩
def bindsR:Nat->List Int->List (Int × Tm)
 |_,[]=>[]
 |n,v :: l=>(v,varT (n:Int)) :: bindsR (n+1) l
def newN (n:Nat) (t:Tm) (v:Int):Int:=(n:Int)+plcZ (uniq (occ t)) v
def mkS (σ:SS):Nat->SS
 |0=>σ
 |k+1=>makeS (mkS σ k)
theorem RC.told {σ:SS}{c:Int × Int}{t:Tm}(h:RC σ c t) (hn:nd t<=4000):termS σ c=(t,0):=by
 have ht:=zma 4001 (n:=0) h.rd (by omega) (by omega);unfold termS;rw[h.may,ht,if_neg (by simp),if_neg (by simp only;omega)]
abbrev rowB (p:Int × Tm):List Value:=seven p.1 p.2 none 0
theorem _root_.Go.Hb.SX.load {s:Nat}{H H':Heap}(h:SX s H H') {b o n:Nat}(hb:b < H.next) (hm:¬Mut H s b) {l:List Value}(hl:H.load ⟨b,o,none⟩ n=some l):H'.load ⟨b,o,none⟩ n=some l:=by
 unfold Heap.load Heap.cells at hl ⊢;simp only at hl ⊢;rw[h.get hb hm];exact hl
end Go.Proofs.hq
end

section
namespace Go.Hb
open Go Go.RowKit
structure RdI (H:Heap) (L:List Int) (a:Option Addr) (c:Nat):Prop where
 len:L.length<=c
 cap:c<=maxLen
 get:∀(i:Nat) (h:i < L.length),∃b o,a=some ⟨b,o,none⟩/\H.load ⟨b,o+i,none⟩ 1=some [.int .i64 L[i]]
theorem RdI.max {H:Heap}{L:List Int}{a:Option Addr}{c:Nat}(h:RdI H L a c):L.length<=9223372036854775807:=ZC h.len h.cap
end Go.Hb
namespace Go.Proofs.hq
open Go Go.RowKit Go.Hb
variable {ok:Ok}
set_option maxRecDepth 10000
attribute [local irreducible] LX LG EL STG SOP SGO SGD SAL SRD SEF SEG SLK SCK ES
theorem IntL.rd {H:Heap}{T:TypeId}{S:Nat->Prop}{L:List Int}{v:Value}(h:IntL H T S L v):∃a c,v=.slice a L.length c/\RdI H L a c/\(∀b o,a=some ⟨b,o,none⟩->S b):=by
 rcases h with ⟨rfl,rfl⟩|⟨b,c,rfl,h2,h3,h4,h5⟩
 ·exact⟨none,0,rfl,⟨Ze _,ZA _,fun i h=>by simp at h⟩,fun b o h=>by cases h⟩
 ·refine⟨_,c,rfl,⟨h2,h3,fun i hi=>⟨b,0,rfl,?_⟩⟩,fun b' o h=>by cases h;exact h5⟩;unfold Heap.load Heap.cells;simp only[h4,Nat.zero_add];have:(List.drop i (L.map fun n=>Value.int .i64 n)).take 1=[.int .i64 L[i]]:=by
   rw[ZB (by simpa using hi)];simp
  rw[this];rfl
theorem zvh {L:List Int}{n:Int}{a:Option Addr}{c:Nat}{H:Heap}(h:RdI H L a c):EvF Tryz.prog okT 88 [.slice a L.length c,.int .i64 n] H fun v H'=>v=.bool (decide (n∈L))/\H'=H:=by
 have hm:=h.max;refine EvF.enter rfl Tryz.func88 (by decide) rfl ?_
 repeat' (first|refine qZa ?_|refine qZg ?_|(refine qZb ?_;simp only[sA,initTm]))
 refine qZk (fun k st=>∃tm i,st=⟨tm,[],H⟩/\k=L.length - i/\i<=L.length/\n∉L.take i/\tm.get 0=some (.slice a L.length c)/\tm.get 1=some (.int .i64 n)/\tm.get 5=some (.int .i64 (i:Nat))) ?_ L.length _ ?_
 ·rintro k st ⟨tm,i,rfl,rfl,hi,hn,t0,t1,t5⟩;by_cases hlt:i < L.length
  ·obtain⟨b,o,rfl,hl⟩:=h.get i hlt;by_cases he:L[i]=n
   ·repeat' (first|refine qZa ?_|refine qZg ?_|(refine qZe ?_;try simp only[z00])|(refine qZf ?_;try simp only[z04,z02])|(refine qZb ?_;simp (disch:=first|omega|rfl) only[sB,Za,reduceCtorEq,ln28,ia28,ld3,t0,t1,t5,decl hlt,hl,z0v he])|(refine qZd ?_ ?_;simp only[sB,Za];refine z01 ?_))
    exact z03 rfl (by simp only[sB,Za];rfl) ⟨by rw[decide_eq_true (he ▸ ZD _)],rfl⟩
   ·repeat' (first|refine qZa ?_|refine qZg ?_|(refine qZe ?_;try simp only[sA])|(refine qZb ?_;simp (disch:=first|omega|rfl) only[sB,Za,reduceCtorEq,ln28,ia28,ld3,t0,t1,t5,decl hlt,hl,z0h he,z05])|(refine qZd ?_ ?_;simp only[sB,Za];refine z01 ?_)|(refine qZm ?_ ?_;simp only[sB,Za];refine z01 ?_))
    refine⟨L.length - (i+1),by omega,_,i+1,rfl,rfl,by omega,?_,(by simp only[sG,reduceCtorEq,t0]),(by simp only[sG,Za,t1]),(by simp only[sB,Za];rfl)⟩;rw[<-ZL hlt,List.mem_append];rintro (h1|h1)
    ·exact hn h1
    ·simp at h1;exact he h1.symm
  ·repeat' (first|refine qZa ?_|(refine qZi ?_;try simp only[sB])|(refine qZf ?_)|(refine qZb ?_;simp only[sB,Za,reduceCtorEq,ln28,t0,t5,decn hlt])|(refine qZm ?_ ?_;simp only[sB,Za];refine z01 ?_))
   rw[Zq (by omega)] at hn;exact z03 rfl (by simp only[sB,Za];rfl) ⟨by rw[decide_eq_false hn],rfl⟩
 ·exact⟨_,0,rfl,rfl,by omega,by simp,(by simp only[sG,reduceCtorEq]),(by simp only[sG,Za,reduceCtorEq]),(by simp only[sB,Za,reduceCtorEq];rfl)⟩
set_option maxHeartbeats 4000000 in
theorem zoq {H0:Heap}(hw0:H0.wf) {tot:List Int}(hlen:tot.length<=most):∀(m:Nat) {t:Tm}{cs:List Value}{H:Heap}{S:Nat->Prop}{pre:List Int}{v:Value},SizeOf.sizeOf t < m->RepT H0 t cs->HX H0 H->IntL H 3 S (uniq pre) v->(∀n,S n->H0.next<=n/\n < H.next)->(pre++occ t) <+: tot ->
  EvF Tryz.prog okT 48 [.agg ⟨cs⟩,v] H fun v' H'=>∃S',IntL H' 3 S' (uniq (pre++occ t)) v'/\HK S H H'/\HX H0 H'/\(∀n,S' n->(S n\/H.next<=n)/\n < H'.next):=by
 have ean:apOk Tryz.prog 28 3 1:=ap28;intro m
 induction m with
 |zero=>intro t cs H S pre v h;omega
 |succ m ih =>
 intro t cs H S pre v hsz r hx hi hS htot;have hw:=hx.wf;have hxn:=hx.next;obtain⟨a,c,cells,rfl,-,-,-,-,-,rl⟩:=r.six;have hm:=rl.max;obtain⟨av,cv,rfl,hrd,-⟩:=hi.rd;refine EvF.enter rfl Tryz.func48 (by decide) rfl ?_;(repeat refine qZa ?_);refine qZb ?_;simp (disch:=first|omega|rfl) only[sB,initTm,dBox,Value.cells,one,reduceCtorEq];obtain⟨H2,e2,hx2,gp,hn2,hw2⟩:=new1 hw (.row (six t a c) 40);simp only[e2];clear e2;have q1:=row6 gp;have hi2:IntL H2 3 S (uniq pre) (.slice av (uniq pre).length cv):=hi.heap (fun n _ hl=>hx2.keep n hl) hw;(repeat refine qZa ?_);refine qZb ?_;simp only[sB,Za,reduceCtorEq,z1c,ld3,q1];refine EvC.join (fun st=>∃tm H' S' w,st=⟨tm,[],H'⟩/\tm.get 1=some w/\tm.get 2=some (.pointer (some ⟨H.next,0,none⟩))/\H'.get H.next=some (.row (six t a c) 40) /\
   IntL H' 3 S' (uniq (pre++(if t.kind=1 then [t.var] else []))) w/\HK S H H'/\HX H0 H'/\(∀n,S' n->(S n\/H.next < n)/\n < H'.next)) ?_ ?_
 ·by_cases k1:t.kind=1;rotate_left
  ·repeat' (first|(refine qZe ?_;try simp only[z00,z0h k1])|(refine qZm ?_ ?_;simp only[sB,Za,reduceCtorEq,z0h k1];refine z01 ?_))
   exact⟨_,_,S,_,rfl,(by simp only[sB,Za,reduceCtorEq];rfl),(by simp only[sG,Za,reduceCtorEq]),gp,by rw[if_neg k1,List.append_nil];exact hi2,hx2.hk S,hx.trans hx2,fun n hn=>⟨.inl hn,by have:=hS n hn;omega⟩⟩
  obtain⟨av',cv',e',hrd2,-⟩:=hi2.rd;cases e'
  repeat' (first|refine qZa ?_|(refine qZb ?_;simp only[sB,Za,reduceCtorEq,ld3,z4d,cl88,z0v k1,q1])|(refine qZd ?_ ?_;simp only[sB,Za,reduceCtorEq,z0v k1];refine z01 ?_))
  refine(zvh hrd2).mono ?_;rintro v H3 ⟨rfl,rfl⟩;by_cases hmem:t.var∈uniq pre
  ·repeat' (first|refine qZa ?_|(refine qZe ?_;try simp only[z00])|(refine qZb ?_;simp only[sB,Za,reduceCtorEq,decide_eq_true hmem,Zn])|(refine qZm ?_ ?_;simp only[sB,Za,reduceCtorEq];refine z01 ?_))
   exact⟨_,_,S,_,rfl,(by simp only[sB,Za,reduceCtorEq];rfl),(by simp only[sG,Za,reduceCtorEq]),gp,by rw[if_pos k1,z3s,addU,if_pos hmem];exact hi2,hx2.hk S,hx.trans hx2,fun n hn=>⟨.inl hn,by have:=hS n hn;omega⟩⟩
  ·repeat' (first|refine qZa ?_|(refine qZb ?_;simp (disch:=first|omega|rfl) only[sB,Za,Value.cells,one,reduceCtorEq,layC,ld3,z4d,zgt,decide_eq_false hmem,Zw,q1])|(refine qZd ?_ ?_;simp only[sB,Za,reduceCtorEq];refine z01 ?_))
   obtain⟨H5,e5,hx5,g5,hn5,hw5⟩:=new1 hw2 (.row [.int .i64 t.var] 3);simp only[e5];have l5:H5.load ⟨H3.next,0,none⟩ (1*1)=some [.int .i64 t.var]:=by unfold Heap.load Heap.cells;simp only[g5];rfl
   have hul:=z7f pre;have hpl:pre.length+1<=tot.length:=by
    have:=htot.length_le;rw[z3d,if_pos k1,Zm,Zm,ZN] at this;omega
   obtain⟨H7,v7,e7,hi7,hk7,hn7⟩:=IntL.push (S2:=fun n=>n=H5.next) (c1:=1) ean (hi2.heap (fun n _ hl=>hx5.keep n hl) hw2) hw5 l5 (by omega) rfl
   repeat' (first|(refine z0f ?_;simp only[sB,Za,reduceCtorEq,e7]))
   refine⟨_,_,fun n=>n=H5.next,v7,rfl,(by simp only[sG,Za,reduceCtorEq]),(by simp only[sG,Za,reduceCtorEq]),hk7.get hw5 (hx5.get hw2 gp) (fun h=>by have:=hS _ h;omega),by rw[if_pos k1,z3s,addU,if_neg hmem];exact hi7,(hx2.hk S).trans ((hx5.hk S).trans hk7),((hx.trans hx2).trans hx5).then hk7 (fun n hn hs=>by have:=hS n hs;omega),fun n hn=>?_⟩;have hn':n=H5.next:=hn;exact⟨.inr (by omega),by omega⟩
 rintro st ⟨tm,H3,S3,w,rfl,t1,t2,gp3,hi3,hk3,hx3,hS3⟩
 repeat' (first|refine qZa ?_|refine qZg ?_|(refine qZb ?_;simp only[sA]))
 refine qZk (fun k st=>∃tm H' i S' w,st=⟨tm,[],H'⟩/\k=t.args.length - i/\i<=t.args.length/\tm.get 1=some w/\tm.get 2=some (.pointer (some ⟨H.next,0,none⟩))/\tm.get 6=some (.int .i64 (i:Nat))/\H'.get H.next=some (.row (six t a c) 40) /\
   IntL H' 3 S' (uniq (pre++(if t.kind=1 then [t.var] else [])++occL (t.args.take i))) w/\HK S H H'/\HX H0 H'/\(∀n,S' n->(S n\/H.next < n)/\n < H'.next)) ?_ t.args.length _ ?_
 ·rintro k st ⟨tm,H',i,S',w,rfl,rfl,hi',t1,t2,t6,gp',hil,hk',hx',hS'⟩;have q1:=row6 gp';have nn':=hk'.next;by_cases hlt:i < t.args.length
  ·obtain⟨b,o,a1,c1,rfl,hld,hr1⟩:=rl.el hlt;have hld1:=hx'.load hw0 hld
   repeat' (first|refine qZa ?_|refine qZg ?_|(refine qZe ?_;try simp only[z00])|(refine qZb ?_;simp (disch:=first|omega|rfl) only[sB,Za,z1k,ld32,ln32,ia32,ld40,cl48,t1,t2,t6,q1,decl hlt,hld1])|(refine qZd ?_ ?_;simp only[sB,Za];refine z01 ?_))
   have hs:=z1t (Zc hlt);refine(ih (by omega) hr1 hx' hil (fun n hn=>by have:=hS' n hn;rcases this.1 with h|h;exact⟨(hS n h).1,this.2⟩;exact⟨by omega,this.2⟩) (by refine List.IsPrefix.trans ?_ htot;rw[ZF,<-z34 hlt,ZF,z3d];exact(List.prefix_append_right_inj _).2 ((List.prefix_append_right_inj _).2 (z7e _ _)))).mono ?_;rintro v H5 ⟨S5,hi5,hk5,hx5,hS5⟩
   repeat' (first|(refine qZb ?_;simp (disch:=first|omega|rfl) only[sB,Za,t6,z05]))
   refine⟨t.args.length - (i+1),by omega,_,_,i+1,S5,v,rfl,rfl,by omega,(by simp only[sG,Za]),(by simp only[sG,Za,t2]),(by simp only[sB,Za];rfl),hk5.get hx'.wf gp' (fun h=>by rcases (hS' _ h).1 with h|h;have:=hS _ h;omega;omega),?_,hk'.step hk5 (fun n hn hq=>by rcases (hS' n hq).1 with h|h;exact h;omega),hx5,fun n hn=>?_⟩
   ·rw[z34 hlt,<-ZF];exact hi5
   ·have:=hS5 n hn;refine⟨?_,this.2⟩;rcases this.1 with h|h
    ·exact(hS' n h).1
    ·exact .inr (by have:=hx'.wf _ _ gp';omega)
  ·repeat' (first|refine qZa ?_|(refine qZi ?_;try simp only[sB])|(refine qZf ?_)|(refine qZb ?_;simp only[sB,Za,z1k,ld32,ln32,t1,t2,t6,q1,decn hlt])|(refine qZm ?_ ?_;simp only[sB,Za];refine z01 ?_))
   rw[Zq (by omega),ZF,<-z3d] at hil;exact z03 rfl (by simp only[sG,Za]) ⟨S',hil,hk',hx',fun n hn=>by have:=hS' n hn;exact⟨by rcases this.1 with h|h;exact .inl h;exact .inr (by omega),this.2⟩⟩
 ·exact⟨_,_,0,S3,w,rfl,rfl,by omega,(by simp only[sG,Za,t1]),(by simp only[sG,Za,t2]),(by simp only[sB];rfl),gp3,by rw[List.take_zero,occL,List.append_nil];exact hi3,hk3,hx3,hS3⟩
set_option maxHeartbeats 4000000 in
theorem zjd {l:List Tm}{a:Option Addr}{c:Nat}{cells:Nat->List Value}{H:Heap}(rl:RepL H l a c cells) (hlen:(occL l).length<=most) (hw:H.wf) :
  EvF Tryz.prog okT 12 [.slice a l.length c] H fun v H'=>IntL H' 3 (Rg H.next H'.next) (uniq (occL l)) v/\HX H H':=by
 have hm:=rl.max;refine EvF.enter rfl Tryz.func12 (by decide) rfl ?_
 repeat' (first|refine qZa ?_|refine qZg ?_|(refine qZb ?_;simp only[sA,initTm]))
 refine qZk (fun k st=>∃tm H' i S v,st=⟨tm,[],H'⟩/\k=l.length - i/\i<=l.length/\tm.get 0=some (.slice a l.length c)/\tm.get 3=some v/\tm.get 4=some (.int .i64 (i:Nat)) /\
   IntL H' 3 S (uniq (occL (l.take i))) v/\HX H H'/\(∀n,S n->H.next<=n/\n < H'.next)) ?_ l.length _ ?_
 ·rintro k st ⟨tm,H',i,S,v,rfl,rfl,hi,t0,t3,t4,hil,hx',hS⟩;by_cases hlt:i < l.length
  ·obtain⟨b,o,a1,c1,rfl,hld,hr1⟩:=rl.el hlt;have hld1:=hx'.load hw hld
   repeat' (first|refine qZa ?_|refine qZg ?_|(refine qZe ?_;try simp only[z00])|(refine qZb ?_;simp (disch:=first|omega|rfl) only[sB,Za,reduceCtorEq,ln32,ia32,ld40,cl48,t0,t3,t4,decl hlt,hld1])|(refine qZd ?_ ?_;simp only[sB,Za];refine z01 ?_))
   refine(zoq hw hlen _ (Zf _) hr1 hx' hil hS (by rw[<-z34 hlt];exact z7e _ _)).mono ?_;rintro v H5 ⟨S5,hi5,hk5,hx5,hS5⟩
   repeat' (first|(refine qZb ?_;simp (disch:=first|omega|rfl) only[sB,Za,t4,z05]))
   exact⟨l.length - (i+1),by omega,_,_,i+1,S5,v,rfl,rfl,by omega,(by simp only[sG,reduceCtorEq,t0]),(by simp only[sG,Za]),(by simp only[sB,Za];rfl),by rw[z34 hlt];exact hi5,hx5,fun n hn=>by have:=hS5 n hn;refine⟨?_,this.2⟩;rcases this.1 with h|h;exact(hS n h).1;have:=hx'.next;omega⟩
  ·repeat' (first|refine qZa ?_|(refine qZi ?_;try simp only[sB])|(refine qZf ?_)|(refine qZb ?_;simp only[sB,Za,reduceCtorEq,ln32,t0,t3,t4,decn hlt])|(refine qZm ?_ ?_;simp only[sB,Za];refine z01 ?_))
   rw[Zq (by omega)] at hil;refine z03 rfl (by simp only[sB,Za];rfl) ⟨?_,hx'⟩;rcases hil with h|⟨b,c',h1,h2,h3,h4,h5⟩
   ·exact .inl h
   ·exact .inr ⟨b,c',h1,h2,h3,h4,hS b h5⟩
 ·exact⟨_,_,0,fun _=>False,_,rfl,rfl,by omega,(by simp only[sG,reduceCtorEq]),(by simp only[sB,Za,reduceCtorEq];rfl),(by simp only[sB,Za,reduceCtorEq];rfl),by rw[List.take_zero,occL];exact .inl ⟨rfl,rfl⟩,HX.refl hw,fun n h=>h.elim⟩
end Go.Proofs.hq
end

section
namespace Go.Proofs.hq
open Go Go.RowKit Go.Hb
variable {ok:Ok}
set_option maxRecDepth 10000
attribute [local irreducible] LX LG EL STG SOP SGO SGD SAL SRD SEF SEG SLK SCK ES
theorem zor {H:Heap}(hw:H.wf) (A B C D:Blk):∃H2,(((H.new (some A)).new (some B)).put H.next (some C)).put (H.next+1) (some D)=H2/\HX H H2/\H2.get H.next=some C/\H2.get (H.next+1)=some D/\H2.next=H.next+2/\H2.wf:=by
 obtain⟨H2,rfl,hx,h1,h2,h3,h4⟩:=new2 hw A B;have hy:=(hx.pt (i:=H.next) (Ze _) h1 (some C)).pt (i:=H.next+1) (by omega) (by rw[get_put,if_neg (by omega)];exact h2) (some D);exact⟨_,rfl,hy,by rw[get_put,if_neg (by omega),get_put,if_pos rfl],by rw[get_put,if_pos rfl],rfl,hy.wf⟩
theorem zq6 {H:Heap}{a b c d:Value}{l:List Value}:dExt (.tuple ⟨a :: b :: c :: d :: l⟩) 3 H=some (.val d H):=_root_.id rfl
theorem _root_.Go.Hb.RdI.keep {H H':Heap}{L:List Int}{a:Option Addr}{c:Nat}(h:RdI H L a c) (hx:HX H H') (hw:H.wf):RdI H' L a c:=⟨h.len,h.cap,fun i hi=>by obtain⟨b,o,e,l⟩:=h.get i hi;exact⟨b,o,e,hx.load hw l⟩⟩
end Go.Proofs.hq
end

section
namespace Go.Hb
open Go Go.RowKit
structure RepBs (H:Heap) (B:List (Int × Tm)) (a:Option Addr) (c:Nat):Prop where
 len:B.length<=c
 cap:c<=maxLen
 el:∀(i:Nat) (h:i < B.length),∃b o a' c',a=some ⟨b,o,none⟩/\H.load ⟨b,o+i*7,none⟩ 1=some [.int .i64 B[i].1]/\H.load ⟨b,o+i*7+1,none⟩ 6=some (six B[i].2 a' c')/\RepT H B[i].2 (six B[i].2 a' c')
theorem RepBs.max {H:Heap}{B:List (Int × Tm)}{a:Option Addr}{c:Nat}(h:RepBs H B a c):B.length<=9223372036854775807:=ZC h.len h.cap
theorem RepBs.mono {H H':Heap}{B:List (Int × Tm)}{a:Option Addr}{c:Nat}(h:RepBs H B a c) (hx:HX H H') (hw:H.wf):RepBs H' B a c :=
 ⟨h.len,h.cap,fun i hi=>let ⟨b,o,a',c',e,l1,l2,r⟩:=h.el i hi;⟨b,o,a',c',e,hx.load hw l1,hx.load hw l2,r.mono hx hw⟩⟩
end Go.Hb
namespace Go.Proofs.hq
open Go Go.RowKit Go.Hb
variable {ok:Ok}
set_option maxRecDepth 10000
attribute [local irreducible] LX LG EL STG SOP SGO SGD SAL SRD SEF SEG SLK SCK ES
set_option maxHeartbeats 2000000 in
theorem zos {B:List (Int × Tm)}{n:Int}{a:Option Addr}{c:Nat}{H:Heap}(h:RepBs H B a c) (hw:H.wf) :
  EvF Tryz.prog okT 13 [.slice a B.length c,.int .i64 n] H fun v H'=>HX H H'/\match B.find? (fun p=>p.1 == n) with
   |some p=>∃cs,v=.tuple #[.agg ⟨cs⟩,.bool true]/\RepT H' p.2 cs
   |none=>v=.tuple #[.agg ⟨zero6⟩,.bool false]:=by
 have hm:=h.max;refine EvF.enter rfl Tryz.func13 (by decide) rfl ?_;(repeat refine qZa ?_);refine qZb ?_;simp (config:=qZc) only[sA,initTm,dAlloc,zr40];obtain⟨H2,e2,hx2,gq,hn2,hw2⟩:=new1 hw (.row zero6 40);simp only[e2]
 repeat' (first|refine qZa ?_|refine qZg ?_|(refine qZb ?_;simp (config:=qZc) only[sA]))
 refine qZk (fun k st=>∃tm i,st=⟨tm,[],H2⟩/\k=B.length - i/\i<=B.length/\(∀p∈B.take i,p.1≠n)/\tm.get 0=some (.slice a B.length c)/\tm.get 1=some (.int .i64 n)/\tm.get 4=some (.pointer (some ⟨H.next,0,none⟩))/\tm.get 6=some (.int .i64 (i:Nat))) ?_ B.length _ ?_
 ·rintro k st ⟨tm,i,rfl,rfl,hi,hn,t0,t1,t4,t6⟩;by_cases hlt:i < B.length
  ·obtain⟨b,o,a',c',rfl,l1,l2,r⟩:=h.el i hlt;have l1:=hx2.load hw l1;have l2:=hx2.load hw l2;by_cases he:B[i].1=n
   ·repeat' (first|refine qZa ?_|refine qZg ?_|(refine qZe ?_;try simp only[z00])|(refine qZf ?_;try simp only[z04,z02])|(refine qZb ?_;simp (config:=qZc) (disch:=first|omega|rfl) only[sB,Za,Zb,one,reduceCtorEq,ln48,ia48,z76,ld3,zkn,ld40,st40,t0,t1,t4,t6,decl hlt,l1,l2,z0v he,gq])|(refine qZd ?_ ?_;simp (config:=qZc) only[sB,Za];refine z01 ?_))
    have hx3:=hx2.pt (Ze _) gq (some (.row (six B[i].2 a' c') 40));have hfind:B.find? (fun p=>p.1 == n)=some B[i]:=by
     rw[List.find?_eq_some_iff_getElem];refine⟨by simp [he],i,hlt,rfl,fun j hj=>?_⟩;have:=hn B[j] (by rw[List.mem_take_iff_getElem];exact⟨j,by omega,rfl⟩);simp [this]
    refine z0d rfl (by simp only[sB,Za,t4];rfl) (by simp only[sB,Zb,cutC,ld40];rfl) (by simp only[sB,Za];rfl) ⟨hx3,?_⟩;rw[hfind];exact⟨_,rfl,r.mono hx3 hw⟩
   ·repeat' (first|refine qZa ?_|refine qZg ?_|(refine qZe ?_;try simp only[sA])|(refine qZb ?_;simp (config:=qZc) (disch:=first|omega|rfl) only[sB,Za,reduceCtorEq,ln48,ia48,z76,ld3,t0,t1,t6,decl hlt,l1,z0h he,z05])|(refine qZd ?_ ?_;simp (config:=qZc) only[sB,Za];refine z01 ?_)|(refine qZm ?_ ?_;simp (config:=qZc) only[sB,Za];refine z01 ?_))
    refine⟨B.length - (i+1),by omega,_,i+1,rfl,rfl,by omega,fun p hp=>?_,(by simp only[sG,reduceCtorEq,t0]),(by simp only[sG,Za,t1]),(by simp only[sG,Za,t4]),(by simp only[sB,Za];rfl)⟩;rw[<-ZL hlt,List.mem_append] at hp;rcases hp with hp|hp
    ·exact hn p hp
    ·simp at hp;rw[hp];exact he
  ·repeat' (first|refine qZa ?_|(refine qZi ?_;try simp only[sB])|(refine qZf ?_)|(refine qZb ?_;simp (config:=qZc) (disch:=first|omega|rfl) only[sB,Za,Zb,Value.cells,one,reduceCtorEq,layC,ln48,st40,bd40,t0,t4,t6,decn hlt,gq])|(refine qZm ?_ ?_;simp (config:=qZc) only[sB,Za];refine z01 ?_))
   rw[Zq (by omega)] at hn;have hfind:B.find? (fun p=>p.1 == n)=none:=by rw[List.find?_eq_none];intro p hp;simp [hn p hp]
   refine z0d rfl (by simp only[sB,Za,t4];rfl) (by simp only[sB,Zb,cutC,ld40];rfl) (by simp only[sB,Za];rfl) ⟨hx2.pt (Ze _) gq _,?_⟩;rw[hfind]
 ·exact⟨_,0,rfl,rfl,by omega,fun p hp=>by simp at hp,(by simp only[sG,reduceCtorEq]),(by simp only[sG,Za,reduceCtorEq]),(by simp only[sG,Za,reduceCtorEq]),(by simp only[sB,Za,reduceCtorEq];rfl)⟩
end Go.Proofs.hq
end

section
namespace Go.Hb
open Go Go.RowKit
theorem gtl {i n:Nat}(h:n < i):decide ((i:Int) > (n:Int))=true:=decide_eq_true (by omega)
theorem gtn {i n:Nat}(h:¬n < i):decide ((i:Int) > (n:Int))=false:=decide_eq_false (by omega)
theorem HK.hxs {S:Nat->Prop}{A B C:Heap}(h:HK S A B) (k:HX B C):HK S A C:=h.trans (k.hk S)
theorem HK.two {b:Nat}{A H:Heap}(h:HK (·=b) A H) (hb:b < H.next) (k:Nat) (B C:Option Blk):HK (·=b) A (((⟨H.next+k,H.t⟩:Heap).put b B).put b C) :=
 ((h.bump k).put (.inl rfl) (ZQ _ hb) B).put (.inl rfl) (ZQ _ hb) C
theorem zhq {α:Type}{i j:Nat}{D:Nat->α}:swF i j D=swF j i D:=by
 funext k;unfold swF
 by_cases h1:k=i
 ·subst h1;rw[if_pos rfl];by_cases h2:k=j
  ·subst h2;rw[if_pos rfl]
  ·rw[if_neg h2,if_pos rfl]
 ·rw[if_neg h1];by_cases h2:k=j
  ·rw[if_pos h2,if_pos h2]
  ·rw[if_neg h2,if_neg h2,if_neg h1]
def swrF {α:Type}(a b k:Nat) (D:Nat->α):Nat->α:=fun i=>if a<=i/\i < a+k then D (i - a+b) else if b<=i/\i < b+k then D (i - b+a) else D i
end Go.Hb
end

section
namespace Go.Proofs.hq
open Go Go.RowKit Go.Hb
variable {ok:Ok}
set_option maxRecDepth 10000
attribute [local irreducible] LX LG EL STG SOP SGO SGD SAL SRD SEF SEG SLK SCK ES
theorem cz_t {a b:Int}(h:a < b):decide (cmpZ a b < 0)=true:=by rw[zf5 h];rfl
theorem cz_f {a b:Int}(h:¬a < b):decide (cmpZ a b < 0)=false:=by
 by_cases e:b < a
 ·rw[zf6 e];rfl
 ·rw[zf7 (by omega)];rfl
abbrev cvB:Value:=.func (.func 58) #[] #[]
theorem z36:callable Tryz.prog 58=true:=by kernel_rfl
theorem z27 {x y:Bnd}{H:Heap}(hw:H.wf):EvF Tryz.prog okT 58 [.agg ⟨x.seven⟩,.agg ⟨y.seven⟩] H fun v H'=>v=.int .i64 (cmpZ x.v y.v)/\HX H H':=by
 refine EvF.enter rfl Tryz.func58 (by decide) rfl ?_;(repeat refine qZa ?_);refine qZb ?_;simp only[sB,initTm,dBox,Za,Value.cells,one,reduceCtorEq];obtain⟨H2,e2,hx2,gp,gq,hn2,hw2⟩:=new2 hw (.row x.seven 87) (.row y.seven 87);simp only[e2];have l1:H2.load ⟨H.next,0,none⟩ 1=some [.int .i64 x.v]:=by simp only[Heap.load,Heap.cells,gp];rfl
 have l2:H2.load ⟨H.next+1,0,none⟩ 1=some [.int .i64 y.v]:=by simp only[Heap.load,Heap.cells,gq];rfl
 repeat' (first|refine qZa ?_|(refine qZb ?_;simp only[sB,Za,reduceCtorEq,z76,ld3,cl59,l1,l2]))
 refine(z6q).mono ?_;rintro v H3 ⟨rfl,rfl⟩
 repeat' (first|(refine qZf ?_))
 exact z03 rfl (by simp only[sG,Za,reduceCtorEq]) ⟨rfl,hx2⟩
set_option maxHeartbeats 4000000 in
theorem zae {b n c a e:Nat}{D:Nat->Bnd}{H:Heap}(hr:RowB H 87 b n D) (hn:n<=bmost) (h1:a<=e) (h3:e<=n) (hw:H.wf) :
  EvF Tryz.prog okT 124 [.slice (some ⟨b,0,none⟩) n c,.int .i64 (a:Nat),.int .i64 (e:Nat),cvB] H fun _ H' =>
   ∃D',RowB H' 87 b n D'/\Pm a e D D'/\InZ Bnd.v a e D'/\HK (·=b) H H':=by
 have hms:bmost<=1048576:=by simp [bmost]
 have hg:=z36;refine EvF.enter rfl Tryz.func124 (by decide) rfl ?_;have hw1:IntKind.i64.wrap ((a:Int)+1)=((a+1:Nat):Int):=by rw[z05 (by omega) (by omega)];omega
 repeat' (first|refine qZa ?_|refine qZg ?_|(refine qZb ?_;simp only[sB,initTm,Za,Zb,reduceCtorEq,hw1]))
 refine qZk (fun k st=>∃tm H' i D',st=⟨tm,[],H'⟩/\k=e - i/\a+1<=i/\tm.get 0=some (.slice (some ⟨b,0,none⟩) n c)/\tm.get 1=some (.int .i64 (a:Nat))/\tm.get 2=some (.int .i64 (e:Nat))/\tm.get 3=some cvB /\
  tm.get 8=some (.int .i64 (i:Nat))/\RowB H' 87 b n D'/\Pm a e D D'/\InZ Bnd.v a i D'/\HK (·=b) H H') ?_ (e - (a+1)) _ ?_
 ·rintro k st ⟨tm,H',i,D',rfl,rfl,hi,t0,t1,t2,t3,t8,hr',hm,ho,hk⟩;by_cases hlt:i < e
  ·(repeat refine qZa ?_);refine qZb ?_;simp only[sB,Za,t8,t2,decl hlt];refine qZd (by simp only[sB,Za]) ?_;(try refine qZe ?_);(try simp only[z00,z0b]);refine qZa ?_;refine qZg ?_;(repeat refine qZa ?_);refine qZb ?_;simp only[sB,Za,t8];refine EvC.meet (fun st=>∃tm H' D',st=⟨tm,[],H'⟩/\tm.get 0=some (.slice (some ⟨b,0,none⟩) n c)/\tm.get 1=some (.int .i64 (a:Nat))/\tm.get 2=some (.int .i64 (e:Nat))/\tm.get 3=some cvB /\
    tm.get 8=some (.int .i64 (i:Nat))/\RowB H' 87 b n D'/\Pm a e D D'/\InZ Bnd.v a (i+1) D'/\HK (·=b) H H') ?_ ?_
   ·refine qZg (qZk (fun k st=>∃tm H' j D',st=⟨tm,[],H'⟩/\k=j/\a<=j/\j<=i/\tm.get 0=some (.slice (some ⟨b,0,none⟩) n c)/\tm.get 1=some (.int .i64 (a:Nat))/\tm.get 2=some (.int .i64 (e:Nat))/\tm.get 3=some cvB /\
     tm.get 8=some (.int .i64 (i:Nat))/\tm.get 9=some (.int .i64 (j:Nat))/\RowB H' 87 b n D'/\Pm a e D D'/\(∀p q,a<=p->p < q->q<=i->p≠j->q≠j->(D' p).v<=(D' q).v)/\(∀q,j < q->q<=i->(D' j).v<=(D' q).v)/\HK (·=b) H H') ?_ i _ ?_)
    ·rintro k st ⟨tm,H',j,D',rfl,rfl,hj,hji,t0,t1,t2,t3,t8,t9,hr',hm,ho1,ho2,hk⟩;by_cases hja:a < k
     ·obtain⟨j,rfl⟩:∃j,k=j+1:=⟨k - 1,by omega⟩
      have hw2:IntKind.i64.wrap (((j+1:Nat):Int) - 1)=((j:Nat):Int):=by rw[z05 (by omega) (by omega)];omega
      have k1:j+1 < n:=by omega
      have k2:j < n:=by omega
      have l1:=hr'.load k1;have l2:=hr'.load k2;have hb:=hk.bump 17
      repeat' (first|refine qZa ?_|(refine qZj (id:=4) [([(0,0),(1,0),(2,0),(3,0),(4,0),(5,0),(6,0),(7,0),(8,0),(9,0),(10,0),(11,0),(12,0),(13,0)],some 14),([(15,1),(16,1)],none)] ?_ ?_;kernel_rfl;simp (disch:=first|omega|rfl) only[sD,sB,Za,Zb,reduceCtorEq,ia48,ld87,t0,t1,t3,t9,gtl hja,hw2,l1,l2,z10,z0m hg,isAlloc,isRead]))
      obtain⟨cells0,hg0,-,-⟩:=hr'.row;have hbl:=hk.wf _ _ hg0;refine(z27 hb.wf).mono ?_;rintro v H2 ⟨rfl,hx2⟩;have hk2:=hb.hxs hx2;have r2:=hr'.heap (H':=H2) (by rw[hx2.keep b (ZQ _ hbl)];rfl);by_cases hc:(D' (j+1)).v < (D' j).v
      ·have l1:=r2.load k1;have l2:=r2.load k2;obtain⟨cells,hg2,hl,he⟩:=r2.row;have hbl2:=hk2.wf _ _ hg2;have le1:(j+1)*7+7<=cells.length:=by have:=mul7 k1;omega
       have le2:j*7+7<=cells.length:=by have:=mul7 k2;omega
       have hsw:=fun H2 h2=>RowB.swap (H:=H') (b:=b) (T:=87) hl he k1 k2 H2 h2
       have ms:=Pm.swap (a:=a) (b:=e) (i:=j) (j:=j+1) (D:=D') (by omega) (by omega) (by omega) (by omega);rw[zhq] at hsw;have o1:∀p q,a<=p->p < q->q<=i->p≠j->q≠j->(swF j (j+1) D' p).v<=(swF j (j+1) D' q).v:=fun p q p1 p2 p3 p4 p5=>by
        unfold swF;rw[if_neg p4,if_neg p5];by_cases e1:p=j+1
        ·rw[if_pos e1,if_neg (by omega)];exact ho1 j q (by omega) (by omega) p3 (by omega) (by omega)
        ·rw[if_neg e1];by_cases e2:q=j+1
         ·rw[if_pos e2];exact ho1 p j p1 (by omega) (by omega) e1 (by omega)
         ·rw[if_neg e2];exact ho1 p q p1 p2 p3 e1 e2
       have o2:∀q,j < q->q<=i->(swF j (j+1) D' j).v<=(swF j (j+1) D' q).v:=fun q q1 q2=>by
        unfold swF;rw[if_pos rfl,if_neg (by omega)];by_cases e2:q=j+1
        ·rw[if_pos e2];omega
        ·rw[if_neg e2];exact ho2 q (by omega) q2
       generalize hE1:D' (j+1)=E1 at *;generalize hE2:D' j=E2 at *;have le3:j*7+7<=(Hb.splice cells ((j+1)*7) E2.seven).length:=by rw[z0k (vs:=E2.seven) le1];exact le2
       repeat' (first|refine qZa ?_|refine qZg ?_|(refine qZe ?_;try simp only[z00])|(refine qZb ?_;simp only[sB,Za,t9,hw2])|(refine qZj (id:=6) [([(0,0),(1,0),(5,0),(6,0),(7,0),(8,0),(9,0),(10,0),(11,0),(12,0),(13,0),(14,0)],some 15),([(2,0),(3,0),(4,0),(16,1)],some 17),([],none)] ?_ ?_;kernel_rfl;simp (disch:=first|omega|rfl) only[sV,sD,sB,Za,Zb,one,reduceCtorEq,ia48,ld87,st87,t0,t9,hw2,l1,l2,hg2,le1,le3,isAlloc,isRead])|(refine z0p ?_;simp only[sD,sB,Za,cz_t hc,isAlloc,isRead])|(refine qZd ?_ ?_;simp only[sB,Za];refine z01 ?_))
       exact⟨j,by omega,_,_,j,_,rfl,rfl,by omega,by omega,(by simp only[sG,reduceCtorEq,t0]),(by simp only[sG,Za,t1]),(by simp only[sG,Za,t2]),(by simp only[sG,Za,t3]),(by simp only[sG,Za,t8]),(by simp only[sG,Za]),hsw _ (by rw[get_put,if_pos rfl]),hm.trans ms,o1,o2,hk2.two hbl2 _ _ _⟩
      ·repeat' (first|(refine qZi ?_;try simp only[sB,reduceCtorEq])|(refine z0p ?_;simp only[sD,sB,Za,cz_f hc,isAlloc,isRead])|(refine qZm ?_ ?_;simp only[sB,Za];refine z01 ?_))
       exact⟨_,_,D',rfl,(by simp only[sG,reduceCtorEq,t0]),(by simp only[sG,Za,t1]),(by simp only[sG,Za,t2]),(by simp only[sG,Za,t3]),(by simp only[sG,Za,t8]),r2,hm,fun p q p1 p2 p3=>by
        by_cases e1:p=j+1
        ·subst e1;exact ho2 q p2 (by omega)
        ·by_cases e2:q=j+1
         ·subst e2;by_cases e3:p=j
          ·subst e3;omega
          ·exact Int.le_trans (ho1 p j p1 (by omega) (by omega) e1 (by omega)) (by omega)
         ·exact ho1 p q p1 p2 (by omega) e1 e2,hk2⟩
     ·repeat' (first|refine qZa ?_|(refine qZi ?_;try simp only[sB,reduceCtorEq])|(refine qZj (id:=4) [([(0,0),(1,0),(2,0),(3,0),(4,0),(5,0),(6,0),(7,0),(8,0),(9,0),(10,0),(11,0),(12,0),(13,0)],some 14),([(15,1),(16,1)],none)] ?_ ?_;kernel_rfl;simp only[sD,sB,Za,Zb,t1,t9,gtn hja,Zd,isAlloc,isRead])|(refine qZm ?_ ?_;simp only[sB,Za];refine z01 ?_))
      obtain rfl:k=a:=by omega
      exact⟨_,_,D',rfl,(by simp only[sG,reduceCtorEq,t0]),(by simp only[sG,Za,t1]),(by simp only[sG,Za,t2]),(by simp only[sG,Za,t3]),(by simp only[sG,Za,t8]),hr'.heap rfl,hm,fun p q p1 p2 p3=>by
       by_cases e1:p=k
       ·subst e1;exact ho2 q p2 (by omega)
       ·exact ho1 p q p1 p2 (by omega) e1 (by omega),hk.bump _⟩
    ·exact⟨_,_,i,D',rfl,rfl,by omega,Ze _,(by simp only[sG,reduceCtorEq,t0]),(by simp only[sG,Za,t1]),(by simp only[sG,Za,t2]),(by simp only[sG,Za,t3]),(by simp only[sG,Za,t8]),(by simp only[sG,Za]),hr',hm,fun p q p1 p2 p3 p4 p5=>ho p q p1 p2 (by omega),fun q q1 q2=>by omega,hk⟩
   ·rintro st ⟨tm,H',D',rfl,t0,t1,t2,t3,t8,hr',hm,ho,hk⟩;have hw2:IntKind.i64.wrap ((i:Int)+1)=((i+1:Nat):Int):=by rw[z05 (by omega) (by omega)];omega
    try simp only[sA]
    repeat' (first|(refine qZb ?_;simp only[sB,Za,t8,hw2]))
    exact⟨e - (i+1),by omega,_,_,i+1,D',rfl,rfl,by omega,(by simp only[sG,reduceCtorEq,t0]),(by simp only[sG,Za,t1]),(by simp only[sG,Za,t2]),(by simp only[sG,Za,t3]),(by simp only[sG,Za]),hr',hm,ho,hk⟩
  ·repeat' (first|refine qZa ?_|(refine qZi ?_;try simp only[sB])|(refine qZb ?_;simp only[sB,Za,t8,t2,decn hlt])|(refine qZm ?_ ?_;simp only[sB,Za];refine z01 ?_))
   exact z0r rfl ⟨D',hr',hm,fun p q p1 p2 p3=>ho p q p1 p2 (by omega),hk⟩
 ·exact⟨_,_,a+1,D,rfl,rfl,Ze _,(by simp only[sG,reduceCtorEq]),(by simp only[sG,Za,reduceCtorEq]),(by simp only[sG,Za,reduceCtorEq]),(by simp only[sG,Za,reduceCtorEq]),(by simp only[sG,Za,reduceCtorEq]),hr,Pm.refl D,InZ.few (by omega),HK.refl hw⟩
end Go.Proofs.hq
end
