import Derived.Test.YtbooidfibigfcaaGreatDoorM3
import Derived.Test.YtbooidfibigfcaaGreatDoorM6
import Derived.Test.YtbooidfibigfcaaGreatDoorM4
/- Lemmas on the program's own code, towards the laws of this folder, part 7. Conditions: as each lemma says. -/
open Bool renaming and_eq_true -> Zk, false_eq_true -> Zg, not_false -> ZM, not_true -> Zv
open ByteArray renaming empty -> Zd
open List renaming getElem?_append_left -> Zz, getElem?_append_right -> ZC, getElem?_drop -> ZN, getElem?_eq_getElem -> Zc, getElem?_eq_none -> Zy, getElem?_map -> Zw, getElem?_take -> ZJ, getElem_mem -> Zu, getElem_of_mem -> ZO, length_append -> Zr, length_cons -> ZD, length_map -> Zp, length_take -> Zo, map_append -> ZI, map_cons -> ZA, mem_of_getElem? -> Zx, not_mem_nil -> ZF, range -> Zh, take_of_length_le -> Zm
open Nat renaming beq_eq -> Zt, le_refl -> Ze, le_trans -> Zj, lt_of_lt_of_le -> Zi, lt_succ_self -> Zf, reduceAdd -> Zb, reduceEqDiff -> Za, reduceLeDiff -> Zq, zero_add -> ZP, zero_le -> Zl, zero_mul -> ZK
section
namespace Go.Proofs.hq
open Go Go.RowKit Go.Hb
variable {ok:Ok}
set_option maxRecDepth 10000
attribute [local irreducible] LX LG EL STG SOP SGO SGD SAL SRD SEF SEG SLK SCK ES
section
variable {H H':Heap}{B p:Nat}{σ σ':MS}{rs:List (List Value)}
theorem MkA.op_beside {H0 H1 H3:Heap}{V:List Value}{cl ts:List (List Value)}(h:MkA H0 B p σ rs) (hw0:H0.wf) (ht:TmsR H0 (OffK H0 p rs) σ.consts ts) (hc:ClsR H0 (OffK H0 p rs) σ.clauses cl) (hx:HX H0 H1) (s3:StR H3 B p 58 (mFlds σ' cl ts rs) V) (x3:SX p H1 H3) (hr:σ'.rows=σ.rows) (h1:σ'.consts=σ.consts) (h2:σ'.clauses=σ.clauses) {n:Nat}(hn1:H0.next<=n) (hn2:n < H1.next) (X:Blk) :
  MkA (H3.put n (some X)) B p σ' rs/\KX H0 (H3.put n (some X)) p rs rs/\(H3.put n (some X)).wf:=by
 have hnm3:∀m,Mut H3 p m->m≠n:=fun m q e=>by
  subst e;rcases x3.mt m q with q|q
  ·have:=h.hi hw0 (.inl ((Mut.same (hx.keep p (h.lt hw0)) m).1 q));omega
  ·omega
 have n3:=x3.next;have n01:=hx.next;have gp:∀m,m≠n->(H3.put n (some X)).get m=H3.get m:=fun m hm=>by rw[get_put,if_neg hm]
 have w4:(H3.put n (some X)).wf:=fun m D hD=>by
  rw[get_put] at hD;rw[z07];split at hD
  ·omega
  ·exact x3.wf _ _ hD
 have s4:=s3.beside (H':=H3.put n (some X)) (fun m q=>gp m (hnm3 m q)) (by rw[z07];exact Ze _);have sx0:=(hx.sx (h.lt hw0)).trans x3;have hp:p≠n:=by have:=h.lt hw0;omega
 have sx4:SX p H0 (H3.put n (some X)):=⟨⟨by rw[z07];omega,fun m hm hq=>by rw[gp m (by omega)];exact sx0.hk.keep m hm hq,w4⟩,fun m q=>sx0.mt m ((Mut.same (gp p hp) m).1 q)⟩
 obtain⟨h4,kx4⟩:=h.turn0 hw0 ht hc s4 sx4 hr h1 h2;exact⟨h4,kx4,w4⟩
set_option maxHeartbeats 4000000 in
theorem zv1 {H0:Heap}(h0:MkA H0 B p σ rs) (hw0:H0.wf) (hx0:HX H0 H) (o a b:Int) (hm:σ.ins.length+1<=most) :
  EvF Tryz.prog okT 38 [ptr p,.int .i64 o,.int .i64 a,.int .i64 b] H fun v H'=>v=.int .i64 (σ.ins.length:Nat)/\(∃a7 c7,H.load ⟨p,7,none⟩ 1=some [.slice a7 σ.starts.length c7]/\H'.load ⟨p,7,none⟩ 1=some [.slice a7 σ.starts.length c7])/\H.next<=H'.next /\
   ∀(n:Nat) (X:Blk),H0.next<=n->n < H.next->MkA (H'.put n (some X)) B p { σ with ins:=σ.ins++[[.int .i64 o,.int .i64 a,.int .i64 b]] } rs/\KX H0 (H'.put n (some X)) p rs rs/\(H'.put n (some X)).wf:=by
 have hw:=hx0.wf;refine EvF.enter rfl Tryz.func38 (by decide) rfl ?_;obtain⟨a2,c2,a4,c4,a5,c5,a6,c6,a7,c7,a8,c8,a9,c9,sv,cl,ts,hs,ht,hc,l0,l1,l2,l3,l4,l5,l6,l7,l8,l9,l10,l11,b2,b4,b5,b6,b7,b8,b9⟩:=h0.open;have l4:=hx0.load hw0 l4;obtain⟨H1,e1,hx1,g1,n1,w1⟩:=new1 hw (.row [.int .i64 o,.int .i64 a,.int .i64 b] 53);have hx01:=hx0.trans hx1;obtain⟨H2,k2,e2,g2,-,-,H3,e3,s3,x3⟩:=(hs.keep hw0 hx01).pushed (P:=Tryz.prog) (i:=4) (c1:=1) w1 ap30 rfl rfl (z5z g1).1 rfl rfl hm;simp only[List.set_cons_zero,List.set_cons_succ] at e2 e3 s3;have l4':=s3.load (i:=4) rfl;have l7':=s3.load (i:=7) rfl
 repeat' (first|refine qZa ?_|(refine qZf ?_)|(refine qZb ?_;simp (config:=qZc) (disch:=first|omega|rfl) only[sB,initTm,Za,Zb,Value.cells,one,reduceCtorEq,Zq,layC,z2w,zgw,ld30,bd53,zql,st30,ln30,z0d,z0o,l4,e1,e2,g2,e3,l4',zpf (Zj b4.1 b4.2)]))
 refine z03 rfl (by simp only[sG,Za,reduceCtorEq]) ⟨rfl,⟨_,_,hx0.load hw0 l7,l7'⟩,by have:=x3.next;omega,fun n X h1 h2=>?_⟩;exact h0.op_beside hw0 (σ':={ σ with ins:=σ.ins++[[.int .i64 o,.int .i64 a,.int .i64 b]] }) ht hc hx01 s3 x3 rfl rfl rfl h1 (by omega) X
end
end Go.Proofs.hq
end

section
namespace Go.Hb
open Go Go.RowKit
section
variable {H:Type}{enc:TypeId × Value->H}{P:Program}{W:World}{sp:Nat->Bool}{fuel:Nat}{t e:TypeId}{cs:List Value}{d:DataW H}{ps:List MemPlace}
theorem zng {k:IntKind}{n:Int}:ab P W (.int k n)=.int k n:=rfl
theorem znh {s:ByteArray}:ab P W (.string s)=.string s:=rfl
theorem z5g {k:IntKind}(ht:P.underlying t=some (.int k)) (h:DataW.trod enc P W 0 sp true fuel t cs=some (d,ps)):∃n,cs=[.int k n]/\(Lit.int k n).wf=true:=by
 cases fuel with
 |zero=>simp [DataW.trod] at h
 |succ m =>
  unfold DataW.trod at h;rw[ht] at h;split at h<;>simp_all
theorem z61 (ht:P.underlying t=some .string) (h:DataW.trod enc P W 0 sp true fuel t cs=some (d,ps)):∃s:ByteArray,cs=[.string s]/\s.size<=maxLen:=by
 cases fuel with
 |zero=>simp [DataW.trod] at h
 |succ m =>
  unfold DataW.trod at h;rw[ht] at h;split at h<;>simp_all
theorem trod_slice (ht:P.underlying t=some (.slice e)) (h:DataW.trod enc P W 0 sp true fuel t cs=some (d,ps)) :
  cs=[.slice none 0 0]\/∃a len cap m,fuel=m+1/\cs=[.slice (some a) len cap]/\len<=cap/\cap<=maxLen /\
   ∀i,i < len->∃es d' ps',W.cells? 0 (a.add (i*P.cellsOf e)) (P.cellsOf e)=some es/\DataW.trod enc P W 0 sp true m e es=some (d',ps'):=by
 cases fuel with
 |zero=>simp [DataW.trod] at h
 |succ m =>
  unfold DataW.trod at h;rw[ht] at h;split at h<;>simp_all
  obtain⟨⟨hl,hc⟩,h⟩:=h;simp only[Option.bind_eq_some_iff,Option.map_eq_some_iff] at h;obtain⟨elems,he,_⟩:=h;refine⟨_,_,_,⟨rfl,rfl,rfl⟩,hl,hc,fun i hi=>?_⟩;have hlen:=mapM_some_length he;have:=mapM_some_get he i i (by simp [hi]);rw[Zc (by rw[hlen];simpa using hi)] at this;simp only[Option.bind_eq_some_iff] at this;obtain⟨es,h1,h2⟩:=this;exact⟨es,h1,_,_,h2⟩
theorem ztg (a:Addr) (i:Nat):(a.add i).block=a.block:=by unfold Addr.add;split<;>rfl
theorem z40 {a:Addr}{s i:Nat}{es:List Value}(hs:0 < s) (h:W.cells? 0 (a.add (i*s)) s=some es) (hsp:a.spot=none):(heapW P W).load ⟨a.block,a.off+i*s,none⟩ s=some (es.map (ab P W))/\es.length=s/\a.block < W.heap.size:=by
 obtain⟨_,hl,hc⟩:=World.cells?_some h;obtain⟨b,o,sp⟩:=a;obtain rfl:sp=none:=hsp;have hb:=World.cells?_block h hs;rw[ztg] at hb;refine⟨ziu hs hl fun j v hj=>?_,hl,hb⟩;have hjl:j < es.length:=(List.getElem?_eq_some_iff.1 hj).1;have:=hc j (by omega);rw[add0,add0] at this;rw[this];exact hj
theorem z7f {a:Addr}{s:Nat}{es:List Value}(hs:0 < s) (h:W.cells? 0 (a.add (0*s)) s=some es):a.spot=none:=by
 obtain⟨_,hl,hc⟩:=World.cells?_some h;have e0:∀a:Addr,a.add 0=a:=fun a=>by unfold Addr.add;simp
 have:=hc 0 hs;rw[ZK,e0,e0,Zc (by omega)] at this;unfold World.cell? at this;split at this
 ·split at this
  ·cases this
  ·rename_i hn;simpa using hn
 ·cases this
end
section
variable {H:Type}{enc:TypeId × Value->H}{P:Program}{W:World}{sp:Nat->Bool}
structure TermTypes (P:Program) (tT tS tI tG tU:TypeId):Prop where
 fields:∃fs:Array Field,P.underlying tT=some (.struct fs)/\(fs.toList.map fun f=>(f.offset,f.type))=[(0,tI),(1,tG),(2,tG),(3,tU),(4,tI),(5,tS)]
 slice:P.underlying tS=some (.slice tT)
 int:P.underlying tI=some (.int .i64)
 str:P.underlying tG=some .string
 u64:P.underlying tU=some (.int .u64)
 cT:P.cellsOf tT=6
 cS:P.cellsOf tS=1
 cI:P.cellsOf tI=1
 cG:P.cellsOf tG=1
 cU:P.cellsOf tU=1
theorem zb2 {n:Int}(h:(Lit.int .i64 n).wf=true):i64 n:=by
 unfold i64;unfold Lit.wf at h;simp [IntKind.min,IntKind.max,IntKind.bits,IntKind.signed] at h;exact h
theorem zrg {n:Int}(h:(Lit.int .u64 n).wf=true):u64 n:=by
 unfold u64;unfold Lit.wf at h;simp [IntKind.min,IntKind.max,IntKind.bits,IntKind.signed] at h;exact h
theorem z4h {cs:List Value}{o:Nat}{v:Value}(h:(cs.drop o).take 1=[v]):cs[o]?=some v:=by
 have:((cs.drop o).take 1)[0]?=some v:=by rw[h];rfl
 simpa [ZJ,ZN] using this
theorem zi7 {cs:List Value}{a b c d e f:Value}(hl:cs.length=6) (h0:cs[0]?=some a) (h1:cs[1]?=some b) (h2:cs[2]?=some c) (h3:cs[3]?=some d) (h4:cs[4]?=some e) (h5:cs[5]?=some f):cs=[a,b,c,d,e,f]:=by
 match cs,hl with
 |[_,_,_,_,_,_],_=>simp at h0 h1 h2 h3 h4 h5;simp [h0,h1,h2,h3,h4,h5]
end
end Go.Hb
end

section
namespace Go.Hb
open Go Go.RowKit
section
variable {H:Type}{enc:TypeId × Value->H}{P:Program}{W:World}{sp:Nat->Bool}
end
end Go.Hb
end

section
namespace Go.Proofs.hq
open Go Go.RowKit Go.Hb
section
variable {H:Type}{enc:TypeId × Value->H}{P:Program}{W:World}{sp:Nat->Bool}
structure Wt (w:DataW H->Nat):Prop where
 pos:∀d,1<=w d
 agg:∀ps,(ps.map w).sum+1<=w (.agg ps)
 slice:∀es rest,(es.map w).sum+1<=w (.slice es rest)
theorem z30 {fuel:Nat}{t:TypeId}{cs:List Value}{d:DataW H}{ps:List MemPlace}{fs:Array Field}(ht:P.underlying t=some (.struct fs)) (h:DataW.trod enc P W 0 sp true fuel t cs=some (d,ps)) :
  ∃(m:Nat) (xs:List (DataW H × List MemPlace)),fuel=m+1/\cs.length=P.cellsOf t/\d=.agg (xs.map (·.1))/\∀(i:Nat) (f:Field),fs[i]?=some f->∃x,xs[i]?=some x/\DataW.trod enc P W 0 sp true m f.type ((cs.drop f.offset).take (P.cellsOf f.type))=some x:=by
 cases fuel with
 |zero=>simp [DataW.trod] at h
 |succ m =>
  unfold DataW.trod at h;rw[ht] at h;have h':(if cs.length=P.cellsOf t then (fs.toList.mapM fun f=>DataW.trod enc P W 0 sp true m f.type ((cs.drop f.offset).take (P.cellsOf f.type))).map fun xs=>(DataW.agg (xs.map (·.1)),xs.flatMap (·.2)) else none)=some (d,ps):=by
   split at h<;>first|exact h|simp_all
  split at h'
  ·rename_i hl;rw[Option.map_eq_some_iff] at h';obtain⟨xs,hx,he⟩:=h';cases he;refine⟨m,xs,rfl,hl,rfl,fun i f hf=>?_⟩;have hlen:=mapM_some_length hx;have:=mapM_some_get hx i f (by simpa using hf);have hi:=(Array.getElem?_eq_some_iff.1 hf).1;have hix:i < xs.length:=by rw[hlen];simpa using hi
   rw[Zc hix] at this;exact⟨xs[i],Zc hix,this⟩
  ·cases h'
theorem z7t {fuel:Nat}{t e:TypeId}{cs:List Value}{d:DataW H}{ps:List MemPlace}(ht:P.underlying t=some (.slice e)) (h:DataW.trod enc P W 0 sp true fuel t cs=some (d,ps)) :
  cs=[.slice none 0 0]\/∃(a:Addr) (cap m:Nat) (elems:List (DataW H × List MemPlace)) (rest:List (DataW H)),fuel=m+1/\cs=[.slice (some a) elems.length cap]/\elems.length<=cap/\cap<=maxLen/\d=.slice (elems.map (·.1)) rest /\
   ∀i x,elems[i]?=some x->∃es,W.cells? 0 (a.add (i*P.cellsOf e)) (P.cellsOf e)=some es/\DataW.trod enc P W 0 sp true m e es=some x:=by
 rcases DataW.trod_slice ht h with ⟨h1,-⟩|⟨a,len,cap,elems,rest,n,rfl,rfl,hx,-,hl,hm,rfl,hel,-⟩
 ·exact .inl h1
 ·cases hx;refine .inr ⟨a,cap,n,elems,_,rfl,rfl,hl,hm,rfl,fun i x hx=>?_⟩;have hi:=(List.getElem?_eq_some_iff.1 hx).1;have:=hel i hi;rw[hx,Option.bind_eq_some_iff] at this;exact this
theorem zfp:nd.ndL []=0:=by rw[nd.ndL]
theorem z84 {t:Tm}{l:List Tm}:nd.ndL (t :: l)=nd t+nd.ndL l:=by rw[nd.ndL]
theorem zrh (t:Tm):1<=nd t:=by rw[z1f];omega
theorem zni:∀l:List Tm,l.length<=nd.ndL l
 |[]=>Zl _
 |t :: l=>by have:=zni l;have:=zrh t;rw[z84,ZD];omega
theorem zri {w:DataW H->Nat}:∀(es:List (DataW H × List MemPlace)) (f:Nat->Tm),(∀i x,es[i]?=some x->7*nd (f i)<=w x.1)->7*nd.ndL ((Zh es.length).map f)<=((es.map (·.1)).map w).sum
 |[],f,_=>by simp [zfp]
 |x :: es,f,h=>by
  have h0:=h 0 x rfl;have ih:=zri (w:=w) es (fun i=>f (i+1)) fun i y hy=>h (i+1) y hy
  rw[ZD,List.range_succ_eq_map,ZA,List.map_map,z84,ZA,ZA,List.sum_cons];have e:(f ∘ Nat.succ)=fun i=>f (i+1):=rfl
  rw[e];omega
theorem zpk {b:Nat}{B:Blk}(h:(heapW P W).get b=some B):∃cs e,B=.ro cs e:=by
 rw[z6d] at h;split at h
 ·unfold blkW at h;split at h
  ·cases h;exact⟨_,_,rfl⟩
  ·cases h
 ·cases h
theorem zth {b o n:Nat}{cs:List Value}(h:(heapW P W).load ⟨b,o,none⟩ n=some cs):∃cs e,(heapW P W).get b=some (.ro cs e):=by
 cases hg:(heapW P W).get b with
 |none=>unfold Heap.load Heap.cells at h;simp [hg] at h
 |some B=>obtain⟨cs,e,rfl⟩:=zpk hg;exact⟨cs,e,rfl⟩
theorem zti {tT tS tI tG tU:TypeId}(T:TermTypes P tT tS tI tG tU) {w:DataW H->Nat}{a:Addr}{m cap:Nat}{elems:List (DataW H × List MemPlace)}
  (hnc:elems.length<=cap) (hcm:cap<=maxLen)
  (ih:∀(cs:List Value) (d:DataW H) (ps:List MemPlace),DataW.trod enc P W 0 sp true m tT cs=some (d,ps)->∃t,RepT (heapW P W) t (cs.map (ab P W))/\7*nd t<=w d)
  (hel:∀i x,elems[i]?=some x->∃es,W.cells? 0 (a.add (i*P.cellsOf tT)) (P.cellsOf tT)=some es/\DataW.trod enc P W 0 sp true m tT es=some x) :
  ∃l a' cells,ab P W (.slice (some a) elems.length cap)=.slice (some a') l.length cap/\RepL (heapW P W) l (some a') cap cells/\7*nd.ndL l<=((elems.map (·.1)).map w).sum/\(0 < l.length->a'.spot=none/\∃cs e,(heapW P W).get a'.block=some (.ro cs e)):=by
 rw[T.cT] at hel;have hsp:0 < elems.length->a.spot=none:=fun hn=>by
  obtain⟨es,he,_⟩:=hel 0 elems[0] (Zc hn);exact z7f (by omega) he
 have key:∀i,∃t cells,(∀x,elems[i]?=some x->(heapW P W).load ⟨a.block,a.off+i*6,none⟩ 6=some cells/\RepT (heapW P W) t cells/\7*nd t<=w x.1):=fun i=>by
  by_cases hi:i < elems.length
  ·obtain⟨es,he,ht⟩:=hel i elems[i] (Zc hi);obtain⟨t,hr,hwt⟩:=ih es elems[i].1 elems[i].2 ht;exact⟨t,_,fun x hx=>by rw[Zc hi] at hx;cases hx;exact⟨(z40 (by omega) he (hsp (by omega))).1,hr,hwt⟩⟩
  ·exact⟨.mk 0 Zd Zd 0 0 [],[],fun x hx=>absurd (List.getElem?_eq_some_iff.1 hx).1 hi⟩
 obtain⟨T',hT'⟩:=Classical.axiomOfChoice key;obtain⟨C,hC⟩:=Classical.axiomOfChoice hT';have hlen:((Zh elems.length).map T').length=elems.length:=by simp
 have hsum:=zri (w:=w) elems T' fun i x hx=>(hC i x hx).2.2
 by_cases hn:0 < elems.length
 ·have hbl:a.block < W.heap.size:=by
   obtain⟨es,he,_⟩:=hel 0 elems[0] (Zc hn);exact(z40 (P:=P) (by omega) he (hsp hn)).2.2
  have hab:ab P W (.slice (some a) elems.length cap)=.slice (some a) ((Zh elems.length).map T').length cap:=by
   unfold ab;rw[hlen];simp only;rw[if_pos ⟨hnc,hcm⟩,if_pos ⟨hsp hn,hbl⟩]
  refine⟨(Zh elems.length).map T',a,C,hab,⟨by rw[hlen];exact hnc,hcm,fun h=>(by cases h),fun i ad hi ha=>?_,fun i t ht=>?_⟩,hsum,fun _=>⟨hsp hn,zth (hC 0 _ (Zc hn)).1⟩⟩
  ·cases ha;rw[hlen] at hi;exact⟨hsp hn,(hC i _ (Zc hi)).1⟩
  ·rw[Zw,Option.map_eq_some_iff] at ht;obtain⟨j,hj,rfl⟩:=ht;have hi:i < elems.length:=by have:=(List.getElem?_eq_some_iff.1 hj).1;simpa using this
   rw[List.getElem?_range hi] at hj;cases hj;exact(hC i _ (Zc hi)).2.1
 ·have hn0:elems.length=0:=by omega
  obtain⟨a',hab⟩:∃a',ab P W (.slice (some a) elems.length cap)=.slice (some a') 0 cap:=by
   unfold ab;simp only;rw[if_pos ⟨hnc,hcm⟩,hn0];split
   ·exact⟨_,rfl⟩
   ·exact⟨_,rfl⟩
  exact⟨[],a',fun _=>[],hab,⟨Zl _,hcm,fun h=>(by cases h),fun i ad hi=>by simp at hi,fun i t h=>by simp at h⟩,by simp [zfp],fun h=>by simp at h⟩
theorem ztj {tT tS tI tG tU:TypeId}(T:TermTypes P tT tS tI tG tU) {w:DataW H->Nat}(hw:Wt w):∀(fuel:Nat) (cs:List Value) (d:DataW H) (ps:List MemPlace),DataW.trod enc P W 0 sp true fuel tT cs=some (d,ps)->∃t,RepT (heapW P W) t (cs.map (ab P W))/\7*nd t<=w d:=by
 intro fuel
 induction fuel using Nat.strongRecOn with
 |_ fuel ih =>
 intro cs d ps h;obtain⟨fs,hf,hfs⟩:=T.fields;obtain⟨m,xs,rfl,hl,rfl,hall⟩:=z30 hf h;rw[T.cT] at hl;have fld:∀i o u,((fs.toList.map fun f=>(f.offset,f.type)))[i]?=some (o,u)->P.cellsOf u=1->∃x,xs[i]?=some x/\DataW.trod enc P W 0 sp true m u ((cs.drop o).take 1)=some x:=fun i o u hi hu=>by
  rw[Zw,Option.map_eq_some_iff] at hi;obtain⟨f,hf1,hf2⟩:=hi;obtain⟨x,hx,hd⟩:=hall i f (by simpa using hf1);cases hf2;rw[hu] at hd;exact⟨x,hx,hd⟩
 rw[hfs] at fld;obtain⟨d0,p0,t0⟩:=fld 0 0 tI rfl T.cI;obtain⟨d1,p1,t1⟩:=fld 1 1 tG rfl T.cG;obtain⟨d2,p2,t2⟩:=fld 2 2 tG rfl T.cG;obtain⟨d3,p3,t3⟩:=fld 3 3 tU rfl T.cU;obtain⟨d4,p4,t4⟩:=fld 4 4 tI rfl T.cI;obtain⟨d5,p5,t5⟩:=fld 5 5 tS rfl T.cS;have hbulk:6+w d5.1<=w (.agg (xs.map (·.1))):=by
  have h1:=hw.agg (xs.map (·.1))
  match xs,p0,p1,p2,p3,p4,p5,h1 with
  |x0 :: x1 :: x2 :: x3 :: x4 :: x5 :: r,p0,p1,p2,p3,p4,p5,h1 =>
   cases p5;simp only[ZA,List.sum_cons] at h1 ⊢;have:=hw.pos x0.1;have:=hw.pos x1.1;have:=hw.pos x2.1;have:=hw.pos x3.1;have:=hw.pos x4.1;omega
 obtain⟨k,h0,w0⟩:=z5g T.int t0;obtain⟨s,h1,w1⟩:=z61 T.str t1;obtain⟨u,h2,w2⟩:=z61 T.str t2;obtain⟨b,h3,w3⟩:=z5g T.u64 t3;obtain⟨v,h4,w4⟩:=z5g T.int t4;have hp5:=hw.pos d5.1;obtain⟨d5,q5⟩:=d5;rcases z7t T.slice t5 with h5|⟨a,c,m',elems,rest,rfl,h5,hnc,hcm,rfl,hel⟩
 ·rw[zi7 hl (z4h h0) (z4h h1) (z4h h2) (z4h h3) (z4h h4) (z4h h5)];refine⟨.mk k s u b v [],.mk k s u b v [] none 0 (fun _=>[]) (zb2 w0) w1 w2 (zrg w3) (zb2 w4) (Zl _) (Ze _) (Zl _) (fun _=>⟨rfl,rfl⟩) (fun i ad hi=>by simp at hi) (fun i t ht=>by simp at ht),?_⟩;rw[z1f,show (Tm.mk k s u b v []).args=[] from rfl,zfp];(try simp only at hbulk);(try simp only at hp5);omega
 ·rw[zi7 hl (z4h h0) (z4h h1) (z4h h2) (z4h h3) (z4h h4) (z4h h5)];obtain⟨l,a',C,hab,rl,hn,-⟩:=zti T hnc hcm (ih m' (by omega)) hel;simp only[ZA,List.map_nil,zng,znh,hab];refine⟨.mk k s u b v l,.mk k s u b v l (some a') c C (zb2 w0) w1 w2 (zrg w3) (zb2 w4) (Zj rl.len hcm) rl.len hcm (fun h=>(by cases h)) rl.load rl.rep,?_⟩;rw[z1f,show (Tm.mk k s u b v l).args=l from rfl];have:=hw.slice (elems.map (·.1)) rest;(try simp only at hbulk);(try simp only at hp5);omega
end
end Go.Proofs.hq
end

section
namespace Go.Proofs.hq
open Go Go.RowKit Go.Hb
variable {ok:Ok}
set_option maxRecDepth 10000
attribute [local irreducible] LX LG EL STG SOP SGO SGD SAL SRD SEF SEG SLK SCK ES
end Go.Proofs.hq
end

section
namespace Go.Hb
open Go Go.RowKit
end Go.Hb
namespace Go.Proofs.hq
open Go Go.RowKit Go.Hb
variable {ok:Ok}
set_option maxRecDepth 10000
attribute [local irreducible] LX LG EL STG SOP SGO SGD SAL SRD SEF SEG SLK SCK ES
end Go.Proofs.hq
end

section
namespace Go.Proofs.hq
open Go Go.RowKit Go.Hb
theorem znj:∀l:List Tm,(occL l).length<=nd.ndL l
 |[]=>by rw[occL];exact Zl _
 |t :: l=>by have:=znj l;have:=zme _ t (Zf _);rw[z84,occL,Zr];omega
end Go.Proofs.hq
end

section
namespace Go.Proofs.hq
open Go Go.RowKit Go.Hb
variable {ok:Ok}
set_option maxRecDepth 10000
attribute [local irreducible] LX LG EL STG SOP SGO SGD SAL SRD SEF SEG SLK SCK ES
section
variable {H H':Heap}{B p x:Nat}{σ σ':MS}{rs:List (List Value)}
structure GrC (σ σ':MS) (k:Nat):Prop where
 key:σ'.key=σ.key
 index:σ'.index=σ.index
 clauses:σ'.clauses=σ.clauses
 rows:σ'.rows=σ.rows
 rest:σ'.rest=σ.rest
 st:σ'.starts.length<=σ.starts.length+k
 ins:σ'.ins.length<=σ.ins.length+k
 cs:σ'.consts.length<=σ.consts.length+k
 fs:σ'.funs.length<=σ.funs.length+k
 gc:σ.consts.Nodup->σ'.consts.Nodup
 gf:σ.funs.Nodup->σ'.funs.Nodup
theorem Gr.c {k:Nat}(h:Gr σ σ' k):GrC σ σ' k:=⟨h.key,h.index,h.clauses,h.rows,h.rest,by rw[h.starts];omega,h.ins,h.cs,h.fs,h.gc,h.gf⟩
theorem GrC.trans {σ2:MS}{k k':Nat}(h:GrC σ σ' k) (g:GrC σ' σ2 k'):GrC σ σ2 (k+k') :=
 ⟨g.key.trans h.key,g.index.trans h.index,g.clauses.trans h.clauses,g.rows.trans h.rows,g.rest.trans h.rest,by have:=h.st;have:=g.st;omega,by have:=h.ins;have:=g.ins;omega,by have:=h.cs;have:=g.cs;omega,by have:=h.fs;have:=g.fs;omega,fun q=>g.gc (h.gc q),fun q=>g.gf (h.gf q)⟩
theorem GrC.up {k k':Nat}(h:GrC σ σ' k) (hk:k<=k'):GrC σ σ' k':={ h with st:=by have:=h.st;omega,ins:=by have:=h.ins;omega,cs:=by have:=h.cs;omega,fs:=by have:=h.fs;omega }
structure RoomC (σ:MS) (k:Nat):Prop where
 room:Room σ k
 st:σ.starts.length+k<=most
theorem GrC.room {k m:Nat}(h:GrC σ σ' k) (g:RoomC σ m) (hk:k<=m):RoomC σ' (m - k) :=
 ⟨⟨by have:=h.ins;have:=g.room.ins;omega,by have:=h.cs;have:=g.room.cs;omega,by have:=h.fs;have:=g.room.fs;omega⟩,by have:=h.st;have:=g.st;omega⟩
theorem MkA.anew (h:MkA H B p σ rs) (hw:H.wf):∃V H1 H2,H.new (some (.map [] 0))=H1/\H1.get p=some (.row V 58)/\10+1<=V.length/\H1.put p (some (.row (Hb.splice V 10 [.map (some H.next)]) 58))=H2/\MkA H2 B p { σ with seen:=some [] } rs/\KX H H2 p rs rs/\H2.wf:=by
 obtain⟨H1,e1,hx1,g1,n1,w1⟩:=new1 hw (.map [] 0);obtain⟨a2,c2,a4,c4,a5,c5,a6,c6,a7,c7,a8,c8,a9,c9,sv,cl,ts,hs,ht,hc,l0,l1,l2,l3,l4,l5,l6,l7,l8,l9,l10,l11,b2,b4,b5,b6,b7,b8,b9⟩:=h.open;obtain⟨hs2,sx⟩:=hs.put hw w1 (by omega) (i:=10) (v:=sv) (v':=.map (some H.next)) rfl (fun n hn _=>hx1.keep n hn) (f':=.mp (seenM [])) ⟨H.next,[],0,rfl,Zj hs.ge (Nat.le_of_lt (h.lt hw)),by omega,g1,rfl⟩ (fun n hn=>.inr (by cases hn;exact Ze _)) rfl;obtain⟨h2,kx2⟩:=h.turn0 (σ':={ σ with seen:=some [] }) hw ht hc hs2 sx rfl rfl rfl;exact⟨_,H1,_,e1,(hx1.keep p (h.lt hw)).trans hs.obj,by simp,rfl,h2,kx2,sx.wf⟩
theorem MkA.start (h:MkA H B p σ rs) (hw:H.wf) {ad:Addr}{c1:Nat}{x:Value}(hl:H.load ad (1*1)=some [x]) (hx1:one x=true) (hm:σ.starts.length+1<=most):∃a7 c7,H.load ⟨p,7,none⟩ 1=some [.slice a7 σ.starts.length c7]/\∃H2 V c',dAp Tryz.prog #[32,32] (.slice a7 σ.starts.length c7) (.slice (some ad) 1 c1) H=some (.val (.slice (some ⟨H.next,0,none⟩) (σ.starts.length+1) c') H2)/\H2.get p=some (.row V 58)/\7+1<=V.length /\
  ∃H3,H2.put p (some (.row (Hb.splice V 7 [.slice (some ⟨H.next,0,none⟩) (σ.starts.length+1) c']) 58))=H3/\MkA H3 B p { σ with starts:=σ.starts++[[x]] } rs/\KX H H3 p rs rs/\H3.wf:=by
 obtain⟨a2,c2,a4,c4,a5,c5,a6,c6,a7,c7,a8,c8,a9,c9,sv,cl,ts,hs,ht,hc,l0,l1,l2,l3,l4,l5,l6,l7,l8,l9,l10,l11,b2,b4,b5,b6,b7,b8,b9⟩:=h.open;obtain⟨H2,c',e2,g2,w2,k2,H3,e3,s3,x3⟩:=hs.pushed (P:=Tryz.prog) (i:=7) (c1:=c1) (t:=32) hw ap32 rfl rfl hl rfl (by simp [hx1]) hm;obtain⟨h3,kx3⟩:=h.turn0 (σ':={ σ with starts:=σ.starts++[[x]] }) hw ht hc (by simpa [mFlds] using s3) x3 rfl rfl rfl;exact⟨a7,c7,l7,H2,_,c',e2,g2,by simp,H3,e3,h3,kx3,x3.wf⟩
theorem znk {H:Heap}{p:Nat}{T:TypeId}{x0 x1 x2 x3 x4 x5 x6 x7 x8 x9 xa xb xc xd xe:Value}(h:H.get p=some (Blk.row [x0,x1,x2,x3,x4,x5,x6,x7,x8,x9,xa,xb,xc,xd,xe] T)):H.load ⟨p,1,none⟩ 1=some [x1]/\H.load ⟨p,5,none⟩ 1=some [x5]:=by
 refine⟨?_,?_⟩<;>simp only[Heap.load,Heap.cells,h]<;>rfl
theorem z4i {i:Nat}(h:i+1<=9223372036854775807):IntKind.i64.wrap ((i:Int)+1)=((i+1:Nat):Int):=by rw[z0c (by omega) (by omega)];omega
theorem GoodC.sizes {c:Cls}(h:GoodC c):Fine c.head/\nd c.head<=400/\szB c.body<=800/\∃n:Nat,c.vars=(n:Int)/\n<=400:=by
 obtain⟨u,h1,h2⟩:=h.good.ex;have h3:=(zfh h1 h2).2;have h4:=h.few;have h5:=znj [c.head,toldB c.body];have h6:=z7z (occL [c.head,toldB c.body]);simp only[nd.ndL] at h5;exact⟨(z0k.1 h.head).2,by omega,by omega,_,h.vars,by omega⟩
set_option maxHeartbeats 16000000 in
theorem zjt {H0:Heap}(hw0:H0.wf) (hB:H0.next<=B) {c:Cls}{cs:List Value}(r:RdC H0 c cs) (hx0:HX H0 H) (h:MkA H B p σ rs) (hw:H.wf) (hg:GoodC c) (hroom:RoomC σ 8000) :
  EvF Tryz.prog okT 16 [ptr p,.agg ⟨cs⟩] H fun _ H'=>∃ σ',MkA H' B p σ' rs/\KX H H' p rs rs/\GrC σ σ' 8000/\H'.wf:=by
 obtain⟨ha,hcc,ta,tc,a,k,rfl,rh,rb⟩:=r;refine EvF.enter rfl Tryz.func16 (by decide) rfl ?_;(repeat refine qZa ?_);refine qZb ?_;simp (config:=qZc) (disch:=first|omega|rfl) only[sB,initTm,dBox,Value.cells,one,reduceCtorEq];obtain⟨H1,e1,hx1,g1,n1,w1⟩:=new1 hw (.row (fift c.head ha hcc c.body.kind c.body.term ta tc a c.body.sub.length k c.vars) 47);simp only[e1];clear e1;obtain⟨h1,kx1⟩:=h.keep hw hx1;obtain⟨V,H2,H3,e2,gV,hV,e3,h3,kx3,w3⟩:=h1.anew w1;obtain⟨V',H4,-,gV',hV',e4,h4,kx4,w4⟩:=h3.marked w3 0;have kx14:=kx1.trans (kx3.trans kx4);have hoff:OffK H1 p rs H.next:=h.fresh hw hx1 (Ze _) (by omega);have kx24:=kx3.trans kx4;have g4:=(kx24.off hoff).1.trans g1;have q4:=z26 g4;have gr4:GrC σ { σ with seen:=some [],marks:=0 } 0:=⟨rfl,rfl,rfl,rfl,rfl,Ze _,Ze _,Ze _,Ze _,id,id⟩
 obtain⟨Hb,eb,hxb,wb⟩:=z3l w4 16;have qb:=z26 (hxb.get w4 g4)
 repeat' (first|refine qZa ?_|(refine qZb ?_;simp (config:=qZc) (disch:=first|omega|rfl) only[sB,Za,Zb,one,reduceCtorEq,zqi,st56,zqj,st3,z0d,z0o,z4b,e2,gV,hV,e3,gV',hV',e4])|(refine qZj [([(6,0),(7,0),(8,0)],some 9),([(1,0),(2,0),(3,0),(4,0),(5,0),(10,1)],some 11),([(0,0),(12,2),(13,2),(14,2)],some 15),([],none)] ?_ ?_;kernel_rfl;simp (config:=qZc) (disch:=first|omega|rfl) only[sD,sB,Za,Zb,reduceCtorEq,zdd,ld3,cl38,eb,qb,isAlloc,isRead]))
 refine(zv1 h4 w4 hxb 1 c.vars 0 (by have:=hroom.room.ins;simp only;omega)).mono ?_;rintro v H5 ⟨rfl,⟨a7,c7,l7b,l7⟩,hn5,hput⟩;have nb:H4.next+16=Hb.next:=by rw[<-eb]
 obtain⟨h6,kx6,w6⟩:=hput (H4.next+10) (.row [.int .i64 (σ.ins.length:Nat)] 3) (by omega) (by omega);obtain⟨H6,e6⟩:∃H6,H5.put (H4.next+10) (some (.row [.int .i64 (σ.ins.length:Nat)] 3))=H6:=⟨_,rfl⟩
 have g6:H6.get (H4.next+10)=some (.row [.int .i64 (σ.ins.length:Nat)] 3):=by rw[<-e6,get_put,if_pos rfl]
 rw[e6] at h6 kx6 w6;obtain⟨a7',c7',l7',H7,V7,c8,e7,g7,hV7,H8,e8,h8,kx8,w8⟩:=h6.start w6 (ad:=⟨H4.next+10,0,none⟩) (c1:=1) (zfl g6) rfl (by have:=hroom.st;simp only;omega);have hpn:p < H4.next:=h4.lt w4;have l76:H6.load ⟨p,7,none⟩ 1=H5.load ⟨p,7,none⟩ 1:=by
  rw[<-e6];unfold Heap.load Heap.cells;rw[get_put,if_neg (by simp only;omega)]
 obtain⟨rfl,rfl⟩:a7=a7'/\c7=c7':=by
  rw[l7',l7] at l76;simp only[Option.some.injEq,List.cons.injEq,Value.slice.injEq,and_true,true_and] at l76;exact⟨l76.1.symm,l76.2.symm⟩
 obtain⟨hfine,hnh,hszb,nv,hnv,hnv4⟩:=hg.sizes;have kx08:=kx24.trans (kx6.trans kx8);have g8:=(kx08.off hoff).1.trans g1;have q8:=znk g8;obtain⟨a0,c0,cells0,hcs,-,-,-,-,-,rl⟩:=rh.six;obtain⟨-,-,-,-,-,rfl,rfl⟩:=z78 hcs;have hmx:c.head.args.length<=9223372036854775807:=by have:=rl.max;unfold maxLen at *;omega
 obtain⟨σ8,eσ⟩:∃ σ8:MS,σ8={ key:=σ.key,index:=σ.index,clauses:=σ.clauses,ins:=σ.ins++[[.int .i64 1,.int .i64 c.vars,.int .i64 0]],consts:=σ.consts,funs:=σ.funs,starts:=σ.starts++[[.int .i64 (σ.ins.length:Nat)]],rows:=σ.rows,rest:=σ.rest,seen:=some [],marks:=0 }:=⟨_,rfl⟩
 have h8':MkA H8 B p σ8 rs:=by rw[eσ];exact h8
 have gr8:GrC σ σ8 1:=by
  rw[eσ];exact⟨rfl,rfl,rfl,rfl,rfl,by simp,by simp,Nat.le_succ _,Nat.le_succ _,id,id⟩
 have hsn8:σ8.seen.isSome=true:=by rw[eσ];rfl
 have rm8:=gr8.room hroom (by omega);clear eσ h8;have hx1':=hx0.trans hx1
 repeat' (first|refine qZa ?_|(refine qZb ?_;simp (config:=qZc) (disch:=first|omega|rfl) only[sB,Za,reduceCtorEq,z4f,z0u,ld26,ln26,q8])|(refine z0p ?_;simp (config:=qZc) (disch:=first|omega|rfl) only[sV,sD,sB,Za,Zb,Value.cells,one,reduceCtorEq,layC,z2w,ztz,ld32,zde,st32,z0d,z0o,l7,l7b,e6,e7,g7,hV7,e8,isAlloc,isRead,dalloc]))
 (repeat refine qZa ?_);refine EvC.join (fun st=>∃(tm:Tr Value) (G:Heap) (σ9:MS),st=⟨tm,[],G⟩/\tm.get 0=some (ptr p)/\tm.get 3=some (.pointer (some ⟨H.next,0,none⟩))/\MkA G B p σ9 rs/\KX H1 G p rs rs/\Gr σ8 σ9 1200/\G.wf) ?_ ?_
 ·refine qZg (qZk (fun k' st=>∃tm G j σj,st=⟨tm,[],G⟩/\k'=c.head.args.length - j/\j<=c.head.args.length /\
   tm.get 0=some (ptr p)/\tm.get 3=some (.pointer (some ⟨H.next,0,none⟩))/\tm.get 31=some (.slice ha c.head.args.length hcc)/\tm.get 32=some (.int .i64 (c.head.args.length:Nat))/\tm.get 33=some (.int .i64 (j:Nat))/\MkA G B p σj rs/\KX H1 G p rs rs/\Gr σ8 σj (3*nd.ndL (c.head.args.take j))/\G.wf) ?_ c.head.args.length _ ?_)
  rotate_left
  ·exact⟨_,_,0,σ8,rfl,rfl,Zl _,(by simp only[sG,reduceCtorEq]),(by simp only[sG,Za,reduceCtorEq]),(by simp only[sG,Za,reduceCtorEq]),(by simp only[sG,Za,reduceCtorEq]),(by simp only[sB,Za,reduceCtorEq];rfl),h8',kx08,Gr.refl.up (Zl _),w8⟩
  rintro k' st ⟨tm,G,j,σj,rfl,rfl,hj,t0,t3,t31,t32,t33,hG,kxG,grG,wG⟩;have hnda:=z1f c.head;have hxG:HX H0 G:=kxG.hx h1 hx1' hB;by_cases hlt:j < c.head.args.length;rotate_left
  ·obtain rfl:j=c.head.args.length:=by omega
   rw[List.take_length] at grG
   repeat' (first|refine qZa ?_|(refine qZi ?_;try simp only[sB])|(refine qZb ?_;simp (config:=qZc) (disch:=first|omega|rfl) only[sA,t32,t33,decn hlt])|(refine qZm ?_ ?_;simp (config:=qZc) (disch:=first|omega|rfl) only[sB];refine z02 ?_))
   exact⟨_,_,σj,rfl,(by simp only[sG,reduceCtorEq,t0]),(by simp only[sG,Za,t3]),hG,kxG,grG.up (by omega),wG⟩
  obtain⟨b,o,aj,cj,rfl,hld,hrj⟩:=rl.el hlt;have ldG:=hxG.load hw0 hld;obtain⟨G1,eG1,hxG1,gG1,nG1,wG1⟩:=z0m wG (.row zero6 28) (.row (six c.head.args[j] aj cj) 28);have qG:=row6 gG1;obtain⟨hG1,kxG1⟩:=hG.keep wG hxG1;have e1:=zcb hlt;have e2:=z60 (l:=c.head.args) (j+1)
  repeat' (first|refine qZa ?_|refine qZg ?_|(refine qZe ?_;try simp only[z00])|(refine qZb ?_;simp (config:=qZc) (disch:=first|omega|rfl) only[sB,dAlloc,Za,Zb,one,reduceCtorEq,ia26,ld28,zr28,st28,cl39,t0,t31,t32,t33,decl hlt,ldG,eG1,qG])|(refine qZd ?_ ?_;simp (config:=qZc) (disch:=first|omega|rfl) only[sB];refine z02 ?_))
  refine(znb hw0 hB (SizeOf.sizeOf c.head.args[j]+1) (j:Nat) 2 3 4 5 (Zf _) hG1 wG1 hrj (hxG.trans hxG1) (hfine.args _ (Zu hlt)) (by omega) (grG.sn hsn8) ((grG.room rm8.room (by omega)).le (by omega))).mono ?_;rintro v G2 ⟨σ2,hG2,kxG2,grG2,wG2⟩
  repeat' (first|(refine qZb ?_;simp (config:=qZc) (disch:=first|omega|rfl) only[sB,Za,t33,z4i (i:=j) (by omega)]))
  exact⟨c.head.args.length - (j+1),by omega,_,_,j+1,σ2,rfl,rfl,by omega,(by simp only[sG,reduceCtorEq,t0]),(by simp only[sG,Za,t3]),(by simp only[sG,Za,t31]),(by simp only[sG,Za,t32]),(by simp only[sG,Za]),hG2,(kxG.trans kxG1).trans kxG2,(grG.trans grG2).up (by omega),wG2⟩
 rintro st ⟨tm,G,σ9,rfl,t0,t3,h9,kx9,gr9,w9⟩;have q9:=z26 ((kx9.off hoff).1.trans g1);have rm9:=gr9.room rm8.room (by omega);simp only[z00]
 repeat' (first|refine qZa ?_|(refine qZb ?_;simp (config:=qZc) (disch:=first|omega|rfl) only[sB,zdd,ld3,t3,q9]))
 (repeat refine qZa ?_);refine EvC.join (fun st=>∃(tm:Tr Value) (G:Heap) (σa:MS),st=⟨tm,[],G⟩/\tm.get 0=some (ptr p)/\tm.get 3=some (.pointer (some ⟨H.next,0,none⟩))/\MkA G B p σa rs/\KX H1 G p rs rs/\Gr σ9 σa 400/\G.wf) ?_ ?_
 ·refine qZg (qZk (fun k' st=>∃tm G j σj,st=⟨tm,[],G⟩/\k'=nv - j/\j<=nv /\
   tm.get 0=some (ptr p)/\tm.get 3=some (.pointer (some ⟨H.next,0,none⟩))/\tm.get 44=some (.int .i64 (nv:Nat))/\tm.get 45=some (.int .i64 (j:Nat))/\MkA G B p σj rs/\KX H1 G p rs rs/\Gr σ9 σj j/\G.wf) ?_ nv _ ?_)
  rotate_left
  ·exact⟨_,_,0,σ9,rfl,rfl,Zl _,(by simp only[sG,reduceCtorEq,t0]),(by simp only[sG,Za,t3]),by rw[<-hnv];first|(simp only[sG,Za];rfl)|simp only[sG,Za],(by simp only[sB,Za];rfl),h9,kx9,Gr.refl,w9⟩
  rintro k' st ⟨tm,G,j,σj,rfl,rfl,hj,t0,t3,t44,t45,hG,kxG,grG,wG⟩;by_cases hlt:j < nv;rotate_left
  ·repeat' (first|refine qZa ?_|(refine qZi ?_;try simp only[sB])|(refine qZb ?_;simp (config:=qZc) (disch:=first|omega|rfl) only[sA,t44,t45,decn hlt])|(refine qZm ?_ ?_;simp (config:=qZc) (disch:=first|omega|rfl) only[sB];refine z02 ?_))
   exact⟨_,_,σj,rfl,(by simp only[sG,reduceCtorEq,t0]),(by simp only[sG,Za,t3]),hG,kxG,grG.up (by omega),wG⟩
  repeat' (first|refine qZa ?_|refine qZg ?_|(refine qZe ?_;try simp only[z00])|(refine qZb ?_;simp (config:=qZc) (disch:=first|omega|rfl) only[sB,Za,reduceCtorEq,cl40,t0,t44,t45,decl hlt])|(refine qZd ?_ ?_;simp (config:=qZc) (disch:=first|omega|rfl) only[sB];refine z02 ?_))
  refine(zhy hG wG ((gr9.trans grG).sn hsn8) (j:Nat)).mono ?_;rintro v G1 ⟨b,M,rfl,hG1,kxG1,wG1⟩;have gr1:=grG.trans (Gr.come M);cases b with
  |false =>
   repeat' (first|(refine qZe ?_;try simp only[sA])|(refine qZb ?_;simp (config:=qZc) (disch:=first|omega|rfl) only[sB,Za,t45,z4i (i:=j) (by omega)])|(refine qZm ?_ ?_;simp (config:=qZc) (disch:=first|omega|rfl) only[sB,Za];refine z02 ?_))
   exact⟨nv - (j+1),by omega,_,_,j+1,_,rfl,rfl,by omega,(by simp only[sG,reduceCtorEq,t0]),(by simp only[sG,Za,t3]),(by simp only[sG,Za,t44]),(by simp only[sG,Za]),hG1,kxG.trans kxG1,gr1.up (by omega),wG1⟩
  |true =>
   repeat' (first|(refine qZb ?_;simp (config:=qZc) (disch:=first|omega|rfl) only[sB,Za,reduceCtorEq,cl38,t0])|(refine qZd ?_ ?_;simp (config:=qZc) (disch:=first|omega|rfl) only[sB,Za];refine z02 ?_))
   refine(z5h hG1 wG1 _ _ _ ((gr1.room rm9 (by omega)).le (by omega))).mono ?_;rintro v G2 ⟨rfl,σ2,hG2,kxG2,grG2,-,wG2⟩
   repeat' (first|(refine qZb ?_;simp (config:=qZc) (disch:=first|omega|rfl) only[sB,Za,t45,z4i (i:=j) (by omega)]))
   exact⟨nv - (j+1),by omega,_,_,j+1,σ2,rfl,rfl,by omega,(by simp only[sG,reduceCtorEq,t0]),(by simp only[sG,Za,t3]),(by simp only[sG,Za,t44]),(by simp only[sG,Za]),hG2,(kxG.trans kxG1).trans kxG2,(gr1.trans grG2).up (by omega),wG2⟩
 rintro st ⟨tm,G,σa,rfl,t0,t3,ha',kxa,gra,wa⟩;have qa:=z26 ((kxa.off hoff).1.trans g1);have rma:=gra.room rm9 (by omega);simp only[z00]
 repeat' (first|refine qZa ?_|(refine qZb ?_;simp (config:=qZc) (disch:=first|omega|rfl) only[sB,Za,zgx,ld45,cl41,t0,t3,qa]))
 refine(ztf hw0 hB (SizeOf.sizeOf c.body+1) (-1) (-1) (Zf _) hg.bok ha' wa rb (kxa.hx h1 hx1' hB) ((gr9.trans gra).sn hsn8) (rma.le (by omega))).mono ?_;rintro v Gb ⟨σb,hb,kxb,grb,wb'⟩
 repeat' (first|(refine qZb ?_;simp (config:=qZc) (disch:=first|omega|rfl) only[sB,Za,reduceCtorEq,cl38,t0]))
 refine(z5h hb wb' _ _ _ ((grb.room rma (by omega)).le (by omega))).mono ?_;rintro v Gc ⟨rfl,σc,hc',kxc,grc,-,wc⟩
 skip
 exact z0j rfl ⟨σc,hc',kx1.trans ((kxa.trans kxb).trans kxc),(gr8.trans ((gr9.trans gra).trans (grb.trans grc)).c).up (by omega),wc⟩
end
theorem BOk.subs {u:Bdy}(h:BOk u):u.sub.length<=3/\∀b∈u.sub,BOk b:=by
 rcases h.inv with ⟨-,h⟩|⟨-,-,-,h⟩|⟨-,-,b,h,hb⟩|⟨-,b,d,h,hb,hd⟩|⟨-,b,d,h,hb,hd⟩|⟨-,b,d,l,h,hb,hd,hl⟩
 ·rw[h];exact⟨by simp,fun b q=>by cases q⟩
 ·rw[h];exact⟨by simp,fun b q=>by cases q⟩
 ·rw[h];exact⟨by simp,fun x q=>by rw[List.mem_singleton.1 q];exact hb⟩
 ·rw[h];exact⟨by simp,fun x q=>by
   simp only[List.mem_cons,ZF,or_false] at q;rcases q with rfl|rfl
   ·exact hb
   ·exact hd⟩
 ·rw[h];exact⟨by simp,fun x q=>by
   simp only[List.mem_cons,ZF,or_false] at q;rcases q with rfl|rfl
   ·exact hb
   ·exact hd⟩
 ·rw[h];rcases hl with rfl|⟨e,rfl,he⟩
  ·exact⟨by simp,fun x q=>by
    simp only[List.mem_cons,ZF,or_false] at q;rcases q with rfl|rfl
    ·exact hb
    ·exact hd⟩
  ·exact⟨by simp,fun x q=>by
    simp only[List.mem_cons,ZF,or_false] at q;rcases q with rfl|rfl|rfl
    ·exact hb
    ·exact hd
    ·exact he⟩
set_option maxHeartbeats 8000000 in
theorem zpl (m:Nat):∀{u:Bdy}{cs:List Value}{H:Heap},SizeOf.sizeOf u < m->RepB H u cs->BOk u->H.wf ->
  EvF Tryz.prog okT 15 [.agg ⟨cs⟩] H fun v H'=>HX H H'/\∃k t a c a' n c',v=.agg ⟨eightT k t a c a' n c'⟩:=by
 induction m with
 |zero=>intro u cs H h;omega
 |succ m ih =>
 intro u cs H hsz r hok hw;obtain⟨hl3,hsub⟩:=hok.subs;obtain⟨ts,a,c,cells,rfl,hk,rt,rl⟩:=r.inv;obtain⟨ta,tc,cellst,rfl,-⟩:=rt.six;show EvF Tryz.prog okT 15 [.agg ⟨eightT u.kind u.term ta tc a u.sub.length c⟩] H _;refine EvF.enter rfl Tryz.func15 (by decide) rfl ?_;(repeat refine qZa ?_);refine qZb ?_;simp (config:=qZc) (disch:=first|omega|rfl) only[sB,initTm,dBox,dAlloc,Value.cells,one,zr45];obtain⟨H2,e2,hx2,g1,g2,hn2,hw2⟩:=new2 hw (.row (eightT u.kind u.term ta tc a u.sub.length c) 45) (.row zero8 45);simp only[e2];clear e2;have q1:=row8 g1;have apB:apOk Tryz.prog 43 45 8:=ap43;obtain⟨H3,e3,hx3,g3,n3,w3⟩:=z0m hw2 (.row zero8 45) (.row [.int .i64 u.kind,.int .i64 0,.string Zd,.string Zd,.int .u64 0,.int .i64 0,.slice none 0 0,.slice none 0 0] 45);have g1':=hx3.get hw2 g1;have g2':=hx3.get hw2 g2;have q13:=row8 g1';have hx03:=hx2.trans hx3;(repeat refine qZa ?_);refine qZb ?_;simp (config:=qZc) (disch:=first|omega|rfl) only[sB,dAlloc,Za,Zb,Value.cells,one,reduceCtorEq,Zq,layC,zr45,z14,ld3,bd45,st45,q1];simp only[e3];clear e3
 refine EvC.cut (fun st=>∃(tm:Tr Value) (G:Heap) (y:Tm) (ya:Option Addr) (yc:Nat),st=⟨tm,[],G⟩/\tm.get 1=some (.pointer (some ⟨H.next,0,none⟩))/\tm.get 2=some (.pointer (some ⟨H.next+1,0,none⟩))/\tm.get 3=some (.pointer (some ⟨H2.next,0,none⟩))/\HX H G/\H3.next<=G.next/\G.get H.next=some (.row (eightT u.kind u.term ta tc a u.sub.length c) 45)/\G.get (H.next+1)=some (.row zero8 45) /\
  G.get H2.next=some (.row (eightT u.kind y ya yc none 0 0) 45)) ?_ ?_
 ·by_cases k3:u.kind=3
  ·repeat' (first|refine qZa ?_|(refine qZb ?_;simp (config:=qZc) (disch:=first|omega|rfl) only[sB,Za,reduceCtorEq,z14,ld3,z5l,ld28,cl14,q13,z0l k3])|(refine qZd ?_ ?_;simp (config:=qZc) (disch:=first|omega|rfl) only[sB,Za,reduceCtorEq];refine z02 ?_))
   refine(zca (rt.mono hx03 hw) w3).mono ?_;rintro v G ⟨hxG,y,ya,yc,rfl,-⟩;have g3G:=hxG.get w3 g3;have mG:=hxG.next
   repeat' (first|(refine z0q ?_;simp (config:=qZc) (disch:=first|omega|rfl) only[sB,Zb,one,Zq,st28,g3G]))
   exact⟨_,_,y,ya,yc,rfl,(by simp only[sG,Za,reduceCtorEq]),(by simp only[sG,Za,reduceCtorEq]),(by simp only[sG,Za,reduceCtorEq]),(hx03.trans hxG).pt (by omega) g3G _,by rw[z07];omega,by rw[get_put,if_neg (by omega)];exact hxG.get w3 g1',by rw[get_put,if_neg (by omega)];exact hxG.get w3 g2',by rw[get_put,if_pos rfl]⟩
  ·by_cases k7:u.kind=7
   ·repeat' (first|refine qZa ?_|(refine qZb ?_;simp (config:=qZc) (disch:=first|omega|rfl) only[sB,Za,reduceCtorEq,z14,ld3,z5l,ld28,cl14,q13,z0g k3,z0l k7])|(refine qZd ?_ ?_;simp (config:=qZc) (disch:=first|omega|rfl) only[sB,Za,reduceCtorEq];refine z02 ?_))
    refine(zca (rt.mono hx03 hw) w3).mono ?_;rintro v G ⟨hxG,y,ya,yc,rfl,-⟩;have g3G:=hxG.get w3 g3;have mG:=hxG.next
    repeat' (first|(refine z0q ?_;simp (config:=qZc) (disch:=first|omega|rfl) only[sB,Zb,one,Zq,st28,g3G]))
    exact⟨_,_,y,ya,yc,rfl,(by simp only[sG,Za,reduceCtorEq]),(by simp only[sG,Za,reduceCtorEq]),(by simp only[sG,Za,reduceCtorEq]),(hx03.trans hxG).pt (by omega) g3G _,by rw[z07];omega,by rw[get_put,if_neg (by omega)];exact hxG.get w3 g1',by rw[get_put,if_neg (by omega)];exact hxG.get w3 g2',by rw[get_put,if_pos rfl]⟩
   ·repeat' (first|refine qZa ?_|(refine qZe ?_;try simp only[true_and])|(refine qZb ?_;simp (config:=qZc) (disch:=first|omega|rfl) only[sB,Za,reduceCtorEq,z14,ld3,q13,z0g k3,z0g k7,Zg])|(refine qZm ?_ ?_;simp (config:=qZc) (disch:=first|omega|rfl) only[sB,Za,reduceCtorEq];refine z02 ?_))
    exact⟨_,_,zeroT,none,0,rfl,(by simp only[sG,Za,reduceCtorEq]),(by simp only[sG,Za,reduceCtorEq]),(by simp only[sG,Za,reduceCtorEq]),hx03,Ze _,g1',g2',g3⟩
 rintro st ⟨tm,G,y,ya,yc,rfl,t1,t2,t3,hxG,hnG,g1,g2,g3⟩;have hmx:u.sub.length<=9223372036854775807:=by omega
 have qG:=row8 g1;have wG:=hxG.wf
 repeat' (first|refine qZa ?_|(refine qZb ?_;simp (config:=qZc) (disch:=first|omega|rfl) only[sB,Za,z29,ld43,ln43,t1,qG]))
 (repeat refine qZa ?_);refine EvC.join (fun st=>∃(tm:Tr Value) (G:Heap) (sa:Option Addr) (n sc:Nat),st=⟨tm,[],G⟩/\tm.get 2=some (.pointer (some ⟨H.next+1,0,none⟩))/\tm.get 3=some (.pointer (some ⟨H2.next,0,none⟩))/\HX H G/\H3.next<=G.next/\G.get (H.next+1)=some (.row zero8 45) /\
  G.get H2.next=some (.row (eightT u.kind y ya yc sa n sc) 45)) ?_ ?_
 ·refine qZg (qZk (fun k' st=>∃(tm:Tr Value) (G:Heap) (i:Nat) (sa:Option Addr) (sc:Nat) (L:List (List Value)),st=⟨tm,[],G⟩/\k'=u.sub.length - i/\i<=u.sub.length/\tm.get 2=some (.pointer (some ⟨H.next+1,0,none⟩))/\tm.get 3=some (.pointer (some ⟨H2.next,0,none⟩))/\tm.get 22=some (.slice a u.sub.length c)/\tm.get 23=some (.int .i64 (u.sub.length:Nat))/\tm.get 24=some (.int .i64 (i:Nat)) /\
   HX H G/\H3.next<=G.next/\G.get (H.next+1)=some (.row zero8 45)/\G.get H2.next=some (.row (eightT u.kind y ya yc sa i sc) 45)/\RepO G 45 8 H3.next L (.slice sa i sc)/\L.length=i) ?_ u.sub.length _ ?_)
  rotate_left
  ·exact⟨_,_,0,none,0,[],rfl,rfl,Zl _,(by simp only[sG,Za,t2]),(by simp only[sG,Za,t3]),(by simp only[sG,Za]),(by simp only[sG,Za]),(by simp only[sB,Za];rfl),hxG,hnG,g2,g3,.empty,rfl⟩
  rintro k' st ⟨tm,G,i,sa,sc,L,rfl,rfl,hi,t2,t3,t22,t23,t24,hxG,hnG,g2,g3,hL,hLi⟩;have wG:=hxG.wf;have q3:=row8 g3;obtain⟨sa',sc',hsl0,hsl1,hsl2⟩:=hL.slice;subst hLi;by_cases hlt:L.length < u.sub.length;rotate_left
  ·repeat' (first|refine qZa ?_|(refine qZi ?_;try simp only[sB])|(refine qZb ?_;simp (config:=qZc) (disch:=first|omega|rfl) only[sA,t23,t24,decn hlt])|(refine qZm ?_ ?_;simp (config:=qZc) (disch:=first|omega|rfl) only[sB];refine z02 ?_))
   exact⟨_,_,_,_,_,rfl,(by simp only[sG,Za,t2]),(by simp only[sG,Za,t3]),hxG,hnG,g2,g3⟩
  obtain⟨b,o,ua,uc,va,vc,rfl,hld,hr1⟩:=rl.sub8 hlt;have hld1:=hxG.load hw hld;obtain⟨G1,eG1,hxG1,gG1,nG1,wG1⟩:=z0m wG (.row zero8 45) (.row (eightT u.sub[L.length].kind u.sub[L.length].term ua uc va u.sub[L.length].sub.length vc) 45);obtain⟨Gb,eb,hxb,wb⟩:=z3l wG1 8;have qG1:=row8 (hxb.get wG1 gG1);have hxGb:=hxG1.trans hxb
  repeat' (first|refine qZa ?_|refine qZg ?_|(refine qZe ?_;try simp only[z00])|(refine qZb ?_;simp (config:=qZc) (disch:=first|omega|rfl) only[sB,dAlloc,Za,Zb,one,zr45,st45,ia43,ld45,t22,t23,t24,decl hlt,hld1,eG1])|(refine qZj [([(2,0)],some 3),([(0,0),(1,0),(4,1)],some 5),([(6,2)],some 7),([],none)] ?_ ?_;kernel_rfl;simp (config:=qZc) (disch:=first|omega|rfl) only[sD,sB,Za,Zb,reduceCtorEq,ld45,cl15,qG1,eb,isAlloc,isRead])|(refine qZd ?_ ?_;simp (config:=qZc) (disch:=first|omega|rfl) only[sB];refine z02 ?_))
  refine(ih (u:=u.sub[L.length]) (by have:=u.size _ (Zu hlt);omega) ((hr1.mono hxG hw).mono hxGb wG) (hsub _ (Zu hlt)) wb).mono ?_;rintro v H5 ⟨hx5,zk,z,za,zc,za',zn,zc',rfl⟩;have n5:=hx5.next;have nb:G1.next+8=Gb.next:=by rw[<-eb]
  have k5:=hxGb.trans hx5;obtain⟨H6,e6⟩:∃H6,H5.put (G1.next+4) (some (.row (eightT zk z za zc za' zn zc') 45))=H6:=⟨_,rfl⟩
  have hx6:HX G H6:=by rw[<-e6];exact k5.put (i:=G1.next+4) (by omega) (by omega) _
  have w6:=hx6.wf;have g6:H6.get (G1.next+4)=some (.row (eightT zk z za zc za' zn zc') 45):=by rw[<-e6,get_put,if_pos rfl]
  have n6:H6.next=H5.next:=by rw[<-e6];rfl
  have hL6:FR H6 H3.next (.sl 45 8 L) (.slice sa L.length sc):=hL.keep hx6;obtain⟨H7,c7,e7,o7,n7,w7,k7,-⟩:=hL6.push (P:=Tryz.prog) (t:=43) (c1:=1) w6 apB (ld1 g6 rfl) rfl rfl (by unfold most;omega) (by omega);have hlow:∀n,blkOf (.slice sa L.length sc)=some n->H3.next<=n:=fun n hn=>(FR.lo (f:=.sl 45 8 L) hL hn).1
  have hx7:HX H H7:=(hxG.trans hx6).then (S:=fun n=>blkOf (.slice sa L.length sc)=some n) ⟨by omega,fun n hn hne=>k7 n hn hne,w7⟩ fun n hn e=>by have:=hlow n e;omega
  have g37:H7.get H2.next=some (.row (eightT u.kind y ya yc sa L.length sc) 45):=(k7 _ (by omega) fun e=>by have:=hlow _ e;omega).trans (hx6.get wG g3);have g27:H7.get (H.next+1)=some (.row zero8 45):=(k7 _ (by omega) fun e=>by have:=hlow _ e;omega).trans (hx6.get wG g2);have q35:=row8 (k5.get wG g3);have q3b:=row8 (hxGb.get wG g3)
  repeat' (first|(refine qZb ?_;simp (config:=qZc) (disch:=first|omega|rfl) only[sB,Za,t24,z4i (i:=L.length) (by omega)])|(refine z0p ?_;simp (config:=qZc) (disch:=first|omega|rfl) only[sV,sD,sB,Za,Zb,Value.cells,one,reduceCtorEq,layC,z29,ld43,zl9,st43,q35,q3b,t3,e6,e7,g37,isAlloc,isRead,dalloc]))
  refine⟨u.sub.length - (L.length+1),by omega,_,_,L.length+1,some ⟨H6.next,0,none⟩,c7,L++[eightT zk z za zc za' zn zc'],rfl,rfl,by omega,(by simp only[sG,Za,t2]),(by simp only[sG,Za,t3]),(by simp only[sG,Za,t22]),(by simp only[sG,Za,t23]),(by simp only[sG,Za]),hx7.pt (by omega) g37 _,by rw[z07];omega,by rw[get_put,if_neg (by omega)];exact g27,by rw[get_put,if_pos rfl],.inr ⟨H6.next,c7,o7.heap (by rw[get_put,if_neg (by omega)]) (by rw[z07];exact Ze _),by simp⟩,by simp⟩
 rintro st ⟨tm,G,sa,n,sc,rfl,t2,t3,hxG,hnG,g2,g3⟩;have q3:=row8 g3;simp only[z00]
 repeat' (first|refine qZa ?_|(refine qZf ?_)|(refine qZb ?_;simp (config:=qZc) (disch:=first|omega|rfl) only[sB,Za,Zb,one,st45,ld45,t2,t3,q3,g2]))
 refine z0a rfl (by simp only[sB,Za,t2];rfl) (by simp only[sB,Zb,cutC,ld45];rfl) ⟨hxG.pt (by omega) g2 _,_,_,_,_,_,_,_,rfl⟩
theorem isSI:isSl Tryz.prog 32=true:=by kernel_rfl
theorem zv2 {H:Heap}{x y:Operand}{a:Addr}{n c:Nat}:dBin Tryz.prog .eql 32 x y (.slice (some a) n c) (.slice none 0 0) H=some (.val (.bool false) H):=by
 simp only[dBin,dnil,isSI,nilEq,if_true]
theorem zv3 {n:Nat}{H:Heap}:dBin Tryz.prog .eql 32 (.tmp n) (.const (.slice none 0 0)) (.slice none 0 0) (.slice none 0 0) H=some (.val (.bool true) H):=by kernel_rfl
def idV (l:List Nat):List Value:=l.map fun i=>.int .i64 (i:Nat)
theorem zrj (l:List Nat):idK l=(idV l).map fun v=>[v]:=by unfold idK idV;rw[List.map_map];rfl
theorem zfq (l:List Nat):(idV l).length=l.length:=Zp _
theorem znl (l:List Nat):(idV l).all one=true:=by
 rw[List.all_eq_true];intro v hv;obtain⟨i,-,rfl⟩:=List.mem_map.1 hv;rfl
section
variable {H:Heap}{B:Nat}{l:List Nat}
set_option maxHeartbeats 4000000 in
theorem z9r {v:Value}(h:RepO H 3 1 B (idK l) v) (hm:l.length<=most) (hw:H.wf):EvF Tryz.prog okT 20 [v] H fun u H'=>HX H H'/\RepO H' 3 1 H.next (idK l) u:=by
 refine EvF.enter rfl Tryz.func20 (by decide) rfl ?_;have hap:apOk Tryz.prog 32 3 1:=ap32;rcases h with ⟨h0,rfl⟩|⟨b,c,o,rfl⟩
 ·repeat' (first|refine qZa ?_|(refine qZf ?_;try simp only[z06,z01])|(refine qZb ?_;simp (config:=qZc) (disch:=first|omega|rfl) only[sB,initTm,Za,reduceCtorEq,zv3])|(refine qZd ?_ ?_;simp (config:=qZc) (disch:=first|omega|rfl) only[sB,Za,reduceCtorEq];refine z02 ?_))
  exact z03 rfl (by simp only[sG,Za,reduceCtorEq]) ⟨HX.refl hw,.inl ⟨h0,rfl⟩⟩
 ·rw[z1o];obtain⟨H1,e1,hx1,g1,n1,w1⟩:=new1 hw (.row [] 3);by_cases hl:l=[]
  ·subst hl;have e7:=zs0 (P:=Tryz.prog) (H:=H1) (a:=some ⟨H.next,0,none⟩) (n:=0) (c:=0) (a':=some ⟨b,0,none⟩) (c':=c) hap;simp only[List.length_nil];(repeat refine qZa ?_);refine qZb ?_;simp (config:=qZc) (disch:=first|omega|rfl) only[sA,initTm];(repeat refine qZa ?_);refine qZb ?_;simp (config:=qZc) (disch:=first|omega|rfl) only[sB,Za,reduceCtorEq,zv2];refine qZm (by simp (config:=qZc) (disch:=first|omega|rfl) only[sB,Za,reduceCtorEq]) ?_;(try refine qZe ?_);(try simp only[z00,z04])
   repeat' (first|refine qZa ?_|(refine qZf ?_)|(refine qZb ?_;simp (config:=qZc) (disch:=first|omega|rfl) only[sB,Za,Value.cells,reduceCtorEq,layC,zqk,e1,e7]))
   exact z03 rfl (by simp only[sB,Za,reduceCtorEq];rfl) ⟨hx1,.inr ⟨H.next,0,by rw[<-e1];exact OwnS.ones (vs:=[]) z0n (Ze _) (Zf _) (Ze _) (Zl _) rfl,rfl⟩⟩
  ·have h0:0 < l.length:=List.length_pos_iff.2 hl;rw[zrj] at o;obtain⟨b',o',ha,hld⟩:=o.rds.all (by intro q;exact hl (List.length_eq_zero_iff.1 (by rw[<-zfq,q];rfl)));cases ha;rw[zfq] at hld;have e7:=z3k (P:=Tryz.prog) (n:=0) (c:=0) (c':=c) hap h0 (by omega) (by rw[Nat.mul_one];exact hx1.load hw hld) (znl l) g1 (by simp) (by simp);simp only[ZP,ZK,List.take_zero,List.nil_append] at e7;have hx2:=(hx1.put (i:=H.next) (Ze _) (by omega) none).new (some (.row (idV l) 3));(repeat refine qZa ?_);refine qZb ?_;simp (config:=qZc) (disch:=first|omega|rfl) only[sA,initTm];(repeat refine qZa ?_);refine qZb ?_;simp (config:=qZc) (disch:=first|omega|rfl) only[sB,Za,reduceCtorEq,zv2];refine qZm (by simp (config:=qZc) (disch:=first|omega|rfl) only[sB,Za,reduceCtorEq]) ?_;(try refine qZe ?_);(try simp only[z00,z04])
   repeat' (first|refine qZa ?_|(refine qZf ?_)|(refine qZb ?_;simp (config:=qZc) (disch:=first|omega|rfl) only[sB,Za,Value.cells,reduceCtorEq,layC,zqk,e1,e7]))
   refine z03 rfl (by simp only[sB,Za,reduceCtorEq];rfl) ⟨hx2,.inr ⟨(H1.put H.next none).next,l.length,?_,by rw[z1o];rfl⟩⟩;rw[zrj];exact OwnS.ones z0n (by show H.next<=H1.next;omega) (Zf _) (by rw[zfq];exact Ze _) (Zj hm (by simp [most,maxLen])) (znl l)
end
section
variable {H H':Heap}{B p:Nat}{σ σ':MS}{rs rs':List (List Value)}
theorem ztk:Tryz.prog.underlying 4=some .bool:=by kernel_rfl
abbrev rowV (c:Bool) (w:Int) (a:Option Addr) (n k:Nat):List Value:=[.bool c,.int .i64 w,.slice a n k]
theorem zv4:callable Tryz.prog 45=true:=by kernel_rfl
abbrev i1v (q:Nat):Value:=.func (.func 45) #[] #[.pointer (some ⟨q,0,none⟩)]
set_option maxHeartbeats 4000000 in
theorem znm {H:Heap}{c d:Bool}{w z:Int}{va ua:Option Addr}{vn vk un uk q:Nat}(hw:H.wf) (hg:H.get q=some (.row (rowV d z ua un uk) 65)) :
  EvF Tryz.prog okT 45 [.agg ⟨rowV c w va vn vk⟩,.pointer (some ⟨q,0,none⟩)] H fun r H'=>r=.bool (decide (c=d/\w=z))/\HX H H':=by
 refine EvF.enter rfl Tryz.func45 (by decide) rfl ?_;(repeat refine qZa ?_);refine qZb ?_;simp (config:=qZc) (disch:=first|omega|rfl) only[sB,initTm,dBox,Value.cells,one,reduceCtorEq];obtain⟨H2,e2,hx2,g1,n2,w2⟩:=new1 hw (.row (rowV c w va vn vk) 65);simp only[e2];clear e2;have q1:=z5z g1;have q2:=z5z (hx2.get hw hg);by_cases h1:c=d;rotate_left
 ·have h1':(c == d)=false:=by cases c<;>cases d<;>simp_all
  repeat' (first|refine qZa ?_|(refine qZf ?_)|(refine qZb ?_;simp (config:=qZc) (disch:=first|omega|rfl) only[sB,Za,reduceCtorEq,z7n,ld4,q1,q2,bEqB ztk,h1',Zg]))
  exact z03 rfl (by simp only[sB,Za,reduceCtorEq];rfl) ⟨by simp [h1],hx2⟩
 have h1':(c == d)=true:=by cases c<;>cases d<;>simp_all
 by_cases h2:w=z
 ·repeat' (first|refine qZa ?_|(refine qZf ?_)|(refine qZb ?_;simp (config:=qZc) (disch:=first|omega|rfl) only[sB,Za,reduceCtorEq,z7n,ld4,z39,ld3,q1,q2,bEqB ztk,h1',z0l h2]))
  exact z03 rfl (by simp only[sB,Za,reduceCtorEq];rfl) ⟨by simp [h1,h2],hx2⟩
 ·repeat' (first|refine qZa ?_|(refine qZf ?_)|(refine qZb ?_;simp (config:=qZc) (disch:=first|omega|rfl) only[sB,Za,reduceCtorEq,z7n,ld4,z39,ld3,q1,q2,bEqB ztk,h1',z0g h2]))
  exact z03 rfl (by simp only[sB,Za,reduceCtorEq];rfl) ⟨by simp [h2],hx2⟩
set_option maxHeartbeats 4000000 in
theorem znn {H:Heap}(h:MkA H B p σ rs) (hw:H.wf) {a8:Option Addr}{c8:Nat}(hl8:H.load ⟨p,8,none⟩ 1=some [.slice a8 σ.rows.length c8]) {d:Bool}{z:Int}{ua:Option Addr}{un uk q:Nat}(hg:H.get q=some (.row (rowV d z ua un uk) 65)) :
  EvF Tryz.prog okT 44 [.slice a8 σ.rows.length c8,i1v q] H fun r H'=>r=.int .i64 (if rowAt σ.rows d z < σ.rows.length then ((rowAt σ.rows d z:Nat):Int) else -1)/\HX H H':=by
 have hs8:∃b,B<=b/\True:=⟨B,Ze _,trivial⟩
 obtain⟨V,cl,ts,hs,-,-⟩:=h.obj;have hmx:σ.rows.length<=9223372036854775807:=by
  have hlen:=hs.len;have h8:∃v,V[8]?=some v:=by
   have:8 < V.length:=by rw[<-hlen];simp [mFlds]
   exact⟨_,Zc this⟩
  obtain⟨v,hv⟩:=h8;obtain⟨a,c,-,h1,h2⟩:=hs.sl (i:=8) rfl hv;rw[h.rws.len] at h1;unfold maxLen at h2;omega
 have hV8:V[8]?=some (.slice a8 σ.rows.length c8):=by
  have:8 < V.length:=by rw[<-hs.len];simp [mFlds]
  have h1:=hs.load (i:=8) (Zc this);rw[hl8] at h1;rw[Zc this];simp only[Option.some.injEq,List.cons.injEq,and_true] at h1;rw[h1]
 refine EvF.enter rfl Tryz.func44 (by decide) rfl ?_
 repeat' (first|refine qZa ?_|(refine qZb ?_;simp (config:=qZc) (disch:=first|omega|rfl) only[sB,initTm,Za,reduceCtorEq,ln33]))
 (repeat refine qZa ?_);refine EvC.join (fun st=>∃(tm:Tr Value) (G:Heap),st=⟨tm,[],G⟩/\HX H G/\¬rowAt σ.rows d z < σ.rows.length) ?_ ?_
 ·refine qZg (qZk (fun k' st=>∃(tm:Tr Value) (G:Heap) (i:Nat),st=⟨tm,[],G⟩/\k'=σ.rows.length - i/\i<=σ.rows.length/\(∀j (hj:j < i) (hl:j < σ.rows.length),¬(σ.rows[j].const=d/\σ.rows[j].which=z))/\tm.get 0=some (.slice a8 σ.rows.length c8)/\tm.get 1=some (i1v q)/\tm.get 7=some (.int .i64 (σ.rows.length:Nat))/\tm.get 8=some (.int .i64 (i:Nat))/\HX H G) ?_ σ.rows.length _ ?_);rotate_left
  ·exact⟨_,_,0,rfl,rfl,Zl _,fun j hj=>absurd hj (Nat.not_lt_zero _),(by simp only[sG,reduceCtorEq]),(by simp only[sG,Za,reduceCtorEq]),(by simp only[sG,Za,reduceCtorEq]),(by simp only[sB,Za,reduceCtorEq];rfl),HX.refl hw⟩
  rintro k' st ⟨tm,G,i,rfl,rfl,hi,hall,t0,t1,t7,t8,hxG⟩;by_cases hlt:i < σ.rows.length;rotate_left
  ·repeat' (first|refine qZa ?_|(refine qZi ?_;try simp only[sB])|(refine qZb ?_;simp (config:=qZc) (disch:=first|omega|rfl) only[sA,t7,t8,decn hlt])|(refine qZm ?_ ?_;simp (config:=qZc) (disch:=first|omega|rfl) only[sB];refine z02 ?_))
   refine⟨_,_,rfl,hxG,fun hq=>?_⟩;obtain⟨r,h1,h2,h3⟩:=zi3 hq;obtain⟨hl,he⟩:=List.getElem?_eq_some_iff.1 h1;exact hall (rowAt σ.rows d z) (by omega) hl (by rw[he];exact⟨h2,h3⟩)
  obtain⟨v,g1,g2,g3⟩:=h.rws.el i _ (Zc hlt);obtain⟨va,vk,rfl,-,-⟩:=g2.slice;obtain⟨b,rfl,o,ld⟩:=hs.el (i:=8) (k:=i) rfl hV8 g1;have ldG:=hxG.load hw ld
  repeat' (first|refine qZa ?_|refine qZg ?_|(refine qZe ?_;try simp only[z00])|(refine qZb ?_;simp (config:=qZc) (disch:=first|omega|rfl) only[sB,Za,reduceCtorEq,ia33,ld65,t0,t1,t7,t8,decl hlt,ldG,z2s,z1u zv4])|(refine qZd ?_ ?_;simp (config:=qZc) (disch:=first|omega|rfl) only[sB];refine z02 ?_))
  refine(znm (c:=σ.rows[i].const) (w:=σ.rows[i].which) hxG.wf (hxG.get hw hg)).mono ?_;rintro v G2 ⟨rfl,hx2⟩;by_cases he:σ.rows[i].const=d/\σ.rows[i].which=z
  ·have hp:rowAt σ.rows d z=i:=(List.findIdx_eq hlt).2 ⟨decide_eq_true he,fun j hj=>decide_eq_false (hall j hj _)⟩
   repeat' (first|refine qZa ?_|(refine qZf ?_;try simp only[z06,z01])|(refine qZb ?_;simp (config:=qZc) (disch:=first|omega|rfl) only[sB,Za,decide_eq_true he])|(refine qZd ?_ ?_;simp (config:=qZc) (disch:=first|omega|rfl) only[sB,Za,decide_eq_true he];refine z02 ?_))
   exact z03 rfl (by simp only[sB,Za];rfl) ⟨by rw[hp,if_pos hlt],hxG.trans hx2⟩
  ·repeat' (first|(refine qZe ?_;try simp only[sA,decide_eq_false he])|(refine qZb ?_;simp (config:=qZc) (disch:=first|omega|rfl) only[sB,Za,t8,z4i (i:=i) (by omega)])|(refine qZm ?_ ?_;simp (config:=qZc) (disch:=first|omega|rfl) only[sB,Za,decide_eq_false he];refine z02 ?_))
   exact⟨σ.rows.length - (i+1),by omega,_,_,i+1,rfl,rfl,by omega,fun j hj hl=>by
    by_cases hji:j=i
    ·subst hji;exact he
    ·exact hall j (by omega) hl,(by simp only[sG,reduceCtorEq,t0]),(by simp only[sG,Za,t1]),(by simp only[sG,Za,t7]),(by simp only[sG,Za]),hxG.trans hx2⟩
 rintro st ⟨tm,G,rfl,hxG,hno⟩;simp only[z00]
 repeat' (first|refine qZa ?_|(refine qZf ?_)|(refine qZb ?_;simp (config:=qZc) (disch:=first|omega|rfl) only[sA]))
 exact z03 rfl (by simp only[sB];rfl) ⟨by rw[if_neg hno],hxG⟩
end
def NoSix (r:List Value):Prop:=∀(o:Nat) (t:Tm) (a:Option Addr) (c:Nat),(r.drop o).take 6≠six t a c
theorem z62 {r:List Value}(h:r.length < 6):NoSix r:=fun o t a c e=>by
 have:=congrArg List.length e;simp only[Zo,List.length_drop,ZD,List.length_nil] at this;omega
theorem ztl {G G':Heap}{q:Nat}{r:List Value}{T:TypeId}(hq:G.get q=some (.row r T)) (hl:NoSix r) (hk:∀n,n≠q->G'.get n=G.get n) {ad:Addr}{t:Tm}{a:Option Addr}{c:Nat}(h:G.load ad 6=some (six t a c)):G'.load ad 6=some (six t a c):=by
 obtain⟨b,o,s⟩:=ad;by_cases hb:b=q
 ·subst hb;exfalso;unfold Heap.load Heap.cells at h;simp only[hq] at h;split at h
  ·rename_i cs' h1 h2;cases h2;split at h
   ·exact hl _ _ _ _ (Option.some.inj h)
   ·cases h
  ·cases h
 ·unfold Heap.load Heap.cells at h ⊢;rw[hk b hb];exact h
theorem RepT.off {G G':Heap}{q:Nat}{r:List Value}{T:TypeId}(hq:G.get q=some (.row r T)) (hl:NoSix r) (hk:∀n,n≠q->G'.get n=G.get n) {t:Tm}{cs:List Value}(h:RepT G t cs):RepT G' t cs:=by
 induction h with
 |mk k s u b v l a c cells h1 h2 h3 h4 h5 h6 h7 h8 h9 h10 h11 ih =>
  refine .mk k s u b v l a c cells h1 h2 h3 h4 h5 h6 h7 h8 h9 (fun i ad hi ha=>⟨(h10 i ad hi ha).1,?_⟩) ih;have h12:=(h10 i ad hi ha).2;obtain⟨a',c',-,e,-⟩:=(h11 i l[i] (Zc hi)).six;rw[e] at h12 ⊢;exact ztl hq hl hk h12
section
variable {H H':Heap}{B p:Nat}{σ σ':MS}{rs rs':List (List Value)}
theorem RepS.box {S S':Nat->Prop}{q:Nat}{r:List Value}{T:TypeId}{X:Option Blk}{t:Tm}{cs:List Value}(h:RepS H S t cs) (hq:H.get q=some (.row r T)) (hl:NoSix r) (hS:∀n,S n->S' n):RepS (H.put q X) S' t cs:=fun G hG=>by
 have h1:RepT (G.put q (H.get q)) t cs:=h _ fun n hn hl=>by
  rw[get_put];by_cases hnq:n=q
  ·rw[if_pos hnq,hnq]
  ·rw[if_neg hnq,hG n (hS n hn) (by rw[z07];exact hl),get_put,if_neg hnq]
 exact RepT.off (q:=q) (r:=r) (T:=T) (by rw[get_put,if_pos rfl];exact hq) hl (fun n hn=>by rw[get_put,if_neg hn]) h1
theorem MkA.box (h:MkA H B p σ rs) (hw:H.wf) {q:Nat}(ho:OffK H p rs q) {r:List Value}{T:TypeId}(hq:H.get q=some (.row r T)) (hl:NoSix r) (X:Blk) :
  MkA (H.put q (some X)) B p σ rs/\(H.put q (some X)).wf/\Same2 H (H.put q (some X)) p/\OffK (H.put q (some X)) p rs q/\∀(G:Heap) (r0:List (List Value)),G.next<=q->KX G H p r0 rs->KX G (H.put q (some X)) p r0 rs:=by
 obtain⟨V,cl,ts,hs,ht,hc⟩:=h.obj;have hpq:p≠q:=fun e=>ho.2 (.inl (.inl e.symm))
 have gp:∀n,n≠q->(H.put q (some X)).get n=H.get n:=fun n hn=>by rw[get_put,if_neg hn]
 have hm:∀n,Mut (H.put q (some X)) p n↔Mut H p n:=fun n=>Mut.same (gp p hpq) n
 have hmk:∀n,MutK (H.put q (some X)) p rs n↔MutK H p rs n:=fun n=>⟨fun q=>q.imp (hm n).1 id,fun q=>q.imp (hm n).2 id⟩
 have hof:∀n,OffK H p rs n->OffK (H.put q (some X)) p rs n:=fun n hn=>⟨by rw[z07];exact hn.1,fun q=>hn.2 ((hmk n).1 q)⟩
 have hw':(H.put q (some X)).wf:=fun n D hD=>by
  rw[get_put] at hD;rw[z07];split at hD
  ·rename_i e;rw[e];exact ho.1
  ·exact hw _ _ hD
 refine⟨⟨⟨V,cl,ts,hs.beside (fun n hn=>gp n fun e=>ho.2 (.inl (e ▸ hn))) (by rw[z07];exact Ze _),⟨ht.1,fun i x hx=>?_⟩,⟨hc.1,fun i x hx=>?_⟩⟩,⟨h.rws.len,fun i x hx=>?_,h.rws.dis⟩⟩,hw',?_,hof q ho,fun G r0 hg kx=>⟨⟨by rw[z07];exact kx.hk.next,fun n hn hmn=>?_,hw'⟩,fun n hn=>kx.mt n ((hmk n).1 hn)⟩⟩
 ·obtain⟨cs,h1,h2⟩:=ht.2 i x hx;exact⟨cs,h1,h2.box hq hl hof⟩
 ·obtain⟨cs,k,u,ua,uc,va,vn,vc,z,h1,h2⟩:=hc.2 i x hx;exact⟨cs,k,u,ua,uc,va,vn,vc,z,h1,h2.box hq hl hof⟩
 ·obtain⟨v,h1,h2,h3⟩:=h.rws.el i x hx;refine⟨v,h1,FR.heap (f:=.sl 3 1 (idK x.ids)) h2 (fun n hn=>gp n fun e=>ho.2 (.inr ⟨_,Zx h1,v,by simp,e ▸ hn⟩)) (by rw[z07];exact Ze _),fun n hn q=>h3 n hn ((hm n).1 q)⟩
 ·unfold Same2 Heap.load Heap.cells;rw[gp p hpq]
 ·rw[gp n (by omega)];exact kx.hk.keep n hn hmn
end
def firstT (t:Tm):Tm:=t.args.headD zeroT
theorem zv5 {l:List Nat}(h:l.Pairwise (· < ·)):∀(i:Nat) (hi:i < l.length),i<=l[i]
 |0,_=>Zl _
 |i+1,hi=>by
  have:=zv5 h i (by omega);have:=List.pairwise_iff_getElem.1 h i (i+1) (by omega) hi (by omega);omega
theorem zeg {l:List Nat}{n:Nat}(h:l.Pairwise (· < ·)) (hl:∀j∈l,j < n):l.length<=n:=by
 by_cases h0:l.length=0
 ·omega
 ·have:=zv5 h (l.length - 1) (by omega);have:=hl _ (Zu (l:=l) (n:=l.length - 1) (by omega));omega
theorem zpm (σ:MS) (i:Nat) (t:Tm):(idx1 σ i t).clauses=σ.clauses/\(idx1 σ i t).key=σ.key/\(idx1 σ i t).index=σ.index:=by
 unfold idx1 idxKey;split
 ·exact⟨rfl,rfl,rfl⟩
 ·split<;>exact⟨rfl,rfl,rfl⟩
theorem zcc (σ:MS) (xs:List Tm):∀n,(idxN σ xs n).clauses=σ.clauses/\(idxN σ xs n).key=σ.key/\(idxN σ xs n).index=σ.index
 |0=>⟨rfl,rfl,rfl⟩
 |n+1=>by
  obtain⟨h1,h2,h3⟩:=zcc σ xs n;unfold idxN;split
  ·obtain⟨g1,g2,g3⟩:=zpm (idxN σ xs n) n ‹_›;exact⟨g1.trans h1,g2.trans h2,g3.trans h3⟩
  ·exact⟨h1,h2,h3⟩
theorem zju (l:List RowS) (c:Bool) (w:Int) (ids:List Nat):(rowPut l c w ids).length<=l.length+1:=by
 unfold rowPut;split
 ·omega
 ·simp
theorem zi8 (σ:MS) (xs:List Tm):∀n,(idxN σ xs n).consts.length<=σ.consts.length+n/\(idxN σ xs n).funs.length<=σ.funs.length+n/\(idxN σ xs n).rows.length<=σ.rows.length+n
 |0=>⟨Ze _,Ze _,Ze _⟩
 |n+1=>by
  obtain⟨h1,h2,h3⟩:=zi8 σ xs n;unfold idxN;split
  ·rename_i t ht;unfold idx1 idxKey;split
   ·simp only[Zp];exact⟨by omega,by omega,by omega⟩
   ·have hr:=zju (idxN σ xs n).rows (rowC t) (idxW (idxN σ xs n) t) (idxN σ xs n).rest;have hc:=zi2 (idxN σ xs n).consts t;have hf:=zi0 (idxN σ xs n).funs (keyT t);split<;>simp only[List.length_modify]<;>exact⟨by omega,by omega,by omega⟩
  ·exact⟨by omega,by omega,by omega⟩
theorem zpn {l:List RowS}{k i:Nat}(hk:k < l.length):((l.take k).map (rowUp i)++l.drop k).modify k (rowUp i)=(l.take (k+1)).map (rowUp i)++l.drop (k+1):=by
 apply List.ext_getElem?;intro j;have hlen:((l.take k).map (rowUp i)).length=k:=by rw[Zp,Zo];omega
 have hlen':((l.take (k+1)).map (rowUp i)).length=k+1:=by rw[Zp,Zo];omega
 rw[List.getElem?_modify];by_cases h1:j < k
 ·have hne:¬k=j:=by omega
  rw[Zz (by omega),Zz (by omega),Zw,Zw,List.getElem?_take_of_lt h1,List.getElem?_take_of_lt (by omega)];cases l[j]?<;>simp [hne]
 ·rw[ZC (by omega),hlen,ZN];by_cases h2:j=k
  ·subst h2;rw[Zz (by omega),Zw,List.getElem?_take_of_lt (by omega),Nat.sub_self,Nat.add_zero];cases l[j]?<;>simp
  ·have hne:¬k=j:=by omega
   rw[ZC (by omega),hlen',ZN];rw[show k+(j - k)=j by omega,show k+1+(j - (k+1))=j by omega];cases l[j]?<;>simp [hne]
theorem zno {A C:Heap}(h:HX A C) {q:Nat}(hq:q < A.next) (X:Blk):HX (A.put q (some X)) (C.put q (some X)):=by
 have hn:=h.next;refine⟨by rw[z07,z07];exact hn,fun n hl=>?_,fun n D hD=>?_⟩
 ·rw[z07] at hl;rw[get_put,get_put];split
  ·rfl
  ·exact h.keep n hl
 ·rw[get_put] at hD;rw[z07];split at hD
  ·omega
  ·exact h.wf _ _ hD
section
variable {H H':Heap}{B p:Nat}{σ σ':MS}{rs rs':List (List Value)}
theorem MkA.rowsl (h:MkA H B p σ rs) {L:List RowS}(e:σ.rows=L):∃a c,H.load ⟨p,8,none⟩ 1=some [.slice a L.length c]:=by
 obtain⟨a2,c2,a4,c4,a5,c5,a6,c6,a7,c7,a8,c8,a9,c9,sv,cl,ts,hs,ht,hc,l0,l1,l2,l3,l4,l5,l6,l7,l8,l9,l10,l11,b2,b4,b5,b6,b7,b8,b9⟩:=h.open;exact⟨a8,c8,by rw[l8,e]⟩
theorem MkA.restsl (h:MkA H B p σ rs):∃v,H.load ⟨p,9,none⟩ 1=some [v]/\RepO H 3 1 B (idK σ.rest) v:=by
 obtain⟨a2,c2,a4,c4,a5,c5,a6,c6,a7,c7,a8,c8,a9,c9,sv,cl,ts,hs,ht,hc,l0,l1,l2,l3,l4,l5,l6,l7,l8,l9,l10,l11,b2,b4,b5,b6,b7,b8,b9⟩:=h.open;exact⟨_,l9,hs.fld 9 _ _ rfl rfl⟩
set_option maxHeartbeats 16000000 in
theorem znp (h:MkA H B p σ rs) (hw:H.wf) (hix:Ix σ []) (hr0:σ.rows=[]) (hne:∀t∈σ.clauses,0 < t.args.length/\checkS (firstT t)=0) (hn:σ.clauses.length+1<=most) (hcs:σ.consts.length+σ.clauses.length+1<=most) (hfs:σ.funs.length+σ.clauses.length+1<=most) :
  EvF Tryz.prog okT 17 [ptr p] H fun _ H'=>∃rs',MkA H' B p (idxN σ (σ.clauses.map firstT) σ.clauses.length) rs'/\KX H H' p rs rs'/\H'.wf:=by
 refine EvF.enter rfl Tryz.func17 (by decide) rfl ?_;obtain⟨a2,c2,lz⟩:∃a2 c2,H.load ⟨p,2,none⟩ 1=some [.slice a2 σ.clauses.length c2]:=by
  obtain⟨a2,c2,a4,c4,a5,c5,a6,c6,a7,c7,a8,c8,a9,c9,sv,cl,ts,hs,ht,hc,l0,l1,l2,l3,l4,l5,l6,l7,l8,l9,l10,l11,b2,b4,b5,b6,b7,b8,b9⟩:=h.open;exact⟨a2,c2,l2⟩
 have hmx:σ.clauses.length<=9223372036854775807:=Zj (by omega) (show most<=9223372036854775807 by unfold most;omega)
 repeat' (first|refine qZa ?_|refine qZg ?_|(refine qZb ?_;simp (config:=qZc) (disch:=first|omega|rfl) only[sB,initTm,Za,reduceCtorEq,z2w,zl5,ld24,ln24,z0d,z0o,lz]))
 refine qZk (fun k' st=>∃(tm:Tr Value) (G:Heap) (i:Nat) (ri:List (List Value)),st=⟨tm,[],G⟩/\k'=σ.clauses.length - i/\i<=σ.clauses.length/\tm.get 0=some (ptr p)/\tm.get 12=some (.slice a2 σ.clauses.length c2)/\tm.get 13=some (.int .i64 (σ.clauses.length:Nat))/\tm.get 14=some (.int .i64 (i:Nat))/\MkA G B p (idxN σ (σ.clauses.map firstT) i) ri/\KX H G p rs ri/\G.wf/\Same2 H G p) ?_ σ.clauses.length _ ?_;rotate_left
 ·exact⟨_,_,0,rs,rfl,rfl,Zl _,(by simp only[sG,reduceCtorEq]),(by simp only[sG,Za,reduceCtorEq]),(by simp only[sG,Za,reduceCtorEq]),(by simp only[sB,Za,reduceCtorEq];rfl),h,⟨HK.refl hw,fun n q=>.inl q⟩,hw,rfl⟩
 rintro k' st ⟨tm,G,i,ri,rfl,rfl,hi,t0,t12,t13,t14,hG,kxG,wG,smG⟩;by_cases hlt:i < σ.clauses.length;rotate_left
 ·obtain rfl:i=σ.clauses.length:=by omega
  repeat' (first|refine qZa ?_|(refine qZi ?_;try simp only[sB])|(refine qZb ?_;simp (config:=qZc) (disch:=first|omega|rfl) only[sA,t13,t14,decn hlt])|(refine qZm ?_ ?_;simp (config:=qZc) (disch:=first|omega|rfl) only[sB];refine z02 ?_))
  exact z0j rfl ⟨ri,hG,kxG,wG⟩
 obtain⟨hL1,hL2,hL3⟩:=zi8 σ (σ.clauses.map firstT) i;obtain⟨hkc,-,-⟩:=zcc σ (σ.clauses.map firstT) i;have hxi:=hix.all (xs:=σ.clauses.map firstT) i (by rw[Zp];omega);have hxs:(σ.clauses.map firstT)[i]?=some (firstT σ.clauses[i]):=by rw[Zw,Zc hlt];rfl
 have hstep:idxN σ (σ.clauses.map firstT) (i+1)=idx1 (idxN σ (σ.clauses.map firstT) i) i (firstT σ.clauses[i]):=by
  show (match (σ.clauses.map firstT)[i]? with|some t=>idx1 (idxN σ (σ.clauses.map firstT) i) i t|none=>idxN σ (σ.clauses.map firstT) i)=_;rw[hxs]
 have hlx:((σ.clauses.map firstT).take i).length=i:=by rw[Zo,Zp];omega
 have hir:(idxN σ (σ.clauses.map firstT) i).rest.length<=i:=by have:=zeg hxi.inc hxi.lt;omega
 have hids:∀r∈(idxN σ (σ.clauses.map firstT) i).rows,r.ids.length<=i:=fun r hr=>by have:=hxi.row r hr;have:=zeg this.1 this.2.1;omega
 obtain⟨hpos,hck⟩:=hne _ (Zu hlt);obtain⟨a2,c2,a4,c4,a5,c5,a6,c6,a7,c7,a8,c8,a9,c9,sv,cl,ts,hs,ht,hc,l0,l1,l2,l3,l4,l5,l6,l7,l8,l9,l10,l11,b2,b4,b5,b6,b7,b8,b9⟩:=hG.open;rw[hkc] at l2 hc;have l2':=l2;rw[show G.load ⟨p,2,none⟩ 1=H.load ⟨p,2,none⟩ 1 from smG,lz] at l2';simp only[Option.some.injEq,List.cons.injEq,Value.slice.injEq,and_true,true_and] at l2';obtain⟨e1,e2⟩:=l2';subst e1 e2;obtain⟨cs,k,u,ua,uc,va,vn,vc,z,hcl,hrs⟩:=hc.2 i _ (Zc hlt);obtain⟨ha,hcap,cells,rfl,-,-,-,-,-,rl⟩:=hrs.rep.six;obtain⟨b,rfl,o,ld⟩:=hs.el (i:=2) (k:=i) rfl rfl hcl;obtain⟨b0,o0,aj,cj,rfl,hld,hrj⟩:=rl.el (i:=0) hpos;have hfst:firstT σ.clauses[i]=σ.clauses[i].args[0]:=by
  unfold firstT;generalize σ.clauses[i].args=l at hpos;cases l with
  |nil=>simp at hpos
  |cons x l=>rfl
 rw[<-hfst] at hld hrj;obtain⟨t,et⟩:∃t,firstT σ.clauses[i]=t:=⟨_,rfl⟩
 rw[et] at hld hrj hstep hck hxs;have ld:G.load ⟨b,i*15,none⟩ 15=some (fift σ.clauses[i] (some ⟨b0,o0,none⟩) hcap k u ua uc va vn vc z):=ld;obtain⟨G1,eG1,hxG1,gG1,nG1,wG1⟩:=z0m wG (.row [.int .i64 0,.string Zd,.string Zd,.int .u64 0,.int .i64 0,.slice none 0 0,.int .i64 0,.int .i64 0,.string Zd,.string Zd,.int .u64 0,.int .i64 0,.slice none 0 0,.slice none 0 0,.int .i64 0] 47) (.row (fift σ.clauses[i] (some ⟨b0,o0,none⟩) hcap k u ua uc va vn vc z) 47);have q1:=znk gG1;have hld1:=hxG1.load wG hld;obtain⟨G2,eG2,hxG2,gG2,nG2,wG2⟩:=z0m wG1 (.row zero6 28) (.row (six t aj cj) 28);have q2:=row6 gG2;obtain⟨G3,eG3,hxG3,gG3,nG3,wG3⟩:=z0m wG2 (.row [.bool false,.int .i64 0,.slice none 0 0] 65) (.row (rowV (rowC t) 0 none 0 0) 65);have q23:=row6 (hxG3.get wG2 gG2);have hx3:=(hxG1.trans hxG2).trans hxG3;obtain⟨h3,kx3⟩:=hG.keep wG hx3;have hr3:rowC t=!decide (t.kind=5):=rfl;have hstore:∀K:Bool,(K=true↔t.kind=1)->K=decide (t.kind=1):=fun K h=>by cases K<;>simp_all
 by_cases hk1:t.kind=1
 ·have hk5:t.kind≠5:=by omega
  have hrc:rowC t=true:=by unfold rowC;rw[decide_eq_false hk5];rfl
  rw[hrc] at eG3 gG3;obtain⟨H4,e4,hx4,g4,n4,w4⟩:=new1 wG3 (.row [.int .i64 (i:Nat)] 3);obtain⟨h4,kx4⟩:=h3.keep wG3 hx4;obtain⟨a9',c9',l9',H5,V5,c5',e5,g5,hV5,H6,e6,h6,kx6,w6,sm6⟩:=h4.restpush w4 (ad:=⟨G3.next,0,none⟩) (c1:=1) (zfl g4) (by have:=hir;omega);have hx34:=hx3.trans hx4;have l93:G3.load ⟨p,9,none⟩ 1=H4.load ⟨p,9,none⟩ 1:=by
   unfold Heap.load Heap.cells;rw[hx4.keep p (h3.lt wG3)]
  rw[l9'] at l93;have sm06:Same2 H H6 p:=sm6.trans ((hx34.same2 (hG.lt wG)).trans smG);have kx06:KX H H6 p rs ri:=kxG.trans (kx3.trans (kx4.trans kx6));obtain⟨L,eL⟩:∃L,(idxN σ (σ.clauses.map firstT) i).rows=L:=⟨_,rfl⟩
  rw[eL] at hids hL3;obtain⟨a8',c8',l86⟩:∃a c,H6.load ⟨p,8,none⟩ 1=some [.slice a L.length c]:=by
   obtain⟨a2,c2,a4,c4,a5,c5,a6,c6,a7,c7,a8,c8,a9,c9,sv,cl,ts,hs,ht,hc,-,-,-,-,-,-,-,-,l8,-⟩:=h6.open;exact⟨a8,c8,by rw[l8,<-eL]⟩
  repeat' (first|refine qZa ?_|(refine qZe ?_;try simp only[z00])|(refine qZb ?_;simp (config:=qZc) (disch:=first|omega|rfl) only[sA,t13,t14,decl hlt])|(refine qZd ?_ ?_;simp (config:=qZc) (disch:=first|omega|rfl) only[sB];refine z02 ?_))
  refine qZg ?_
  repeat' (first|refine qZa ?_|(refine qZb ?_;simp (config:=qZc) (disch:=first|omega|rfl) only[sB,dAlloc,Za,Zb,Value.cells,one,Zq,layC,Int.reduceToNat,ia24,ld47,zr47,st47,z4f,z0u,ld26,ld28,zr28,st28,z0i,ld3,bd65,zr65,st65,t12,t14,ld,eG1,q1,iz26,hld1,eG2,q2,z1z hk5,eG3,q23]))
  refine qZg ?_
  repeat' (first|refine qZa ?_|(refine qZb ?_;simp (config:=qZc) (disch:=first|omega|rfl) only[sB,Za,Zb,Value.cells,one,reduceCtorEq,layC,z2w,zl7,ld32,zde,st32,z8w,ld33,ln33,z0d,z0o,t0,z0l hk1,l93,e4,e5,g5,hV5,e6,l86])|(refine qZd ?_ ?_;simp (config:=qZc) (disch:=first|omega|rfl) only[sB,Za];refine z02 ?_))
  obtain⟨σ6,eσ6⟩:∃ σ6:MS,σ6={ idxN σ (σ.clauses.map firstT) i with rest:=(idxN σ (σ.clauses.map firstT) i).rest++[i] }:=⟨_,rfl⟩
  rw[<-eσ6] at h6;have e6r:σ6.rows=L:=by rw[eσ6];exact eL
  have hlm:L.length+1<=most:=by rw[hr0] at hL3;simp only[List.length_nil] at hL3;omega
  have hlx':L.length<=9223372036854775807:=Zj (by omega) (show most<=9223372036854775807 by unfold most;omega);have hLk:∀j,j<=L.length->((L.take j).map (rowUp i)++L.drop j).length=L.length:=fun j hj=>by
   rw[Zr,Zp,Zo,List.length_drop];omega
  (repeat refine qZa ?_);refine EvC.join (fun st=>∃(tm:Tr Value) (G':Heap) (ri':List (List Value)),st=⟨tm,[],G'⟩/\tm.get 0=some (ptr p)/\tm.get 12=some (.slice (some ⟨b,0,none⟩) σ.clauses.length c2)/\tm.get 13=some (.int .i64 (σ.clauses.length:Nat))/\tm.get 14=some (.int .i64 (i:Nat))/\MkA G' B p { σ6 with rows:=L.map (rowUp i) } ri'/\KX H G' p rs ri'/\G'.wf/\Same2 H G' p) ?_ ?_
  ·refine qZg (qZk (fun k' st=>∃(tm:Tr Value) (G':Heap) (j:Nat) (ri':List (List Value)),st=⟨tm,[],G'⟩/\k'=L.length - j/\j<=L.length/\tm.get 0=some (ptr p)/\tm.get 2=some (.int .i64 (i:Nat))/\tm.get 12=some (.slice (some ⟨b,0,none⟩) σ.clauses.length c2)/\tm.get 13=some (.int .i64 (σ.clauses.length:Nat))/\tm.get 14=some (.int .i64 (i:Nat))/\tm.get 53=some (.int .i64 (L.length:Nat))/\tm.get 54=some (.int .i64 (j:Nat)) /\
    MkA G' B p { σ6 with rows:=(L.take j).map (rowUp i)++L.drop j } ri'/\KX H G' p rs ri'/\G'.wf/\Same2 H G' p) ?_ L.length _ ?_)
   rotate_left
   ·exact⟨_,_,0,ri,rfl,rfl,Zl _,(by simp only[sG,reduceCtorEq,t0]),(by simp only[sG,Za]),(by simp only[sG,Za,t12]),(by simp only[sG,Za,t13]),(by simp only[sG,Za,t14]),(by simp only[sG,Za]),(by simp only[sB,Za];rfl),by simpa [<-e6r] using h6,kx06,w6,sm06⟩
   rintro k' st ⟨tm,G',j,rj,rfl,rfl,hj,t0,t2,t12,t13,t14,t53,t54,hG',kxG',wG',smG'⟩;by_cases hlj:j < L.length;rotate_left
   ·obtain rfl:j=L.length:=by omega
    repeat' (first|refine qZa ?_|(refine qZi ?_;try simp only[sB,Za,reduceCtorEq])|(refine qZb ?_;simp (config:=qZc) (disch:=first|omega|rfl) only[sA,t53,t54,decn hlj])|(refine qZm ?_ ?_;simp (config:=qZc) (disch:=first|omega|rfl) only[sB];refine z02 ?_))
    exact⟨_,_,rj,rfl,(by simp only[sG,reduceCtorEq,t0]),(by simp only[sG,Za,t12]),(by simp only[sG,Za,t13]),(by simp only[sG,Za,t14]),by simpa using hG',kxG',wG',smG'⟩
   obtain⟨Gb,eb,hxb,gb,wb⟩:=zl1 wG' 21 16 (by omega) (.row [.int .i64 (i:Nat)] 3);have hget:((L.take j).map (rowUp i)++L.drop j)[j]?=some L[j]:=by
    rw[ZC (by rw[Zp,Zo];omega),Zp,Zo,ZN,Nat.min_eq_left hj,Nat.sub_self,Nat.add_zero,Zc hlj]
   obtain⟨b8,cs8,a8,ca,c8,l8,-,ld8,J2,cn,e8,g8,hb8,l82,J3,rj',e83,h83,kx83,w83,sm83⟩:=hG'.rowpush wG' hxb (k:=j) (i:=i) hget (ad:=⟨G'.next+16,0,none⟩) (c1:=1) (zfl gb) (by have:=hids _ (Zu hlj);omega);rw[hLk j hj] at l8 l82;simp only[] at h83;rw[zpn hlj] at h83
   repeat' (first|refine qZa ?_|refine qZg ?_|(refine qZe ?_;try simp only[z00])|(refine qZb ?_;simp (config:=qZc) (disch:=first|omega|rfl) only[sB,Za,t53,t54,decl hlj,z4i (i:=j) (by omega)])|(refine qZj (id:=12) [([(6,0),(7,0),(8,0),(9,0),(10,0),(11,0),(12,0),(13,0),(14,0),(15,0),(16,0)],some 17),([(0,0),(1,0),(2,0),(3,0),(4,0),(5,0),(18,1),(19,1)],some 20),([],none)] ?_ ?_;kernel_rfl;simp (config:=qZc) (disch:=first|omega|rfl) only[sV,sD,sB,Za,Zb,Value.cells,one,reduceCtorEq,layC,z2w,ld32,zde,st32,z8w,ld33,ia33,zgz,z0d,z0o,t0,t2,eb,l8,ld8,e8,l82,g8,hb8,e83,isAlloc,isRead,dalloc])|(refine qZd ?_ ?_;simp (config:=qZc) (disch:=first|omega|rfl) only[sB];refine z02 ?_))
   exact⟨L.length - (j+1),by omega,_,_,j+1,rj',rfl,rfl,by omega,(by simp only[sG,reduceCtorEq,t0]),(by simp only[sG,Za,t2]),(by simp only[sG,Za,t12]),(by simp only[sG,Za,t13]),(by simp only[sG,Za,t14]),(by simp only[sG,Za,t53]),(by simp only[sG,Za]),h83,kxG'.trans kx83,w83,sm83.trans smG'⟩
  rintro st ⟨tm,G',ri',rfl,t0,t12,t13,t14,hG',kxG',wG',smG'⟩;simp only[z00]
  repeat' (first|(refine qZi ?_;try simp only[sB,Za,reduceCtorEq])|(refine qZb ?_;simp (config:=qZc) (disch:=first|omega|rfl) only[sB,t14,z4i (i:=i) (by omega)]))
  refine⟨σ.clauses.length - (i+1),by omega,_,_,i+1,ri',rfl,rfl,by omega,(by simp only[sG,reduceCtorEq,t0]),(by simp only[sG,Za,t12]),(by simp only[sG,Za,t13]),(by simp only[sG,Za]),?_,kxG',wG',smG'⟩;rw[hstep];unfold idx1;rw[if_pos hk1,eL];rw[eσ6] at hG';exact hG'
 have hoq:OffK G3 p ri G2.next:=hG.fresh wG hx3 (by have:=(hxG1.trans hxG2).next;omega) (by omega);obtain⟨L,eL⟩:∃L,(idxN σ (σ.clauses.map firstT) i).rows=L:=⟨_,rfl⟩
 obtain⟨σi,eσ⟩:∃ σi,idxN σ (σ.clauses.map firstT) i=σi:=⟨_,rfl⟩
 have hm23:G.next<=G2.next:=(hxG1.trans hxG2).next;rw[eL] at hids;have hlm:L.length+1<=most:=by rw[eL,hr0] at hL3;simp only[List.length_nil] at hL3;omega
 rw[eσ] at hG h3 hL1 hL2 hir eL hstep;have hkr:(idxKey σi t).rows=L:=by unfold idxKey;split<;>exact eL
 have hkrest:(idxKey σi t).rest=σi.rest:=by unfold idxKey;split<;>rfl
 have hkcl:(idxKey σi t).clauses=σi.clauses:=by unfold idxKey;split<;>rfl
 have hlx':L.length<=9223372036854775807:=Zj (by omega) (show most<=9223372036854775807 by unfold most;omega);have hne5:(t.kind != 5)=rowC t:=by
  unfold rowC;by_cases h:t.kind=5
  ·rw[z15 h,decide_eq_true h];rfl
  ·rw[z1z h,decide_eq_false h];rfl
 repeat' (first|refine qZa ?_|(refine qZe ?_;try simp only[z00])|(refine qZb ?_;simp (config:=qZc) (disch:=first|omega|rfl) only[sA,t13,t14,decl hlt])|(refine qZd ?_ ?_;simp (config:=qZc) (disch:=first|omega|rfl) only[sB];refine z02 ?_))
 refine qZg ?_
 repeat' (first|refine qZa ?_|(refine qZb ?_;simp (config:=qZc) (disch:=first|omega|rfl) only[sB,dAlloc,Za,Zb,Value.cells,one,Zq,layC,Int.reduceToNat,ia24,ld47,zr47,st47,z4f,z0u,ld26,ld28,zr28,st28,z0i,ld3,bd65,zr65,st65,t12,t14,ld,eG1,q1,iz26,hld1,eG2,q2,hne5,eG3,q23]))
 refine EvC.join (fun st=>∃(tm:Tr Value) (H5:Heap),st=⟨tm,[],H5⟩/\tm.get 0=some (ptr p)/\tm.get 2=some (.int .i64 (i:Nat))/\tm.get 5=some (ptr G2.next)/\tm.get 12=some (.slice (some ⟨b,0,none⟩) σ.clauses.length c2)/\tm.get 13=some (.int .i64 (σ.clauses.length:Nat))/\tm.get 14=some (.int .i64 (i:Nat))/\MkA H5 B p (idxKey σi t) ri/\KX G H5 p ri ri/\H5.wf/\Same2 H H5 p/\H5.get G2.next=some (.row (rowV (rowC t) (idxW σi t) none 0 0) 65)/\OffK H5 p ri G2.next) ?_ ?_
 ·refine qZg ?_;by_cases hk5:t.kind=5
  ·have eK:idxKey σi t={ σi with funs:=putK σi.funs (keyT t) }:=by unfold idxKey;rw[if_pos hk5]
   have eW:idxW σi t=posK σi.funs (keyT t):=by unfold idxW;rw[if_pos hk5]
   repeat' (first|refine qZa ?_|(refine qZb ?_;simp (config:=qZc) (disch:=first|omega|rfl) only[sB,Za,reduceCtorEq,ld28,cl42,z39,t0,z0g hk1,z0l hk5,q23])|(refine qZd ?_ ?_;simp (config:=qZc) (disch:=first|omega|rfl) only[sB,Za];refine z02 ?_)|(refine qZm ?_ ?_;simp (config:=qZc) (disch:=first|omega|rfl) only[sB,Za];refine z02 ?_))
   refine(zfn h3 wG3 t aj cj (by omega)).mono ?_;rintro v H4 ⟨rfl,h4,kx4,w4,sm4⟩;obtain⟨g4e,o4,-⟩:=kx4.off hoq;have g4:=g4e.trans gG3;obtain⟨h5,w5,sm5,o5,kx5⟩:=h4.box w4 o4 g4 (z62 (by simp)) (.row (rowV (rowC t) (posK σi.funs (keyT t):Nat) none 0 0) 65);have q4:=z5z g4
   repeat' (first|(refine z0q ?_;simp (config:=qZc) (disch:=first|omega|rfl) only[sB,Zb,one,Zq,st3,g4]))
   exact⟨_,_,rfl,(by simp only[sG,reduceCtorEq,t0]),(by simp only[sG,Za]),(by simp only[sG,Za]),(by simp only[sG,Za,t12]),(by simp only[sG,Za,t13]),(by simp only[sG,Za,t14]),by rw[eK];exact h5,kx5 G ri hm23 (kx3.trans kx4),w5,sm5.trans (sm4.trans ((hx3.same2 (hG.lt wG)).trans smG)),by rw[eW,get_put,if_pos rfl],o5⟩
  ·have eK:idxKey σi t={ σi with consts:=putT σi.consts t }:=by unfold idxKey;rw[if_neg hk5]
   have eW:idxW σi t=posT σi.consts t:=by unfold idxW;rw[if_neg hk5]
   repeat' (first|refine qZa ?_|(refine qZb ?_;simp (config:=qZc) (disch:=first|omega|rfl) only[sB,Za,reduceCtorEq,ld28,z39,cl43,t0,z0g hk1,z0g hk5,q23])|(refine qZm ?_ ?_;simp (config:=qZc) (disch:=first|omega|rfl) only[sB,Za];refine z02 ?_))
   refine(z9p h3 wG3 (hrj.mono hx3 wG) hck (by omega)).mono ?_;rintro v H4 ⟨rfl,h4,kx4,w4,sm4⟩;obtain⟨g4e,o4,-⟩:=kx4.off hoq;have g4:=g4e.trans gG3;obtain⟨h5,w5,sm5,o5,kx5⟩:=h4.box w4 o4 g4 (z62 (by simp)) (.row (rowV (rowC t) (posT σi.consts t:Nat) none 0 0) 65);have q4:=z5z g4
   repeat' (first|(refine z0q ?_;simp (config:=qZc) (disch:=first|omega|rfl) only[sB,Zb,one,Zq,st3,g4]))
   exact⟨_,_,rfl,(by simp only[sG,reduceCtorEq,t0]),(by simp only[sG,Za]),(by simp only[sG,Za]),(by simp only[sG,Za,t12]),(by simp only[sG,Za,t13]),(by simp only[sG,Za,t14]),by rw[eK];exact h5,kx5 G ri hm23 (kx3.trans kx4),w5,sm5.trans (sm4.trans ((hx3.same2 (hG.lt wG)).trans smG)),by rw[eW,get_put,if_pos rfl],o5⟩
 rintro st ⟨tm,H5,rfl,t0,t2,t5,t12,t13,t14,h5,kx5,w5,sm5,g5,o5⟩;simp only[z00];obtain⟨a8',c8',l85⟩:=h5.rowsl hkr;have hidx:=znn h5 w5 (a8:=a8') (c8:=c8') (by rw[hkr];exact l85) g5;rw[hkr] at hidx;obtain⟨kk,ekk⟩:∃kk,rowAt L (rowC t) (idxW σi t)=kk:=⟨_,rfl⟩
 have hkl:kk<=L.length:=by rw[<-ekk];exact List.findIdx_le_length
 rw[ekk] at hidx
 repeat' (first|refine qZa ?_|(refine qZb ?_;simp (config:=qZc) (disch:=first|omega|rfl) only[sB,Za,z2w,z8w,ld33,cl44,z0d,z0o,t0,t5,l85,List.map_toArray]))
 refine hidx.mono ?_;rintro v H6 ⟨hv,hx6⟩;obtain⟨h6,kx6⟩:=h5.keep w5 hx6;have w6:=hx6.wf;have g6:=hx6.get w5 g5;obtain⟨-,o6,-⟩:=kx6.off o5;have l86:=hx6.load w5 l85;have hp5:=h5.lt w5;have sm6:Same2 H H6 p:=(hx6.same2 hp5).trans sm5;refine EvC.cut (fun st=>∃(tm:Tr Value) (H9:Heap) (r9:List (List Value)),st=⟨tm,[],H9⟩/\tm.get 0=some (ptr p)/\tm.get 2=some (.int .i64 (i:Nat))/\tm.get 7=some (.int .i64 (kk:Nat))/\tm.get 12=some (.slice (some ⟨b,0,none⟩) σ.clauses.length c2)/\tm.get 13=some (.int .i64 (σ.clauses.length:Nat))/\tm.get 14=some (.int .i64 (i:Nat)) /\
   MkA H9 B p { idxKey σi t with rows:=rowPut L (rowC t) (idxW σi t) σi.rest } r9/\KX G H9 p ri r9/\H9.wf/\Same2 H H9 p) ?_ ?_
 ·by_cases hold:kk < L.length
  ·rw[if_pos hold] at hv;subst hv;have hnn:decide ((kk:Int) < 0)=false:=decide_eq_false (by omega)
   repeat' (first|refine qZa ?_|(refine qZe ?_;try simp only[true_and])|(refine qZb ?_;simp (config:=qZc) (disch:=first|omega|rfl) only[sB,Za,hnn])|(refine qZm ?_ ?_;simp (config:=qZc) (disch:=first|omega|rfl) only[sB,Za];refine z02 ?_))
   have e:rowPut L (rowC t) (idxW σi t) σi.rest=L:=by unfold rowPut;rw[ekk,if_pos hold]
   exact⟨_,_,ri,rfl,(by simp only[sG,reduceCtorEq,t0]),(by simp only[sG,Za,t2]),(by simp only[sG,Za]),(by simp only[sG,Za,t12]),(by simp only[sG,Za,t13]),(by simp only[sG,Za,t14]),by rw[e,<-hkr];exact h6,kx5.trans kx6,w6,sm6⟩
  ·rw[if_neg hold] at hv;subst hv;obtain rfl:kk=L.length:=by omega
   have hnn:decide ((-1:Int) < 0)=true:=by decide
   obtain⟨v9,l9,hv9⟩:=h6.restsl;rw[hkrest] at hv9
   repeat' (first|refine qZa ?_|(refine qZb ?_;simp (config:=qZc) (disch:=first|omega|rfl) only[sB,Za,reduceCtorEq,z2w,zl7,ld32,z8w,ld33,ln33,cl20,z0d,z0o,t0,hnn,l86,l9])|(refine qZd ?_ ?_;simp (config:=qZc) (disch:=first|omega|rfl) only[sB,Za];refine z02 ?_))
   refine(z9r hv9 (by omega) w6).mono ?_;rintro u H7 ⟨hx7,hu⟩;obtain⟨ua,uc,rfl,hu1,hu2⟩:=hu.slice;rw[z1o] at hu hu1 ⊢;have w7:=hx7.wf;have g7:=hx7.get w6 g6;have q7:=z5z g7;obtain⟨h6x,w6x,sm6x,o6x,kx6x⟩:=h6.box w6 o6 g6 (z62 (by simp)) (.row (rowV (rowC t) (idxW σi t) ua σi.rest.length uc) 65);have hx68:=zno hx7 o6.1 (.row (rowV (rowC t) (idxW σi t) ua σi.rest.length uc) 65);obtain⟨H8,e8⟩:∃H8,H7.put G2.next (some (.row (rowV (rowC t) (idxW σi t) ua σi.rest.length uc) 65))=H8:=⟨_,rfl⟩
   rw[e8] at hx68;have w8:=hx68.wf;have n8:H8.next=H7.next:=by rw[<-e8];rfl
   have g8:H8.get G2.next=some (.row (rowV (rowC t) (idxW σi t) ua σi.rest.length uc) 65):=by rw[<-e8,get_put,if_pos rfl]
   have q8:=z5z g8;obtain⟨Hb,eb,hxb,gb,wb⟩:=zl1 w8 13 7 (by omega) (.row (rowV (rowC t) (idxW σi t) ua σi.rest.length uc) 65);have hB6:B<=H6.next:=by have:=(h6.lo (.inl (.inl rfl))).1;have:=h6.lt w6;omega
   have hvlo:∀n,blkOf (.slice ua σi.rest.length uc)=some n->H6.next<=n:=fun n hn=>(FR.lo (f:=.sl 3 1 (idK σi.rest)) hu hn).1
   have hub:RepO Hb 3 1 B (idK σi.rest) (.slice ua σi.rest.length uc):=(FR.heap (f:=.sl 3 1 (idK σi.rest)) (hu.low hB6) (fun n hn=>by
    have:=hvlo n hn;rw[<-e8,get_put,if_neg (by have:=o6.1;omega)]) (by omega):FR H8 B (.sl 3 1 (idK σi.rest)) (.slice ua σi.rest.length uc)).heap (fun n hn=>hxb.keep n (by have:=(FR.lo (f:=.sl 3 1 (idK σi.rest)) hu hn).2;omega)) hxb.next
   obtain⟨a8,c8,l8,J2,V9,cn,e82,g82,hV9,J3,r9,e9,h9,kx9,w9,sm9⟩:=h6x.rownew w6x (hx68.trans hxb) hub (fun n hn=>by have:=hvlo n hn;rw[z07];exact this) (ad:=⟨H8.next+7,0,none⟩) (c1:=1) (z5z gb).1 (by rw[hkr];exact hlm);rw[hkr] at l8 e82 e9 h9;have hp8:p < H8.next:=by have:=h6.lt w6;have:=hx7.next;omega
   have l88:H8.load ⟨p,8,none⟩ 1=_:=(z9e (hxb.keep p hp8)).symm.trans l8
   repeat' (first|(refine qZj (id:=20) [([(1,0),(2,0),(3,0),(4,0),(5,0),(6,0),(7,0)],some 8),([(0,0),(9,1),(10,1),(11,1)],some 12),([],none)] ?_ ?_;kernel_rfl;simp (config:=qZc) (disch:=first|omega|rfl) only[sD,sB,Za,Zb,Value.cells,one,reduceCtorEq,layC,z2w,z8w,ld33,ld65,zu0,st33,z0d,z0o,t0,t5,q8,l88,eb,e82,g82,hV9,e9,isAlloc,isRead,dalloc,zaf])|(refine z0q ?_;simp (config:=qZc) (disch:=first|omega|rfl) only[sB,Za,Zb,one,st32,zgz,t5,g7,e8]))
   have e:rowPut L (rowC t) (idxW σi t) σi.rest=L++[⟨rowC t,idxW σi t,σi.rest⟩]:=by unfold rowPut;rw[ekk,if_neg (Nat.lt_irrefl _)]
   exact⟨_,_,r9,rfl,(by simp only[sG,reduceCtorEq,t0]),(by simp only[sG,Za,t2]),(by simp only[sG,Za]),(by simp only[sG,Za,t12]),(by simp only[sG,Za,t13]),(by simp only[sG,Za,t14]),by rw[e];exact h9,(kx6x G ri hm23 (kx5.trans kx6)).trans kx9,w9,sm9.trans (sm6x.trans sm6)⟩
 rintro st ⟨tm,H9,r9,rfl,t0,t2,t7,t12,t13,t14,h9,kx9,w9,sm9⟩;obtain⟨r,hget,-,-⟩:=zef (l:=L) (c:=rowC t) (w:=idxW σi t) (ids:=σi.rest);rw[ekk] at hget;have hrids:r.ids.length<=i:=by
  rcases z7e (Zx hget) with q|rfl
  ·exact hids r q
  ·exact hir
 obtain⟨Gb,eb,hxb,gb,wb⟩:=zl1 w9 21 16 (by omega) (.row [.int .i64 (i:Nat)] 3);obtain⟨b8,cs8,a8,ca,c8,l8,hkk,ld8,J2,cn,e8,g8,hb8,l82,J3,rj',e83,h83,kx83,w83,sm83⟩:=h9.rowpush w9 hxb (k:=kk) (i:=i) hget (ad:=⟨H9.next+16,0,none⟩) (c1:=1) (zfl gb) (by omega)
 repeat' (first|(refine qZb ?_;simp (config:=qZc) (disch:=first|omega|rfl) only[sB,Za,t14,z4i (i:=i) (by omega)])|(refine qZj (id:=21) [([(6,0),(7,0),(8,0),(9,0),(10,0),(11,0),(12,0),(13,0),(14,0),(15,0),(16,0)],some 17),([(0,0),(1,0),(2,0),(3,0),(4,0),(5,0),(18,1),(19,1)],some 20),([],none)] ?_ ?_;kernel_rfl;simp (config:=qZc) (disch:=first|omega|rfl) only[sV,sD,sB,Za,Zb,Value.cells,one,reduceCtorEq,layC,z2w,ld32,zde,st32,z8w,ld33,ia33,zgz,z0d,z0o,t0,t2,t7,eb,l8,ld8,e8,l82,g8,hb8,e83,isAlloc,isRead,dalloc]))
 refine⟨σ.clauses.length - (i+1),by omega,_,_,i+1,rj',rfl,rfl,by omega,(by simp only[sG,reduceCtorEq,t0]),(by simp only[sG,Za,t12]),(by simp only[sG,Za,t13]),(by simp only[sG,Za]),?_,kxG.trans (kx9.trans kx83),w83,sm83.trans sm9⟩;rw[hstep];unfold idx1;rw[if_neg hk1,eL,ekk];exact h83
end
section
variable {H H':Heap}{B p:Nat}{σ σ':MS}{rs rs':List (List Value)}
def σ0 (k:PK) (ix:Bool):MS:=⟨k,ix,[],[],[],[],[],[],[],none,0⟩
abbrev mk0 (k:PK) (ix:Bool):List Value:=[.string k.1,.int .i64 k.2,.slice none 0 0,.bool ix,.slice none 0 0,.slice none 0 0,.slice none 0 0,.slice none 0 0,.slice none 0 0,.slice none 0 0,.map none,.int .i64 0]
theorem MkA.init {k:PK}{ix:Bool}(hg:H.get p=some (.row (mk0 k ix) 58)) (hB:B<=p):MkA H B p (σ0 k ix) []:=by
 refine⟨⟨mk0 k ix,[],[],⟨hg,hB,rfl,fun i f v hf hv=>?_,fun i j v u n hv hu hn hm=>?_,fun i v hv=>?_,rfl⟩,⟨rfl,fun i t h=>by simp [σ0] at h⟩,⟨rfl,fun i t h=>by simp [σ0] at h⟩⟩,⟨rfl,fun i r h=>by simp [σ0] at h,fun i j r q v u n h=>by simp at h⟩⟩
 ·match i,hf,hv with
  |0,hf,hv=>cases hf;cases hv;exact⟨rfl,rfl⟩
  |1,hf,hv=>cases hf;cases hv;exact⟨rfl,rfl⟩
  |2,hf,hv=>cases hf;cases hv;exact .inl ⟨rfl,rfl⟩
  |3,hf,hv=>cases hf;cases hv;exact⟨rfl,rfl⟩
  |4,hf,hv=>cases hf;cases hv;exact .inl ⟨rfl,rfl⟩
  |5,hf,hv=>cases hf;cases hv;exact .inl ⟨rfl,rfl⟩
  |6,hf,hv=>cases hf;cases hv;exact .inl ⟨rfl,rfl⟩
  |7,hf,hv=>cases hf;cases hv;exact .inl ⟨rfl,rfl⟩
  |8,hf,hv=>cases hf;cases hv;exact .inl ⟨rfl,rfl⟩
  |9,hf,hv=>cases hf;cases hv;exact .inl ⟨rfl,rfl⟩
  |10,hf,hv=>cases hf;cases hv;exact⟨rfl,rfl⟩
  |11,hf,hv=>cases hf;cases hv;exact⟨rfl,rfl⟩
  |n+12,hf,hv=>simp at hv
 ·have hno:∀v∈mk0 k ix,blkOf v=none:=by simp [blkOf]
  rw[hno v (Zx hv)] at hn;cases hn
 ·have hno:∀v∈mk0 k ix,blkOf v=none:=by simp [blkOf]
  rw[hno v (Zx hv)];intro q;cases q
theorem MkA.clpush {H0:Heap}(h0:MkA H0 B p σ rs) (hw0:H0.wf) (hx:HX H0 H) {t u:Tm}{a ua va:Option Addr}{c uc vn vc:Nat}{k z:Int}{S:Nat->Prop}(hr:RepS H S t (six t a c)) (hS:∀n,S n->H0.next<=n/\n < H.next) {ad:Addr}{c1:Nat}(hl:H.load ad (1*15)=some (fift t a c k u ua uc va vn vc z)) (hm:σ.clauses.length+1<=most) :
  ∃a2 c2,H0.load ⟨p,2,none⟩ 1=some [.slice a2 σ.clauses.length c2]/\∃H2 V c',dAp Tryz.prog #[24,24] (.slice a2 σ.clauses.length c2) (.slice (some ad) 1 c1) H=some (.val (.slice (some ⟨H.next,0,none⟩) (σ.clauses.length+1) c') H2)/\H2.get p=some (.row V 58)/\2+1<=V.length /\
  ∃H3,H2.put p (some (.row (Hb.splice V 2 [.slice (some ⟨H.next,0,none⟩) (σ.clauses.length+1) c']) 58))=H3/\MkA H3 B p { σ with clauses:=σ.clauses++[t] } rs/\KX H0 H3 p rs rs/\H3.wf:=by
 obtain⟨a2,c2,a4,c4,a5,c5,a6,c6,a7,c7,a8,c8,a9,c9,sv,cl,ts,hs,ht,hc,l0,l1,l2,l3,l4,l5,l6,l7,l8,l9,l10,l11,b2,b4,b5,b6,b7,b8,b9⟩:=h0.open;have hsH:=hs.keep hw0 hx;have hw:=hx.wf;obtain⟨H2,c',e2,g2,w2,k2,H3,e3,s3,x3⟩:=hsH.pushed (P:=Tryz.prog) (i:=2) (c1:=c1) (t:=24) hw ap24 rfl rfl hl rfl rfl (by rw[hc.1];exact hm);rw[hc.1] at e2 e3 s3;have sx:=(hx.sx (h0.lt hw0)).trans x3;have hmH:∀n,Mut H p n->Mut H0 p n:=fun n q=>(Mut.same (hx.keep p (h0.lt hw0)) n).1 q
 obtain⟨h3,kx3⟩:=h0.turn (σ':={ σ with clauses:=σ.clauses++[t] }) (cl':=cl++[fift t a c k u ua uc va vn vc z]) (ts':=ts) hw0 (by simpa [mFlds] using s3) sx rfl (fun S' q1 _=>ht.to fun n hn hl=>⟨sx.hk.keep n hl fun q=>hn.2 (.inl q),q1 n hn,Zi hl sx.next⟩) fun S' q1 q2=>by
  refine⟨by rw[Zr,Zr,hc.1];rfl,fun i x hxi=>?_⟩;rcases z2v hxi with hxi|⟨rfl,rfl⟩
  ·obtain⟨cs',k',u',ua',uc',va',vn',vc',z',g1,g2⟩:=hc.2 i x hxi;exact⟨cs',k',u',ua',uc',va',vn',vc',z',by rw[Zz (List.getElem?_eq_some_iff.1 g1).1];exact g1,g2.to fun n hn hl=>⟨sx.hk.keep n hl fun q=>hn.2 (.inl q),q1 n hn,Zi hl sx.next⟩⟩
  ·refine⟨six x a c,k,u,ua,uc,va,vn,vc,z,by rw[<-hc.1];simp,hr.to fun n hn hl=>?_⟩;obtain⟨b1,b2⟩:=hS n hn;have hnm:¬Mut H p n:=fun q=>by have:=h0.hi hw0 (.inl (hmH n q));omega
   refine⟨x3.hk.keep n hl hnm,q2 n b1 (Zi hl x3.next) fun q=>?_,Zi hl x3.next⟩;rcases x3.mt n q with q|q
   ·exact hnm q
   ·omega
 exact⟨a2,c2,l2,H2,_,c',e2,g2,by simp,H3,e3,h3,kx3,sx.wf⟩
theorem zjv {s:ByteArray}{n:Int}{b:Bool}{a2 a4 a5 a6 a7 a8 a9:Option Addr}{n2 n4 n5 n6 n7 n8 n9 c2 c4 c5 c6 c7 c8 c9:Nat}:NoSix [.string s,.int .i64 n,.slice a2 n2 c2,.bool b,.slice a4 n4 c4,.slice a5 n5 c5,.slice a6 n6 c6,.slice a7 n7 c7,.slice a8 n8 c8,.slice a9 n9 c9]:=fun o t a c e=>by
 match o,e with
 |0,e=>simp at e
 |1,e=>simp at e
 |2,e=>simp at e
 |3,e=>simp at e
 |4,e=>simp at e
 |o+5,e =>
  have:=congrArg List.length e;simp only[Zo,List.length_drop,ZD,List.length_nil] at this;omega
end
noncomputable def errC (k:PK) (c:Cls):Int:=if checkC c=0 then (if c.head.name=k.1/\(c.head.args.length:Int)=k.2 then 0 else 1) else checkC c
noncomputable def errS (k:PK):List Cls->Int
 |[]=>0
 |c :: L=>if errC k c=0 then errS k L else errC k c
theorem zcd {k:PK}:∀{L:List Cls}{i:Nat}(hi:i < L.length),(∀(j:Nat) (hj:j < L.length),j < i->errC k L[j]=0)->errC k L[i]≠0->errS k L=errC k L[i]
 |c :: L,0,_,_,h=>by
  simp only[List.getElem_cons_zero] at h ⊢;unfold errS;rw[if_neg h]
 |c :: L,i+1,hi,ha,h=>by
  have h0:=ha 0 (by simp) (by omega);simp only[List.getElem_cons_zero] at h0;unfold errS;rw[if_pos h0];simp only[List.getElem_cons_succ] at h ⊢;exact zcd (by simpa using hi) (fun j hj hji=>ha (j+1) (Nat.succ_lt_succ hj) (by omega)) h
theorem zeh {k:PK}:∀{L:List Cls},(∀(j:Nat) (hj:j < L.length),errC k L[j]=0)->errS k L=0
 |[],_=>rfl
 |c :: L,ha=>by
  have h0:=ha 0 (by simp);simp only[List.getElem_cons_zero] at h0;unfold errS;rw[if_pos h0];exact zeh fun j hj=>ha (j+1) (Nat.succ_lt_succ hj)
structure RdCs (H:Heap) (L:List Cls) (a:Option Addr) (c:Nat):Prop where
 len:L.length<=c
 cap:c<=maxLen
 el:∀(i:Nat) (hi:i < L.length),∃b o cs,a=some ⟨b,o,none⟩/\H.load ⟨b,o+i*15,none⟩ 15=some cs/\RdC H L[i] cs
structure SpecC (σ:MS) (k:PK) (ix:Bool) (L:List Cls):Prop where
 key:σ.key=k
 index:σ.index=ix
 cls:σ.clauses=L.map (·.head)
 ind:ix=true->0 < k.2->Ix σ (L.map fun c=>firstT c.head)
 non:¬(ix=true/\0 < k.2)->σ.rows=[]/\σ.rest=[]
abbrev cV (σ:MS) (a2:Option Addr) (c2:Nat) (a4:Option Addr) (c4:Nat) (a5:Option Addr) (c5:Nat) (a6:Option Addr) (c6:Nat) (a7:Option Addr) (c7:Nat) (a8:Option Addr) (c8:Nat) (a9:Option Addr) (c9:Nat):List Value :=
 [.string σ.key.1,.int .i64 σ.key.2,.slice a2 σ.clauses.length c2,.bool σ.index,.slice a4 σ.ins.length c4,.slice a5 σ.consts.length c5,.slice a6 σ.funs.length c6,.slice a7 σ.starts.length c7,.slice a8 σ.rows.length c8,.slice a9 σ.rest.length c9]
def CodeR (H:Heap) (B p:Nat) (σ:MS) (cs:List Value):Prop:=∃rs a2 c2 a4 c4 a5 c5 a6 c6 a7 c7 a8 c8 a9 c9 sv cl ts,StR H B p 58 (mFlds σ cl ts rs) (mV σ a2 c2 a4 c4 a5 c5 a6 c6 a7 c7 a8 c8 a9 c9 sv)/\TmsR H (OffK H p rs) σ.consts ts/\ClsR H (OffK H p rs) σ.clauses cl/\RowsR H B p σ.rows rs/\cs=cV σ a2 c2 a4 c4 a5 c5 a6 c6 a7 c7 a8 c8 a9 c9
abbrev zero10:List Value:=[.string Zd,.int .i64 0,.slice none 0 0,.bool false,.slice none 0 0,.slice none 0 0,.slice none 0 0,.slice none 0 0,.slice none 0 0,.slice none 0 0]
section
variable {H H':Heap}{B p:Nat}{σ σ':MS}{rs rs':List (List Value)}
theorem CodeR.keep {cs:List Value}(h:CodeR H B p σ cs) (hw:H.wf) (hx:HX H H'):CodeR H' B p σ cs:=by
 obtain⟨rs,a2,c2,a4,c4,a5,c5,a6,c6,a7,c7,a8,c8,a9,c9,sv,cl,ts,hs,ht,hc,hr,e⟩:=h;obtain⟨h',kx⟩:=(⟨⟨_,cl,ts,hs,ht,hc⟩,hr⟩:MkA H B p σ rs).keep hw hx;exact⟨rs,a2,c2,a4,c4,a5,c5,a6,c6,a7,c7,a8,c8,a9,c9,sv,cl,ts,hs.keep hw hx,ht.to fun n hn _=>kx.off hn,hc.to fun n hn _=>kx.off hn,h'.rws,e⟩
theorem zv6 {T:TypeId}{x0 x1 x2 x3 x4 x5 x6 x7 x8 x9 xa xb:Value}(h:H.get p=some (.row [x0,x1,x2,x3,x4,x5,x6,x7,x8,x9,xa,xb] T)):H.load ⟨p,0,none⟩ 10=some [x0,x1,x2,x3,x4,x5,x6,x7,x8,x9]:=by
 simp only[Heap.load,Heap.cells,h];rfl
theorem ztm {T:TypeId}{x0 x1 x2 x3 x4 x5 x6 x7 x8 x9:Value}(h:H.get p=some (.row [x0,x1,x2,x3,x4,x5,x6,x7,x8,x9] T)):H.load ⟨p,0,none⟩ 10=some [x0,x1,x2,x3,x4,x5,x6,x7,x8,x9]:=by
 simp only[Heap.load,Heap.cells,h];rfl
structure MidC (σ:MS) (k:PK) (ix:Bool) (L:List Cls) (i:Nat):Prop where
 key:σ.key=k
 index:σ.index=ix
 cls:σ.clauses=(L.take i).map (·.head)
 rows:σ.rows=[]
 rest:σ.rest=[]
 nc:σ.consts.Nodup
 nf:σ.funs.Nodup
 ins:σ.ins.length<=8000*i
 cs:σ.consts.length<=8000*i
 fs:σ.funs.length<=8000*i
 st:σ.starts.length<=8000*i
theorem MidC.zero {k:PK}{ix:Bool}{L:List Cls}:MidC (σ0 k ix) k ix L 0:=⟨rfl,rfl,rfl,rfl,rfl,List.nodup_nil,List.nodup_nil,Ze _,Ze _,Ze _,Ze _⟩
theorem MidC.step {k:PK}{ix:Bool}{L:List Cls}{i:Nat}(h:MidC σ k ix L i) (hi:i < L.length) (g:GrC { σ with clauses:=σ.clauses++[L[i].head] } σ' 8000):MidC σ' k ix L (i+1) :=
 ⟨g.key.trans h.key,g.index.trans h.index,by rw[g.clauses];show σ.clauses++[L[i].head]=_;rw[h.cls,<-List.take_append_getElem hi,ZI];rfl,g.rows.trans h.rows,g.rest.trans h.rest,g.gc h.nc,g.gf h.nf,by have h1:σ'.ins.length<=σ.ins.length+8000:=g.ins;have h2:=h.ins;omega,by have h1:σ'.consts.length<=σ.consts.length+8000:=g.cs;have h2:=h.cs;omega,by have h1:σ'.funs.length<=σ.funs.length+8000:=g.fs;have h2:=h.fs;omega,by have h1:σ'.starts.length<=σ.starts.length+8000:=g.st;have h2:=h.st;omega⟩
theorem MidC.room {k:PK}{ix:Bool}{L:List Cls}{i:Nat}(h:MidC σ k ix L i) (hi:i < 1048576) (x:List Tm):RoomC { σ with clauses:=x } 8000:=by
 have h1:=h.ins;have h2:=h.cs;have h3:=h.fs;have h4:=h.st;refine⟨⟨?_,?_,?_⟩,?_⟩<;>unfold most<;>(try simp only)<;>omega
set_option maxHeartbeats 32000000 in
theorem z63 {k:PK}{L:List Cls}{a:Option Addr}{c:Nat}{ix:Bool}(r:RdCs H L a c) (hf:∀x∈L,FewB 1000000 x.body) (hL:L.length<=1048576) (hw:H.wf) :
  EvF Tryz.prog okT 5 [.agg ⟨kk k⟩,.slice a L.length c,.bool ix] H fun v H'=>HX H H'/\((errS k L≠0/\v=.tuple ⟨[.agg ⟨zero10⟩,.int .i64 (errS k L)]⟩)\/(errS k L=0/\∃p σ cs,v=.tuple ⟨[.agg ⟨cs⟩,.int .i64 0]⟩/\CodeR H' H.next p σ cs/\SpecC σ k ix L)):=by
 have hmx:L.length<=9223372036854775807:=by omega
 refine EvF.enter rfl Tryz.func5 (by decide) rfl ?_;(repeat refine qZa ?_);refine qZb ?_;simp (config:=qZc) (disch:=first|omega|rfl) only[sB,initTm,dBox,dAlloc,Zb,Value.cells,one,reduceCtorEq,zr35];obtain⟨H2,e2,hx2,g0,g1,n2,w2⟩:=new2 hw (.row (kk k) 23) (.row zero10 35);simp only[e2];clear e2;have q0:=z70 g0;obtain⟨H3,e3,hx3,g3,n3,w3⟩:=new1 w2 (.row (mk0 k ix) 58)
 repeat' (first|refine qZa ?_|(refine qZb ?_;simp (config:=qZc) (disch:=first|omega|rfl) only[sB,dBox,Za,Zb,Value.cells,one,reduceCtorEq,Zq,layC,ld23,bd35,bd58,ln24,q0,e3]))
 have hx03:=hx2.trans hx3;have g0':=hx3.get w2 g0;have g1':=hx3.get w2 g1;(repeat refine qZa ?_);refine EvC.join (fun st=>∃(tm:Tr Value) (G:Heap),st=⟨tm,[],G⟩/\tm.get 1=some (.slice a L.length c)/\tm.get 2=some (.bool ix)/\tm.get 3=some (.pointer (some ⟨H.next,0,none⟩))/\tm.get 6=some (.pointer (some ⟨H.next+1,0,none⟩))/\tm.get 8=some (ptr H2.next)/\HX H3 G/\∀(j:Nat) (hj:j < L.length),errC k L[j]=0) ?_ ?_
 ·refine qZg (qZk (fun k' st=>∃(tm:Tr Value) (G:Heap) (i:Nat),st=⟨tm,[],G⟩/\k'=L.length - i/\i<=L.length/\tm.get 1=some (.slice a L.length c)/\tm.get 2=some (.bool ix)/\tm.get 3=some (.pointer (some ⟨H.next,0,none⟩))/\tm.get 6=some (.pointer (some ⟨H.next+1,0,none⟩))/\tm.get 8=some (ptr H2.next)/\tm.get 19=some (.slice a L.length c)/\tm.get 20=some (.int .i64 (L.length:Nat))/\tm.get 21=some (.int .i64 (i:Nat))/\HX H3 G/\∀(j:Nat) (hj:j < L.length),j < i->errC k L[j]=0) ?_ L.length _ ?_);rotate_left
  ·exact⟨_,_,0,rfl,rfl,Zl _,(by simp only[sG,Za,reduceCtorEq]),(by simp only[sG,Za,reduceCtorEq]),(by simp only[sG,Za,reduceCtorEq]),(by simp only[sG,Za,reduceCtorEq]),(by simp only[sG,Za,reduceCtorEq]),(by simp only[sG,Za,reduceCtorEq]),(by simp only[sG,Za,reduceCtorEq]),(by simp only[sB,Za,reduceCtorEq];rfl),HX.refl w3,fun j hj h=>absurd h (Nat.not_lt_zero _)⟩
  rintro k' st ⟨tm,G,i,rfl,rfl,hi,t1,t2,t3,t6,t8,t19,t20,t21,hxG,hall⟩;have wG:=hxG.wf;by_cases hlt:i < L.length;rotate_left
  ·repeat' (first|refine qZa ?_|(refine qZi ?_;try simp only[sB])|(refine qZb ?_;simp (config:=qZc) (disch:=first|omega|rfl) only[sA,t20,t21,decn hlt])|(refine qZm ?_ ?_;simp (config:=qZc) (disch:=first|omega|rfl) only[sB];refine z02 ?_))
   exact⟨_,_,rfl,(by simp only[sG,Za,t1]),(by simp only[sG,Za,t2]),(by simp only[sG,Za,t3]),(by simp only[sG,Za,t6]),(by simp only[sG,Za,t8]),hxG,fun j hj=>hall j hj (by omega)⟩
  obtain⟨b,o,cs,rfl,hld,hrc⟩:=r.el i hlt;obtain⟨ha,hcap,ta,tc,aa,kk',rfl,rh,rb⟩:=hrc;have ldG:=hxG.load w3 (hx03.load hw hld);obtain⟨G1,eG1,hxG1,gG1,nG1,wG1⟩:=z0m wG (.row [.int .i64 0,.string Zd,.string Zd,.int .u64 0,.int .i64 0,.slice none 0 0,.int .i64 0,.int .i64 0,.string Zd,.string Zd,.int .u64 0,.int .i64 0,.slice none 0 0,.slice none 0 0,.int .i64 0] 47) (.row (fift L[i].head ha hcap L[i].body.kind L[i].body.term ta tc aa L[i].body.sub.length kk' L[i].vars) 47);have q1:=z26 gG1;have hx31:=hxG.trans hxG1
  repeat' (first|refine qZa ?_|refine qZg ?_|(refine qZe ?_;try simp only[z00])|(refine qZb ?_;simp (config:=qZc) (disch:=first|omega|rfl) only[sB,dAlloc,Za,Zb,one,ia24,ld47,zr47,st47,cl13,t19,t20,t21,decl hlt,ldG,eG1,q1])|(refine qZd ?_ ?_;simp (config:=qZc) (disch:=first|omega|rfl) only[sB];refine z02 ?_))
  refine(zjp (hf _ (Zu hlt)) (RdC.mono ⟨ha,hcap,ta,tc,aa,kk',rfl,rh,rb⟩ (hx03.trans hx31) hw) wG1).mono ?_;rintro v G2 ⟨rfl,hx2'⟩;have hx32:=hx31.trans hx2';have q0G:=z70 (hx32.get w3 g0');have g1G:=hx32.get w3 g1';have q2:=znk (hx2'.get wG1 gG1);by_cases hck:checkC L[i]=0;rotate_left
  ·have he:errC k L[i]=checkC L[i]:=by unfold errC;rw[if_neg hck]
   have heS:=zcd (k:=k) hlt (fun j hj h=>hall j hj h) (by rw[he];exact hck)
   repeat' (first|refine qZa ?_|(refine qZf ?_;try simp only[z06,z01])|(refine qZb ?_;simp (config:=qZc) (disch:=first|omega|rfl) only[sB,Za,Zb,Value.cells,one,layC,bd35,st35,z1z hck,t6,g1G])|(refine qZd ?_ ?_;simp (config:=qZc) (disch:=first|omega|rfl) only[sB,Za];refine z02 ?_))
   exact z0e rfl (by simp only[sB,Za,t6];rfl) (by simp only[sB,Zb,cutC,ld35];rfl) (by simp only[sB,Za];rfl) ⟨(hx03.trans hx32).pt (i:=H.next+1) (by omega) g1G _,.inl ⟨by rw[heS,he];exact hck,by rw[heS,he]⟩⟩
  by_cases hnm:L[i].head.name=k.1;rotate_left
  ·have he:errC k L[i]=1:=by unfold errC;rw[if_pos hck,if_neg (fun q=>hnm q.1)]
   have heS:=zcd (k:=k) hlt (fun j hj h=>hall j hj h) (by rw[he];omega)
   repeat' (first|refine qZa ?_|(refine qZe ?_;try simp only[z00])|(refine qZf ?_;try simp only[z06,z01])|(refine qZb ?_;simp (config:=qZc) (disch:=first|omega|rfl) only[sB,Za,Zb,Value.cells,one,layC,bd35,st35,z4f,z11,ld9,zl4,z15 hck,t3,q0G,q2,z10,z5m hnm,ZM,t6,g1G])|(refine qZd ?_ ?_;simp (config:=qZc) (disch:=first|omega|rfl) only[sB,Za];refine z02 ?_)|(refine qZm ?_ ?_;simp (config:=qZc) (disch:=first|omega|rfl) only[sB,Za];refine z02 ?_))
   exact z0e rfl (by simp only[sB,Za,t6];rfl) (by simp only[sB,Zb,cutC,ld35];rfl) (by simp only[sB,Za];rfl) ⟨(hx03.trans hx32).pt (i:=H.next+1) (by omega) g1G _,.inl ⟨by rw[heS,he];omega,by rw[heS,he]⟩⟩
  by_cases har:(L[i].head.args.length:Int)=k.2;rotate_left
  ·have he:errC k L[i]=1:=by unfold errC;rw[if_pos hck,if_neg (fun q=>har q.2)]
   have heS:=zcd (k:=k) hlt (fun j hj h=>hall j hj h) (by rw[he];omega)
   repeat' (first|refine qZa ?_|(refine qZe ?_;try simp only[z00])|(refine qZf ?_;try simp only[z06,z01])|(refine qZb ?_;simp (config:=qZc) (disch:=first|omega|rfl) only[sB,Za,Zb,Value.cells,one,layC,bd35,st35,z4f,z11,ld9,zl4,z0u,ld26,ln26,z6j,ld3,z15 hck,t3,q0G,q2,z10,z1a hnm,z1z har,Zv,Zg,t6,g1G])|(refine qZd ?_ ?_;simp (config:=qZc) (disch:=first|omega|rfl) only[sB,Za];refine z02 ?_)|(refine qZm ?_ ?_;simp (config:=qZc) (disch:=first|omega|rfl) only[sB,Za];refine z02 ?_))
   exact z0e rfl (by simp only[sB,Za,t6];rfl) (by simp only[sB,Zb,cutC,ld35];rfl) (by simp only[sB,Za];rfl) ⟨(hx03.trans hx32).pt (i:=H.next+1) (by omega) g1G _,.inl ⟨by rw[heS,he];omega,by rw[heS,he]⟩⟩
  have he:errC k L[i]=0:=by unfold errC;rw[if_pos hck,if_pos ⟨hnm,har⟩]
  repeat' (first|refine qZa ?_|(refine qZe ?_;try simp only[sA])|(refine qZb ?_;simp (config:=qZc) (disch:=first|omega|rfl) only[sB,Za,z4f,z11,ld9,zl4,z0u,ld26,ln26,z6j,ld3,z15 hck,t3,q0G,q2,z10,z1a hnm,z15 har,Zv,Zg,t21,z4i (i:=i) (by omega)])|(refine qZm ?_ ?_;simp (config:=qZc) (disch:=first|omega|rfl) only[sB,Za];refine z02 ?_))
  exact⟨L.length - (i+1),by omega,_,_,i+1,rfl,rfl,by omega,(by simp only[sG,Za,t1]),(by simp only[sG,Za,t2]),(by simp only[sG,Za,t3]),(by simp only[sG,Za,t6]),(by simp only[sG,Za,t8]),(by simp only[sG,Za,t19]),(by simp only[sG,Za,t20]),(by simp only[sG,Za]),hx32,fun j hj h=>by
   by_cases hji:j=i
   ·subst hji;exact he
   ·exact hall j hj (by omega)⟩
 rintro st ⟨tm,G,rfl,t1,t2,t3,t6,t8,hxG,hall⟩;have heS:=zeh hall;have hgood:∀(j:Nat) (hj:j < L.length),GoodC L[j]/\L[j].head.name=k.1/\(L[j].head.args.length:Int)=k.2:=fun j hj=>by
  have h:=hall j hj;unfold errC at h;split at h
  ·rename_i h1;split at h
   ·rename_i h2;exact⟨z9n h1,h2.1,h2.2⟩
   ·omega
  ·rename_i h1;exact absurd h h1
 simp only[z00]
 repeat' (first|refine qZa ?_|(refine qZb ?_;simp (config:=qZc) (disch:=first|omega|rfl) only[sB,ln24,t1]))
 have h3:MkA H3 H.next H2.next (σ0 k ix) []:=MkA.init g3 (by omega);obtain⟨hG0,kxG0⟩:=h3.keep w3 hxG;have hoff3:∀n,n < H2.next->OffK H3 H2.next [] n:=fun n hn=>⟨by omega,fun q=>by
  rcases q with (q|⟨V,T,hg,v,hv,hb⟩)|⟨r',hr',-⟩
  ·omega
  ·rw[g3] at hg;cases hg;have hno:∀v∈mk0 k ix,blkOf v=none:=by simp [blkOf]
   rw[hno v hv] at hb;cases hb
  ·cases hr'⟩
 (repeat refine qZa ?_);refine EvC.join (fun st=>∃(tm:Tr Value) (G:Heap) (σ:MS),st=⟨tm,[],G⟩/\tm.get 2=some (.bool ix)/\tm.get 3=some (.pointer (some ⟨H.next,0,none⟩))/\tm.get 6=some (.pointer (some ⟨H.next+1,0,none⟩))/\tm.get 8=some (ptr H2.next)/\MkA G H.next H2.next σ []/\KX H3 G H2.next [] []/\G.wf/\MidC σ k ix L L.length) ?_ ?_
 ·refine qZg (qZk (fun k' st=>∃(tm:Tr Value) (G:Heap) (i:Nat) (σ:MS),st=⟨tm,[],G⟩/\k'=L.length - i/\i<=L.length/\tm.get 2=some (.bool ix)/\tm.get 3=some (.pointer (some ⟨H.next,0,none⟩))/\tm.get 6=some (.pointer (some ⟨H.next+1,0,none⟩))/\tm.get 8=some (ptr H2.next)/\tm.get 48=some (.slice a L.length c)/\tm.get 49=some (.int .i64 (L.length:Nat))/\tm.get 50=some (.int .i64 (i:Nat))/\MkA G H.next H2.next σ []/\KX H3 G H2.next [] []/\G.wf/\MidC σ k ix L i) ?_ L.length _ ?_);rotate_left
  ·exact⟨_,_,0,_,rfl,rfl,Zl _,(by simp only[sG,Za,t2]),(by simp only[sG,Za,t3]),(by simp only[sG,Za,t6]),(by simp only[sG,Za,t8]),(by simp only[sG,Za]),(by simp only[sG,Za]),(by simp only[sB,Za];rfl),hG0,kxG0,hxG.wf,.zero⟩
  clear t2 t3 t6 t8 hG0 kxG0 hxG;rintro k' st ⟨tm,G,i,σ,rfl,rfl,hi,t2,t3,t6,t8,t48,t49,t50,hG,kxG,wG,mid⟩;by_cases hlt:i < L.length;rotate_left
  ·obtain rfl:i=L.length:=by omega
   repeat' (first|refine qZa ?_|(refine qZi ?_;try simp only[sB])|(refine qZb ?_;simp (config:=qZc) (disch:=first|omega|rfl) only[sA,t49,t50,decn hlt])|(refine qZm ?_ ?_;simp (config:=qZc) (disch:=first|omega|rfl) only[sB];refine z02 ?_))
   exact⟨_,_,σ,rfl,(by simp only[sG,Za,t2]),(by simp only[sG,Za,t3]),(by simp only[sG,Za,t6]),(by simp only[sG,Za,t8]),hG,kxG,wG,mid⟩
  obtain⟨hgi,hnm,har⟩:=hgood i hlt;have hxG:=kxG.hx h3 hx03 (Ze _);obtain⟨b,o,cs,rfl,hld,hrc⟩:=r.el i hlt;have hrc0:=hrc;obtain⟨ha,hcap,ta,tc,aa,kk',rfl,rh,rb⟩:=hrc;have ldG:=hxG.load hw hld;obtain⟨G1,eG1,hxG1,gG1,nG1,wG1⟩:=z0m wG (.row [.int .i64 0,.string Zd,.string Zd,.int .u64 0,.int .i64 0,.slice none 0 0,.int .i64 0,.int .i64 0,.string Zd,.string Zd,.int .u64 0,.int .i64 0,.slice none 0 0,.slice none 0 0,.int .i64 0] 47) (.row (fift L[i].head ha hcap L[i].body.kind L[i].body.term ta tc aa L[i].body.sub.length kk' L[i].vars) 47);obtain⟨hG1,kxG1⟩:=hG.keep wG hxG1;have hob:OffK G1 H2.next [] G.next:=hG.fresh wG hxG1 (Ze _) (by omega);obtain⟨Gb,eb,hxb,wb⟩:=z3l wG1 21;have qb:=z26 (hxb.get wG1 gG1);have hx0b:=(hxG.trans hxG1).trans hxb
  repeat' (first|refine qZa ?_|refine qZg ?_|(refine qZe ?_;try simp only[z00])|(refine qZb ?_;simp (config:=qZc) (disch:=first|omega|rfl) only[sB,dAlloc,Za,Zb,one,ia24,ld47,zr47,st47,t48,t49,t50,decl hlt,ldG,eG1])|(refine qZj [([(6,0),(7,0)],some 8),([(9,0),(10,0)],some 11),([(1,0),(2,0),(3,0),(4,0),(5,0),(12,0),(13,0),(14,2),(15,2)],some 16),([(0,0),(17,3),(18,3),(19,3)],some 20),([],none)] ?_ ?_;kernel_rfl;simp (config:=qZc) (disch:=first|omega|rfl) only[sD,sB,Za,Zb,reduceCtorEq,z4f,ld28,cl14,eb,qb,isAlloc,isRead])|(refine qZd ?_ ?_;simp (config:=qZc) (disch:=first|omega|rfl) only[sB];refine z02 ?_))
  refine(zca (rh.mono hx0b hw) wb).mono ?_;rintro v H5 ⟨hx5,u,ua,uc,rfl,hu⟩;obtain⟨rfl,hrs⟩:=hu hgi.head;have w5:=hx5.wf;have q5:=z26 ((hxb.trans hx5).get wG1 gG1)
  repeat' (first|(refine z0p ?_;simp (config:=qZc) (disch:=first|omega|rfl) only[sV,sD,sB,Za,reduceCtorEq,zgx,ld45,cl15,qb,q5,isAlloc,isRead]))
  refine(zpl (SizeOf.sizeOf L[i].body+1) (Zf _) (rb.mono (hx0b.trans hx5) hw) hgi.bok w5).mono ?_;rintro v H6 ⟨hx6,zk,z,za,zc,za',zn,zc',rfl⟩;have w6:=hx6.wf;have kx16:=(hxb.trans hx5).trans hx6;have q6:=z26 (kx16.get wG1 gG1);have nb:G1.next+21=Gb.next:=by rw[<-eb]
  have n5:=hx5.next;have n6:=hx6.next;obtain⟨H7,e7⟩:∃H7,H6.put (G1.next+15) (some (.row (fift L[i].head ua uc zk z za zc za' zn zc' L[i].vars) 47))=H7:=⟨_,rfl⟩
  have hx7:HX G1 H7:=by rw[<-e7];exact kx16.put (i:=G1.next+15) (by omega) (by omega) _
  have n7:H7.next=H6.next:=by rw[<-e7];rfl
  have g7:H7.get (G1.next+15)=some (.row (fift L[i].head ua uc zk z za zc za' zn zc' L[i].vars) 47):=by rw[<-e7,get_put,if_pos rfl]
  obtain⟨a2,c2,l2,H8,V8,cn,e8,g8,hV8,H9,e9,h9,kx9,w9⟩:=hG1.clpush wG1 hx7 (S:=Rg Gb.next H5.next) (hrs.to fun n hn hl=>⟨by have a1:Gb.next<=n:=hn.1;rw[<-e7,get_put,if_neg (by omega)];exact hx6.keep n hl,hn,by omega⟩) (fun n hn=>⟨by have a1:Gb.next<=n:=hn.1;omega,by have a1:n < H5.next:=hn.2;omega⟩) (ad:=⟨G1.next+15,0,none⟩) (c1:=1) (z26 g7).2.2.2 (by rw[mid.cls,Zp,Zo];unfold most;omega);have l2b:=hxb.load wG1 l2;have l25:=hx5.load wb l2b;have l26:=hx6.load w5 l25;have kx39:=(kxG.trans kxG1).trans kx9;have q9:=z26 ((kx9.off hob).1.trans gG1)
  repeat' (first|(refine qZb ?_;simp (config:=qZc) (disch:=first|omega|rfl) only[sB,Za,ld47,cl16,t8,q9])|(refine z0p ?_;simp (config:=qZc) (disch:=first|omega|rfl) only[sV,sD,sB,Za,Zb,Value.cells,one,reduceCtorEq,Zq,layC,ld3,z2w,zl5,ld24,zdd,bd47,zty,st24,z0d,z0o,qb,q5,q6,t8,l2b,l25,l26,e7,e8,g8,hV8,e9,isAlloc,isRead,dalloc]))
  refine(zjt hw (Ze _) hrc0 (kx39.hx h3 hx03 (Ze _)) h9 w9 hgi (mid.room (by omega) _)).mono ?_;rintro v Ha ⟨σa,hha,kxa,gra,wa⟩
  repeat' (first|(refine qZb ?_;simp (config:=qZc) (disch:=first|omega|rfl) only[sB,Za,t50,z4i (i:=i) (by omega)]))
  exact⟨L.length - (i+1),by omega,_,_,i+1,σa,rfl,rfl,by omega,(by simp only[sG,Za,t2]),(by simp only[sG,Za,t3]),(by simp only[sG,Za,t6]),(by simp only[sG,Za,t8]),(by simp only[sG,Za,t48]),(by simp only[sG,Za,t49]),(by simp only[sG,Za]),hha,kx39.trans kxa,wa,mid.step hlt gra⟩
 clear t1 t2 t3 t6 t8 hG0 kxG0 hxG;rintro st ⟨tm,G,σ,rfl,t2,t3,t6,t8,hG,kxG,wG,mid⟩;simp only[z00];obtain⟨g0e,-,-⟩:=kxG.off (hoff3 H.next (by omega));have q0G:=z70 (g0e.trans g0');have htk:σ.clauses=L.map (·.head):=by rw[mid.cls,List.take_length]
 refine EvC.cut (fun st=>∃(tm:Tr Value) (G:Heap) (rs:List (List Value)) (σ':MS),st=⟨tm,[],G⟩/\tm.get 6=some (.pointer (some ⟨H.next+1,0,none⟩))/\tm.get 8=some (ptr H2.next)/\MkA G H.next H2.next σ' rs/\KX H3 G H2.next [] rs/\G.wf/\SpecC σ' k ix L) ?_ ?_
 ·cases ix with
  |false =>
   repeat' (first|refine qZa ?_|(refine qZe ?_;try simp only[true_and])|(refine qZb ?_;simp (config:=qZc) (disch:=first|omega|rfl) only[sB,Za,t2,Zg])|(refine qZm ?_ ?_;simp (config:=qZc) (disch:=first|omega|rfl) only[sB,Za];refine z02 ?_))
   exact⟨_,_,[],σ,rfl,(by simp only[sG,Za,t6]),(by simp only[sG,Za,t8]),hG,kxG,wG,⟨mid.key,mid.index,htk,fun q=>(by cases q),fun _=>⟨mid.rows,mid.rest⟩⟩⟩
  |true =>
   by_cases hpos:0 < k.2;rotate_left
   ·have d1:decide (k.2 > 0)=false:=decide_eq_false (by omega);have d2:decide (0 < k.2)=false:=decide_eq_false hpos
    repeat' (first|refine qZa ?_|(refine qZe ?_;try simp only[true_and])|(refine qZb ?_;simp (config:=qZc) (disch:=first|omega|rfl) only[sB,Za,z6j,ld3,t2,t3,q0G,d1])|(refine qZm ?_ ?_;simp (config:=qZc) (disch:=first|omega|rfl) only[sB,Za];refine z02 ?_))
    exact⟨_,_,[],σ,rfl,(by simp only[sG,Za,t6]),(by simp only[sG,Za,t8]),hG,kxG,wG,⟨mid.key,mid.index,htk,fun _ q=>absurd q hpos,fun _=>⟨mid.rows,mid.rest⟩⟩⟩
   ·have d1:decide (k.2 > 0)=true:=decide_eq_true hpos;have d2:decide (0 < k.2)=true:=decide_eq_true hpos
    repeat' (first|refine qZa ?_|(refine qZb ?_;simp (config:=qZc) (disch:=first|omega|rfl) only[sB,Za,z6j,ld3,cl17,t2,t3,q0G,d1,t8])|(refine qZd ?_ ?_;simp (config:=qZc) (disch:=first|omega|rfl) only[sB,Za];refine z02 ?_))
    have hix0:=Ix.nil mid.rows mid.rest mid.nc mid.nf;have hcl:σ.clauses.length=L.length:=by rw[htk,Zp]
    have hne:∀t∈σ.clauses,0 < t.args.length/\checkS (firstT t)=0:=fun t ht=>by
     rw[htk] at ht;obtain⟨x,hx,rfl⟩:=List.mem_map.1 ht;obtain⟨j,hj,rfl⟩:=ZO hx;obtain⟨h1,h2,h3⟩:=hgood j hj;have h4:0 < L[j].head.args.length:=by omega
     refine⟨h4,?_⟩;have h5:firstT L[j].head∈L[j].head.args:=by
      unfold firstT;generalize L[j].head.args=l at h4;cases l with
      |nil=>simp at h4
      |cons y l=>simp
     exact z17 h1.head h5
    have hcs':=mid.cs;have hfs':=mid.fs;refine(znp hG wG hix0 mid.rows hne (by rw[hcl];unfold most;omega) (by rw[hcl];unfold most;omega) (by rw[hcl];unfold most;omega)).mono ?_;rintro v Gi ⟨ri,hi,kxi,wi⟩
    skip
    obtain⟨k1,k2,k3⟩:=zcc σ (σ.clauses.map firstT) σ.clauses.length;have hall':=hix0.all (xs:=σ.clauses.map firstT) σ.clauses.length (by rw[Zp];exact Ze _);rw[Zm (by rw[Zp];exact Ze _)] at hall';have exs:σ.clauses.map firstT=L.map fun c=>firstT c.head:=by rw[htk,List.map_map];rfl
    exact⟨_,_,ri,_,rfl,(by simp only[sG,Za,t6]),(by simp only[sG,Za,t8]),hi,kxG.trans kxi,wi,⟨k2.trans mid.key,k3.trans mid.index,k1.trans htk,fun _ _=>by rw[<-exs];exact hall',fun q=>absurd ⟨rfl,hpos⟩ q⟩⟩
 clear t2 t3 t6 t8;rintro st ⟨tm,Gz,rs,σ',rfl,t6,t8,hz,kxz,wz,spec⟩;obtain⟨g1e,o1z,-⟩:=kxz.off (hoff3 (H.next+1) (by omega));have g1z:=g1e.trans g1';have hxz:=kxz.hx h3 hx03 (Ze _);obtain⟨a2,c2,a4,c4,a5,c5,a6,c6,a7,c7,a8,c8,a9,c9,sv,cl,ts,hs,ht,hc,l0,l1,l2,l3,l4,l5,l6,l7,l8,l9,l10,l11,b2,b4,b5,b6,b7,b8,b9⟩:=hz.open;have lz:=zv6 hs.obj;obtain⟨hy,wy,-,-,-⟩:=hz.box wz o1z g1z zjv (.row (cV σ' a2 c2 a4 c4 a5 c5 a6 c6 a7 c7 a8 c8 a9 c9) 35);obtain⟨a2',c2',a4',c4',a5',c5',a6',c6',a7',c7',a8',c8',a9',c9',sv',cl',ts',hs',ht',hc',-⟩:=hy.open;have eo:=hs'.obj;rw[get_put,if_neg (by omega),hs.obj] at eo;simp only[Option.some.injEq,Blk.row.injEq,List.cons.injEq,Value.slice.injEq,and_true,true_and] at eo;obtain⟨⟨rfl,rfl⟩,⟨rfl,rfl⟩,⟨rfl,rfl⟩,⟨rfl,rfl⟩,⟨rfl,rfl⟩,⟨rfl,rfl⟩,⟨rfl,rfl⟩,rfl⟩:=eo;have hfin:CodeR (Gz.put (H.next+1) (some (.row (cV σ' a2 c2 a4 c4 a5 c5 a6 c6 a7 c7 a8 c8 a9 c9) 35))) H.next H2.next σ' (cV σ' a2 c2 a4 c4 a5 c5 a6 c6 a7 c7 a8 c8 a9 c9):=⟨rs,_,_,_,_,_,_,_,_,_,_,_,_,_,_,_,_,_,hs',ht',hc',hy.rws,rfl⟩
 repeat' (first|refine qZa ?_|(refine qZf ?_)|(refine qZb ?_;simp (config:=qZc) (disch:=first|omega|rfl) only[sB,Za,Zb,one,st35,z2w,ld35,z0d,z0o,t6,t8,lz,g1z]))
 refine z0e rfl (by simp only[sB,Za,t6];rfl) (by simp only[sB,Zb,cutC,ld35]) (by simp only[sG,Za]) ⟨hxz.pt (by omega) g1z _,.inr ⟨heS,_,σ',_,rfl,hfin,spec⟩⟩
end
section
variable {H H':Heap}{B p:Nat}{σ σ':MS}{rs rs':List (List Value)}
theorem z9s {T:TypeId}{x0 x1 x2 x3 x4 x5 x6 x7 x8 x9:Value}(h:H.get p=some (.row [x0,x1,x2,x3,x4,x5,x6,x7,x8,x9] T)):H.load ⟨p,0,none⟩ 10=some [x0,x1,x2,x3,x4,x5,x6,x7,x8,x9]/\H.load ⟨p,1,none⟩ 1=some [x1]/\H.load ⟨p,2,none⟩ 1=some [x2]/\H.load ⟨p,3,none⟩ 1=some [x3]/\H.load ⟨p,5,none⟩ 1=some [x5]/\H.load ⟨p,6,none⟩ 1=some [x6]/\H.load ⟨p,8,none⟩ 1=some [x8]/\H.load ⟨p,9,none⟩ 1=some [x9]:=by
 refine⟨?_,?_,?_,?_,?_,?_,?_,?_⟩<;>simp only[Heap.load,Heap.cells,h]<;>rfl
set_option maxHeartbeats 16000000 in
theorem zpo {cs:List Value}(h:CodeR H B p σ cs) (hw:H.wf) {c:Bool}{z:Int}{va:Option Addr}{vn vk:Nat}{ids:List Nat}{t:Tm}{a:Option Addr}{cap:Nat}(r:RepT H t (six t a cap)) :
  EvF Tryz.prog okT 19 [.agg ⟨cs⟩,.agg ⟨rowV c z va vn vk⟩,.agg ⟨six t a cap⟩] H fun v H'=>v=.bool (forS σ ⟨c,z,ids⟩ t)/\HX H H':=by
 obtain⟨rs,a2,c2,a4,c4,a5,c5,a6,c6,a7,c7,a8,c8,a9,c9,sv,cl,ts,hs,ht,hc,hr,rfl⟩:=h;refine EvF.enter rfl Tryz.func19 (by decide) rfl ?_;(repeat refine qZa ?_);refine qZb ?_;simp (config:=qZc) (disch:=first|omega|rfl) only[sB,initTm,dBox,Za,Zb,Value.cells,one,reduceCtorEq];obtain⟨H2,e2,hx2,g0,g1,n2,w2⟩:=new2 hw (.row (cV σ a2 c2 a4 c4 a5 c5 a6 c6 a7 c7 a8 c8 a9 c9) 35) (.row (rowV c z va vn vk) 65);obtain⟨H3,e3,hx3,g3,n3,w3⟩:=new1 w2 (.row (six t a cap) 28);simp only[e2,e3];rw[show H2.next=H.next+1+1 from n2] at g3;clear e2 e3;have hx03:=hx2.trans hx3;have q0:=z9s (hx3.get w2 g0);have q1:=z5z (hx3.get w2 g1);have q3:=row6 g3;by_cases hz:z < 0
 ·have d1:decide (z < 0)=true:=decide_eq_true hz
  repeat' (first|refine qZa ?_|refine qZg ?_|(refine qZf ?_;try simp only[z06,z01])|(refine qZb ?_;simp (config:=qZc) (disch:=first|omega|rfl) only[sB,Za,reduceCtorEq,z39,ld3,q1,d1])|(refine qZd ?_ ?_;simp (config:=qZc) (disch:=first|omega|rfl) only[sB,Za,reduceCtorEq];refine z02 ?_))
  exact z03 rfl (by simp only[sB,Za,reduceCtorEq];rfl) ⟨by unfold forS;rw[if_pos hz],hx03⟩
 have d1:decide (z < 0)=false:=decide_eq_false hz;obtain⟨w,rfl⟩:∃w:Nat,z=w:=⟨z.toNat,by omega⟩
 have hwt:(w:Int).toNat=w:=by omega
 cases c with
 |true =>
  have ef:forS σ ⟨true,w,ids⟩ t=(match σ.consts[w]? with|some u=>eqT u t|none=>false):=by
   unfold forS;rw[if_neg hz,if_pos rfl,hwt];rfl
  by_cases hlt:w < σ.consts.length
  ·obtain⟨cs,hcs,hrs⟩:=ht.2 w _ (Zc hlt);obtain⟨ua,uc,-,rfl,-⟩:=hrs.rep.six;obtain⟨b,rfl,o,ld⟩:=hs.el (i:=5) (k:=w) rfl rfl hcs;obtain⟨Hb,eb,hxb,wb⟩:=z3l w3 17;have q0b:=z9s (hxb.get w3 (hx3.get w2 g0));have q1b:=z5z (hxb.get w3 (hx3.get w2 g1));have q3b:=row6 (hxb.get w3 g3);have ldz:=hxb.load w3 (hx03.load hw ld)
   repeat' (first|refine qZa ?_|refine qZg ?_|(refine qZb ?_;simp (config:=qZc) (disch:=first|omega|rfl) only[sB,Za,reduceCtorEq,z39,ld3,z7n,ld4,q1,d1])|(refine qZj (id:=4) [([(0,0),(1,0),(2,0),(3,0),(4,0),(5,0),(6,0),(7,0),(8,0),(9,0),(10,0),(11,0),(12,0),(13,0)],some 14),([(15,1),(16,1)],none)] ?_ ?_;kernel_rfl;simp (config:=qZc) (disch:=first|omega|rfl) only[sD,sB,Za,Zb,reduceCtorEq,z39,ld3,zl8,ld26,ln26,ia26,ld28,cl27,q0b,q1b,q3b,decl hlt,ldz,eb,isAlloc,isRead])|(refine qZd ?_ ?_;simp (config:=qZc) (disch:=first|omega|rfl) only[sB,Za,reduceCtorEq];refine z02 ?_)|(refine qZm ?_ ?_;simp (config:=qZc) (disch:=first|omega|rfl) only[sB,Za,reduceCtorEq];refine z02 ?_))
   refine(zhx (SizeOf.sizeOf σ.consts[w]+1) σ.consts[w] t _ _ Hb (Zf _) (hrs.rep.mono (hx03.trans hxb) hw) (r.mono (hx03.trans hxb) hw) wb).mono ?_;rintro v H4 ⟨rfl,hx4⟩
   repeat' (first|(refine qZf ?_;try simp only[z06,z01])|(refine z0p ?_;simp (config:=qZc) (disch:=first|omega|rfl) only[sD,sB,Za,reduceCtorEq,isAlloc,isRead]))
   exact z03 rfl (by simp only[sB,Za,reduceCtorEq];rfl) ⟨by rw[ef,Zc hlt],(hx03.trans hxb).trans hx4⟩
  ·obtain⟨Hb,eb,hxb,wb⟩:=z3l w3 17;have q0b:=z9s (hxb.get w3 (hx3.get w2 g0));have q1b:=z5z (hxb.get w3 (hx3.get w2 g1));have q3b:=row6 (hxb.get w3 g3)
   repeat' (first|refine qZa ?_|refine qZg ?_|(refine qZf ?_;try simp only[z06,z01])|(refine qZb ?_;simp (config:=qZc) (disch:=first|omega|rfl) only[sB,Za,reduceCtorEq,z39,ld3,z7n,ld4,q1,d1])|(refine qZj (id:=4) [([(0,0),(1,0),(2,0),(3,0),(4,0),(5,0),(6,0),(7,0),(8,0),(9,0),(10,0),(11,0),(12,0),(13,0)],some 14),([(15,1),(16,1)],none)] ?_ ?_;kernel_rfl;simp (config:=qZc) (disch:=first|omega|rfl) only[sD,sB,Za,Zb,reduceCtorEq,z39,ld3,zl8,ld26,ln26,q0b,q1b,Zg,decn hlt,eb,isAlloc,isRead])|(refine qZd ?_ ?_;simp (config:=qZc) (disch:=first|omega|rfl) only[sB,Za,reduceCtorEq];refine z02 ?_)|(refine qZm ?_ ?_;simp (config:=qZc) (disch:=first|omega|rfl) only[sB,Za,reduceCtorEq];refine z02 ?_))
   exact z03 rfl (by simp only[sB,Za,reduceCtorEq];rfl) ⟨by rw[ef,Zy (by omega)],hx03.trans hxb⟩
 |false =>
  have ef:forS σ ⟨false,w,ids⟩ t=(match σ.funs[w]? with|some k=>decide (t.kind=5/\k=keyT t)|none=>false):=by
   unfold forS;rw[if_neg hz,if_neg Bool.false_ne_true,hwt];rfl
  obtain⟨Hb,eb,hxb,wb⟩:=z3l w3 27;have q0b:=z9s (hxb.get w3 (hx3.get w2 g0));have q1b:=z5z (hxb.get w3 (hx3.get w2 g1));have q3b:=row6 (hxb.get w3 g3);by_cases hlt:w < σ.funs.length;rotate_left
  ·repeat' (first|refine qZa ?_|refine qZg ?_|(refine qZe ?_;try simp only[sA])|(refine qZf ?_)|(refine qZb ?_;simp (config:=qZc) (disch:=first|omega|rfl) only[sB,Za,reduceCtorEq,z39,ld3,z7n,ld4,q1,d1])|(refine qZj (id:=5) [([(0,0),(1,0),(2,0),(3,0),(4,0),(5,0),(6,0),(7,0),(8,0),(9,0),(10,0),(11,0),(12,0),(13,0),(14,0),(15,0),(16,0),(17,0),(18,0),(19,0),(20,0),(21,0),(22,0),(23,0),(24,0),(25,0),(26,0)],none)] ?_ ?_;kernel_rfl;simp (config:=qZc) (disch:=first|omega|rfl) only[sD,sB,Za,Zb,reduceCtorEq,z39,ld3,zh0,ld31,ln31,q0b,q1b,Zg,decn hlt,eb,isAlloc,isRead])|(refine qZm ?_ ?_;simp (config:=qZc) (disch:=first|omega|rfl) only[sB,Za,reduceCtorEq];refine z02 ?_))
   exact z03 rfl (by simp only[sB,Za,reduceCtorEq];rfl) ⟨by rw[ef,Zy (by omega)],hx03.trans hxb⟩
  by_cases hk:t.kind=5;rotate_left
  ·repeat' (first|refine qZa ?_|refine qZg ?_|(refine qZe ?_;try simp only[sA])|(refine qZf ?_)|(refine qZb ?_;simp (config:=qZc) (disch:=first|omega|rfl) only[sB,Za,reduceCtorEq,z39,ld3,z7n,ld4,q1,d1])|(refine qZj (id:=5) [([(0,0),(1,0),(2,0),(3,0),(4,0),(5,0),(6,0),(7,0),(8,0),(9,0),(10,0),(11,0),(12,0),(13,0),(14,0),(15,0),(16,0),(17,0),(18,0),(19,0),(20,0),(21,0),(22,0),(23,0),(24,0),(25,0),(26,0)],none)] ?_ ?_;kernel_rfl;simp (config:=qZc) (disch:=first|omega|rfl) only[sD,sB,Za,Zb,reduceCtorEq,z39,ld3,zh0,ld31,ln31,z0i,q0b,q1b,q3b,Zg,decl hlt,z0g hk,eb,isAlloc,isRead])|(refine qZm ?_ ?_;simp (config:=qZc) (disch:=first|omega|rfl) only[sB,Za,reduceCtorEq];refine z02 ?_))
   exact z03 rfl (by simp only[sB,Za,reduceCtorEq];rfl) ⟨by rw[ef,Zc hlt];simp [hk],hx03.trans hxb⟩
  obtain⟨b,rfl,o,ld⟩:=hs.el (i:=6) (k:=w) (x:=kk σ.funs[w]) rfl rfl (by show (funC σ.funs)[w]?=_;unfold funC;rw[Zw,Zc hlt];rfl);have ldz:=hxb.load w3 (hx03.load hw ld)
  repeat' (first|refine qZa ?_|refine qZg ?_|(refine qZe ?_;try simp only[sA])|(refine qZf ?_)|(refine qZb ?_;simp (config:=qZc) (disch:=first|omega|rfl) only[sB,Za,reduceCtorEq,z39,ld3,z7n,ld4,q1,d1])|(refine qZj (id:=5) [([(0,0),(1,0),(2,0),(3,0),(4,0),(5,0),(6,0),(7,0),(8,0),(9,0),(10,0),(11,0),(12,0),(13,0),(14,0),(15,0),(16,0),(17,0),(18,0),(19,0),(20,0),(21,0),(22,0),(23,0),(24,0),(25,0),(26,0)],none)] ?_ ?_;kernel_rfl;simp (config:=qZc) (disch:=first|omega|rfl) only[sD,sB,Za,Zb,Value.cells,one,reduceCtorEq,Zq,layC,z39,ld3,ld26,ln26,zh0,ld31,ln31,z0i,ia31,ld23,z11,ld9,z0u,bd23,q0b,q1b,q3b,decl hlt,z0l hk,ldz,zra,eb,isAlloc,isRead])|(refine qZm ?_ ?_;simp (config:=qZc) (disch:=first|omega|rfl) only[sB,Za,reduceCtorEq];refine z02 ?_))
  refine z03 rfl (by simp only[sB,Za,reduceCtorEq];rfl) ⟨?_,hx03.trans hxb⟩;rw[ef,Zc hlt];congr 1;rw[Bool.eq_iff_iff];simp only[Zk,beq_iff_eq,decide_eq_true_eq];exact⟨fun h=>⟨hk,Prod.ext (zuv h.1) h.2⟩,fun h=>by rw[h.2];exact⟨zr9,rfl⟩⟩
end
def upto (i n:Nat):List Nat:=Zh i++List.replicate (n - i) 0
theorem zce {i n:Nat}(h:i<=n):(upto i n).length=n:=by unfold upto;rw[Zr,List.length_range,List.length_replicate];omega
theorem zpp {i n:Nat}(h:i < n):(upto i n).set i i=upto (i+1) n:=by
 unfold upto;rw[List.set_append_right _ _ (by rw[List.length_range];exact Ze _),List.length_range,Nat.sub_self,show n - i=(n - (i+1))+1 by omega,List.replicate_succ,List.set_cons_zero,List.range_succ,List.append_assoc];rfl
theorem ztn (l:List Nat) (i x:Nat):(idK l).set i [.int .i64 (x:Nat)]=idK (l.set i x):=by unfold idK;rw[List.map_set]
theorem zpq (n:Nat):(idK (List.replicate n 0)).flatten=List.replicate n (.int .i64 0):=by
 induction n with
 |zero=>rfl
 |succ n ih=>rw[List.replicate_succ,List.replicate_succ,<-ih];rfl
noncomputable def chooseS (σ:MS) (t:Tm):List Nat:=if σ.index=false\/σ.key.2=0\/t.kind=1 then Zh σ.clauses.length else chosenS σ t
theorem znq {α:Type}{f:α->Bool}:∀{l:List α}{i:Nat}(hi:i < l.length),(∀(j:Nat) (hj:j < l.length),j < i->f l[j]=false)->f l[i]=true->l.find? f=some l[i]
 |x :: l,0,_,_,h=>by
  simp only[List.getElem_cons_zero] at h ⊢;rw[List.find?_cons_of_pos h]
 |x :: l,i+1,hi,ha,h=>by
  have h0:f x=false:=ha 0 (Nat.succ_pos _) (Nat.succ_pos _);rw[List.find?_cons_of_neg (by rw[h0];exact Bool.false_ne_true)];exact znq (Nat.lt_of_succ_lt_succ hi) (fun j hj hji=>ha (j+1) (Nat.succ_lt_succ hj) (by omega)) h
theorem zto {α:Type}{f:α->Bool}{l:List α}(h:∀(j:Nat) (hj:j < l.length),f l[j]=false):l.find? f=none :=
 List.find?_eq_none.2 fun x hx=>by obtain⟨j,hj,rfl⟩:=ZO hx;rw[h j hj];exact Bool.false_ne_true
section
variable {H H':Heap}{B p:Nat}{σ σ':MS}{rs rs':List (List Value)}
theorem zvx {T:TypeId}{x0 x1:Value}{l:List Value}(h:H.get p=some (.row (x0 :: x1 :: l) T)):H.load ⟨p,1,none⟩ 1=some [x1]:=by
 simp only[Heap.load,Heap.cells,h];rfl
set_option maxHeartbeats 16000000 in
theorem zei {cs:List Value}(h:CodeR H B p σ cs) (hw:H.wf) {t:Tm}{a:Option Addr}{cap:Nat}(r:RepT H t (six t a cap)) (hn:σ.clauses.length<=most) (hid:∀x∈σ.rows,x.ids.length<=most) (hre:σ.rest.length<=most) :
  EvF Tryz.prog okT 6 [.agg ⟨cs⟩,.agg ⟨six t a cap⟩] H fun v H'=>HX H H'/\((checkS t≠0/\v=.tuple ⟨[.slice none 0 0,.int .i64 (checkS t)]⟩)\/(checkS t=0/\∃sl,v=.tuple ⟨[sl,.int .i64 0]⟩/\RepO H' 3 1 H.next (idK (chooseS σ t)) sl)):=by
 have hcode:=h;obtain⟨rs,a2,c2,a4,c4,a5,c5,a6,c6,a7,c7,a8,c8,a9,c9,sv,cl,ts,hs,ht,hc,hr,rfl⟩:=h;refine EvF.enter rfl Tryz.func6 (by decide) rfl ?_;(repeat refine qZa ?_);refine qZb ?_;simp (config:=qZc) (disch:=first|omega|rfl) only[sB,initTm,dBox,Za,Value.cells,one,reduceCtorEq];obtain⟨H2,e2,hx2,g0,g1,n2,w2⟩:=new2 hw (.row (cV σ a2 c2 a4 c4 a5 c5 a6 c6 a7 c7 a8 c8 a9 c9) 35) (.row (six t a cap) 28);simp only[e2];clear e2;have q1:=row6 g1
 repeat' (first|refine qZa ?_|(refine qZb ?_;simp (config:=qZc) (disch:=first|omega|rfl) only[sB,Za,reduceCtorEq,ld28,cl18,q1]))
 refine(z25 t _ _ (r.mono hx2 hw) w2).mono ?_;rintro v H3 ⟨rfl,hx3⟩;have w3:=hx3.wf;have hx03:=hx2.trans hx3;have q0:=z9s (hx3.get w2 g0);have q1:=row6 (hx3.get w2 g1);have hcode3:=hcode.keep hw hx03;have hs3:=hs.keep hw hx03;by_cases hck:checkS t=0;rotate_left
 ·repeat' (first|refine qZa ?_|(refine qZf ?_;try simp only[z06,z01])|(refine qZb ?_;simp (config:=qZc) (disch:=first|omega|rfl) only[sB,Za,reduceCtorEq,z1z hck])|(refine qZd ?_ ?_;simp (config:=qZc) (disch:=first|omega|rfl) only[sB,Za,reduceCtorEq];refine z02 ?_))
  exact z1r rfl (by simp only[sG,Za,reduceCtorEq]) (by simp only[sG,Za,reduceCtorEq]) ⟨hx03,.inl ⟨hck,rfl⟩⟩
 (try simp (config:=qZc) (disch:=first|omega|rfl) only[]);(repeat refine qZa ?_);refine qZb ?_;simp (config:=qZc) (disch:=first|omega|rfl) only[sB,Za,reduceCtorEq,z15 hck]
 refine qZm (by simp (config:=qZc) (disch:=first|omega|rfl) only[sB,Za,reduceCtorEq]) ?_;(try refine qZe ?_);(try simp only[z00,z04]);(repeat refine qZa ?_);refine EvC.join (fun st=>∃(tm:Tr Value) (b:Bool),st=⟨tm,[],H3⟩/\tm.get 29=some (.bool b)/\(b=true↔(σ.index=false\/σ.key.2=0\/t.kind=1))/\tm.get 2=some (.pointer (some ⟨H.next,0,none⟩))/\tm.get 3=some (.pointer (some ⟨H.next+1,0,none⟩))) ?_ ?_
 ·have q0k:=zvx (hx3.get w2 g0);cases hix:σ.index with
  |false =>
   rw[hix] at q0
   repeat' (first|(refine qZb ?_;simp (config:=qZc) (disch:=first|omega|rfl) only[sB,Za,reduceCtorEq,zgy,ld4,q0,ZM]))
   exact⟨_,true,rfl,(by simp only[sG,Za,reduceCtorEq]),by simp,(by simp only[sG,Za,reduceCtorEq]),(by simp only[sG,Za,reduceCtorEq])⟩
  |true =>
   rw[hix] at q0;by_cases hk0:σ.key.2=0
   ·repeat' (first|(refine qZb ?_;simp (config:=qZc) (disch:=first|omega|rfl) only[sB,Za,reduceCtorEq,zgy,ld4,zl6,z6j,ld3,q0,Zv,z0l hk0]))
    exact⟨_,true,rfl,(by simp only[sG,Za,reduceCtorEq]),by simp [hk0],(by simp only[sG,Za,reduceCtorEq]),(by simp only[sG,Za,reduceCtorEq])⟩
   ·by_cases hk1:t.kind=1
    ·repeat' (first|(refine qZb ?_;simp (config:=qZc) (disch:=first|omega|rfl) only[sB,Za,reduceCtorEq,zgy,ld4,zl6,z6j,ld3,z0i,q0,q1,Zv,z0g hk0,z0l hk1]))
     exact⟨_,true,rfl,(by simp only[sG,Za,reduceCtorEq]),by simp [hk1],(by simp only[sG,Za,reduceCtorEq]),(by simp only[sG,Za,reduceCtorEq])⟩
    ·repeat' (first|(refine qZb ?_;simp (config:=qZc) (disch:=first|omega|rfl) only[sB,Za,reduceCtorEq,zgy,ld4,zl6,z6j,ld3,z0i,q0,q1,Zv,z0g hk0,z0g hk1]))
     exact⟨_,false,rfl,(by simp only[sG,Za,reduceCtorEq]),by simp [hk0,hk1],(by simp only[sG,Za,reduceCtorEq]),(by simp only[sG,Za,reduceCtorEq])⟩
 rintro st ⟨tm,b,rfl,t29,hb,t2,t3⟩;simp only[z00];have hB:B<=H.next:=Zj hs.ge (Nat.le_of_lt (hs.lt hw));have hn3:H.next<=H3.next:=hx03.next;cases b with
 |true =>
  have hch:chooseS σ t=Zh σ.clauses.length:=by unfold chooseS;rw[if_pos (hb.1 rfl)]
  obtain⟨n,hn'⟩:∃n,σ.clauses.length=n:=⟨_,rfl⟩
  rw[hn'] at hn hch q0;obtain⟨H4,e4,hx4,g4,n4,w4⟩:=new1 w3 (.row (repL n [.int .i64 0]) 3);have hmade:OwnS H4 3 1 H.next (idK (upto 0 n)) H3.next n:=by
   rw[<-e4];have:=OwnS.made (H:=H3) (e:=3) (s:=1) (base:=H.next) (L:=idK (upto 0 n)) (n:=n) (by rw[z1o,zce (Zl _)]) (fun x hx=>by obtain⟨y,-,rfl⟩:=List.mem_map.1 hx;rfl) (fun x hx=>by obtain⟨y,-,rfl⟩:=List.mem_map.1 hx;rfl) hn3 (Zj hn (by simp [most,maxLen]));have e:(idK (upto 0 n)).flatten=repL n [.int .i64 0]:=by
    rw[zbk];unfold upto;rw[List.range_zero,List.nil_append,Nat.sub_zero,zpq]
   rw[e] at this;exact this
  have hmx:n<=9223372036854775807:=Zj (by omega) (show most<=9223372036854775807 by unfold most;omega)
  repeat' (first|refine qZa ?_|(refine qZb ?_;simp (config:=qZc) (disch:=first|omega|rfl) only[sB,Za,zl5,ld24,ln24,ln32,t2,q0,z5u mk32 hn,e4])|(refine qZd ?_ ?_;simp (config:=qZc) (disch:=first|omega|rfl) only[sA,t29];refine z02 ?_))
  (repeat refine qZa ?_);refine EvC.join (fun st=>∃(tm:Tr Value) (G:Heap),st=⟨tm,[],G⟩/\tm.get 7=some (.slice (some ⟨H3.next,0,none⟩) n n)/\HX H3 G/\OwnS G 3 1 H.next (idK (Zh n)) H3.next n) ?_ ?_
  ·refine qZg (qZk (fun k' st=>∃(tm:Tr Value) (G:Heap) (i:Nat),st=⟨tm,[],G⟩/\k'=n - i/\i<=n/\tm.get 7=some (.slice (some ⟨H3.next,0,none⟩) n n)/\tm.get 35=some (.int .i64 (n:Nat))/\tm.get 36=some (.int .i64 (i:Nat))/\HX H3 G/\OwnS G 3 1 H.next (idK (upto i n)) H3.next n) ?_ n _ ?_);rotate_left
   ·exact⟨_,_,0,rfl,rfl,Zl _,(by simp only[sG,Za]),(by simp only[sG,Za]),(by simp only[sB,Za];rfl),hx4,hmade⟩
   clear t2 t3 t29;rintro k' st ⟨tm,G,i,rfl,rfl,hi,t7,t35,t36,hxG,ho⟩;by_cases hlt:i < n;rotate_left
   ·obtain rfl:i=n:=by omega
    repeat' (first|refine qZa ?_|(refine qZi ?_;try simp only[sB])|(refine qZb ?_;simp (config:=qZc) (disch:=first|omega|rfl) only[sA,t35,t36,decn hlt])|(refine qZm ?_ ?_;simp (config:=qZc) (disch:=first|omega|rfl) only[sB];refine z02 ?_))
    exact⟨_,_,rfl,(by simp only[sG,Za,t7]),hxG,by simpa [upto] using ho⟩
   obtain⟨cs,hg,hle,-⟩:=ho.row;rw[z1o,zce hi,Nat.mul_one] at hle;have ho2:=ho.set hg (i:=i) (y:=[.int .i64 (i:Nat)]) (by rw[z1o,zce hi];exact hlt) rfl rfl;rw[ztn,zpp hlt,Nat.mul_one] at ho2;have hli:i+1<=cs.length:=by omega
   repeat' (first|refine qZa ?_|refine qZg ?_|(refine qZe ?_;try simp only[z00])|(refine qZb ?_;simp (config:=qZc) (disch:=first|omega|rfl) only[sB,Za,one,ia32,st3,t7,t35,t36,decl hlt,hg,hli,z4i (i:=i) (by omega)])|(refine qZd ?_ ?_;simp (config:=qZc) (disch:=first|omega|rfl) only[sB];refine z02 ?_))
   exact⟨n - (i+1),by omega,_,_,i+1,rfl,rfl,by omega,(by simp only[sG,Za,t7]),(by simp only[sG,Za,t35]),(by simp only[sG,Za]),hxG.pt (Ze _) hg _,ho2⟩
  rintro st ⟨tm,G,rfl,t7,hxG,ho⟩;simp only[z00]
  repeat' (first|refine qZa ?_|(refine qZf ?_;try simp only[z06,z01])|(refine qZb ?_;simp (config:=qZc) (disch:=first|omega|rfl) only[sB,t7]))
  exact z1r rfl (by simp only[sB,Za];rfl) (by simp only[sG,Za]) ⟨hx03.trans hxG,.inr ⟨hck,_,rfl,by rw[hch];exact .inr ⟨_,n,ho,by rw[z1o,List.length_range]⟩⟩⟩
 |false =>
  have hnot:¬(σ.index=false\/σ.key.2=0\/t.kind=1):=fun q=>by have:=hb.2 q;cases this
  have hch:chooseS σ t=chosenS σ t:=by unfold chooseS;rw[if_neg hnot]
  have hmx:σ.rows.length<=9223372036854775807:=by
   obtain⟨a',c',e,h1,h2⟩:=hs.sl (i:=8) rfl rfl;rw[hr.len] at h1;unfold maxLen at h2;omega
  repeat' (first|refine qZa ?_|(refine qZe ?_;try simp only[z00])|(refine qZb ?_;simp (config:=qZc) (disch:=first|omega|rfl) only[sB,Za,z8w,ld33,ln33,t2,q0])|(refine qZm ?_ ?_;simp (config:=qZc) (disch:=first|omega|rfl) only[sA,t29];refine z02 ?_))
  (repeat refine qZa ?_);refine EvC.join (fun st=>∃(tm:Tr Value) (G:Heap),st=⟨tm,[],G⟩/\tm.get 2=some (.pointer (some ⟨H.next,0,none⟩))/\HX H3 G/\∀(j:Nat) (hj:j < σ.rows.length),forS σ σ.rows[j] t=false) ?_ ?_
  ·refine qZg (qZk (fun k' st=>∃(tm:Tr Value) (G:Heap) (i:Nat),st=⟨tm,[],G⟩/\k'=σ.rows.length - i/\i<=σ.rows.length/\tm.get 2=some (.pointer (some ⟨H.next,0,none⟩))/\tm.get 3=some (.pointer (some ⟨H.next+1,0,none⟩))/\tm.get 46=some (.slice a8 σ.rows.length c8)/\tm.get 47=some (.int .i64 (σ.rows.length:Nat))/\tm.get 48=some (.int .i64 (i:Nat))/\HX H3 G/\∀(j:Nat) (hj:j < σ.rows.length),j < i->forS σ σ.rows[j] t=false) ?_ σ.rows.length _ ?_);rotate_left
   ·exact⟨_,_,0,rfl,rfl,Zl _,(by simp only[sG,Za,t2]),(by simp only[sG,Za,t3]),(by simp only[sG,Za]),(by simp only[sG,Za]),(by simp only[sB,Za];rfl),HX.refl w3,fun j hj h=>absurd h (Nat.not_lt_zero _)⟩
   clear t2 t3 t29;rintro k' st ⟨tm,G,i,rfl,rfl,hi,t2,t3,t46,t47,t48,hxG,hall⟩;have wG:=hxG.wf;by_cases hlt:i < σ.rows.length;rotate_left
   ·repeat' (first|refine qZa ?_|(refine qZi ?_;try simp only[sB])|(refine qZb ?_;simp (config:=qZc) (disch:=first|omega|rfl) only[sA,t47,t48,decn hlt])|(refine qZm ?_ ?_;simp (config:=qZc) (disch:=first|omega|rfl) only[sB];refine z02 ?_))
    exact⟨_,_,rfl,(by simp only[sG,Za,t2]),hxG,fun j hj=>hall j hj (by omega)⟩
   obtain⟨v,y1,y2,y3⟩:=hr.el i _ (Zc hlt);obtain⟨va,vk,rfl,-,-⟩:=y2.slice;rw[z1o] at y1 y2;obtain⟨b,rfl,o,ldr⟩:=hs.el (i:=8) (k:=i) rfl rfl y1;have ldG:=hxG.load w3 (hx03.load hw ldr);obtain⟨G1,eG1,hxG1,gG1,nG1,wG1⟩:=z0m wG (.row [.bool false,.int .i64 0,.slice none 0 0] 65) (.row (rowV σ.rows[i].const σ.rows[i].which va σ.rows[i].ids.length vk) 65);have hx31:=hxG.trans hxG1;have q0G:=z9s (hx31.get w3 (hx3.get w2 g0));have q1G:=row6 (hx31.get w3 (hx3.get w2 g1));have qr:=z5z gG1
   repeat' (first|refine qZa ?_|refine qZg ?_|(refine qZe ?_;try simp only[z00])|(refine qZb ?_;simp (config:=qZc) (disch:=first|omega|rfl) only[sB,dAlloc,Za,Zb,one,ld28,ia33,ld65,zr65,st65,ld35,cl19,t2,t3,t46,t47,t48,decl hlt,ldG,eG1,q0G,q1G,qr])|(refine qZd ?_ ?_;simp (config:=qZc) (disch:=first|omega|rfl) only[sB];refine z02 ?_))
   refine(zpo (ids:=σ.rows[i].ids) (hcode3.keep w3 hx31) wG1 (r.mono (hx03.trans hx31) hw)).mono ?_;rintro v G2 ⟨rfl,hx4⟩;have hx32:=hx31.trans hx4;have qr2:=z5z (hx4.get wG1 gG1);cases hfor:forS σ σ.rows[i] t with
   |false =>
    have hfor':forS σ { const:=σ.rows[i].const,which:=σ.rows[i].which,ids:=σ.rows[i].ids } t=false:=hfor
    repeat' (first|(refine qZe ?_;try simp only[sA])|(refine qZb ?_;simp (config:=qZc) (disch:=first|omega|rfl) only[sB,Za,t48,z4i (i:=i) (by omega)])|(refine qZm ?_ ?_;simp (config:=qZc) (disch:=first|omega|rfl) only[sB,Za];refine z02 ?_))
    exact⟨σ.rows.length - (i+1),by omega,_,_,i+1,rfl,rfl,by omega,(by simp only[sG,Za,t2]),(by simp only[sG,Za,t3]),(by simp only[sG,Za,t46]),(by simp only[sG,Za,t47]),(by simp only[sG,Za]),hx32,fun j hj h=>by
     by_cases hji:j=i
     ·subst hji;exact hfor
     ·exact hall j hj (by omega)⟩
   |true =>
    have hfor':forS σ { const:=σ.rows[i].const,which:=σ.rows[i].which,ids:=σ.rows[i].ids } t=true:=hfor;have hcho:chosenS σ t=σ.rows[i].ids:=by
     unfold chosenS;rw[znq (f:=(forS σ · t)) hlt hall hfor]
    repeat' (first|refine qZa ?_|(refine qZb ?_;simp (config:=qZc) (disch:=first|omega|rfl) only[sB,Za,zgz,ld32,cl20,qr2])|(refine qZd ?_ ?_;simp (config:=qZc) (disch:=first|omega|rfl) only[sB,Za];refine z02 ?_))
    have hy2:RepO G2 3 1 B (idK σ.rows[i].ids) (.slice va σ.rows[i].ids.length vk):=y2.keep (hx03.trans hx32);refine(z9r hy2 (hid _ (Zu hlt)) hx4.wf).mono ?_;rintro u G3 ⟨hx5,hu⟩
    repeat' (first|(refine qZf ?_;try simp only[z06,z01]))
    exact z1r rfl (by simp only[sB,Za];rfl) (by simp only[sG,Za]) ⟨(hx03.trans hx32).trans hx5,.inr ⟨hck,_,rfl,by rw[hch,hcho];exact hu.low (by have:=hx32.next;omega)⟩⟩
  rintro st ⟨tm,G,rfl,t2,hxG,hall⟩;simp only[z00];have q0G:=z9s (hxG.get w3 (hx3.get w2 g0));have hcho:chosenS σ t=σ.rest:=by
   unfold chosenS;rw[zto (f:=(forS σ · t)) hall]
  have hv9:RepO G 3 1 B (idK σ.rest) (.slice a9 σ.rest.length c9):=RepO.keep (hs.fld 9 _ _ rfl rfl) (hx03.trans hxG)
  repeat' (first|refine qZa ?_|(refine qZb ?_;simp (config:=qZc) (disch:=first|omega|rfl) only[sB,Za,ld32,cl20,zl7,t2,q0G]))
  refine(z9r hv9 hre hxG.wf).mono ?_;rintro u G3 ⟨hx5,hu⟩
  repeat' (first|(refine qZf ?_))
  exact z1r rfl (by simp only[sB,Za];rfl) (by simp only[sG,Za]) ⟨(hx03.trans hxG).trans hx5,.inr ⟨hck,_,rfl,by rw[hch,hcho];exact hu.low (by have:=hxG.next;omega)⟩⟩
end
theorem zi9 {k:PK}:∀{L:List Cls},errS k L=0->∀(j:Nat) (hj:j < L.length),errC k L[j]=0
 |c :: L,h,j,hj=>by
  unfold errS at h;by_cases h0:errC k c=0
  ·rw[if_pos h0] at h;cases j with
   |zero=>exact h0
   |succ j=>exact zi9 h j (Nat.lt_of_succ_lt_succ hj)
  ·rw[if_neg h0] at h;exact absurd h h0
theorem znr {k:PK}{c:Cls}(h:errC k c=0):GoodC c/\c.head.name=k.1/\(c.head.args.length:Int)=k.2:=by
 unfold errC at h;split at h
 ·rename_i h1;split at h
  ·rename_i h2;exact⟨z9n h1,h2.1,h2.2⟩
  ·omega
 ·rename_i h1;exact absurd h h1
theorem SpecC.bounds {σ:MS}{k:PK}{ix:Bool}{L:List Cls}(s:SpecC σ k ix L):(∀x∈σ.rows,x.ids.length<=L.length)/\σ.rest.length<=L.length:=by
 by_cases h:ix=true/\0 < k.2
 ·have hi:=s.ind h.1 h.2;have hl:(L.map fun c=>firstT c.head).length=L.length:=Zp _;refine⟨fun x hx=>?_,?_⟩
  ·have:=hi.row x hx;rw[<-hl];exact zeg this.1 this.2.1
  ·rw[<-hl];exact zeg hi.inc hi.lt
 ·obtain⟨h1,h2⟩:=s.non h;rw[h1,h2];exact⟨fun x hx=>(by cases hx),Zl _⟩
theorem SpecC.clen {σ:MS}{k:PK}{ix:Bool}{L:List Cls}(s:SpecC σ k ix L):σ.clauses.length=L.length:=by rw[s.cls,Zp]
theorem SpecC.inc {σ:MS}{k:PK}{ix:Bool}{L:List Cls}(s:SpecC σ k ix L) (t:Tm):(chooseS σ t).Pairwise (· < ·)/\∀j∈chooseS σ t,j < L.length:=by
 unfold chooseS;split
 ·exact⟨List.pairwise_lt_range,fun j hj=>by rw[<-s.clen];exact List.mem_range.1 hj⟩
 ·by_cases h:ix=true/\0 < k.2
  ·have:=(s.ind h.1 h.2).cinc t;rw[Zp] at this;exact this
  ·obtain⟨h1,h2⟩:=s.non h;have e:chosenS σ t=[]:=by unfold chosenS;rw[h1,List.find?_nil,h2]
   rw[e];exact⟨List.Pairwise.nil,fun j hj=>by cases hj⟩
theorem SpecC.all {σ:MS}{k:PK}{L:List Cls}(s:SpecC σ k false L) (t:Tm):chooseS σ t=Zh L.length:=by
 unfold chooseS;rw[if_pos (.inl s.index),s.clen]
theorem SpecC.mem {σ:MS}{k:PK}{L:List Cls}(s:SpecC σ k true L) {t:Tm}{j:Nat}(hj:j < L.length) (hk:0 < k.2) (hc:couldS (firstT L[j].head) t):j∈chooseS σ t:=by
 unfold chooseS;split
 ·rw[s.clen];exact List.mem_range.2 hj
 ·rename_i h;refine(s.ind rfl hk).chosen (fun q=>h (.inr (.inr q))) (t:=firstT L[j].head) ?_ hc;rw[Zw,Zc hj];rfl
theorem tIdx {H:Heap}{b o m j n:Nat}{l:List Value}(h:H.load ⟨b,o,none⟩ m=some l) (hj:j+n<=m):H.load ⟨b,o+j,none⟩ n=some ((l.drop j).take n):=by
 unfold Heap.load at h ⊢;simp only at h ⊢;cases hc:H.cells b with
 |none=>rw[hc] at h;cases h
 |some cs =>
  rw[hc] at h;simp only at h ⊢;split at h
  ·rename_i h1;cases h;rw[Zt,Zo,List.length_drop] at h1;have e:((((cs.drop o).take m).drop j).take n)=(cs.drop (o+j)).take n:=by
    rw[List.drop_take,List.drop_drop,List.take_take];congr 1;omega
   rw[e,if_pos];rw[Zt,Zo,List.length_drop];omega
  ·cases h
theorem z9t (l:List Nat):(l.map fun i:Nat=>(i:Int)).length=l.length:=Zp _
theorem zia {H:Heap}{B:Nat}{l:List Nat}{a:Option Addr}{n c:Nat}(h:RepO H 3 1 B (idK l) (.slice a n c)):n=l.length/\RdI H (l.map fun i:Nat=>(i:Int)) a c:=by
 obtain⟨a',c',e,h1,h2⟩:=h.slice;rw[z1o] at e h1;injection e with e1 e2 e3;subst e1 e2 e3;refine⟨rfl,⟨by rw[z9t];exact h1,h2,fun i hi=>?_⟩⟩;rw[z9t] at hi;rcases h with ⟨h0,-⟩|⟨b,c',o,e⟩
 ·have:l.length=0:=by rw[<-z1o,h0];rfl
  omega
 ·injection e with e1 e2 e3;subst e1;have:=o.load (i:=i) (x:=[.int .i64 (l[i]:Nat)]) (by unfold idK;rw[Zw,Zc hi];rfl);rw[Nat.mul_one] at this;exact⟨b,0,rfl,by rw[ZP,this,List.getElem_map]⟩
set_option maxHeartbeats 8000000 in
theorem zpr {H:Heap}{t u:Tm}{cs cu:List Value}(r:RepT H t cs) (r':RepT H u cu) (hw:H.wf):EvF Tryz.prog okT 8 [.agg ⟨cs⟩,.agg ⟨cu⟩] H fun v H'=>HX H H'/\∃b:Bool,v=.bool b/\(b=true↔couldS t u):=by
 obtain⟨a,c,cells,rfl,-⟩:=r.six;obtain⟨a',c',cells',rfl,-⟩:=r'.six;refine EvF.enter rfl Tryz.func8 (by decide) rfl ?_;(repeat refine qZa ?_);refine qZb ?_;simp (config:=qZc) (disch:=first|omega|rfl) only[sB,initTm,dBox,Za,Value.cells,one,reduceCtorEq];obtain⟨H2,e2,hx2,g1,g2,n2,w2⟩:=new2 hw (.row (six t a c) 28) (.row (six u a' c') 28);simp only[e2];clear e2;have q1:=row6 g1;have q2:=row6 g2;by_cases k1:t.kind=1
 ·repeat' (first|refine qZa ?_|(refine qZf ?_;try simp only[z06,z01])|(refine qZb ?_;simp (config:=qZc) (disch:=first|omega|rfl) only[sB,Za,reduceCtorEq,z0i,ld3,q1,z0l k1])|(refine qZd ?_ ?_;simp (config:=qZc) (disch:=first|omega|rfl) only[sB,Za,reduceCtorEq];refine z02 ?_))
  exact z03 rfl (by simp only[sG,Za,reduceCtorEq]) ⟨hx2,true,rfl,by simp [couldS,k1]⟩
 by_cases k2:u.kind=1
 ·repeat' (first|refine qZa ?_|(refine qZf ?_;try simp only[z06,z01])|(refine qZb ?_;simp (config:=qZc) (disch:=first|omega|rfl) only[sB,Za,reduceCtorEq,z0i,ld3,q1,q2,z0g k1,z0l k2])|(refine qZd ?_ ?_;simp (config:=qZc) (disch:=first|omega|rfl) only[sB,Za,reduceCtorEq];refine z02 ?_))
  exact z03 rfl (by simp only[sG,Za,reduceCtorEq]) ⟨hx2,true,rfl,by simp [couldS,k2]⟩
 by_cases k5:t.kind=5;rotate_left
 ·repeat' (first|refine qZa ?_|(refine qZe ?_;try simp only[z00])|(refine qZb ?_;simp (config:=qZc) (disch:=first|omega|rfl) only[sB,Za,reduceCtorEq,z0i,ld3,ld28,cl21,q1,q2,z0g k1,z0g k2,z0g k5,Zg])|(refine qZm ?_ ?_;simp (config:=qZc) (disch:=first|omega|rfl) only[sB,Za,reduceCtorEq];refine z02 ?_))
  refine(zal (r.mono hx2 hw) (r'.mono hx2 hw) w2).mono ?_;rintro v H3 ⟨rfl,hx3⟩
  repeat' (first|(refine qZf ?_))
  exact z03 rfl (by simp only[sB,Za,reduceCtorEq];rfl) ⟨hx2.trans hx3,_,rfl,by rw[z77];simp [couldS,k1,k2,k5]⟩
 by_cases k6:u.kind=5;rotate_left
 ·repeat' (first|refine qZa ?_|(refine qZe ?_;try simp only[z00])|(refine qZb ?_;simp (config:=qZc) (disch:=first|omega|rfl) only[sB,Za,reduceCtorEq,z0i,ld3,ld28,cl21,q1,q2,z0g k1,z0g k2,z0l k5,z0g k6,Zg])|(refine qZm ?_ ?_;simp (config:=qZc) (disch:=first|omega|rfl) only[sB,Za,reduceCtorEq];refine z02 ?_))
  refine(zal (r.mono hx2 hw) (r'.mono hx2 hw) w2).mono ?_;rintro v H3 ⟨rfl,hx3⟩
  repeat' (first|(refine qZf ?_))
  exact z03 rfl (by simp only[sB,Za,reduceCtorEq];rfl) ⟨hx2.trans hx3,_,rfl,by rw[z77];simp [couldS,k1,k2,k6]⟩
 have hcs:couldS t u↔(t.name=u.name/\t.args.length=u.args.length):=by
  simp only[sA,couldS,k5,k6,keyT,not_true,false_and,or_false,Prod.mk.injEq,Int.natCast_inj];simp
 by_cases k7:t.name=u.name;rotate_left
 ·repeat' (first|refine qZa ?_|(refine qZe ?_;try simp only[z00])|(refine qZf ?_;try simp only[z06,z01])|(refine qZb ?_;simp (config:=qZc) (disch:=first|omega|rfl) only[sB,Za,reduceCtorEq,z0i,ld3,z11,ld9,q1,q2,z0g k1,z0g k2,z0l k5,z0l k6,z0z,z5m k7,Zg])|(refine qZd ?_ ?_;simp (config:=qZc) (disch:=first|omega|rfl) only[sB,Za,reduceCtorEq];refine z02 ?_)|(refine qZm ?_ ?_;simp (config:=qZc) (disch:=first|omega|rfl) only[sB,Za,reduceCtorEq];refine z02 ?_))
  exact z03 rfl (by simp only[sG,Za,reduceCtorEq]) ⟨hx2,false,rfl,by rw[hcs];simp [k7]⟩
 by_cases k8:(t.args.length:Int)=u.args.length
 ·repeat' (first|refine qZa ?_|(refine qZe ?_;try simp only[z00])|(refine qZf ?_;try simp only[z06,z01])|(refine qZb ?_;simp (config:=qZc) (disch:=first|omega|rfl) only[sB,Za,reduceCtorEq,z0i,ld3,z11,ld9,z0u,ld26,ln26,q1,q2,z0g k1,z0g k2,z0l k5,z0l k6,z0z,z1a k7,z0l k8,Zg])|(refine qZd ?_ ?_;simp (config:=qZc) (disch:=first|omega|rfl) only[sB,Za,reduceCtorEq];refine z02 ?_)|(refine qZm ?_ ?_;simp (config:=qZc) (disch:=first|omega|rfl) only[sB,Za,reduceCtorEq];refine z02 ?_))
  exact z03 rfl (by simp only[sG,Za,reduceCtorEq]) ⟨hx2,true,rfl,by rw[hcs];simp [k7];omega⟩
 ·repeat' (first|refine qZa ?_|(refine qZe ?_;try simp only[z00])|(refine qZf ?_;try simp only[z06,z01])|(refine qZb ?_;simp (config:=qZc) (disch:=first|omega|rfl) only[sB,Za,reduceCtorEq,z0i,ld3,z11,ld9,z0u,ld26,ln26,q1,q2,z0g k1,z0g k2,z0l k5,z0l k6,z0z,z1a k7,z0g k8,Zg])|(refine qZd ?_ ?_;simp (config:=qZc) (disch:=first|omega|rfl) only[sB,Za,reduceCtorEq];refine z02 ?_)|(refine qZm ?_ ?_;simp (config:=qZc) (disch:=first|omega|rfl) only[sB,Za,reduceCtorEq];refine z02 ?_))
  exact z03 rfl (by simp only[sG,Za,reduceCtorEq]) ⟨hx2,false,rfl,by rw[hcs];simp [k7];omega⟩
set_option maxHeartbeats 32000000 in
theorem z9u {k:PK}{L:List Cls}{t:Tm}{a ta:Option Addr}{c tc:Nat}{H:Heap}(r:RdCs H L a c) (rt:RepT H t (six t ta tc)) (hf:∀x∈L,FewB 1000000 x.body) (hL:L.length<=1048576) (hw:H.wf) :
  EvF Tryz.prog okT 3 [.agg ⟨kk k⟩,.slice a L.length c,.agg ⟨six t ta tc⟩] H fun v _=>v=.bool true:=by
 have hmx:L.length<=9223372036854775807:=by omega
 have hmost:L.length<=most:=by unfold most;omega
 refine EvF.enter rfl Tryz.func3 (by decide) rfl ?_;(repeat refine qZa ?_);refine qZb ?_;simp (config:=qZc) (disch:=first|omega|rfl) only[sB,initTm,dBox,Za,Zb,Value.cells,one,reduceCtorEq];obtain⟨H2,e2,hx2,g0,g1,n2,w2⟩:=new2 hw (.row (kk k) 23) (.row (six t ta tc) 28);simp only[e2];clear e2
 repeat' (first|refine qZa ?_|(refine qZb ?_;simp (config:=qZc) (disch:=first|omega|rfl) only[sB,Za,reduceCtorEq,cl4]))
 refine(zuc w2).mono ?_;rintro v H3 ⟨rfl,hx3⟩;have w3:=hx3.wf;have hx03:=hx2.trans hx3;have q0:=z70 (hx3.get w2 g0)
 repeat' (first|refine qZa ?_|(refine qZb ?_;simp (config:=qZc) (disch:=first|omega|rfl) only[sB,Za,reduceCtorEq,ld23,cl5,q0]))
 refine(z63 (k:=k) (ix:=true) ⟨r.len,r.cap,fun i hi=>by obtain⟨b,o,cs,h1,h2,h3⟩:=r.el i hi;exact⟨b,o,cs,h1,hx03.load hw h2,h3.mono hx03 hw⟩⟩ hf hL w3).mono ?_;rintro v H4 ⟨hx4,h4⟩;have w4:=hx4.wf;have hx04:=hx03.trans hx4;have hr4:RdCs H4 L a c:=⟨r.len,r.cap,fun i hi=>by obtain⟨b,o,cs,h1,h2,h3⟩:=r.el i hi;exact⟨b,o,cs,h1,hx04.load hw h2,h3.mono hx04 hw⟩⟩
 have q04:=z70 (hx4.get w3 (hx3.get w2 g0));rcases h4 with ⟨he,rfl⟩|⟨he,p,σ,cs,rfl,hcode,spec⟩
 ·obtain⟨H5,e5,hx5,g5,n5,w5⟩:=z0m w4 (.row zero10 35) (.row zero10 35);have q05:=z70 (hx5.get w4 (hx4.get w3 (hx3.get w2 g0)))
  repeat' (first|refine qZa ?_|(refine qZb ?_;simp (config:=qZc) (disch:=first|omega|rfl) only[sB,Za,reduceCtorEq,ld23,cl5,q05])|(refine z0q ?_;simp (config:=qZc) (disch:=first|omega|rfl) only[sB,dAlloc,Za,Zb,one,reduceCtorEq,zr35,st35,e5]))
  refine(z63 (k:=k) (ix:=false) ⟨r.len,r.cap,fun i hi=>by obtain⟨b,o,cs,h1,h2,h3⟩:=r.el i hi;exact⟨b,o,cs,h1,(hx04.trans hx5).load hw h2,h3.mono (hx04.trans hx5) hw⟩⟩ hf hL w5).mono ?_;rintro v H6 ⟨hx6,⟨-,rfl⟩|⟨he',-⟩⟩;rotate_left
  ·exact absurd he' he
  repeat' (first|refine qZa ?_|(refine qZf ?_;try simp only[z06,z01])|(refine qZb ?_;simp (config:=qZc) (disch:=first|omega|rfl) only[sB,Za,reduceCtorEq,z1z he,z0l rfl])|(refine z0q ?_;simp (config:=qZc) (disch:=first|omega|rfl) only[sB,dAlloc,Za,Zb,one,reduceCtorEq,zr35,st35])|(refine qZd ?_ ?_;simp (config:=qZc) (disch:=first|omega|rfl) only[sB,Za,reduceCtorEq];refine z02 ?_))
  exact z03 rfl (by simp only[sG,Za,reduceCtorEq]) rfl
 have hcc:=hcode;obtain⟨-,a2,c2,a4,c4,a5,c5,a6,c6,a7,c7,a8,c8,a9,c9,-,-,-,-,-,-,-,rfl⟩:=hcc;obtain⟨H5,e5,hx5,g5,n5,w5⟩:=z0m w4 (.row zero10 35) (.row (cV σ a2 c2 a4 c4 a5 c5 a6 c6 a7 c7 a8 c8 a9 c9) 35);have q05:=z70 (hx5.get w4 (hx4.get w3 (hx3.get w2 g0)));have hx05:=hx04.trans hx5
 repeat' (first|refine qZa ?_|(refine qZb ?_;simp (config:=qZc) (disch:=first|omega|rfl) only[sB,Za,reduceCtorEq,ld23,cl5,q05])|(refine z0q ?_;simp (config:=qZc) (disch:=first|omega|rfl) only[sB,dAlloc,Za,Zb,one,reduceCtorEq,zr35,st35,e5]))
 refine(z63 (k:=k) (ix:=false) ⟨r.len,r.cap,fun i hi=>by obtain⟨b,o,cs,h1,h2,h3⟩:=r.el i hi;exact⟨b,o,cs,h1,hx05.load hw h2,h3.mono hx05 hw⟩⟩ hf hL w5).mono ?_;rintro v H6 ⟨hx6,⟨he',-⟩|⟨-,p2,σ2,cs2,rfl,hcode2,spec2⟩⟩
 ·exact absurd he he'
 have w6:=hx6.wf;have hcc:=hcode2;obtain⟨-,d2,f2,d4,f4,d5,f5,d6,f6,d7,f7,d8,f8,d9,f9,-,-,-,-,-,-,-,rfl⟩:=hcc;obtain⟨H7,e7,hx7,g7,n7,w7⟩:=z0m w6 (.row zero10 35) (.row (cV σ2 d2 f2 d4 f4 d5 f5 d6 f6 d7 f7 d8 f8 d9 f9) 35);have hx57:=hx6.trans hx7;have hx07:=hx05.trans hx57;have qc1:=ztm (hx57.get w5 g5);have qc2:=ztm g7;have qt7:=row6 ((((hx3.trans hx4).trans hx5).trans hx57).get w2 g1);have code1:=(hcode.keep w4 (hx5.trans hx57))
 have code2:=(hcode2.keep w6 hx7)
 obtain⟨b1,b2⟩:=spec.bounds;obtain⟨b3,b4⟩:=spec2.bounds
 repeat' (first|refine qZa ?_|(refine qZe ?_;try simp only[z00])|(refine qZb ?_;simp (config:=qZc) (disch:=first|omega|rfl) only[sB,Za,reduceCtorEq,ld35,ld28,cl6,z15 rfl,Zg,qc1,qt7])|(refine z0q ?_;simp (config:=qZc) (disch:=first|omega|rfl) only[sB,dAlloc,Za,Zb,one,reduceCtorEq,zr35,st35,e7])|(refine qZm ?_ ?_;simp (config:=qZc) (disch:=first|omega|rfl) only[sB,Za,reduceCtorEq];refine z02 ?_))
 refine(zei code1 w7 (rt.mono hx07 hw) (by rw[spec.clen];exact hmost) (fun x hx=>Zj (b1 x hx) hmost) (Zj b2 hmost)).mono ?_;rintro v H8 ⟨hx8,h8⟩;have w8:=hx8.wf;have qc28:=ztm (hx8.get w7 g7);have qt8:=row6 (hx8.get w7 ((((hx3.trans hx4).trans hx5).trans hx57).get w2 g1));have ch2:=zei (code2.keep w7 hx8) w8 (rt.mono (hx07.trans hx8) hw) (by rw[spec2.clen];exact hmost) (fun x hx=>Zj (b3 x hx) hmost) (Zj b4 hmost);rcases h8 with ⟨hck,rfl⟩|⟨hck,sl,rfl,ho⟩
 ·repeat' (first|refine qZa ?_|(refine qZb ?_;simp (config:=qZc) (disch:=first|omega|rfl) only[sB,Za,reduceCtorEq,ld35,ld28,cl6,qc28,qt8])|(refine z0q ?_;simp (config:=qZc) (disch:=first|omega|rfl) only[sB,Za,reduceCtorEq]))
  refine ch2.mono ?_;rintro v H9 ⟨hx9,⟨-,rfl⟩|⟨h0,-⟩⟩;rotate_left
  ·exact absurd h0 hck
  repeat' (first|refine qZa ?_|(refine qZf ?_;try simp only[z06,z01])|(refine qZb ?_;simp (config:=qZc) (disch:=first|omega|rfl) only[sB,Za,reduceCtorEq,z1z hck,z0l rfl])|(refine z0q ?_;simp (config:=qZc) (disch:=first|omega|rfl) only[sB,Za,reduceCtorEq])|(refine qZd ?_ ?_;simp (config:=qZc) (disch:=first|omega|rfl) only[sB,Za,reduceCtorEq];refine z02 ?_))
  exact z03 rfl (by simp only[sG,Za,reduceCtorEq]) rfl
 repeat' (first|refine qZa ?_|(refine qZb ?_;simp (config:=qZc) (disch:=first|omega|rfl) only[sB,Za,reduceCtorEq,ld35,ld28,cl6,qc28,qt8])|(refine z0q ?_;simp (config:=qZc) (disch:=first|omega|rfl) only[sB,Za,reduceCtorEq]))
 refine ch2.mono ?_;rintro v H9 ⟨hx9,⟨h0,-⟩|⟨-,sl2,rfl,ho2⟩⟩
 ·exact absurd hck h0
 have w9:=hx9.wf;have ho9:=ho.keep hx9;obtain⟨sa,sc,rfl,hs1,hs2⟩:=ho9.slice;obtain⟨ub,uc,rfl,hu1,hu2⟩:=ho2.slice;obtain⟨-,ri1⟩:=zia ho9;obtain⟨-,ri2⟩:=zia ho2;rw[spec2.all t] at ri2;simp only[z1o] at hs1 hu1 ⊢;have hlb:(chooseS σ2 t).length=L.length:=by rw[spec2.all t,List.length_range]
 rw[hlb] at hu1 ⊢;obtain⟨hinc,hbnd⟩:=spec.inc t;have hla:(chooseS σ t).length<=L.length:=zeg hinc hbnd;obtain⟨ca,eca⟩:∃ca,chooseS σ t=ca:=⟨_,rfl⟩
 have hmem:∀(j:Nat) (hj:j < L.length),0 < k.2->couldS (firstT L[j].head) t->j∈ca:=fun j hj hk hc=>by rw[<-eca];exact spec.mem hj hk hc
 rw[eca] at hinc hbnd hla ri1 ⊢;have hx09:=(hx07.trans hx8).trans hx9;have g09:=(((((hx3.trans hx4).trans hx5).trans hx57).trans hx8).trans hx9).get w2 g0;have g19:=(((((hx3.trans hx4).trans hx5).trans hx57).trans hx8).trans hx9).get w2 g1;have hgood:=fun (j:Nat) (hj:j < L.length)=>znr (zi9 he j hj)
 repeat' (first|refine qZa ?_|(refine qZe ?_;try simp only[z00])|(refine qZb ?_;simp (config:=qZc) (disch:=first|omega|rfl) only[sB,Za,reduceCtorEq,ln32,ln24,z15 rfl,Zg])|(refine z0q ?_;simp (config:=qZc) (disch:=first|omega|rfl) only[sB,Za,reduceCtorEq])|(refine qZm ?_ ?_;simp (config:=qZc) (disch:=first|omega|rfl) only[sB,Za,reduceCtorEq];refine z02 ?_))
 refine EvC.frame (fun tm=>tm.get 1=some (.slice a L.length c)/\tm.get 3=some (.pointer (some ⟨H.next,0,none⟩))/\tm.get 5=some (.pointer (some ⟨H.next+1,0,none⟩))/\tm.get 12=some (.slice sa ca.length sc)/\tm.get 14=some (.slice ub L.length uc)/\tm.get 16=some (.int .i64 0)) ⟨(by simp only[sG,Za,reduceCtorEq]),(by simp only[sG,Za,reduceCtorEq]),(by simp only[sG,Za,reduceCtorEq]),(by simp only[sG,Za,reduceCtorEq]),(by simp only[sG,Za,reduceCtorEq]),(by simp only[sG,Za,reduceCtorEq])⟩ ?_;rintro tm ⟨t1,t3,t5,t12,t14,t16⟩;(repeat refine qZa ?_);refine EvC.join (fun st=>∃(tm:Tr Value) (G:Heap),st=⟨tm,[],G⟩/\tm.get 12=some (.slice sa ca.length sc)/\HX H9 G) ?_ ?_
 ·refine qZg (qZk (fun k' st=>∃(tm:Tr Value) (G:Heap) (i:Nat),st=⟨tm,[],G⟩/\k'=L.length - i/\i<=L.length/\tm.get 1=some (.slice a L.length c)/\tm.get 3=some (.pointer (some ⟨H.next,0,none⟩))/\tm.get 5=some (.pointer (some ⟨H.next+1,0,none⟩))/\tm.get 12=some (.slice sa ca.length sc)/\tm.get 14=some (.slice ub L.length uc)/\tm.get 16=some (.int .i64 (i:Nat))/\HX H9 G) ?_ L.length _ ?_);rotate_left
  ·exact⟨_,_,0,rfl,rfl,Zl _,t1,t3,t5,t12,t14,t16,HX.refl w9⟩
  clear t1 t3 t5 t12 t14 t16;rintro k' st ⟨tm,G,i,rfl,rfl,hi,t1,t3,t5,t12,t14,t16,hxG⟩;have wG:=hxG.wf;by_cases hlt:i < L.length;rotate_left
  ·repeat' (first|refine qZa ?_|(refine qZi ?_;try simp only[sB])|(refine qZb ?_;simp (config:=qZc) (disch:=first|omega|rfl) only[sB,Za,ln24,t1,t16,decn hlt])|(refine qZm ?_ ?_;simp (config:=qZc) (disch:=first|omega|rfl) only[sB,Za];refine z02 ?_))
   exact⟨_,_,rfl,(by simp only[sG,Za,t12]),hxG⟩
  obtain⟨bu,ou,rfl,ldu⟩:=ri2.get i (by simpa using hlt);have ldu':=hxG.load w9 ldu;simp only[List.getElem_map,List.getElem_range] at ldu';obtain⟨hgi,hnm,har⟩:=hgood i hlt;have ri1G:RdI G (ca.map fun i:Nat=>(i:Int)) sa sc:=⟨ri1.len,ri1.cap,fun j hj=>by obtain⟨b,o,h1,h2⟩:=ri1.get j hj;exact⟨b,o,h1,hxG.load w9 h2⟩⟩
  repeat' (first|refine qZa ?_|(refine qZe ?_;try simp only[z00])|(refine qZb ?_;simp (config:=qZc) (disch:=first|omega|rfl) only[sB,Za,ln24,t1,t16,decl hlt])|(refine qZd ?_ ?_;simp (config:=qZc) (disch:=first|omega|rfl) only[sB,Za];refine z02 ?_))
  refine qZg ?_
  repeat' (first|refine qZa ?_|(refine qZe ?_;try simp only[z00])|(refine qZb ?_;simp (config:=qZc) (disch:=first|omega|rfl) only[sB,Za,ia32,ld3,cl7,t12,t14,t16,ldu',z15 rfl])|(refine qZm ?_ ?_;simp (config:=qZc) (disch:=first|omega|rfl) only[sB,Za];refine z02 ?_))
  have hin:=zvu (n:=(i:Int)) ri1G;rw[z9t] at hin;refine hin.mono ?_;rintro v G' ⟨rfl,rfl⟩;obtain⟨Gb,eb,hxb,wb⟩:=z3l wG 19;have hx9b:=hxG.trans hxb;have qk:=z70 (hx9b.get w9 g09);have qt:=row6 (hx9b.get w9 g19);by_cases hmi:(i:Int)∈ca.map fun i:Nat=>(i:Int)
  ·repeat' (first|refine qZa ?_|(refine qZe ?_;try simp only[sA])|(refine qZb ?_;simp (config:=qZc) (disch:=first|omega|rfl) only[sB,Za,t16,z4i (i:=i) (by omega)])|(refine qZj (id:=18) [([(0,0),(1,0),(2,0),(3,0),(4,0),(5,0),(6,0),(7,0),(8,0),(9,0),(10,0),(11,0),(12,0),(13,0),(14,0),(15,0),(16,0)],some 17),([(18,1)],none)] ?_ ?_;kernel_rfl;simp (config:=qZc) (disch:=first|omega|rfl) only[sD,sB,Za,Zb,decide_eq_true hmi,Zv,Zg,eb,isAlloc,isRead])|(refine qZm ?_ ?_;simp (config:=qZc) (disch:=first|omega|rfl) only[sB,Za];refine z02 ?_))
   exact⟨L.length - (i+1),by omega,_,_,i+1,rfl,rfl,by omega,(by simp only[sG,Za,t1]),(by simp only[sG,Za,t3]),(by simp only[sG,Za,t5]),(by simp only[sG,Za,t12]),(by simp only[sG,Za,t14]),(by simp only[sG,Za]),hx9b⟩
  by_cases hk:0 < k.2;rotate_left
  ·have d1:decide (k.2 > 0)=false:=decide_eq_false (by omega);have d2:decide (0 < k.2)=false:=decide_eq_false hk
   repeat' (first|refine qZa ?_|(refine qZe ?_;try simp only[sA])|(refine qZb ?_;simp (config:=qZc) (disch:=first|omega|rfl) only[sB,Za,t16,z4i (i:=i) (by omega)])|(refine qZj (id:=18) [([(0,0),(1,0),(2,0),(3,0),(4,0),(5,0),(6,0),(7,0),(8,0),(9,0),(10,0),(11,0),(12,0),(13,0),(14,0),(15,0),(16,0)],some 17),([(18,1)],none)] ?_ ?_;kernel_rfl;simp (config:=qZc) (disch:=first|omega|rfl) only[sD,sB,Za,Zb,reduceCtorEq,ld3,z6j,decide_eq_false hmi,ZM,Zg,eb,t3,qk,d1,isAlloc,isRead])|(refine qZm ?_ ?_;simp (config:=qZc) (disch:=first|omega|rfl) only[sB,Za];refine z02 ?_))
   exact⟨L.length - (i+1),by omega,_,_,i+1,rfl,rfl,by omega,(by simp only[sG,Za,t1]),(by simp only[sG,Za,t3]),(by simp only[sG,Za,t5]),(by simp only[sG,Za,t12]),(by simp only[sG,Za,t14]),(by simp only[sG,Za]),hx9b⟩
  have hnc:¬couldS (firstT L[i].head) t:=fun q=>hmi (List.mem_map.2 ⟨i,hmem i hlt hk q,rfl⟩)
  have d1:decide (k.2 > 0)=true:=decide_eq_true hk;have d2:decide (0 < k.2)=true:=decide_eq_true hk;obtain⟨bl,ol,cs,rfl,hld,hrc⟩:=r.el i hlt;obtain⟨ha,hcap,xa,xc,xb,xd,rfl,rh,-⟩:=hrc;obtain⟨za,zc,cells,hsix,-,-,-,-,-,rl⟩:=rh.six;obtain⟨-,-,-,-,-,rfl,rfl⟩:=z78 hsix;have hpos:0 < L[i].head.args.length:=by omega
  obtain⟨b0,o0,aj,cj,rfl,hl0,hr0⟩:=rl.el (i:=0) hpos;have hfst:firstT L[i].head=L[i].head.args[0]:=by
   unfold firstT;generalize L[i].head.args=l at hpos;cases l with
   |nil=>simp at hpos
   |cons x l=>rfl
  rw[<-hfst] at hl0 hr0;have l5:=tIdx hld (j:=5) (n:=1) (by omega);have hx0b:=hx09.trans hx9b;have l5b:=hx0b.load hw l5;simp only[List.drop_succ_cons,List.drop_zero,List.take_succ_cons,List.take_zero] at l5b;have l0b:=hx0b.load hw hl0
  repeat' (first|refine qZa ?_|(refine qZj (id:=18) [([(0,0),(1,0),(2,0),(3,0),(4,0),(5,0),(6,0),(7,0),(8,0),(9,0),(10,0),(11,0),(12,0),(13,0),(14,0),(15,0),(16,0)],some 17),([(18,1)],none)] ?_ ?_;kernel_rfl;simp (config:=qZc) (disch:=first|omega|rfl) only[sD,sB,Za,Zb,reduceCtorEq,Int.reduceToNat,ld28,ld3,z6j,ia24,z4f,z0u,ld26,cl8,decide_eq_false hmi,ZM,eb,t1,t3,t5,t16,qk,qt,d1,l5b,iz26,l0b,isAlloc,isRead]))
  refine(zpr (hr0.mono hx0b hw) (rt.mono hx0b hw) wb).mono ?_;rintro v G2 ⟨hx2,b,rfl,hb⟩;have hbf:b=false:=by
   cases b with
   |false=>rfl
   |true=>exact absurd (hb.1 rfl) hnc
  subst hbf
  repeat' (first|(refine qZe ?_;try simp only[sA])|(refine qZb ?_;simp (config:=qZc) (disch:=first|omega|rfl) only[sB,Za,t16,z4i (i:=i) (by omega)])|(refine z0p ?_;simp (config:=qZc) (disch:=first|omega|rfl) only[sD,sB,Za,isAlloc,isRead])|(refine qZm ?_ ?_;simp (config:=qZc) (disch:=first|omega|rfl) only[sB,Za];refine z02 ?_))
  exact⟨L.length - (i+1),by omega,_,_,i+1,rfl,rfl,by omega,(by simp only[sG,Za,t1]),(by simp only[sG,Za,t3]),(by simp only[sG,Za,t5]),(by simp only[sG,Za,t12]),(by simp only[sG,Za,t14]),(by simp only[sG,Za]),hx9b.trans hx2⟩
 clear t1 t3 t5 t12 t14 t16;rintro st ⟨tm,G,rfl,t12,hxG⟩;simp only[z00]
 repeat' (first|refine qZa ?_|(refine qZb ?_;simp (config:=qZc) (disch:=first|omega|rfl) only[sA]))
 (repeat refine qZa ?_);refine EvC.join (fun st=>∃(tm:Tr Value) (G:Heap),st=⟨tm,[],G⟩) ?_ ?_
 ·refine qZg (qZk (fun k' st=>∃(tm:Tr Value) (G:Heap) (i:Nat),st=⟨tm,[],G⟩/\k'=ca.length - i/\i<=ca.length/\tm.get 12=some (.slice sa ca.length sc)/\tm.get 18=some (.int .i64 (i:Nat))/\HX H9 G) ?_ ca.length _ ?_);rotate_left
  ·exact⟨_,_,0,rfl,rfl,Zl _,(by simp only[sG,Za,t12]),(by simp only[sB];rfl),hxG⟩
  clear t12;rintro k' st ⟨tm,G,i,rfl,rfl,hi,t12,t18,hxG⟩;have wG:=hxG.wf;by_cases hlt:i+1 < ca.length;rotate_left
  ·repeat' (first|refine qZa ?_|(refine qZi ?_;try simp only[sB])|(refine qZb ?_;simp (config:=qZc) (disch:=first|omega|rfl) only[sB,Za,ln32,t12,t18,z4i (i:=i) (by omega),decn hlt])|(refine qZm ?_ ?_;simp (config:=qZc) (disch:=first|omega|rfl) only[sB,Za];refine z02 ?_))
   exact⟨_,_,rfl⟩
  obtain⟨b,o,rfl,ld1⟩:=ri1.get i (by rw[z9t];omega);obtain⟨b',o',e,ld2⟩:=ri1.get (i+1) (by rw[z9t];omega);cases e;simp only[List.getElem_map] at ld1 ld2;obtain⟨Gb,eb,hxb,wb⟩:=z3l wG 10;have ld1b:=(hxG.trans hxb).load w9 ld1;have ld2b:=(hxG.trans hxb).load w9 ld2;have hlt0:i < ca.length:=by omega
  have hii:=List.pairwise_iff_getElem.1 hinc i (i+1) hlt0 hlt (by omega);have dge:decide ((ca[i]:Int) >= (ca[i+1]:Int))=false:=decide_eq_false (by omega);have dle:decide ((ca[i+1]:Int)<=(ca[i]:Int))=false:=decide_eq_false (by omega)
  repeat' (first|refine qZa ?_|refine qZg ?_|(refine qZe ?_;try simp only[sA])|(refine qZb ?_;simp (config:=qZc) (disch:=first|omega|rfl) only[sB,Za,ln32,t12,t18,z4i (i:=i) (by omega),decl hlt])|(refine qZj (id:=23) [([(0,0),(1,0),(2,0),(3,0),(4,0),(5,0),(6,0),(7,0),(8,0),(9,0)],none)] ?_ ?_;kernel_rfl;simp (config:=qZc) (disch:=first|omega|rfl) only[sD,sB,Za,Zb,reduceCtorEq,ia32,ld3,t12,t18,z4i (i:=i) (by omega),eb,ld1b,ld2b,dge,isAlloc,isRead])|(refine qZd ?_ ?_;simp (config:=qZc) (disch:=first|omega|rfl) only[sB,Za];refine z02 ?_)|(refine qZm ?_ ?_;simp (config:=qZc) (disch:=first|omega|rfl) only[sB,Za];refine z02 ?_))
  exact⟨ca.length - (i+1),by omega,_,_,i+1,rfl,rfl,by omega,(by simp only[sG,Za,t12]),(by simp only[sG,Za]),hxG.trans hxb⟩
 rintro st ⟨tm,G,rfl⟩;simp only[z00]
 repeat' (first|refine qZa ?_|(refine qZf ?_)|(refine qZb ?_;simp (config:=qZc) (disch:=first|omega|rfl) only[sA]))
 exact z03 rfl (by simp only[sG]) rfl
end Go.Proofs.hq
end

section
namespace Go.Proofs.hq
open Go Go.RowKit Go.Hb
theorem zrk:∀{l:List Tm}{u:Tm},u∈l->nd u<=nd.ndL l
 |t :: l,u,h=>by
  rw[z84];rcases List.mem_cons.1 h with rfl|h
  ·omega
  ·have:=zrk h;omega
theorem zrl {n:Nat}:∀(m:Nat) (t:Tm),SizeOf.sizeOf t < m->nd t<=n->Few n t
 |0,t,h,_=>absurd h (Nat.not_lt_zero _)
 |m+1,t,h,hn=>by
  have h1:=z1f t;have h2:=zni t.args;refine .mk (by omega) fun u hu=>zrl m u ?_ ?_
  ·obtain⟨i,hi,rfl⟩:=ZO hu;have:=z22 (Zc hi);omega
  ·have:=zrk hu;omega
end Go.Proofs.hq
end

section
namespace Go.Proofs.hq
open Go Go.RowKit Go.Hb
variable {ok:Ok}
set_option maxRecDepth 10000
attribute [local irreducible] LX LG EL STG SOP SGO SGD SAL SRD SEF SEG SLK SCK ES
structure OpV where
 kind:Int
 num:Int
 tm:Tm
 cell:Int × Int
structure RepO15 (H:Heap) (B:List OpV) (a:Option Addr) (c:Nat):Prop where
 len:B.length<=c
 cap:c<=maxLen
 el:∀(i:Nat) (h:i < B.length),∃b o a' c',a=some ⟨b,o,none⟩/\H.load ⟨b,o+i*15+1,none⟩ 1=some [.int .i64 B[i].kind]/\H.load ⟨b,o+i*15+2,none⟩ 1=some [.int .i64 B[i].num] /\
  H.load ⟨b,o+i*15+3,none⟩ 6=some (six B[i].tm a' c')/\H.load ⟨b,o+i*15+9,none⟩ 2=some [.int .i64 B[i].cell.1,.int .i64 B[i].cell.2]/\RepT H B[i].tm (six B[i].tm a' c')
theorem RepO15.mono {H H':Heap}{B:List OpV}{a:Option Addr}{c:Nat}(h:RepO15 H B a c) (hx:HX H H') (hw:H.wf):RepO15 H' B a c :=
 ⟨h.len,h.cap,fun i hi=>by obtain⟨b,o,a',c',e,l1,l2,l3,l4,r⟩:=h.el i hi;exact⟨b,o,a',c',e,hx.load hw l1,hx.load hw l2,hx.load hw l3,hx.load hw l4,r.mono hx hw⟩⟩
end Go.Proofs.hq
end

section
namespace Go.Proofs.hq
open Go Go.RowKit Go.Hb
section
variable {H:Type}{enc:TypeId × Value->H}{P:Program}{W:World}{sp:Nat->Bool}
structure OpTypesW (P:Program) (tO tOS tT tI tC:TypeId):Prop where
 fields:∃fs:Array Field,P.underlying tO=some (.struct fs)/\∃x y z:TypeId,(fs.toList.map fun f=>(f.offset,f.type))=[(0,tI),(1,tI),(2,tI),(3,tT),(9,tC),(11,x),(12,y),(14,z)]
 slice:P.underlying tOS=some (.slice tO)
 cO:P.cellsOf tO=15
 cellf:∃fs:Array Field,P.underlying tC=some (.struct fs)/\(fs.toList.map fun f=>(f.offset,f.type))=[(0,tI),(1,tI)]
 cC:P.cellsOf tC=2
theorem zns {m:Nat}{cs:List Value}{xs:List (DataW H × List MemPlace)}{fs:Array Field}{L:List (Nat × TypeId)}(hfs:(fs.toList.map fun f=>(f.offset,f.type))=L)
  (hall:∀(i:Nat) (f:Field),fs[i]?=some f->∃x,xs[i]?=some x/\DataW.trod enc P W 0 sp true m f.type ((cs.drop f.offset).take (P.cellsOf f.type))=some x) (i o:Nat) (u:TypeId) (hi:L[i]?=some (o,u)) :
  ∃x,xs[i]?=some x/\DataW.trod enc P W 0 sp true m u ((cs.drop o).take (P.cellsOf u))=some x:=by
 rw[<-hfs,Zw,Option.map_eq_some_iff] at hi;obtain⟨f,hf1,hf2⟩:=hi;obtain⟨x,hx,hd⟩:=hall i f (by simpa using hf1);cases hf2;exact⟨x,hx,hd⟩
end
end Go.Proofs.hq
end

section
namespace Go.Proofs.hq
open Go Go.RowKit Go.Hb
variable {ok:Ok}
set_option maxRecDepth 10000
attribute [local irreducible] LX LG EL STG SOP SGO SGD SAL SRD SEF SEG SLK SCK ES
end Go.Proofs.hq
end

section
namespace Go.Proofs.hq
open Go Go.RowKit Go.Hb
section
variable {H:Type}{enc:TypeId × Value->H}{P:Program}{W:World}{sp:Nat->Bool}
structure BodyTypesW (P:Program) (tB tBS tK tT tI:TypeId):Prop where
 fields:∃fs:Array Field,P.underlying tB=some (.struct fs)/\(fs.toList.map fun f=>(f.offset,f.type))=[(0,tI),(1,tT),(7,tBS)]
 slice:P.underlying tBS=some (.slice tB)
 cB:P.cellsOf tB=8
 cBS:P.cellsOf tBS=1
 clausef:∃fs:Array Field,P.underlying tK=some (.struct fs)/\(fs.toList.map fun f=>(f.offset,f.type))=[(0,tT),(6,tB),(14,tI)]
 cK:P.cellsOf tK=15
theorem z9v {t:Bdy}{l:List Bdy}:szB.szBL (t :: l)=szB t+szB.szBL l:=by rw[szB.szBL]
theorem ztp (u:Bdy):1<=szB u:=by rw[z3g];omega
theorem zib:∀l:List Bdy,l.length<=szB.szBL l
 |[]=>Zl _
 |t :: l=>by have:=zib l;have:=ztp t;rw[z9v,ZD];omega
theorem zic:∀{l:List Bdy}{u:Bdy},u∈l->szB u<=szB.szBL l
 |t :: l,u,h=>by
  rw[z9v];rcases List.mem_cons.1 h with rfl|h
  ·omega
  ·have:=zic h;omega
theorem znt {n:Nat}:∀(m:Nat) (b:Bdy),SizeOf.sizeOf b < m->szB b<=n->FewB n b
 |0,b,h,_=>absurd h (Nat.not_lt_zero _)
 |m+1,b,h,hn=>by
  rw[z3g] at hn;have h2:=zib b.sub;refine .mk (by omega) (zrl _ _ (Zf _) (by omega)) fun u hu=>znt m u ?_ ?_
  ·have:=b.size u hu;omega
  ·have:=zic hu;omega
theorem znu {w:DataW H->Nat}:∀(es:List (DataW H × List MemPlace)) (f:Nat->Bdy),(∀i x,es[i]?=some x->2*szB (f i)<=w x.1)->2*szB.szBL ((Zh es.length).map f)<=((es.map (·.1)).map w).sum
 |[],f,_=>by simp [szB.szBL]
 |x :: es,f,h=>by
  have h0:=h 0 x rfl;have ih:=znu (w:=w) es (fun i=>f (i+1)) fun i y hy=>h (i+1) y hy
  rw[ZD,List.range_succ_eq_map,ZA,List.map_map,z9v,ZA,ZA,List.sum_cons];have e:(f ∘ Nat.succ)=fun i=>f (i+1):=rfl
  rw[e];omega
theorem zps {tB tBS tK tT tI:TypeId}(Bt:BodyTypesW P tB tBS tK tT tI) {w:DataW H->Nat}{a:Addr}{m cap:Nat}{elems:List (DataW H × List MemPlace)}
  (hnc:elems.length<=cap) (hcm:cap<=maxLen)
  (ih:∀(cs:List Value) (d:DataW H) (ps:List MemPlace),DataW.trod enc P W 0 sp true m tB cs=some (d,ps)->∃b,RepB (heapW P W) b (cs.map (ab P W))/\2*szB b<=w d)
  (hel:∀i x,elems[i]?=some x->∃es,W.cells? 0 (a.add (i*P.cellsOf tB)) (P.cellsOf tB)=some es/\DataW.trod enc P W 0 sp true m tB es=some x) :
  ∃l a' cells,ab P W (.slice (some a) elems.length cap)=.slice (some a') l.length cap/\RepBL (heapW P W) l (some a') cap cells/\2*szB.szBL l<=((elems.map (·.1)).map w).sum:=by
 rw[Bt.cB] at hel;have hsp:0 < elems.length->a.spot=none:=fun hn=>by
  obtain⟨es,he,_⟩:=hel 0 elems[0] (Zc hn);exact z7f (by omega) he
 have key:∀i,∃t cells,(∀x,elems[i]?=some x->(heapW P W).load ⟨a.block,a.off+i*8,none⟩ 8=some cells/\RepB (heapW P W) t cells/\2*szB t<=w x.1):=fun i=>by
  by_cases hi:i < elems.length
  ·obtain⟨es,he,ht⟩:=hel i elems[i] (Zc hi);obtain⟨t,hr,hwt⟩:=ih es elems[i].1 elems[i].2 ht;exact⟨t,_,fun x hx=>by rw[Zc hi] at hx;cases hx;exact⟨(z40 (by omega) he (hsp (by omega))).1,hr,hwt⟩⟩
  ·exact⟨zeroB,[],fun x hx=>absurd (List.getElem?_eq_some_iff.1 hx).1 hi⟩
 obtain⟨T',hT'⟩:=Classical.axiomOfChoice key;obtain⟨C,hC⟩:=Classical.axiomOfChoice hT';have hlen:((Zh elems.length).map T').length=elems.length:=by simp
 have hsum:=znu (w:=w) elems T' fun i x hx=>(hC i x hx).2.2
 by_cases hn:0 < elems.length
 ·have hbl:a.block < W.heap.size:=by
   obtain⟨es,he,_⟩:=hel 0 elems[0] (Zc hn);exact(z40 (P:=P) (by omega) he (hsp hn)).2.2
  have hab:ab P W (.slice (some a) elems.length cap)=.slice (some a) ((Zh elems.length).map T').length cap:=by
   unfold ab;rw[hlen];simp only;rw[if_pos ⟨hnc,hcm⟩,if_pos ⟨hsp hn,hbl⟩]
  refine⟨(Zh elems.length).map T',a,C,hab,⟨by rw[hlen];exact hnc,hcm,fun h=>(by cases h),fun i ad hi ha=>?_,fun i t ht=>?_⟩,hsum⟩
  ·cases ha;rw[hlen] at hi;exact⟨hsp hn,(hC i _ (Zc hi)).1⟩
  ·rw[Zw,Option.map_eq_some_iff] at ht;obtain⟨j,hj,rfl⟩:=ht;have hi:i < elems.length:=by have:=(List.getElem?_eq_some_iff.1 hj).1;simpa using this
   rw[List.getElem?_range hi] at hj;cases hj;exact(hC i _ (Zc hi)).2.1
 ·have hn0:elems.length=0:=by omega
  obtain⟨a',hab⟩:∃a',ab P W (.slice (some a) elems.length cap)=.slice (some a') 0 cap:=by
   unfold ab;simp only;rw[if_pos ⟨hnc,hcm⟩,hn0];split
   ·exact⟨_,rfl⟩
   ·exact⟨_,rfl⟩
  exact⟨[],a',fun _=>[],hab,⟨Zl _,hcm,fun h=>(by cases h),fun i ad hi=>by simp at hi,fun i t h=>by simp at h⟩,by simp [szB.szBL]⟩
theorem zb3 {cs ts:List Value}{x y:Value}(hl:cs.length=8) (h0:(cs.drop 0).take 1=[x]) (h1:(cs.drop 1).take 6=ts) (h7:(cs.drop 7).take 1=[y]):cs=x :: (ts++[y]):=by
 match cs,hl with
 |[a,b,c,d,e,f,g,h],_ =>
  simp only[List.drop_zero,List.drop_succ_cons,List.take_succ_cons,List.take_zero] at h0 h1 h7;cases h0;cases h7;subst h1;rfl
theorem znv {cs hs bs:List Value}{y:Value}(hl:cs.length=15) (h0:(cs.drop 0).take 6=hs) (h1:(cs.drop 6).take 8=bs) (h7:(cs.drop 14).take 1=[y]):cs=hs++(bs++[y]):=by
 match cs,hl with
 |[a0,a1,a2,a3,a4,a5,a6,a7,a8,a9,aa,ab,ac,ad,ae],_ =>
  simp only[List.drop_zero,List.drop_succ_cons,List.take_succ_cons,List.take_zero] at h0 h1 h7;cases h7;subst h0;subst h1;rfl
theorem w3 {w:DataW H->Nat}(hw:Wt w) {xs:List (DataW H × List MemPlace)}{d0 d1 d2:DataW H}{p0 p1 p2:List MemPlace}(x0:xs[0]?=some (d0,p0)) (x1:xs[1]?=some (d1,p1)) (x2:xs[2]?=some (d2,p2)):1+w d0+w d1+w d2<=w (.agg (xs.map (·.1))):=by
 have h1:=hw.agg (xs.map (·.1))
 match xs,x0,x1,x2,h1 with
 |y0 :: y1 :: y2 :: r,x0,x1,x2,h1 =>
  cases x0;cases x1;cases x2;simp only[ZA,List.sum_cons] at h1 ⊢;omega
theorem zv7 {tS tG tU tB tBS tK tT tI:TypeId}(T:TermTypes P tT tS tI tG tU) (Bt:BodyTypesW P tB tBS tK tT tI) {w:DataW H->Nat}(hw:Wt w):∀(fuel:Nat) (cs:List Value) (d:DataW H) (ps:List MemPlace),DataW.trod enc P W 0 sp true fuel tB cs=some (d,ps)->∃b,RepB (heapW P W) b (cs.map (ab P W))/\2*szB b<=w d:=by
 intro fuel
 induction fuel using Nat.strongRecOn with
 |_ fuel ih =>
 intro cs d ps h;obtain⟨fs,hf,hfs⟩:=Bt.fields;obtain⟨m,xs,rfl,hl,rfl,hall⟩:=z30 hf h;rw[Bt.cB] at hl;have fld:=zns hfs hall;obtain⟨⟨d0,p0⟩,x0,t0⟩:=fld 0 0 tI rfl;obtain⟨⟨d1,p1⟩,x1,t1⟩:=fld 1 1 tT rfl;obtain⟨⟨d2,p2⟩,x2,t2⟩:=fld 2 7 tBS rfl;rw[T.cI] at t0;rw[T.cT] at t1;rw[Bt.cBS] at t2;obtain⟨k,h0,w0⟩:=z5g T.int t0;obtain⟨t,hr,hn⟩:=ztj T hw _ _ _ _ t1;obtain⟨ta,tc,tcells,h6,-⟩:=hr.six;have hb:=w3 hw x0 x1 x2;have hp0:=hw.pos d0;have hnp:=zrh t;rcases z7t Bt.slice t2 with h5|⟨a,c,m',elems,rest,rfl,h5,hnc,hcm,rfl,hel⟩
 ·have hc:=zb3 hl h0 rfl h5;rw[hc];refine⟨.mk k t [],?_,?_⟩
  ·rw[ZA,ZI,zng];exact .mk k t [] _ none 0 (fun _=>[]) (zb2 w0) hr (Ze _) (Zl _) (fun _=>⟨rfl,rfl⟩) (fun i ad hi=>by simp at hi) (fun i u hu=>by simp at hu)
  ·rw[z3g,show (Bdy.mk k t []).sub=[] from rfl,show (Bdy.mk k t []).term=t from rfl];simp only[szB.szBL];have:=hw.pos d2;omega
 ·have hc:=zb3 hl h0 rfl h5;rw[hc];obtain⟨l,a',C,hab,rl,hn2⟩:=zps Bt hnc hcm (ih m' (by omega)) hel;refine⟨.mk k t l,?_,?_⟩
  ·rw[ZA,ZI,zng,ZA,List.map_nil,hab];exact .mk k t l _ (some a') c C (zb2 w0) hr rl.len hcm (fun h=>(by cases h)) rl.load rl.rep
  ·rw[z3g,show (Bdy.mk k t l).sub=l from rfl,show (Bdy.mk k t l).term=t from rfl];have:=hw.slice (elems.map (·.1)) rest;omega
theorem zv8 {tS tG tU tB tBS tK tT tI:TypeId}(T:TermTypes P tT tS tI tG tU) (Bt:BodyTypesW P tB tBS tK tT tI) {w:DataW H->Nat}(hw:Wt w) (fuel:Nat) (cs:List Value) (d:DataW H) (ps:List MemPlace) (h:DataW.trod enc P W 0 sp true fuel tK cs=some (d,ps)):∃c,RdC (heapW P W) c (cs.map (ab P W))/\7*nd c.head<=w d/\2*szB c.body<=w d:=by
 obtain⟨fs,hf,hfs⟩:=Bt.clausef;obtain⟨m,xs,rfl,hl,rfl,hall⟩:=z30 hf h;rw[Bt.cK] at hl;have fld:=zns hfs hall;obtain⟨⟨d0,p0⟩,x0,t0⟩:=fld 0 0 tT rfl;obtain⟨⟨d1,p1⟩,x1,t1⟩:=fld 1 6 tB rfl;obtain⟨⟨d2,p2⟩,x2,t2⟩:=fld 2 14 tI rfl;rw[T.cT] at t0;rw[Bt.cB] at t1;rw[T.cI] at t2;obtain⟨v,h2,w2⟩:=z5g T.int t2;obtain⟨t,hr,hn⟩:=ztj T hw _ _ _ _ t0;obtain⟨b,hrb,hnb⟩:=zv7 T Bt hw _ _ _ _ t1;obtain⟨ta,tc,tcells,h6,-⟩:=hr.six;obtain⟨ua,uc,xa,xc,h8⟩:=hrb.eight;have hb:=w3 hw x0 x1 x2;have hc:=znv hl rfl rfl h2;refine⟨⟨t,b,v⟩,?_,by simp only;omega,by simp only;omega⟩;rw[hc,ZI,ZI,h6,h8];rw[h6] at hr;rw[h8] at hrb;exact⟨ta,tc,ua,uc,xa,xc,rfl,hr,hrb⟩
end
end Go.Proofs.hq
end

section
namespace Go.Hb
open Go Go.RowKit
theorem zid:∀{l:List Nat}{a:Nat},a∈l->a<=l.sum
 |b :: l,a,h=>by
  rw[List.sum_cons];rcases List.mem_cons.1 h with rfl|h
  ·omega
  ·have:=zid h;omega
section
variable {H:Type}{enc:TypeId × Value->H}{P:Program}{W:World}{sp:Nat->Bool}
theorem zej {w:DataW H->Nat}(hpos:∀d,1<=w d):∀l:List (DataW H),l.length<=(l.map w).sum
 |[]=>Ze _
 |d :: l=>by
  have:=zej hpos l;have:=hpos d;rw[ZA,List.sum_cons,ZD];omega
theorem zjw {α:Type}{tS tE:TypeId}{K:Nat}{row:α->List Value}{G:α->Nat->Prop}(hG:∀x m n,m<=n->G x m->G x n) (hS:P.underlying tS=some (.slice tE)) (hc:P.cellsOf tE=K) (hK:0 < K) {w:DataW H->Nat}(hws:∀es rest,(es.map w).sum<=w (.slice es rest)) (hpos:∀d,1<=w d)
  (hE:∀fuel es d ps,DataW.trod enc P W 0 sp true fuel tE es=some (d,ps)->∃x:α,es.map (ab P W)=row x/\G x (w d)) (z:α)
  {v:Value}{fuel:Nat}{d:DataW H}{ps:List MemPlace}(h:DataW.trod enc P W 0 sp true fuel tS v.cells.toList=some (d,ps)) (hv:∀cs,v≠.agg cs) :
  ∃(L:List α) (a:Option Addr) (c:Nat),abV P W v=.slice a L.length c/\L.length<=c/\c<=maxLen/\(∀(i:Nat) (hi:i < L.length),∃b o,a=some ⟨b,o,none⟩/\(heapW P W).load ⟨b,o+i*K,none⟩ K=some (row L[i]))/\L.length<=w d/\∀x∈L,G x (w d):=by
 have hcv:v.cells.toList=[v]:=by
  unfold Value.cells;split
  ·rename_i cs;exact absurd rfl (hv cs)
  ·rfl
 rw[hcv] at h;have hab:abV P W v=ab P W v:=by
  unfold abV;split
  ·rename_i cs;exact absurd rfl (hv _)
  ·rfl
 rw[hab];rcases DataW.trod_slice hS h with ⟨h1,-⟩|⟨a,len,cap,elems,rest,n,rfl,he,hx,-,hl,hm,rfl,hel,-⟩
 ·cases h1;exact⟨[],none,0,rfl,Ze _,Zl _,fun i hi=>by simp at hi,Zl _,fun p hp=>by simp at hp⟩
 ·cases he;cases hx;rw[hc] at hel;have hl':elems.length<=cap:=hl;have hget:∀i x,elems[i]?=some x->∃es,W.cells? 0 (a.add (i*K)) K=some es/\DataW.trod enc P W 0 sp true n tE es=some x:=fun i x hx=>by
   have hi:=(List.getElem?_eq_some_iff.1 hx).1;have:=hel i hi;rw[hx,Option.bind_eq_some_iff] at this;exact this
  have key:∀i,∃s:α,i < elems.length->a.spot=none->(heapW P W).load ⟨a.block,a.off+i*K,none⟩ K=some (row s)/\G s (w (.slice (elems.map (·.1)) (rest.map (·.1)))):=fun i=>by
   by_cases hi:i < elems.length
   ·obtain⟨es,h1,h2⟩:=hget i elems[i] (Zc hi);obtain⟨s,h0,h3⟩:=hE _ _ elems[i].1 elems[i].2 h2;refine⟨s,fun _ hsp=>⟨?_,?_⟩⟩
    ·have:=(z40 (P:=P) hK h1 hsp).1;rw[h0] at this;exact this
    ·have h4:=hws (elems.map (·.1)) (rest.map (·.1));have h5:w elems[i].1<=((elems.map (·.1)).map w).sum:=zid (List.mem_map.2 ⟨elems[i].1,List.mem_map.2 ⟨elems[i],Zu hi,rfl⟩,rfl⟩);exact hG _ _ _ (by omega) h3
   ·exact⟨z,fun h=>absurd h hi⟩
  obtain⟨f,hf⟩:=Classical.axiomOfChoice key;have hlen:((Zh elems.length).map f).length=elems.length:=by simp
  by_cases hn:0 < elems.length
  ·obtain⟨es0,h1,-⟩:=hget 0 elems[0] (Zc hn);have hsp:a.spot=none:=z7f hK h1;have hbl:a.block < W.heap.size:=(z40 (P:=P) hK h1 hsp).2.2;have hab2:ab P W (.slice (some a) elems.length cap)=.slice (some a) ((Zh elems.length).map f).length cap:=by
    unfold ab;rw[hlen];simp only;rw[if_pos ⟨hl',hm⟩,if_pos ⟨hsp,hbl⟩]
   refine⟨(Zh elems.length).map f,some a,cap,hab2,by rw[hlen];exact hl',hm,fun i hi=>⟨a.block,a.off,?_,?_⟩,by rw[hlen];exact Zj (by simpa using zej hpos (elems.map (·.1))) (hws _ _),fun p hp=>?_⟩
   ·obtain⟨b,o,sp⟩:=a;obtain rfl:sp=none:=hsp;rfl
   ·rw[hlen] at hi;rw[(hf i hi hsp).1];simp
   ·obtain⟨i,hi,rfl⟩:=List.mem_map.1 hp;exact(hf i (List.mem_range.1 hi) hsp).2
  ·have hn0:elems.length=0:=by omega
   obtain⟨a',hab2⟩:∃a',ab P W (.slice (some a) elems.length cap)=.slice (some a') 0 cap:=by
    rw[hn0] at hl' ⊢;unfold ab;simp only;rw[if_pos ⟨hl',hm⟩];split
    ·exact⟨_,rfl⟩
    ·exact⟨_,rfl⟩
   exact⟨[],some a',cap,hab2,Zl _,hm,fun i hi=>by simp at hi,Zl _,fun p hp=>by simp at hp⟩
end
end Go.Hb
namespace Go.Proofs.hq
open Go Go.RowKit Go.Hb
section
variable {H:Type}{enc:TypeId × Value->H}{P:Program}{W:World}{sp:Nat->Bool}
theorem zfr {tS tG tU tB tBS tK tT tI tKs:TypeId}(T:TermTypes P tT tS tI tG tU) (Bt:BodyTypesW P tB tBS tK tT tI) (hS:P.underlying tKs=some (.slice tK)) {w:DataW H->Nat}(hw:Wt w) {v:Value}{fuel:Nat}{d:DataW H}{ps:List MemPlace}(h:DataW.trod enc P W 0 sp true fuel tKs v.cells.toList=some (d,ps)) (hv:∀cs,v≠.agg cs) :
  ∃L a c,abV P W v=.slice a L.length c/\RdCs (heapW P W) L a c/\L.length<=w d/\∀x∈L,2*szB x.body<=w d:=by
 obtain⟨L,a,c,h1,h2,h3,h4,h5,h6⟩:=zjw (α:=List Value × Cls) (row:=fun x=>x.1) (G:=fun x m=>RdC (heapW P W) x.2 x.1/\2*szB x.2.body<=m) (fun x m n hmn g=>⟨g.1,Zj g.2 hmn⟩) hS Bt.cK (by omega) (fun es rest=>by have:=hw.slice es rest;omega) hw.pos (fun fuel es d ps ht=>by
  obtain⟨cl,rc,-,n2⟩:=zv8 T Bt hw _ _ _ _ ht;exact⟨(es.map (ab P W),cl),rfl,rc,n2⟩) ([],⟨zeroT,zeroB,0⟩) h hv
 refine⟨L.map (·.2),a,c,by rw[Zp];exact h1,⟨by rw[Zp];exact h2,h3,fun i hi=>?_⟩,by rw[Zp];exact h5,fun x hx=>?_⟩
 ·rw[Zp] at hi;obtain⟨b,o,ha,hld⟩:=h4 i hi;have g:=h6 _ (Zu hi);simp only[List.getElem_map];exact⟨b,o,_,ha,hld,g.1⟩
 ·obtain⟨y,hy,rfl⟩:=List.mem_map.1 hx;exact(h6 y hy).2
theorem znw {tT tTS tU tG tI tKy:TypeId}{gs:Array Field}(T:TermTypes P tT tTS tI tG tU) (hk:P.underlying tKy=some (.struct gs)) (hgs:(gs.toList.map fun f=>(f.offset,f.type))=[(0,tG),(1,tI)]) (hcK:P.cellsOf tKy=2) {fuel:Nat}{cs:List Value}{d:DataW H}{ps:List MemPlace}
  (h:DataW.trod enc P W 0 sp true fuel tKy cs=some (d,ps)):∃nm ar,cs=[.string nm,.int .i64 ar]/\nm.size<=maxLen:=by
 obtain⟨m',ys,rfl,hl5,rfl,hall5⟩:=z30 hk h;have fld5:=zns hgs hall5;obtain⟨⟨q0,r0⟩,y0,s0⟩:=fld5 0 0 tG rfl;obtain⟨⟨q1,r1⟩,y1,s1⟩:=fld5 1 1 tI rfl;rw[T.cG] at s0;rw[T.cI] at s1;obtain⟨nm,f0,hnm⟩:=z61 T.str s0;obtain⟨ar,f1,-⟩:=z5g T.int s1;rw[hcK] at hl5
 match cs,hl5 with
 |[u0,u1],_ =>
  simp only[List.drop_zero,List.drop_succ_cons,List.take_succ_cons,List.take_zero] at f0 f1;cases f0;cases f1;exact⟨nm,ar,rfl,hnm⟩
end
end Go.Proofs.hq
end
