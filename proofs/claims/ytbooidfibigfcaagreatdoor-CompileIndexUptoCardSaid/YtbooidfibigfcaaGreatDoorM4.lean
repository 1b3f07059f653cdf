import Derived.Test.YtbooidfibigfcaaGreatDoorM3
import Derived.Test.YtbooidfibigfcaaGreatDoorM2
/- Lemmas on the program's own code, towards the laws of this folder, part 4. Conditions: as each lemma says. -/
open Bool renaming and_eq_true -> Zk, false_eq_true -> Zg, not_false -> ZM, not_true -> Zv
open ByteArray renaming empty -> Zd
open List renaming drop_eq_getElem_cons -> ZG, getElem?_append_left -> Zz, getElem?_drop -> ZN, getElem?_eq_getElem -> Zc, getElem?_eq_none -> Zy, getElem?_map -> Zw, getElem?_take -> ZJ, getElem_mem -> Zu, getElem_of_mem -> ZO, length_append -> Zr, length_cons -> ZD, length_map -> Zp, length_take -> Zo, map_append -> ZI, map_cons -> ZA, mem_cons_of_mem -> Zn, range -> Zh, take_of_length_le -> Zm
open Nat renaming beq -> Zs, beq_eq -> Zt, le_refl -> Ze, le_trans -> Zj, lt_of_lt_of_le -> Zi, lt_succ_self -> Zf, reduceAdd -> Zb, reduceEqDiff -> Za, reduceLeDiff -> Zq, zero_add -> ZP, zero_le -> Zl, zero_mul -> ZK
open Option renaming bind_some -> ZB, map_some -> ZE
section
namespace Go.Proofs.hq
open Go Go.RowKit Go.Hb
variable {ok:Ok}
set_option maxRecDepth 10000
attribute [local irreducible] LX LG EL STG SOP SGO SGD SAL SRD SEF SEG SLK SCK ES
def canonS (s:ByteArray):Bool:=match parseD (bl s) with|none=>false|some n=>textD (negS (bl s)) n == bl s
theorem zlw {l:List Nat}{n:Nat}(h:parseD l=some n):n < big:=by
 unfold parseD at h;split at h
 ·cases h
 ·split at h
  ·cases h
  ·exact zll _ 0 n (by rw[zdf];exact Nat.two_pow_pos _) h
theorem toNat_inj:∀{a b:List UInt8},a.map UInt8.toNat=b.map UInt8.toNat->a=b
 |[],[],_=>rfl
 |x :: a,y :: b,h=>by
  simp only[ZA,List.cons.injEq] at h;rw[UInt8.toNat_inj.1 h.1,toNat_inj h.2]
 |[],_ :: _,h=>by simp at h
 |_ :: _,[],h=>by simp at h
theorem zp1 (t s:ByteArray):(t.data.toList == s.data.toList)=(bl t == bl s):=by
 by_cases h:t.data.toList=s.data.toList
 ·rw[beq_iff_eq.2 h,beq_iff_eq.2 (show bl t=bl s by unfold bl;rw[h])]
 ·have h2:bl t≠bl s:=fun h3=>h (toNat_inj h3)
  rw[beq_eq_false_iff_ne.2 h,beq_eq_false_iff_ne.2 h2]
theorem zj7:TellsS okT 81 canonS:=by
 intro s H hs hw;refine EvF.enter rfl Tryz.func81 (by decide) rfl ?_
 repeat' (first|refine qZa ?_|(refine qZb ?_;simp (config:=qZc) (disch:=first|omega|rfl) only[sB,initTm,Za,reduceCtorEq,cl90]))
 refine(zoq hs hw).mono ?_;rintro v H1 ⟨hP,hx1⟩;rcases hP with ⟨hnone,e,he,rfl⟩|⟨n,L,a,c,hsome,rfl,hr,hLb,hval,hlast,hlen⟩
 ·have hx2:=(hx1.new (some (.row [.bool false,.slice none 0 0] 149))).put (i:=H1.next) hx1.next (Zf _) (some (.row [.bool false,.slice none 0 0] 149))
  repeat' (first|refine qZa ?_|(refine qZf ?_;try simp only[z06,z01])|(refine qZb ?_;simp (config:=qZc) (disch:=first|omega|rfl) only[sB,Za,reduceCtorEq,z1z])|(refine z0q ?_;simp (config:=qZc) (disch:=first|omega|rfl) only[sB,dAlloc,Za,Zb,one,reduceCtorEq,zld,z9y])|(refine qZd ?_ ?_;simp (config:=qZc) (disch:=first|omega|rfl) only[sB,Za,reduceCtorEq];refine z02 ?_))
  exact z03 rfl (by simp only[sB,Za,reduceCtorEq];rfl) ⟨by unfold canonS;rw[hnone],hx2⟩
 ·have hn:n < big:=zlw hsome;have hx2:=((HX.refl hx1.wf).new (some (.row [.bool false,.slice none 0 0] 149))).put (i:=H1.next) (Ze _) (Zf _) (some (.row [.bool (negS (bl s) && decide (0 < L.length)),.slice a L.length c] 149))
  repeat' (first|refine qZa ?_|(refine qZe ?_;try simp only[z00])|(refine qZb ?_;simp (config:=qZc) (disch:=first|omega|rfl) only[sB,Za,Zb,reduceCtorEq,cutC,z9z,cl91,z15])|(refine z0q ?_;simp (config:=qZc) (disch:=first|omega|rfl) only[sB,dAlloc,Za,Zb,one,reduceCtorEq,zld,z9y])|(refine qZm ?_ ?_;simp (config:=qZc) (disch:=first|omega|rfl) only[sB,Za,reduceCtorEq];refine z02 ?_))
  refine(zsc hx2.wf (hr.keep hx2 hx1.wf) hLb hlen hval hn).mono ?_;rintro v H2 ⟨⟨t,rfl,ht⟩,hx3⟩;have htx:textD (negS (bl s) && decide (0 < L.length)) n=textD (negS (bl s)) n:=by
   by_cases h0:0 < L.length
   ·simp [h0]
   ·have:L=[]:=List.length_eq_zero_iff.1 (by omega);subst this;have:n=0:=by rw[<-hval];rfl
    subst this;rfl
  rw[htx] at ht;have heq:(t.data.toList == s.data.toList)=canonS s:=by
   rw[zp1,ht];unfold canonS;rw[hsome]
  repeat' (first|refine qZa ?_|(refine qZf ?_)|(refine qZb ?_;simp (config:=qZc) (disch:=first|omega|rfl) only[sB,Za,reduceCtorEq,z0l,z2t,heq])|(refine z0q ?_;simp (config:=qZc) (disch:=first|omega|rfl) only[sB,Za,reduceCtorEq]))
  exact z03 rfl (by simp only[sG,Za,reduceCtorEq]) ⟨rfl,(hx1.trans hx2).trans hx3⟩
def utfS (s:ByteArray):Bool:=Lib.validD s.data.toList
def fltS (n:Int):Bool:=!(fnB n || fiB n || n == 9223372036854775808)
def nodeS:Tm->Int:=nodeE utfS canonS fltS
theorem zfc:TellsS okT 80 utfS:=fun _ _ hs hw=>zud hw hs
theorem zlx:TellsN okT 82 83 84 fnB fiB:=fun n H hn hw=>⟨zoz (fun _ _=>rfl) (by decide) n H hw,zp0 (fun f _ _ h=>by rcases h with rfl|rfl<;>rfl) (by decide) (by decide) n H hw⟩
theorem zj8:TellsT okT 71 nodeS:=fun t cs H r hw=>zsl (fun _ _=>rfl) (by decide) (fun _ _=>rfl) (by decide) zfc zj7 zlx r hw
theorem z1j:TellsT okT 33 fun t=>cnt t 0:=fun t cs H r hw=>zot (fun f _ _ h=>by rcases h with rfl|rfl<;>rfl) (by decide) (by decide) r hw
def checkS:Tm->Int:=checkE nodeS
theorem z25:TellsT okT 18 checkS:=zow z1j (zdk zj8 (fun _ _=>rfl) (by decide)) (fun _ _=>rfl) (by decide)
end Go.Proofs.hq
end

section
namespace Go.Proofs.hq
open Go Go.RowKit Go.Hb
def orZ (a b:Int):Int:=if a=0 then b else a
theorem zfd (x y:Int):orZ (-x) (-y)=-(orZ x y):=by
 unfold orZ;by_cases h:x=0
 ·subst h;simp
 ·rw[if_neg h,if_neg (by omega)]
theorem z7x {x y:Int}:orZ x y=0↔x=0/\y=0:=by
 unfold orZ;by_cases h:x=0
 ·rw[if_pos h];simp [h]
 ·rw[if_neg h];simp [h]
theorem z57 {a b:ByteArray}(h:a.toList=b.toList):a=b:=by
 rw[z1v,z1v] at h;obtain⟨⟨a⟩⟩:=a;obtain⟨⟨b⟩⟩:=b;simp at h;rw[h]
def Fine (t:Tm):Prop:=allE nodeS t=0
theorem zh9 {E:Tm->Int}:∀{l:List Tm},allL E l=0->∀u∈l,allE E u=0
 |[],_,u,hu=>by simp at hu
 |t :: l,h,u,hu=>by
  rw[allL] at h;split at h
  ·rename_i h0;rcases List.mem_cons.1 hu with rfl|hu
   ·exact h0
   ·exact zh9 h u hu
  ·rename_i h0;exact absurd h h0
theorem Fine.node {t:Tm}(h:Fine t):nodeS t=0:=by
 unfold Fine at h;rw[z5w] at h;split at h
 ·assumption
 ·rename_i h0;exact absurd h h0
theorem Fine.args {t:Tm}(h:Fine t):∀u∈t.args,Fine u:=by
 have h1:=h.node;unfold Fine at h;rw[z5w,if_pos h1] at h;exact zh9 h
theorem z2d {t:Tm}(h:nodeS t=0):1<=t.kind/\t.kind<=5/\blankB t=true/\0<=t.var/\(t.kind=5->1<=t.args.length/\t.args.length<=64)/\(t.kind=3->canonS t.num=true)/\(t.kind=4->fltS t.bits=true)/\utfS t.name=true/\t.name.size<=1000:=by
 unfold nodeS nodeE at h;split at h
 ·omega
 split at h
 ·omega
 split at h
 ·omega
 split at h
 ·omega
 split at h
 ·omega
 split at h
 ·omega
 split at h
 ·omega
 split at h
 ·omega
 rename_i h1 h2 h3 h4 h5 h6 h7 h8;refine⟨by omega,by omega,by simpa using h2,by omega,fun h=>?_,fun h=>?_,fun h=>?_,by simpa using h5,by omega⟩
 ·have:=fun q=>h4 ⟨h,q⟩;omega
 ·cases hh:canonS t.num with
  |true=>rfl
  |false=>exact absurd ⟨h,hh⟩ h7
 ·cases hh:fltS t.bits with
  |true=>rfl
  |false=>exact absurd ⟨h,hh⟩ h8
theorem zqu {s:ByteArray}(h:isE s=true):s=Zd:=by
 unfold isE at h;have h1:s.toList=[]:=by simpa using h
 apply z57;rw[h1];exact z1w.symm
theorem z0h {t u:Tm}(h:u∈t.args):SizeOf.sizeOf u < SizeOf.sizeOf t:=by
 obtain⟨k,s,w,b,v,l⟩:=t;exact zh6 h
theorem z2a {t:Tm}(h:blankB t=true):(t.kind≠2->t.kind≠5->t.name=Zd)/\(t.kind≠3->t.num=Zd)/\(t.kind≠4->t.bits=0)/\(t.kind≠1->t.var=0)/\(t.kind≠5->t.args=[]):=by
 unfold blankB at h;simp only[Zk,Bool.or_eq_true,beq_iff_eq] at h;obtain⟨⟨⟨⟨h1,h2⟩,h3⟩,h4⟩,h5⟩:=h;refine⟨fun a b=>?_,fun a=>?_,fun a=>?_,fun a=>?_,fun a=>?_⟩
 ·rcases h1 with (h|h)|h
  ·exact absurd h a
  ·exact absurd h b
  ·exact zqu h
 ·rcases h2 with h|h
  ·exact absurd h a
  ·exact zqu h
 ·rcases h3 with h|h
  ·exact absurd h a
  ·exact h
 ·rcases h4 with h|h
  ·exact absurd h a
  ·exact h
 ·rcases h5 with h|h
  ·exact absurd h a
  ·exact List.length_eq_zero_iff.1 (by omega)
theorem zly {t t':Tm}(h1:t.kind=t'.kind) (h2:t.name=t'.name) (h3:t.num=t'.num) (h4:t.bits=t'.bits) (h5:t.var=t'.var) (h6:t.args=t'.args):t=t':=by
 obtain⟨k,s,u,b,v,l⟩:=t;obtain⟨k',s',u',b',v',l'⟩:=t';simp only[Tm.kind,Tm.name,Tm.num,Tm.bits,Tm.var,Tm.args] at *;subst h1 h2 h3 h4 h5 h6;rfl
theorem z0k {t:Tm}:checkS t=0↔cnt t 0<=4000/\Fine t:=by
 unfold checkS checkE Fine;by_cases h:4000 < cnt t 0
 ·rw[if_pos h];constructor
  ·intro h;omega
  ·intro h;omega
 ·rw[if_neg h];constructor
  ·intro h';exact⟨by omega,h'⟩
  ·intro h';exact h'.2
end Go.Proofs.hq
end

section
namespace Go.Hb
open Go Go.RowKit
theorem z6o {cs vs:List Value}{o k:Nat}(h:o+vs.length<=cs.length):(splice cs o vs)[k]?=if o<=k/\k < o+vs.length then vs[k - o]? else cs[k]?:=by
 rw[z1p _ _ _ (by omega)];simp only[List.getElem?_append,ZJ,ZN,Zo,Zr]
 grind
theorem z2k {cs vs:List Value}{o s:Nat}(h:o+s<=cs.length) (hv:vs.length=s):((splice cs o vs).drop o).take s=vs:=by
 apply List.ext_getElem?;intro k;rw[ZJ,ZN,z6o (by omega)];by_cases hk:k < s
 ·rw[if_pos hk,if_pos (by omega),show o+k - o=k by omega]
 ·rw[if_neg hk,Zy (by omega)]
theorem z2b {cs vs:List Value}{o j s:Nat}(h:o+s<=cs.length) (hv:vs.length=s) (hd:j+s<=o\/o+s<=j):((splice cs o vs).drop j).take s=(cs.drop j).take s:=by
 apply List.ext_getElem?;intro k;rw[ZJ,ZN,z6o (by omega),ZJ,ZN];by_cases hk:k < s
 ·rw[if_pos hk,if_neg (by omega),if_pos hk]
 ·rw[if_neg hk,if_neg hk]
theorem mul6 {i j:Nat}(h:i < j):i*6+6<=j*6:=by omega
theorem HX.pt {A H:Heap}(h:HX A H) {i:Nat}{B0:Blk}(hi:A.next<=i) (hg:H.get i=some B0) (B:Option Blk):HX A (H.put i B):=h.put hi (h.wf i _ hg) B
theorem z0m {H:Heap}(hw:H.wf) (A B:Blk):∃H2,(H.new (some A)).put H.next (some B)=H2/\HX H H2/\H2.get H.next=some B/\H2.next=H.next+1/\H2.wf:=by
 have hx:=((HX.refl hw).new (some A)).put (i:=H.next) (Ze _) (Zf _) (some B);exact⟨_,rfl,hx,by rw[get_put,if_pos rfl],rfl,hx.wf⟩
end Go.Hb
namespace Go.Proofs.hq
open Go Go.RowKit Go.Hb
variable {ok:Ok}
set_option maxRecDepth 10000
attribute [local irreducible] LX LG EL STG SOP SGO SGD SAL SRD SEF SEG SLK SCK ES
theorem z58 {t:Tm}(h:Fine t):t.args.length<=64:=by
 have k:=z2d h.node;by_cases h5:t.kind=5
 ·exact(k.2.2.2.2.1 h5).2
 ·rw[(z2a k.2.2.1).2.2.2.2 h5];exact Zl _
abbrev zero6:List Value:=[.int .i64 0,.string Zd,.string Zd,.int .u64 0,.int .i64 0,.slice none 0 0]
set_option maxHeartbeats 4000000 in
theorem zlz {m:Nat}:∀{t:Tm}{cs:List Value}{H:Heap},SizeOf.sizeOf t < m->RepT H t cs->Fine t->H.wf ->
  EvF Tryz.prog okT 78 [.agg ⟨cs⟩] H fun v H'=>∃cs',v=.agg ⟨cs'⟩/\RepF H' 28 (Rg H.next H'.next) t cs'/\HX H H':=by
 induction m with
 |zero=>intro t cs H h;omega
 |succ m ih =>
 intro t cs H hsz r hf hw;have hbd:=r.bd;have hfew:=z58 hf;obtain⟨a,c,cells,rfl,-,-,-,-,-,rl⟩:=r.six;refine EvF.enter rfl Tryz.func78 (by decide) rfl ?_;(repeat refine qZa ?_);refine qZb ?_;simp (config:=qZc) (disch:=first|omega|rfl) only[sB,initTm,dBox,dAlloc,Value.cells,one,zr28];obtain⟨H2,e2,hx2,gp,gq,hn2,hw2⟩:=new2 hw (.row (six t a c) 28) (.row zero6 28);simp only[e2];have q1:=row6 gp;clear e2;have hmost:t.args.length<=most:=by unfold most;omega
 have ne1:(H.next+1=H.next)=False:=by simp
 have ne2:(H.next=H.next+1)=False:=by simp
 by_cases h0:t.args.length=0
 ·have h0':(t.args.length:Int)=0:=by omega
  have he:t.args=[]:=List.length_eq_zero_iff.1 h0
  repeat' (first|refine qZa ?_|(refine qZf ?_;try simp only[z06,z01])|(refine qZb ?_;simp (config:=qZc) (disch:=first|omega|rfl) only[sB,Za,Zb,one,reduceCtorEq,cutC,z0u,ld26,ln26,st26,ld28,st28,q1,gp,gq,z0l h0',ne1])|(refine qZd ?_ ?_;simp (config:=qZc) (disch:=first|omega|rfl) only[sB,Za,reduceCtorEq];refine z02 ?_))
  have hx3:=(hx2.pt (Ze _) gp (some (.row [.int .i64 t.kind,.string t.name,.string t.num,.int .u64 t.bits,.int .i64 t.var,.slice none 0 0] 28))).pt (i:=H.next+1) (Nat.le_succ _) (by rw[get_put,if_neg (by omega)];exact gq)
   (some (.row [.int .i64 t.kind,.string t.name,.string t.num,.int .u64 t.bits,.int .i64 t.var,.slice none 0 0] 28))
  refine z0a rfl (by simp only[sB,Za,reduceCtorEq];rfl) (by simp only[sB,Zb,cutC,ld28];rfl) ⟨_,rfl,⟨none,0,?_,hbd,?_⟩,hx3⟩
  ·simp only[six,h0]
  ·rw[he];exact .nil _
 ·have h0':(t.args.length:Int)≠0:=by omega
  have ne3:(H.next=H2.next)=False:=by simp;omega
  repeat' (first|refine qZa ?_|refine qZg ?_|(refine qZe ?_;try simp only[z00])|(refine qZb ?_;simp (config:=qZc) (disch:=first|omega|rfl) only[sB,Za,reduceCtorEq,cutC,z0u,ld26,ln26,q1,z0g h0',z5u mk26,ne3])|(refine qZm ?_ ?_;simp (config:=qZc) (disch:=first|omega|rfl) only[sB,Za,reduceCtorEq];refine z02 ?_))
  obtain⟨H3,e3,hx3,gr,hn3,hw3⟩:=new1 hw2 (.row (repL t.args.length zero6) 28);simp only[e3];clear e3;have gp3:=hx3.get hw2 gp;have gq3:=hx3.get hw2 gq;have hx23:=hx2.trans hx3;have hmax:=rl.max;rw[hn2] at gr hn3;refine qZk (fun k st=>∃tm H' i cells' Si ai ci,st=⟨tm,[],H'⟩/\k=t.args.length - i/\i<=t.args.length /\
   tm.get 1=some (.pointer (some ⟨H.next,0,none⟩))/\tm.get 2=some (.pointer (some ⟨H.next+1,0,none⟩))/\tm.get 3=some (.slice (some ⟨H.next+2,0,none⟩) t.args.length t.args.length) /\
   tm.get 17=some (.slice a t.args.length c)/\tm.get 18=some (.int .i64 t.args.length)/\tm.get 19=some (.int .i64 (i:Nat)) /\
   H'.get H.next=some (.row (six t a c) 28)/\H'.get (H.next+1)=some (.row zero6 28)/\H'.get (H.next+2)=some (.row cells' 28)/\cells'.length=t.args.length*6 /\
   FLs H' 28 (Rg (H.next+3) H'.next) (t.args.take i) cells' Si ai ci/\HX H H') ?_ t.args.length _ ?_
  ·rintro k st ⟨tm,H',i,cells',Si,ai,ci,rfl,rfl,hi,t1,t2,t3,t17,t18,t19,gp',gq',gr',hlen,hfl,hx'⟩;have q1:=row6 gp';by_cases hlt:i < t.args.length
   ·obtain⟨b,o,a1,c1,rfl,hld,hr1⟩:=rl.el hlt;have hld1:=hx'.load hw hld
    repeat' (first|refine qZa ?_|refine qZg ?_|(refine qZe ?_;try simp only[z00])|(refine qZb ?_;simp (config:=qZc) (disch:=first|omega|rfl) only[sB,dAlloc,Za,Zb,one,cutC,zr28,ld28,st28,ia26,cl78,t3,t17,t18,t19,decl hlt,hld1])|(refine qZd ?_ ?_;simp (config:=qZc) (disch:=first|omega|rfl) only[sB];refine z02 ?_))
    obtain⟨H4,e4,hx4,g4,hn4,hw4⟩:=z0m hx'.wf (.row zero6 28) (.row (six t.args[i] a1 c1) 28);simp only[e4];clear e4;have hs:=z22 (Zc hlt);refine(ih (t:=t.args[i]) (by omega) (hr1.mono (hx'.trans hx4) hw) (hf.args _ (Zu _)) hw4).mono ?_;rintro v H5 ⟨cs',rfl,⟨a2,c2,rfl,hb2,hf2⟩,hx5⟩;have hx45:=hx4.trans hx5;have gr5:=hx45.get hx'.wf gr';have gp5:=hx45.get hx'.wf gp';have gq5:=hx45.get hx'.wf gq';have hle:i*6+6<=cells'.length:=by rw[hlen];exact mul6 hlt
    have hln:=hx45.next;have hln2:=hx5.next;have hlt3:=hx'.wf _ _ gq';have hlt4:=hx'.wf _ _ gr'
    repeat' (first|(refine qZb ?_;simp (config:=qZc) (disch:=first|omega|rfl) only[sB,Za,t19,z0c])|(refine z0q ?_;simp (config:=qZc) (disch:=first|omega|rfl) only[sB,Zb,one,st28,gr5,hle]))
    have hx6:=(hx'.trans hx45).pt (i:=H.next+2) (by omega) gr5 (some (.row (Hb.splice cells' (i*6) (six t.args[i] a2 c2)) 28));have et:t.args.take (i+1)=t.args.take i++[t.args[i]]:=(List.take_append_getElem hlt).symm;have etl:(t.args.take i).length=i:=by rw[Zo];omega
    obtain⟨Si',ai',ci',hsn⟩:∃Si ai ci,FLs (H5.put (H.next+2) (some (.row (Hb.splice cells' (i*6) (six t.args[i] a2 c2)) 28))) 28 (Rg (H.next+3) H5.next) (t.args.take (i+1)) (Hb.splice cells' (i*6) (six t.args[i] a2 c2)) Si ai ci:=by
     rw[et];refine⟨_,_,_,hfl.snoc (S':=Rg (H.next+3) H5.next) (N:=Rg H4.next H5.next) (fun n hn hl=>?_) hx'.wf (hf2.heap (fun n hn hl=>?_) hx5.wf) hb2 (fun n hn hs=>?_) (fun n hn=>?_) (fun n hn=>?_) (fun j hj=>?_) ?_⟩
     ·have:=hn.1;rw[get_put,if_neg (by omega)];exact hx45.keep n hl
     ·have:=hn.1;rw[get_put,if_neg (by omega)]
     ·have:=hn.1;have:=hs.2;omega
     ·exact⟨hn.1,by have:=hn.2;omega⟩
     ·exact⟨by have:=hn.1;omega,hn.2⟩
     ·rw[etl] at hj;exact z2b hle rfl (.inl (mul6 hj))
     ·rw[etl];exact z2k hle rfl
    exact⟨t.args.length - (i+1),by omega,_,_,i+1,Hb.splice cells' (i*6) (six t.args[i] a2 c2),Si',ai',ci',rfl,rfl,by omega,(by simp only[sG,Za,t1]),(by simp only[sG,Za,t2]),(by simp only[sG,Za,t3]),(by simp only[sG,Za,t17]),(by simp only[sG,Za,t18]),(by simp only[sB,Za];rfl),
     by rw[get_put,if_neg (by omega)];exact gp5,by rw[get_put,if_neg (by omega)];exact gq5,by rw[get_put,if_pos rfl],by rw[z28 hle];exact hlen,hsn,hx6⟩
   ·repeat' (first|refine qZa ?_|(refine qZi ?_;try simp only[sB])|(refine qZf ?_)|(refine qZb ?_;simp (config:=qZc) (disch:=first|omega|rfl) only[sB,Za,Zb,one,cutC,z0u,st26,ld28,st28,t1,t2,t3,t18,t19,q1,gp',gq',decn hlt,ne1])|(refine qZm ?_ ?_;simp (config:=qZc) (disch:=first|omega|rfl) only[sB];refine z02 ?_))
    have hi':i=t.args.length:=by omega
    have hlt3:=hx'.wf _ _ gr';have hx7:=(hx'.pt (Ze _) gp' (some (.row (six t (some ⟨H.next+2,0,none⟩) t.args.length) 28))).pt (i:=H.next+1) (Nat.le_succ _) (by rw[get_put,if_neg (by omega)];exact gq')
     (some (.row (six t (some ⟨H.next+2,0,none⟩) t.args.length) 28))
    refine z0a rfl (by simp only[sB,Za,t2];rfl) (by simp only[sB,Zb,cutC,ld28]) ⟨_,rfl,⟨some ⟨H.next+2,0,none⟩,t.args.length,rfl,hbd,?_⟩,hx7⟩;rw[hi',Zm (Ze _)] at hfl;refine(hfl.heap (fun n hn _=>?_) hx'.wf).row (Ze _) (Zj hfew (by simp [maxLen])) (cells:=cells') ?_ (by omega) ⟨by omega,hlt3⟩ (fun h=>?_) (fun n hn=>⟨by have:=hn.1;omega,hn.2⟩)
    ·have:=hn.1;rw[get_put,if_neg (by omega),get_put,if_neg (by omega)]
    ·rw[get_put,if_neg (by omega),get_put,if_neg (by omega)];exact gr'
    ·have:=h.1;omega
  ·refine⟨_,_,0,repL t.args.length zero6,fun _ _=>False,fun _=>none,fun _=>0,rfl,rfl,by omega,(by simp only[sG,Za,reduceCtorEq]),(by simp only[sG,Za,reduceCtorEq]),by rw[hn2];first|(simp only[sG,Za,reduceCtorEq];rfl)|simp only[sG,Za,reduceCtorEq],(by simp only[sG,Za,reduceCtorEq]),(by simp only[sG,Za,reduceCtorEq]),(by simp only[sB,Za,reduceCtorEq];rfl),gp3,gq3,gr,by rw[z48];rfl,FLs.nil,hx23⟩
end Go.Proofs.hq
end

section
namespace Go.Hb
open Go Go.RowKit
theorem six_ones {t:Tm}{a:Option Addr}{c:Nat}:(six t a c).all one=true:=rfl
theorem z5x {cells:List Value}:∀n,n*6<=cells.length->(∀i,i < n->((cells.drop (i*6)).take 6).all one=true)->(cells.take (n*6)).all one=true
 |0,_,_=>by simp
 |n+1,h,hc=>by
  rw[Nat.succ_mul,List.take_add,List.all_append,z5x n (by omega) fun i hi=>hc i (by omega),hc n (by omega)];rfl
theorem zj9 {cells:List Value}{i n:Nat}(h:i < n) (vs:List Value) (hn:n*6<=cells.length):((cells.take (n*6)++vs).drop (i*6)).take 6=(cells.drop (i*6)).take 6:=by
 have h1:(cells.take (n*6)).length=n*6:=by rw[Zo];omega
 rw[List.drop_append_of_le_length (by omega),List.take_append_of_le_length (by rw[List.length_drop];omega),List.drop_take,List.take_take];congr 1;omega
theorem FL.push {P:Program}{T t:TypeId}(hp:apOk P t T 6) {H:Heap}{S N S2:Nat->Prop}{l:List Tm}{u:Tm}{a a':Option Addr}{c c' c1:Nat}{ad:Addr}(h:FL H T S l a c) (hw:H.wf)
  (hl:H.load ad (1*6)=some (six u a' c')) (hu:FL H T N u.args a' c') (hb:Bd u) (hN:∀n,N n->¬S n) (hS:∀n,S n->n < H.next) (hNl:∀n,N n->n < H.next) (hm:l.length+1<=most) (h2:∀n,S n\/N n\/n=H.next->S2 n) :
  ∃H2,dAp P #[t,t] (.slice a l.length c) (.slice (some ad) 1 c1) H=some (.val (.slice (some ⟨H.next,0,none⟩) (l.length+1) (l.length+1)) H2)/\FL H2 T S2 (l++[u]) (some ⟨H.next,0,none⟩) (l.length+1)/\HK S H H2/\H2.next=H.next+1:=by
 have hmax:l.length+1<=maxLen:=Zj hm (by simp [most,maxLen]);cases h with
 |nil =>
  have hx:=(HX.refl hw).new (some (.row (six u a' c') T));refine⟨_,z47 hp (by omega) hm hl six_ones,?_,hx.hk _,rfl⟩;refine .row S2 [u] H.next 1 (six u a' c') (fun _=>N) (fun _=>a') (fun _=>c') (Ze _) hmax z0n (Ze _) ?_ ?_ (h2 _ (.inr (.inr rfl))) ?_ ?_ ?_ ?_
  ·intro i v hv
   match i,hv with
   |0,hv=>cases hv;rfl
  ·intro i v hv
   match i,hv with
   |0,hv=>cases hv;exact hb
  ·intro i _ hn;have:=hNl _ hn;omega
  ·intro i n _ hn;exact h2 n (.inr (.inl hn))
  ·intro i j n hi hj _ _;simp at hi hj;omega
  ·intro i v hv
   match i,hv with
   |0,hv=>cases hv;exact hu.keep hx hw
 |row _ _ b c cells Si ai ci h1 h2' h3 h4 h5 h6 h7 h8 h9 h10 h11 =>
  have hcells:(cells.take (l.length*6)).all one=true:=z5x _ h4 fun i hi=>by rw[h5 i l[i] (Zc hi)];exact six_ones
  have hbn:b < H.next:=hw _ _ h3;have hk:HK S H ((H.put b none).new (some (.row (cells.take (l.length*6)++six u a' c') T))):=((HK.refl hw).put (.inl h7) hbn none).new _;have hkeep:∀n,n < H.next->n≠b->((H.put b none).new (some (.row (cells.take (l.length*6)++six u a' c') T))).get n=H.get n:=fun n hn hne=>by
   rw[z1k (by rw[z07];exact hn),z2r hne]
  refine⟨_,z3k hp (by omega) hm hl six_ones h3 h4 hcells,?_,hk,rfl⟩;have hfs:FLs H T (fun n=>∃i,i < l.length/\Si i n) l cells Si ai ci:=⟨h5,h6,fun i n hi hn=>⟨i,hi,hn⟩,h10,h11⟩
  have hSb:¬ ∃i,i < l.length/\Si i b:=fun ⟨i,hi,hn⟩=>h8 i hi hn
  have hsub:∀n,(∃i,i < l.length/\Si i n)->S n:=fun n ⟨i,hi,hn⟩=>h9 i n hi hn
  have hlen:(cells.take (l.length*6)).length=l.length*6:=by rw[Zo];omega
  have hs:=hfs.snoc (H':=(H.put b none).new (some (.row (cells.take (l.length*6)++six u a' c') T))) (S':=fun n=>(∃i,i < l.length/\Si i n)\/N n) (N:=N) (cells':=cells.take (l.length*6)++six u a' c') (t:=u) (a:=a') (c:=c')
   (fun n hn hl=>hkeep n hl (fun e=>hSb (e ▸ hn))) hw (hu.heap (fun n hn hl=>hkeep n hl fun e=>hN n hn (e ▸ h7)) hw) hb (fun n hn hq=>hN n hn (hsub n hq)) (fun n hn=>.inl hn) (fun n hn=>.inr hn)
   (fun i hi=>zj9 hi _ h4) (by
    rw[List.drop_append_of_le_length (by omega),List.drop_eq_nil_of_le (by omega)];rfl)
  refine hs.row (S':=S2) (by simp) hmax z0n (by simp;omega) (h2 _ (.inr (.inr rfl))) (fun hq=>?_) (fun n hn=>?_)
  ·rcases hq with hq|hq
   ·have:=hS _ (hsub _ hq);simp at this
   ·have:=hNl _ hq;simp at this
  ·rcases hn with hn|hn
   ·exact h2 n (.inl (hsub n hn))
   ·exact h2 n (.inr (.inl hn))
end Go.Hb
namespace Go.Proofs.hq
open Go Go.RowKit Go.Hb
variable {ok:Ok}
set_option maxRecDepth 10000
attribute [local irreducible] LX LG EL STG SOP SGO SGD SAL SRD SEF SEG SLK SCK ES
inductive Few (n:Nat):Tm->Prop
 |mk {t:Tm}:t.args.length<=n->(∀u∈t.args,Few n u)->Few n t
theorem Few.len {n:Nat}{t:Tm}(h:Few n t):t.args.length<=n:=by cases h;assumption
theorem Few.args {n:Nat}{t:Tm}(h:Few n t):∀u∈t.args,Few n u:=by cases h;assumption
theorem Few.up {n m:Nat}{t:Tm}(f:Few n t) (h:n<=m):Few m t:=by
 induction f with
 |mk h1 _ ih=>exact .mk (Zj h1 h) ih
theorem Fine.few:∀(m:Nat) {t:Tm},SizeOf.sizeOf t < m->Fine t->Few 64 t
 |0,_,h,_=>by omega
 |m+1,t,h,f=>.mk (z58 f) fun u hu=>Fine.few m (by have:=z0h hu;omega) (f.args u hu)
end Go.Proofs.hq
end

section
namespace Go.Hb
open Go Go.RowKit
theorem FL.inv {H:Heap}{T:TypeId}{S:Nat->Prop}{l:List Tm}{a:Option Addr}{c:Nat}(h:FL H T S l a c):(l=[]/\a=none/\c=0)\/∃b cells Si ai ci,a=some ⟨b,0,none⟩/\l.length<=c/\c<=maxLen /\
  H.get b=some (.row cells T)/\l.length*6<=cells.length/\S b/\(∀i,i < l.length->¬Si i b)/\FLs H T S l cells Si ai ci:=by
 cases h with
 |nil=>exact .inl ⟨rfl,rfl,rfl⟩
 |row _ _ b c cells Si ai ci h1 h2 h3 h4 h5 h6 h7 h8 h9 h10 h11=>exact .inr ⟨b,cells,Si,ai,ci,rfl,h1,h2,h3,h4,h7,h8,⟨h5,h6,h9,h10,h11⟩⟩
end Go.Hb
namespace Go.Proofs.hq
open Go Go.RowKit Go.Hb
variable {ok:Ok}
set_option maxRecDepth 10000
attribute [local irreducible] LX LG EL STG SOP SGO SGD SAL SRD SEF SEG SLK SCK ES
abbrev mark6 (k:Int) (s:ByteArray):List Value:=[.int .i64 k,.string s,.string Zd,.int .u64 0,.int .i64 0,.slice none 0 0]
end Go.Proofs.hq
end

section
namespace Go.Proofs.hq
open Go Go.RowKit Go.Hb
variable {ok:Ok}
set_option maxRecDepth 10000
attribute [local irreducible] LX LG EL STG SOP SGO SGD SAL SRD SEF SEG SLK SCK ES
noncomputable def eqT (t t':Tm):Bool:=@decide (t=t') (Classical.propDecidable _)
theorem z7v {t t':Tm}(h:t=t'):eqT t t'=true:=by unfold eqT;exact @decide_eq_true _ (Classical.propDecidable _) h
theorem z2e {t t':Tm}(h:t≠t'):eqT t t'=false:=by unfold eqT;exact @decide_eq_false _ (Classical.propDecidable _) h
theorem z77 {t t':Tm}:eqT t t'=true↔t=t':=by unfold eqT;exact @decide_eq_true_iff _ (Classical.propDecidable _)
theorem z1a {a b:ByteArray}(h:a=b):(a.toList == b.toList)=true:=by rw[h];exact beq_self_eq_true _
theorem z5m {a b:ByteArray}(h:a≠b):(a.toList == b.toList)=false:=by
 rw[beq_eq_false_iff_ne];exact fun q=>h (z57 q)
set_option maxHeartbeats 4000000 in
theorem zsn {m:Nat}:∀{t t':Tm}{cs cs':List Value}{H:Heap},SizeOf.sizeOf t < m->RepT H t cs->RepT H t' cs'->H.wf ->
  EvF Tryz.prog okT 21 [.agg ⟨cs⟩,.agg ⟨cs'⟩] H fun v H'=>v=.bool (eqT t t')/\HX H H':=by
 induction m with
 |zero=>intro t t' cs cs' H h;omega
 |succ m ih =>
 intro t t' cs cs' H hsz r r' hw;obtain⟨a,c,cells,rfl,b1,b2,b3,b4,b5,rl⟩:=r.six;obtain⟨a',c',cells',rfl,b1',b2',b3',b4',b5',rl'⟩:=r'.six;refine EvF.enter rfl Tryz.func21 (by decide) rfl ?_;(repeat refine qZa ?_);refine qZb ?_;simp (config:=qZc) (disch:=first|omega|rfl) only[sB,initTm,dBox,Za,Value.cells,one,reduceCtorEq];obtain⟨H2,e2,hx2,gp,gq,hnx,hw2⟩:=new2 hw (.row (six t a c) 28) (.row (six t' a' c') 28);simp only[e2];have q1:=row6 gp;have q2:=row6 gq;clear e2;by_cases k1:t.kind=t'.kind;rotate_left
 ·repeat' (first|refine qZa ?_|(refine qZf ?_;try simp only[z06,z01])|(refine qZb ?_;simp (config:=qZc) (disch:=first|omega|rfl) only[sB,Za,reduceCtorEq,z0i,ld3,z1z k1,q1,q2])|(refine qZd ?_ ?_;simp (config:=qZc) (disch:=first|omega|rfl) only[sB,Za,reduceCtorEq];refine z02 ?_))
  exact z03 rfl (by simp only[sB,Za,reduceCtorEq];rfl) ⟨by rw[z2e (fun h=>k1 (by rw[h]))],hx2⟩
 by_cases k2:t.name=t'.name;rotate_left
 ·repeat' (first|refine qZa ?_|(refine qZf ?_;try simp only[z06,z01])|(refine qZb ?_;simp (config:=qZc) (disch:=first|omega|rfl) only[sB,Za,reduceCtorEq,z0i,ld3,z11,ld9,z15 k1,q1,q2,z10,z5m k2,ZM,Zg])|(refine qZd ?_ ?_;simp (config:=qZc) (disch:=first|omega|rfl) only[sB,Za,reduceCtorEq];refine z02 ?_))
  exact z03 rfl (by simp only[sB,Za,reduceCtorEq];rfl) ⟨by rw[z2e (fun h=>k2 (by rw[h]))],hx2⟩
 by_cases k3:t.num=t'.num;rotate_left
 ·repeat' (first|refine qZa ?_|(refine qZf ?_;try simp only[z06,z01])|(refine qZb ?_;simp (config:=qZc) (disch:=first|omega|rfl) only[sB,Za,reduceCtorEq,z0i,ld3,z11,ld9,z3d,z15 k1,q1,q2,z10,z1a k2,z5m k3,ZM,Zv,Zg])|(refine qZd ?_ ?_;simp (config:=qZc) (disch:=first|omega|rfl) only[sB,Za,reduceCtorEq];refine z02 ?_))
  exact z03 rfl (by simp only[sB,Za,reduceCtorEq];rfl) ⟨by rw[z2e (fun h=>k3 (by rw[h]))],hx2⟩
 by_cases k4:t.bits=t'.bits;rotate_left
 ·repeat' (first|refine qZa ?_|(refine qZf ?_;try simp only[z06,z01])|(refine qZb ?_;simp (config:=qZc) (disch:=first|omega|rfl) only[sB,Za,reduceCtorEq,z0i,ld3,z11,ld9,z3d,z4n,ld25,z15 k1,q1,q2,z10,z1a k2,z1a k3,z1z k4,Zv,Zg])|(refine qZd ?_ ?_;simp (config:=qZc) (disch:=first|omega|rfl) only[sB,Za,reduceCtorEq];refine z02 ?_))
  exact z03 rfl (by simp only[sB,Za,reduceCtorEq];rfl) ⟨by rw[z2e (fun h=>k4 (by rw[h]))],hx2⟩
 by_cases k5:t.var=t'.var;rotate_left
 ·repeat' (first|refine qZa ?_|(refine qZf ?_;try simp only[z06,z01])|(refine qZb ?_;simp (config:=qZc) (disch:=first|omega|rfl) only[sB,Za,reduceCtorEq,z0i,ld3,z11,ld9,z3d,z4n,ld25,z3e,z15 k1,q1,q2,z10,z1a k2,z1a k3,z15 k4,z1z k5,Zv,Zg])|(refine qZd ?_ ?_;simp (config:=qZc) (disch:=first|omega|rfl) only[sB,Za,reduceCtorEq];refine z02 ?_))
  exact z03 rfl (by simp only[sB,Za,reduceCtorEq];rfl) ⟨by rw[z2e (fun h=>k5 (by rw[h]))],hx2⟩
 by_cases k6:(t.args.length:Int)=t'.args.length;rotate_left
 ·repeat' (first|refine qZa ?_|(refine qZf ?_;try simp only[z06,z01])|(refine qZb ?_;simp (config:=qZc) (disch:=first|omega|rfl) only[sB,Za,reduceCtorEq,z0i,ld3,z11,ld9,z3d,z4n,ld25,z3e,z0u,ld26,ln26,z15 k1,q1,q2,z10,z1a k2,z1a k3,z15 k4,z15 k5,z1z k6,Zv,Zg])|(refine qZd ?_ ?_;simp (config:=qZc) (disch:=first|omega|rfl) only[sB,Za,reduceCtorEq];refine z02 ?_))
  exact z03 rfl (by simp only[sB,Za,reduceCtorEq];rfl) ⟨by rw[z2e (fun h=>k6 (by rw[h]))],hx2⟩
 repeat' (first|refine qZa ?_|refine qZg ?_|(refine qZe ?_;try simp only[z00])|(refine qZb ?_;simp (config:=qZc) (disch:=first|omega|rfl) only[sB,Za,reduceCtorEq,z0i,ld3,z11,ld9,z3d,z4n,ld25,z3e,z0u,ld26,ln26,z15 k1,q1,q2,z10,z1a k2,z1a k3,z15 k4,z15 k5,z15 k6,Zv,Zg])|(refine qZm ?_ ?_;simp (config:=qZc) (disch:=first|omega|rfl) only[sB,Za,reduceCtorEq];refine z02 ?_))
 have hlen:t.args.length=t'.args.length:=by omega
 have hm:=rl.max;refine qZk (fun k st=>∃tm H' i,st=⟨tm,[],H'⟩/\k=t.args.length - i/\i<=t.args.length/\(∀j,j < i->t.args[j]?=t'.args[j]?) /\
   tm.get 2=some (.pointer (some ⟨H.next,0,none⟩))/\tm.get 3=some (.pointer (some ⟨H.next+1,0,none⟩))/\tm.get 5=some (.int .i64 (i:Nat)) /\
   H'.get H.next=some (.row (six t a c) 28)/\H'.get (H.next+1)=some (.row (six t' a' c') 28)/\HX H H') ?_ t.args.length _ ?_
 ·rintro k st ⟨tm,H',i,rfl,rfl,hi,hc,t2,t3,t5,gp',gq',hx'⟩;have q1:=row6 gp';have q2:=row6 gq';by_cases hlt:i < t.args.length
  ·have hlt':i < t'.args.length:=by omega
   obtain⟨b,o,a1,c1,rfl,hld,hr1⟩:=rl.el hlt;obtain⟨b',o',a2,c2,rfl,hld',hr2⟩:=rl'.el hlt';have hld1:=hx'.load hw hld;have hld2:=hx'.load hw hld'
   repeat' (first|refine qZa ?_|refine qZg ?_|(refine qZe ?_;try simp only[z00])|(refine qZb ?_;simp (config:=qZc) (disch:=first|omega|rfl) only[sB,Za,z0u,ld26,ln26,t2,t5,q1,decl hlt])|(refine qZj [([(0,0),(1,0),(2,0),(3,0),(4,0),(5,0),(6,0),(7,0),(8,0),(9,0)],some 10),([(11,1)],none)] ?_ ?_;kernel_rfl;simp (config:=qZc) (disch:=first|omega|rfl) only[sD,sB,Za,Zb,reduceCtorEq,z0u,ld26,ia26,ld28,cl21,t2,t3,t5,q1,q2,hld1,hld2,isAlloc,isRead])|(refine qZd ?_ ?_;simp (config:=qZc) (disch:=first|omega|rfl) only[sB,Za];refine z02 ?_))
   have hb:=hx'.bump 12;have hs:=z22 (Zc hlt);refine(ih (t:=t.args[i]) (t':=t'.args[i]) (by omega) (hr1.mono hb hw) (hr2.mono hb hw) hb.wf).mono ?_;rintro v H4 ⟨rfl,hx4⟩;have hx5:=hb.trans hx4;by_cases he:t.args[i]=t'.args[i]
   ·repeat' (first|refine qZa ?_|(refine qZe ?_;try simp only[sA])|(refine qZb ?_;simp (config:=qZc) (disch:=first|omega|rfl) only[sB,Za,Zv,t5,z0c])|(refine z0p ?_;simp (config:=qZc) (disch:=first|omega|rfl) only[sD,sB,Za,z7v he,isAlloc,isRead])|(refine qZm ?_ ?_;simp (config:=qZc) (disch:=first|omega|rfl) only[sB,Za];refine z02 ?_))
    refine⟨t.args.length - (i+1),by omega,_,_,i+1,rfl,rfl,by omega,fun j hj=>?_,(by simp only[sG,Za,t2]),(by simp only[sG,Za,t3]),(by simp only[sB,Za];rfl),hx4.get hb.wf gp',hx4.get hb.wf gq',hx5⟩;by_cases hji:j=i
    ·subst hji;rw[Zc hlt,Zc hlt',he]
    ·exact hc j (by omega)
   ·repeat' (first|refine qZa ?_|(refine qZf ?_;try simp only[z06,z01])|(refine qZb ?_;simp (config:=qZc) (disch:=first|omega|rfl) only[sB,Za,ZM])|(refine z0p ?_;simp (config:=qZc) (disch:=first|omega|rfl) only[sD,sB,Za,z2e he,isAlloc,isRead])|(refine qZd ?_ ?_;simp (config:=qZc) (disch:=first|omega|rfl) only[sB,Za];refine z02 ?_))
    refine z03 rfl (by simp only[sB,Za];rfl) ⟨?_,hx5⟩;rw[z2e];rintro rfl;exact he rfl
  ·repeat' (first|refine qZa ?_|(refine qZi ?_;try simp only[sB])|(refine qZf ?_)|(refine qZb ?_;simp (config:=qZc) (disch:=first|omega|rfl) only[sB,Za,z0u,ld26,ln26,t2,t5,q1,decn hlt])|(refine qZm ?_ ?_;simp (config:=qZc) (disch:=first|omega|rfl) only[sB,Za];refine z02 ?_))
   refine z03 rfl (by simp only[sB,Za];rfl) ⟨?_,hx'⟩;rw[z7v];refine zly k1 k2 k3 k4 k5 (List.ext_getElem? fun j=>?_);by_cases hj:j < i
   ·exact hc j hj
   ·rw[Zy (by omega),Zy (by omega)]
 ·exact⟨_,_,0,rfl,rfl,by omega,by omega,(by simp only[sG,Za,reduceCtorEq]),(by simp only[sG,Za,reduceCtorEq]),(by simp only[sB,Za,reduceCtorEq];rfl),gp,gq,hx2⟩
theorem zal {t t':Tm}{cs cs':List Value}{H:Heap}(r:RepT H t cs) (r':RepT H t' cs') (hw:H.wf) :
  EvF Tryz.prog okT 21 [.agg ⟨cs⟩,.agg ⟨cs'⟩] H fun v H'=>v=.bool (eqT t t')/\HX H H':=zsn (Zf _) r r' hw
end Go.Proofs.hq
end

section
namespace Go.Hb
open Go Go.RowKit
def ApV (S:Nat->Prop) (H0 H:Heap) (T:TypeId) (v:Value) (n:Nat):Prop :=
 (n=0/\v=.slice none 0 0)\/∃b cells c,v=.slice (some ⟨b,0,none⟩) n c/\H.get b=some (.row cells T)/\n*6<=cells.length/\(cells.take (n*6)).all one=true/\(S b\/H0.next<=b)
theorem ApV.push {P:Program}{T t:TypeId}(hp:apOk P t T 6) {S:Nat->Prop}{H0 H:Heap}{v:Value}{n c1:Nat}{ad:Addr}{cs:List Value}(h:ApV S H0 H T v n) (hk:HK S H0 H) (hl:H.load ad (1*6)=some cs) (hc:cs.all one=true) (hlc:cs.length=6) (hm:n+1<=most) :
  ∃H2 v2,dAp P #[t,t] v (.slice (some ad) 1 c1) H=some (.val v2 H2)/\ApV S H0 H2 T v2 (n+1)/\HK S H0 H2:=by
 rcases h with ⟨rfl,rfl⟩|⟨b,cells,c,rfl,hg,hn,ho,hb⟩
 ·refine⟨_,_,z47 hp (by omega) hm hl hc,.inr ⟨H.next,cs,1,rfl,z0n,by omega,?_,.inr hk.next⟩,hk.new _⟩;rw[Zm (by omega)];exact hc
 ·refine⟨_,_,z3k hp (by omega) hm hl hc hg hn ho,.inr ⟨H.next,_,_,rfl,z0n,?_,?_,.inr hk.next⟩,(hk.put hb (hk.wf _ _ hg) none).new _⟩
  ·simp;omega
  ·rw[Zm (by simp;omega),List.all_append,ho,hc];rfl
end Go.Hb
namespace Go.Proofs.hq
open Go Go.RowKit Go.Hb
variable {ok:Ok}
set_option maxRecDepth 10000
attribute [local irreducible] LX LG EL STG SOP SGO SGD SAL SRD SEF SEG SLK SCK ES
noncomputable def eqL (l l':List Tm):Bool:=@decide (l=l') (Classical.propDecidable _)
end Go.Proofs.hq
end

section
namespace Go.Hb
open Go Go.RowKit
section
variable {P:Program}{ok:Ok}{x:Ctx}
theorem EvR.go {l:Nat}{args:List Value}{H:Heap}{K:Value->Heap->Prop}{fn:FuncId}{tm:Tr Value}{ps:List Tmp}{aa bo:Code}{dd:Nat}(hg:H.get l=some (.loop .ready none fn tm ps aa bo dd)) (hl:args.length=ps.length)
  (h:EvC P ok ⟨fn,some l⟩ aa ⟨(ps.zip args).foldl (fun t p=>t.put p.1 (some p.2)) tm,[],H⟩ fun e st1=>e=.normal/\st1.H.get l=some (.loop .ready none fn tm ps aa bo dd) /\
   EvC P ok ⟨fn,some l⟩ bo ⟨st1.tm,st1.ds,st1.H.put l (some (.loop .busy none fn tm ps aa bo dd))⟩ fun e st2=>e=.normal/\st2.H.get l=some (.loop .busy none fn tm ps aa bo dd) /\
    K (.bool true) (st2.H.put l (some (.loop .ready none fn tm ps aa bo dd)))):EvR P ok l args H K:=by
 obtain⟨N,⟨e,st1⟩,h1,he,hg1,N2,⟨e2,st2⟩,h2,he2,hg2,hk⟩:=h;simp only at he he2;subst he he2;refine⟨max N N2+1,(.bool true,st2.H.put l (some (.loop .ready none fn tm ps aa bo dd))),fun n hn=>?_,hk⟩;obtain⟨m,rfl⟩:∃m,n=m+1:=⟨n - 1,by omega⟩
 have c1:=h1 m (by omega);have c2:=h2 m (by omega);have hb:Zs args.length ps.length=true:=by rw[Zt];exact hl
 simp only at hg1 hg2 c2;show dround P ok (m+1) l args H=_;rw[dround];simp only[hg,hb,if_true,c1,hg1,c2,dendRound,hg2]
theorem EvR.mono {l:Nat}{args:List Value}{H:Heap}{K L:Value->Heap->Prop}(h:EvR P ok l args H K) (k:∀v H',K v H'->L v H'):EvR P ok l args H L:=Upon.mono h fun _ hq=>k _ _ hq
end
end Go.Hb
end

section
namespace Go.Proofs.hq
open Go Go.RowKit Go.Hb
variable {ok:Ok}
set_option maxRecDepth 10000
attribute [local irreducible] LX LG EL STG SOP SGO SGD SAL SRD SEF SEG SLK SCK ES
def chkL:List Tm->Int
 |[]=>0
 |t :: l=>if checkS t=0 then chkL l else checkS t
theorem zdl {l:List Tm}{i:Nat}(h:i < l.length):chkL (l.drop i)=if checkS l[i]=0 then chkL (l.drop (i+1)) else checkS l[i]:=by
 rw[ZG h,chkL]
theorem z91:∀{l:List Tm},chkL l=0->∀t∈l,checkS t=0
 |[],_,t,h=>by simp at h
 |u :: l,h,t,ht=>by
  rw[chkL] at h;split at h
  ·rename_i h0;rcases List.mem_cons.1 ht with rfl|ht
   ·exact h0
   ·exact z91 h t ht
  ·rename_i h0;exact absurd h h0
theorem zdm {l:List Tm}{a:Option Addr}{c:Nat}{cells:Nat->List Value}{H:Heap}(rl:RepL H l a c cells) (hw:H.wf) :
  EvF Tryz.prog okT 74 [.slice a l.length c] H fun v H'=>v=.int .i64 (chkL l)/\HX H H':=by
 have hm:=rl.max;refine EvF.enter rfl Tryz.func74 (by decide) rfl ?_
 repeat' (first|refine qZa ?_|refine qZg ?_|(refine qZb ?_;simp (config:=qZc) (disch:=first|omega|rfl) only[sB,initTm,Za,reduceCtorEq,ln26]))
 refine qZk (fun k st=>∃tm H' i,st=⟨tm,[],H'⟩/\k=l.length - i/\i<=l.length/\chkL (l.drop i)=chkL l/\tm.get 6=some (.slice a l.length c)/\tm.get 7=some (.int .i64 l.length)/\tm.get 8=some (.int .i64 (i:Nat))/\HX H H') ?_ l.length _ ?_
 ·rintro k st ⟨tm,H',i,rfl,rfl,hi,hc,g6,g7,g8,hx⟩;by_cases hlt:i < l.length
  ·obtain⟨b,o,a1,c1,rfl,hld,hr⟩:=rl.el hlt;have hld1:=hx.load hw hld
   repeat' (first|refine qZa ?_|refine qZg ?_|(refine qZe ?_;try simp only[z00])|(refine qZb ?_;simp (config:=qZc) (disch:=first|omega|rfl) only[sB,dAlloc,Za,Zb,one,cutC,ia26,ld28,zr28,st28,cl18,g6,g7,g8,decl hlt,hld1])|(refine qZd ?_ ?_;simp (config:=qZc) (disch:=first|omega|rfl) only[sB];refine z02 ?_))
   have hx2:=(hx.new (some (.row [.int .i64 0,.string Zd,.string Zd,.int .u64 0,.int .i64 0,.slice none 0 0] 28))).put (i:=H'.next) hx.next (Zf _) (some (.row (six l[i] a1 c1) 28));refine(z25 _ _ _ (hr.mono hx2 hw) hx2.wf).mono ?_;rintro v H3 ⟨rfl,hx3⟩;by_cases h0:checkS l[i]=0
   ·repeat' (first|refine qZa ?_|(refine qZe ?_;try simp only[sA])|(refine qZb ?_;simp (config:=qZc) (disch:=first|omega|rfl) only[sB,Za,g8,z15 h0,z0c])|(refine qZm ?_ ?_;simp (config:=qZc) (disch:=first|omega|rfl) only[sB,Za];refine z02 ?_))
    exact⟨l.length - (i+1),by omega,_,_,i+1,rfl,rfl,by omega,by rw[<-hc,zdl hlt,if_pos h0],(by simp only[sG,Za,g6]),(by simp only[sG,Za,g7]),(by simp only[sB,Za];rfl),hx2.trans hx3⟩
   ·repeat' (first|refine qZa ?_|(refine qZf ?_;try simp only[z06,z01])|(refine qZb ?_;simp (config:=qZc) (disch:=first|omega|rfl) only[sB,Za,z1z h0])|(refine qZd ?_ ?_;simp (config:=qZc) (disch:=first|omega|rfl) only[sB,Za];refine z02 ?_))
    exact z03 rfl (by simp only[sB,Za];rfl) ⟨by rw[<-hc,zdl hlt,if_neg h0],hx2.trans hx3⟩
  ·repeat' (first|refine qZa ?_|(refine qZi ?_;try simp only[sB])|(refine qZf ?_)|(refine qZb ?_;simp (config:=qZc) (disch:=first|omega|rfl) only[sA,g7,g8,decn hlt])|(refine qZm ?_ ?_;simp (config:=qZc) (disch:=first|omega|rfl) only[sB];refine z02 ?_))
   exact z03 rfl (by simp only[sB,Za];rfl) ⟨by rw[<-hc,List.drop_of_length_le (by omega),chkL],hx⟩
 ·exact⟨_,_,0,rfl,rfl,by omega,rfl,(by simp only[sG,Za,reduceCtorEq]),(by simp only[sG,Za,reduceCtorEq]),(by simp only[sB,Za,reduceCtorEq];rfl),HX.refl hw⟩
abbrev dot:ByteArray:=⟨#[46]⟩
def zeroT:Tm:=.mk 0 Zd Zd 0 0 []
def listed (l:List Tm) (e:Tm):Tm:=l.foldr (fun t u=>.mk 5 dot Zd 0 0 [t,u]) e
def totN:List Tm->Nat->Nat
 |[],n=>n
 |t :: l,n=>if 4000 < n then n else totN l (n+(1+cnt t 0))
def listE (l:List Tm) (e:Tm):Int:=if orZ (chkL l) (checkS e)=0 then (if 4000 < totN l (cnt e 0) then 24 else 0) else orZ (chkL l) (checkS e)
def listT (l:List Tm) (e:Tm):Tm:=if listE l e=0 then listed l e else zeroT
theorem zso (t:Tm):1<=cnt t 0:=by
 have mono:∀(l:List Tm),(∀t∈l,∀n,n<=cnt t n)->∀n,n<=cntL l n:=by
  intro l
  induction l with
  |nil=>intro _ n;rw[cntL];exact Ze _
  |cons t l ih =>
   intro h n;rw[cntL];split
   ·exact Ze _
   ·exact Zj (h t (by simp) n) (ih (fun u hu=>h u (Zn _ hu)) _)
 have key:∀(m:Nat) (t:Tm),SizeOf.sizeOf t < m->∀n,n+1<=cnt t n:=by
  intro m
  induction m with
  |zero=>intro t h;omega
  |succ m ih =>
   intro t h n;rw[z56];exact mono _ (fun u hu k=>by have:=ih u (by have:=z0h hu;omega) k;omega) _
 exact key _ t (Zf _) 0
theorem z4a (t:Tm):cnt t 0<=4001:=zh7 _ t (Zf _) 0 (by omega)
end Go.Proofs.hq
end

section
namespace Go.Hb
open Go Go.RowKit
theorem zvq {H:Heap}(hw:H.wf) (A B C:Blk):∃H2,((H.new (some A)).new (some B)).new (some C)=H2/\HX H H2/\H2.get H.next=some A/\H2.get (H.next+1)=some B/\H2.get (H.next+2)=some C/\H2.next=H.next+3/\H2.wf:=by
 obtain⟨H2,e2,hx,g1,g2,hn,hw2⟩:=new2 hw A B;obtain⟨H3,e3,hx3,g3,hn3,hw3⟩:=new1 hw2 C;rw[hn] at g3 hn3;exact⟨H3,by rw[e2,e3],hx.trans hx3,hx3.get hw2 g1,hx3.get hw2 g2,g3,hn3,hw3⟩
end Go.Hb
namespace Go.Proofs.hq
open Go Go.RowKit Go.Hb
variable {ok:Ok}
set_option maxRecDepth 10000
attribute [local irreducible] LX LG EL STG SOP SGO SGD SAL SRD SEF SEG SLK SCK ES
end Go.Proofs.hq
end

section
namespace Go.Proofs.hq
open Go Go.RowKit Go.Hb
def nd:Tm->Nat
 |.mk _ _ _ _ _ l=>1+ndL l
where ndL:List Tm->Nat
 |[]=>0
 |t :: l=>nd t+ndL l
theorem z1f (t:Tm):nd t=1+nd.ndL t.args:=by obtain⟨k,s,u,b,v,l⟩:=t;rw[nd];rfl
theorem z92:∀(l:List Tm),(∀t∈l,∀n,n<=cnt t n)->∀n,n<=cntL l n
 |[],_,n=>by rw[cntL];exact Ze _
 |t :: l,h,n=>by
  rw[cntL];split
  ·exact Ze _
  ·exact Zj (h t (by simp) n) (z92 l (fun u hu=>h u (Zn _ hu)) _)
theorem zha:∀(m:Nat) (t:Tm),SizeOf.sizeOf t < m->∀n,n+1<=cnt t n
 |0,_,h,_=>by omega
 |m+1,t,h,n=>by
  rw[z56];exact z92 _ (fun u hu k=>by have:=zha m u (by have:=z0h hu;omega) k;omega) _
theorem zm0:∀(l:List Tm),(∀t∈l,∀n,cnt t n<=4000->cnt t n=n+nd t)->∀n,cntL l n<=4000->cntL l n=n+nd.ndL l
 |[],_,n,_=>by rw[cntL,nd.ndL];rfl
 |t :: l,h,n,hn=>by
  rw[cntL] at hn ⊢;split at hn
  ·omega
  ·rename_i h4;rw[if_neg h4];have hm:cnt t n<=cntL l (cnt t n):=z92 l (fun u _ k=>by have:=zha _ u (Zf _) k;omega) _;rw[zm0 l (fun u hu=>h u (Zn _ hu)) _ hn,h t (by simp) n (by omega),nd.ndL];omega
theorem zam:∀(m:Nat) (t:Tm),SizeOf.sizeOf t < m->∀n,cnt t n<=4000->cnt t n=n+nd t
 |0,_,h,_,_=>by omega
 |m+1,t,h,n,hn=>by
  rw[z56] at hn ⊢;rw[zm0 _ (fun u hu k=>zam m u (by have:=z0h hu;omega) k) _ hn,z1f];omega
end Go.Proofs.hq
end

section
namespace Go.Hb
open Go Go.RowKit
section
variable {P:Program}{ok:Ok}{fn:Func}{tm:Tr Value}{H:Heap}{K:Value->Heap->Prop}
theorem z4p {a q p:Tmp}{t:TypeId}{ad:Addr}{v u y:Value}(h:fn.results.toList=[.tmp q,.cell a t,.tmp p]) (hu:tm.get q=some u) (hv:tm.get a=some (.pointer (some ad))) (hd:dLoad P t (.pointer (some ad)) H=some (.val v H)) (hy:tm.get p=some y)
  (hk:K (.tuple ⟨[u,v,y]⟩) H):Ex.leave P ok fn K .ret ⟨tm,[],H⟩:=by
 refine EvV.now (v:=.tuple ⟨[u,v,y]⟩) ?_ hk;have hl:dload P t ad H=some v:=by
  unfold dLoad at hd;simp only at hd;cases h1:dload P t ad H with
  |none=>rw[h1] at hd;simp at hd
  |some w=>rw[h1] at hd;simp at hd;rw[hd]
 simp [dres,h,dresL,dres1,hv,hl,hu,hy]
end
end Go.Hb
namespace Go.Proofs.hq
open Go Go.RowKit Go.Hb
variable {ok:Ok}
set_option maxRecDepth 10000
attribute [local irreducible] LX LG EL STG SOP SGO SGD SAL SRD SEF SEG SLK SCK ES
def elL:Tm->List Tm
 |.mk k s _ _ _ [x,y]=>if k=5/\s=dot then x :: elL y else []
 |_=>[]
def elR:Tm->Tm
 |.mk k s u b v [x,y]=>if k=5/\s=dot then elR y else .mk k s u b v [x,y]
 |t=>t
def isCons (t:Tm):Prop:=t.kind=5/\t.name=dot/\t.args.length=2
theorem z78 {t u:Tm}{a a':Option Addr}{c c':Nat}(h:six t a c=six u a' c'):t.kind=u.kind/\t.name=u.name/\t.num=u.num/\t.bits=u.bits/\t.var=u.var/\a=a'/\c=c':=by
 simp only[six,List.cons.injEq,Value.int.injEq,Value.string.injEq,Value.slice.injEq,true_and,and_true] at h;exact⟨h.1,h.2.1,h.2.2.1,h.2.2.2.1,h.2.2.2.2.1,h.2.2.2.2.2.1,h.2.2.2.2.2.2.2⟩
end Go.Proofs.hq
end

section
namespace Go.Hb
open Go Go.RowKit
def MapR (H:Heap) (r:Nat) (M:List (Int × Value)):Prop:=∃es clock,H.get r=some (.map es clock)/\es.map (fun e=>(e.key,e.val))=M.map fun p=>(Value.int .i64 p.1,p.2)
section
variable {P:Program}{H:Heap}
theorem z93:∀(es:List MapEntry) (M:List (Int × Value)) (n:Int) (i:Nat),es.map (fun e=>(e.key,e.val))=M.map (fun p=>(Value.int .i64 p.1,p.2)) ->
  Instr.findNow (.int .i64) (.int .i64 n) (keysOf es) i=some ((M.findIdx? fun p=>p.1 == n).map fun j=>(i+j,.bool false))
 |[],[],_,_,_=>rfl
 |[],_ :: _,_,_,h=>by simp at h
 |_ :: _,[],_,_,h=>by simp at h
 |e :: es,p :: M,n,i,h=>by
  simp only[ZA,List.cons.injEq,Prod.mk.injEq] at h;have hk:e.key=.int .i64 p.1:=h.1.1;have ih:=z93 es M n (i+1) h.2;unfold keysOf at ih ⊢;rw[ZA];unfold Instr.findNow;simp only[hk,Instr.sameNow,if_true,List.findIdx?_cons];by_cases he:p.1=n
  ·subst he;simp
  ·have h1:(n == p.1)=false:=by simp;omega
   have h2:(p.1 == n)=false:=by simp;omega
   simp only[h1,h2];rw[ih];cases M.findIdx? fun p=>p.1 == n with
   |none=>rfl
   |some j=>simp only[ZE,Option.some.injEq,Prod.mk.injEq,and_true,Zg,if_false];omega
theorem z6p {kt:TypeId}{emp:Bool}{es:List MapEntry}{M:List (Int × Value)}{n:Int}(hk:P.underlying kt=some (.int .i64)) (h:es.map (fun e=>(e.key,e.val))=M.map fun p=>(Value.int .i64 p.1,p.2)) :
  dfind P emp kt (.int .i64 n) es=some (M.findIdx? fun p=>p.1 == n):=by
 have hu:pureRun P (underlying kt)=some (.int .i64):=z0s hk;have h1:pureRun P (Instr.checkKey emp 10000 kt (.int .i64 n))=some ():=by
  unfold Instr.checkKey;rw[z0b,hu,ZB];rfl
 have h2:pureRun P (Instr.findKey kt (.int .i64 n) (keysOf es))=some ((M.findIdx? fun p=>p.1 == n).map fun j=>(j,.bool false)):=by
  unfold Instr.findKey;rw[z0b,hu,ZB,z93 es M n 0 h];simp only[ZP];rfl
 unfold dfind;rw[h1,h2];simp only[flat];cases M.findIdx? fun p=>p.1 == n<;>rfl
def mGet (M:List (Int × Value)) (n:Int):Option Value:=(M.find? fun p=>p.1 == n).map (·.2)
theorem z7y {M:List (Int × Value)}{n:Int}:(M.findIdx? fun p=>p.1 == n)=none/\mGet M n=none\/∃i v,(M.findIdx? fun p=>p.1 == n)=some i/\M[i]?=some (n,v)/\mGet M n=some v:=by
 unfold mGet
 induction M with
 |nil=>left;exact⟨rfl,rfl⟩
 |cons p M ih =>
  by_cases hp:p.1=n
  ·right;have hb:(p.1 == n)=true:=by simp [hp]
   refine⟨0,p.2,by simp [List.findIdx?_cons,hb],by rw[<-hp];rfl,by simp [List.find?_cons,hb]⟩
  ·have hb:(p.1 == n)=false:=by simp [hp]
   rcases ih with ⟨h1,h2⟩|⟨i,v,h1,h2,h3⟩
   ·left;exact⟨by simp [List.findIdx?_cons,hb];simpa using h1,by simpa [List.find?_cons,hb] using h2⟩
   ·right;refine⟨i+1,v,by simp [List.findIdx?_cons,hb,h1],by simpa using h2,by simpa [List.find?_cons,hb] using h3⟩
def dLk (P:Program) (t:TypeId) (m k:Value) (ok:Bool) (H:Heap):Option Dr:=dlookup P t m k ok H
def dUp (P:Program) (t:TypeId) (m k v:Value) (H:Heap):Option Dr:=dupdate P t m k v H
def mpOk (P:Program) (t kt et:TypeId) (z:Value):Prop:=P.underlying t=some (.map kt et)/\P.underlying kt=some (.int .i64)/\pureRun P (zeroValue et)=some z/\flat z=true
theorem z1n {d:Option Tmp}{t:TypeId}{m k:Operand}{ok:Bool}{ty:TypeId}{pos:String}{af:Array Edge}{g:Option (Nat × Bool)}{ρ:Operand->Value}:dop P ⟨d,.lookup t m k ok,ty,pos,af,g⟩ ρ H=dLk P t (ρ m) (ρ k) ok H:=_root_.id rfl
theorem z2y {d:Option Tmp}{t:TypeId}{m k v:Operand}{ty:TypeId}{pos:String}{af:Array Edge}{g:Option (Nat × Bool)}{ρ:Operand->Value}:dop P ⟨d,.mapUpdate t m k v,ty,pos,af,g⟩ ρ H=dUp P t (ρ m) (ρ k) (ρ v) H:=_root_.id rfl
theorem z4b {d:Option Tmp}{t:TypeId}{ty:TypeId}{pos:String}{af:Array Edge}{g:Option (Nat × Bool)}{ρ:Operand->Value}:dop P ⟨d,.makeMap t none,ty,pos,af,g⟩ ρ H=some (.val (.map (some H.next)) (H.new (some (.map [] 0)))):=_root_.id rfl
theorem MapR.new:MapR (H.new (some (.map [] 0))) H.next []:=⟨[],0,by rw[Heap.get_new,if_pos rfl],rfl⟩
theorem MapR.heap {H':Heap}{r:Nat}{M:List (Int × Value)}(h:MapR H r M) (hk:H'.get r=H.get r):MapR H' r M:=by
 obtain⟨es,clock,hg,he⟩:=h;exact⟨es,clock,hk.trans hg,he⟩
theorem MapR.lt {r:Nat}{M:List (Int × Value)}(h:MapR H r M) (hw:H.wf):r < H.next:=by obtain⟨es,clock,hg,he⟩:=h;exact hw _ _ hg
theorem z59 {t kt et:TypeId}{z v:Value}{r:Nat}{M:List (Int × Value)}{n:Int}{ok:Bool}(h:mpOk P t kt et z) (hm:MapR H r M) (hv:mGet M n=some v) :
  dLk P t (.map (some r)) (.int .i64 n) ok H=some (.val (if ok then .tuple #[v,.bool true] else v) H):=by
 obtain⟨h1,h2,h3,h4⟩:=h;obtain⟨es,clock,hg,he⟩:=hm;rcases z7y (M:=M) (n:=n) with ⟨_,h5⟩|⟨i,u,h5,h6,h7⟩
 ·rw[h5] at hv;cases hv
 ·rw[h7] at hv;cases hv;have hi:∃e,es[i]?=some e/\e.val=v:=by
   have:=congrArg (·[i]?) he;simp only[Zw,h6,ZE,Option.map_eq_some_iff,Prod.mk.injEq] at this;obtain⟨e,h8,-,h9⟩:=this;exact⟨e,h8,h9⟩
  obtain⟨e,h8,h9⟩:=hi;simp only[dLk,dlookup,h1,hg,z6p h2 he,h5,h8,h9]
theorem z5a {t kt et:TypeId}{z:Value}{r:Nat}{M:List (Int × Value)}{n:Int}{ok:Bool}(h:mpOk P t kt et z) (hm:MapR H r M) (hv:mGet M n=none) :
  dLk P t (.map (some r)) (.int .i64 n) ok H=some (.val (if ok then .tuple #[z,.bool false] else z) H):=by
 obtain⟨h1,h2,h3,h4⟩:=h;obtain⟨es,clock,hg,he⟩:=hm;rcases z7y (M:=M) (n:=n) with ⟨h5,_⟩|⟨i,u,h5,h6,h7⟩
 ·simp only[dLk,dlookup,h1,hg,z6p h2 he,h5,h3,h4,if_true]
 ·rw[h7] at hv;cases hv
theorem zbs {t kt et:TypeId}{z v:Value}{r:Nat}{M:List (Int × Value)}{n:Int}(h:mpOk P t kt et z) (hm:MapR H r M) (hv:mGet M n=none) :
  ∃B,dUp P t (.map (some r)) (.int .i64 n) v H=some (.val undef (H.put r (some B)))/\MapR (H.put r (some B)) r (M++[(n,v)]):=by
 obtain⟨h1,h2,h3,h4⟩:=h;obtain⟨es,clock,hg,he⟩:=hm;rcases z7y (M:=M) (n:=n) with ⟨h5,_⟩|⟨i,u,h5,h6,h7⟩
 ·refine⟨.map (es++[{ key:=.int .i64 n,val:=v,born:=clock }]) (clock+1),by simp only[dUp,dupdate,h1,hg,z6p h2 he,h5],_,_,by rw[Heap.get_put,if_pos rfl],?_⟩;rw[ZI,ZI,he];rfl
 ·rw[h7] at hv;cases hv
theorem z94 {M:List (Int × Value)}{n m:Int}{v:Value}(h:mGet M n=none):mGet (M++[(n,v)]) m=if m=n then some v else mGet M m:=by
 unfold mGet at *;rw[List.find?_append];by_cases hm:m=n
 ·subst hm;have:M.find? (fun p=>p.1 == m)=none:=by simpa using h
  rw[if_pos rfl,this];simp
 ·rw[if_neg hm];have:((n == m):Bool)=false:=by simp;omega
  simp [List.find?_cons,this]
end
end Go.Hb
end

section
namespace Go.Hb
open Go Go.RowKit
theorem HK.step {S S':Nat->Prop}{A B C:Heap}(h:HK S A B) (k:HK S' B C) (hs:∀n,n < A.next->S' n->S n):HK S A C :=
 ⟨Zj h.next k.next,fun i hi hn=>by rw[k.keep i (Zi hi h.next) (fun q=>hn (hs i hi q)),h.keep i hi hn],k.wf⟩
end Go.Hb
namespace Go.Proofs.hq
open Go Go.RowKit Go.Hb
variable {ok:Ok}
set_option maxRecDepth 10000
attribute [local irreducible] LX LG EL STG SOP SGO SGD SAL SRD SEF SEG SLK SCK ES
mutual
def occ:Tm->List Int
 |.mk k _ _ _ v l=>(if k=1 then [v] else [])++occL l
def occL:List Tm->List Int
 |[]=>[]
 |t :: l=>occ t++occL l
end
theorem z3a (t:Tm):occ t=(if t.kind=1 then [t.var] else [])++occL t.args:=by obtain⟨k,s,u,b,v,l⟩:=t;rw[occ];rfl
theorem z95 {l:List Tm}{i:Nat}(h:i < l.length):occL (l.take (i+1))=occL (l.take i)++occ l[i]:=by
 have app:∀(a b:List Tm),occL (a++b)=occL a++occL b:=fun a b=>by
  induction a with
  |nil=>rw[occL];rfl
  |cons t a ih=>rw[List.cons_append,occL,occL,ih,List.append_assoc]
 rw[<-List.take_append_getElem h,app,occL,occL,List.append_nil]
theorem zp2 (a b:List Tm):occL (a++b)=occL a++occL b:=by
 induction a with
 |nil=>rw[occL];rfl
 |cons t a ih=>rw[List.cons_append,occL,occL,ih,List.append_assoc]
theorem zhb (l:List Tm) (i:Nat):occL (l.take i) <+: occL l:=by
 have:=zp2 (l.take i) (l.drop i);rw[List.take_append_drop] at this;rw[this];exact List.prefix_append _ _
structure Each (g:FuncId) (cap:Array Value) (H0:Heap) (tot:List Int) (J:(Nat->Prop)->List Int->Heap->Prop):Prop where
 base:∀S pre H,J S pre H->HX H0 H
 low:∀S pre H,J S pre H->∀n,S n->n < H.next
 step:∀S pre n H,J S pre H->(pre++[n]) <+: tot->EvF Tryz.prog okT g ([.int .i64 n]++cap.toList) H fun _ H'=>∃S',J S' (pre++[n]) H'/\HK S H H'/\∀n,S' n->S n\/H.next<=n
 stay:∀S pre H H',J S pre H->HX H H'->J S pre H'
set_option maxHeartbeats 4000000 in
theorem zm1 {g:FuncId}{cap:Array Value}{J:(Nat->Prop)->List Int->Heap->Prop}{H0:Heap}{tot:List Int}(hw0:H0.wf) (hg:callable Tryz.prog g=true) (E:Each g cap H0 tot J) :
  ∀(m:Nat) {t:Tm}{cs:List Value}{H:Heap}{S:Nat->Prop}{pre:List Int},SizeOf.sizeOf t < m->RepT H0 t cs->J S pre H->(pre++occ t) <+: tot ->
  EvF Tryz.prog okT 61 [.agg ⟨cs⟩,.func (.func g) #[] cap] H fun _ H'=>∃S',J S' (pre++occ t) H'/\HK S H H'/\∀n,S' n->S n\/H.next<=n:=by
 intro m
 induction m with
 |zero=>intro t cs H S pre h;omega
 |succ m ih =>
 intro t cs H S pre hsz r hj htot;have hw:=(E.base _ _ _ hj).wf;have hlow:=E.low _ _ _ hj;obtain⟨a,c,cells,rfl,-,-,-,-,-,rl⟩:=r.six;have hm:=rl.max;refine EvF.enter rfl Tryz.func61 (by decide) rfl ?_;(repeat refine qZa ?_);refine qZb ?_;simp (config:=qZc) (disch:=first|omega|rfl) only[sB,initTm,dBox,Value.cells,one,reduceCtorEq];obtain⟨H2,e2,hx2,gp,hn2,hw2⟩:=new1 hw (.row (six t a c) 28);simp only[e2];clear e2;have q1:=row6 gp;have hj2:=E.stay _ _ _ _ hj hx2;(repeat refine qZa ?_);refine qZb ?_;simp (config:=qZc) (disch:=first|omega|rfl) only[sB,Za,reduceCtorEq,z0i,ld3,q1];refine EvC.join (fun st=>∃tm H' S',st=⟨tm,[],H'⟩/\tm.get 1=some (.func (.func g) #[] cap)/\tm.get 2=some (.pointer (some ⟨H.next,0,none⟩))/\H'.get H.next=some (.row (six t a c) 28) /\
   J S' (pre++(if t.kind=1 then [t.var] else [])) H'/\HK S H H'/\(∀n,S' n->S n\/H.next < n)) ?_ ?_
 ·by_cases k1:t.kind=1
  ·repeat' (first|(refine qZb ?_;simp (config:=qZc) (disch:=first|omega|rfl) only[sB,Za,reduceCtorEq,ld3,z3e,z0l k1,q1,z2s,z1u hg])|(refine qZd ?_ ?_;simp (config:=qZc) (disch:=first|omega|rfl) only[sB,Za,reduceCtorEq,z0l k1];refine z02 ?_))
   refine(E.step S pre t.var H2 hj2 (by refine List.IsPrefix.trans ?_ htot;rw[z3a,if_pos k1,<-List.append_assoc];exact List.prefix_append _ _)).mono ?_;rintro v H3 ⟨S',hj3,hk3,hS3⟩
   skip
   exact⟨_,_,S',rfl,(by simp only[sG,Za,reduceCtorEq]),(by simp only[sG,Za,reduceCtorEq]),hk3.get hw2 gp (fun hs=>by have:=hlow _ hs;omega),by rw[if_pos k1];exact hj3,(hx2.hk S).trans hk3,fun n hn=>by rcases hS3 n hn with h|h;exact .inl h;exact .inr (by omega)⟩
  ·repeat' (first|(refine qZe ?_;try simp only[z00,z0g k1])|(refine qZm ?_ ?_;simp (config:=qZc) (disch:=first|omega|rfl) only[sB,Za,reduceCtorEq,z0g k1];refine z02 ?_))
   exact⟨_,_,S,rfl,(by simp only[sG,Za,reduceCtorEq]),(by simp only[sG,Za,reduceCtorEq]),gp,by rw[if_neg k1,List.append_nil];exact hj2,hx2.hk S,fun n hn=>.inl hn⟩
 rintro st ⟨tm,H3,S3,rfl,t1,t2,gp3,hj3,hk3,hS3⟩;have q1:=row6 gp3
 repeat' (first|refine qZa ?_|refine qZg ?_|(refine qZb ?_;simp (config:=qZc) (disch:=first|omega|rfl) only[sB,Za,z0u,ld26,ln26,t2,q1]))
 refine qZk (fun k st=>∃tm H' i S',st=⟨tm,[],H'⟩/\k=t.args.length - i/\i<=t.args.length/\tm.get 1=some (.func (.func g) #[] cap)/\tm.get 14=some (.slice a t.args.length c)/\tm.get 15=some (.int .i64 t.args.length)/\tm.get 16=some (.int .i64 (i:Nat)) /\
   J S' (pre++(if t.kind=1 then [t.var] else [])++occL (t.args.take i)) H'/\HK S H H'/\(∀n,S' n->S n\/H.next < n)) ?_ t.args.length _ ?_
 ·rintro k st ⟨tm,H',i,S',rfl,rfl,hi,t1,t14,t15,t16,hj',hk',hS'⟩;have hx':=E.base _ _ _ hj';by_cases hlt:i < t.args.length
  ·obtain⟨b,o,a1,c1,rfl,hld,hr1⟩:=rl.el hlt;have hld1:=hx'.load hw0 hld
   repeat' (first|refine qZa ?_|refine qZg ?_|(refine qZe ?_;try simp only[z00])|(refine qZb ?_;simp (config:=qZc) (disch:=first|omega|rfl) only[sB,dAlloc,Za,Zb,one,cutC,ia26,ld28,zr28,st28,cl61,t1,t14,t15,t16,decl hlt,hld1])|(refine qZd ?_ ?_;simp (config:=qZc) (disch:=first|omega|rfl) only[sB];refine z02 ?_))
   obtain⟨H4,e4,hx4,g4,hn4,hw4⟩:=z0m hx'.wf (.row zero6 28) (.row (six t.args[i] a1 c1) 28);simp only[e4];have hs:=z22 (Zc hlt);refine(ih (by omega) hr1 (E.stay _ _ _ _ hj' hx4) (by refine List.IsPrefix.trans ?_ htot;rw[List.append_assoc,<-z95 hlt,List.append_assoc,z3a];exact(List.prefix_append_right_inj _).2 ((List.prefix_append_right_inj _).2 (zhb _ _)))).mono ?_;rintro v H5 ⟨S5,hj5,hk5,hS5⟩
   repeat' (first|(refine qZb ?_;simp (config:=qZc) (disch:=first|omega|rfl) only[sB,Za,t16,z0c]))
   have hk45:HK S H H5:=(hk'.trans (hx4.hk S)).step hk5 fun n hn hq=>by rcases hS' n hq with h|h;exact h;omega
   refine⟨t.args.length - (i+1),by omega,_,_,i+1,S5,rfl,rfl,by omega,(by simp only[sG,Za,t1]),(by simp only[sG,Za,t14]),(by simp only[sG,Za,t15]),(by simp only[sB,Za];rfl),?_,hk45,?_⟩
   ·rw[z95 hlt,<-List.append_assoc];exact hj5
   ·intro n hn;have h1:=hk'.next;rcases hS5 n hn with h|h
    ·exact hS' n h
    ·exact .inr (by omega)
  ·repeat' (first|refine qZa ?_|(refine qZi ?_;try simp only[sB])|(refine qZb ?_;simp (config:=qZc) (disch:=first|omega|rfl) only[sA,t15,t16,decn hlt])|(refine qZm ?_ ?_;simp (config:=qZc) (disch:=first|omega|rfl) only[sB];refine z02 ?_))
   refine z0j rfl ⟨S',?_,hk',fun n hn=>by rcases hS' n hn with h|h;exact .inl h;exact .inr (by omega)⟩;rw[Zm (by omega),List.append_assoc,<-z3a] at hj';exact hj'
 ·exact⟨_,_,0,S3,rfl,rfl,by omega,(by simp only[sG,Za,t1]),(by simp only[sG,Za]),(by simp only[sG,Za]),(by simp only[sB,Za];rfl),by rw[List.take_zero,occL,List.append_nil];exact hj3,hk3,hS3⟩
def IntL (H:Heap) (T:TypeId) (S:Nat->Prop) (L:List Int) (v:Value):Prop :=
 (L=[]/\v=.slice none 0 0)\/∃b c,v=.slice (some ⟨b,0,none⟩) L.length c/\L.length<=c/\c<=maxLen/\H.get b=some (.row (L.map fun n=>Value.int .i64 n) T)/\S b
theorem zm2 (L:List Int):(L.map fun n=>Value.int .i64 n).all one=true:=by
 rw[List.all_eq_true];intro v hv;obtain⟨n,-,rfl⟩:=List.mem_map.1 hv;rfl
theorem IntL.push {P:Program}{T t:TypeId}(hp:apOk P t T 1) {H:Heap}{S S2:Nat->Prop}{L:List Int}{n:Int}{v:Value}{ad:Addr}{c1:Nat}(h:IntL H T S L v) (hw:H.wf) (hl:H.load ad (1*1)=some [.int .i64 n]) (hm:L.length+1<=most)
  (h2:S2 H.next):∃H2 v2,dAp P #[t,t] v (.slice (some ad) 1 c1) H=some (.val v2 H2)/\IntL H2 T S2 (L++[n]) v2/\HK S H H2/\H2.next=H.next+1:=by
 have hmax:L.length+1<=maxLen:=Zj hm (by simp [most,maxLen]);rcases h with ⟨rfl,rfl⟩|⟨b,c,rfl,hlc,hcm,hg,hs⟩
 ·exact⟨_,_,z47 hp (by omega) hm hl rfl,.inr ⟨H.next,1,rfl,Ze _,hmax,z0n,h2⟩,((HX.refl hw).new _).hk _,rfl⟩
 ·refine⟨_,_,z3k hp (by omega) hm hl rfl hg (by simp) (by rw[Zm (by simp)];exact zm2 L),.inr ⟨H.next,L.length+1,by simp,by simp,hmax,?_,h2⟩,((HK.refl hw).put (.inl hs) (hw _ _ hg) none).new _,rfl⟩;show ((H.put b none).new _).get (H.put b none).next=_;rw[z0n,Zm (by simp),ZI];rfl
theorem IntL.heap {H H':Heap}{T:TypeId}{S:Nat->Prop}{L:List Int}{v:Value}(h:IntL H T S L v) (hk:∀n,S n->n < H.next->H'.get n=H.get n) (hw:H.wf):IntL H' T S L v:=by
 rcases h with h|⟨b,c,h1,h2,h3,h4,h5⟩
 ·exact .inl h
 ·exact .inr ⟨b,c,h1,h2,h3,(hk b h5 (hw _ _ h4)).trans h4,h5⟩
theorem IntL.slice {H:Heap}{T:TypeId}{S:Nat->Prop}{L:List Int}{v:Value}(h:IntL H T S L v):∃a c,v=.slice a L.length c/\L.length<=c/\c<=maxLen:=by
 rcases h with ⟨rfl,rfl⟩|⟨b,c,rfl,h2,h3,-⟩
 ·exact⟨none,0,rfl,Ze _,Zl _⟩
 ·exact⟨_,c,rfl,h2,h3⟩
def addU (L:List Int) (n:Int):List Int:=if n∈L then L else L++[n]
def uniq (l:List Int):List Int:=l.foldl addU []
theorem z6q (l:List Int) (n:Int):uniq (l++[n])=addU (uniq l) n:=by simp [uniq]
theorem zp3 (L:List Int) (n:Int):(addU L n).length<=L.length+1:=by unfold addU;split<;>simp
theorem z7z (l:List Int):(uniq l).length<=l.length:=by
 have h:∀(l L:List Int),(l.foldl addU L).length<=L.length+l.length:=by
  intro l
  induction l with
  |nil=>intro L;simp
  |cons n l ih=>intro L;rw[List.foldl_cons];have:=ih (addU L n);have:=zp3 L n;rw[ZD];omega
 have:=h l [];simpa [uniq] using this
theorem zja (l:List Int):(uniq l).Nodup:=by
 have h:∀(l L:List Int),L.Nodup->(l.foldl addU L).Nodup:=by
  intro l
  induction l with
  |nil=>intro L h;exact h
  |cons n l ih =>
   intro L h;refine ih _ ?_;unfold addU;split
   ·exact h
   ·rename_i hn;rw[List.nodup_append];exact⟨h,by simp,fun a ha b hb=>by simp at hb;subst hb;exact fun e=>hn (e ▸ ha)⟩
 exact h l [] List.nodup_nil
theorem IntL.at {H:Heap}{T:TypeId}{S:Nat->Prop}{L:List Int}{a:Option Addr}{n c:Nat}(h:IntL H T S L (.slice a n c)) {i:Nat}(hi:i < L.length):∃b,a=some ⟨b,0,none⟩/\n=L.length/\H.load ⟨b,i,none⟩ 1=some [.int .i64 L[i]]/\S b:=by
 rcases h with ⟨rfl,-⟩|⟨b,c',h1,-,-,h2,h3⟩
 ·simp at hi
 ·cases h1;refine⟨b,rfl,rfl,?_,h3⟩;unfold Heap.load Heap.cells;simp only[h2];have:(List.drop i (L.map fun n=>Value.int .i64 n)).take 1=[.int .i64 L[i]]:=by
   rw[ZG (by simpa using hi)];simp
  rw[this];rfl
end Go.Proofs.hq
end

section
namespace Go.Proofs.hq
open Go Go.RowKit Go.Hb
variable {ok:Ok}
set_option maxRecDepth 10000
attribute [local irreducible] LX LG EL STG SOP SGO SGD SAL SRD SEF SEG SLK SCK ES
theorem mapI:mpOk Tryz.prog 56 3 3 (.int .i64 0):=⟨Tryz.underlying56,Tryz.underlying3,by kernel_rfl,rfl⟩
def VarJ (H0:Heap) (pm po r:Nat) (S:Nat->Prop) (pre:List Int) (H:Heap):Prop :=
 HX H0 H/\H.get pm=some (.row [.map (some r)] 56)/\∃v M Sb,H.get po=some (.row [v] 32)/\MapR H r M/\(∀n,mGet M n=none↔n∉uniq pre)/\IntL H 3 Sb (uniq pre) v /\
  (∀n,S n↔(n=r\/n=po\/Sb n))/\(∀n,Sb n->n≠pm/\n≠po/\n≠r/\H0.next<=n/\n < H.next)
set_option maxHeartbeats 4000000 in
theorem zsp {H0:Heap}{pm po r:Nat}{tot:List Int}(h1:H0.next<=pm) (h2:H0.next<=po) (h3:H0.next<=r) (h12:pm≠po) (h13:pm≠r) (h23:po≠r) (hlen:tot.length<=most) :
  Each 88 #[.pointer (some ⟨pm,0,none⟩),.pointer (some ⟨po,0,none⟩)] H0 tot (VarJ H0 pm po r):=by
 have ean:apOk Tryz.prog 32 3 1:=ap32;refine⟨fun S pre H h=>h.1,?_,?_,?_⟩
 ·rintro S pre H ⟨hx,gm,v,M,Sb,go,hm,hk,hi,hS,hSb⟩ n hn;rcases (hS n).1 hn with rfl|rfl|h
  ·exact hm.lt hx.wf
  ·exact hx.wf _ _ go
  ·exact(hSb n h).2.2.2.2
 ·rintro S pre n H ⟨hx,gm,v,M,Sb,go,hm,hk,hi,hS,hSb⟩ hpre;have hw:=hx.wf;have lm:H.load ⟨pm,0,none⟩ 1=some [.map (some r)]:=by unfold Heap.load Heap.cells;simp only[gm];rfl
  have lo:H.load ⟨po,0,none⟩ 1=some [v]:=by unfold Heap.load Heap.cells;simp only[go];rfl
  refine EvF.enter rfl Tryz.func88 (by decide) rfl ?_;by_cases hn:n∈uniq pre
  ·have hg:mGet M n≠none:=fun h=>(hk n).1 h hn
   obtain⟨u,hu⟩:=Option.ne_none_iff_exists'.1 hg
   repeat' (first|refine qZa ?_|(refine qZe ?_)|(refine qZb ?_;simp (config:=qZc) (disch:=first|omega|rfl) only[sB,initTm,Za,Zb,reduceCtorEq,ld56,lm,z1n,z59 mapI hm hu,Zv])|(refine qZm ?_ ?_;simp (config:=qZc) (disch:=first|omega|rfl) only[sB,Za,reduceCtorEq];refine z02 ?_))
   refine z0j rfl ⟨S,⟨hx,gm,v,M,Sb,go,hm,?_,?_,hS,hSb⟩,HK.refl hw,fun n h=>.inl h⟩
   ·rw[z6q,addU,if_pos hn];exact hk
   ·rw[z6q,addU,if_pos hn];exact hi
  ·have hg:mGet M n=none:=(hk n).2 hn;obtain⟨a,c,rfl,hc1,hc2⟩:=hi.slice;obtain⟨B,eu,hm2⟩:=zbs (v:=.int .i64 (uniq pre).length) mapI hm hg;have lr:=hm.lt hw;have h23':(po=r)=False:=eq_false h23
   repeat' (first|refine qZa ?_|(refine qZb ?_;simp (config:=qZc) (disch:=first|omega|rfl) only[sB,initTm,Za,Zb,Value.cells,one,reduceCtorEq,cutC,layC,ld56,ld32,ln32,zde,lm,lo,z1n,z2y,z5a mapI hm hg,eu,ZM,h23'])|(refine qZd ?_ ?_;simp (config:=qZc) (disch:=first|omega|rfl) only[sB,Za,reduceCtorEq];refine z02 ?_))
   have hk1:HK S H (H.put r (some B)):=(HK.refl hw).put (.inl ((hS r).2 (.inl rfl))) lr _;have go1:(H.put r (some B)).get po=some (.row [.slice a (uniq pre).length c] 32):=by rw[get_put,if_neg h23];exact go
   have gm1:(H.put r (some B)).get pm=some (.row [.map (some r)] 56):=by rw[get_put,if_neg h13];exact gm
   have hi1:IntL (H.put r (some B)) 3 Sb (uniq pre) (.slice a (uniq pre).length c):=hi.heap (fun n hn _=>by rw[get_put,if_neg (hSb n hn).2.2.1]) hw;have hn1:(H.put r (some B)).next=H.next:=z07;have hx1:HX H0 (H.put r (some B)):=hx.put h3 lr _;generalize H.put r (some B)=H1 at *;obtain⟨H6,e6,hx6,g6,hn6,hw6⟩:=new1 hk1.wf (.row [.int .i64 n] 3);simp only[e6];rw[hn1] at g6;have l6:H6.load ⟨H.next,0,none⟩ (1*1)=some [.int .i64 n]:=by unfold Heap.load Heap.cells;simp only[g6];rfl
   have hul:=z7z pre;have hpl:=hpre.length_le;rw[Zr,List.length_singleton] at hpl;obtain⟨H7,v7,e7,hi7,hk7,hn7⟩:=IntL.push (S2:=fun n=>n=H6.next) (c1:=1) ean (hi1.heap (fun n _ hl=>hx6.keep n hl) hk1.wf) hw6 l6 (by omega) rfl;have go7:H7.get po=some (.row [.slice a (uniq pre).length c] 32):=hk7.get hw6 (hx6.get hk1.wf go1) (fun h=>(hSb _ h).2.1 rfl);have gm7:H7.get pm=some (.row [.map (some r)] 56):=hk7.get hw6 (hx6.get hk1.wf gm1) (fun h=>(hSb _ h).1 rfl);have lpo:=hk1.wf _ _ go1;have lpm:=hk1.wf _ _ gm1;have hm7:MapR H7 r (M++[(n,.int .i64 (uniq pre).length)]):=(hm2.heap (hx6.keep r (by omega))).heap (hk7.keep r (by omega) (fun h=>(hSb _ h).2.2.1 rfl));obtain⟨a7,c7,rfl,-⟩:=hi7.slice
   repeat' (first|(refine z0q ?_;simp (config:=qZc) (disch:=first|omega|rfl) only[sB,Za,one,reduceCtorEq,st32,e7,go7]))
   have hS7:HK S H (H7.put po (some (.row [.slice a7 (uniq pre++[n]).length c7] 32))):=((hk1.trans (hx6.hk S)).step hk7 fun m _ hm=>(hS m).2 (.inr (.inr hm))).put (.inl ((hS po).2 (.inr (.inl rfl)))) (hk7.wf _ _ go7) _;refine z0j rfl ⟨fun m=>m=r\/m=po\/m=H6.next,⟨hx.then hS7 fun m hm hs=>?_,by rw[get_put,if_neg h12];exact gm7,.slice a7 (uniq pre++[n]).length c7,M++[(n,.int .i64 (uniq pre).length)],fun m=>m=H6.next,by rw[get_put,if_pos rfl],?_,?_,?_,fun m=>Iff.rfl,?_⟩,hS7,?_⟩
   ·rcases (hS m).1 hs with rfl|rfl|h
    ·omega
    ·omega
    ·have:=hSb m h;omega
   ·exact hm7.heap (by rw[get_put,if_neg (fun h=>h23 h.symm)])
   ·intro m;rw[z94 hg,z6q,addU,if_neg hn];by_cases hmn:m=n
    ·rw[if_pos hmn];simp [hmn]
    ·rw[if_neg hmn,hk m];simp [hmn]
   ·rw[z6q,addU,if_neg hn];exact hi7.heap (fun m hm _=>by have hm:m=H6.next:=hm;rw[get_put,if_neg (by omega)]) hk7.wf
   ·rintro m rfl;rw[z07];exact⟨by omega,by omega,by omega,by have:=hx.next;omega,by omega⟩
   ·rintro m (rfl|rfl|rfl)
    ·exact .inl ((hS _).2 (.inl rfl))
    ·exact .inl ((hS _).2 (.inr (.inl rfl)))
    ·exact .inr (by omega)
 ·rintro S pre H H' ⟨hx,gm,v,M,Sb,go,hm,hk,hi,hS,hSb⟩ hx';exact⟨hx.trans hx',hx'.get hx.wf gm,v,M,Sb,hx'.get hx.wf go,hm.heap (hx'.keep _ (hm.lt hx.wf)),hk,hi.heap (fun n _ hl=>hx'.keep n hl) hx.wf,hS,fun n hn=>by have:=hSb n hn;have:=hx'.next;exact⟨by omega,by omega,by omega,by omega,by omega⟩⟩
set_option maxHeartbeats 4000000 in
theorem z7p {l:List Tm}{a:Option Addr}{c:Nat}{cells:Nat->List Value}{H:Heap}(rl:RepL H l a c cells) (hlen:(occL l).length<=most) (hw:H.wf) :
  EvF Tryz.prog okT 75 [.slice a l.length c] H fun v H'=>IntL H' 3 (Rg H.next H'.next) (uniq (occL l)) v/\HX H H':=by
 have hm:=rl.max;refine EvF.enter rfl Tryz.func75 (by decide) rfl ?_
 repeat' (first|refine qZa ?_|refine qZg ?_|(refine qZb ?_;simp (config:=qZc) (disch:=first|omega|rfl) only[sB,initTm,dAlloc,Za,one,reduceCtorEq,zr32,zr56,st56,ln26,z4b]))
 have E:=zsp (H0:=H) (pm:=H.next+1+1) (po:=H.next) (r:=H.next+1) (tot:=occL l) (by omega) (by omega) (by omega) (by omega) (by omega) (by omega) hlen;refine qZk (fun k st=>∃tm H' i S,st=⟨tm,[],H'⟩/\k=l.length - i/\i<=l.length/\tm.get 3=some (.pointer (some ⟨H.next,0,none⟩))/\tm.get 4=some (.pointer (some ⟨H.next+1+1,0,none⟩))/\tm.get 8=some (.slice a l.length c)/\tm.get 9=some (.int .i64 l.length)/\tm.get 10=some (.int .i64 (i:Nat)) /\
   VarJ H (H.next+1+1) H.next (H.next+1) S (occL (l.take i)) H') ?_ l.length _ ?_
 ·rintro k st ⟨tm,H',i,S,rfl,rfl,hi,t3,t4,t8,t9,t10,hj⟩;have hx':=E.base _ _ _ hj;by_cases hlt:i < l.length
  ·obtain⟨b,o,a1,c1,rfl,hld,hr1⟩:=rl.el hlt;have hld1:=hx'.load hw hld
   repeat' (first|refine qZa ?_|refine qZg ?_|(refine qZe ?_;try simp only[z00])|(refine qZb ?_;simp (config:=qZc) (disch:=first|omega|rfl) only[sB,dAlloc,Za,Zb,one,cutC,ia26,ld28,zr28,st28,cl61,t3,t4,t8,t9,t10,decl hlt,hld1,List.map_toArray])|(refine qZd ?_ ?_;simp (config:=qZc) (disch:=first|omega|rfl) only[sB];refine z02 ?_))
   obtain⟨H4,e4,hx4,g4,hn4,hw4⟩:=z0m hx'.wf (.row zero6 28) (.row (six l[i] a1 c1) 28);simp only[e4];have htake:=z95 hlt;refine(zm1 hw (by kernel_rfl) E _ (Zf _) hr1 (E.stay _ _ _ _ hj hx4) (by rw[<-htake];exact zhb _ _)).mono ?_;rintro v H5 ⟨S5,hj5,-⟩
   repeat' (first|(refine qZb ?_;simp (config:=qZc) (disch:=first|omega|rfl) only[sB,Za,t10,z0c]))
   exact⟨l.length - (i+1),by omega,_,_,i+1,S5,rfl,rfl,by omega,(by simp only[sG,Za,t3]),(by simp only[sG,Za,t4]),(by simp only[sG,Za,t8]),(by simp only[sG,Za,t9]),(by simp only[sB,Za];rfl),by rw[htake];exact hj5⟩
  ·obtain⟨-,gm,v,M,Sb,go,-,-,hi,-,hSb⟩:=hj;have lo:H'.load ⟨H.next,0,none⟩ 1=some [v]:=by unfold Heap.load Heap.cells;simp only[go];rfl
   rw[Zm (by omega)] at hi
   repeat' (first|refine qZa ?_|(refine qZi ?_;try simp only[sB])|(refine qZf ?_)|(refine qZb ?_;simp (config:=qZc) (disch:=first|omega|rfl) only[sB,Za,ld32,t3,t9,t10,decn hlt,lo])|(refine qZm ?_ ?_;simp (config:=qZc) (disch:=first|omega|rfl) only[sB];refine z02 ?_))
   refine z03 rfl (by simp only[sB,Za];rfl) ⟨?_,hx'⟩;rcases hi with h|⟨b,c',h1,h2,h3,h4,h5⟩
   ·exact .inl h
   ·exact .inr ⟨b,c',h1,h2,h3,h4,by have:=hSb _ h5;exact⟨by omega,by omega⟩⟩
 ·obtain⟨H1,e1,hx1,g1,n1,w1⟩:=new1 hw (.row [.slice none 0 0] 32);obtain⟨H2,e2,hx2,g2,n2,w2⟩:=new1 w1 (.map [] 0);obtain⟨H3,e3,hx3,g3,n3,w3⟩:=z0m w2 (.row [.map none] 56) (.row [.map (some (H.next+1))] 56);have n2':H2.next=H.next+1+1:=by omega
  rw[n2'] at e3 g3;simp only[e1,e2,e3];have hx:=(hx1.trans hx2).trans hx3;refine⟨_,_,0,fun n=>n=H.next+1\/n=H.next\/False,rfl,rfl,by omega,(by simp only[sG,Za,reduceCtorEq]),(by simp only[sG,Za,reduceCtorEq]),(by simp only[sG,Za,reduceCtorEq]),(by simp only[sG,Za,reduceCtorEq]),(by simp only[sB,Za,reduceCtorEq];rfl),hx,g3,.slice none 0 0,[],fun _=>False,hx3.get w2 (hx2.get w1 g1),⟨[],0,?_,rfl⟩,fun n=>?_,?_,fun n=>Iff.rfl,fun n h=>h.elim⟩
  ·rw[n1] at g2;exact hx3.get w2 g2
  ·rw[List.take_zero,occL];simp [uniq,mGet]
  ·rw[List.take_zero,occL];exact .inl ⟨rfl,rfl⟩
theorem zbt {l:List Tm}{a:Option Addr}{c:Nat}{cells:Nat->List Value}{H:Heap}(rl:RepL H l a c cells) (hlen:(occL l).length<=most) (hw:H.wf) :
  EvF Tryz.prog okT 56 [.slice a l.length c] H fun v H'=>∃u,v=.tuple #[u,.int .i64 (chkL l)]/\IntL H' 3 (Rg H.next H'.next) (if chkL l=0 then uniq (occL l) else []) u/\HX H H':=by
 refine EvF.enter rfl Tryz.func56 (by decide) rfl ?_
 repeat' (first|refine qZa ?_|(refine qZb ?_;simp (config:=qZc) (disch:=first|omega|rfl) only[sB,initTm,Za,reduceCtorEq,cl74]))
 refine(zdm rl hw).mono ?_;rintro v H2 ⟨rfl,hx2⟩;by_cases h0:chkL l=0
 ·repeat' (first|refine qZa ?_|(refine qZe ?_;try simp only[z00])|(refine qZb ?_;simp (config:=qZc) (disch:=first|omega|rfl) only[sB,Za,reduceCtorEq,cl75,z15 h0])|(refine qZm ?_ ?_;simp (config:=qZc) (disch:=first|omega|rfl) only[sB,Za,reduceCtorEq];refine z02 ?_))
  refine(z7p (rl.mono hx2 hw) hlen hx2.wf).mono ?_;rintro v H3 ⟨hi,hx3⟩
  repeat' (first|(refine qZf ?_))
  refine z1r rfl (by simp only[sB,Za,reduceCtorEq];rfl) (by simp only[sB,Za,reduceCtorEq];rfl) ⟨v,by rw[h0],?_,hx2.trans hx3⟩;rw[if_pos h0];rcases hi with h|⟨b,c',h1,h2,h3,h4,h5⟩
  ·exact .inl h
  ·exact .inr ⟨b,c',h1,h2,h3,h4,by have:=hx2.next;exact⟨by have:=h5.1;omega,h5.2⟩⟩
 ·repeat' (first|refine qZa ?_|(refine qZf ?_;try simp only[z06,z01])|(refine qZb ?_;simp (config:=qZc) (disch:=first|omega|rfl) only[sB,Za,reduceCtorEq,z1z h0])|(refine qZd ?_ ?_;simp (config:=qZc) (disch:=first|omega|rfl) only[sB,Za,reduceCtorEq];refine z02 ?_))
  exact z1r rfl (by simp only[sB,Za,reduceCtorEq];rfl) (by simp only[sG,Za,reduceCtorEq]) ⟨_,rfl,by rw[if_neg h0];exact .inl ⟨rfl,rfl⟩,hx2⟩
mutual
def sub (σ:Int->Tm):Tm->Tm
 |.mk k s u b v l=>if k=1 then σ v else .mk k s u b v (subL σ l)
def subL (σ:Int->Tm):List Tm->List Tm
 |[]=>[]
 |t :: l=>sub σ t :: subL σ l
end
theorem zhc (σ:Int->Tm):∀l:List Tm,subL σ l=l.map (sub σ)
 |[]=>by rw[subL];rfl
 |t :: l=>by rw[subL,zhc σ l];rfl
theorem z96 {σ:Int->Tm}{t:Tm}(h:t.kind=1):sub σ t=σ t.var:=by
 obtain⟨k,s,u,b,v,l⟩:=t;rw[sub,if_pos (show k=1 from h)];rfl
theorem zm3 {σ:Int->Tm}{t:Tm}(h:t.kind≠1):sub σ t=.mk t.kind t.name t.num t.bits t.var (t.args.map (sub σ)):=by
 obtain⟨k,s,u,b,v,l⟩:=t;rw[sub,if_neg (show ¬k=1 from h),zhc];rfl
structure ByAll (g:FuncId) (cap:Array Value) (σ:Int->Tm) (J:Heap->Prop):Prop where
 step:∀n H,i64 n->J H->H.wf->EvF Tryz.prog okT g ([.int .i64 n]++cap.toList) H fun v H'=>(∃cs,v=.tuple #[.agg ⟨cs⟩,.bool true]/\RepT H' (σ n) cs)/\HX H H'
 stay:∀H H',J H->HX H H'->J H'
 fine:∀n,0<=n->Fine (σ n)
set_option maxHeartbeats 4000000 in
theorem zm4 {g:FuncId}{cap:Array Value}{σ:Int->Tm}{J:Heap->Prop}(hg:callable Tryz.prog g=true) (B:ByAll g cap σ J) {m:Nat}:∀{t:Tm}{cs:List Value}{H:Heap},SizeOf.sizeOf t < m->RepT H t cs->Fine t->J H->H.wf ->
  EvF Tryz.prog okT 63 [.agg ⟨cs⟩,.func (.func g) #[] cap] H fun v H'=>∃cs',v=.agg ⟨cs'⟩/\RepF H' 28 (Rg H.next H'.next) (sub σ t) cs'/\HX H H':=by
 induction m with
 |zero=>intro t cs H h;omega
 |succ m ih =>
 intro t cs H hsz r hf hj hw;have hbd:=r.bd;have hfew:=z58 hf;have hvar:=(z2d hf.node).2.2.2.1;obtain⟨a,c,cells,rfl,-,-,-,-,-,rl⟩:=r.six;refine EvF.enter rfl Tryz.func63 (by decide) rfl ?_;(repeat refine qZa ?_);refine qZb ?_;simp (config:=qZc) (disch:=first|omega|rfl) only[sB,initTm,dBox,dAlloc,Value.cells,one,reduceCtorEq,zr28];obtain⟨H2,e2,hx2,gp,gq,hn2,hw2⟩:=new2 hw (.row (six t a c) 28) (.row zero6 28);simp only[e2];have q1:=row6 gp;clear e2;have hmost:t.args.length<=most:=by unfold most;omega
 have ne1:(H.next+1=H.next)=False:=by simp
 have ne2:(H.next=H.next+1)=False:=by simp
 by_cases k1:t.kind=1
 ·repeat' (first|refine qZa ?_|(refine qZb ?_;simp (config:=qZc) (disch:=first|omega|rfl) only[sB,Za,reduceCtorEq,z0i,ld3,z3e,q1,z0l k1,z2s,z1u hg])|(refine qZd ?_ ?_;simp (config:=qZc) (disch:=first|omega|rfl) only[sB,Za,reduceCtorEq];refine z02 ?_))
  refine(B.step t.var H2 hbd.var (B.stay _ _ hj hx2) hw2).mono ?_;rintro v H3 ⟨⟨cs,rfl,r3⟩,hx3⟩;obtain⟨a3,c3,zak,rfl,-⟩:=r3.six;have gq3:=hx3.get hw2 gq
  repeat' (first|refine qZa ?_|(refine qZb ?_;simp (config:=qZc) (disch:=first|omega|rfl) only[sB,Za,Zb,reduceCtorEq,cutC,ld28,cl78])|(refine z0q ?_;simp (config:=qZc) (disch:=first|omega|rfl) only[sB,dAlloc,Za,Zb,one,reduceCtorEq,zr28,st28])|(refine qZd ?_ ?_;simp (config:=qZc) (disch:=first|omega|rfl) only[sB,Za,reduceCtorEq];refine z02 ?_))
  obtain⟨H4,e4,hx4,g4,hn4,hw4⟩:=z0m hx3.wf (.row zero6 28) (.row (six (σ t.var) a3 c3) 28);simp only[e4];have hx34:=hx3.trans hx4;refine(zlz (Zf _) (r3.mono hx4 hx3.wf) (B.fine _ hvar) hw4).mono ?_;rintro v H5 ⟨c5,rfl,⟨a5,k5,rfl,hb5,hf5⟩,hx5⟩;have gq5:=hx5.get hw4 (hx4.get hx3.wf gq3);have hx25:=hx34.trans hx5;have n24:=hx34.next;have n25:=hx25.next
  repeat' (first|(refine qZf ?_;try simp only[z06,z01])|(refine z0q ?_;simp (config:=qZc) (disch:=first|omega|rfl) only[sB,Zb,one,st28,gq5]))
  refine z0a rfl (by simp only[sB,Za,reduceCtorEq];rfl) (by simp only[sB,Zb,cutC,ld28];rfl) ⟨_,rfl,⟨a5,k5,by rw[z96 k1],by rw[z96 k1];exact hb5,?_⟩,(hx2.trans hx25).pt (by omega) gq5 _⟩;rw[z96 k1];refine(hf5.heap (fun n hn _=>?_) hx5.wf).sub fun n hn=>⟨by have:=hn.1;omega,hn.2⟩
  have:=hn.1;rw[get_put,if_neg (by omega)]
 have hsub:=zm3 (σ:=σ) k1;have hsa:(sub σ t).args=t.args.map (sub σ):=by rw[hsub];rfl
 have hbd':Bd (sub σ t):=by rw[hsub];exact⟨hbd.kind,hbd.name,hbd.num,hbd.bits,hbd.var⟩
 have hsix:∀a c,six (sub σ t) a c=[.int .i64 t.kind,.string t.name,.string t.num,.int .u64 t.bits,.int .i64 t.var,.slice a t.args.length c]:=fun a c=>by rw[hsub];simp [six,Tm.kind,Tm.name,Tm.num,Tm.bits,Tm.var,Tm.args]
 by_cases h0:t.args.length=0
 ·have h0':(t.args.length:Int)=0:=by omega
  have he:t.args=[]:=List.length_eq_zero_iff.1 h0
  repeat' (first|refine qZa ?_|(refine qZe ?_;try simp only[z00])|(refine qZf ?_;try simp only[z06,z01])|(refine qZb ?_;simp (config:=qZc) (disch:=first|omega|rfl) only[sB,Za,Zb,one,reduceCtorEq,cutC,z0i,ld3,st28,ld28,z0u,ld26,ln26,st26,q1,gp,gq,z0g k1,z0l h0',ne1])|(refine qZd ?_ ?_;simp (config:=qZc) (disch:=first|omega|rfl) only[sB,Za,reduceCtorEq];refine z02 ?_)|(refine qZm ?_ ?_;simp (config:=qZc) (disch:=first|omega|rfl) only[sB,Za,reduceCtorEq];refine z02 ?_))
  have hx3:=(hx2.pt (Ze _) gp (some (.row [.int .i64 t.kind,.string t.name,.string t.num,.int .u64 t.bits,.int .i64 t.var,.slice none 0 0] 28))).pt (i:=H.next+1) (Nat.le_succ _) (by rw[get_put,if_neg (by omega)];exact gq)
   (some (.row [.int .i64 t.kind,.string t.name,.string t.num,.int .u64 t.bits,.int .i64 t.var,.slice none 0 0] 28))
  refine z0a rfl (by simp only[sB,Za,reduceCtorEq];rfl) (by simp only[sB,Zb,cutC,ld28];rfl) ⟨_,rfl,⟨none,0,?_,hbd',?_⟩,hx3⟩
  ·rw[hsix,h0]
  ·rw[hsa,he];exact .nil _
 ·have h0':(t.args.length:Int)≠0:=by omega
  have ne3:(H.next=H2.next)=False:=by simp;omega
  repeat' (first|refine qZa ?_|refine qZg ?_|(refine qZe ?_;try simp only[z00])|(refine qZb ?_;simp (config:=qZc) (disch:=first|omega|rfl) only[sB,Za,reduceCtorEq,cutC,z0i,ld3,z0u,ld26,ln26,q1,z0g k1,z0g h0',z5u mk26,ne3])|(refine qZm ?_ ?_;simp (config:=qZc) (disch:=first|omega|rfl) only[sB,Za,reduceCtorEq];refine z02 ?_))
  obtain⟨H3,e3,hx3,gr,hn3,hw3⟩:=new1 hw2 (.row (repL t.args.length zero6) 28);simp only[e3];clear e3;have gp3:=hx3.get hw2 gp;have gq3:=hx3.get hw2 gq;have hx23:=hx2.trans hx3;have hmax:=rl.max;rw[hn2] at gr hn3;refine qZk (fun k st=>∃tm H' i cells' Si ai ci,st=⟨tm,[],H'⟩/\k=t.args.length - i/\i<=t.args.length/\tm.get 1=some (.func (.func g) #[] cap) /\
   tm.get 2=some (.pointer (some ⟨H.next,0,none⟩))/\tm.get 4=some (.pointer (some ⟨H.next+1,0,none⟩))/\tm.get 7=some (.slice (some ⟨H.next+2,0,none⟩) t.args.length t.args.length) /\
   tm.get 35=some (.slice a t.args.length c)/\tm.get 36=some (.int .i64 t.args.length)/\tm.get 37=some (.int .i64 (i:Nat)) /\
   H'.get H.next=some (.row (six t a c) 28)/\H'.get (H.next+1)=some (.row zero6 28)/\H'.get (H.next+2)=some (.row cells' 28)/\cells'.length=t.args.length*6 /\
   FLs H' 28 (Rg (H.next+3) H'.next) ((t.args.take i).map (sub σ)) cells' Si ai ci/\HX H H') ?_ t.args.length _ ?_
  ·rintro k st ⟨tm,H',i,cells',Si,ai,ci,rfl,rfl,hi,t0,t1,t2,t3,t17,t18,t19,gp',gq',gr',hlen,hfl,hx'⟩;have q1:=row6 gp';by_cases hlt:i < t.args.length
   ·obtain⟨b,o,a1,c1,rfl,hld,hr1⟩:=rl.el hlt;have hld1:=hx'.load hw hld
    repeat' (first|refine qZa ?_|refine qZg ?_|(refine qZe ?_;try simp only[z00])|(refine qZb ?_;simp (config:=qZc) (disch:=first|omega|rfl) only[sB,dAlloc,Za,Zb,one,cutC,zr28,st28,ld28,ia26,cl63,t0,t3,t17,t18,t19,decl hlt,hld1])|(refine qZd ?_ ?_;simp (config:=qZc) (disch:=first|omega|rfl) only[sB];refine z02 ?_))
    obtain⟨H4,e4,hx4,g4,hn4,hw4⟩:=z0m hx'.wf (.row zero6 28) (.row (six t.args[i] a1 c1) 28);simp only[e4];clear e4;have hs:=z22 (Zc hlt);refine(ih (t:=t.args[i]) (by omega) (hr1.mono (hx'.trans hx4) hw) (hf.args _ (Zu _)) (B.stay _ _ hj (hx'.trans hx4)) hw4).mono ?_;rintro v H5 ⟨cs',rfl,⟨a2,c2,rfl,hb2,hf2⟩,hx5⟩;have hx45:=hx4.trans hx5;have gr5:=hx45.get hx'.wf gr';have gp5:=hx45.get hx'.wf gp';have gq5:=hx45.get hx'.wf gq';have hle:i*6+6<=cells'.length:=by rw[hlen];exact mul6 hlt
    have hln:=hx45.next;have hln2:=hx5.next;have hlt3:=hx'.wf _ _ gq';have hlt4:=hx'.wf _ _ gr'
    repeat' (first|(refine qZb ?_;simp (config:=qZc) (disch:=first|omega|rfl) only[sB,Za,t19,z0c])|(refine z0q ?_;simp (config:=qZc) (disch:=first|omega|rfl) only[sB,Zb,one,st28,gr5,hle]))
    have hx6:=(hx'.trans hx45).pt (i:=H.next+2) (by omega) gr5 (some (.row (Hb.splice cells' (i*6) (six (sub σ t.args[i]) a2 c2)) 28));have et:(t.args.take (i+1)).map (sub σ)=(t.args.take i).map (sub σ)++[sub σ t.args[i]]:=by rw[<-List.take_append_getElem hlt,ZI];rfl
    have etl:((t.args.take i).map (sub σ)).length=i:=by rw[Zp,Zo];omega
    obtain⟨Si',ai',ci',hsn⟩:∃Si ai ci,FLs (H5.put (H.next+2) (some (.row (Hb.splice cells' (i*6) (six (sub σ t.args[i]) a2 c2)) 28))) 28 (Rg (H.next+3) H5.next) ((t.args.take (i+1)).map (sub σ)) (Hb.splice cells' (i*6) (six (sub σ t.args[i]) a2 c2)) Si ai ci:=by
     rw[et];refine⟨_,_,_,hfl.snoc (S':=Rg (H.next+3) H5.next) (N:=Rg H4.next H5.next) (fun n hn hl=>?_) hx'.wf (hf2.heap (fun n hn hl=>?_) hx5.wf) hb2 (fun n hn hs=>?_) (fun n hn=>?_) (fun n hn=>?_) (fun j hj=>?_) ?_⟩
     ·have:=hn.1;rw[get_put,if_neg (by omega)];exact hx45.keep n hl
     ·have:=hn.1;rw[get_put,if_neg (by omega)]
     ·have:=hn.1;have:=hs.2;omega
     ·exact⟨hn.1,by have:=hn.2;omega⟩
     ·exact⟨by have:=hn.1;omega,hn.2⟩
     ·rw[etl] at hj;exact z2b hle rfl (.inl (mul6 hj))
     ·rw[etl];exact z2k hle rfl
    exact⟨t.args.length - (i+1),by omega,_,_,i+1,Hb.splice cells' (i*6) (six (sub σ t.args[i]) a2 c2),Si',ai',ci',rfl,rfl,by omega,(by simp only[sG,Za,t0]),(by simp only[sG,Za,t1]),(by simp only[sG,Za,t2]),(by simp only[sG,Za,t3]),(by simp only[sG,Za,t17]),(by simp only[sG,Za,t18]),(by simp only[sB,Za];rfl),
     by rw[get_put,if_neg (by omega)];exact gp5,by rw[get_put,if_neg (by omega)];exact gq5,by rw[get_put,if_pos rfl],by rw[z28 hle];exact hlen,hsn,hx6⟩
   ·repeat' (first|refine qZa ?_|(refine qZi ?_;try simp only[sB])|(refine qZf ?_)|(refine qZb ?_;simp (config:=qZc) (disch:=first|omega|rfl) only[sB,Za,Zb,one,cutC,st28,ld28,z0u,st26,t1,t2,t3,t18,t19,q1,gp',gq',decn hlt,ne1])|(refine qZm ?_ ?_;simp (config:=qZc) (disch:=first|omega|rfl) only[sB];refine z02 ?_))
    have hi':i=t.args.length:=by omega
    have hlt3:=hx'.wf _ _ gr';have hx7:=(hx'.pt (Ze _) gp' (some (.row (six t (some ⟨H.next+2,0,none⟩) t.args.length) 28))).pt (i:=H.next+1) (Nat.le_succ _) (by rw[get_put,if_neg (by omega)];exact gq')
     (some (.row (six t (some ⟨H.next+2,0,none⟩) t.args.length) 28))
    refine z0a rfl (by simp only[sB,Za,t2];rfl) (by simp only[sB,Zb,cutC,ld28];rfl) ⟨_,rfl,⟨some ⟨H.next+2,0,none⟩,t.args.length,by rw[hsix],hbd',?_⟩,hx7⟩;rw[hi',Zm (Ze _),<-hsa] at hfl;have hsl:(sub σ t).args.length=t.args.length:=by rw[hsa,Zp]
    refine(hfl.heap (fun n hn _=>?_) hx'.wf).row (by omega) (Zj hfew (by simp [maxLen])) (cells:=cells') ?_ (by omega) ⟨by omega,hlt3⟩ (fun h=>?_) (fun n hn=>⟨by have:=hn.1;omega,hn.2⟩)
    ·have:=hn.1;rw[get_put,if_neg (by omega),get_put,if_neg (by omega)]
    ·rw[get_put,if_neg (by omega),get_put,if_neg (by omega)];exact gr'
    ·have:=h.1;omega
  ·refine⟨_,_,0,repL t.args.length zero6,fun _ _=>False,fun _=>none,fun _=>0,rfl,rfl,by omega,(by simp only[sG,Za,reduceCtorEq]),(by simp only[sG,Za,reduceCtorEq]),(by simp only[sG,Za,reduceCtorEq]),by rw[hn2];first|(simp only[sG,Za,reduceCtorEq];rfl)|simp only[sG,Za,reduceCtorEq],(by simp only[sG,Za,reduceCtorEq]),(by simp only[sG,Za,reduceCtorEq]),(by simp only[sB,Za,reduceCtorEq];rfl),gp3,gq3,gr,by rw[z48];rfl,FLs.nil,hx23⟩
abbrev seven (n:Int) (t:Tm) (a:Option Addr) (c:Nat):List Value:=.int .i64 n :: six t a c
structure RepB7 (H:Heap) (B:List (Int × Tm)) (a:Option Addr) (c:Nat):Prop where
 len:B.length<=c
 cap:c<=maxLen
 el:∀(i:Nat) (h:i < B.length),∃b o a' c',a=some ⟨b,o,none⟩/\H.load ⟨b,o+i*7,none⟩ 7=some (seven B[i].1 B[i].2 a' c')/\RepT H B[i].2 (six B[i].2 a' c')
theorem RepB7.mono {H H':Heap}{B:List (Int × Tm)}{a:Option Addr}{c:Nat}(h:RepB7 H B a c) (hx:HX H H') (hw:H.wf):RepB7 H' B a c :=
 ⟨h.len,h.cap,fun i hi=>by obtain⟨b,o,a',c',e,l,r⟩:=h.el i hi;exact⟨b,o,a',c',e,hx.load hw l,r.mono hx hw⟩⟩
end Go.Proofs.hq
end

section
namespace Go.Hb
section
variable {α:Type}
structure Ordr (G:α->Prop) (cmp:α->α->Int):Prop where
 anti:∀x y,G x->G y->cmp y x=-(cmp x y)
 le:∀x y z,G x->G y->G z->cmp x y<=0->cmp y z<=0->cmp x z<=0
variable {G:α->Prop}{cmp:α->α->Int}
theorem Ordr.self (o:Ordr G cmp) {x:α}(h:G x):cmp x x=0:=by have:=o.anti x x h h;omega
def like (cmp:α->α->Int) (x:α) (l:List α):List α:=l.filter fun y=>cmp x y == 0
theorem z4c {x:α}(l m:List α):like cmp x (l++m)=like cmp x l++like cmp x m:=List.filter_append ..
structure Stb (G:α->Prop) (cmp:α->α->Int) (l m:List α):Prop where
 perm:l.Perm m
 eq:∀x,G x->like cmp x l=like cmp x m
theorem Stb.refl (l:List α):Stb G cmp l l:=⟨.refl _,fun _ _=>rfl⟩
theorem Stb.symm {l m:List α}(h:Stb G cmp l m):Stb G cmp m l:=⟨h.perm.symm,fun x hx=>(h.eq x hx).symm⟩
theorem Stb.trans {l m n:List α}(h:Stb G cmp l m) (k:Stb G cmp m n):Stb G cmp l n:=⟨h.perm.trans k.perm,fun x hx=>(h.eq x hx).trans (k.eq x hx)⟩
theorem Stb.append {l m l' m':List α}(h:Stb G cmp l m) (k:Stb G cmp l' m'):Stb G cmp (l++l') (m++m') :=
 ⟨h.perm.append k.perm,fun x hx=>by rw[z4c,z4c,h.eq x hx,k.eq x hx]⟩
theorem zhd {x:α}{l:List α}(h:∀y∈l,cmp x y≠0):like cmp x l=[]:=by
 unfold like;rw[List.filter_eq_nil_iff];intro y hy;simpa using h y hy
theorem Stb.swap (o:Ordr G cmp) {u v:List α}(hu:∀x∈u,G x) (hv:∀x∈v,G x) (h:∀x∈u,∀y∈v,cmp y x < 0):Stb G cmp (u++v) (v++u):=by
 refine⟨List.perm_append_comm,fun z hz=>?_⟩;rw[z4c,z4c];by_cases hc:∃x∈u,cmp z x=0
 ·obtain⟨x,hx,he⟩:=hc;have:like cmp z v=[]:=zhd fun y hy e=>by
   have h1:=h x hx y hy;have h2:=o.anti z y hz (hv y hy);have:=o.le y z x (hv y hy) hz (hu x hx) (by omega) (by omega);have h3:=o.anti z x hz (hu x hx);have:=o.le x z y (hu x hx) hz (hv y hy) (by omega) (by omega);have:=o.anti x y (hu x hx) (hv y hy);omega
  rw[this];simp
 ·have:like cmp z u=[]:=zhd fun y hy e=>hc ⟨y,hy,e⟩
  rw[this];simp
def Srt (cmp:α->α->Int) (l:List α):Prop:=l.Pairwise fun x y=>cmp x y<=0
theorem Srt.one (o:Ordr G cmp):∀{l m:List α},(∀x∈l,G x)->Srt cmp l->Srt cmp m->Stb G cmp l m->l=m
 |[],m,_,_,_,h=>by have:=h.perm.length_eq;exact(List.length_eq_zero_iff.1 this.symm).symm
 |x :: l,[],_,_,_,h=>by have:=h.perm.length_eq;simp at this
 |x :: l,y :: m,hg,h1,h2,h=>by
  have hgm:∀z∈y :: m,G z:=fun z hz=>hg z (h.perm.mem_iff.2 hz)
  have gx:=hg x (by simp);have gy:=hgm y (by simp);have hxy:cmp x y<=0:=by
   have hy:y∈x :: l:=h.perm.mem_iff.2 (by simp);rcases List.mem_cons.1 hy with e|hy
   ·rw[e,o.self gx];exact Int.le_refl _
   ·exact(List.pairwise_cons.1 h1).1 y hy
  have hyx:cmp y x<=0:=by
   have hx:x∈y :: m:=h.perm.mem_iff.1 (by simp);rcases List.mem_cons.1 hx with e|hx
   ·rw[e,o.self gy];exact Int.le_refl _
   ·exact(List.pairwise_cons.1 h2).1 x hx
  have a:=o.anti x y gx gy;have e0:=h.eq x gx;unfold like at e0;rw[List.filter_cons_of_pos (by simp [o.self gx]),List.filter_cons_of_pos (by simp;omega)] at e0;obtain⟨rfl,-⟩:=List.cons.inj e0;rw[Srt.one o (fun z hz=>hg z (Zn _ hz)) (List.pairwise_cons.1 h1).2 (List.pairwise_cons.1 h2).2 ⟨h.perm.cons_inv,fun z hz=>?_⟩];have:=h.eq z hz;unfold like at this ⊢;by_cases hc:cmp z x=0
  ·rw[List.filter_cons_of_pos (by simp [hc]),List.filter_cons_of_pos (by simp [hc])] at this;exact(List.cons.inj this).2
  ·rw[List.filter_cons_of_neg (by simp [hc]),List.filter_cons_of_neg (by simp [hc])] at this;exact this
def rowF (n:Nat) (D:Nat->α):List α:=(Zh n).map D
def segF (a n:Nat) (D:Nat->α):List α:=(List.range' a n).map D
theorem z80 {a n:Nat}{D:Nat->α}{x:α}:x∈segF a n D↔∃i,a<=i/\i < a+n/\D i=x:=by
 simp [segF,and_assoc]
theorem z5b {a m n:Nat}{D:Nat->α}:segF a (m+n) D=segF a m D++segF (a+m) n D:=by
 unfold segF;rw[<-ZI,List.range'_append_1]
theorem zhe {n:Nat}{D:Nat->α}:rowF n D=segF 0 n D:=by unfold rowF segF;rw[List.range_eq_range']
theorem z5c {a b n:Nat}{D E:Nat->α}(h:∀i,i < n->D (a+i)=E (b+i)):segF a n D=segF b n E:=by
 apply List.ext_getElem
 ·simp [segF]
 ·intro i h1 h2;simp [segF] at h1 ⊢;exact h i h1
structure Mv (G:α->Prop) (cmp:α->α->Int) (a b:Nat) (D E:Nat->α):Prop where
 out:∀k,k < a\/b<=k->E k=D k
 inn:∀k,a<=k->k < b->∃j,a<=j/\j < b/\E k=D j
 stb:∀n,b<=n->Stb G cmp (rowF n D) (rowF n E)
theorem Mv.refl {a b:Nat}(D:Nat->α):Mv G cmp a b D D:=⟨fun _ _=>rfl,fun k h1 h2=>⟨k,h1,h2,rfl⟩,fun _ _=>.refl _⟩
theorem Mv.trans {a b:Nat}{D E F:Nat->α}(h:Mv G cmp a b D E) (k:Mv G cmp a b E F):Mv G cmp a b D F :=
 ⟨fun i hi=>(k.out i hi).trans (h.out i hi),fun i h1 h2=>by
  obtain⟨j,j1,j2,e⟩:=k.inn i h1 h2;obtain⟨l,l1,l2,e2⟩:=h.inn j j1 j2;exact⟨l,l1,l2,e.trans e2⟩,fun n hn=>(h.stb n hn).trans (k.stb n hn)⟩
theorem Mv.wide {a b a' b':Nat}{D E:Nat->α}(h:Mv G cmp a b D E) (ha:a'<=a) (hb:b<=b'):Mv G cmp a' b' D E :=
 ⟨fun k hk=>h.out k (by omega),fun k h1 h2=>by
  by_cases hk:a<=k/\k < b
  ·obtain⟨j,j1,j2,e⟩:=h.inn k hk.1 hk.2;exact⟨j,by omega,by omega,e⟩
  ·exact⟨k,h1,h2,h.out k (by omega)⟩,fun n hn=>h.stb n (by omega)⟩
theorem Mv.good {a b:Nat}{D E:Nat->α}(h:Mv G cmp a b D E) {n:Nat}(hb:b<=n) (hg:∀k,k < n->G (D k)):∀k,k < n->G (E k):=fun k hk=>by
 by_cases hc:a<=k/\k < b
 ·obtain⟨j,_,j2,e⟩:=h.inn k hc.1 hc.2;rw[e];exact hg j (by omega)
 ·rw[h.out k (by omega)];exact hg k hk
def rotF (a m b:Nat) (D:Nat->α):Nat->α:=fun k=>if a<=k/\k < a+(b - m) then D (k+(m - a)) else if a<=k/\k < b then D (k - (b - m)) else D k
theorem Mv.rot (o:Ordr G cmp) {a m b:Nat}{D:Nat->α}(h1:a<=m) (h2:m<=b) (hg:∀k,k < b->G (D k)) (h:∀i j,a<=i->i < m->m<=j->j < b->cmp (D j) (D i) < 0):Mv G cmp a b D (rotF a m b D):=by
 refine⟨fun k hk=>?_,fun k k1 k2=>?_,fun n hn=>?_⟩
 ·unfold rotF;rw[if_neg (by omega),if_neg (by omega)]
 ·unfold rotF;by_cases hc:k < a+(b - m)
  ·rw[if_pos ⟨k1,hc⟩];exact⟨_,by omega,by omega,rfl⟩
  ·rw[if_neg (by omega),if_pos ⟨k1,k2⟩];exact⟨_,by omega,by omega,rfl⟩
 ·obtain⟨p,rfl⟩:∃p,n=a+((m - a)+(b - m))+p:=⟨n - b,by omega⟩
  rw[zhe,zhe,z5b,z5b,z5b,z5b (D:=rotF a m b D),z5b (D:=rotF a m b D),show segF (0+a) (m - a+(b - m)) (rotF a m b D)=segF (0+a) (b - m) (rotF a m b D)++segF (0+a+(b - m)) (m - a) (rotF a m b D) by rw[<-z5b,Nat.add_comm (b - m)]];rw[z5c (a:=0) (b:=0) (D:=rotF a m b D) (E:=D) (fun i hi=>by unfold rotF;rw[if_neg (by omega),if_neg (by omega)]),
   z5c (a:=0+a) (b:=0+a+(m - a)) (D:=rotF a m b D) (E:=D) (fun i hi=>by unfold rotF;rw[if_pos (by omega)];congr 1;omega),
   z5c (a:=0+a+(b - m)) (b:=0+a) (D:=rotF a m b D) (E:=D) (fun i hi=>by unfold rotF;rw[if_neg (by omega),if_pos (by omega)];congr 1;omega),
   z5c (a:=0+(a+(m - a+(b - m)))) (b:=0+(a+(m - a+(b - m)))) (D:=rotF a m b D) (E:=D) (fun i hi=>by unfold rotF;rw[if_neg (by omega),if_neg (by omega)])]
  refine((Stb.refl _).append (Stb.swap o (fun x hx=>?_) (fun x hx=>?_) (fun x hx y hy=>?_))).append (.refl _)
  ·obtain⟨i,i1,i2,rfl⟩:=z80.1 hx;exact hg i (by omega)
  ·obtain⟨i,i1,i2,rfl⟩:=z80.1 hx;exact hg i (by omega)
  ·obtain⟨i,i1,i2,rfl⟩:=z80.1 hx;obtain⟨j,j1,j2,rfl⟩:=z80.1 hy;exact h i j (by omega) (by omega) (by omega) (by omega)
def swF (i j:Nat) (D:Nat->α):Nat->α:=fun k=>if k=i then D j else if k=j then D i else D k
theorem zsq {j:Nat}{D:Nat->α}:rotF j (j+1) (j+2) D=swF j (j+1) D:=by
 funext k
 unfold rotF swF;by_cases h1:k=j
 ·subst h1;rw[if_pos (by omega),if_pos rfl];congr 1;omega
 ·by_cases h2:k=j+1
  ·subst h2;rw[if_neg (by omega),if_pos (by omega),if_neg (by omega),if_pos rfl];congr 1;omega
  ·rw[if_neg (by omega),if_neg (by omega),if_neg h1,if_neg h2]
theorem Mv.swap (o:Ordr G cmp) {a b j:Nat}{D:Nat->α}(h1:a<=j) (h2:j+2<=b) (hg:∀k,k < b->G (D k)) (h:cmp (D (j+1)) (D j) < 0):Mv G cmp a b D (swF j (j+1) D):=by
 rw[<-zsq];refine(Mv.rot o (by omega) (by omega) (fun k hk=>hg k (by omega)) fun i k i1 i2 k1 k2=>?_).wide h1 h2;obtain rfl:i=j:=by omega
 obtain rfl:k=i+1:=by omega
 exact h
def InO (cmp:α->α->Int) (a b:Nat) (D:Nat->α):Prop:=∀p q,a<=p->p < q->q < b->cmp (D p) (D q)<=0
end
end Go.Hb
end

section
namespace Go.Hb
section
variable {α:Type}
def Pm (a b:Nat) (D E:Nat->α):Prop:=∃s t:Nat->Nat,(∀k,t (s k)=k)/\(∀k,s (t k)=k)/\(∀k,k < a\/b<=k->s k=k)/\∀k,E k=D (s k)
theorem Pm.refl {a b:Nat}(D:Nat->α):Pm a b D D:=⟨id,id,fun _=>rfl,fun _=>rfl,fun _ _=>rfl,fun _=>rfl⟩
theorem Pm.trans {a b:Nat}{D E F:Nat->α}(h:Pm a b D E) (k:Pm a b E F):Pm a b D F:=by
 obtain⟨s,t,h1,h2,h3,h4⟩:=h;obtain⟨u,v,k1,k2,k3,k4⟩:=k;refine⟨fun i=>s (u i),fun i=>v (t i),fun i=>by simp only[h1,k1],fun i=>by simp only[h2,k2],fun i hi=>by simp only[k3 i hi,h3 i hi],fun i=>by rw[k4,h4]⟩
theorem Pm.wide {a b a' b':Nat}{D E:Nat->α}(h:Pm a b D E) (ha:a'<=a) (hb:b<=b'):Pm a' b' D E:=by
 obtain⟨s,t,h1,h2,h3,h4⟩:=h;exact⟨s,t,h1,h2,fun k hk=>h3 k (by omega),h4⟩
theorem Pm.out {a b:Nat}{D E:Nat->α}(h:Pm a b D E) {k:Nat}(hk:k < a\/b<=k):E k=D k:=by
 obtain⟨s,t,h1,h2,h3,h4⟩:=h;rw[h4,h3 k hk]
theorem Pm.inn {a b:Nat}{D E:Nat->α}(h:Pm a b D E) {k:Nat}(h1:a<=k) (h2:k < b):∃j,a<=j/\j < b/\E k=D j:=by
 obtain⟨s,t,k1,k2,k3,k4⟩:=h;by_cases hc:a<=s k/\s k < b
 ·exact⟨s k,hc.1,hc.2,k4 k⟩
 ·have e:=k3 (s k) (by omega);have e2:=k1 (s k);rw[e] at e2;have e3:=k1 k;rw[e3] at e2;omega
theorem Pm.swap {a b i j:Nat}{D:Nat->α}(h1:a<=i) (h2:i < b) (h3:a<=j) (h4:j < b):Pm a b D (swF i j D):=by
 refine⟨fun k=>if k=i then j else if k=j then i else k,fun k=>if k=i then j else if k=j then i else k,fun k=>?_,fun k=>?_,fun k hk=>?_,fun k=>?_⟩
 ·by_cases e1:k=i
  ·subst e1;by_cases e2:j=k<;>simp [e2]
  ·by_cases e2:k=j
   ·subst e2;simp [e1]
   ·simp [e1,e2]
 ·by_cases e1:k=i
  ·subst e1;by_cases e2:j=k<;>simp [e2]
  ·by_cases e2:k=j
   ·subst e2;simp [e1]
   ·simp [e1,e2]
 ·simp only;rw[if_neg (by omega),if_neg (by omega)]
 ·unfold swF;simp only;split
  ·rfl
  ·split<;>rfl
theorem Pm.all {a b:Nat}{D E:Nat->α}(h:Pm a b D E) {P:α->Prop}(hP:∀k,a<=k->k < b->P (D k)):∀k,a<=k->k < b->P (E k):=fun k h1 h2=>by
 obtain⟨j,j1,j2,e⟩:=h.inn h1 h2;rw[e];exact hP j j1 j2
def InZ (z:α->Int) (a b:Nat) (D:Nat->α):Prop:=∀p q,a<=p->p < q->q < b->z (D p)<=z (D q)
theorem InZ.few {z:α->Int}{a b:Nat}{D:Nat->α}(h:b<=a+1):InZ z a b D:=fun p q h1 h2 h3=>by omega
theorem InZ.join {z:α->Int}{a m b:Nat}{D:Nat->α}(h1:InZ z a m D) (h2:InZ z (m+1) b D) (h3:∀k,a<=k->k < m->z (D k)<=z (D m)) (h4:∀k,m < k->k < b->z (D m)<=z (D k)):InZ z a b D:=fun p q hp hpq hq=>by
 by_cases c1:q < m
 ·exact h1 p q hp hpq c1
 by_cases c2:m < p
 ·exact h2 p q (by omega) hpq hq
 by_cases c3:p=m
 ·subst c3;exact h4 q hpq hq
 by_cases c4:q=m
 ·subst c4;exact h3 p hp hpq
 exact Int.le_trans (h3 p hp (by omega)) (h4 q (by omega) hq)
def HpF (z:α->Int) (f lo hi:Nat) (D:Nat->α):Prop:=∀k c,lo<=k->(c=2*k+1\/c=2*k+2)->c < hi->z (D (f+c))<=z (D (f+k))
def HpX (z:α->Int) (f lo hi r:Nat) (D:Nat->α):Prop :=
 (∀k c,lo<=k->k≠r->(c=2*k+1\/c=2*k+2)->c < hi->z (D (f+c))<=z (D (f+k))) /\
 (∀k c,lo<=k->(r=2*k+1\/r=2*k+2)->(c=2*r+1\/c=2*r+2)->c < hi->z (D (f+c))<=z (D (f+k)))
theorem HpX.done {z:α->Int}{f lo hi r:Nat}{D:Nat->α}(h:HpX z f lo hi r D) (hr:∀c,(c=2*r+1\/c=2*r+2)->c < hi->z (D (f+c))<=z (D (f+r))):HpF z f lo hi D:=fun k c h1 h2 h3=>by
 by_cases e:k=r
 ·subst e;exact hr c h2 h3
 ·exact h.1 k c h1 e h2 h3
theorem HpX.start {z:α->Int}{f lo hi:Nat}{D:Nat->α}(h:HpF z f (lo+1) hi D):HpX z f lo hi lo D :=
 ⟨fun k c h1 h2 h3 h4=>h k c (by omega) h3 h4,fun k c h1 h2 h3 h4=>by omega⟩
theorem HpX.step {z:α->Int}{f lo hi r c:Nat}{D:Nat->α}(h:HpX z f lo hi r D) (hlo:lo<=r) (hc:c=2*r+1\/c=2*r+2) (hi1:c < hi) (hlt:z (D (f+r)) < z (D (f+c)))
  (hbig:∀d,(d=2*r+1\/d=2*r+2)->d < hi->z (D (f+d))<=z (D (f+c))):HpX z f lo hi c (swF (f+r) (f+c) D):=by
 have e1:swF (f+r) (f+c) D (f+r)=D (f+c):=by unfold swF;rw[if_pos rfl]
 have e2:swF (f+r) (f+c) D (f+c)=D (f+r):=by unfold swF;rw[if_neg (by omega),if_pos rfl]
 have e3:∀k,k≠r->k≠c->swF (f+r) (f+c) D (f+k)=D (f+k):=fun k h1 h2=>by unfold swF;rw[if_neg (by omega),if_neg (by omega)]
 constructor
 ·intro k d h1 h2 h3 h4;by_cases k1:k=r
  ·subst k1;rw[e1];by_cases d1:d=c
   ·subst d1;rw[e2];omega
   ·rw[e3 d (by omega) d1];exact hbig d h3 h4
  ·rw[e3 k k1 h2];by_cases d1:d=r
   ·subst d1;rw[e1];exact h.2 k c h1 h3 hc hi1
   ·by_cases d2:d=c
    ·omega
    ·rw[e3 d d1 d2];exact h.1 k d h1 k1 h3 h4
 ·intro k d h1 h2 h3 h4;obtain rfl:k=r:=by omega
  rw[e1,e3 d (by omega) (by omega)];exact h.1 c d (by omega) (by omega) h3 h4
theorem HpF.top {z:α->Int}{f hi:Nat}{D:Nat->α}(h:HpF z f 0 hi D):∀k,k < hi->z (D (f+k))<=z (D f):=by
 intro k
 induction k using Nat.strongRecOn with
 |_ k ih =>
  intro hk;by_cases h0:k=0
  ·subst h0;exact Int.le_refl _
  ·have:=h ((k - 1) / 2) k (Zl _) (by omega) hk;exact Int.le_trans this (ih _ (by omega) (by omega))
theorem HpF.drop {z:α->Int}{a j:Nat}{D:Nat->α}(hp:HpF z a 0 (j+1) D):HpF z a 1 j (swF a (a+j) D):=fun k c h1 h2 h3=>by
 have hk:swF a (a+j) D (a+k)=D (a+k):=by unfold swF;rw[if_neg (by omega),if_neg (by omega)]
 have hc:swF a (a+j) D (a+c)=D (a+c):=by unfold swF;rw[if_neg (by omega),if_neg (by omega)]
 rw[hk,hc];exact hp k c (Zl _) h2 (by omega)
end
end Go.Hb
end

section
namespace Go.Hb
open Go Go.RowKit
structure El where
 t:Tm
 a:Option Addr
 c:Nat
 S:Nat->Prop
abbrev El.six (e:El):List Value:=Hb.six e.t e.a e.c
theorem El.six_len (e:El):e.six.length=6:=rfl
theorem El.six_ones (e:El):e.six.all one=true:=rfl
structure RowE (H:Heap) (T:TypeId) (b n:Nat) (D:Nat->El):Prop where
 row:∃cells,H.get b=some (.row cells T)/\n*6<=cells.length/\∀k,k < n->(cells.drop (k*6)).take 6=(D k).six
theorem RowE.load {H:Heap}{T:TypeId}{b n:Nat}{D:Nat->El}(h:RowE H T b n D) {k:Nat}(hk:k < n):H.load ⟨b,k*6,none⟩ 6=some (D k).six:=by
 obtain⟨cells,hg,hl,he⟩:=h;unfold Heap.load Heap.cells;simp only[hg,he k hk];rfl
theorem RowE.heap {H H':Heap}{T:TypeId}{b n:Nat}{D:Nat->El}(h:RowE H T b n D) (hg:H'.get b=H.get b):RowE H' T b n D:=by
 obtain⟨cells,h1,h2⟩:=h;exact⟨cells,by rw[hg];exact h1,h2⟩
theorem RowE.congr {H:Heap}{T:TypeId}{b n:Nat}{D E:Nat->El}(h:RowE H T b n D) (he:∀k,k < n->E k=D k):RowE H T b n E:=by
 obtain⟨cells,h1,h2,h3⟩:=h;exact⟨cells,h1,h2,fun k hk=>by rw[he k hk];exact h3 k hk⟩
theorem RowE.put {H:Heap}{T:TypeId}{b n:Nat}{D:Nat->El}{cells:List Value}(hl:n*6<=cells.length) (he:∀k,k < n->(cells.drop (k*6)).take 6=(D k).six) {i:Nat}(hi:i < n) (e:El) :
  RowE (H.put b (some (.row (Hb.splice cells (i*6) e.six) T))) T b n (fun k=>if k=i then e else D k):=by
 have hle:i*6+e.six.length<=cells.length:=by have:=mul6 hi;rw[El.six_len];omega
 refine⟨_,by rw[get_put,if_pos rfl],by rw[z28 hle];exact hl,fun k hk=>?_⟩;by_cases h:k=i
 ·subst h;rw[if_pos rfl];exact z2k (s:=6) hle rfl
 ·rw[if_neg h,z2b (s:=6) hle rfl (by rcases Nat.lt_or_gt_of_ne h with h|h;exact .inl (mul6 h);exact .inr (mul6 h))];exact he k hk
theorem RowE.swap {H:Heap}{T:TypeId}{b n:Nat}{D:Nat->El}{cells:List Value}(hl:n*6<=cells.length) (he:∀k,k < n->(cells.drop (k*6)).take 6=(D k).six) {i j:Nat}(hi:i < n) (hj:j < n) (hij:i≠j) (H2:Heap)
  (h2:H2.get b=some (.row (Hb.splice (Hb.splice cells (i*6) (D j).six) (j*6) (D i).six) T)):RowE H2 T b n (swF i j D):=by
 obtain⟨c1,g1,l1,e1⟩:=RowE.put (H:=H) (T:=T) (b:=b) hl he hi (D j);rw[get_put,if_pos rfl] at g1;cases g1;have:=(RowE.put (H:=H2) (T:=T) (b:=b) l1 e1 hj (D i)).heap (H':=H2) (by rw[get_put,if_pos rfl,h2]);refine this.congr fun k hk=>?_
 unfold swF;by_cases h1:k=i
 ·subst h1;rw[if_pos rfl,if_neg hij,if_pos rfl]
 ·rw[if_neg h1];by_cases h3:k=j
  ·rw[if_pos h3,if_pos h3]
  ·rw[if_neg h3,if_neg h3,if_neg h1]
end Go.Hb
end

section
namespace Go.Hb
open Go Go.RowKit
def dNil (v:Value) (H:Heap):Option Dr:=match v with
 |.pointer (some a)=>some (.val (.pointer (some a)) H)
 |.func (.func f) a b=>some (.val (.func (.func f) a b) H)
 |_=>none
structure Bnd where
 v:Int
 e:El
abbrev Bnd.seven (d:Bnd):List Value:=.int .i64 d.v :: d.e.six
theorem Bnd.seven_len (d:Bnd):d.seven.length=7:=rfl
theorem mul7 {k n:Nat}(h:k < n):k*7+7<=n*7:=by omega
structure RowB (H:Heap) (T:TypeId) (b n:Nat) (D:Nat->Bnd):Prop where
 row:∃cells,H.get b=some (.row cells T)/\n*7<=cells.length/\∀k,k < n->(cells.drop (k*7)).take 7=(D k).seven
theorem RowB.load {H:Heap}{T:TypeId}{b n:Nat}{D:Nat->Bnd}(h:RowB H T b n D) {k:Nat}(hk:k < n):H.load ⟨b,k*7,none⟩ 7=some (D k).seven:=by
 obtain⟨cells,hg,hl,he⟩:=h;unfold Heap.load Heap.cells;simp only[hg,he k hk];rfl
theorem RowB.heap {H H':Heap}{T:TypeId}{b n:Nat}{D:Nat->Bnd}(h:RowB H T b n D) (hg:H'.get b=H.get b):RowB H' T b n D:=by
 obtain⟨cells,h1,h2⟩:=h;exact⟨cells,by rw[hg];exact h1,h2⟩
theorem RowB.congr {H:Heap}{T:TypeId}{b n:Nat}{D E:Nat->Bnd}(h:RowB H T b n D) (he:∀k,k < n->E k=D k):RowB H T b n E:=by
 obtain⟨cells,h1,h2,h3⟩:=h;exact⟨cells,h1,h2,fun k hk=>by rw[he k hk];exact h3 k hk⟩
theorem RowB.put {H:Heap}{T:TypeId}{b n:Nat}{D:Nat->Bnd}{cells:List Value}(hl:n*7<=cells.length) (he:∀k,k < n->(cells.drop (k*7)).take 7=(D k).seven) {i:Nat}(hi:i < n) (e:Bnd) :
  RowB (H.put b (some (.row (Hb.splice cells (i*7) e.seven) T))) T b n (fun k=>if k=i then e else D k):=by
 have hle:i*7+e.seven.length<=cells.length:=by have:=mul7 hi;rw[Bnd.seven_len];omega
 refine⟨_,by rw[get_put,if_pos rfl],by rw[z28 hle];exact hl,fun k hk=>?_⟩;by_cases h:k=i
 ·subst h;rw[if_pos rfl];exact z2k (s:=7) hle rfl
 ·rw[if_neg h,z2b (s:=7) hle rfl (by rcases Nat.lt_or_gt_of_ne h with h|h;exact .inl (mul7 h);exact .inr (mul7 h))];exact he k hk
theorem RowB.swap {H:Heap}{T:TypeId}{b n:Nat}{D:Nat->Bnd}{cells:List Value}(hl:n*7<=cells.length) (he:∀k,k < n->(cells.drop (k*7)).take 7=(D k).seven) {i j:Nat}(hi:i < n) (hj:j < n) (H2:Heap)
  (h2:H2.get b=some (.row (Hb.splice (Hb.splice cells (i*7) (D j).seven) (j*7) (D i).seven) T)):RowB H2 T b n (swF i j D):=by
 obtain⟨c1,g1,l1,e1⟩:=RowB.put (H:=H) (T:=T) (b:=b) hl he hi (D j);rw[get_put,if_pos rfl] at g1;cases g1;have:=(RowB.put (H:=H2) (T:=T) (b:=b) l1 e1 hj (D i)).heap (H':=H2) (by rw[get_put,if_pos rfl,h2]);refine this.congr fun k hk=>?_
 unfold swF;by_cases h1:k=i
 ·subst h1;rw[if_pos rfl];by_cases h3:k=j
  ·subst h3;rw[if_pos rfl]
  ·rw[if_neg h3,if_pos rfl]
 ·rw[if_neg h1];by_cases h3:k=j
  ·rw[if_pos h3,if_pos h3]
  ·rw[if_neg h3,if_neg h3,if_neg h1]
end Go.Hb
end

section
namespace Go.Proofs.hq
open Go Go.RowKit Go.Hb
variable {ok:Ok}
set_option maxRecDepth 10000
attribute [local irreducible] LX LG EL STG SOP SGO SGD SAL SRD SEF SEG SLK SCK ES
theorem z6r {t:Tm}(h:Fine t) (k:t.kind=1):t.args=[]:=(z2a (z2d h.node).2.2.1).2.2.2.2 (by omega)
theorem zbu {α:Type}(o:Option α):(∃u,o=some u)\/o=none:=by
 cases o with
 |none=>exact .inr rfl
 |some u=>exact .inl ⟨u,rfl⟩
def lookT (B:List (Int × Tm)) (n:Int):Option Tm:=(B.find? fun p=>p.1 == n).map (·.2)
theorem zjb {B:List (Int × Tm)}{n m:Int}{u:Tm}(h:lookT B n=none):lookT (B++[(n,u)]) m=if m=n then some u else lookT B m:=by
 unfold lookT at *;rw[List.find?_append];by_cases hm:m=n
 ·subst hm;have:B.find? (fun p=>p.1 == m)=none:=by simpa using h
  rw[if_pos rfl,this];simp
 ·rw[if_neg hm];have:((n == m):Bool)=false:=by simp;omega
  simp [List.find?_cons,this]
theorem zm5 {B:List (Int × Tm)}{n:Int}{u:Tm}(h:lookT B n=some u):(n,u)∈B:=by
 unfold lookT at h;rw[Option.map_eq_some_iff] at h;obtain⟨p,hp,rfl⟩:=h;have h1:=List.find?_some hp;have h2:p.1=n:=by simpa using h1
 rw[<-h2];exact List.mem_of_find?_eq_some hp
def MapT (H0 H:Heap) (r:Nat) (B:List (Int × Tm)):Prop:=∃M,MapR H r M/\∀n,(∀u,lookT B n=some u->∃cs,mGet M n=some (.agg ⟨cs⟩)/\RepT H0 u cs)/\(lookT B n=none->mGet M n=none)
theorem MapT.heap {H0 H H':Heap}{r:Nat}{B:List (Int × Tm)}(h:MapT H0 H r B) (hk:H'.get r=H.get r):MapT H0 H' r B:=by
 obtain⟨M,h1,h2⟩:=h;exact⟨M,h1.heap hk,h2⟩
theorem MapT.lt {H0 H:Heap}{r:Nat}{B:List (Int × Tm)}(h:MapT H0 H r B) (hw:H.wf):r < H.next:=by obtain⟨M,h1,-⟩:=h;exact h1.lt hw
theorem MapT.keep {H0 H H':Heap}{r:Nat}{B:List (Int × Tm)}(h:MapT H0 H r B) (hx:HX H H') (hw:H.wf):MapT H0 H' r B:=h.heap (hx.keep r (h.lt hw))
theorem MapT.push {P:Program}{t kt et:TypeId}{z:Value}{H0 H:Heap}{r:Nat}{B:List (Int × Tm)}{n:Int}{u:Tm}{cs:List Value}(hp:mpOk P t kt et z) (h:MapT H0 H r B) (hn:lookT B n=none) (hu:RepT H0 u cs) :
  ∃K,dUp P t (.map (some r)) (.int .i64 n) (.agg ⟨cs⟩) H=some (.val undef (H.put r (some K)))/\MapT H0 (H.put r (some K)) r (B++[(n,u)]):=by
 obtain⟨M,h1,h2⟩:=h;have hM:=(h2 n).2 hn;obtain⟨K,k1,k2⟩:=zbs (v:=.agg ⟨cs⟩) hp h1 hM;refine⟨K,k1,_,k2,fun m=>?_⟩;rw[zjb hn,z94 hM];by_cases hm:m=n
 ·rw[if_pos hm,if_pos hm];exact⟨fun w hw=>by cases hw;exact⟨cs,rfl,hu⟩,fun hw=>by cases hw⟩
 ·rw[if_neg hm,if_neg hm];exact h2 m
theorem zfe:mpOk Tryz.prog 112 3 28 (.agg ⟨zero6⟩):=⟨Tryz.underlying112,Tryz.underlying3,by kernel_rfl,rfl⟩
theorem row1 {H:Heap}{p:Nat}{T:TypeId}{v:Value}(h:H.get p=some (.row [v] T)):H.load ⟨p,0,none⟩ 1=some [v]:=by simp only[Heap.load,Heap.cells,h];rfl
mutual
def subO (σ:Int->Option Tm):Tm->Tm
 |.mk k s u b v l=>if k=1 then (σ v).getD (.mk k s u b v l) else .mk k s u b v (subOL σ l)
def subOL (σ:Int->Option Tm):List Tm->List Tm
 |[]=>[]
 |t :: l=>subO σ t :: subOL σ l
end
theorem zdn (σ:Int->Option Tm):∀l:List Tm,subOL σ l=l.map (subO σ)
 |[]=>by rw[subOL];rfl
 |t :: l=>by rw[subOL,zdn σ l];rfl
theorem z6s {σ:Int->Option Tm}{t:Tm}(h:t.kind=1):subO σ t=(σ t.var).getD t:=by
 obtain⟨k,s,u,b,v,l⟩:=t;rw[subO,if_pos (show k=1 from h)];rfl
theorem zm6 {σ:Int->Option Tm}{t:Tm}(h:t.kind≠1):subO σ t=.mk t.kind t.name t.num t.bits t.var (t.args.map (subO σ)):=by
 obtain⟨k,s,u,b,v,l⟩:=t;rw[subO,if_neg (show ¬k=1 from h),zdn];rfl
structure ByOpt (g:FuncId) (cap:Array Value) (σ:Int->Option Tm) (J:Heap->Prop):Prop where
 step:∀n H,i64 n->J H->H.wf->EvF Tryz.prog okT g ([.int .i64 n]++cap.toList) H fun v H'=>HX H H'/\((∃u cs,σ n=some u/\v=.tuple #[.agg ⟨cs⟩,.bool true]/\RepT H' u cs)\/(σ n=none/\v=.tuple #[.agg ⟨zero6⟩,.bool false]))
 stay:∀H H',J H->HX H H'->J H'
 fine:∀n u,σ n=some u->Fine u
theorem RepT.made {H:Heap}{t u:Tm}{a:Option Addr}{c:Nat}{cells:Nat->List Value}(hb:Bd t) (e:u=.mk t.kind t.name t.num t.bits t.var u.args) (rl:RepL H u.args a c cells):RepT H u (six u a c):=by
 obtain⟨k,s,w,b,v,l⟩:=u;have e':(Tm.mk k s w b v l)=.mk t.kind t.name t.num t.bits t.var l:=e;injection e' with e1 e2 e3 e4 e5;subst e1 e2 e3 e4 e5;exact .mk _ _ _ _ _ l a c cells hb.kind hb.name hb.num hb.bits hb.var (Zj rl.len rl.cap) rl.len rl.cap rl.nil rl.load rl.rep
def RepS (H:Heap) (S:Nat->Prop) (t:Tm) (cs:List Value):Prop:=∀G:Heap,(∀n,S n->n < H.next->G.get n=H.get n)->RepT G t cs
theorem RepS.rep {H:Heap}{S:Nat->Prop}{t:Tm}{cs:List Value}(h:RepS H S t cs):RepT H t cs:=h H fun _ _ _=>rfl
theorem RepS.to {H H2:Heap}{S S2:Nat->Prop}{t:Tm}{cs:List Value}(h:RepS H S t cs) (hk:∀n,S n->n < H.next->H2.get n=H.get n/\S2 n/\n < H2.next):RepS H2 S2 t cs:=fun G hG=>h G fun n hn hl=>by
 obtain⟨a,b,c⟩:=hk n hn hl;rw[hG n b c,a]
theorem RepF.toS {H:Heap}{T:TypeId}{S:Nat->Prop}{t:Tm}{cs:List Value}(h:RepF H T S t cs) (hw:H.wf):RepS H S t cs:=fun G hG=>by
 obtain⟨a,c,rfl,hb,hf⟩:=h;exact RepF.rep (T:=T) (S:=S) ⟨a,c,rfl,hb,hf.heap hG hw⟩
theorem RepS.leaf {H:Heap}{S:Nat->Prop}{t:Tm}{a:Option Addr}{c:Nat}(hb:Bd t) (he:t.args=[]) (hc:c<=maxLen) (hn:a=none->c=0):RepS H S t (six t a c):=fun G _ =>
 RepT.made (cells:=fun _=>[]) hb (by obtain⟨k,s,u,b,v,l⟩:=t;rfl) (by rw[he];exact⟨Zl _,hc,fun h=>⟨rfl,hn h⟩,fun i ad hi=>by simp at hi,fun i t h=>by simp at h⟩)
theorem RepS.row {H:Heap}{S:Nat->Prop}{T:TypeId}{t u:Tm}{b c:Nat}{cells:List Value}(hb:Bd t) (e:u=.mk t.kind t.name t.num t.bits t.var u.args) (hg:H.get b=some (.row cells T)) (hS:S b) (hbl:b < H.next) (hl:u.args.length*6<=cells.length) (hc:u.args.length<=c) (hm:c<=maxLen)
  (hch:∀(j:Nat) (hj:j < u.args.length),RepS H S u.args[j] ((cells.drop (j*6)).take 6)):RepS H S u (six u (some ⟨b,0,none⟩) c):=fun G hG =>
 RepT.made hb e (RepL.of_row (by rw[hG b hS hbl];exact hg) (fun i hi=>rfl) (fun i t ht=>by
  obtain⟨hj,rfl⟩:=List.getElem?_eq_some_iff.1 ht;exact hch i hj G hG) hc hm)
def TopR (H:Heap) (T:TypeId) (S:Nat->Prop) (t:Tm) (cs:List Value):Prop :=
 t.args=[]\/∃b c cells,cs=six t (some ⟨b,0,none⟩) c/\H.get b=some (.row cells T)/\S b/\b < H.next/\t.args.length*6<=cells.length/\∀j,j < t.args.length->((cells.drop (j*6)).take 6).all one=true
theorem TopR.heap {H H':Heap}{T:TypeId}{S S':Nat->Prop}{t:Tm}{cs:List Value}(h:TopR H T S t cs) (hk:∀n,S n->n < H.next->H'.get n=H.get n/\S' n/\n < H'.next):TopR H' T S' t cs:=by
 rcases h with h|⟨b,c,cells,h1,h2,h3,h4,h5⟩
 ·exact .inl h
 ·obtain⟨k1,k2,k3⟩:=hk b h3 h4;exact .inr ⟨b,c,cells,h1,k1.trans h2,k2,k3,h5⟩
theorem zm7 {t:Tm}{a:Option Addr}{c:Nat}:(six t a c).all one=true:=rfl
theorem RepT.all {H:Heap}{t:Tm}{cs:List Value}(r:RepT H t cs):cs.all one=true:=by obtain⟨a,c,cells,rfl,-⟩:=r.six;exact zm7
theorem RepF.top {H:Heap}{T:TypeId}{S:Nat->Prop}{t:Tm}{cs:List Value}(h:RepF H T S t cs) (hw:H.wf):TopR H T S t cs:=by
 obtain⟨a,c,rfl,hb,hf⟩:=h;generalize hl:t.args=l at hf;cases hf with
 |nil=>exact .inl hl
 |row _ _ b c cells Si ai ci h1 h2 h3 h4 h5 h6 h7 h8 h9 h10 h11 =>
  refine .inr ⟨b,c,cells,rfl,h3,h7,hw _ _ h3,by rw[hl];exact h4,fun j hj=>?_⟩;rw[hl] at hj;rw[h5 j _ (Zc hj)];exact zm7
set_option maxHeartbeats 4000000 in
theorem zjc {g:FuncId}{cap:Array Value}{σ:Int->Option Tm}{J:Heap->Prop}(hg:callable Tryz.prog g=true) (B:ByOpt g cap σ J) {m:Nat}:∀{t:Tm}{cs:List Value}{H:Heap},SizeOf.sizeOf t < m->RepT H t cs->Fine t->J H->H.wf ->
  EvF Tryz.prog okT 63 [.agg ⟨cs⟩,.func (.func g) #[] cap] H fun v H'=>∃cs',v=.agg ⟨cs'⟩/\RepS H' (Rg H.next H'.next) (subO σ t) cs'/\TopR H' 28 (Rg H.next H'.next) (subO σ t) cs'/\HX H H':=by
 induction m with
 |zero=>intro t cs H h;omega
 |succ m ih =>
 intro t cs H hsz r hf hj hw;have r0:=r;have hbd:=r.bd;have hfew:=z58 hf;have hvar:=(z2d hf.node).2.2.2.1;obtain⟨a,c,cells,rfl,-,-,-,-,-,rl⟩:=r.six;refine EvF.enter rfl Tryz.func63 (by decide) rfl ?_;(repeat refine qZa ?_);refine qZb ?_;simp (config:=qZc) (disch:=first|omega|rfl) only[sB,initTm,dBox,dAlloc,Value.cells,one,reduceCtorEq,zr28];obtain⟨H2,e2,hx2,gp,gq,hn2,hw2⟩:=new2 hw (.row (six t a c) 28) (.row zero6 28);simp only[e2];have q1:=row6 gp;clear e2;have hmost:t.args.length<=most:=by unfold most;omega
 have ne1:(H.next+1=H.next)=False:=by simp
 have ne2:(H.next=H.next+1)=False:=by simp
 by_cases k1:t.kind=1
 ·repeat' (first|refine qZa ?_|(refine qZb ?_;simp (config:=qZc) (disch:=first|omega|rfl) only[sB,Za,reduceCtorEq,z0i,ld3,z3e,q1,z0l k1,z2s,z1u hg])|(refine qZd ?_ ?_;simp (config:=qZc) (disch:=first|omega|rfl) only[sB,Za,reduceCtorEq];refine z02 ?_))
  refine(B.step t.var H2 hbd.var (B.stay _ _ hj hx2) hw2).mono ?_;rintro v H3 ⟨hx3,h3⟩;have gq3:=hx3.get hw2 gq;have gp3:=hx3.get hw2 gp;rcases h3 with ⟨u,cs,hσ,rfl,r3⟩|⟨hσ,rfl⟩
  ·obtain⟨a3,c3,zak,rfl,-⟩:=r3.six
   repeat' (first|refine qZa ?_|(refine qZb ?_;simp (config:=qZc) (disch:=first|omega|rfl) only[sB,Za,Zb,reduceCtorEq,cutC,ld28,cl78])|(refine z0q ?_;simp (config:=qZc) (disch:=first|omega|rfl) only[sB,dAlloc,Za,Zb,one,reduceCtorEq,zr28,st28])|(refine qZd ?_ ?_;simp (config:=qZc) (disch:=first|omega|rfl) only[sB,Za,reduceCtorEq];refine z02 ?_))
   obtain⟨H4,e4,hx4,g4,hn4,hw4⟩:=z0m hx3.wf (.row zero6 28) (.row (six u a3 c3) 28);simp only[e4];have hx34:=hx3.trans hx4;have q4:=row6 g4;refine(zlz (Zf _) (r3.mono hx4 hx3.wf) (B.fine _ _ hσ) hw4).mono ?_;rintro v H5 ⟨c5,rfl,⟨a5,k5,rfl,hb5,hf5⟩,hx5⟩;have gq5:=hx5.get hw4 (hx4.get hx3.wf gq3);have hx25:=hx34.trans hx5;have n24:=hx34.next;have n25:=hx25.next
   repeat' (first|(refine qZf ?_;try simp only[z06,z01])|(refine z0q ?_;simp (config:=qZc) (disch:=first|omega|rfl) only[sB,Zb,one,st28,gq5]))
   refine z0a rfl (by simp only[sB,Za,reduceCtorEq];rfl) (by simp only[sB,Zb,cutC,ld28];rfl) ⟨_,rfl,?_,?_,(hx2.trans hx25).pt (by omega) gq5 _⟩;rotate_left
   ·rw[z6s k1,hσ];refine TopR.heap (RepF.top (T:=28) ⟨a5,k5,rfl,hb5,hf5⟩ hx5.wf) fun n hn hl=>?_
    have:=hn.1;exact⟨by rw[get_put,if_neg (by omega)],⟨by omega,hl⟩,hl⟩
   rw[z6s k1,hσ];refine RepS.to (RepF.toS (T:=28) ⟨a5,k5,rfl,hb5,hf5⟩ hx5.wf) fun n hn hl=>?_
   have:=hn.1;exact⟨by rw[get_put,if_neg (by omega)],⟨by omega,hl⟩,hl⟩
  ·have q3:=row6 gp3;(try simp (config:=qZc) (disch:=first|omega|rfl) only[sB,dAlloc,Za,Zb,one,reduceCtorEq,zr28,st28]);obtain⟨H4,e4,hx4,g4,hn4,hw4⟩:=z0m hx3.wf (.row zero6 28) (.row zero6 28);simp only[e4];have gq4:=hx4.get hx3.wf gq3;have gp4:=hx4.get hx3.wf gp3;have q4:=row6 gp4
   repeat' (first|refine qZa ?_|(refine qZe ?_;try simp only[z00])|(refine qZf ?_;try simp only[z06,z01])|(refine qZb ?_;simp (config:=qZc) (disch:=first|omega|rfl) only[sB,Za,Zb,one,reduceCtorEq,st28,ld28,q4,gq4])|(refine qZm ?_ ?_;simp (config:=qZc) (disch:=first|omega|rfl) only[sB,Za,reduceCtorEq];refine z02 ?_))
   have hx5:=((hx2.trans hx3).trans hx4).pt (i:=H.next+1) (Nat.le_succ _) gq4 (some (.row (six t a c) 28));refine z0a rfl (by simp only[sB,Za,reduceCtorEq];rfl) (by simp only[sB,Zb,cutC,ld28];rfl) ⟨_,rfl,?_,.inl (by rw[z6s k1,hσ];exact z6r hf k1),hx5⟩;rw[z6s k1,hσ];exact .leaf hbd (z6r hf k1) rl.cap fun h=>(rl.nil h).2
 have hsub:=zm6 (σ:=σ) k1;have hsa:(subO σ t).args=t.args.map (subO σ):=by rw[hsub];rfl
 have hbd':Bd (subO σ t):=by rw[hsub];exact⟨hbd.kind,hbd.name,hbd.num,hbd.bits,hbd.var⟩
 have hsix:∀a c,six (subO σ t) a c=[.int .i64 t.kind,.string t.name,.string t.num,.int .u64 t.bits,.int .i64 t.var,.slice a t.args.length c]:=fun a c=>by rw[hsub];simp [six,Tm.kind,Tm.name,Tm.num,Tm.bits,Tm.var,Tm.args]
 have hmk:subO σ t=.mk t.kind t.name t.num t.bits t.var (subO σ t).args:=by rw[hsa];exact hsub
 by_cases h0:t.args.length=0
 ·have h0':(t.args.length:Int)=0:=by omega
  have he:t.args=[]:=List.length_eq_zero_iff.1 h0
  repeat' (first|refine qZa ?_|(refine qZe ?_;try simp only[z00])|(refine qZf ?_;try simp only[z06,z01])|(refine qZb ?_;simp (config:=qZc) (disch:=first|omega|rfl) only[sB,Za,Zb,one,reduceCtorEq,cutC,z0i,ld3,st28,ld28,z0u,ld26,ln26,st26,q1,gp,gq,z0g k1,z0l h0',ne1])|(refine qZd ?_ ?_;simp (config:=qZc) (disch:=first|omega|rfl) only[sB,Za,reduceCtorEq];refine z02 ?_)|(refine qZm ?_ ?_;simp (config:=qZc) (disch:=first|omega|rfl) only[sB,Za,reduceCtorEq];refine z02 ?_))
  have hx3:=(hx2.pt (Ze _) gp (some (.row [.int .i64 t.kind,.string t.name,.string t.num,.int .u64 t.bits,.int .i64 t.var,.slice none 0 0] 28))).pt (i:=H.next+1) (Nat.le_succ _) (by rw[get_put,if_neg (by omega)];exact gq)
   (some (.row [.int .i64 t.kind,.string t.name,.string t.num,.int .u64 t.bits,.int .i64 t.var,.slice none 0 0] 28))
  refine z0a rfl (by simp only[sB,Za,reduceCtorEq];rfl) (by simp only[sB,Zb,cutC,ld28];rfl) ⟨_,rfl,?_,.inl (by rw[hsa,he];rfl),hx3⟩;have:=RepS.leaf (H:=((H2.put H.next (some (.row [.int .i64 t.kind,.string t.name,.string t.num,.int .u64 t.bits,.int .i64 t.var,.slice none 0 0] 28))).put (H.next+1) (some (.row [.int .i64 t.kind,.string t.name,.string t.num,.int .u64 t.bits,.int .i64 t.var,.slice none 0 0] 28)))) (S:=Rg H.next H2.next) (t:=subO σ t) (a:=none) (c:=0) hbd' (by rw[hsa,he];rfl) (Zl _) (fun _=>rfl);rw[hsix,h0] at this;exact this
 ·have h0':(t.args.length:Int)≠0:=by omega
  have ne3:(H.next=H2.next)=False:=by simp;omega
  repeat' (first|refine qZa ?_|refine qZg ?_|(refine qZe ?_;try simp only[z00])|(refine qZb ?_;simp (config:=qZc) (disch:=first|omega|rfl) only[sB,Za,reduceCtorEq,cutC,z0i,ld3,z0u,ld26,ln26,q1,z0g k1,z0g h0',z5u mk26,ne3])|(refine qZm ?_ ?_;simp (config:=qZc) (disch:=first|omega|rfl) only[sB,Za,reduceCtorEq];refine z02 ?_))
  obtain⟨H3,e3,hx3,gr,hn3,hw3⟩:=new1 hw2 (.row (repL t.args.length zero6) 28);simp only[e3];clear e3;have gp3:=hx3.get hw2 gp;have gq3:=hx3.get hw2 gq;have hx23:=hx2.trans hx3;have hmax:=rl.max;rw[hn2] at gr hn3;refine qZk (fun k st=>∃tm H' i cells',st=⟨tm,[],H'⟩/\k=t.args.length - i/\i<=t.args.length/\tm.get 1=some (.func (.func g) #[] cap) /\
   tm.get 2=some (.pointer (some ⟨H.next,0,none⟩))/\tm.get 4=some (.pointer (some ⟨H.next+1,0,none⟩))/\tm.get 7=some (.slice (some ⟨H.next+2,0,none⟩) t.args.length t.args.length) /\
   tm.get 35=some (.slice a t.args.length c)/\tm.get 36=some (.int .i64 t.args.length)/\tm.get 37=some (.int .i64 (i:Nat)) /\
   H'.get H.next=some (.row (six t a c) 28)/\H'.get (H.next+1)=some (.row zero6 28)/\H'.get (H.next+2)=some (.row cells' 28)/\cells'.length=t.args.length*6 /\
   (∀(j:Nat) (hj:j < t.args.length),j < i->RepS H' (Rg (H.next+3) H'.next) (subO σ t.args[j]) ((cells'.drop (j*6)).take 6))/\HX H H') ?_ t.args.length _ ?_
  ·rintro k st ⟨tm,H',i,cells',rfl,rfl,hi,t0,t1,t2,t3,t17,t18,t19,gp',gq',gr',hlen,hfl,hx'⟩;have q1:=row6 gp';by_cases hlt:i < t.args.length
   ·obtain⟨b,o,a1,c1,rfl,hld,hr1⟩:=rl.el hlt;have hld1:=hx'.load hw hld
    repeat' (first|refine qZa ?_|refine qZg ?_|(refine qZe ?_;try simp only[z00])|(refine qZb ?_;simp (config:=qZc) (disch:=first|omega|rfl) only[sB,dAlloc,Za,Zb,one,cutC,zr28,st28,ld28,ia26,cl63,t0,t3,t17,t18,t19,decl hlt,hld1])|(refine qZd ?_ ?_;simp (config:=qZc) (disch:=first|omega|rfl) only[sB];refine z02 ?_))
    obtain⟨H4,e4,hx4,g4,hn4,hw4⟩:=z0m hx'.wf (.row zero6 28) (.row (six t.args[i] a1 c1) 28);simp only[e4];clear e4;have hs:=z22 (Zc hlt);refine(ih (t:=t.args[i]) (by omega) (hr1.mono (hx'.trans hx4) hw) (hf.args _ (Zu _)) (B.stay _ _ hj (hx'.trans hx4)) hw4).mono ?_;rintro v H5 ⟨cs',rfl,r5,-,hx5⟩;obtain⟨a2,c2,cells2,rfl,-⟩:=r5.rep.six;have hx45:=hx4.trans hx5;have gr5:=hx45.get hx'.wf gr';have gp5:=hx45.get hx'.wf gp';have gq5:=hx45.get hx'.wf gq';have hle:i*6+6<=cells'.length:=by rw[hlen];exact mul6 hlt
    have hln:=hx45.next;have hln2:=hx5.next;have hlt3:=hx'.wf _ _ gq';have hlt4:=hx'.wf _ _ gr'
    repeat' (first|(refine qZb ?_;simp (config:=qZc) (disch:=first|omega|rfl) only[sB,Za,t19,z0c])|(refine z0q ?_;simp (config:=qZc) (disch:=first|omega|rfl) only[sB,Zb,one,st28,gr5,hle]))
    have hx6:=(hx'.trans hx45).pt (i:=H.next+2) (by omega) gr5 (some (.row (Hb.splice cells' (i*6) (six (subO σ t.args[i]) a2 c2)) 28));have hch:∀(j:Nat) (hj:j < t.args.length),j < i+1->RepS (H5.put (H.next+2) (some (.row (Hb.splice cells' (i*6) (six (subO σ t.args[i]) a2 c2)) 28))) (Rg (H.next+3) H5.next) (subO σ t.args[j]) (((Hb.splice cells' (i*6) (six (subO σ t.args[i]) a2 c2)).drop (j*6)).take 6):=fun j hj hji=>by
     by_cases e:j=i
     ·subst e;rw[z2k hle rfl];refine r5.to fun n hn hl=>?_
      have:=hn.1;exact⟨by rw[get_put,if_neg (by omega)],⟨by omega,hl⟩,hl⟩
     ·rw[z2b hle rfl (.inl (mul6 (by omega)))];refine(hfl j hj (by omega)).to fun n hn hl=>?_
      have:=hn.1;exact⟨by rw[get_put,if_neg (by omega)];exact hx45.keep n hl,⟨hn.1,Zi hl hln⟩,Zi hl hln⟩
    exact⟨t.args.length - (i+1),by omega,_,_,i+1,Hb.splice cells' (i*6) (six (subO σ t.args[i]) a2 c2),rfl,rfl,by omega,(by simp only[sG,Za,t0]),(by simp only[sG,Za,t1]),(by simp only[sG,Za,t2]),(by simp only[sG,Za,t3]),(by simp only[sG,Za,t17]),(by simp only[sG,Za,t18]),(by simp only[sB,Za];rfl),
     by rw[get_put,if_neg (by omega)];exact gp5,by rw[get_put,if_neg (by omega)];exact gq5,by rw[get_put,if_pos rfl],by rw[z28 hle];exact hlen,hch,hx6⟩
   ·repeat' (first|refine qZa ?_|(refine qZi ?_;try simp only[sB])|(refine qZf ?_)|(refine qZb ?_;simp (config:=qZc) (disch:=first|omega|rfl) only[sB,Za,Zb,one,cutC,st28,ld28,z0u,st26,t1,t2,t3,t18,t19,q1,gp',gq',decn hlt,ne1])|(refine qZm ?_ ?_;simp (config:=qZc) (disch:=first|omega|rfl) only[sB];refine z02 ?_))
    have hi':i=t.args.length:=by omega
    have hlt3:=hx'.wf _ _ gr';have hx7:=(hx'.pt (Ze _) gp' (some (.row (six t (some ⟨H.next+2,0,none⟩) t.args.length) 28))).pt (i:=H.next+1) (Nat.le_succ _) (by rw[get_put,if_neg (by omega)];exact gq')
     (some (.row (six t (some ⟨H.next+2,0,none⟩) t.args.length) 28))
    have hsl:(subO σ t).args.length=t.args.length:=by rw[hsa,Zp]
    refine z0a rfl (by simp only[sB,Za,t2];rfl) (by simp only[sB,Zb,cutC,ld28];rfl) ⟨_,rfl,?_,?_,hx7⟩;rotate_left
    ·refine .inr ⟨H.next+2,t.args.length,cells',(hsix _ _).symm,by rw[get_put,if_neg (by omega),get_put,if_neg (by omega)];exact gr',⟨by omega,hlt3⟩,hlt3,by omega,fun j hj=>RepT.all (hfl j (by omega) (by omega)).rep⟩
    have:=RepS.row (H:=((H'.put H.next (some (.row (six t (some ⟨H.next+2,0,none⟩) t.args.length) 28))).put (H.next+1) (some (.row (six t (some ⟨H.next+2,0,none⟩) t.args.length) 28)))) (S:=Rg H.next H'.next) (b:=H.next+2) (c:=t.args.length) (cells:=cells') (T:=28) hbd hmk
     (by rw[get_put,if_neg (by omega),get_put,if_neg (by omega)];exact gr') ⟨by omega,hlt3⟩ hlt3 (by omega) (by omega) (Zj hfew (by simp [maxLen])) (fun j hj=>by
      have hj':j < t.args.length:=by omega
      have ej:(subO σ t).args[j]=subO σ t.args[j]:=by simp only[hsa,List.getElem_map]
      rw[ej];refine(hfl j hj' (by omega)).to fun n hn hl=>?_
      have:=hn.1;exact⟨by rw[get_put,if_neg (by omega),get_put,if_neg (by omega)],⟨by omega,hn.2⟩,hl⟩)
    rw[hsix] at this;exact this
  ·refine⟨_,_,0,repL t.args.length zero6,rfl,rfl,by omega,(by simp only[sG,Za,reduceCtorEq]),(by simp only[sG,Za,reduceCtorEq]),(by simp only[sG,Za,reduceCtorEq]),by rw[hn2];first|(simp only[sG,Za,reduceCtorEq];rfl)|simp only[sG,Za,reduceCtorEq],(by simp only[sG,Za,reduceCtorEq]),(by simp only[sG,Za,reduceCtorEq]),(by simp only[sB,Za,reduceCtorEq];rfl),gp3,gq3,gr,by rw[z48];rfl,fun j hj h=>by omega,hx23⟩
def varT (i:Int):Tm:=.mk 1 Zd Zd 0 i []
def plcZ (L:List Int) (n:Int):Int:=((L.idxOf? n).getD 0:Nat)
theorem zm8 {H:Heap}{i:Int}(h:i64 i):RepT H (varT i) [.int .i64 1,.string Zd,.string Zd,.int .u64 0,.int .i64 i,.slice none 0 0] :=
 .mk 1 Zd Zd 0 i [] none 0 (fun _=>[]) (by simp [i64]) (by simp [maxLen]) (by simp [maxLen]) (by simp [u64]) h (Zl _) (Ze _) (Zl _) (fun _=>⟨rfl,rfl⟩) (fun i ad hi=>by simp at hi) (fun i t h=>by simp at h)
theorem zhf {i:Int}(h:0<=i):Fine (varT i):=by
 unfold Fine;rw[z5w];have hn:nodeS (varT i)=0:=by
  have hv:¬i < 0:=by omega
  have hb:blankB (varT i)=true:=by
   have he:isE Zd=true:=by unfold isE;rw[show ByteArray.empty.toList=[] from z1w];rfl
   simp [blankB,varT,Tm.kind,Tm.name,Tm.num,Tm.bits,Tm.var,Tm.args,he]
  have hu:utfS Zd=true:=by decide +kernel
  unfold nodeS nodeE;rw[hb];simp [varT,Tm.kind,Tm.name,Tm.num,Tm.bits,Tm.var,Tm.args,hv,hu]
 rw[if_pos hn];simp [varT,Tm.args,allL]
theorem z6t (L:List Int) (n:Int):0<=plcZ L n/\plcZ L n<=L.length:=by
 unfold plcZ;cases h:L.idxOf? n with
 |none=>simp
 |some i =>
  have:i < L.length:=by
   rw[List.idxOf?,List.findIdx?_eq_some_iff_getElem] at h;exact h.1
  simp;omega
theorem zp4 {L:List Int}{n m:Int}(h:n∉L):(L++[n]).idxOf? m=if m=n then some L.length else L.idxOf? m:=by
 unfold List.idxOf?;rw[List.findIdx?_append];by_cases hm:m=n
 ·subst hm;have:L.findIdx? (fun x=>x == m)=none:=by
   rw[List.findIdx?_eq_none_iff];intro x hx;simp;intro e;exact h (e ▸ hx)
  rw[if_pos rfl,this];simp [List.findIdx?_cons]
 ·rw[if_neg hm];have:(n == m)=false:=by simp;omega
  simp [List.findIdx?_cons,this]
def PlJ (L:List Int) (pm r:Nat) (H:Heap):Prop:=H.wf/\H.get pm=some (.row [.map (some r)] 56)/\∃M,MapR H r M/\∀m,mGet M m=(L.idxOf? m).map fun i:Nat=>Value.int .i64 (i:Int)
theorem zsr {L:List Int}{pm r:Nat}(hL:L.length<=most):ByAll 76 #[.pointer (some ⟨pm,0,none⟩)] (fun n=>varT (plcZ L n)) (PlJ L pm r):=by
 have hms:most<=9223372036854775807:=by simp [most]
 refine⟨?_,?_,fun n _=>zhf (z6t L n).1⟩
 ·rintro n H hn ⟨hw,gm,M,hm,hk⟩ -;have hb:=z6t L n;have lm:H.load ⟨pm,0,none⟩ 1=some [.map (some r)]:=by unfold Heap.load Heap.cells;simp only[gm];rfl
  have lpm:=hw _ _ gm;have ne:(pm=H.next)=False:=by simp;omega
  have el:dLk Tryz.prog 56 (.map (some r)) (.int .i64 n) false (H.new (some (.row zero6 28)))=some (.val (.int .i64 (plcZ L n)) (H.new (some (.row zero6 28)))):=by
   have hm':MapR (H.new (some (.row zero6 28))) r M:=hm.heap (by rw[get_new,if_neg (by have:=hm.lt hw;omega)]);have hkn:=hk n;unfold plcZ;cases h:L.idxOf? n with
   |none=>rw[h] at hkn;exact z5a mapI hm' hkn
   |some i=>rw[h] at hkn;exact z59 mapI hm' hkn
  refine EvF.enter rfl Tryz.func76 (by decide) rfl ?_
  repeat' (first|refine qZa ?_|(refine qZf ?_)|(refine qZb ?_;simp (config:=qZc) (disch:=first|omega|rfl) only[sB,initTm,dAlloc,Za,Zb,Value.cells,one,reduceCtorEq,cutC,Zq,layC,zr28,ld56,bd28,st28,lm,ne,z1n,el]))
  have hx:HX H (H.new (some (.row zero6 28))):=(HX.refl hw).new _;refine z0e rfl (by simp only[sB,Za,reduceCtorEq];rfl) (by simp only[sB,Zb,cutC,ld28]) (by simp only[sG,Za,reduceCtorEq]) ⟨⟨_,rfl,zm8 ⟨by omega,by omega⟩⟩,hx.put (Ze _) (Zf _) _⟩
 ·rintro H H' ⟨hw,gm,M,hm,hk⟩ hx;exact⟨hx.wf,hx.get hw gm,M,hm.heap (hx.keep _ (hm.lt hw)),hk⟩
def plainL (l:List Tm):List Tm:=l.map (sub fun n=>varT (plcZ (uniq (occL l)) n))
set_option maxHeartbeats 8000000 in
theorem zp5 {l:List Tm}{a:Option Addr}{c:Nat}{cells:Nat->List Value}{H:Heap}(rl:RepL H l a c cells) (hlen:(occL l).length<=most) (hl:l.length<=most) (hw:H.wf) :
  EvF Tryz.prog okT 55 [.slice a l.length c] H fun v H'=>∃a' c',v=.tuple #[.slice a' (if chkL l=0 then plainL l else []).length c',.int .i64 (chkL l)]/\FL H' 28 (Rg H.next H'.next) (if chkL l=0 then plainL l else []) a' c'/\HX H H':=by
 have hmx:=rl.max;have hms:most<=9223372036854775807:=by simp [most]
 refine EvF.enter rfl Tryz.func55 (by decide) rfl ?_
 repeat' (first|refine qZa ?_|(refine qZb ?_;simp (config:=qZc) (disch:=first|omega|rfl) only[sB,initTm,Za,reduceCtorEq,cl74]))
 refine(zdm rl hw).mono ?_;rintro v H1 ⟨rfl,hx1⟩;have nn1:=hx1.next;by_cases h0:chkL l=0;rotate_left
 ·repeat' (first|refine qZa ?_|(refine qZf ?_;try simp only[z06,z01])|(refine qZb ?_;simp (config:=qZc) (disch:=first|omega|rfl) only[sB,Za,reduceCtorEq,z1z h0])|(refine qZd ?_ ?_;simp (config:=qZc) (disch:=first|omega|rfl) only[sB,Za,reduceCtorEq];refine z02 ?_))
  exact z1r rfl (by simp only[sB,Za,reduceCtorEq];rfl) (by simp only[sB,Za,reduceCtorEq];rfl) ⟨none,0,by rw[if_neg h0];rfl,by rw[if_neg h0];exact .nil _,hx1⟩
 rw[if_pos h0]
 repeat' (first|refine qZa ?_|(refine qZe ?_;try simp only[z00])|(refine qZb ?_;simp (config:=qZc) (disch:=first|omega|rfl) only[sB,dAlloc,Za,one,reduceCtorEq,zr56,st56,cl75,z15 h0,z4b])|(refine qZm ?_ ?_;simp (config:=qZc) (disch:=first|omega|rfl) only[sB,Za,reduceCtorEq];refine z02 ?_))
 obtain⟨H2,e2,hx2,gr,n2,w2⟩:=new1 hx1.wf (.map [] 0);obtain⟨H3,e3,hx3,gm,n3,w3⟩:=z0m w2 (.row [.map none] 56) (.row [.map (some H1.next)] 56);rw[n2] at e3 gm n3;simp only[e2,e3];have hx23:=(hx1.trans hx2).trans hx3;refine(z7p (rl.mono hx23 hw) hlen w3).mono ?_;rintro v H4 ⟨hi4,hx4⟩;obtain⟨av,cv,rfl,hcv1,hcv2⟩:=hi4.slice;have hLl:(uniq (occL l)).length<=most:=Zj (z7z _) hlen;have hnd:=zja (occL l);have nn4:=hx4.next;have hxh4:=hx23.trans hx4;have hm4:MapR H4 H1.next []:=⟨[],0,hx4.get w3 (hx3.get w2 gr),rfl⟩
 have gm4:=hx4.get w3 gm;(try simp (config:=qZc) (disch:=first|omega|rfl) only[sA,ln32]);unfold plainL;generalize hLdef:uniq (occL l)=L at *;refine EvC.meet (fun st=>∃tm H',st=⟨tm,[],H'⟩/\tm.get 0=some (.slice a l.length c)/\tm.get 5=some (.pointer (some ⟨H1.next+1,0,none⟩))/\PlJ L (H1.next+1) H1.next H'/\HX H H') ?_ ?_
 ·refine qZg (qZk (fun k st=>∃tm H' i M,st=⟨tm,[],H'⟩/\k=L.length - i/\i<=L.length/\tm.get 0=some (.slice a l.length c)/\tm.get 5=some (.pointer (some ⟨H1.next+1,0,none⟩))/\tm.get 18=some (.slice av L.length cv)/\tm.get 19=some (.int .i64 L.length)/\tm.get 20=some (.int .i64 (i:Nat)) /\
   H'.get (H1.next+1)=some (.row [.map (some H1.next)] 56)/\MapR H' H1.next M/\(∀m,mGet M m=((L.take i).idxOf? m).map fun i:Nat=>Value.int .i64 (i:Int))/\IntL H' 3 (Rg H3.next H4.next) L (.slice av L.length cv)/\HX H H') ?_ L.length _ ?_)
  ·rintro k st ⟨tm,H',i,M,rfl,rfl,hi,t0,t5,t18,t19,t20,gm',hm',hk',hil,hx'⟩;by_cases hlt:i < L.length
   ·obtain⟨b,rfl,-,hld,hbS⟩:=hil.at hlt;have lm:H'.load ⟨H1.next+1,0,none⟩ 1=some [.map (some H1.next)]:=by unfold Heap.load Heap.cells;simp only[gm'];rfl
    have hnot:L[i]∉L.take i:=by
     intro hmem;obtain⟨j,hj,e⟩:=ZO hmem;rw[List.getElem_take] at e;have hj':j < i:=by rw[Zo] at hj;omega
     exact List.pairwise_iff_getElem.1 hnd j i (by omega) hlt hj' e
    have hg:mGet M L[i]=none:=by
     rw[hk'];have:(L.take i).idxOf? L[i]=none:=by
      unfold List.idxOf?;rw[List.findIdx?_eq_none_iff];intro x hx;simp;intro e;exact hnot (e ▸ hx)
     rw[this];rfl
    obtain⟨B,eu,hm2⟩:=zbs (v:=.int .i64 (i:Nat)) mapI hm' hg;have lr:=hm'.lt hx'.wf
    repeat' (first|refine qZa ?_|refine qZg ?_|(refine qZe ?_;try simp only[z00])|(refine qZb ?_;simp (config:=qZc) (disch:=first|omega|rfl) only[sB,Za,ia32,ld3,ld56,t5,t18,t19,t20,decl hlt,hld,lm,z2y,eu,z0c])|(refine qZd ?_ ?_;simp (config:=qZc) (disch:=first|omega|rfl) only[sB];refine z02 ?_))
    refine⟨L.length - (i+1),by omega,_,_,i+1,M++[(L[i],.int .i64 (i:Nat))],rfl,rfl,by omega,(by simp only[sG,reduceCtorEq,t0]),(by simp only[sG,Za,t5]),(by simp only[sG,Za,t18]),(by simp only[sG,Za,t19]),(by simp only[sB,Za];rfl),by rw[get_put,if_neg (by omega)];exact gm',hm2,fun m=>?_,hil.heap (fun n hn _=>by have:=hn.1;rw[get_put,if_neg (by omega)]) hx'.wf,hx'.put (by omega) lr _⟩;rw[z94 hg,<-List.take_append_getElem hlt,zp4 hnot];by_cases hm:m=L[i]
    ·rw[if_pos hm,if_pos hm];have:(L.take i).length=i:=by rw[Zo];omega
     rw[this];rfl
    ·rw[if_neg hm,if_neg hm];exact hk' m
   ·repeat' (first|refine qZa ?_|(refine qZi ?_;try simp only[sB,reduceCtorEq])|(refine qZb ?_;simp (config:=qZc) (disch:=first|omega|rfl) only[sA,t19,t20,decn hlt])|(refine qZm ?_ ?_;simp (config:=qZc) (disch:=first|omega|rfl) only[sB];refine z02 ?_))
    have hiL:i=L.length:=by omega
    rw[hiL,Zm (Ze _)] at hk';exact⟨_,_,rfl,(by simp only[sG,reduceCtorEq,t0]),(by simp only[sG,Za,t5]),⟨hx'.wf,gm',M,hm',hk'⟩,hx'⟩
  ·exact⟨_,_,0,[],rfl,rfl,by omega,(by simp only[sG,reduceCtorEq]),(by simp only[sG,Za,reduceCtorEq]),(by simp only[sG,Za,reduceCtorEq]),(by simp only[sG,Za,reduceCtorEq]),(by simp only[sB,Za,reduceCtorEq];rfl),gm4,hm4,fun m=>by simp [mGet],hi4,hxh4⟩
 rintro st ⟨tm,H5,rfl,t0,t5,hj5,hx5⟩
 repeat' (first|refine qZa ?_|refine qZg ?_|(refine qZb ?_;simp (config:=qZc) (disch:=first|omega|rfl) only[sB,Za,reduceCtorEq,ln26,t0,z5u mk26]))
 obtain⟨H6,e6,hx6,g6,n6,w6⟩:=new1 hx5.wf (.row (repL l.length zero6) 28);simp only[e6];have hxh6:=hx5.trans hx6;have nn5:=hx5.next;have lpm5:=hj5.1 _ _ hj5.2.1;have B:=zsr (pm:=H1.next+1) (r:=H1.next) hLl;refine qZk (fun k st=>∃tm H' i cells' Si ai ci,st=⟨tm,[],H'⟩/\k=l.length - i/\i<=l.length/\tm.get 5=some (.pointer (some ⟨H1.next+1,0,none⟩))/\tm.get 8=some (.slice (some ⟨H5.next,0,none⟩) l.length l.length)/\tm.get 32=some (.slice a l.length c)/\tm.get 33=some (.int .i64 l.length)/\tm.get 34=some (.int .i64 (i:Nat)) /\
   H'.get H5.next=some (.row cells' 28)/\cells'.length=l.length*6/\FLs H' 28 (Rg (H5.next+1) H'.next) ((l.take i).map (sub fun n=>varT (plcZ L n))) cells' Si ai ci/\PlJ L (H1.next+1) H1.next H'/\HX H H') ?_ l.length _ ?_
 ·rintro k st ⟨tm,H',i,cells',Si,ai,ci,rfl,rfl,hi,t5,t8,t32,t33,t34,gr',hlen',hfl,hj',hx'⟩;by_cases hlt:i < l.length
  ·obtain⟨b,o,a1,c1,rfl,hld,hr1⟩:=rl.el hlt;have hld1:=hx'.load hw hld
   repeat' (first|refine qZa ?_|refine qZg ?_|(refine qZe ?_;try simp only[z00])|(refine qZb ?_;simp (config:=qZc) (disch:=first|omega|rfl) only[sB,dAlloc,Za,Zb,one,cutC,ia26,ld28,zr28,st28,cl63,t5,t8,t32,t33,t34,decl hlt,hld1,List.map_toArray])|(refine qZd ?_ ?_;simp (config:=qZc) (disch:=first|omega|rfl) only[sB];refine z02 ?_))
   obtain⟨H7,e7,hx7,g7,n7,w7⟩:=z0m hx'.wf (.row zero6 28) (.row (six l[i] a1 c1) 28);simp only[e7];have hfine:Fine l[i]:=(z0k.1 (z91 h0 _ (Zu _))).2;refine(zm4 (by kernel_rfl) B (Zf _) (hr1.mono (hx'.trans hx7) hw) hfine (B.stay _ _ hj' hx7) w7).mono ?_;rintro v H8 ⟨cs',rfl,⟨a2,c2,rfl,hb2,hf2⟩,hx8⟩;have hx78:=hx7.trans hx8;have gr8:=hx78.get hx'.wf gr';have hle:i*6+6<=cells'.length:=by rw[hlen'];exact mul6 hlt
   have nn7:=hx78.next;have nn8:=hx8.next;have lt5:=hx'.wf _ _ gr'
   repeat' (first|(refine qZb ?_;simp (config:=qZc) (disch:=first|omega|rfl) only[sB,Za,t34,z0c])|(refine z0q ?_;simp (config:=qZc) (disch:=first|omega|rfl) only[sB,Zb,one,st28,gr8,hle]))
   have et:(l.take (i+1)).map (sub fun n=>varT (plcZ L n))=(l.take i).map (sub fun n=>varT (plcZ L n))++[sub (fun n=>varT (plcZ L n)) l[i]]:=by rw[<-List.take_append_getElem hlt,ZI];rfl
   have etl:((l.take i).map (sub fun n=>varT (plcZ L n))).length=i:=by rw[Zp,Zo];omega
   obtain⟨Si',ai',ci',hsn⟩:∃Si ai ci,FLs (H8.put H5.next (some (.row (Hb.splice cells' (i*6) (six (sub (fun n=>varT (plcZ L n)) l[i]) a2 c2)) 28))) 28 (Rg (H5.next+1) H8.next) ((l.take (i+1)).map (sub fun n=>varT (plcZ L n))) (Hb.splice cells' (i*6) (six (sub (fun n=>varT (plcZ L n)) l[i]) a2 c2)) Si ai ci:=by
    rw[et];refine⟨_,_,_,hfl.snoc (S':=Rg (H5.next+1) H8.next) (N:=Rg H7.next H8.next) (fun n hn hl=>?_) hx'.wf (hf2.heap (fun n hn hl=>?_) hx8.wf) hb2 (fun n hn hs=>?_) (fun n hn=>?_) (fun n hn=>?_) (fun j hj=>?_) ?_⟩
    ·have:=hn.1;rw[get_put,if_neg (by omega)];exact hx78.keep n hl
    ·have:=hn.1;rw[get_put,if_neg (by omega)]
    ·have:=hn.1;have:=hs.2;omega
    ·exact⟨hn.1,by have:=hn.2;omega⟩
    ·exact⟨by have:=hn.1;omega,hn.2⟩
    ·rw[etl] at hj;exact z2b hle rfl (.inl (mul6 hj))
    ·rw[etl];exact z2k hle rfl
   have hj8:PlJ L (H1.next+1) H1.next (H8.put H5.next (some (.row (Hb.splice cells' (i*6) (six (sub (fun n=>varT (plcZ L n)) l[i]) a2 c2)) 28))):=by
    obtain⟨w8,gm8,M,hm8,hk8⟩:=B.stay _ _ hj' hx78;exact⟨((HK.refl (S:=fun _=>True) w8).put (.inl trivial) (by omega) _).wf,by rw[get_put,if_neg (by omega)];exact gm8,M,hm8.heap (by rw[get_put,if_neg (by omega)]),hk8⟩
   exact⟨l.length - (i+1),by omega,_,_,i+1,Hb.splice cells' (i*6) (six (sub (fun n=>varT (plcZ L n)) l[i]) a2 c2),Si',ai',ci',rfl,rfl,by omega,(by simp only[sG,Za,t5]),(by simp only[sG,Za,t8]),(by simp only[sG,Za,t32]),(by simp only[sG,Za,t33]),(by simp only[sB,Za];rfl),
    by rw[get_put,if_pos rfl],by rw[z28 hle];exact hlen',hsn,hj8,(hx'.trans hx78).pt (by omega) gr8 _⟩
  ·repeat' (first|refine qZa ?_|(refine qZi ?_;try simp only[sB])|(refine qZf ?_)|(refine qZb ?_;simp (config:=qZc) (disch:=first|omega|rfl) only[sB,Za,t8,t33,t34,decn hlt])|(refine qZm ?_ ?_;simp (config:=qZc) (disch:=first|omega|rfl) only[sB];refine z02 ?_))
   have hi':i=l.length:=by omega
   rw[hi',Zm (Ze _)] at hfl;refine z1r rfl (by simp only[sB,Za];rfl) (by simp only[sB,Za];rfl) ⟨some ⟨H5.next,0,none⟩,l.length,by rw[h0,Zp],?_,hx'⟩;refine hfl.row (by rw[Zp];exact Ze _) (Zj hl (by simp [most,maxLen])) gr' (by rw[Zp];omega) ⟨by omega,hx'.wf _ _ gr'⟩ (fun h=>by have:=h.1;omega) (fun n hn=>⟨by have:=hn.1;omega,hn.2⟩)
 ·exact⟨_,_,0,repL l.length zero6,fun _ _=>False,fun _=>none,fun _=>0,rfl,rfl,by omega,(by simp only[sG,Za,t5]),(by simp only[sG,Za]),(by simp only[sG,Za]),(by simp only[sG,Za]),(by simp only[sB,Za];rfl),g6,by rw[z48];rfl,FLs.nil,B.stay _ _ hj5 hx6,hxh6⟩
def cmpZ (a b:Int):Int:=if a < b then -1 else if b < a then 1 else 0
def lessS (a b:ByteArray):Bool:=Op.bytesLess a.toList b.toList
def cmpS (a b:ByteArray):Int:=if lessS a b then -1 else if lessS b a then 1 else 0
def rankZ (k:Int):Int:=if k=1 then 0 else if k=4 then 1 else if k=3 then 2 else if k=2 then 3 else 4
def numZ (a b:ByteArray):Int :=
 if negS (bl a) && !negS (bl b) then -1 else if negS (bl b) && !negS (bl a) then 1
 else if negS (bl a) then -(orZ (cmpZ a.size b.size) (cmpS a b)) else orZ (cmpZ a.size b.size) (cmpS a b)
theorem z3v (a b:Int):-1<=cmpZ a b/\cmpZ a b<=1:=by
 unfold cmpZ;split
 ·omega
 ·split<;>omega
theorem zan (a b:ByteArray):-1<=cmpS a b/\cmpS a b<=1:=by
 unfold cmpS;split
 ·omega
 ·split<;>omega
theorem zdo {x y:Int}(h:-1<=x/\x<=1) (h':-1<=y/\y<=1):-1<=orZ x y/\orZ x y<=1:=by
 unfold orZ;split<;>assumption
def iOr (k:IntKind) (a b:Int):Int:=k.wrap (BitVec.ofInt k.bits a ||| BitVec.ofInt k.bits b).toNat
def iNot (a:Int):Int:=IntKind.u64.wrap (BitVec.ofInt IntKind.u64.bits IntKind.u64.max ^^^ BitVec.ofInt IntKind.u64.bits a).toNat
def keyF (n:Int):Int:=if 9223372036854775808<=n then 18446744073709551615 - n else n+9223372036854775808
def fltZ (a b:Int):Int:=cmpZ (keyF a) (keyF b)
def ordF (a b:Nat):Option Ordering:=FloatKind.f64.format.order a b
def fltO (a b:Nat):Int:=if ordF a b == some .lt then -1 else if ordF a b == some .gt then 1 else 0
end Go.Proofs.hq
end

section
namespace Go.Proofs.hq
open Go Go.RowKit Go.Hb
def expF (g:Nat):Nat:=g / 4503599627370496 - 1
def manF (g:Nat):Nat:=if g < 4503599627370496 then g else 4503599627370496+g % 4503599627370496
def valF (g:Nat):Nat:=manF g*2 ^ expF g
def svF (s:Bool) (x:Nat):Int:=if s then -(x:Int) else x
def sgnF (v:Nat):Int:=svF (v / 9223372036854775808 % 2 == 1) (valF (v % 9223372036854775808))
end Go.Proofs.hq
end

section
namespace Go.Proofs.hq
open Go Go.RowKit Go.Hb
mutual
def ordT:Tm->Tm->Int
 |.mk k s u b v l,.mk k' s' u' b' v' l' =>
  if k≠k' then cmpZ (rankZ k) (rankZ k')
  else if k=1 then cmpZ v v'
  else if k=3 then numZ u u'
  else if k=4 then fltZ b b'
  else if orZ (cmpZ l.length l'.length) (cmpS s s')=0 then ordL l l' else orZ (cmpZ l.length l'.length) (cmpS s s')
def ordL:List Tm->List Tm->Int
 |[],_=>0
 |_ :: _,[]=>0
 |t :: l,t' :: l'=>if ordT t t'=0 then ordL l l' else ordT t t'
end
def headZ (t t':Tm):Int:=orZ (cmpZ t.args.length t'.args.length) (cmpS t.name t'.name)
end Go.Proofs.hq
end

section
namespace Go.Proofs.hq
open Go Go.RowKit Go.Hb
def TT (x y z:Int):Prop:=(x<=0->y<=0->z<=0)/\(0<=x->0<=y->0<=z)/\(x < 0->y<=0->z < 0)/\(x<=0->y < 0->z < 0)/\(0 < x->0<=y->0 < z)/\(0<=x->0 < y->0 < z)
theorem TT.or {x1 y1 z1 x2 y2 z2:Int}(h1:TT x1 y1 z1) (h2:x1=0->y1=0->TT x2 y2 z2):TT (orZ x1 x2) (orZ y1 y2) (orZ z1 z2):=by
 unfold orZ TT at *;by_cases a:x1=0<;>by_cases b:y1=0
 ·have c:z1=0:=by omega
  simp only[a,b,c,if_true];exact h2 a b
 ·have c:z1≠0:=by omega
  simp only[a,b,c,if_true,if_false];omega
 ·have c:z1≠0:=by omega
  simp only[a,b,c,if_true,if_false];omega
 ·by_cases c:z1=0
  ·simp only[a,b,c,if_true,if_false];omega
  ·simp only[a,b,c,if_false];omega
theorem TT.neg {x y z:Int}(h:TT x y z):TT (-x) (-y) (-z):=by unfold TT at *;omega
theorem TT.cmp (a b c:Int):TT (cmpZ a b) (cmpZ b c) (cmpZ a c):=by
 unfold TT cmpZ;by_cases h1:a < b<;>by_cases h2:b < a<;>by_cases h3:b < c<;>by_cases h4:c < b<;>by_cases h5:a < c<;>by_cases h6:c < a<;>simp only[h1,h2,h3,h4,h5,h6,if_true,if_false]<;>(refine⟨?_,?_,?_,?_,?_,?_⟩<;>intros<;>omega)
theorem TT.zero:TT 0 0 0:=by unfold TT;omega
theorem z3w (a b:Int):cmpZ b a=-(cmpZ a b):=by
 unfold cmpZ;by_cases h1:a < b<;>by_cases h2:b < a<;>simp only[h1,h2,if_true,if_false]<;>omega
theorem z3x {a b:Int}:cmpZ a b=0↔a=b:=by
 unfold cmpZ;constructor
 ·intro h;split at h
  ·omega
  ·split at h<;>omega
 ·rintro rfl;simp
def cmpB (a b:List UInt8):Int:=if Op.bytesLess a b then -1 else if Op.bytesLess b a then 1 else 0
theorem z5d:cmpB [] []=0:=by simp [cmpB,Op.bytesLess]
theorem z4q {y:UInt8}{b:List UInt8}:cmpB [] (y :: b)=-1:=by simp [cmpB,Op.bytesLess]
theorem z4r {y:UInt8}{b:List UInt8}:cmpB (y :: b) []=1:=by simp [cmpB,Op.bytesLess]
theorem z3y {x y:UInt8}{a b:List UInt8}:cmpB (x :: a) (y :: b)=orZ (cmpZ x.toNat y.toNat) (cmpB a b):=by
 unfold cmpB;simp only[Op.bytesLess];rcases Nat.lt_trichotomy x.toNat y.toNat with h|h|h
 ·have h1:x < y:=UInt8.lt_iff_toNat_lt.2 h;have hc:cmpZ (x.toNat:Int) y.toNat=-1:=by unfold cmpZ;rw[if_pos (by omega)]
  rw[hc];simp [h1,orZ]
 ·obtain rfl:x=y:=UInt8.toNat_inj.1 h;have hc:cmpZ (x.toNat:Int) x.toNat=0:=z3x.2 rfl;rw[hc];simp [orZ]
 ·have h1:y < x:=UInt8.lt_iff_toNat_lt.2 h;have h2:¬x < y:=fun q=>by have:=UInt8.lt_iff_toNat_lt.1 q;omega
  have h3:x≠y:=fun q=>by rw[q] at h;omega
  have hc:cmpZ (x.toNat:Int) y.toNat=1:=by unfold cmpZ;rw[if_neg (by omega),if_pos (by omega)]
  rw[hc];simp [h1,h2,h3,orZ]
theorem TT.bytes:∀(a b c:List UInt8),TT (cmpB a b) (cmpB b c) (cmpB a c)
 |[],[],[]=>by rw[z5d];exact TT.zero
 |[],[],_ :: _=>by rw[z5d,z4q];unfold TT;omega
 |[],_ :: _,[]=>by rw[z5d,z4q,z4r];unfold TT;omega
 |_ :: _,[],[]=>by rw[z5d,z4r];unfold TT;omega
 |_ :: _,[],_ :: _=>by rw[z4q,z4r];unfold TT;omega
 |[],_ :: _,_ :: _=>by rw[z4q,z4q];unfold TT;omega
 |_ :: _,_ :: _,[]=>by rw[z4r,z4r];unfold TT;omega
 |x :: a,y :: b,z :: c=>by
  rw[z3y,z3y,z3y];exact TT.or (TT.cmp _ _ _) fun _ _=>TT.bytes a b c
theorem zdp:∀(a b:List UInt8),cmpB b a=-(cmpB a b)
 |[],[]=>by rw[z5d];rfl
 |[],_ :: _=>by rw[z4q,z4r];rfl
 |_ :: _,[]=>by rw[z4q,z4r]
 |x :: a,y :: b=>by rw[z3y,z3y,z3w x.toNat y.toNat,zdp a b,zfd]
theorem z97:∀{a b:List UInt8},cmpB a b=0↔a=b
 |[],[]=>by rw[z5d];simp
 |[],_ :: _=>by rw[z4q];simp
 |_ :: _,[]=>by rw[z4r];simp
 |x :: a,y :: b=>by
  rw[z3y,z7x,z3x,z97 (a:=a) (b:=b),List.cons.injEq];constructor
  ·rintro ⟨h1,h2⟩;exact⟨UInt8.toNat_inj.1 (by omega),h2⟩
  ·rintro ⟨h1,h2⟩;exact⟨by rw[h1],h2⟩
theorem zdq (a b:ByteArray):cmpS b a=-(cmpS a b):=zdp a.toList b.toList
theorem z98 {a b:ByteArray}:cmpS a b=0↔a=b :=
 ⟨fun h=>z57 (z97.1 h),fun h=>by subst h;exact z97.2 rfl⟩
theorem zm9 (a b:ByteArray):numZ b a=-(numZ a b):=by
 have h:orZ (cmpZ (b.size:Int) a.size) (cmpS b a)=-(orZ (cmpZ (a.size:Int) b.size) (cmpS a b)):=by rw[z3w (a.size:Int),zdq a b,zfd]
 unfold numZ;rw[h];cases negS (bl a)<;>cases negS (bl b)<;>simp
theorem zma {a b:ByteArray}:numZ a b=0↔a=b:=by
 constructor
 ·intro h;have key:orZ (cmpZ (a.size:Int) b.size) (cmpS a b)=0:=by
   revert h;unfold numZ;cases negS (bl a)<;>cases negS (bl b)<;>simp
  exact z98.1 (z7x.1 key).2
 ·rintro rfl;unfold numZ;have h:orZ (cmpZ (a.size:Int) a.size) (cmpS a a)=0:=z7x.2 ⟨z3x.2 rfl,z98.2 rfl⟩;rw[h];cases negS (bl a)<;>simp
theorem zmb (a b:Int):fltZ b a=-(fltZ a b):=z3w _ _
def restZ (t t':Tm):Int:=if t.kind=1 then cmpZ t.var t'.var else if t.kind=3 then numZ t.num t'.num else if t.kind=4 then fltZ t.bits t'.bits else orZ (headZ t t') (ordL t.args t'.args)
mutual
theorem zmc:∀(t t':Tm),ordT t' t=-(ordT t t')
 |.mk k s u b v l,.mk k' s' u' b' v' l'=>by
  rw[ordT,ordT];by_cases hk:k=k'
  ·subst hk;simp only[ne_eq,not_true_eq_false,if_false];split
   ·exact z3w _ _
   split
   ·exact zm9 _ _
   split
   ·exact zmb _ _
   have h:orZ (cmpZ (l'.length:Int) l.length) (cmpS s' s)=-(orZ (cmpZ (l.length:Int) l'.length) (cmpS s s')):=by rw[z3w (l.length:Int),zdq s s',zfd]
   rw[h,zdr l l'];by_cases h0:orZ (cmpZ (l.length:Int) l'.length) (cmpS s s')=0
   ·rw[if_pos (by omega),if_pos h0]
   ·rw[if_neg (by omega),if_neg h0]
  ·rw[if_pos (fun h=>hk h.symm),if_pos hk];exact z3w _ _
theorem zdr:∀(l l':List Tm),ordL l' l=-(ordL l l')
 |[],[]=>by simp [ordL]
 |[],_ :: _=>by simp [ordL]
 |_ :: _,[]=>by simp [ordL]
 |t :: l,t' :: l'=>by
  rw[ordL,ordL,zmc t t',zdr l l'];by_cases h0:ordT t t'=0
  ·rw[if_pos (by omega),if_pos h0]
  ·rw[if_neg (by omega),if_neg h0]
end
mutual
theorem zmd:∀(t:Tm),ordT t t=0
 |.mk k s u b v l=>by
  rw[ordT,if_neg (fun h=>h rfl)];split
  ·exact z3x.2 rfl
  split
  ·exact zma.2 rfl
  split
  ·exact z3x.2 rfl
  rw[if_pos (z7x.2 ⟨z3x.2 rfl,z98.2 rfl⟩)];exact zds l
theorem zds:∀(l:List Tm),ordL l l=0
 |[]=>by rw[ordL]
 |t :: l=>by rw[ordL,if_pos (zmd t)];exact zds l
end
inductive U64s:Tm->Prop
 |mk {t:Tm}:u64 t.bits->(∀u∈t.args,U64s u)->U64s t
theorem U64s.bits {t:Tm}(h:U64s t):u64 t.bits:=by cases h;assumption
theorem U64s.args {t:Tm}(h:U64s t):∀u∈t.args,U64s u:=by cases h;assumption
theorem zjd (a b:ByteArray):-1<=numZ a b/\numZ a b<=1:=by
 have:=zdo (z3v a.size b.size) (zan a b);unfold numZ;split
 ·omega
 split
 ·omega
 split<;>omega
mutual
theorem zje:∀(t t':Tm),-1<=ordT t t'/\ordT t t'<=1
 |.mk k s u b v l,.mk k' s' u' b' v' l'=>by
  rw[ordT];split
  ·exact z3v _ _
  split
  ·exact z3v _ _
  split
  ·exact zjd _ _
  split
  ·exact z3v _ _
  split
  ·exact zao l l'
  ·exact zdo (z3v _ _) (zan _ _)
theorem zao:∀(l l':List Tm),-1<=ordL l l'/\ordL l l'<=1
 |[],_=>by rw[ordL];omega
 |_ :: _,[]=>by rw[ordL];omega
 |t :: l,t' :: l'=>by
  rw[ordL];split
  ·exact zao l l'
  ·exact zje t t'
end
end Go.Proofs.hq
end

section
namespace Go.Proofs.hq
open Go Go.RowKit Go.Hb
variable {ok:Ok}
set_option maxRecDepth 10000
attribute [local irreducible] LX LG EL STG SOP SGO SGD SAL SRD SEF SEG SLK SCK ES
theorem zme:∀(m:Nat) (t:Tm),SizeOf.sizeOf t < m->(occ t).length<=nd t
 |0,_,h=>by omega
 |m+1,t,h=>by
  have hl:∀l:List Tm,(∀u∈l,(occ u).length<=nd u)->(occL l).length<=nd.ndL l:=by
   intro l
   induction l with
   |nil=>intro _;rw[occL,nd.ndL];exact Ze _
   |cons u l ih=>intro hu;rw[occL,nd.ndL,Zr];have:=hu u (by simp);have:=ih fun v hv=>hu v (Zn _ hv);omega
  have:=hl t.args fun u hu=>zme m u (by have:=z0h hu;omega)
  rw[z3a,z1f,Zr];split<;>simp<;>omega
theorem zmf {t:Tm}(h:checkS t=0):(occ t).length<=4000:=by
 have h1:=(z0k.1 h).1;have h2:=zam _ t (Zf _) 0 h1;have h3:=zme _ t (Zf _);omega
theorem z99 {k b v:Int}{s u:ByteArray}{l l':List Tm}(h:l'.length=l.length):nodeS (.mk k s u b v l')=nodeS (.mk k s u b v l):=by
 have hb:blankB (.mk k s u b v l')=blankB (.mk k s u b v l):=by simp only[blankB,Tm.kind,Tm.name,Tm.num,Tm.bits,Tm.var,Tm.args,h]
 have ha:(Tm.mk k s u b v l').args.length=(Tm.mk k s u b v l).args.length:=h;unfold nodeS nodeE;rw[hb,ha];rfl
theorem RepL.one {H:Heap}{t:Tm}{cs:List Value}{b:Nat}{T:TypeId}(r:RepT H t cs) (g:H.get b=some (.row cs T)):RepL H [t] (some ⟨b,0,none⟩) 1 (fun _=>cs):=by
 have h1:=r.len;refine RepL.of_row g (fun i hi=>?_) (fun i u hu=>?_) (Ze _) (by simp [maxLen])
 ·match i,hi with
  |0,_=>simp;exact Zm (by omega)
 ·match i,hu with
  |0,hu=>cases hu;exact r
theorem zhg {σ:Int->Tm}(hσ:∀n,0<=n->Fine (σ n)):∀(m:Nat) (t:Tm),SizeOf.sizeOf t < m->Fine t->Fine (sub σ t)
 |0,_,h,_=>by omega
 |m+1,t,h,f=>by
  by_cases k1:t.kind=1
  ·rw[z96 k1];exact hσ _ (z2d f.node).2.2.2.1
  ·rw[zm3 k1];unfold Fine;rw[z5w];have hn:nodeS (.mk t.kind t.name t.num t.bits t.var (t.args.map (sub σ)))=0:=by
    rw[z99 (l:=t.args) (by simp)];have:=f.node;obtain⟨k,s,u,b,v,l⟩:=t;exact this
   rw[if_pos hn];have hl:∀l:List Tm,(∀u∈l,Fine (sub σ u))->allL nodeS (l.map (sub σ))=0:=by
    intro l
    induction l with
    |nil=>intro _;rfl
    |cons u l ih =>
     intro hu;rw[ZA,allL,if_pos (show allE nodeS (sub σ u)=0 from hu u (by simp))];exact ih fun v hv=>hu v (Zn _ hv)
   exact hl t.args fun u hu=>zhg hσ m u (by have:=z0h hu;omega) (f.args u hu)
def plain1 (t:Tm):Tm:=sub (fun n=>varT (plcZ (uniq (occ t)) n)) t
def addN (σ:Int->Option Tm) (m:Nat) (n:Int):Nat:=match σ n with
 |some u=>if m<=4000 then m+cnt u 0 - 1 else m
 |none=>m
def allS (σ:Int->Option Tm) (m:Nat) (l:List Int):Nat:=l.foldl (addN σ) m
theorem zss {σ:Int->Option Tm}{m:Nat}{n:Int}(h:m<=8001):addN σ m n<=8001:=by
 unfold addN;split
 ·rename_i u _;have:=z4a u;split<;>omega
 ·exact h
theorem zmg {σ:Int->Option Tm}:∀{l:List Int}{m:Nat},m<=8001->allS σ m l<=8001
 |[],_,h=>h
 |n :: l,m,h=>by unfold allS;rw[List.foldl_cons];exact zmg (l:=l) (zss h)
theorem z9a {σ:Int->Option Tm}{l:List Int}{m:Nat}{n:Int}:allS σ m (l++[n])=addN σ (allS σ m l) n:=by unfold allS;rw[List.foldl_append];rfl
def PutOk (t:Tm) (B:List (Int × Tm)):Prop :=
 checkS t=0/\(∀(i:Nat) (hi:i < B.length),0<=B[i].1/\lookT (B.take i) B[i].1=none/\checkS B[i].2=0)/\allS (lookT B) (cnt t 0) (occ t)<=4000
set_option maxHeartbeats 2000000 in
theorem zp6 {H0 H:Heap}{B:List (Int × Tm)}{p r:Nat}{n:Int}(gp:H.get p=some (.row [.map (some r)] 112)) (hm:MapT H0 H r B) (hx0:HX H0 H) (hw0:H0.wf) :
  EvF Tryz.prog okT 64 [.int .i64 n,.pointer (some ⟨p,0,none⟩)] H fun v H'=>HX H H'/\((∃u cs,lookT B n=some u/\v=.tuple #[.agg ⟨cs⟩,.bool true]/\RepT H' u cs)\/(lookT B n=none/\v=.tuple #[.agg ⟨zero6⟩,.bool false])):=by
 have hw:=hx0.wf;refine EvF.enter rfl Tryz.func64 (by decide) rfl ?_;have lp:=hw _ _ gp;(repeat refine qZa ?_);refine qZb ?_;simp (config:=qZc) (disch:=first|omega|rfl) only[sA,initTm,dAlloc,zr28];obtain⟨H2,e2,hx2,g2,hn2,hw2⟩:=new1 hw (.row zero6 28);simp only[e2];clear e2;have l2:=row1 (hx2.get hw gp);obtain⟨M,hM,hMn⟩:=hm.keep hx2 hw;rcases zbu (lookT B n) with ⟨u,hl⟩|hl
 ·skip
  obtain⟨cs,hg,hr⟩:=(hMn n).1 u hl;obtain⟨a1,c1,cells1,rfl,-⟩:=hr.six;(repeat refine qZa ?_);refine qZb ?_;simp (config:=qZc) (disch:=first|omega|rfl) only[sB,dAlloc,Za,Zb,one,reduceCtorEq,zr28,zf8,st28,l2,z1n,z59 zfe hM hg];obtain⟨H3,e3,hx3,g3,hn3,hw3⟩:=z0m hw2 (.row zero6 28) (.row (six u a1 c1) 28);simp only[e3];clear e3;have g23:=hx3.get hw2 g2;have q3:=row6 g3
  repeat' (first|refine qZa ?_|(refine qZf ?_)|(refine qZb ?_;simp (config:=qZc) (disch:=first|omega|rfl) only[sB,Za,Zb,one,reduceCtorEq,st28,ld28,q3,g23]))
  have hx4:=(hx2.trans hx3).pt (Ze _) g23 (some (.row (six u a1 c1) 28));exact z0e rfl (by simp only[sB,Za,reduceCtorEq];rfl) (by simp only[sB,Zb,cutC,ld28]) (by simp only[sG,Za,reduceCtorEq]) ⟨hx4,.inl ⟨u,_,hl,rfl,hr.mono (hx0.trans hx4) hw0⟩⟩
 ·skip
  have hg:=(hMn n).2 hl;(repeat refine qZa ?_);refine qZb ?_;simp (config:=qZc) (disch:=first|omega|rfl) only[sB,dAlloc,Za,Zb,one,reduceCtorEq,zr28,zf8,st28,l2,z1n,z5a zfe hM hg];obtain⟨H3,e3,hx3,g3,hn3,hw3⟩:=z0m hw2 (.row zero6 28) (.row zero6 28);simp only[e3];clear e3;have g23:=hx3.get hw2 g2;have q3:=row6 g3
  repeat' (first|refine qZa ?_|(refine qZf ?_)|(refine qZb ?_;simp (config:=qZc) (disch:=first|omega|rfl) only[sB,Za,Zb,one,reduceCtorEq,st28,ld28,q3,g23]))
  have hx4:=(hx2.trans hx3).pt (Ze _) g23 (some (.row zero6 28));exact z0e rfl (by simp only[sB,Za,reduceCtorEq];rfl) (by simp only[sB,Zb,cutC,ld28]) (by simp only[sG,Za,reduceCtorEq]) ⟨hx4,.inr ⟨hl,rfl⟩⟩
set_option maxHeartbeats 4000000 in
theorem zst {H0 H1:Heap}{B:List (Int × Tm)}{p r q m:Nat}{tot:List Int}(gp:H1.get p=some (.row [.map (some r)] 112)) (hm:MapT H0 H1 r B) (hx0:HX H0 H1) (hw0:H0.wf) (hq:H1.next<=q) (hm8:m<=8001) :
  Each 62 #[.pointer (some ⟨p,0,none⟩),.pointer (some ⟨q,0,none⟩)] H1 tot fun S pre G=>HX H1 G/\(∀n,S n↔n=q)/\G.get q=some (.row [.int .i64 ((allS (lookT B) m pre:Nat):Int)] 3):=by
 have hw1:=hx0.wf;refine⟨fun S pre H h=>h.1,fun S pre H h n hn=>?_,fun S pre n H h _=>?_,fun S pre H H' h hx=>⟨h.1.trans hx,h.2.1,hx.get h.1.wf h.2.2⟩⟩
 ·rw[(h.2.1 n).1 hn];exact h.1.wf _ _ h.2.2
 obtain⟨hx,hS,gq⟩:=h;have hw:=hx.wf;have lq:=hw _ _ gq;have hall:=zmg (σ:=lookT B) (l:=pre) hm8;refine EvF.enter rfl Tryz.func62 (by decide) rfl ?_;have l2:=row1 (hx.get hw1 gp);obtain⟨M,hM,hMn⟩:=hm.keep hx hw1;rcases zbu (lookT B n) with ⟨u,hl⟩|hl
 ·skip
  obtain⟨cs,hg,hr⟩:=(hMn n).1 u hl;obtain⟨a1,c1,cells1,rfl,-⟩:=hr.six;(repeat refine qZa ?_);refine qZb ?_;simp (config:=qZc) (disch:=first|omega|rfl) only[sB,initTm,dAlloc,Za,Zb,one,reduceCtorEq,zf8,zr28,st28,l2,z1n,z59 zfe hM hg];obtain⟨H3,e3,hx3,g3,hn3,hw3⟩:=z0m hw (.row zero6 28) (.row (six u a1 c1) 28);simp only[e3];clear e3;have gq3:=hx3.get hw gq;have lq3:=row1 gq3;have q3:=row6 g3;by_cases h4:allS (lookT B) m pre<=4000
  ·have hd:decide (((allS (lookT B) m pre:Nat):Int)<=4000)=true:=decide_eq_true (by omega);(repeat refine qZa ?_);refine qZb ?_;simp (config:=qZc) (disch:=first|omega|rfl) only[sB,Za,reduceCtorEq,ld3,lq3,hd];refine qZd (by simp (config:=qZc) (disch:=first|omega|rfl) only[sB,Za,reduceCtorEq]) ?_;(try refine qZe ?_);(try simp only[z00,z04])
   repeat' (first|(refine qZj [([(1,0)],some 2),([(0,0),(3,1),(4,1)],some 5),([],none)] ?_ ?_;kernel_rfl;simp (config:=qZc) (disch:=first|omega|rfl) only[sD,sB,Za,Zb,reduceCtorEq,ld28,cl33,q3,isAlloc,isRead]))
   have hb3:=hx3.bump 6;refine(z1j u _ _ (hr.mono ((hx0.trans hx).trans hb3) hw0) hb3.wf).mono ?_;rintro v H5 ⟨rfl,hx5⟩;have gq5:=hx5.get hb3.wf (show Heap.get ⟨H3.next+6,H3.t⟩ q=_ from gq3);have lq5:=row1 gq5;have hc1:=zso u;have hc2:=z4a u;have hw2:IntKind.i64.wrap (((cnt u 0:Nat):Int) - 1)=((cnt u 0 - 1:Nat):Int):=by rw[z0c (by omega) (by omega)];omega
   have hw3:IntKind.i64.wrap (((allS (lookT B) m pre:Nat):Int)+((cnt u 0 - 1:Nat):Int))=((addN (lookT B) (allS (lookT B) m pre) n:Nat):Int):=by
    unfold addN;simp only[hl,if_pos h4];rw[z0c (by omega) (by omega)];omega
   repeat' (first|(refine z0p ?_;simp (config:=qZc) (disch:=first|omega|rfl) only[sD,sB,Za,one,reduceCtorEq,ld3,st3,lq3,lq5,gq5,hw2,hw3,isAlloc,isRead,zgs]))
   have hxx:=hb3.trans hx5;refine z0j rfl ⟨fun n=>n=q,⟨(hx.trans hxx).then ((HK.refl (S:=fun n=>n=q) hxx.wf).put (.inl rfl) (Zi lq hxx.next) _) (by intro k hk e;have e':k=q:=e;omega),fun n=>Iff.rfl,by rw[get_put,if_pos rfl,z9a]⟩,?_,fun k hk=>.inl ((hS k).2 hk)⟩;exact((hxx.hk S)).put (.inl ((hS q).2 rfl)) (Zi lq hxx.next) _
  ·have hd:decide (((allS (lookT B) m pre:Nat):Int)<=4000)=false:=decide_eq_false (by omega)
   repeat' (first|refine qZa ?_|(refine qZe ?_)|(refine qZb ?_;simp (config:=qZc) (disch:=first|omega|rfl) only[sB,Za,reduceCtorEq,ld3,lq3,hd])|(refine qZm ?_ ?_;simp (config:=qZc) (disch:=first|omega|rfl) only[sB,Za,reduceCtorEq];refine z02 ?_))
   refine z0j rfl ⟨S,⟨hx.trans hx3,hS,?_⟩,hx3.hk _,fun n hn=>.inl hn⟩;rw[z9a];unfold addN;simp only[hl,if_neg h4];exact gq3
 ·skip
  have hg:=(hMn n).2 hl;(repeat refine qZa ?_);refine qZb ?_;simp (config:=qZc) (disch:=first|omega|rfl) only[sB,initTm,dAlloc,Za,Zb,one,reduceCtorEq,zf8,zr28,st28,l2,z1n,z5a zfe hM hg];obtain⟨H3,e3,hx3,g3,hn3,hw3⟩:=z0m hw (.row zero6 28) (.row zero6 28);simp only[e3];clear e3;have gq3:=hx3.get hw gq
  repeat' (first|refine qZa ?_|(refine qZe ?_)|(refine qZb ?_;simp (config:=qZc) (disch:=first|omega|rfl) only[sB,Za,reduceCtorEq,Zg])|(refine qZm ?_ ?_;simp (config:=qZc) (disch:=first|omega|rfl) only[sB,Za,reduceCtorEq];refine z02 ?_))
  refine z0j rfl ⟨S,⟨hx.trans hx3,hS,?_⟩,hx3.hk _,fun n hn=>.inl hn⟩;rw[z9a];unfold addN;simp only[hl];exact gq3
theorem zuk {H0 H1:Heap}{B:List (Int × Tm)}{p r:Nat}(gp:H1.get p=some (.row [.map (some r)] 112)) (hm:MapT H0 H1 r B) (hx0:HX H0 H1) (hw0:H0.wf) (hf:∀n u,lookT B n=some u->Fine u) :
  ByOpt 64 #[.pointer (some ⟨p,0,none⟩)] (lookT B) fun G=>HX H1 G :=
 ⟨fun n G _ hj hw=>zp6 (hj.get hx0.wf gp) (hm.keep hj hx0.wf) (hx0.trans hj) hw0,fun G G' hj hx=>hj.trans hx,hf⟩
abbrev zero7:List Value:=.int .i64 0 :: zero6
theorem row7 {H:Heap}{p:Nat}{T:TypeId}{x0 x1 x2 x3 x4 x5 x6:Value}(h:H.get p=some (Blk.row [x0,x1,x2,x3,x4,x5,x6] T)) :
  H.load ⟨p,0,none⟩ 1=some [x0]/\H.load ⟨p,1,none⟩ 6=some [x1,x2,x3,x4,x5,x6]/\H.load ⟨p,0,none⟩ 7=some [x0,x1,x2,x3,x4,x5,x6]:=by
 refine⟨?_,?_,?_⟩<;>simp only[Heap.load,Heap.cells,h]<;>rfl
theorem zsu {B:List (Int × Tm)}{i:Nat}(h:i < B.length):B.take (i+1)=B.take i++[(B[i].1,B[i].2)]:=by rw[<-List.take_append_getElem h]
set_option maxHeartbeats 16000000 in
theorem zqv {t:Tm}{cs:List Value}{B:List (Int × Tm)}{a:Option Addr}{c:Nat}{H:Heap}(r0:RepT H t cs) (rb:RepB7 H B a c) (hw:H.wf) :
  EvF Tryz.prog okT 37 [.agg ⟨cs⟩,.slice a B.length c] H fun v H'=>HX H H' /\
   ((PutOk t B/\∃out,v=.tuple ⟨[.agg ⟨out⟩,.int .i64 0]⟩/\RepS H' (Rg H.next H'.next) (subO (lookT B) t) out/\TopR H' 28 (Rg H.next H'.next) (subO (lookT B) t) out)\/(¬PutOk t B/\∃e:Int,v=.tuple ⟨[.agg ⟨zero6⟩,.int .i64 e]⟩/\e≠0)):=by
 have hmx:B.length<=9223372036854775807:=Zj rb.len rb.cap;obtain⟨at_,ct,cellst,rfl,-,-,-,-,-,rlt⟩:=r0.six;refine EvF.enter rfl Tryz.func37 (by decide) rfl ?_;(repeat refine qZa ?_);refine qZb ?_;simp (config:=qZc) (disch:=first|omega|rfl) only[sB,initTm,dBox,dAlloc,Value.cells,one,reduceCtorEq,zr28];obtain⟨A2,e2,hx2,gt,g4,hn2,hw2⟩:=new2 hw (.row (six t at_ ct) 28) (.row zero6 28);simp only[e2];clear e2;(repeat refine qZa ?_);refine qZb ?_;simp (config:=qZc) (disch:=first|omega|rfl) only[sA,dAlloc,zr28];obtain⟨A3,e3,hx3,g6,hn3,hw3⟩:=new1 hw2 (.row zero6 28);simp only[e3];clear e3;have gt:=hx3.get hw2 gt;have g4:=hx3.get hw2 g4;have hx:=hx2.trans hx3;rw[hn2] at g6 hn3;have qt:=row6 gt
 repeat' (first|refine qZa ?_|(refine qZb ?_;simp (config:=qZc) (disch:=first|omega|rfl) only[sB,Za,reduceCtorEq,ld28,cl18,qt]))
 refine(z25 t _ _ (r0.mono hx hw) hx.wf).mono ?_;rintro v A4 ⟨rfl,k4⟩;have gt:=k4.get hx.wf gt;have g4:=k4.get hx.wf g4;have g6:=k4.get hx.wf g6;have hx:=hx.trans k4;have n4:=k4.next;have q6:=row6 g6;have ne46:(H.next+1=H.next+2)=False:=by simp
 by_cases h0:checkS t=0;rotate_left
 ·rw[hn2] at *
  repeat' (first|refine qZa ?_|(refine qZf ?_;try simp only[z06,z01])|(refine qZb ?_;simp (config:=qZc) (disch:=first|omega|rfl) only[sB,Za,Zb,one,reduceCtorEq,ld28,st28,z1z h0,q6,g4])|(refine qZd ?_ ?_;simp (config:=qZc) (disch:=first|omega|rfl) only[sB,Za,reduceCtorEq];refine z02 ?_))
  refine z0e rfl (by simp only[sB,Za,reduceCtorEq];rfl) (by simp only[sB,Zb,cutC,ld28]) (by simp only[sG,Za,reduceCtorEq]) ⟨hx.pt (by omega) g4 _,.inr ⟨fun h=>h0 h.1,_,rfl,h0⟩⟩
 rw[hn2] at *
 repeat' (first|refine qZa ?_|refine qZg ?_|(refine qZe ?_;try simp only[z00])|(refine qZb ?_;simp (config:=qZc) (disch:=first|omega|rfl) only[sB,dAlloc,Za,one,reduceCtorEq,zva,zvb,zvc,z15 h0,z4b])|(refine qZm ?_ ?_;simp (config:=qZc) (disch:=first|omega|rfl) only[sB,Za,reduceCtorEq];refine z02 ?_))
 obtain⟨A5,e5,k5,gr,n5,w5⟩:=new1 hx.wf (.map [] 0);obtain⟨A6,e6,k6,gp,n6,w6⟩:=z0m w5 (.row [.map none] 112) (.row [.map (some A4.next)] 112);rw[n5] at e6 gp;simp only[e5,e6];have gr:=k6.get w5 gr;have k56:=k5.trans k6;have gt:=k56.get hx.wf gt;have g4:=k56.get hx.wf g4;have g6:=k56.get hx.wf g6;have hr4:=hx.next;have hx:=hx.trans k56;clear e5 e6 k5 k6 k56;have hpr:A4.next+1≠A4.next:=by omega
 have hm0:MapT H A6 A4.next (B.take 0):=⟨[],⟨[],0,gr,rfl⟩,fun n=>⟨fun u hu=>by simp [lookT] at hu,fun _=>rfl⟩⟩
 have hr5:H.next+3<=A4.next:=by omega
 have hp5:H.next+3<=A4.next+1:=by omega
 generalize A4.next+1=p at *;generalize A4.next=r at *;clear n4 n5 n6 gr hr4 hn3 hn2 k4 qt q6 hx2 hx3 hw2 hw3 w5;refine qZk (fun k st=>∃tm H' i,st=⟨tm,[],H'⟩/\k=B.length - i/\i<=B.length/\tm.get 2=some (.pointer (some ⟨H.next,0,none⟩))/\tm.get 4=some (.pointer (some ⟨H.next+1,0,none⟩))/\tm.get 6=some (.pointer (some ⟨H.next+2,0,none⟩))/\tm.get 8=some (.pointer (some ⟨p,0,none⟩)) /\
  tm.get 22=some (.slice a B.length c)/\tm.get 23=some (.int .i64 B.length)/\tm.get 24=some (.int .i64 (i:Nat))/\H'.get H.next=some (.row (six t at_ ct) 28)/\H'.get (H.next+1)=some (.row zero6 28)/\H'.get (H.next+2)=some (.row zero6 28) /\
  H'.get p=some (.row [.map (some r)] 112)/\MapT H H' r (B.take i)/\(∀(j:Nat) (hj:j < B.length),j < i->0<=B[j].1/\lookT (B.take j) B[j].1=none/\checkS B[j].2=0)/\HX H H') ?_ B.length _ ?_
 rotate_left
 ·exact⟨_,_,0,rfl,rfl,Zl _,(by simp only[sG,Za,reduceCtorEq]),(by simp only[sG,Za,reduceCtorEq]),(by simp only[sG,Za,reduceCtorEq]),(by simp only[sG,Za,reduceCtorEq]),(by simp only[sG,Za,reduceCtorEq]),(by simp only[sG,Za,reduceCtorEq]),(by simp only[sB,Za,reduceCtorEq];rfl),gt,g4,g6,gp,hm0,fun j hj h=>by omega,hx⟩
 clear gt g4 g6 gp hm0 hx w6;rintro k st ⟨tm,A,i,rfl,rfl,hi,t2,t4,t6,t8,t22,t23,t24,gt,g4,g6,gp,hm,hok,hx⟩;have hwA:=hx.wf;have q6:=row6 g6;have qt:=row6 gt;by_cases hlt:i < B.length
 ·obtain⟨b,o,a1,c1,rfl,hld,hrb⟩:=rb.el i hlt;have hld:=hx.load hw hld;(repeat refine qZa ?_);refine qZb ?_;simp (config:=qZc) (disch:=first|omega|rfl) only[sA,t23,t24,decl hlt];(repeat refine qZa ?_);refine qZd (by simp (config:=qZc) (disch:=first|omega|rfl) only[sB]) ?_;(try refine qZe ?_);(try simp only[z00,z04]);refine qZa ?_;refine qZg ?_;(repeat refine qZa ?_);refine qZb ?_;simp (config:=qZc) (disch:=first|omega|rfl) only[sB,dAlloc,Za,Zb,one,zvd,zve,zvf,zvg,t22,t24,hld];obtain⟨A1,e1,k1,g10,n1,w1⟩:=z0m hwA (.row zero7 114) (.row (seven B[i].1 B[i].2 a1 c1) 114);simp only[e1];clear e1;have q10:=row7 g10;have lp:=row1 (k1.get hwA gp);obtain⟨M,hM,hMn⟩:=hm.keep k1 hwA;have gt1:=k1.get hwA gt;have g41:=k1.get hwA g4;have g61:=k1.get hwA g6;have gp1:=k1.get hwA gp;rcases zbu (lookT (B.take i) B[i].1) with ⟨u,hl⟩|hl
  ·skip
   obtain⟨csu,hg,hru⟩:=(hMn B[i].1).1 u hl;obtain⟨a2,c2,cells2,rfl,-⟩:=hru.six;(repeat refine qZa ?_);refine qZb ?_;simp (config:=qZc) (disch:=first|omega|rfl) only[sB,dAlloc,Za,Zb,one,zr28,st28,zf8,z8x,ld3,t8,lp,q10,z1n,z59 zfe hM hg];obtain⟨A3,e3,k3,g3,n3,w3⟩:=z0m w1 (.row zero6 28) (.row (six u a2 c2) 28);simp only[e3];clear e3;have g43:=k3.get w1 g41;have q63:=row6 (k3.get w1 g61)
   repeat' (first|refine qZa ?_|(refine qZf ?_;try simp only[z06,z01])|(refine qZb ?_;simp (config:=qZc) (disch:=first|omega|rfl) only[sB,Za,Zb,one,ld28,st28,t4,t6,q63,g43])|(refine qZd ?_ ?_;simp (config:=qZc) (disch:=first|omega|rfl) only[sB,Za];refine z02 ?_))
   refine z0e rfl (by simp only[sB,Za,t4];rfl) (by simp only[sB,Zb,cutC,ld28]) (by simp only[sB,Za];rfl) ⟨((hx.trans k1).trans k3).pt (by omega) g43 _,.inr ⟨fun h=>?_,_,rfl,by decide⟩⟩;have:=(h.2.1 i hlt).2.1;rw[hl] at this;cases this
  ·skip
   have hg:=(hMn B[i].1).2 hl;(repeat refine qZa ?_);refine qZb ?_;simp (config:=qZc) (disch:=first|omega|rfl) only[sB,dAlloc,Za,Zb,one,zr28,st28,zf8,z8x,ld3,t8,lp,q10,z1n,z5a zfe hM hg];obtain⟨A3,e3,k3,g3,n3,w3⟩:=z0m w1 (.row zero6 28) (.row zero6 28);simp only[e3];clear e3;have g103:=k3.get w1 g10;have q103:=row7 g103;have g43:=k3.get w1 g41;have g63:=k3.get w1 g61;have q63:=row6 g63;have hx3:=(hx.trans k1).trans k3;by_cases hneg:B[i].1 < 0
   ·repeat' (first|refine qZa ?_|(refine qZf ?_;try simp only[z06,z01])|(refine qZb ?_;simp (config:=qZc) (disch:=first|omega|rfl) only[sB,Za,Zb,one,ld28,st28,z8x,ld3,t4,t6,q103,decide_eq_true hneg,q63,g43,Zg])|(refine qZd ?_ ?_;simp (config:=qZc) (disch:=first|omega|rfl) only[sB,Za];refine z02 ?_))
    refine z0e rfl (by simp only[sB,Za,t4];rfl) (by simp only[sB,Zb,cutC,ld28]) (by simp only[sB,Za];rfl) ⟨hx3.pt (by omega) g43 _,.inr ⟨fun h=>?_,_,rfl,by decide⟩⟩;have:=(h.2.1 i hlt).1;omega
   repeat' (first|refine qZa ?_|(refine qZe ?_;try simp only[z00])|(refine qZb ?_;simp (config:=qZc) (disch:=first|omega|rfl) only[sB,Za,ld28,cl18,z8x,ld3,zlb,q103,decide_eq_false hneg,Zg])|(refine qZm ?_ ?_;simp (config:=qZc) (disch:=first|omega|rfl) only[sB,Za];refine z02 ?_))
   refine(z25 _ _ _ (hrb.mono hx3 hw) hx3.wf).mono ?_;rintro v A5 ⟨rfl,k5⟩;have g105:=k5.get hx3.wf g103;have q105:=row7 g105;have g45:=k5.get hx3.wf g43;have g65:=k5.get hx3.wf g63;have q65:=row6 g65;have hx5:=hx3.trans k5;have k15:=(k1.trans k3).trans k5;by_cases hc:checkS B[i].2=0;rotate_left
   ·repeat' (first|refine qZa ?_|(refine qZf ?_;try simp only[z06,z01])|(refine qZb ?_;simp (config:=qZc) (disch:=first|omega|rfl) only[sB,Za,Zb,one,ld28,st28,t4,t6,z1z hc,q65,g45])|(refine qZd ?_ ?_;simp (config:=qZc) (disch:=first|omega|rfl) only[sB,Za];refine z02 ?_))
    refine z0e rfl (by simp only[sB,Za,t4];rfl) (by simp only[sB,Zb,cutC,ld28]) (by simp only[sG,Za]) ⟨hx5.pt (by omega) g45 _,.inr ⟨fun h=>hc (h.2.1 i hlt).2.2,_,rfl,hc⟩⟩
   have gp5:=k15.get hwA gp;have lp5:=row1 gp5;obtain⟨K,hup,hm6⟩:=(hm.keep k15 hwA).push zfe hl hrb;have hrl:=hm.lt hwA;have hrl5:r < A5.next:=Zi hrl k15.next
   repeat' (first|refine qZa ?_|(refine qZe ?_;try simp only[z00])|(refine qZb ?_;simp (config:=qZc) (disch:=first|omega|rfl) only[sB,Za,ld28,zf8,z8x,ld3,zlb,t8,t24,z15 hc,lp5,q105,z2y,hup,z0c])|(refine qZm ?_ ?_;simp (config:=qZc) (disch:=first|omega|rfl) only[sB,Za];refine z02 ?_))
   have gt5:=k15.get hwA gt;exact⟨B.length - (i+1),by omega,_,_,i+1,rfl,rfl,by omega,(by simp only[sG,Za,t2]),(by simp only[sG,Za,t4]),(by simp only[sG,Za,t6]),(by simp only[sG,Za,t8]),(by simp only[sG,Za,t22]),(by simp only[sG,Za,t23]),(by simp only[sB,Za];rfl),by rw[get_put,if_neg (by omega)];exact gt5,by rw[get_put,if_neg (by omega)];exact g45,by rw[get_put,if_neg (by omega)];exact g65,
    by rw[get_put,if_neg hpr];exact gp5,by rw[zsu hlt];exact hm6,fun j hj hji=>by
     by_cases e:j=i
     ·subst e;exact⟨by omega,hl,hc⟩
     ·exact hok j hj (by omega),hx5.put (by omega) hrl5 _⟩
 ·obtain rfl:i=B.length:=by omega
  rw[List.take_length] at hm;have hfine:∀n u,lookT B n=some u->Fine u:=fun n u hu=>by
   obtain⟨j,hj,e⟩:=ZO (zm5 hu);have:=(hok j hj hj).2.2;rw[e] at this;exact(z0k.1 this).2
  have hft:=(z0k.1 h0)
  repeat' (first|refine qZa ?_|(refine qZi ?_;try simp only[sB])|(refine qZb ?_;simp (config:=qZc) (disch:=first|omega|rfl) only[sB,dAlloc,Za,ld28,cl33,zr3,t2,t23,t24,decn hlt,qt])|(refine qZm ?_ ?_;simp (config:=qZc) (disch:=first|omega|rfl) only[sB];refine z02 ?_))
  refine(z1j t _ _ (r0.mono hx hw) hx.wf).mono ?_;rintro v A1 ⟨rfl,k1⟩;have gt1:=k1.get hwA gt;have g41:=k1.get hwA g4;have g61:=k1.get hwA g6;have gp1:=k1.get hwA gp;have hm1:=hm.keep k1 hwA;have hx1:=hx.trans k1;(try simp (config:=qZc) (disch:=first|omega|rfl) only[sB,one,st3]);obtain⟨A2,e2,k2,gq,n2,w2⟩:=z0m hx1.wf (.row [.int .i64 0] 3) (.row [.int .i64 ((cnt t 0:Nat):Int)] 3);simp only[e2];clear e2;have qt2:=row6 (k2.get hx1.wf gt1);(repeat refine qZa ?_);refine qZb ?_;simp (config:=qZc) (disch:=first|omega|rfl) only[sB,Za,ld28,cl61,t2,t8,qt2,List.map_toArray];have E:=zst (tot:=occ t) (m:=cnt t 0) gp1 hm1 hx1 hw (Ze _) (by omega);refine(zm1 hx1.wf (by kernel_rfl) E _ (Zf _) (r0.mono hx1 hw) (S:=fun n=>n=A1.next) (pre:=[]) ⟨k2,fun n=>Iff.rfl,gq⟩ (by rw[List.nil_append];exact List.prefix_refl _)).mono ?_;rintro v A3 ⟨S3,⟨k3,hS3,gq3⟩,-,-⟩;rw[List.nil_append] at gq3;have gt3:=k3.get hx1.wf gt1;have g43:=k3.get hx1.wf g41;have g63:=k3.get hx1.wf g61;have q63:=row6 g63;have qt3:=row6 gt3;have lq3:=row1 gq3;have hx3:=hx1.trans k3;by_cases h4:4000 < allS (lookT B) (cnt t 0) (occ t)
  ·have hd:decide (((allS (lookT B) (cnt t 0) (occ t):Nat):Int) > 4000)=true:=decide_eq_true (by omega)
   repeat' (first|refine qZa ?_|(refine qZf ?_;try simp only[z06,z01])|(refine qZb ?_;simp (config:=qZc) (disch:=first|omega|rfl) only[sB,Za,Zb,one,ld28,st28,ld3,t4,t6,lq3,hd,q63,g43])|(refine qZd ?_ ?_;simp (config:=qZc) (disch:=first|omega|rfl) only[sB,Za];refine z02 ?_))
   refine z0e rfl (by simp only[sB,Za,t4];rfl) (by simp only[sB,Zb,cutC,ld28]) (by simp only[sB,Za];rfl) ⟨hx3.pt (by omega) g43 _,.inr ⟨fun h=>?_,_,rfl,by decide⟩⟩;have:=h.2.2;omega
  ·have hd:decide (((allS (lookT B) (cnt t 0) (occ t):Nat):Int) > 4000)=false:=decide_eq_false (by omega)
   repeat' (first|refine qZa ?_|(refine qZe ?_;try simp only[z00])|(refine qZb ?_;simp (config:=qZc) (disch:=first|omega|rfl) only[sB,Za,ld28,ld3,cl63,t2,t8,lq3,hd,qt3,List.map_toArray])|(refine qZm ?_ ?_;simp (config:=qZc) (disch:=first|omega|rfl) only[sB,Za];refine z02 ?_))
   refine(zjc (by kernel_rfl) (zuk gp1 hm1 hx1 hw hfine) (Zf _) (r0.mono hx3 hw) hft.2 k3 hx3.wf).mono ?_;rintro v A5 ⟨out,rfl,hrep,htop,k5⟩;have g45:=k5.get hx3.wf g43;obtain⟨a5,c5,cells5,rfl,-⟩:=hrep.rep.six
   repeat' (first|(refine qZf ?_)|(refine z0q ?_;simp (config:=qZc) (disch:=first|omega|rfl) only[sB,Zb,one,st28,t4,g45]))
   refine z0e rfl (by simp only[sB,Za,t4];rfl) (by simp only[sB,Zb,cutC,ld28];rfl) (by simp only[sG,Za]) ⟨(hx3.trans k5).pt (by omega) g45 _,.inl ⟨⟨h0,fun j hj=>hok j hj hj,by omega⟩,_,rfl,?_,?_⟩⟩
   ·have n3:=hx3.next;have l4:=hx3.wf _ _ g43;refine hrep.to fun n hn hl=>?_
    have:=hn.1;exact⟨by rw[get_put,if_neg (by omega)],⟨by omega,hl⟩,hl⟩
   ·have n3:=hx3.next;have l4:=hx3.wf _ _ g43;refine htop.heap fun n hn hl=>?_
    have:=hn.1;exact⟨by rw[get_put,if_neg (by omega)],⟨by omega,hl⟩,hl⟩
end Go.Proofs.hq
end

section
namespace Go.Hb
open Go Go.RowKit
section
variable (P:Program) (ok:Ok)
def EvP (f:FuncId) (args:List Value) (H:Heap) (K:List PanicEntry->Heap->Prop):Prop:=Upon (fun n=>dcall P ok n f args H) fun p=>∃ch,p.1=.panic ch/\K ch p.2
def EvM (fn:Func) (tm:Tr Value) (ds:List Deferred) (m:Option (List PanicEntry)) (H:Heap) (K:Value->Heap->Prop):Prop:=Upon (fun n=>dleave P ok n fn tm ds m H) fun p=>∃v,p.1=.ret v/\K v p.2
def EvSq (x:Ctx) (cs:List Code) (st:St) (Q:Ex->St->Prop):Prop:=Upon (fun n=>dseq P ok n x cs st) fun p=>Q p.1 p.2
end
def Ex.leaveP (K:List PanicEntry->Heap->Prop):Ex->St->Prop
 |.panic ch,st=>st.ds=[]/\K ch st.H
 |_,_=>False
def Ex.leaveM (P:Program) (ok:Ok) (fn:Func) (K:Value->Heap->Prop):Ex->St->Prop
 |.normal,st|.ret,st=>EvM P ok fn st.tm st.ds none st.H K
 |.panic ch,st=>EvM P ok fn st.tm st.ds (some ch) st.H K
 |_,_=>False
section
variable {P:Program}{ok:Ok}{x:Ctx}{ops:Array Oper}
theorem EvP.mono {f:FuncId}{args:List Value}{H:Heap}{K L:List PanicEntry->Heap->Prop}(h:EvP P ok f args H K) (k:∀v H',K v H'->L v H'):EvP P ok f args H L :=
 Upon.mono h fun _ ⟨v,e,hq⟩=>⟨v,e,k _ _ hq⟩
theorem EvP.enter {f:FuncId}{fn:Func}{c:Code}{args:List Value}{H:Heap}{K:List PanicEntry->Heap->Prop}(hK:ok.K f args H=none) (hf:P.funcs[f]?=some fn) (hm:ok.testBit f=true) (hb:fn.body=some c)
  (h:EvC P ok ⟨f,none⟩ c ⟨initTm 0 args .nil,[],H⟩ (Ex.leaveP K)):EvP P ok f args H K:=by
 refine Upon.step (fun n (r:Ex × St)=>match r with|(.normal,st)|(.ret,st)=>dleave P ok n fn st.tm st.ds none st.H|(.panic ch,st)=>dleave P ok n fn st.tm st.ds (some ch) st.H|_=>none) (fun n r hr=>?_) h ?_
 ·rw[dcall,hK];simp only[hf,hm,hb,hr];obtain⟨e,s⟩:=r;cases e<;>rfl
 ·rintro ⟨e,s⟩ hq;cases e with
  |panic ch =>
   obtain⟨h1,h2⟩:=hq;exact Upon.now (r:=(.panic ch,s.H)) (fun n=>by show dleave P ok (n+1) fn s.tm s.ds (some ch) s.H=_;rw[h1,dleave]) ⟨ch,rfl,h2⟩
  |_=>exact hq.elim
theorem EvF.enterM {f:FuncId}{fn:Func}{c:Code}{args:List Value}{H:Heap}{K:Value->Heap->Prop}(hK:ok.K f args H=none) (hf:P.funcs[f]?=some fn) (hm:ok.testBit f=true) (hb:fn.body=some c)
  (h:EvC P ok ⟨f,none⟩ c ⟨initTm 0 args .nil,[],H⟩ (Ex.leaveM P ok fn K)):EvF P ok f args H K:=by
 refine Upon.step (fun n (r:Ex × St)=>match r with|(.normal,st)|(.ret,st)=>dleave P ok n fn st.tm st.ds none st.H|(.panic ch,st)=>dleave P ok n fn st.tm st.ds (some ch) st.H|_=>none) (fun n r hr=>?_) h ?_
 ·rw[dcall,hK];simp only[hf,hm,hb,hr];obtain⟨e,s⟩:=r;cases e<;>rfl
 ·rintro ⟨e,s⟩ hq;cases e with
  |exit _=>exact hq.elim
  |_=>exact hq
def EvG (P:Program) (ok:Ok) (f:FuncId) (args:List Value) (H:Heap) (K:En->Heap->Prop):Prop:=Upon (fun n=>dcall P ok n f args H) fun p=>K p.1 p.2
def Ex.leaveG (P:Program) (ok:Ok) (fn:Func) (K:En->Heap->Prop):Ex->St->Prop
 |.normal,st|.ret,st=>EvV P ok fn st.tm st.ds st.H fun v H=>K (.ret v) H
 |.panic ch,st=>st.ds=[]/\K (.panic ch) st.H
 |_,_=>False
theorem EvG.mono {f:FuncId}{args:List Value}{H:Heap}{K L:En->Heap->Prop}(h:EvG P ok f args H K) (k:∀v H',K v H'->L v H'):EvG P ok f args H L:=Upon.mono h fun _ hq=>k _ _ hq
theorem EvG.toF {f:FuncId}{args:List Value}{H:Heap}{K:En->Heap->Prop}{L:Value->Heap->Prop}(h:EvG P ok f args H K) (k:∀e H',K e H'->∃v,e=.ret v/\L v H'):EvF P ok f args H L:=Upon.mono h fun _ hq=>k _ _ hq
theorem EvG.toP {f:FuncId}{args:List Value}{H:Heap}{K:En->Heap->Prop}{L:List PanicEntry->Heap->Prop}(h:EvG P ok f args H K) (k:∀e H',K e H'->∃ch,e=.panic ch/\L ch H'):EvP P ok f args H L:=Upon.mono h fun _ hq=>k _ _ hq
theorem z1b {fn:Func}{K:En->Heap->Prop}{st:St}(h:Ex.leave P ok fn (fun v H=>K (.ret v) H) .ret st):Ex.leaveG P ok fn K .ret st:=h
theorem EvG.enter {f:FuncId}{fn:Func}{c:Code}{args:List Value}{H:Heap}{K:En->Heap->Prop}(hK:ok.K f args H=none) (hf:P.funcs[f]?=some fn) (hm:ok.testBit f=true) (hb:fn.body=some c)
  (h:EvC P ok ⟨f,none⟩ c ⟨initTm 0 args .nil,[],H⟩ (Ex.leaveG P ok fn K)):EvG P ok f args H K:=by
 refine Upon.step (fun n (r:Ex × St)=>match r with|(.normal,st)|(.ret,st)=>dleave P ok n fn st.tm st.ds none st.H|(.panic ch,st)=>dleave P ok n fn st.tm st.ds (some ch) st.H|_=>none) (fun n r hr=>?_) h ?_
 ·rw[dcall,hK];simp only[hf,hm,hb,hr];obtain⟨e,s⟩:=r;cases e<;>rfl
 ·have key:∀{s:St},EvV P ok fn s.tm s.ds s.H (fun v H=>K (.ret v) H)->Upon (fun n=>dleave P ok n fn s.tm s.ds none s.H) fun p=>K p.1 p.2:=fun h=>Upon.mono h fun r ⟨v,e,hq⟩=>by rw[e];exact hq
  rintro ⟨e,s⟩ hq;cases e with
  |normal=>exact key hq
  |ret=>exact key hq
  |panic ch =>
   obtain⟨h1,h2⟩:=hq;exact Upon.now (r:=(.panic ch,s.H)) (fun n=>by show dleave P ok (n+1) fn s.tm s.ds (some ch) s.H=_;rw[h1,dleave]) h2
  |exit _=>exact hq.elim
theorem EvM.now {fn:Func}{tm:Tr Value}{H:Heap}{v:Value}{K:Value->Heap->Prop}(hr:dres P fn tm H=some v) (h:K v H):EvM P ok fn tm [] none H K :=
 Upon.now (r:=(.ret v,H)) (fun n=>by rw[dleave,hr]) ⟨v,rfl,h⟩
theorem EvSq.nil {st:St}{Q:Ex->St->Prop}(h:Q .normal st):EvSq P ok x [] st Q:=Upon.now (fun n=>by rw[dseq]) h
theorem EvSq.cons {c:Code}{cs:List Code}{st:St}{Q:Ex->St->Prop}(h:EvC P ok x c st (Ex.thenC (fun st1=>EvSq P ok x cs st1 Q) Q)):EvSq P ok x (c :: cs) st Q:=by
 refine Upon.step (fun n (r:Ex × St)=>match r with|(.normal,st1)=>dseq P ok n x cs st1|r=>some r) (fun n r hr=>?_) h ?_
 ·rw[dseq,hr];obtain⟨e,s⟩:=r;cases e<;>rfl
 ·rintro ⟨e,s⟩ hq;cases e with
  |normal=>exact hq
  |_=>exact⟨0,_,fun n _=>rfl,hq⟩
def EPl (P:Program):List Oper->Tr Value->Heap->(Tr Value->Heap->Prop)->Prop
 |[],tm,H,K=>K tm H
 |o :: os,tm,H,K=>o.guard=none/\∃v H',dop P o (ev tm) H=some (.val v H')/\EPl P os (putD tm o.dst v) H' K
theorem zdt {K:Tr Value->Heap->Prop}:∀(l:List Nat) (os:List Oper) (tm:Tr Value) (H:Heap),l.map (fun i=>ops[i]?)=os.map some->EPl P os tm H K->∃tm1 H1,dplain P ops l tm H=some (tm1,H1)/\K tm1 H1
 |[],[],tm,H,_,h=>⟨tm,H,by rw[dplain],h⟩
 |[],_ :: _,_,_,h,_=>by simp at h
 |_ :: _,[],_,_,h,_=>by simp at h
 |i :: l,o :: os,tm,H,hl,h=>by
  simp only[ZA,List.cons.injEq] at hl;obtain⟨hg,v,H',hd,h⟩:=h;obtain⟨tm1,H1,e,hk⟩:=zdt l os _ _ hl.2 h;refine⟨tm1,H1,?_,hk⟩;rw[dplain,hl.1];simp only[hg,hd];rw[<-e];cases o.dst<;>rfl
theorem zjf {o:Oper}{os:List Oper}(h:ops.toList=o :: os):((Zh ops.size).drop 1).map (fun i=>ops[i]?)=os.map some:=by
 have:=z5s ops;rw[h] at this;rw[<-List.map_drop.symm] at *;rw[this];rfl
theorem EvM.recov {fn gn:Func}{tm:Tr Value}{ds:List Deferred}{m:Option (List PanicEntry)}{H:Heap}{K:Value->Heap->Prop}{g:FuncId}{captured args:Array Value}{c:Code}{rest:List Code}{o:Oper}{os:List Oper}
  (hg:P.funcs[g]?=some gn) (hm:ok.testBit g=true) (hc:callable P g=true) (hb:gn.body=some c) (hh:headRegion c=some (ops,rest)) (ho:ops.toList=o :: os) (hr:isRecover o=true) (hn:gn.results.isEmpty=true)
  (h:EPl P os (putD (initTm 0 (args.toList++captured.toList) .nil) o.dst (drecov m).1) H fun tm1 H1 =>
   EvSq P ok ⟨g,none⟩ rest ⟨tm1,[],H1⟩ fun e st=>(e=.normal\/e=.ret)/\st.ds=[]/\EvM P ok fn tm ds (dsettle (drecov m).2) st.H K) :
  EvM P ok fn tm (⟨.fn (.func g) captured,args⟩ :: ds) m H K:=by
 have hd1:(dcall1 P g []).isSome=true:=by
  unfold callable at hc;rw[hg] at hc;unfold dcall1;rw[hg];simp only at hc ⊢;rw[if_pos hc];rfl
 have ho0:ops[0]?=some o:=by
  have:ops.toList[0]?=some o:=by rw[ho];rfl
  simpa using this
 obtain⟨tm1,H1,hpl,hsq⟩:=zdt _ _ _ _ (zjf ho) h;have hst0:(St.put ⟨initTm 0 (args.toList++captured.toList) .nil,[],H⟩ o.dst (drecov m).1 H).tm=putD (initTm 0 (args.toList++captured.toList) .nil) o.dst (drecov m).1:=by cases o.dst<;>rfl
 refine Upon.step (fun n (r:Ex × St)=>match r with|(.normal,st2)|(.ret,st2)=>if st2.ds.isEmpty && gn.results.isEmpty then dleave P ok n fn tm ds (dsettle (drecov m).2) st2.H else none|_=>none) (fun n r hr2=>?_) hsq ?_
 ·rw[dleave];simp only[hg,hm,hd1,Bool.and_self,hb,hh,ho0,hr,if_true,hst0,hpl,hr2];obtain⟨e,s⟩:=r;cases e<;>rfl
 ·rintro ⟨e,s⟩ ⟨he,hds,hq⟩;simp only at he hds hq;rcases he with rfl|rfl
  ·simp only[hds,hn,List.isEmpty_nil,Bool.and_self,if_true];exact hq
  ·simp only[hds,hn,List.isEmpty_nil,Bool.and_self,if_true];exact hq
theorem EvO.of_pre {K:St->Prop}{l2:List Nat}{Q:Ex->St->Prop}(hQ:∀st,K st->EvO P ok x ops l2 st Q):∀(l:List Nat) (os:List Oper) (st:St),l.map (fun i=>ops[i]?)=os.map some->EvL P ok x ops os st K->EvO P ok x ops (l++l2) st Q
 |[],[],st,_,h=>hQ _ h
 |[],_ :: _,_,h,_=>by simp at h
 |_ :: _,[],_,h,_=>by simp at h
 |i :: l,o :: os,st,hl,h=>by
  simp only[ZA,List.cons.injEq] at hl;rcases h with ⟨hw,h⟩|⟨hw,h⟩
  ·refine Upon.go (fun n=>?_) (EvO.of_pre hQ l os _ hl.2 h);rw[List.cons_append,dops,hl.1];simp only[hw];cases o.dst<;>rfl
  ·refine Upon.step (fun n r=>match r with|.val v ds H=>dops P ok n x ops (l++l2) (St.put ⟨st.tm,ds,st.H⟩ o.dst v H)|.panic ch H=>some (.panic ch,⟨st.tm,st.ds,H⟩)) (fun n r hr=>?_) h ?_
   ·rw[List.cons_append,dops,hl.1];simp only[hw,hr];cases r<;>rfl
   ·rintro r ⟨v,ds,H,rfl,hr⟩;have:=EvO.of_pre hQ l os _ hl.2 hr;refine this.imp fun N=>?_
    rintro ⟨r,h1,h2⟩;refine⟨r,fun n hn=>?_,h2⟩;rw[<-h1 n hn];cases o.dst<;>rfl
def PL (P:Program) (ok:Ok) (tm:Tr Value) (ds:List Deferred) (H:Heap) (Q:Ex->St->Prop):Option Dr->Prop
 |some (.call f args)=>EvP P ok f args H fun ch H2=>Q (.panic ch) ⟨tm,ds,H2⟩
 |some (.panic v)=>Q (.panic [{ v,recovered:=false }]) ⟨tm,ds,H⟩
 |_=>False
theorem z79 {tm:Tr Value}{ds:List Deferred}{H:Heap}{Q:Ex->St->Prop}{f:FuncId}{args:List Value}:PL P ok tm ds H Q (some (.call f args))=EvP P ok f args H fun ch H2=>Q (.panic ch) ⟨tm,ds,H2⟩:=_root_.id rfl
theorem zhh {tm:Tr Value}{ds:List Deferred}{H:Heap}{Q:Ex->St->Prop}{v:Value}:PL P ok tm ds H Q (some (.panic v))=Q (.panic [{ v,recovered:=false }]) ⟨tm,ds,H⟩:=_root_.id rfl
theorem zmh {tm:Tr Value}{ds:List Deferred}{H:Heap}{Q:Ex->St->Prop}{o:Oper}{ρ:Operand->Value}(h:PL P ok tm ds H Q (dop P o ρ H)) :
  Upon (fun n=>dop1 P ok n x o ρ ds H) fun r=>∃ch H2,r=.panic ch H2/\Q (.panic ch) ⟨tm,ds,H2⟩:=by
 unfold PL at h;split at h
 ·rename_i f args hd;refine Upon.step (fun n (r:En × Heap)=>match r with|(.ret v,H')=>some (.val v ds H')|(.panic ch,H')=>some (.panic ch H')) (fun n r hr=>?_) h ?_
  ·rw[dop1,hd];simp only[hr];obtain⟨e,H'⟩:=r;cases e<;>rfl
  ·rintro ⟨e,H'⟩ ⟨ch,rfl,hv⟩;exact⟨0,_,fun n _=>rfl,ch,H',rfl,hv⟩
 ·rename_i v hd;exact Upon.now (r:=.panic [{ v,recovered:=false }] H) (fun n=>by rw[dop1,hd]) ⟨_,_,rfl,h⟩
 ·exact h.elim
theorem EvC.regP {id:Nat}{tm:Tr Value}{ds:List Deferred}{H:Heap}{Q:Ex->St->Prop}(k:Nat) (o:Oper) (ho:ops.toList[k]?=some o) (hg:o.guard=none)
  (h:EL P ok x ops (ops.toList.take k) tm ds H fun tm ds H=>PL P ok tm ds H Q (dop P o (ev tm) H)):EvC P ok x (.region id ops false) ⟨tm,ds,H⟩ Q:=by
 refine Upon.go (fun n=>by rw[dcode]) ?_;have hk:k < ops.size:=by
  by_cases h:k < ops.size
  ·exact h
  ·rw[Zy (by simp;omega)] at ho;cases ho
 have ho':ops[k]?=some o:=by simpa using ho
 have hr:Zh ops.size=Zh k++(Zh ops.size).drop k:=by
  have:=List.take_append_drop k (Zh ops.size);rw[List.take_range,Nat.min_eq_left (by omega)] at this;exact this.symm
 have hd:(Zh ops.size).drop k=k :: (Zh ops.size).drop (k+1):=by
  rw[ZG (by simpa using hk)];simp
 show EvO P ok x ops (Zh ops.size) ⟨tm,ds,H⟩ Q;rw[hr,hd];refine EvO.of_pre (K:=fun st=>PL P ok st.tm st.ds st.H Q (dop P o (ev st.tm) st.H)) ?_ _ _ _ ?_ (EvL.of_EL (K:=fun tm ds H=>PL P ok tm ds H Q (dop P o (ev tm) H)) _ _ _ _ h)
 ·rintro ⟨tm,ds,H⟩ hp;simp only at hp;obtain⟨N,r,h1,ch,H2,rfl,hq⟩:=zmh (x:=x) hp;refine⟨N+1,(.panic ch,⟨tm,ds,H2⟩),fun n hn=>?_,hq⟩;obtain⟨m,rfl⟩:∃m,n=m+1:=⟨n - 1,by omega⟩
  show dops P ok (m+1) x ops (k :: (Zh ops.size).drop (k+1)) ⟨tm,ds,H⟩=_;rw[dops,ho'];simp only[z2j hg,h1 m (by omega)]
 ·have:=z5s ops;have h2:=congrArg (List.take k) this;rw[<-List.map_take,<-List.map_take,List.take_range,Nat.min_eq_left (by omega)] at h2;exact h2
def PC (P:Program) (ok:Ok) (x:Ctx) (ops:Array Oper) (base:Nat) (S:List (List (Nat × Nat) × Option Nat)) (G:Heap) (d:Option Tmp) (tm1:Tr Value) (ds:List Deferred) (H1:Heap) (K:List PanicEntry->Heap->Prop):Option Dr->Prop
 |some (.call f args)=>EvP P ok f args H1 K/\ES P ok x ops base S H1 [G] (putD tm1 d (dmight P f)) ds fun _ _ _=>True
 |_=>False
theorem zmi {base:Nat}{S:List (List (Nat × Nat) × Option Nat)}{G:Heap}{d:Option Tmp}{tm1:Tr Value}{ds:List Deferred}{H1:Heap}{K:List PanicEntry->Heap->Prop}{f:FuncId}{args:List Value} :
  PC P ok x ops base S G d tm1 ds H1 K (some (.call f args))=(EvP P ok f args H1 K/\ES P ok x ops base S H1 [G] (putD tm1 d (dmight P f)) ds fun _ _ _=>True):=_root_.id rfl
theorem zsv {call:FuncId->List Value->Heap->Option (En × Heap)}{draw:List Nat->Nat->List Heap->Tr Value->Option St}{b:Array Nat}{effs:List Nat}{base:Nat}{G:Heap}{tm:Tr Value}{ch:List PanicEntry}{H1 H2:Heap}
  {e:Nat}{es:List Nat}{tm1:Tr Value}{o:Oper}{f:FuncId}{args:List Value}{st1:St}(he:effs=e :: es) (hdn:dnon P ops b effs base [G] (pending (Zh ops.size) effs (b.getD e 0) 0) tm G=some (tm1,H1)) (ho:ops[e]?=some o)
  (hw:dwanted ops tm1 o=some true) (hd:dop P o (ev tm1) H1=some (.call f args)) (hm:es.all (mild ops)=true) (hc:call f args H1=some (.panic ch,H2)) (hr:draw es (0 ||| b.getD e 0 ||| 2 ^ e) [H1,G] (putD tm1 o.dst (dmight P f))=some st1) :
  dpan P call draw ops b effs base G tm=some (ch,H2):=by
 subst he;unfold dpan;simp only[hdn,ho,hw,hd,hm,hc];cases hdst:o.dst with
 |none =>
  have hr2:draw es (0 ||| b.getD e 0 ||| 2 ^ e) [H1,G] tm1=some st1:=by rw[hdst] at hr;exact hr
  simp only[hr2]
 |some d =>
  have hr2:draw es (0 ||| b.getD e 0 ||| 2 ^ e) [H1,G] (tm1.put d (some (dmight P f)))=some st1:=by rw[hdst] at hr;exact hr
  simp only[hr2]
theorem EvC.drwP {id:Nat}{tm:Tr Value}{ds:List Deferred}{H:Heap}{Q:Ex->St->Prop}(e:Nat) (o:Oper) (L0:List (Nat × Nat)) (S:List (List (Nat × Nat) × Option Nat)) (hS:sched ops=(L0,some e) :: S)
  (hm:((effsOf ops).drop 1).all (mild ops)=true) (ho:ops.toList[e]?=some o) (hg:o.guard=none)
  (h:ES P ok x ops H.next [(L0,none)] ⟨H.next+ops.size,H.t⟩ [] tm ds fun tm1 ds1 H1=>PC P ok x ops H.next S ⟨H.next+ops.size,H.t⟩ o.dst tm1 ds1 H1 (fun ch H2=>Q (.panic ch) ⟨clr ops tm,ds,H2⟩) (dop P o (ev tm1) H1)) :
  EvC P ok x (.region id ops true) ⟨tm,ds,H⟩ Q:=by
 unfold sched at hS;split at hS
 ·cases hS
 rename_i hnt;rw[Bool.not_eq_false] at hnt;have hes:∃es,effsOf ops=e :: es:=by
  cases he:effsOf ops with
  |nil=>rw[he] at hS;simp [schedGo] at hS
  |cons e' es=>rw[he] at hS;simp only[schedGo,ZA,List.cons.injEq,Prod.mk.injEq,Option.some.injEq] at hS;exact⟨es,by rw[hS.1.2]⟩
 obtain⟨es,hes⟩:=hes;rw[hes] at hnt hm;unfold noTwin at hnt;rw[Zk,Option.isNone_iff_eq_none] at hnt;have hS2:=hS;rw[show schedGo ops.size (Region.before ops) (effsOf ops) (effsOf ops) 0=schedGo ops.size (Region.before ops) (effsOf ops) (e :: es) 0 by rw[hes]] at hS2;simp only[schedGo,ZA,List.cons.injEq,Prod.mk.injEq] at hS2;obtain⟨⟨hL,_⟩,hS'⟩:=hS2;have ho':ops[e]?=some o:=by simpa using ho
 have h1:EvN P ops H.next [⟨H.next+ops.size,H.t⟩] L0 tm ⟨H.next+ops.size,H.t⟩ fun tm1 H1=>PC P ok x ops H.next S ⟨H.next+ops.size,H.t⟩ o.dst tm1 ds H1 (fun ch H2=>Q (.panic ch) ⟨clr ops tm,ds,H2⟩) (dop P o (ev tm1) H1):=EvN.of_EN _ _ _ h
 rw[<-hL] at h1;obtain⟨tm1,H1,en,hk⟩:=z3h _ _ _ h1;unfold PC at hk;split at hk
 case h_2=>exact hk.elim
 rename_i f args hd;obtain⟨hp,hst⟩:=hk;have hst2:=z4z (b:=Region.before ops) (effs:=effsOf ops) es (0 ||| (Region.before ops).getD e 0 ||| 2 ^ e) _ _ _ hnt.2 (by rw[hS'];exact EvS.of_ES (K:=fun _ _ _=>True) _ _ _ _ _ hst);obtain⟨N1,r1,k1,_⟩:=hst2;obtain⟨N2,r2,k2,ch,k3,k4⟩:=hp;obtain⟨en2,H2⟩:=r2;simp only at k3 k4;subst k3;refine⟨max N1 N2+4,(.panic ch,⟨clr ops tm,ds,H2⟩),fun n hn=>?_,k4⟩;obtain⟨m,rfl⟩:∃m,n=m+4:=⟨n - 4,by omega⟩
 have hdr:ddraw P ok (m+3) x ops (Region.before ops) (effsOf ops) H.next (effsOf ops) 0 [⟨H.next+ops.size,H.t⟩] tm ds=none:=by
  rw[hes,ddraw,hnt.1];simp only;rw[dstage];rw[hes] at en;simp only[en,ho',z2j hg];rw[dop1,hd];simp only[k2 m (by omega)]
 have hpan:dpan P (dcall P ok (m+3)) (fun es done hs tm=>ddraw P ok (m+3) x ops (Region.before ops) (effsOf ops) H.next es done hs tm ds) ops (Region.before ops) (effsOf ops) H.next ⟨H.next+ops.size,H.t⟩ tm=some (ch,H2):=by
  exact zsv (st1:=r1) hes en ho' (z2j hg) hd (by simpa using hm) (k2 _ (by omega)) (k1 _ (by omega))
 show dcode P ok (m+4) x (.region id ops true) ⟨tm,ds,H⟩=_;have e1:dcode P ok (m+3+1) x (.region id ops true) ⟨tm,ds,H⟩=(match ddraw P ok (m+3) x ops (Region.before ops) (effsOf ops) H.next (effsOf ops) 0 [⟨H.next+ops.size,H.t⟩] tm ds with
    |some st1=>some (.normal,st1)
    |none=>match dpan P (dcall P ok (m+3)) (fun es done hs tm=>ddraw P ok (m+3) x ops (Region.before ops) (effsOf ops) H.next es done hs tm ds) ops (Region.before ops) (effsOf ops) H.next ⟨H.next+ops.size,H.t⟩ tm with
     |some (ch,H')=>some (.panic ch,⟨clr ops tm,ds,H'⟩)
     |none=>none):=by
   rw[dcode];rfl
 rw[e1,hdr,hpan]
end
end Go.Hb
end

section
namespace Go.Hb
open Go Go.RowKit
section
variable {P:Program}{ok:Ok}{x:Ctx}{ops:Array Oper}{os:List Oper}{tm:Tr Value}{ds:List Deferred}{H:Heap}{K:Tr Value->List Deferred->Heap->Prop}{d:Option Tmp}{ty:TypeId}{pos:String}{af:Array Edge}{g:Option (Nat × Bool)}{ρ:Operand->Value}
def mkiOk (P:Program) (t:TypeId):Bool:=match P.underlying t with|some (.interface _)=>false|some _=>true|none=>false
def dMkI (P:Program) (t:TypeId) (v:Value) (H:Heap):Option Dr:=match P.underlying t with|some (.interface _)=>none|some _=>some (.val (.iface t v) H)|none=>none
theorem z1g {t:TypeId}{a:Operand}:dop P ⟨d,.makeInterface t a,ty,pos,af,g⟩ ρ H=dMkI P t (ρ a) H:=_root_.id rfl
theorem z9b {t:TypeId}{v:Value}(h:mkiOk P t=true):dMkI P t v H=some (.val (.iface t v) H):=by
 unfold mkiOk at h;unfold dMkI;cases hu:P.underlying t with
 |none=>rw[hu] at h;cases h
 |some u =>
  rw[hu] at h;cases u<;>first|rfl|cases h
def dTa (P:Program) (xt at_:TypeId) (ok:Bool) (v:Value) (H:Heap):Option Dr :=
 match v with
 |.iface t u=>(dassert P t u at_ ok).map (.val · H)
 |v=>dOut (flat v && true) (pureRun P (do let r <-Instr.typeAssert v xt at_ ok;pure (Next.value r))) H
theorem z23 {a:Operand}{xt at_:TypeId}{o:Bool}:dop P ⟨d,.typeAssert a xt at_ o,ty,pos,af,g⟩ ρ H=dTa P xt at_ o (ρ a) H:=by
 cases h:ρ a with
 |iface t v=>simp only[dop,h,dTa]
 |_ =>
  have e:dop P ⟨d,.typeAssert a xt at_ o,ty,pos,af,g⟩ ρ H=dflat P ⟨d,.typeAssert a xt at_ o,ty,pos,af,g⟩ ρ H:=by simp only[dop,h]
  rw[e,z6h];have e1:allFlat ρ ⟨d,.typeAssert a xt at_ o,ty,pos,af,g⟩=(flat (ρ a) && true):=rfl;have e2:execOp ρ ⟨d,.typeAssert a xt at_ o,ty,pos,af,g⟩=(do let r <-Instr.typeAssert (ρ a) xt at_ o;pure (Next.value r)):=rfl;rw[e1,e2,h];rfl
def taZ (P:Program) (at_:TypeId):Option Value:=match P.underlying at_ with
 |some (.interface _)=>none
 |some _=>match pureRun P (zeroValue at_) with
  |some z=>if flat z then some z else none
  |none=>none
 |none=>none
theorem zmj {at_:TypeId}{z:Value}(h:taZ P at_=some z):∃u,P.underlying at_=some u/\(∀w,u≠.interface w)/\pureRun P (zeroValue at_)=some z/\flat z=true:=by
 unfold taZ at h;cases hu:P.underlying at_ with
 |none=>rw[hu] at h;cases h
 |some u =>
  rw[hu] at h;have h':(∀w,u≠.interface w)/\(match pureRun P (zeroValue at_) with|some z=>if flat z then some z else none|none=>none)=some z:=by
   cases u<;>first|exact⟨fun w hw=>(by cases hw),h⟩|cases h
  obtain⟨hne,h'⟩:=h';cases hz:pureRun P (zeroValue at_) with
  |none=>rw[hz] at h';cases h'
  |some z' =>
   rw[hz] at h';simp only at h';split at h'
   ·rename_i hf;cases h';exact⟨u,rfl,hne,rfl,hf⟩
   ·cases h'
theorem zff {xt at_:TypeId}{v z:Value}(h:taZ P at_=some z):dTa P xt at_ true (.iface at_ v) H=some (.val (.tuple #[v,.bool true]) H):=by
 obtain⟨u,hu,hne,hz,hf⟩:=zmj h;simp only[dTa,dassert,hu,Nat.beq_refl,if_true];rfl
theorem zmk {xt at_:TypeId}{z:Value}(h:taZ P at_=some z):dTa P xt at_ true .nilIface H=some (.val (.tuple #[z,.bool false]) H):=by
 obtain⟨u,hu,hne,hz,hf⟩:=zmj h;simp only[dTa,flat,Bool.and_self,Instr.typeAssert,z0b,z0s hu,ZB];cases u with
 |interface w=>exact absurd rfl (hne w)
 |_ =>
  simp only[if_true,z0b,hz,z2q,ZB,dOut];have hfl:flat (.tuple #[z,.bool false])=true:=by
   show (flat z && (flat (.bool false) && true))=true;rw[hf];rfl
  rw[hfl]
def ifO (P:Program) (t:TypeId):Prop:=∃m,P.underlying t=some (.interface m)
theorem zul {dd:Deferred}(hx:x.round=none):LX P ok x ops d os tm ds H K (some (.dfr dd))=EL P ok x ops os (putD tm d undef) (dd :: ds) H K:=by
 unfold LX LK;simp [hx]
def dDef (v:Value) (ags:Array Value):Option Dr:=match v with|.func (.func f) x y=>some (.dfr { target:=.fn (.func f) y,args:=x++ags })|_=>none
theorem zjg {c:Operand}{ags:Array Operand}{ats:Array TypeId}:dop P ⟨d,.defer ⟨.value c,ags,ats⟩,ty,pos,af,g⟩ ρ H=dDef (ρ c) (ags.map ρ):=by
 cases h:ρ c<;>simp only[dop,h,dDef]
 rename_i f x y;cases f<;>rfl
theorem zml {f:FuncId}{x y ags:Array Value}:dDef (.func (.func f) x y) ags=some (.dfr { target:=.fn (.func f) y,args:=x++ags }):=_root_.id rfl
def dPan (v:Value):Option Dr:=match v with|.iface t u=>some (.panic (.iface t u))|_=>none
theorem zdu {a:Operand}:dop P ⟨d,.panic a,ty,pos,af,g⟩ ρ H=dPan (ρ a):=by
 cases h:ρ a<;>simp only[dop,h,dPan]
theorem zap {t:TypeId}{v:Value}:dPan (.iface t v)=some (.panic (.iface t v)):=_root_.id rfl
end
end Go.Hb
end

section
namespace Go.Hb
open Go Go.RowKit
instance (n:Int):Decidable (i64 n):=by unfold i64;infer_instance
instance (n:Int):Decidable (u64 n):=by unfold u64;infer_instance
theorem zhi {s u:ByteArray}(h:s=u):(s.data.toList == u.data.toList)=true:=by rw[h];exact beq_self_eq_true _
end Go.Hb
namespace Go.Proofs.hq
open Go Go.RowKit Go.Hb
theorem zmm {s u:ByteArray}(h:s≠u):(s.data.toList == u.data.toList)=false:=by
 rw[beq_eq_false_iff_ne];intro q;exact h (z57 (by rw[z1v,z1v];exact q))
inductive Bdy where
 |mk (kind:Int) (term:Tm) (sub:List Bdy)
def Bdy.kind:Bdy->Int|.mk k _ _=>k
def Bdy.term:Bdy->Tm|.mk _ t _=>t
def Bdy.sub:Bdy->List Bdy|.mk _ _ l=>l
def zeroB:Bdy:=.mk 0 zeroT []
abbrev sCma:ByteArray:=⟨#[44]⟩
abbrev sSem:ByteArray:=⟨#[59]⟩
abbrev sArr:ByteArray:=⟨#[45,62]⟩
abbrev sCol:ByteArray:=⟨#[58]⟩
abbrev sNck:ByteArray:=⟨#[58,45]⟩
abbrev sExc:ByteArray:=⟨#[33]⟩
abbrev sTrue:ByteArray:=⟨#[116,114,117,101]⟩
abbrev sCall:ByteArray:=⟨#[99,97,108,108]⟩
abbrev sTypeE:ByteArray:=⟨#[116,121,112,101,95,101,114,114,111,114]⟩
abbrev sResE:ByteArray:=⟨#[114,101,115,111,117,114,99,101,95,101,114,114,111,114]⟩
abbrev sCallable:ByteArray:=⟨#[99,97,108,108,97,98,108,101]⟩
abbrev sNodes:ByteArray:=⟨#[110,111,100,101,115]⟩
def cmpT (s:ByteArray) (l:List Tm):Tm:=.mk 5 s Zd 0 0 l
def atmT (s:ByteArray):Tm:=.mk 2 s Zd 0 0 []
def isF (t:Tm) (s:ByteArray):Prop:=t.kind=5/\t.name=s/\t.args.length=2
instance (t:Tm) (s:ByteArray):Decidable (isF t s):=by unfold isF;infer_instance
def _root_.Go.Hb.Tm.at (t:Tm) (i:Nat):Tm:=t.args.getD i zeroT
def isNum (t:Tm):Prop:=t.kind=3\/t.kind=4
instance (t:Tm):Decidable (isNum t):=by unfold isNum;infer_instance
def callB (t:Tm):Bdy:=.mk 3 (cmpT sCall [t]) []
def subBL (f:Tm->Option Bdy):List Tm->Option (List Bdy)
 |[]=>some []
 |t :: l=>match f t,subBL f l with
  |some b,some bs=>some (b :: bs)
  |_,_=>none
def subBF (f:Tm->Option Bdy) (k:Int) (l:List Tm):Option Bdy:=(subBL f l).map (.mk k zeroT ·)
def withinF (f:Tm->Option Bdy) (t:Tm):Option Bdy :=
 if isNum (t.at 1)\/((t.at 0).kind≠2/\(t.at 0).kind≠1) then none
 else if (t.at 0).kind=1\/(t.at 1).kind=1 then some (callB t)
 else (f (t.at 1)).map fun b=>.mk 7 (t.at 0) [b]
def bodyF:Nat->Tm->Option Bdy
 |0,_=>none
 |m+1,t =>
  if isNum t then none
  else if t.kind=1 then some (callB t)
  else if t.kind=2/\t.name=sTrue then some (.mk 1 zeroT [])
  else if t.kind=2/\t.name=sExc then some (.mk 2 zeroT [])
  else if isF t sCol then withinF (bodyF m) t
  else if isF t sCma then subBF (bodyF m) 4 t.args
  else if isF t sArr then subBF (bodyF m) 6 t.args
  else if isF t sSem/\isF (t.at 0) sArr then subBF (bodyF m) 6 [(t.at 0).at 0,(t.at 0).at 1,t.at 1]
  else if isF t sSem then subBF (bodyF m) 5 t.args
  else some (.mk 3 t [])
def tellB (k:Int) (t:Tm) (l:List Tm):Tm :=
 if k=2 then atmT sExc
 else if k=3 then t
 else if k=4/\l.length=2 then cmpT sCma l
 else if k=5/\l.length=2 then cmpT sSem l
 else if k=6/\l.length=2 then cmpT sArr l
 else if k=6/\l.length=3 then cmpT sSem [cmpT sArr (l.take 2),l.getD 2 zeroT]
 else if k=7/\l.length=1 then cmpT sCol [t,l.getD 0 zeroT]
 else atmT sTrue
mutual
def toldB:Bdy->Tm
 |.mk k t l=>tellB k t (toldBL l)
def toldBL:List Bdy->List Tm
 |[]=>[]
 |b :: l=>toldB b :: toldBL l
end
theorem zaq:∀l,toldBL l=l.map toldB
 |[]=>by rw[toldBL];rfl
 |b :: l=>by rw[toldBL,zaq l];rfl
theorem z2o (b:Bdy):toldB b=tellB b.kind b.term (b.sub.map toldB):=by obtain⟨k,t,l⟩:=b;rw[toldB,zaq];rfl
inductive Er where
 |ok
 |num (e:Int)
 |ball (t:Tm)
def typeT (w:ByteArray) (t:Tm):Tm:=cmpT sTypeE [atmT w,t]
def resT (w:ByteArray):Tm:=cmpT sResE [atmT w]
noncomputable def readyS (t:Tm):Bdy × Er :=
 if checkS t≠0 then (zeroB,.num (checkS t))
 else match bodyF (SizeOf.sizeOf t+1) t with
  |none=>(zeroB,.ball (typeT sCallable t))
  |some b=>if 4000 < cnt (toldB b) 0 then (zeroB,.ball (resT sNodes)) else (b,.ok)
theorem Bdy.size (b:Bdy):∀u∈b.sub,SizeOf.sizeOf u < SizeOf.sizeOf b:=by
 obtain⟨k,t,l⟩:=b;intro u hu;have:=List.sizeOf_lt_of_mem (show u∈l from hu);rw[Bdy.mk.sizeOf_spec];omega
abbrev eight (k:Int) (cs:List Value) (a:Option Addr) (n c:Nat):List Value:=.int .i64 k :: (cs++[.slice a n c])
abbrev zero8:List Value:=[.int .i64 0,.int .i64 0,.string Zd,.string Zd,.int .u64 0,.int .i64 0,.slice none 0 0,.slice none 0 0]
abbrev eightT (k:Int) (t:Tm) (ta:Option Addr) (tc:Nat) (a:Option Addr) (n c:Nat):List Value:=[.int .i64 k,.int .i64 t.kind,.string t.name,.string t.num,.int .u64 t.bits,.int .i64 t.var,.slice ta t.args.length tc,.slice a n c]
theorem row8 {H:Heap}{p:Nat}{T:TypeId}{x0 x1 x2 x3 x4 x5 x6 x7:Value}(h:H.get p=some (Blk.row [x0,x1,x2,x3,x4,x5,x6,x7] T)) :
  H.load ⟨p,0,none⟩ 1=some [x0]/\H.load ⟨p,1,none⟩ 6=some [x1,x2,x3,x4,x5,x6]/\H.load ⟨p,6,none⟩ 1=some [x6]/\H.load ⟨p,7,none⟩ 1=some [x7]/\H.load ⟨p,0,none⟩ 8=some [x0,x1,x2,x3,x4,x5,x6,x7]:=by
 refine⟨?_,?_,?_,?_,?_⟩<;>simp only[Heap.load,Heap.cells,h]<;>rfl
inductive RepB (H:Heap):Bdy->List Value->Prop
 |mk (k:Int) (t:Tm) (l:List Bdy) (cs:List Value) (a:Option Addr) (c:Nat) (cells:Nat->List Value):i64 k->RepT H t cs->l.length<=c->c<=maxLen->(a=none->l=[]/\c=0) ->
   (∀i ad,i < l.length->a=some ad->ad.spot=none/\H.load ⟨ad.block,ad.off+i*8,none⟩ 8=some (cells i))->(∀i u,l[i]?=some u->RepB H u (cells i)) ->
   RepB H (.mk k t l) (eight k cs a l.length c)
structure RepBL (H:Heap) (l:List Bdy) (a:Option Addr) (c:Nat) (cells:Nat->List Value):Prop where
 len:l.length<=c
 cap:c<=maxLen
 nil:a=none->l=[]/\c=0
 load:∀i ad,i < l.length->a=some ad->ad.spot=none/\H.load ⟨ad.block,ad.off+i*8,none⟩ 8=some (cells i)
 rep:∀i u,l[i]?=some u->RepB H u (cells i)
theorem RepB.inv {H:Heap}{b:Bdy}{cs:List Value}(r:RepB H b cs):∃ts a c cells,cs=eight b.kind ts a b.sub.length c/\i64 b.kind/\RepT H b.term ts/\RepBL H b.sub a c cells:=by
 cases r with
 |mk k t l ts a c cells h1 h2 h3 h4 h5 h6 h7=>exact⟨ts,a,c,cells,rfl,h1,h2,h3,h4,h5,h6,h7⟩
theorem RepB.eight {H:Heap}{b:Bdy}{cs:List Value}(r:RepB H b cs):∃ta tc a c,cs=eightT b.kind b.term ta tc a b.sub.length c:=by
 obtain⟨ts,a,c,cells,rfl,-,h,-⟩:=r.inv;obtain⟨ta,tc,cellst,rfl,-⟩:=h.inv;exact⟨ta,tc,a,c,rfl⟩
theorem RepBL.el {H:Heap}{l:List Bdy}{a:Option Addr}{c:Nat}{cells:Nat->List Value}(r:RepBL H l a c cells) {i:Nat}(hi:i < l.length) :
  ∃b o,a=some ⟨b,o,none⟩/\H.load ⟨b,o+i*8,none⟩ 8=some (cells i)/\RepB H l[i] (cells i):=by
 cases a with
 |none=>obtain⟨rfl,_⟩:=r.nil rfl;simp at hi
 |some ad =>
  obtain⟨h1,h2⟩:=r.load i ad hi rfl;obtain⟨b,o,s⟩:=ad;obtain rfl:s=none:=h1;exact⟨b,o,rfl,h2,r.rep i _ (Zc hi)⟩
theorem RepB.mono {H H':Heap}(h:HX H H') (hw:H.wf) {b:Bdy}{cs:List Value}(r:RepB H b cs):RepB H' b cs:=by
 induction r with
 |mk k t l ts a c cells h1 h2 h3 h4 h5 h6 h7 ih =>
  exact .mk k t l ts a c cells h1 (h2.mono h hw) h3 h4 h5 (fun i ad hi ha=>⟨(h6 i ad hi ha).1,h.load hw (h6 i ad hi ha).2⟩) ih
theorem RepBL.mono {H H':Heap}(h:HX H H') (hw:H.wf) {l:List Bdy}{a:Option Addr}{c:Nat}{cells:Nat->List Value}(r:RepBL H l a c cells):RepBL H' l a c cells :=
 ⟨r.len,r.cap,r.nil,fun i ad hi ha=>⟨(r.load i ad hi ha).1,h.load hw (r.load i ad hi ha).2⟩,fun i u hu=>(r.rep i u hu).mono h hw⟩
inductive OB (H:Heap) (TB TT:TypeId):(Nat->Prop)->Bdy->List Value->Prop
 |leaf (S:Nat->Prop) (k:Int) (t:Tm) (cs:List Value):i64 k->RepS H S t cs->TopR H TT S t cs->OB H TB TT S (.mk k t []) (eight k cs none 0 0)
 |node (S:Nat->Prop) (k:Int) (t:Tm) (cs:List Value) (l:List Bdy) (b c:Nat) (cells:List Value) (Si:Nat->Nat->Prop):i64 k->RepS H S t cs->t.args=[]->l.length<=c->c<=maxLen->H.get b=some (.row cells TB)->S b->b < H.next->l.length*8<=cells.length ->
   (∀i u,l[i]?=some u->OB H TB TT (Si i) u ((cells.drop (i*8)).take 8))->(∀i,i < l.length->¬Si i b)->(∀i n,i < l.length->Si i n->S n)->(∀i j n,i < l.length->j < l.length->Si i n->Si j n->i=j) ->
   OB H TB TT S (.mk k t l) (eight k cs (some ⟨b,0,none⟩) l.length c)
def OBL (H:Heap) (TB TT:TypeId) (S:Nat->Prop) (l:List Bdy) (a:Option Addr) (c:Nat):Prop :=
 (l=[]/\a=none/\c=0)\/∃(b:Nat) (cells:List Value) (Si:Nat->Nat->Prop),a=some ⟨b,0,none⟩/\l.length<=c/\c<=maxLen/\H.get b=some (.row cells TB)/\S b/\b < H.next/\l.length*8<=cells.length /\
   (∀i u,l[i]?=some u->OB H TB TT (Si i) u ((cells.drop (i*8)).take 8))/\(∀i,i < l.length->¬Si i b)/\(∀i n,i < l.length->Si i n->S n)/\(∀i j n,i < l.length->j < l.length->Si i n->Si j n->i=j)
section
variable {H H':Heap}{TB TT:TypeId}{S S':Nat->Prop}{u:Bdy}{cs:List Value}{l:List Bdy}{a:Option Addr}{c:Nat}
theorem OB.to (h:OB H TB TT S u cs):(∀n,S n->n < H.next->H'.get n=H.get n/\n < H'.next)->(∀n,S n->S' n)->OB H' TB TT S' u cs:=by
 induction h generalizing S' with
 |leaf S k t cs h1 h2 h3=>exact fun hk hs=>.leaf S' k t cs h1 (h2.to fun n hn hl=>⟨(hk n hn hl).1,hs n hn,(hk n hn hl).2⟩) (h3.heap fun n hn hl=>⟨(hk n hn hl).1,hs n hn,(hk n hn hl).2⟩)
 |node S k t cs l b c cells Si h1 h2 h3 h4 h5 h6 h7 h8 h9 h10 h11 h12 h13 ih =>
  intro hk hs;refine .node S' k t cs l b c cells Si h1 (h2.to fun n hn hl=>⟨(hk n hn hl).1,hs n hn,(hk n hn hl).2⟩) h3 h4 h5 ((hk b h7 h8).1.trans h6) (hs b h7) (hk b h7 h8).2 h9 (fun i u hu=>?_) h11 (fun i n hi hn=>hs n (h12 i n hi hn)) h13;have hi:=(List.getElem?_eq_some_iff.1 hu).1;exact ih i u hu (fun n hn hl=>hk n (h12 i n hi hn) hl) (fun n hn=>hn)
theorem OB.sub (h:OB H TB TT S u cs) (hs:∀n,S n->S' n):OB H TB TT S' u cs:=h.to (fun _ _ hl=>⟨rfl,hl⟩) hs
theorem OB.keep (h:OB H TB TT S u cs) (hx:HX H H'):OB H' TB TT S u cs:=h.to (fun n _ hl=>⟨hx.keep n hl,Zi hl hx.next⟩) fun _ hn=>hn
theorem OB.rep (h:OB H TB TT S u cs):RepB H u cs:=by
 induction h with
 |leaf S k t cs h1 h2 h3=>exact .mk k t [] cs none 0 (fun _=>[]) h1 h2.rep (Ze _) (Zl _) (fun _=>⟨rfl,rfl⟩) (fun i ad hi=>by simp at hi) (fun i u hu=>by simp at hu)
 |node S k t cs l b c cells Si h1 h2 h3 h4 h5 h6 h7 h8 h9 h10 h11 h12 h13 ih =>
  refine .mk k t l cs (some ⟨b,0,none⟩) c (fun i=>(cells.drop (i*8)).take 8) h1 h2.rep h4 h5 (fun h=>by cases h) (fun i ad hi ha=>?_) ih;cases ha;refine⟨rfl,?_⟩;have hle:i*8+8<=l.length*8:=by omega
  unfold Heap.load Heap.cells;simp only[h6,ZP];rw[if_pos (by rw[Zt,Zo,List.length_drop];omega)]
theorem zbv:Bd zeroT:=⟨by show i64 0;unfold i64;omega,by show ByteArray.empty.size<=_;exact Zl _,by show ByteArray.empty.size<=_;exact Zl _,by show u64 0;unfold u64;omega,by show i64 0;unfold i64;omega⟩
theorem OB.nil {k:Int}(hk:i64 k):OB H TB TT S (.mk k zeroT []) (eightT k zeroT none 0 none 0 0) :=
 .leaf S k zeroT zero6 hk (RepS.leaf (H:=H) (S:=S) (t:=zeroT) (a:=none) (c:=0) zbv rfl (Zl _) (fun _=>rfl)) (.inl rfl)
theorem OBL.nil:OBL H TB TT S [] none 0:=.inl ⟨rfl,rfl,rfl⟩
theorem OBL.mk {k:Int}{t:Tm}{ts:List Value}(h:OBL H TB TT S l a c) (hk:i64 k) (ht:RepS H S t ts) (he:t.args=[]):OB H TB TT S (.mk k t l) (eight k ts a l.length c):=by
 rcases h with ⟨rfl,rfl,rfl⟩|⟨b,cells,Si,rfl,h1,h2,h3,h4,h5,h6,h7,h8,h9,h10⟩
 ·exact .leaf S k t ts hk ht (.inl he)
 ·exact .node S k t ts l b c cells Si hk ht he h1 h2 h3 h4 h5 h6 h7 h8 h9 h10
theorem OB.parts {k:Int}{t:Tm}(h:OB H TB TT S (.mk k t l) cs):∃ts a c,cs=eight k ts a l.length c/\RepT H t ts/\OBL H TB TT S l a c:=by
 cases h with
 |leaf _ _ _ ts h1 h2 h3=>exact⟨ts,none,0,rfl,h2.rep,.inl ⟨rfl,rfl,rfl⟩⟩
 |node _ _ _ ts _ b c cells Si h1 h2 h3 h4 h5 h6 h7 h8 h9 h10 h11 h12 h13=>exact⟨ts,some ⟨b,0,none⟩,c,rfl,h2.rep,.inr ⟨b,cells,Si,rfl,h4,h5,h6,h7,h8,h9,h10,h11,h12,h13⟩⟩
theorem OBL.to (h:OBL H TB TT S l a c) (hk:∀n,S n->n < H.next->H'.get n=H.get n/\n < H'.next) (hs:∀n,S n->S' n):OBL H' TB TT S' l a c:=by
 rcases h with ⟨rfl,rfl,rfl⟩|⟨b,cells,Si,rfl,h1,h2,h3,h4,h5,h6,h7,h8,h9,h10⟩
 ·exact .nil
 ·refine .inr ⟨b,cells,Si,rfl,h1,h2,(hk b h4 h5).1.trans h3,hs b h4,(hk b h4 h5).2,h6,fun i u hu=>?_,h8,fun i n hi hn=>hs n (h9 i n hi hn),h10⟩;have hi:=(List.getElem?_eq_some_iff.1 hu).1;exact(h7 i u hu).to (fun n hn hl=>hk n (h9 i n hi hn) hl) fun _ hn=>hn
theorem OBL.keep (h:OBL H TB TT S l a c) (hx:HX H H'):OBL H' TB TT S l a c:=h.to (fun n _ hl=>⟨hx.keep n hl,Zi hl hx.next⟩) fun _ hn=>hn
theorem OBL.rep (h:OBL H TB TT S l a c):∃cells,RepBL H l a c cells:=by
 rcases h with ⟨rfl,rfl,rfl⟩|⟨b,cells,Si,rfl,h1,h2,h3,h4,h5,h6,h7,h8,h9,h10⟩
 ·exact⟨fun _=>[],Ze _,Zl _,fun _=>⟨rfl,rfl⟩,(fun i ad hi=>by simp at hi),(fun i u hu=>by simp at hu)⟩
 ·refine⟨fun i=>(cells.drop (i*8)).take 8,h1,h2,(fun h=>by cases h),fun i ad hi ha=>?_,fun i u hu=>(h7 i u hu).rep⟩;cases ha;refine⟨rfl,?_⟩;have hle:i*8+8<=l.length*8:=by omega
  unfold Heap.load Heap.cells;simp only[h3,ZP];rw[if_pos (by rw[Zt,Zo,List.length_drop];omega)]
theorem zfg {t:Tm}{ts:List Value}(r:RepT H t ts):ts.all one=true/\ts.length=6:=by
 obtain⟨a,c,cells,rfl,-⟩:=r.inv;exact⟨rfl,rfl⟩
theorem RepB.ones (r:RepB H u cs):cs.all one=true/\cs.length=8:=by
 obtain⟨ts,a,c,cells,rfl,-,h,-⟩:=r.inv;obtain⟨h1,h2⟩:=zfg h;refine⟨?_,by simp [h2]⟩;simp only[List.all_cons,List.all_append,h1,List.all_nil,Bool.and_true,Bool.true_and];rfl
theorem zsw {cells:List Value}:∀n,n*8<=cells.length->(∀i,i < n->((cells.drop (i*8)).take 8).all one=true)->(cells.take (n*8)).all one=true
 |0,_,_=>by simp
 |n+1,h,hc=>by
  rw[Nat.succ_mul,List.take_add,List.all_append,zsw n (by omega) fun i hi=>hc i (by omega),hc n (by omega)];rfl
theorem zqw {cells:List Value}{i n:Nat}(h:i < n) (vs:List Value) (hn:n*8<=cells.length):((cells.take (n*8)++vs).drop (i*8)).take 8=(cells.drop (i*8)).take 8:=by
 have h1:(cells.take (n*8)).length=n*8:=by rw[Zo];omega
 rw[List.drop_append_of_le_length (by omega),List.take_append_of_le_length (by rw[List.length_drop];omega),List.drop_take,List.take_take];congr 1;omega
theorem OBL.push {P:Program}{t:TypeId}(hp:apOk P t TB 8) {N S2:Nat->Prop}{c1:Nat}{ad:Addr}(h:OBL H TB TT S l a c) (hw:H.wf)
  (hl:H.load ad (1*8)=some cs) (hu:OB H TB TT N u cs) (hN:∀n,N n->¬S n) (hNl:∀n,N n->n < H.next) (hS:∀n,S n->n < H.next) (hm:l.length+1<=most) (h2:∀n,S n\/N n\/n=H.next->S2 n) :
  ∃H2,dAp P #[t,t] (.slice a l.length c) (.slice (some ad) 1 c1) H=some (.val (.slice (some ⟨H.next,0,none⟩) (l.length+1) (l.length+1)) H2)/\OBL H2 TB TT S2 (l++[u]) (some ⟨H.next,0,none⟩) (l.length+1)/\HK S H H2/\H2.next=H.next+1:=by
 have hmax:l.length+1<=maxLen:=Zj hm (by simp [most,maxLen]);obtain⟨hone,hlen⟩:=hu.rep.ones;rcases h with ⟨rfl,rfl,rfl⟩|⟨b,cells,Si,rfl,h1,h2',h3,h4,h5,h6,h7,h8,h9,h10⟩
 ·have hx:=(HX.refl hw).new (some (.row cs TB));refine⟨_,z47 hp (by omega) hm hl hone,?_,hx.hk _,rfl⟩;refine .inr ⟨H.next,cs,fun _=>N,rfl,Ze _,hmax,z0n,h2 _ (.inr (.inr rfl)),Zf _,by simp [hlen],fun i v hv=>?_,fun i _ hn=>by have:=hNl _ hn;omega,fun i n _ hn=>h2 n (.inr (.inl hn)),fun i j n hi hj _ _=>by simp at hi hj;omega⟩
  match i,hv with
  |0,hv =>
   cases hv;rw[ZK,List.drop_zero,Zm (by omega)];exact hu.keep hx
 ·have hcells:(cells.take (l.length*8)).all one=true:=zsw _ h6 fun i hi=>(h7 i _ (Zc hi)).rep.ones.1
  have hk:HK S H ((H.put b none).new (some (.row (cells.take (l.length*8)++cs) TB))):=((HK.refl hw).put (.inl h4) h5 none).new _;have hkeep:∀n,n < H.next->n≠b->((H.put b none).new (some (.row (cells.take (l.length*8)++cs) TB))).get n=H.get n:=fun n hn hne=>by
   rw[z1k (by rw[z07];exact hn),z2r hne]
  refine⟨_,z3k hp (by omega) hm hl hone h3 h6 hcells,?_,hk,rfl⟩;have htl:(cells.take (l.length*8)).length=l.length*8:=by rw[Zo];omega
  refine .inr ⟨H.next,cells.take (l.length*8)++cs,fun i=>if i < l.length then Si i else N,rfl,by simp,hmax,z0n,h2 _ (.inr (.inr rfl)),Zf _,by simp [hlen,htl];omega,fun i v hv=>?_,fun i hi hn=>?_,fun i n hi hn=>?_,fun i j n hi hj hn hm=>?_⟩
  ·by_cases hi:i < l.length
   ·rw[Zz hi] at hv;rw[zqw hi _ h6];simp only[hi,if_true];exact(h7 i v hv).to (fun n hn hl=>⟨hkeep n hl fun e=>h8 i hi (e ▸ hn),Nat.lt_succ_of_lt hl⟩) fun _ hn=>hn
   ·have hil:i=l.length:=by
     have:=(List.getElem?_eq_some_iff.1 hv).1;simp at this;omega
    subst hil;simp at hv;subst hv;have e8:((cells.take (l.length*8)++cs).drop (l.length*8)).take 8=cs:=by
     rw[List.drop_left' htl,Zm (by omega)]
    rw[e8];simp only[hi,if_false];exact hu.to (fun n hn hl=>⟨hkeep n hl fun e=>hN n hn (e ▸ h4),Nat.lt_succ_of_lt hl⟩) fun _ hn=>hn
  ·simp only at hn;split at hn
   ·rename_i hi';have:=hS _ (h9 i _ hi' hn);simp at this
   ·have:=hNl _ hn;simp at this
  ·simp only at hn;split at hn
   ·rename_i hi';exact h2 n (.inl (h9 i n hi' hn))
   ·exact h2 n (.inr (.inl hn))
  ·simp only at hn hm;have hi':i<=l.length:=by simp at hi;omega
   have hj':j<=l.length:=by simp at hj;omega
   split at hn<;>split at hm
   ·rename_i k1 k2;exact h10 i j n k1 k2 hn hm
   ·rename_i k1 k2;exact absurd (h9 i n k1 hn) (hN n hm)
   ·rename_i k1 k2;exact absurd (h9 j n k2 hm) (hN n hn)
   ·omega
end
end Go.Proofs.hq
end
