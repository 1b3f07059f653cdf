import Derived.Test.YtbooidfibigfcaaGreatDoorM3
import Derived.Test.YtbooidfibigfcaaGreatDoorM4
/- Lemmas on the program's own code, towards the laws of this folder, part 5. Conditions: as each lemma says. -/
open Bool renaming false_eq_true -> Zg
open ByteArray renaming empty -> Zd
open List renaming getElem?_append_left -> Zz, getElem?_eq_getElem -> Zc, getElem_mem -> Zu, length_append -> Zr, length_map -> Zp, length_take -> Zo, map_append -> ZI, map_cons -> ZA, mem_cons_of_mem -> Zn, not_mem_nil -> ZF, take_of_length_le -> Zm
open Nat renaming beq_eq -> Zt, le_refl -> Ze, le_trans -> Zj, lt_of_lt_of_le -> Zi, lt_succ_self -> Zf, reduceAdd -> Zb, reduceEqDiff -> Za, reduceLeDiff -> Zq, zero_add -> ZP, zero_le -> Zl, zero_mul -> ZK
section
namespace Go.Proofs.hq
open Go Go.RowKit Go.Hb
variable {ok:Ok}
set_option maxRecDepth 10000
attribute [local irreducible] LX LG EL STG SOP SGO SGD SAL SRD SEF SEG SLK SCK ES
theorem zmn (n:Int):lookT [] n=none:=rfl
theorem zbw:∀(m:Nat) (t:Tm),SizeOf.sizeOf t < m->subO (lookT []) t=t
 |0,_,h=>by omega
 |m+1,t,h=>by
  by_cases k1:t.kind=1
  ·rw[z6s k1,zmn];rfl
  ·rw[zm6 k1];have:t.args.map (subO (lookT []))=t.args:=by
    conv=>rhs;rw[<-List.map_id t.args]
    exact List.map_congr_left fun u hu=>zbw m u (by have:=z0h hu;omega)
   rw[this];obtain⟨k,s,u,b,v,l⟩:=t;rfl
theorem zhj {m:Nat}:∀l:List Int,allS (lookT []) m l=m
 |[]=>rfl
 |n :: l=>by unfold allS;rw[List.foldl_cons];exact zhj l
theorem zdv {t:Tm}(h:checkS t=0):PutOk t []:=⟨h,fun i hi=>by simp at hi,by rw[zhj];exact(z0k.1 h).1⟩
def OT (H:Heap) (S:Nat->Prop) (t:Tm) (cs:List Value):Prop:=RepS H S t cs/\TopR H 28 S t cs
theorem OT.to {H H':Heap}{S S':Nat->Prop}{t:Tm}{cs:List Value}(h:OT H S t cs) (hk:∀n,S n->n < H.next->H'.get n=H.get n/\S' n/\n < H'.next):OT H' S' t cs:=⟨h.1.to hk,h.2.heap hk⟩
theorem OT.rep {H:Heap}{S:Nat->Prop}{t:Tm}{cs:List Value}(h:OT H S t cs):RepT H t cs:=h.1.rep
set_option maxHeartbeats 2000000 in
theorem zbx {t:Tm}{cs:List Value}{H:Heap}(r0:RepT H t cs) (hc:checkS t=0) (hw:H.wf) :
  EvF Tryz.prog okT 59 [.agg ⟨cs⟩] H fun v H'=>HX H H'/\∃out,v=.agg ⟨out⟩/\OT H' (Rg H.next H'.next) t out:=by
 obtain⟨a,c,cells,rfl,-⟩:=r0.six;refine EvF.enter rfl Tryz.func59 (by decide) rfl ?_;(repeat refine qZa ?_);refine qZb ?_;simp (config:=qZc) (disch:=first|omega|rfl) only[sB,initTm,dBox,dAlloc,Value.cells,one,zr28];obtain⟨H2,e2,hx2,gt,gq,hn2,hw2⟩:=new2 hw (.row (six t a c) 28) (.row zero6 28);simp only[e2];clear e2;have qt:=row6 gt;(repeat refine qZa ?_);refine qZb ?_;simp (config:=qZc) (disch:=first|omega|rfl) only[sB,Za,reduceCtorEq,ld28,cl37,qt];have rb:RepB7 H2 [] none 0:=⟨Ze _,Zl _,fun i hi=>by simp at hi⟩
 refine(zqv (r0.mono hx2 hw) rb hw2).mono ?_;rintro v H3 ⟨hx3,⟨-,out,rfl,hrep,htop⟩|⟨hn,-⟩⟩;rotate_left
 ·exact absurd (zdv hc) hn
 rw[zbw _ t (Zf _)] at hrep htop;obtain⟨a3,c3,zak,rfl,-⟩:=hrep.rep.six;have gq3:=hx3.get hw2 gq;(try simp (config:=qZc) (disch:=first|omega|rfl) only[sB,dAlloc,Za,Zb,one,reduceCtorEq,zr28,st28]);obtain⟨H4,e4,hx4,g4,hn4,hw4⟩:=z0m hx3.wf (.row zero6 28) (.row (six t a3 c3) 28);simp only[e4];have q4:=row6 g4;have gq4:=hx4.get hx3.wf gq3;have n3:=hx3.next
 repeat' (first|refine qZa ?_|(refine qZf ?_)|(refine qZb ?_;simp (config:=qZc) (disch:=first|omega|rfl) only[sB,Za,Zb,one,reduceCtorEq,ld28,st28,q4,gq4]))
 refine z0a rfl (by simp only[sB,Za,reduceCtorEq];rfl) (by simp only[sB,Zb,cutC,ld28]) ⟨((hx2.trans hx3).trans hx4).pt (by omega) gq4 _,_,rfl,OT.to ⟨hrep,htop⟩ fun n hn hl=>?_⟩;have:=hn.1;exact⟨by rw[get_put,if_neg (by omega)];exact hx4.keep n hl,⟨by omega,by rw[z07];omega⟩,by rw[z07];omega⟩
theorem z4d {s:ByteArray}{H:Heap}(hw:H.wf):EvF Tryz.prog okT 48 [.string s] H fun v H'=>v=.agg ⟨six (atmT s) none 0⟩/\HX H H':=by
 refine EvF.enter rfl Tryz.func48 (by decide) rfl ?_
 repeat' (first|refine qZa ?_|(refine qZf ?_)|(refine qZb ?_;simp (config:=qZc) (disch:=first|omega|rfl) only[sB,initTm,dAlloc,Za,Zb,Value.cells,one,reduceCtorEq,Zq,layC,zr28,bd28,st28]))
 exact z0a rfl (by simp only[sB,Za,reduceCtorEq];rfl) (by simp only[sB,Zb,cutC,ld28];rfl) ⟨rfl,((HX.refl hw).new _).put (Ze _) (Zf _) _⟩
theorem z2p {s:ByteArray}{a:Option Addr}{n c:Nat}{H:Heap}(hw:H.wf) :
  EvF Tryz.prog okT 34 [.string s,.slice a n c] H fun v H'=>v=.agg ⟨[.int .i64 5,.string s,.string Zd,.int .u64 0,.int .i64 0,.slice a n c]⟩/\HX H H':=by
 refine EvF.enter rfl Tryz.func34 (by decide) rfl ?_
 repeat' (first|refine qZa ?_|(refine qZf ?_)|(refine qZb ?_;simp (config:=qZc) (disch:=first|omega|rfl) only[sB,initTm,dAlloc,Za,Zb,Value.cells,one,reduceCtorEq,Zq,layC,zr28,bd28,st28]))
 exact z0a rfl (by simp only[sB,Za,reduceCtorEq];rfl) (by simp only[sB,Zb,cutC,ld28]) ⟨rfl,((HX.refl hw).new _).put (Ze _) (Zf _) _⟩
theorem z7q {t:Tm}{cs:List Value}{s:ByteArray}{H:Heap}(r:RepT H t cs) (hw:H.wf) :
  EvF Tryz.prog okT 49 [.agg ⟨cs⟩,.string s] H fun v H'=>v=.bool (decide (isF t s))/\HX H H':=by
 obtain⟨a,c,cells,rfl,-⟩:=r.six;refine EvF.enter rfl Tryz.func49 (by decide) rfl ?_;(repeat refine qZa ?_);refine qZb ?_;simp (config:=qZc) (disch:=first|omega|rfl) only[sB,initTm,dBox,Value.cells,one,reduceCtorEq];obtain⟨H2,e2,hx2,gt,hn2,hw2⟩:=new1 hw (.row (six t a c) 28);simp only[e2];have qt:=row6 gt;by_cases k5:t.kind=5;rotate_left
 ·have hd:decide (isF t s)=false:=decide_eq_false fun h=>k5 h.1
  repeat' (first|refine qZa ?_|(refine qZf ?_)|(refine qZb ?_;simp (config:=qZc) (disch:=first|omega|rfl) only[sB,Za,reduceCtorEq,z0i,ld3,qt,z0g k5,Zg]))
  exact z03 rfl (by simp only[sB,Za,reduceCtorEq];rfl) ⟨by rw[hd],hx2⟩
 by_cases kn:t.name=s;rotate_left
 ·have hd:decide (isF t s)=false:=decide_eq_false fun h=>kn h.2.1
  repeat' (first|refine qZa ?_|(refine qZf ?_)|(refine qZb ?_;simp (config:=qZc) (disch:=first|omega|rfl) only[sB,Za,reduceCtorEq,z0i,ld3,z11,ld9,qt,z0l k5,z2t,zmm kn,Zg]))
  exact z03 rfl (by simp only[sB,Za,reduceCtorEq];rfl) ⟨by rw[hd],hx2⟩
 by_cases k2:t.args.length=2
 ·have hd:decide (isF t s)=true:=decide_eq_true ⟨k5,kn,k2⟩;have k2':(t.args.length:Int)=2:=by omega
  repeat' (first|refine qZa ?_|(refine qZf ?_)|(refine qZb ?_;simp (config:=qZc) (disch:=first|omega|rfl) only[sB,Za,reduceCtorEq,z0i,ld3,z11,ld9,z0u,ld26,ln26,qt,z0l k5,z2t,zhi kn,z0l k2']))
  exact z03 rfl (by simp only[sB,Za,reduceCtorEq];rfl) ⟨by rw[hd],hx2⟩
 ·have hd:decide (isF t s)=false:=decide_eq_false fun h=>k2 h.2.2
  have k2':(t.args.length:Int)≠2:=by omega
  repeat' (first|refine qZa ?_|(refine qZf ?_)|(refine qZb ?_;simp (config:=qZc) (disch:=first|omega|rfl) only[sB,Za,reduceCtorEq,z0i,ld3,z11,ld9,z0u,ld26,ln26,qt,z0l k5,z2t,zhi kn,z0g k2']))
  exact z03 rfl (by simp only[sB,Za,reduceCtorEq];rfl) ⟨by rw[hd],hx2⟩
theorem ld1 {H:Heap}{p n:Nat}{cs:List Value}{T:TypeId}(h:H.get p=some (.row cs T)) (hn:cs.length=n):H.load ⟨p,0,none⟩ n=some cs:=by
 unfold Heap.load Heap.cells;simp only[h,List.drop_zero];rw[if_pos (by rw[Zt,Zo];omega),Zm (by omega)]
theorem zdw {s:ByteArray}{l:List Tm}(h:s.size<=maxLen):Bd (cmpT s l):=⟨by show i64 5;decide,h,by show ByteArray.empty.size<=_;decide,by show u64 0;decide,by show i64 0;decide⟩
theorem OT.comp {H:Heap}{S:Nat->Prop}{s:ByteArray}{l:List Tm}{b c:Nat}{cells:List Value}(hs:s.size<=maxLen) (hg:H.get b=some (.row cells 28)) (hS:S b) (hl:l.length*6<=cells.length) (hc:l.length<=c) (hm:c<=maxLen) (hw:H.wf)
  (hch:∀(j:Nat) (hj:j < l.length),RepS H S l[j] ((cells.drop (j*6)).take 6)):OT H S (cmpT s l) (six (cmpT s l) (some ⟨b,0,none⟩) c) :=
 ⟨RepS.row (t:=cmpT s l) (zdw hs) rfl hg hS (hw _ _ hg) hl hc hm hch,.inr ⟨b,c,cells,rfl,hg,hS,hw _ _ hg,hl,fun j hj=>RepT.all (hch j hj).rep⟩⟩
set_option maxHeartbeats 2000000 in
theorem zdx {t:Tm}{cs:List Value}{H:Heap}(r0:RepT H t cs) (hc:checkS t=0) (hw:H.wf) :
  EvF Tryz.prog okT 85 [.agg ⟨cs⟩] H fun v H'=>HX H H'/\∃out,v=.agg ⟨out⟩/\OB H' 45 28 (Rg H.next H'.next) (callB t) out:=by
 obtain⟨a,c,cells,rfl,-⟩:=r0.six;refine EvF.enter rfl Tryz.func85 (by decide) rfl ?_;(repeat refine qZa ?_);refine qZb ?_;simp (config:=qZc) (disch:=first|omega|rfl) only[sB,initTm,dBox,dAlloc,Value.cells,one,zr45];obtain⟨H2,e2,hx2,gt,gq,hn2,hw2⟩:=new2 hw (.row (six t a c) 28) (.row zero8 45);simp only[e2];clear e2;have qt:=row6 gt;(repeat refine qZa ?_);refine qZb ?_;simp (config:=qZc) (disch:=first|omega|rfl) only[sB,Za,Zb,Value.cells,reduceCtorEq,layC,ld28,cl59,zah,qt];refine(zbx (r0.mono hx2 hw) hc hw2).mono ?_;rintro v H3 ⟨hx3,out,rfl,hot⟩;obtain⟨a3,c3,zak,rfl,-⟩:=hot.rep.six;have gq3:=hx3.get hw2 gq
 repeat' (first|(refine z0q ?_;simp (config:=qZc) (disch:=first|omega|rfl) only[sB,Za,Zb,Value.cells,one,reduceCtorEq,Zq,layC,cl34,bd45]))
 obtain⟨H4,e4,hx4,g4,hn4,hw4⟩:=new1 hx3.wf (.row (six t a3 c3) 28);simp only[e4];refine(z2p hw4).mono ?_;rintro v H5 ⟨rfl,hx5⟩;have gq5:=hx5.get hw4 (hx4.get hx3.wf gq3);have g5:=hx5.get hw4 g4;have n3:=hx3.next;have n5:=hx5.next;have hx35:=hx4.trans hx5
 repeat' (first|(refine qZf ?_)|(refine z0q ?_;simp (config:=qZc) (disch:=first|omega|rfl) only[sB,Za,Zb,one,reduceCtorEq,Zq,st45,gq5]))
 refine z0a rfl (by simp only[sB,Za,reduceCtorEq];rfl) (by simp only[sB,Zb,cutC,ld45];rfl) ⟨((hx2.trans hx3).trans hx35).pt (by omega) gq5 _,_,rfl,?_⟩;have hr5:RepS H5 (Rg H.next H5.next) t (six t a3 c3):=hot.1.to fun n hn hl=>⟨hx35.keep n hl,⟨by have:=hn.1;omega,by omega⟩,by omega⟩
 have ho:OT H5 (fun n=>Rg H.next H5.next n/\n≠H.next+1) (cmpT sCall [t]) (six (cmpT sCall [t]) (some ⟨H3.next,0,none⟩) 1):=by
  refine OT.comp (by decide) g5 ⟨⟨by omega,by omega⟩,by omega⟩ (Ze _) (Ze _) (by decide) hx5.wf fun j hj=>?_
  match j,hj with
  |0,_=>exact hot.1.to fun n hn hl=>⟨hx35.keep n hl,⟨⟨by have:=hn.1;omega,by omega⟩,by have:=hn.1;omega⟩,by omega⟩
 refine OB.to (S:=fun n=>Rg H.next H5.next n/\n≠H.next+1) (.leaf _ 3 _ _ (by decide) ho.1 ho.2) (fun n hn hl=>⟨by rw[get_put,if_neg hn.2],by rw[z07];exact hl⟩) fun n hn=>⟨hn.1.1,by rw[z07];exact hn.1.2⟩
def RepE (H:Heap):Er->Value->Prop
 |.ok,v=>v=.nilIface
 |.num e,v=>v=.iface 36 (.int .i64 e)
 |.ball t,v=>∃p a c,v=.iface 100 (.pointer (some ⟨p,0,none⟩))/\H.get p=some (.row (six t a c) 103)/\RepT H t (six t a c)
theorem RepE.mono {H H':Heap}{e:Er}{v:Value}(h:RepE H e v) (hx:HX H H') (hw:H.wf):RepE H' e v:=by
 cases e with
 |ok=>exact h
 |num e=>exact h
 |ball t =>
  obtain⟨p,a,c,h1,h2,h3⟩:=h;exact⟨p,a,c,h1,hx.get hw h2,h3.mono hx hw⟩
def RepES (H:Heap) (S:Nat->Prop) (e:Er) (v:Value):Prop:=∀G:Heap,(∀n,S n->n < H.next->G.get n=H.get n)->RepE G e v
theorem RepES.rep {H:Heap}{S:Nat->Prop}{e:Er}{v:Value}(h:RepES H S e v):RepE H e v:=h H fun _ _ _=>rfl
theorem RepES.to {H H2:Heap}{S S2:Nat->Prop}{e:Er}{v:Value}(h:RepES H S e v) (hk:∀n,S n->n < H.next->H2.get n=H.get n/\S2 n/\n < H2.next):RepES H2 S2 e v:=fun G hG=>h G fun n hn hl=>by
 obtain⟨a,b,c⟩:=hk n hn hl;rw[hG n b c,a]
theorem RepES.fine {H:Heap}{S:Nat->Prop}:RepES H S .ok .nilIface:=fun _ _=>rfl
theorem RepES.num {H:Heap}{S:Nat->Prop}{e:Int}:RepES H S (.num e) (.iface 36 (.int .i64 e)):=fun _ _=>rfl
theorem RepES.ball {H:Heap}{S:Nat->Prop}{t:Tm}{p:Nat}{a:Option Addr}{c:Nat}(hg:H.get p=some (.row (six t a c) 103)) (hS:S p) (hw:H.wf) (hr:RepS H S t (six t a c)) :
  RepES H S (.ball t) (.iface 100 (.pointer (some ⟨p,0,none⟩))):=fun G hG=>⟨p,a,c,rfl,by rw[hG p hS (hw _ _ hg)];exact hg,hr G hG⟩
theorem zum:mkiOk Tryz.prog 100=true:=by kernel_rfl
theorem zmo:mkiOk Tryz.prog 36=true:=by kernel_rfl
set_option maxHeartbeats 2000000 in
theorem z81 {t:Tm}{cs:List Value}{S:Nat->Prop}{H:Heap}(r0:RepS H S t cs) (hw:H.wf) (hS:∀n,S n->n < H.next) :
  EvF Tryz.prog okT 50 [.agg ⟨cs⟩] H fun v H'=>HX H H'/\RepES H' (fun n=>S n\/(H.next<=n/\n < H'.next)) (.ball t) v:=by
 obtain⟨a,c,cells,rfl,-⟩:=r0.rep.six;refine EvF.enter rfl Tryz.func50 (by decide) rfl ?_;(repeat refine qZa ?_);refine qZb ?_;simp (config:=qZc) (disch:=first|omega|rfl) only[sB,initTm,dBox,Value.cells,one];obtain⟨H2,e2,hx2,gt,hn2,hw2⟩:=new1 hw (.row (six t a c) 28);simp only[e2];clear e2;have qt:=row6 gt
 repeat' (first|refine qZa ?_|(refine qZf ?_)|(refine qZb ?_;simp (config:=qZc) (disch:=first|omega|rfl) only[sB,dBox,Za,Zb,Value.cells,one,reduceCtorEq,layC,ld28,zvh,qt,z1g,z9b zum]))
 obtain⟨H3,e3,hx3,g3,hn3,hw3⟩:=new1 hw2 (.row (six t a c) 103);simp only[e3];refine z03 rfl (by simp only[sG,Za,reduceCtorEq]) ⟨hx2.trans hx3,RepES.ball g3 (.inr ⟨by omega,by omega⟩) hw3 (r0.to fun n hn hl=>⟨by rw[hx3.keep n (by omega),hx2.keep n hl],.inl hn,by omega⟩)⟩
def stopCh:List PanicEntry:=[{ v:=.iface 128 (.agg #[]),recovered:=false }]
theorem zp7:dmight Tryz.prog 73=.agg ⟨zero8⟩:=by kernel_rfl
theorem zsx:dmight Tryz.prog 87=.agg ⟨zero8⟩:=by kernel_rfl
def BodyEnd (H:Heap) (o:Option Bdy) (e:En) (H':Heap):Prop:=HX H H'/\match o with
 |some b=>∃out,e=.ret (.agg ⟨out⟩)/\OB H' 45 28 (Rg H.next H'.next) b out
 |none=>e=.panic stopCh
def BodyP (m:Nat):Prop:=∀{t:Tm}{cs:List Value}{H:Heap},SizeOf.sizeOf t < m->RepT H t cs->checkS t=0->H.wf->EvG Tryz.prog okT 73 [.agg ⟨cs⟩] H (BodyEnd H (bodyF m t))
theorem z9c {f:Tm->Option Bdy}:∀{l:List Tm}{bs:List Bdy}{t:Tm}{b:Bdy},subBL f l=some bs->f t=some b->subBL f (l++[t])=some (bs++[b])
 |[],bs,t,b,h,hb=>by
  cases h;simp [subBL,hb]
 |u :: l,bs,t,b,h,hb=>by
  rw[subBL] at h;split at h
  ·rename_i c cs h1 h2;cases h;rw[List.cons_append,subBL,h1,z9c h2 hb];rfl
  ·cases h
theorem zdy {f:Tm->Option Bdy}:∀{l:List Tm}{t:Tm},t∈l->f t=none->subBL f l=none
 |u :: l,t,h,hn=>by
  rw[subBL];rcases List.mem_cons.1 h with rfl|h
  ·rw[hn]
  ·rw[zdy h hn];cases f u<;>rfl
theorem zhk {f:Tm->Option Bdy}:∀{l:List Tm}{bs:List Bdy},subBL f l=some bs->bs.length=l.length
 |[],bs,h=>by cases h;rfl
 |u :: l,bs,h=>by
  rw[subBL] at h;split at h
  ·rename_i c cs h1 h2;cases h;simp [zhk h2]
  ·cases h
set_option maxHeartbeats 8000000 in
theorem z9d {m:Nat}(hb:BodyP m) {k:Int}{l:List Tm}{a:Option Addr}{c:Nat}{cells:Nat->List Value}{H:Heap}(hk:i64 k) (rl:RepL H l a c cells) (hl:l.length<=64) (hs:∀t∈l,SizeOf.sizeOf t < m/\checkS t=0) (hw:H.wf) :
  EvG Tryz.prog okT 87 [.int .i64 k,.slice a l.length c] H (BodyEnd H (subBF (bodyF m) k l)):=by
 have apB:apOk Tryz.prog 43 45 8:=ap43;refine EvG.enter rfl Tryz.func87 (by decide) rfl ?_;(repeat refine qZa ?_);refine qZb ?_;simp (config:=qZc) (disch:=first|omega|rfl) only[sA,initTm,dAlloc,zr45];obtain⟨H2,e2,hx2,g4,hn2,hw2⟩:=new1 hw (.row zero8 45);simp only[e2];clear e2;(repeat refine qZa ?_);refine qZb ?_;simp (config:=qZc) (disch:=first|omega|rfl) only[sB,dAlloc,Za,Zb,Value.cells,one,reduceCtorEq,Zq,layC,zr45,bd45,st45];obtain⟨H3,e3,hx3,g5,hn3,hw3⟩:=z0m hw2 (.row zero8 45) (.row [.int .i64 k,.int .i64 0,.string Zd,.string Zd,.int .u64 0,.int .i64 0,.slice none 0 0,.slice none 0 0] 45);simp only[e3];clear e3;rw[hn2] at g5 hn3;have g5:H3.get (H.next+1)=some (.row (eightT k zeroT none 0 none 0 0) 45):=g5;have g4:=hx3.get hw2 g4;have hx:=hx2.trans hx3;have hmax:=rl.max;(repeat refine qZa ?_);refine qZb ?_;simp (config:=qZc) (disch:=first|omega|rfl) only[sB,Za,reduceCtorEq,ln26]
 refine EvC.join (fun st=>∃tm G bs ao co,st=⟨tm,[],G⟩/\tm.get 4=some (.pointer (some ⟨H.next,0,none⟩))/\tm.get 5=some (.pointer (some ⟨H.next+1,0,none⟩))/\G.get H.next=some (.row zero8 45) /\
  G.get (H.next+1)=some (.row (eightT k zeroT none 0 ao bs.length co) 45)/\subBL (bodyF m) l=some bs/\OBL G 45 28 (fun n=>H.next+2<=n/\n < G.next) bs ao co/\HX H G) ?_ ?_
 ·refine qZg (qZk (fun k' st=>∃tm G i bs ao co,st=⟨tm,[],G⟩/\k'=l.length - i/\i<=l.length/\bs.length=i/\tm.get 4=some (.pointer (some ⟨H.next,0,none⟩))/\tm.get 5=some (.pointer (some ⟨H.next+1,0,none⟩)) /\
   tm.get 10=some (.slice a l.length c)/\tm.get 11=some (.int .i64 l.length)/\tm.get 12=some (.int .i64 (i:Nat))/\G.get H.next=some (.row zero8 45)/\G.get (H.next+1)=some (.row (eightT k zeroT none 0 ao i co) 45) /\
   subBL (bodyF m) (l.take i)=some bs/\OBL G 45 28 (fun n=>H.next+2<=n/\n < G.next) bs ao co/\HX H G) ?_ l.length _ ?_)
  rotate_left
  ·exact⟨_,_,0,[],none,0,rfl,rfl,Zl _,rfl,(by simp only[sG,Za,reduceCtorEq]),by rw[<-hn2];first|(simp only[sG,Za,reduceCtorEq];rfl)|simp only[sG,Za,reduceCtorEq],(by simp only[sG,Za,reduceCtorEq]),(by simp only[sG,Za,reduceCtorEq]),(by simp only[sB,Za,reduceCtorEq];rfl),g4,g5,rfl,.nil,hx⟩
  rintro k' st ⟨tm,G,i,bs,ao,co,rfl,rfl,hi,hbl,t4,t5,t10,t11,t12,g4G,g5G,hsub,hobl,hxG⟩;have hwG:=hxG.wf;by_cases hlt:i < l.length;rotate_left
  ·repeat' (first|refine qZa ?_|(refine qZi ?_;try simp only[sB])|(refine qZb ?_;simp (config:=qZc) (disch:=first|omega|rfl) only[sA,t11,t12,decn hlt])|(refine qZm ?_ ?_;simp (config:=qZc) (disch:=first|omega|rfl) only[sB];refine z02 ?_))
   obtain rfl:i=l.length:=by omega
   rw[List.take_length] at hsub;exact⟨_,_,bs,ao,co,rfl,(by simp only[sG,Za,t4]),(by simp only[sG,Za,t5]),g4G,by rw[hbl];exact g5G,hsub,hobl,hxG⟩
  obtain⟨b,o,a1,c1,rfl,hld,hr1⟩:=rl.el hlt;have hld1:=hxG.load hw hld;(repeat refine qZa ?_);refine qZb ?_;simp (config:=qZc) (disch:=first|omega|rfl) only[sA,t11,t12,decl hlt];(repeat refine qZa ?_);refine qZd (by simp (config:=qZc) (disch:=first|omega|rfl) only[sB]) ?_;(try refine qZe ?_);(try simp only[z00,z04]);refine qZa ?_;refine qZg ?_;(repeat refine qZa ?_);refine qZb ?_;simp (config:=qZc) (disch:=first|omega|rfl) only[sB,dAlloc,Za,Zb,one,ia26,ld28,zr28,st28,t10,t12,hld1];obtain⟨H4,e4,hx4,g7,hn4,hw4⟩:=z0m hwG (.row zero6 28) (.row (six l[i] a1 c1) 28);simp only[e4];clear e4;have q7:=row6 g7;have hxb:HX G ⟨H4.next+8,H4.t⟩:=hx4.bump 8;have hG4:=hx4.next;have g54:=hx4.get hwG g5G;have q54:=row8 g54;have hsi:=hs l[i] (Zu _);have hlg:=hwG _ _ g5G;subst hbl;have hsg:∀n,(H.next+2<=n/\n < G.next)->n < G.next:=fun n hn=>hn.2
  cases hbi:bodyF m l[bs.length] with
  |some bd =>
   refine qZj [([(2,0)],some 3),([(0,0),(1,0),(4,1)],some 5),([(6,2)],some 7),([],none)] (by kernel_rfl) ?_;simp (config:=qZc) (disch:=first|omega|rfl) only[sD,sB,Za,Zb,reduceCtorEq,ld28,cl73,isAlloc,isRead,q7];refine EvG.toF (hb hsi.1 (hr1.mono (hxG.trans hxb) hw) hsi.2 hxb.wf) ?_;rintro e H5 ⟨hx5,he⟩;rw[hbi] at he;obtain⟨out,rfl,hob⟩:=he;refine⟨_,rfl,?_⟩;obtain⟨ta,tc,sa,sc,rfl⟩:=hob.rep.eight;have n5:H4.next+8<=H5.next:=hx5.next;have hx45:HX G H5:=hxb.trans hx5;obtain⟨H6,e6⟩:∃H6,H5.put (H4.next+4) (some (.row (eightT bd.kind bd.term ta tc sa bd.sub.length sc) 45))=H6:=⟨_,rfl⟩
   have hx6:HX G H6:=by rw[<-e6];exact hx45.put (by omega) (by omega) _
   have hn6:H6.next=H5.next:=by rw[<-e6,z07]
   have g6:H6.get (H4.next+4)=some (.row (eightT bd.kind bd.term ta tc sa bd.sub.length sc) 45):=by rw[<-e6,get_put,if_pos rfl]
   have hob6:OB H6 45 28 (Rg (H4.next+8) H5.next) bd (eightT bd.kind bd.term ta tc sa bd.sub.length sc):=hob.to (fun n hn hl=>⟨by have:H4.next+8<=n:=hn.1;rw[<-e6,get_put,if_neg (by omega)],by omega⟩) fun _ hn=>hn
   obtain⟨H7,e7,hobl7,hk7,hn7⟩:=OBL.push (N:=Rg (H4.next+8) H5.next) (S2:=fun n=>H.next+2<=n/\n < H6.next+1) (c1:=1) apB (hobl.keep hx6) hx6.wf (ld1 g6 rfl) hob6 (fun n hn hs=>by have:H4.next+8<=n:=hn.1;have:=hs.2;omega) (fun n hn=>by have:=hn.2;omega)
    (fun n hn=>by have:=hn.2;omega) (by unfold most;omega) (fun n hn=>by
     rcases hn with hn|hn|hn
     ·exact⟨hn.1,by omega⟩
     ·exact⟨by have:H4.next+8<=n:=hn.1;omega,by have:=hn.2;omega⟩
     ·exact⟨by omega,by omega⟩)
   have g55:=hx5.get hxb.wf (show (⟨H4.next+8,H4.t⟩:Heap).get (H.next+1)=_ from g54);have q55:=row8 g55;have g57:=hk7.get hx6.wf (hx6.get hwG g5G) (fun hs=>by have:=hs.1;omega);have g47:=hk7.get hx6.wf (hx6.get hwG g4G) (fun hs=>by have:=hs.1;omega);have hx7:HX H H7:=(hxG.trans hx6).then hk7 fun n hn hs=>by have:=hs.1;omega
   repeat' (first|(refine qZb ?_;simp (config:=qZc) (disch:=first|omega|rfl) only[sB,Za,t12,z0c])|(refine z0p ?_;simp (config:=qZc) (disch:=first|omega|rfl) only[sV,sD,sB,Za,Zb,Value.cells,one,reduceCtorEq,layC,z29,ld43,zl9,st43,t5,q54,q55,e6,e7,g57,isAlloc,isRead,dalloc]))
   refine⟨l.length - (bs.length+1),by omega,_,_,bs.length+1,bs++[bd],some ⟨H6.next,0,none⟩,bs.length+1,rfl,rfl,by omega,by simp,(by simp only[sG,Za,t4]),(by simp only[sG,Za,t5]),(by simp only[sG,Za,t10]),(by simp only[sG,Za,t11]),(by simp only[sB,Za];rfl),by rw[get_put,if_neg (by omega)];exact g47,by rw[get_put,if_pos rfl],
    by rw[<-List.take_append_getElem hlt];exact z9c hsub hbi,hobl7.to (fun n hn hl=>⟨by rw[get_put,if_neg (by omega)],by rw[z07];exact hl⟩) fun n hn=>⟨hn.1,by rw[z07,hn7];exact hn.2⟩,hx7.pt (by omega) g57 _⟩
  |none =>
   obtain⟨Hq,eq⟩:∃Hq,(⟨H4.next+8,H4.t⟩:Heap).put (H4.next+4) (some (.row zero8 45))=Hq:=⟨_,rfl⟩
   have hxq:HX G Hq:=by rw[<-eq];exact hxb.put (by omega) (by show _ < H4.next+8;omega) _
   have gq:Hq.get (H4.next+4)=some (.row zero8 45):=by rw[<-eq,get_put,if_pos rfl]
   obtain⟨H7,e7,-,hk7,-⟩:=OBL.push (N:=fun _=>False) (S2:=fun _=>True) (u:=zeroB) (c1:=1) apB (hobl.keep hxq) hxq.wf (ld1 gq rfl) (OB.nil (by decide)) (fun _ h=>h.elim) (fun _ h=>h.elim) (fun n hn=>by have:=hn.2;have:=hxq.next;omega) (by unfold most;omega) (fun _ _=>trivial);have g57:=hk7.get hxq.wf (hxq.get hwG g5G) (fun hs=>by have:=hs.1;omega);refine EvC.drwP 3 _ [(2,0)] [([(0,0),(1,0),(4,1)],some 5),([(6,2)],some 7),([],none)] (by kernel_rfl) (by kernel_rfl) rfl rfl ?_;simp (config:=qZc) (disch:=first|omega|rfl) only[sV,sD,sB,Za,Zb,Value.cells,one,reduceCtorEq,layC,ld28,z29,ld43,cl73,zl9,st43,isAlloc,isRead,dalloc,zmi,t5,q7,q54,zp7,eq,e7,g57];refine EvG.toP (hb hsi.1 (hr1.mono (hxG.trans hxb) hw) hsi.2 hxb.wf) ?_;rintro e H5 ⟨hx5,he⟩;rw[hbi] at he;refine⟨_,he,And.intro rfl ⟨(hxG.trans hxb).trans hx5,?_⟩⟩;rw[show subBF (bodyF m) k l=none from by unfold subBF;rw[zdy (Zu _) hbi];rfl]
 ·rintro st ⟨tm,G,bs,ao,co,rfl,t4,t5,g4G,g5G,hsub,hobl,hxG⟩;have q5:=row8 g5G
  repeat' (first|refine qZa ?_|(refine qZf ?_)|(refine qZb ?_;simp (config:=qZc) (disch:=first|omega|rfl) only[sB,Za,Zb,one,st45,ld45,t4,t5,q5,g4G]))
  refine z1b (z0a rfl (by simp only[sB,Za,t4];rfl) (by simp only[sB,Zb,cutC,ld45];rfl) ⟨hxG.pt (Ze _) g4G _,?_⟩);rw[show subBF (bodyF m) k l=some (.mk k zeroT bs) from by unfold subBF;rw[hsub];rfl];refine⟨_,rfl,OBL.mk (ts:=six zeroT none 0) (hobl.to (fun n hn hl=>⟨by rw[get_put,if_neg (by omega)],by rw[z07];exact hl⟩) fun n hn=>⟨by omega,by rw[z07];exact hn.2⟩) hk (RepS.leaf zbv rfl (Zl _) (fun _=>rfl)) rfl⟩
theorem zmp:∀(l:List Tm),(∀t∈l,∀n,n+nd t<=4000->cnt t n=n+nd t)->∀n,n+nd.ndL l<=4000->cntL l n=n+nd.ndL l
 |[],_,n,_=>by rw[cntL,nd.ndL];rfl
 |t :: l,h,n,hn=>by
  rw[nd.ndL] at hn ⊢;rw[cntL,if_neg (by omega),h t (by simp) n (by omega),zmp l (fun u hu=>h u (Zn _ hu)) _ (by omega)];omega
theorem z3z:∀(m:Nat) (t:Tm),SizeOf.sizeOf t < m->∀n,n+nd t<=4000->cnt t n=n+nd t
 |0,_,h,_,_=>by omega
 |m+1,t,h,n,hn=>by
  rw[z1f] at hn ⊢;rw[z56,zmp _ (fun u hu k=>z3z m u (by have:=z0h hu;omega) k) _ (by omega)];omega
theorem zmq:∀{l:List Tm}{u:Tm},u∈l->nd u<=nd.ndL l
 |t :: l,u,h=>by
  rw[nd.ndL];rcases List.mem_cons.1 h with rfl|h
  ·omega
  ·have:=zmq h;omega
theorem z17 {t u:Tm}(h:checkS t=0) (hu:u∈t.args):checkS u=0:=by
 have h1:=z0k.1 h;have h2:=zam _ t (Zf _) 0 h1.1;have h3:=zmq hu;have h4:=z1f t;have h5:=z3z _ u (Zf _) 0 (by omega);exact z0k.2 ⟨by omega,h1.2.args u hu⟩
theorem zby {H:Heap}{b o n:Nat}{l:List Value}(hw:H.wf) (h:H.load ⟨b,o,none⟩ n=some l):b < H.next:=by
 unfold Heap.load Heap.cells at h;simp only at h;cases hg:H.get b with
 |none=>rw[hg] at h;cases h
 |some B=>exact hw b B hg
theorem neu (n:Nat):(n=n+1)=False:=by simp
theorem neu' (n:Nat):(n+1=n)=False:=by simp
theorem zqx:mkiOk Tryz.prog 128=true:=by kernel_rfl
set_option maxHeartbeats 8000000 in
theorem zjh {m:Nat}(hb:BodyP m) {t:Tm}{cs:List Value}{H:Heap}(hs:SizeOf.sizeOf t < m+1) (r:RepT H t cs) (h2:t.args.length=2) (hc:checkS t=0) (hw:H.wf) :
  EvG Tryz.prog okT 86 [.agg ⟨cs⟩] H (BodyEnd H (withinF (bodyF m) t)):=by
 have r0:=r;obtain⟨a,c,cells,rfl,-,-,-,-,-,rl⟩:=r.six;obtain⟨x,y,hxy⟩:∃x y,t.args=[x,y]:=by
  match hl:t.args,h2 with
  |[x,y],_=>exact⟨x,y,rfl⟩
 have ex:t.at 0=x:=by unfold Tm.at;rw[hxy];rfl
 have ey:t.at 1=y:=by unfold Tm.at;rw[hxy];rfl
 have g0:t.args[0]'(by omega)=x:=by simp [hxy]
 have g1:t.args[1]'(by omega)=y:=by simp [hxy]
 obtain⟨b,o,a1,c1,rfl,hld0,hr0⟩:=rl.el (i:=0) (by omega);obtain⟨b',o',a2,c2,e2,hld1,hr1⟩:=rl.el (i:=1) (by omega);cases e2;rw[g0] at hld0 hr0;rw[g1] at hld1 hr1;simp only[ZK,Nat.add_zero,Nat.one_mul] at hld0 hld1;have hcx:=z17 hc (u:=x) (by rw[hxy];simp);have hcy:=z17 hc (u:=y) (by rw[hxy];simp);have hsy:SizeOf.sizeOf y < SizeOf.sizeOf t:=z0h (by rw[hxy];simp);refine EvG.enter rfl Tryz.func86 (by decide) rfl ?_;(repeat refine qZa ?_);refine qZb ?_;simp (config:=qZc) (disch:=first|omega|rfl) only[sB,initTm,dBox,dAlloc,Value.cells,one,zr45];obtain⟨H2,e2,hx2,gt,gq,hn2,hw2⟩:=new2 hw (.row (six t (some ⟨b,o,none⟩) c) 28) (.row zero8 45);simp only[e2];clear e2;have qt:=row6 gt;have l0:=hx2.load hw hld0;have l1:=hx2.load hw hld1;have hbl:=zby hw2 l0;have b8:(b=H2.next+8)=False:=by simp;omega
 have b9:(b=H2.next+9)=False:=by simp;omega
 have h8:(H.next=H2.next+8)=False:=by simp;omega
 have h9:(H.next=H2.next+9)=False:=by simp;omega
 (repeat refine qZa ?_);refine EvC.meet (fun st=>∃tm G,st=⟨tm,[],G⟩/\tm.get 1=some (.pointer (some ⟨H.next,0,none⟩))/\tm.get 2=some (.pointer (some ⟨H.next+1,0,none⟩))/\tm.get 3=some (.pointer (some ⟨H2.next+8,0,none⟩))/\tm.get 4=some (.pointer (some ⟨H2.next+9,0,none⟩)) /\
  G.get (H2.next+8)=some (.row (six x a1 c1) 28)/\G.get (H2.next+9)=some (.row (six y a2 c2) 28)/\HX H2 G) ?_ ?_
 ·refine qZj [([(0,0),(1,0),(2,0),(3,0),(8,0),(9,0)],some 10),([(4,0),(5,0),(6,0),(7,0)],some 11),([],none)] (by kernel_rfl) ?_;simp (config:=qZc) (disch:=first|omega|rfl) only[sV,sD,sB,dAlloc,Za,Zb,one,reduceCtorEq,cutC,Int.reduceToNat,z0u,ld26,ld28,zr28,st28,isAlloc,isRead,dalloc,qt,l0,l1,iz26,ZK,Nat.one_mul,neu,neu',b8,b9,h8,h9];have hxb:=(HX.refl hw2).bump 12;refine⟨_,_,rfl,(by simp only[sG,Za,reduceCtorEq]),(by simp only[sG,Za,reduceCtorEq]),(by simp only[sG,Za,reduceCtorEq]),(by simp only[sG,Za,reduceCtorEq]),by rw[get_put,if_neg (by omega),get_put,if_pos rfl],by rw[get_put,if_pos rfl],
   (((hxb.put (i:=H2.next+8) (by omega) (by show _ < H2.next+12;omega) _).put (i:=H2.next+9) (by omega) (by show _ < H2.next+12;omega) _).put (i:=H2.next+8) (by omega) (by show _ < H2.next+12;omega) _).put (i:=H2.next+9) (by omega) (by show _ < H2.next+12;omega) _⟩
 rintro st ⟨tm,G,rfl,t1,t2,t3,t4,gx,gy,hx3⟩;have qx:=row6 gx;have qy:=row6 gy;have gt3:=hx3.get hw2 gt;have gq3:=hx3.get hw2 gq;have n3:=hx3.next;have hxG:=hx2.trans hx3;have hwG:=hxG.wf;have lx:=hwG _ _ gx;have lyy:=hwG _ _ gy;have qt3:=row6 gt3;simp only[z00];(repeat refine qZa ?_);refine EvC.join (fun st=>∃tm',st=⟨tm',[],G⟩/\tm'.get 1=some (.pointer (some ⟨H.next,0,none⟩))/\tm'.get 2=some (.pointer (some ⟨H.next+1,0,none⟩))/\tm'.get 3=some (.pointer (some ⟨H2.next+8,0,none⟩))/\tm'.get 4=some (.pointer (some ⟨H2.next+9,0,none⟩)) /\
  ¬(isNum (t.at 1)\/((t.at 0).kind≠2/\(t.at 0).kind≠1))/\¬((t.at 0).kind=1\/(t.at 1).kind=1)) ?_ ?_
 ·rw[ex,ey];refine qZg ?_;obtain⟨bb,hbb⟩:∃bb:Bool,(bb=true↔(isNum y\/(x.kind≠2/\x.kind≠1))):=⟨decide (isNum y\/(x.kind≠2/\x.kind≠1)),decide_eq_true_iff⟩
  (repeat refine qZa ?_);refine EvC.meet (fun st=>∃tm',st=⟨tm',[],G⟩/\tm'.get 1=some (.pointer (some ⟨H.next,0,none⟩))/\tm'.get 2=some (.pointer (some ⟨H.next+1,0,none⟩))/\tm'.get 3=some (.pointer (some ⟨H2.next+8,0,none⟩))/\tm'.get 4=some (.pointer (some ⟨H2.next+9,0,none⟩))/\tm'.get 14=some (.bool bb)) ?_ ?_
  ·by_cases y3:y.kind=3
   ·have hb':bb=true:=hbb.2 (.inl (.inl y3));refine qZb ?_;simp (config:=qZc) (disch:=first|omega|rfl) only[sB,Za,z0i,ld3,t4,qy,z0l y3];exact⟨_,rfl,(by simp only[sG,Za,t1]),(by simp only[sG,Za,t2]),(by simp only[sG,Za,t3]),(by simp only[sG,Za,t4]),by rw[hb'];first|(simp only[sG,Za];rfl)|simp only[sG,Za]⟩
   by_cases y4:y.kind=4
   ·have hb':bb=true:=hbb.2 (.inl (.inr y4));refine qZb ?_;simp (config:=qZc) (disch:=first|omega|rfl) only[sB,Za,z0i,ld3,t4,qy,z0g y3,z0l y4,Zg];exact⟨_,rfl,(by simp only[sG,Za,t1]),(by simp only[sG,Za,t2]),(by simp only[sG,Za,t3]),(by simp only[sG,Za,t4]),by rw[hb'];first|(simp only[sG,Za];rfl)|simp only[sG,Za]⟩
   have hn:¬isNum y:=fun h=>by rcases h with h|h;exact y3 h;exact y4 h
   by_cases x2:x.kind=2
   ·have hb':bb=false:=by
     cases hq:bb with
     |false=>rfl
     |true=>rcases hbb.1 hq with h|h;exact absurd h hn;exact absurd x2 h.1
    refine qZb ?_;simp (config:=qZc) (disch:=first|omega|rfl) only[sB,Za,z0i,ld3,t3,t4,qx,qy,z0g y3,z0g y4,z15 x2,Zg];exact⟨_,rfl,(by simp only[sG,Za,t1]),(by simp only[sG,Za,t2]),(by simp only[sG,Za,t3]),(by simp only[sG,Za,t4]),by rw[hb'];first|(simp only[sG,Za];rfl)|simp only[sG,Za]⟩
   by_cases x1:x.kind=1
   ·have hb':bb=false:=by
     cases hq:bb with
     |false=>rfl
     |true=>rcases hbb.1 hq with h|h;exact absurd h hn;exact absurd x1 h.2
    refine qZb ?_;simp (config:=qZc) (disch:=first|omega|rfl) only[sB,Za,z0i,ld3,t3,t4,qx,qy,z0g y3,z0g y4,z1z x2,z15 x1,Zg];exact⟨_,rfl,(by simp only[sG,Za,t1]),(by simp only[sG,Za,t2]),(by simp only[sG,Za,t3]),(by simp only[sG,Za,t4]),by rw[hb'];first|(simp only[sG,Za];rfl)|simp only[sG,Za]⟩
   ·have hb':bb=true:=hbb.2 (.inr ⟨x2,x1⟩);refine qZb ?_;simp (config:=qZc) (disch:=first|omega|rfl) only[sB,Za,z0i,ld3,t3,t4,qx,qy,z0g y3,z0g y4,z1z x2,z1z x1,Zg];exact⟨_,rfl,(by simp only[sG,Za,t1]),(by simp only[sG,Za,t2]),(by simp only[sG,Za,t3]),(by simp only[sG,Za,t4]),by rw[hb'];first|(simp only[sG,Za];rfl)|simp only[sG,Za]⟩
  rintro st ⟨tm,rfl,t1,t2,t3,t4,t14⟩;simp only[z00];cases bb with
  |true =>
   have hw':withinF (bodyF m) t=none:=by unfold withinF;rw[ex,ey,if_pos (hbb.1 rfl)]
   refine qZd (by simp only[sA,t14]) ?_;refine EvC.regP 2 _ rfl rfl ?_;simp (config:=qZc) (disch:=first|omega|rfl) only[sB,Za,Value.cells,layC,zu4,zhh,z1g,z9b zqx,zdu,zap];refine And.intro rfl ⟨hxG,?_⟩;rw[hw'];rfl
  |false =>
   have hnb:¬(isNum y\/(x.kind≠2/\x.kind≠1)):=fun h=>by have:=hbb.2 h;cases this
   refine qZm (by simp only[sA,t14]) ?_;by_cases hcl:x.kind=1\/y.kind=1
   ·have hw':withinF (bodyF m) t=some (callB t):=by unfold withinF;rw[ex,ey,if_neg hnb,if_pos hcl]
    (repeat refine qZa ?_);refine EvC.meet (fun st=>∃tm',st=⟨tm',[],G⟩/\tm'.get 1=some (.pointer (some ⟨H.next,0,none⟩))/\tm'.get 2=some (.pointer (some ⟨H.next+1,0,none⟩))/\tm'.get 35=some (.bool true)) ?_ ?_
    ·by_cases x1:x.kind=1
     ·refine qZb ?_;simp (config:=qZc) (disch:=first|omega|rfl) only[sB,Za,z0i,ld3,t3,qx,z0l x1];exact⟨_,rfl,(by simp only[sG,Za,t1]),(by simp only[sG,Za,t2]),by first|(simp only[sG,Za];rfl)|simp only[sG,Za]⟩
     ·have y1:=hcl.resolve_left x1;refine qZb ?_;simp (config:=qZc) (disch:=first|omega|rfl) only[sB,Za,z0i,ld3,t3,t4,qx,qy,z0g x1,z0l y1,Zg];exact⟨_,rfl,(by simp only[sG,Za,t1]),(by simp only[sG,Za,t2]),by first|(simp only[sG,Za];rfl)|simp only[sG,Za]⟩
    rintro st ⟨tm,rfl,t1,t2,t35⟩;simp only[z00];refine qZd (by simp only[sA,t35]) ?_;(repeat refine qZa ?_);refine qZb ?_;simp (config:=qZc) (disch:=first|omega|rfl) only[sB,Za,ld28,cl85,t1,qt3];refine(zdx (r0.mono hxG hw) hc hwG).mono ?_;rintro v H5 ⟨hx5,out,rfl,hob⟩;obtain⟨ta,tc,sa,sc,rfl⟩:=hob.rep.eight;have gq5:=hx5.get hwG gq3;have n5:=hx5.next;have nG:=hxG.next
    repeat' (first|(refine qZf ?_;try simp only[z06,z01])|(refine z0q ?_;simp (config:=qZc) (disch:=first|omega|rfl) only[sB,Zb,one,st45,t2,gq5]))
    refine z1b (z0a rfl (by simp only[sB,Za,t2];rfl) (by simp only[sB,Zb,cutC,ld45];rfl) ⟨(hxG.trans hx5).pt (by omega) gq5 _,?_⟩);rw[hw'];exact⟨_,rfl,hob.to (fun n hn hl=>⟨by have:=hn.1;rw[get_put,if_neg (by omega)],by rw[z07];exact hl⟩) fun n hn=>⟨by have:=hn.1;omega,by rw[z07];exact hn.2⟩⟩
   have x1:¬x.kind=1:=fun h=>hcl (.inl h)
   have y1:¬y.kind=1:=fun h=>hcl (.inr h)
   repeat' (first|refine qZa ?_|(refine qZe ?_;try simp only[sA])|(refine qZb ?_;simp (config:=qZc) (disch:=first|omega|rfl) only[sB,Za,z0i,ld3,t3,t4,qx,qy,z0g x1,z0g y1,Zg])|(refine qZm ?_ ?_;simp (config:=qZc) (disch:=first|omega|rfl) only[sB,Za];refine z02 ?_))
   exact⟨_,rfl,(by simp only[sG,Za,t1]),(by simp only[sG,Za,t2]),(by simp only[sG,Za,t3]),(by simp only[sG,Za,t4]),hnb,fun h=>by rcases h with h|h;exact x1 h;exact y1 h⟩
 rw[ex,ey];rintro st ⟨tm,rfl,t1,t2,t3,t4,hnb,hnc⟩;have hwi:withinF (bodyF m) t=(bodyF m y).map fun b=>.mk 7 x [b]:=by unfold withinF;rw[ex,ey,if_neg hnb,if_neg hnc]
 rw[hwi];have hx2k:x.kind=2:=by
  by_cases h:x.kind=2
  ·exact h
  ·exact absurd (.inr ⟨h,fun h'=>hnc (.inl h')⟩) hnb
 have hxa:x.args=[]:=by
  have k:=z2d (z0k.1 hcx).2.node;exact(z2a k.2.2.1).2.2.2.2 (by omega)
 obtain⟨H4,e4,hx4,g4,hn4,hw4⟩:=new1 hwG (.row (six y a2 c2) 28);have hyG:=(hr1.mono hxG hw).mono hx4 hwG;have rly:RepL H4 [y] (some ⟨G.next,0,none⟩) 1 (fun _=>six y a2 c2):=RepL.of_row g4 (fun i hi=>by
   match i,hi with
   |0,_=>rfl) (fun i u hu=>by
   match i,hu with
   |0,hu=>cases hu;exact hyG) (Ze _) (by decide)
 have hsub:=z9d hb (k:=7) (by decide) rly (by show 1<=64;decide) (fun u hu=>by
  rw[List.mem_singleton] at hu;subst hu;exact⟨by omega,hcy⟩) hw4
 have es:subBF (bodyF m) 7 [y]=(bodyF m y).map fun b=>.mk 7 zeroT [b]:=by
  unfold subBF;rw[subBL];cases bodyF m y<;>rfl
 cases hby:bodyF m y with
 |none =>
  rw[es,hby] at hsub;(repeat refine qZa ?_);refine EvC.regP 2 _ rfl rfl ?_;simp (config:=qZc) (disch:=first|omega|rfl) only[sB,Za,Zb,Value.cells,one,layC,ld28,zah,cl87,z79,t4,qy];simp only[e4];refine EvG.toP hsub ?_;rintro e H5 ⟨hx5,he⟩;exact⟨_,he,And.intro rfl ⟨(hxG.trans hx4).trans hx5,rfl⟩⟩
 |some bd =>
  rw[es,hby] at hsub;(repeat refine qZa ?_);refine qZb ?_;simp (config:=qZc) (disch:=first|omega|rfl) only[sB,dAlloc,Za,Zb,Value.cells,one,layC,zr45,ld28,zah,cl87,t4,qy];simp only[e4];refine EvG.toF hsub ?_;rintro e H5 ⟨hx5,out,he,hob⟩;obtain⟨ts,sa,sc,rfl,hts,hobl⟩:=hob.parts;obtain⟨a5,c5,cells5,rfl,-⟩:=hts.six;have he:e=.ret (.agg ⟨eightT 7 zeroT a5 c5 sa 1 sc⟩):=he;refine⟨_,he,?_⟩;(try simp (config:=qZc) (disch:=first|omega|rfl) only[sB,Zb,one,st45]);obtain⟨H6,e6,hx6,g6,hn6,hw6⟩:=z0m hx5.wf (.row zero8 45) (.row (eightT 7 zeroT a5 c5 sa 1 sc) 45);simp only[e6];clear e6;have q6:=row8 g6;have n5:=hx5.next;have hx46:=hx5.trans hx6;have gx6:=hx46.get hw4 (hx4.get hwG gx);have qx6:=row6 gx6;have gq6:=hx46.get hw4 (hx4.get hwG gq3);have nG:=hxG.next;have ne5:(H.next+1=H5.next)=False:=by simp;omega
  repeat' (first|refine qZa ?_|(refine qZf ?_)|(refine qZb ?_;simp (config:=qZc) (disch:=first|omega|rfl) only[sB,Za,Zb,one,cutC,Zq,ld28,st28,st45,z5l,ld45,t2,t3,qx6,q6,g6,gq6,ne5]))
  have hxf:=((hxG.trans hx4).trans hx46)
  refine z1b (z0a rfl (by simp only[sB,Za,t2];rfl) (by simp only[sB,Zb,cutC,ld45];rfl) ⟨(hxf.pt (i:=H5.next) (by omega) g6 _).pt (by omega) (by rw[get_put,if_neg (by omega)];exact gq6) _,?_⟩);obtain⟨ax,cx,cellsx,ee,-,-,-,-,-,rlx⟩:=hr0.six;obtain⟨-,-,-,-,-,rfl,rfl⟩:=z78 ee;refine⟨_,rfl,OBL.mk (k:=7) (t:=x) (ts:=six x a1 c1) (hobl.to (fun n hn hl=>?_) fun n hn=>?_) (by decide) (RepS.leaf hr0.bd hxa rlx.cap fun h=>(rlx.nil h).2) hxa⟩
  ·have:H4.next<=n:=hn.1;rw[get_put,if_neg (by omega),get_put,if_neg (by omega)];exact⟨hx6.keep n hl,by rw[z07,z07];omega⟩
  ·have:H4.next<=n:=hn.1;exact⟨by omega,by rw[z07,z07];have:=hn.2;omega⟩
theorem ldA5 {H:Heap}{b o:Nat}{x0 x1 x2 x3 x4 x5:Value}(h:H.load ⟨b,o,none⟩ 6=some [x0,x1,x2,x3,x4,x5]):H.load ⟨b,o+5,none⟩ 1=some [x5]:=by
 unfold Heap.load at h ⊢;simp only at h ⊢;cases hc:H.cells b with
 |none=>rw[hc] at h;cases h
 |some cs =>
  rw[hc] at h;simp only at h ⊢;split at h
  ·rename_i hb;simp only[Option.some.injEq] at h;have e:(cs.drop (o+5)).take 1=[x5]:=by
    have:((cs.drop o).take 6).drop 5=[x5]:=by rw[h];rfl
    rw[List.drop_take,List.drop_drop] at this;exact this
   rw[e];rfl
  ·cases h
theorem zmr {m:Nat}{t:Tm}(h:isNum t):bodyF (m+1) t=none:=by rw[bodyF,if_pos h]
set_option maxHeartbeats 16000000 in
theorem zms {m:Nat}(hb:BodyP m) {t:Tm}{cs:List Value}{H:Heap}(hs:SizeOf.sizeOf t < m+1) (r:RepT H t cs) (hc:checkS t=0) (hw:H.wf) :
  EvG Tryz.prog okT 73 [.agg ⟨cs⟩] H (BodyEnd H (bodyF (m+1) t)):=by
  have r0:=r;have hf:=(z0k.1 hc).2;have hfew:=z58 hf;have hlf:∀{u:Tm},u∈t.args->SizeOf.sizeOf u < m/\checkS u=0:=fun hu=>⟨by have:=z0h hu;omega,z17 hc hu⟩
  obtain⟨a,c,cells,rfl,-,-,-,-,-,rl⟩:=r.six;refine EvG.enter rfl Tryz.func73 (by decide) rfl ?_;(repeat refine qZa ?_);refine qZb ?_;simp (config:=qZc) (disch:=first|omega|rfl) only[sB,initTm,dBox,dAlloc,Value.cells,one,zr45];obtain⟨H2,e2,hx,gt,gq,hn2,hw2⟩:=new2 hw (.row (six t a c) 28) (.row zero8 45);simp only[e2];clear e2;have qt:=row6 gt;have lt:=hw2 _ _ gq;(repeat refine qZa ?_);refine EvC.join (fun st=>∃tm G,st=⟨tm,[],G⟩/\tm.get 1=some (.pointer (some ⟨H.next,0,none⟩))/\tm.get 2=some (.pointer (some ⟨H.next+1,0,none⟩))/\G.get H.next=some (.row (six t a c) 28)/\G.get (H.next+1)=some (.row zero8 45)/\HX H G /\
   bodyF (m+1) t=some (.mk 3 t [])) ?_ ?_
  rotate_left
  ·rintro st ⟨tm,G,rfl,t1,t2,gt,gq,hx,hbd⟩;have qt:=row6 gt;(repeat refine qZa ?_);refine qZb ?_;simp (config:=qZc) (disch:=first|omega|rfl) only[sB,Za,Zb,Value.cells,one,Zq,layC,ld28,bd45,cl59,t1,qt];refine(zbx (r0.mono hx hw) hc hx.wf).mono ?_;rintro v H5 ⟨hx5,out,rfl,hot⟩;obtain⟨ta,tc,cellst,rfl,-⟩:=hot.rep.six;have gq5:=hx5.get hx.wf gq;have n5:=hx5.next;have nx:=hx.next;have lq:=hx.wf _ _ gq
   repeat' (first|(refine qZf ?_)|(refine z0q ?_;simp (config:=qZc) (disch:=first|omega|rfl) only[sB,Za,Zb,one,Zq,st45,t2,gq5]))
   refine z1b (z0a rfl (by simp only[sB,Za,t2];rfl) (by simp only[sB,Zb,cutC,ld45];rfl) ⟨(hx.trans hx5).pt (by omega) gq5 _,?_⟩);rw[hbd];have hot':OT (H5.put (H.next+1) (some (.row (eightT 3 t ta tc none 0 0) 45))) (Rg H.next H5.next) t (six t ta tc):=hot.to fun n hn hl=>⟨by have:=hn.1;rw[get_put,if_neg (by omega)],⟨by have:=hn.1;omega,hl⟩,by rw[z07];exact hl⟩
   exact⟨_,rfl,.leaf _ 3 t (six t ta tc) (by decide) hot'.1 hot'.2⟩
  refine qZg ?_;(repeat refine qZa ?_);refine EvC.meet (fun st=>∃tm',st=⟨tm',[],H2⟩/\tm'.get 1=some (.pointer (some ⟨H.next,0,none⟩))/\tm'.get 2=some (.pointer (some ⟨H.next+1,0,none⟩))/\tm'.get 3=some (.bool (decide (isNum t)))) ?_ ?_
  ·by_cases n3:t.kind=3
   ·have hd:decide (isNum t)=true:=decide_eq_true (.inl n3);refine qZb ?_;simp (config:=qZc) (disch:=first|omega|rfl) only[sB,Za,reduceCtorEq,z0i,ld3,qt,z0l n3];exact⟨_,rfl,(by simp only[sG,Za,reduceCtorEq]),(by simp only[sG,Za,reduceCtorEq]),by rw[hd];first|(simp only[sG,Za,reduceCtorEq];rfl)|simp only[sG,Za,reduceCtorEq]⟩
   by_cases n4:t.kind=4
   ·have hd:decide (isNum t)=true:=decide_eq_true (.inr n4);refine qZb ?_;simp (config:=qZc) (disch:=first|omega|rfl) only[sB,Za,reduceCtorEq,z0i,ld3,qt,z0g n3,z0l n4,Zg];exact⟨_,rfl,(by simp only[sG,Za,reduceCtorEq]),(by simp only[sG,Za,reduceCtorEq]),by rw[hd];first|(simp only[sG,Za,reduceCtorEq];rfl)|simp only[sG,Za,reduceCtorEq]⟩
   ·have hd:decide (isNum t)=false:=decide_eq_false fun h=>by rcases h with h|h;exact n3 h;exact n4 h
    refine qZb ?_;simp (config:=qZc) (disch:=first|omega|rfl) only[sB,Za,reduceCtorEq,z0i,ld3,qt,z0g n3,z0g n4,Zg];exact⟨_,rfl,(by simp only[sG,Za,reduceCtorEq]),(by simp only[sG,Za,reduceCtorEq]),by rw[hd];first|(simp only[sG,Za,reduceCtorEq];rfl)|simp only[sG,Za,reduceCtorEq]⟩
  rintro st ⟨tm,rfl,t1,t2,t3⟩;simp only[z00];by_cases hn:isNum t
  ·have hd:decide (isNum t)=true:=decide_eq_true hn;refine qZd (by simp only[sA,t3,hd]) ?_;refine EvC.regP 2 _ rfl rfl ?_;simp (config:=qZc) (disch:=first|omega|rfl) only[sB,Za,Value.cells,layC,zu4,zhh,z1g,z9b zqx,zdu,zap];exact And.intro rfl ⟨hx,by rw[zmr hn];rfl⟩
  have hd:decide (isNum t)=false:=decide_eq_false hn;refine qZm (by simp only[sA,t3,hd]) ?_;refine EvC.frame (fun tm=>tm.get 1=some (.pointer (some ⟨H.next,0,none⟩))/\tm.get 2=some (.pointer (some ⟨H.next+1,0,none⟩))) ⟨t1,t2⟩ ?_;clear t1 t2 t3 hd tm;rintro tm ⟨t1,t2⟩;by_cases k1:t.kind=1
  ·have hbd:bodyF (m+1) t=some (callB t):=by rw[bodyF,if_neg hn,if_pos k1]
   (repeat refine qZa ?_);refine qZb ?_;simp (config:=qZc) (disch:=first|omega|rfl) only[sB,Za,z0i,ld3,t1,qt,z0l k1];refine qZd (by simp (config:=qZc) (disch:=first|omega|rfl) only[sB,Za]) ?_;(try refine qZe ?_);(try simp only[z00,z04]);(repeat refine qZa ?_);refine qZb ?_;simp (config:=qZc) (disch:=first|omega|rfl) only[sB,Za,ld28,cl85,t1,qt];refine(zdx (r0.mono hx hw) hc hx.wf).mono ?_;rintro v H5 ⟨hx5,out,rfl,hob⟩;obtain⟨ta,tc,sa,sc,rfl⟩:=hob.rep.eight;have gq5:=hx5.get hx.wf gq;have n5:=hx5.next;have nx:=hx.next;have lq:=hx.wf _ _ gq
   repeat' (first|(refine qZf ?_;try simp only[z06,z01])|(refine z0q ?_;simp (config:=qZc) (disch:=first|omega|rfl) only[sB,Zb,one,st45,t2,gq5]))
   refine z1b (z0a rfl (by simp only[sB,Za,t2];rfl) (by simp only[sB,Zb,cutC,ld45];rfl) ⟨(hx.trans hx5).pt (by omega) gq5 _,?_⟩);rw[hbd];exact⟨_,rfl,hob.to (fun n hn hl=>⟨by have:=hn.1;rw[get_put,if_neg (by omega)],by rw[z07];exact hl⟩) fun n hn=>⟨by have:=hn.1;omega,by rw[z07];exact hn.2⟩⟩
  (repeat refine qZa ?_);refine qZb ?_;simp (config:=qZc) (disch:=first|omega|rfl) only[sB,Za,z0i,ld3,t1,qt,z0g k1];refine qZm (by simp (config:=qZc) (disch:=first|omega|rfl) only[sB,Za]) ?_;(try refine qZe ?_);(try simp only[z00,z04]);refine EvC.frame (fun tm=>tm.get 1=some (.pointer (some ⟨H.next,0,none⟩))/\tm.get 2=some (.pointer (some ⟨H.next+1,0,none⟩))) ⟨(by simp only[sG,Za,t1]),(by simp only[sG,Za,t2])⟩ ?_;clear t1 t2 tm;rintro tm ⟨t1,t2⟩;by_cases ktrue:t.kind=2/\t.name=sTrue
  ·have hbd:bodyF (m+1) t=some (.mk 1 zeroT []):=by rw[bodyF,if_neg hn,if_neg k1,if_pos ktrue]
   (repeat refine qZa ?_);refine qZb ?_;simp (config:=qZc) (disch:=first|omega|rfl) only[sB,Za,z0i,ld3,z11,ld9,t1,qt,z0l ktrue.1,z2t,zhi ktrue.2];refine qZd (by simp (config:=qZc) (disch:=first|omega|rfl) only[sB,Za]) ?_;(try refine qZe ?_);(try simp only[z00,z04]);have lq:=hx.wf _ _ gq
   repeat' (first|refine qZa ?_|(refine qZf ?_;try simp only[z06,z01])|(refine qZb ?_;simp (config:=qZc) (disch:=first|omega|rfl) only[sB,Za,Zb,Value.cells,one,Zq,layC,st45,bd45,t2,gq]))
   refine z1b (z0a rfl (by simp only[sB,Za,t2];rfl) (by simp only[sB,Zb,cutC,ld45];rfl) ⟨hx.pt (by omega) gq _,?_⟩);rw[hbd];exact⟨_,rfl,OB.nil (by decide)⟩
  refine EvC.cut (fun st=>∃tm',st=⟨tm',[],H2⟩/\tm'.get 1=some (.pointer (some ⟨H.next,0,none⟩))/\tm'.get 2=some (.pointer (some ⟨H.next+1,0,none⟩))/\tm'.get 20=some (.bool false)) ?_ ?_
  ·by_cases k2:t.kind=2
   ·have kn:t.name≠sTrue:=fun h=>ktrue ⟨k2,h⟩
    refine qZb ?_;simp (config:=qZc) (disch:=first|omega|rfl) only[sB,Za,z0i,ld3,z11,ld9,t1,qt,z0l k2,z2t,zmm kn];exact⟨_,rfl,(by simp only[sG,Za,t1]),(by simp only[sG,Za,t2]),by first|(simp only[sG,Za];rfl)|simp only[sG,Za]⟩
   ·refine qZb ?_;simp (config:=qZc) (disch:=first|omega|rfl) only[sB,Za,z0i,ld3,t1,qt,z0g k2,Zg];exact⟨_,rfl,(by simp only[sG,Za,t1]),(by simp only[sG,Za,t2]),by first|(simp only[sG,Za];rfl)|simp only[sG,Za]⟩
  clear t1 t2 tm;rintro st ⟨tm,rfl,t1,t2,tc⟩;refine qZm (by simp (config:=qZc) (disch:=first|omega|rfl) only[sA,tc]) ?_;(try refine qZe ?_);(try simp only[z00,z04]);clear tc;by_cases kexc:t.kind=2/\t.name=sExc
  ·have hbd:bodyF (m+1) t=some (.mk 2 zeroT []):=by rw[bodyF,if_neg hn,if_neg k1,if_neg ktrue,if_pos kexc]
   (repeat refine qZa ?_);refine qZb ?_;simp (config:=qZc) (disch:=first|omega|rfl) only[sB,Za,z0i,ld3,z11,ld9,t1,qt,z0l kexc.1,z2t,zhi kexc.2];refine qZd (by simp (config:=qZc) (disch:=first|omega|rfl) only[sB,Za]) ?_;(try refine qZe ?_);(try simp only[z00,z04]);have lq:=hx.wf _ _ gq
   repeat' (first|refine qZa ?_|(refine qZf ?_;try simp only[z06,z01])|(refine qZb ?_;simp (config:=qZc) (disch:=first|omega|rfl) only[sB,Za,Zb,Value.cells,one,Zq,layC,st45,bd45,t2,gq]))
   refine z1b (z0a rfl (by simp only[sB,Za,t2];rfl) (by simp only[sB,Zb,cutC,ld45];rfl) ⟨hx.pt (by omega) gq _,?_⟩);rw[hbd];exact⟨_,rfl,OB.nil (by decide)⟩
  refine EvC.cut (fun st=>∃tm',st=⟨tm',[],H2⟩/\tm'.get 1=some (.pointer (some ⟨H.next,0,none⟩))/\tm'.get 2=some (.pointer (some ⟨H.next+1,0,none⟩))/\tm'.get 30=some (.bool false)) ?_ ?_
  ·by_cases k2:t.kind=2
   ·have kn:t.name≠sExc:=fun h=>kexc ⟨k2,h⟩
    refine qZb ?_;simp (config:=qZc) (disch:=first|omega|rfl) only[sB,Za,z0i,ld3,z11,ld9,t1,qt,z0l k2,z2t,zmm kn];exact⟨_,rfl,(by simp only[sG,Za,t1]),(by simp only[sG,Za,t2]),by first|(simp only[sG,Za];rfl)|simp only[sG,Za]⟩
   ·refine qZb ?_;simp (config:=qZc) (disch:=first|omega|rfl) only[sB,Za,z0i,ld3,t1,qt,z0g k2,Zg];exact⟨_,rfl,(by simp only[sG,Za,t1]),(by simp only[sG,Za,t2]),by first|(simp only[sG,Za];rfl)|simp only[sG,Za]⟩
  clear t1 t2 tm;rintro st ⟨tm,rfl,t1,t2,tc⟩;refine qZm (by simp (config:=qZc) (disch:=first|omega|rfl) only[sA,tc]) ?_;(try refine qZe ?_);(try simp only[z00,z04]);clear tc;(repeat refine qZa ?_);refine qZb ?_;simp (config:=qZc) (disch:=first|omega|rfl) only[sB,Za,ld28,cl49,t1,qt];refine(z7q (s:=sCol) (r0.mono hx hw) hx.wf).mono ?_;clear qt;rintro v H3 ⟨rfl,hx3⟩;replace gt:=hx3.get hx.wf gt;replace gq:=hx3.get hx.wf gq;replace hx:=hx.trans hx3;clear hx3;have qt:=row6 gt;by_cases hF:isF t sCol
  ·have hd:decide (isF t sCol)=true:=decide_eq_true hF;(try simp (config:=qZc) (disch:=first|omega|rfl) only[]);refine qZd (by simp (config:=qZc) (disch:=first|omega|rfl) only[sB,Za,hd]) ?_;(try refine qZe ?_);(try simp only[z00,z04]);have hbd:bodyF (m+1) t=withinF (bodyF m) t:=by rw[bodyF,if_neg hn,if_neg k1,if_neg ktrue,if_neg kexc,if_pos hF]
   have hcon:=zjh hb hs (r0.mono hx hw) hF.2.2 hc hx.wf;cases ho:withinF (bodyF m) t with
   |none =>
    (repeat refine qZa ?_);refine EvC.regP 1 _ rfl rfl ?_;simp (config:=qZc) (disch:=first|omega|rfl) only[sB,Za,ld28,cl86,z79,t1,qt];refine EvG.toP hcon ?_;rintro e H5 ⟨hx5,he⟩;rw[ho] at he;exact⟨_,he,And.intro rfl ⟨hx.trans hx5,by rw[hbd,ho]⟩⟩
   |some bd =>
    (repeat refine qZa ?_);refine qZb ?_;simp (config:=qZc) (disch:=first|omega|rfl) only[sB,Za,ld28,cl86,t1,qt];refine EvG.toF hcon ?_;rintro e H5 ⟨hx5,he⟩;rw[ho] at he;obtain⟨out,rfl,hob⟩:=he;refine⟨_,rfl,?_⟩;obtain⟨ta,tc,sa,sc,rfl⟩:=hob.rep.eight;have gq5:=hx5.get hx.wf gq;have n5:=hx5.next;have nx:=hx.next;have lq:=hx.wf _ _ gq
    repeat' (first|(refine qZf ?_;try simp only[z06,z01])|(refine z0q ?_;simp (config:=qZc) (disch:=first|omega|rfl) only[sB,Zb,one,st45,t2,gq5]))
    refine z1b (z0a rfl (by simp only[sB,Za,t2];rfl) (by simp only[sB,Zb,cutC,ld45];rfl) ⟨(hx.trans hx5).pt (by omega) gq5 _,?_⟩);rw[hbd,ho];exact⟨_,rfl,hob.to (fun n hn hl=>⟨by have:=hn.1;rw[get_put,if_neg (by omega)],by rw[z07];exact hl⟩) fun n hn=>⟨by have:=hn.1;omega,by rw[z07];exact hn.2⟩⟩
  have fcol:=hF;clear hF;have hd:decide (isF t sCol)=false:=decide_eq_false fcol;(try simp (config:=qZc) (disch:=first|omega|rfl) only[]);refine qZm (by simp (config:=qZc) (disch:=first|omega|rfl) only[sB,Za,hd]) ?_;(try refine qZe ?_);(try simp only[z00,z04]);clear hd;refine EvC.frame (fun tm=>tm.get 1=some (.pointer (some ⟨H.next,0,none⟩))/\tm.get 2=some (.pointer (some ⟨H.next+1,0,none⟩))) ⟨(by simp only[sG,Za,t1]),(by simp only[sG,Za,t2])⟩ ?_;clear t1 t2 tm;rintro tm ⟨t1,t2⟩;(repeat refine qZa ?_);refine qZb ?_;simp (config:=qZc) (disch:=first|omega|rfl) only[sB,Za,ld28,cl49,t1,qt];refine(z7q (s:=sCma) (r0.mono hx hw) hx.wf).mono ?_;clear qt;rintro v H3 ⟨rfl,hx3⟩;replace gt:=hx3.get hx.wf gt;replace gq:=hx3.get hx.wf gq;replace hx:=hx.trans hx3;clear hx3;have qt:=row6 gt;by_cases hF:isF t sCma
  ·have hd:decide (isF t sCma)=true:=decide_eq_true hF;(try simp (config:=qZc) (disch:=first|omega|rfl) only[]);refine qZd (by simp (config:=qZc) (disch:=first|omega|rfl) only[sB,Za,hd]) ?_;(try refine qZe ?_);(try simp only[z00,z04]);have hbd:bodyF (m+1) t=subBF (bodyF m) 4 t.args:=by rw[bodyF,if_neg hn,if_neg k1,if_neg ktrue,if_neg kexc,if_neg fcol,if_pos hF]
   have hcon:=z9d hb (k:=4) (by decide) (rl.mono hx hw) hfew (fun u hu=>hlf hu) hx.wf;cases ho:subBF (bodyF m) 4 t.args with
   |none =>
    (repeat refine qZa ?_);refine EvC.regP 2 _ rfl rfl ?_;simp (config:=qZc) (disch:=first|omega|rfl) only[sB,Za,z0u,ld26,cl87,z79,t1,qt];refine EvG.toP hcon ?_;rintro e H5 ⟨hx5,he⟩;rw[ho] at he;exact⟨_,he,And.intro rfl ⟨hx.trans hx5,by rw[hbd,ho]⟩⟩
   |some bd =>
    (repeat refine qZa ?_);refine qZb ?_;simp (config:=qZc) (disch:=first|omega|rfl) only[sB,Za,z0u,ld26,cl87,t1,qt];refine EvG.toF hcon ?_;rintro e H5 ⟨hx5,he⟩;rw[ho] at he;obtain⟨out,rfl,hob⟩:=he;refine⟨_,rfl,?_⟩;obtain⟨ta,tc,sa,sc,rfl⟩:=hob.rep.eight;have gq5:=hx5.get hx.wf gq;have n5:=hx5.next;have nx:=hx.next;have lq:=hx.wf _ _ gq
    repeat' (first|(refine qZf ?_;try simp only[z06,z01])|(refine z0q ?_;simp (config:=qZc) (disch:=first|omega|rfl) only[sB,Zb,one,st45,t2,gq5]))
    refine z1b (z0a rfl (by simp only[sB,Za,t2];rfl) (by simp only[sB,Zb,cutC,ld45];rfl) ⟨(hx.trans hx5).pt (by omega) gq5 _,?_⟩);rw[hbd,ho];exact⟨_,rfl,hob.to (fun n hn hl=>⟨by have:=hn.1;rw[get_put,if_neg (by omega)],by rw[z07];exact hl⟩) fun n hn=>⟨by have:=hn.1;omega,by rw[z07];exact hn.2⟩⟩
  have fcma:=hF;clear hF;have hd:decide (isF t sCma)=false:=decide_eq_false fcma;(try simp (config:=qZc) (disch:=first|omega|rfl) only[]);refine qZm (by simp (config:=qZc) (disch:=first|omega|rfl) only[sB,Za,hd]) ?_;(try refine qZe ?_);(try simp only[z00,z04]);clear hd;refine EvC.frame (fun tm=>tm.get 1=some (.pointer (some ⟨H.next,0,none⟩))/\tm.get 2=some (.pointer (some ⟨H.next+1,0,none⟩))) ⟨(by simp only[sG,Za,t1]),(by simp only[sG,Za,t2])⟩ ?_;clear t1 t2 tm;rintro tm ⟨t1,t2⟩;(repeat refine qZa ?_);refine qZb ?_;simp (config:=qZc) (disch:=first|omega|rfl) only[sB,Za,ld28,cl49,t1,qt];refine(z7q (s:=sArr) (r0.mono hx hw) hx.wf).mono ?_;clear qt;rintro v H3 ⟨rfl,hx3⟩;replace gt:=hx3.get hx.wf gt;replace gq:=hx3.get hx.wf gq;replace hx:=hx.trans hx3;clear hx3;have qt:=row6 gt;by_cases hF:isF t sArr
  ·have hd:decide (isF t sArr)=true:=decide_eq_true hF;(try simp (config:=qZc) (disch:=first|omega|rfl) only[]);refine qZd (by simp (config:=qZc) (disch:=first|omega|rfl) only[sB,Za,hd]) ?_;(try refine qZe ?_);(try simp only[z00,z04]);have hbd:bodyF (m+1) t=subBF (bodyF m) 6 t.args:=by rw[bodyF,if_neg hn,if_neg k1,if_neg ktrue,if_neg kexc,if_neg fcol,if_neg fcma,if_pos hF]
   have hcon:=z9d hb (k:=6) (by decide) (rl.mono hx hw) hfew (fun u hu=>hlf hu) hx.wf;cases ho:subBF (bodyF m) 6 t.args with
   |none =>
    (repeat refine qZa ?_);refine EvC.regP 2 _ rfl rfl ?_;simp (config:=qZc) (disch:=first|omega|rfl) only[sB,Za,z0u,ld26,cl87,z79,t1,qt];refine EvG.toP hcon ?_;rintro e H5 ⟨hx5,he⟩;rw[ho] at he;exact⟨_,he,And.intro rfl ⟨hx.trans hx5,by rw[hbd,ho]⟩⟩
   |some bd =>
    (repeat refine qZa ?_);refine qZb ?_;simp (config:=qZc) (disch:=first|omega|rfl) only[sB,Za,z0u,ld26,cl87,t1,qt];refine EvG.toF hcon ?_;rintro e H5 ⟨hx5,he⟩;rw[ho] at he;obtain⟨out,rfl,hob⟩:=he;refine⟨_,rfl,?_⟩;obtain⟨ta,tc,sa,sc,rfl⟩:=hob.rep.eight;have gq5:=hx5.get hx.wf gq;have n5:=hx5.next;have nx:=hx.next;have lq:=hx.wf _ _ gq
    repeat' (first|(refine qZf ?_;try simp only[z06,z01])|(refine z0q ?_;simp (config:=qZc) (disch:=first|omega|rfl) only[sB,Zb,one,st45,t2,gq5]))
    refine z1b (z0a rfl (by simp only[sB,Za,t2];rfl) (by simp only[sB,Zb,cutC,ld45];rfl) ⟨(hx.trans hx5).pt (by omega) gq5 _,?_⟩);rw[hbd,ho];exact⟨_,rfl,hob.to (fun n hn hl=>⟨by have:=hn.1;rw[get_put,if_neg (by omega)],by rw[z07];exact hl⟩) fun n hn=>⟨by have:=hn.1;omega,by rw[z07];exact hn.2⟩⟩
  have farr:=hF;clear hF;have hd:decide (isF t sArr)=false:=decide_eq_false farr;(try simp (config:=qZc) (disch:=first|omega|rfl) only[]);refine qZm (by simp (config:=qZc) (disch:=first|omega|rfl) only[sB,Za,hd]) ?_;(try refine qZe ?_);(try simp only[z00,z04]);clear hd;refine EvC.frame (fun tm=>tm.get 1=some (.pointer (some ⟨H.next,0,none⟩))/\tm.get 2=some (.pointer (some ⟨H.next+1,0,none⟩))) ⟨(by simp only[sG,Za,t1]),(by simp only[sG,Za,t2])⟩ ?_;clear t1 t2 tm;rintro tm ⟨t1,t2⟩;refine EvC.cut (fun st=>∃tm' G',st=⟨tm',[],G'⟩/\tm'.get 1=some (.pointer (some ⟨H.next,0,none⟩))/\tm'.get 2=some (.pointer (some ⟨H.next+1,0,none⟩))/\tm'.get 57=some (.bool (decide (isF t sSem/\isF (t.at 0) sArr)))/\G'.get H.next=some (.row (six t a c) 28)/\G'.get (H.next+1)=some (.row zero8 45)/\HX H G') ?_ ?_
  ·refine qZb ?_;simp (config:=qZc) (disch:=first|omega|rfl) only[sB,Za,ld28,cl49,t1,qt];refine(z7q (s:=sSem) (r0.mono hx hw) hx.wf).mono ?_;clear qt;rintro v H3 ⟨rfl,hx3⟩;replace gt:=hx3.get hx.wf gt;replace gq:=hx3.get hx.wf gq;replace hx:=hx.trans hx3;clear hx3;have qt:=row6 gt;by_cases hse:isF t sSem;rotate_left
   ·have fsa:decide (isF t sSem/\isF (t.at 0) sArr)=false:=decide_eq_false fun h=>hse h.1
    have hd:decide (isF t sSem)=false:=decide_eq_false hse;(try simp (config:=qZc) (disch:=first|omega|rfl) only[sB,Za,hd,Zg]);exact⟨_,_,rfl,(by simp only[sG,Za,t1]),(by simp only[sG,Za,t2]),by rw[fsa];first|(simp only[sG,Za];rfl)|simp only[sG,Za],gt,gq,hx⟩
   have hd:decide (isF t sSem)=true:=decide_eq_true hse;obtain⟨x,y,hxy⟩:∃x y,t.args=[x,y]:=by
    match hl:t.args,hse.2.2 with
    |[x,y],_=>exact⟨x,y,rfl⟩
   have ex:t.at 0=x:=by unfold Tm.at;rw[hxy];rfl
   have hl2:t.args.length=2:=hse.2.2;have i0:t.args[0]'(by omega)=x:=by simp [hxy]
   obtain⟨b,o,a1,c1,rfl,hld0,hr0⟩:=rl.el (i:=0) (by omega);rw[i0] at hld0 hr0;simp only[ZK,Nat.add_zero,Nat.one_mul] at hld0;have l0:=hx.load hw hld0;(try simp (config:=qZc) (disch:=first|omega|rfl) only[sB,Za,Int.reduceToNat,ld28,cl49,z0u,ld26,hd,t1,qt,l0,iz26,ZK]);refine(z7q (s:=sArr) (hr0.mono hx hw) hx.wf).mono ?_;clear qt;rintro v H4 ⟨rfl,hx3⟩;have hde:decide (isF t sSem/\isF (t.at 0) sArr)=decide (isF x sArr):=by rw[ex];simp [hse]
   (try simp (config:=qZc) (disch:=first|omega|rfl) only[]);exact⟨_,_,rfl,(by simp only[sG,Za,t1]),(by simp only[sG,Za,t2]),by rw[hde];first|(simp only[sG,Za];rfl)|simp only[sG,Za],hx3.get hx.wf gt,hx3.get hx.wf gq,hx.trans hx3⟩
  clear t1 t2 tm gt gq hx qt;rintro st ⟨tm,G,rfl,t1,t2,tc,gt,gq,hx⟩;have qt:=row6 gt;by_cases fsa:isF t sSem/\isF (t.at 0) sArr
  ·have hd:decide (isF t sSem/\isF (t.at 0) sArr)=true:=decide_eq_true fsa;obtain⟨x,y,hxy⟩:∃x y,t.args=[x,y]:=by
    match hl:t.args,fsa.1.2.2 with
    |[x,y],_=>exact⟨x,y,rfl⟩
   have ex:t.at 0=x:=by unfold Tm.at;rw[hxy];rfl
   have ey:t.at 1=y:=by unfold Tm.at;rw[hxy];rfl
   have hl2:t.args.length=2:=fsa.1.2.2;have fx:isF x sArr:=ex ▸ fsa.2;obtain⟨p,q,hpq⟩:∃p q,x.args=[p,q]:=by
    match hl:x.args,fx.2.2 with
    |[p,q],_=>exact⟨p,q,rfl⟩
   have ep:(t.at 0).at 0=p:=by rw[ex];unfold Tm.at;rw[hpq];rfl
   have eq:(t.at 0).at 1=q:=by rw[ex];unfold Tm.at;rw[hpq];rfl
   have hx2:x.args.length=2:=fx.2.2;have i0:t.args[0]'(by omega)=x:=by simp [hxy]
   have i1:t.args[1]'(by omega)=y:=by simp [hxy]
   have j0:x.args[0]'(by omega)=p:=by simp [hpq]
   have j1:x.args[1]'(by omega)=q:=by simp [hpq]
   obtain⟨b,o,a1,c1,rfl,hld0,hr0⟩:=rl.el (i:=0) (by omega);obtain⟨b',o',a2,c2,e2,hld1,hr1⟩:=rl.el (i:=1) (by omega);cases e2;rw[i0] at hld0 hr0;rw[i1] at hld1 hr1;obtain⟨ax,cx,cellsx,ee,-,-,-,-,-,rlx⟩:=hr0.six;obtain⟨-,-,-,-,-,rfl,rfl⟩:=z78 ee;obtain⟨bx,ox,a3,c3,rfl,hld2,hr2⟩:=rlx.el (i:=0) (by omega);obtain⟨b'',o'',a4,c4,e4,hld3,hr3⟩:=rlx.el (i:=1) (by omega);cases e4;rw[j0] at hld2 hr2;rw[j1] at hld3 hr3;simp only[ZK,Nat.add_zero,Nat.one_mul] at hld0 hld1 hld2 hld3;have l0:=ldA5 (hx.load hw hld0);have l1:=hx.load hw hld1;have l2:=hx.load hw hld2;have l3:=hx.load hw hld3;obtain⟨L,eL⟩:∃L,six p a3 c3++six q a4 c4++six y a2 c2=L:=⟨_,rfl⟩
   obtain⟨Hq,e5⟩:∃Hq,(⟨G.next+21,G.t⟩:Heap).put (G.next+18) (some (.row L 28))=Hq:=⟨_,rfl⟩
   have hxq:HX G Hq:=by rw[<-e5];exact(((HX.refl hx.wf).bump 21).put (by omega) (by show _ < G.next+21;omega) _)
   have gL:Hq.get (G.next+18)=some (.row L 28):=by rw[<-e5,get_put,if_pos rfl]
   have gq5:=hxq.get hx.wf gq;have gt5:=hxq.get hx.wf gt;have hxf:=hx.trans hxq;have rl3:RepL Hq [p,q,y] (some ⟨G.next+18,0,none⟩) 3 (fun i=>(L.drop (i*6)).take 6):=RepL.of_row gL (fun i hi=>rfl) (fun i u hu=>by
     match i,hu with
     |0,hu=>cases hu;rw[<-eL];exact hr2.mono hxf hw
     |1,hu=>cases hu;rw[<-eL];exact hr3.mono hxf hw
     |2,hu=>cases hu;rw[<-eL];exact hr1.mono hxf hw) (Ze _) (by decide)
   have hmx:x∈t.args:=by rw[hxy];simp
   have hmy:y∈t.args:=by rw[hxy];simp
   have hcx:=z17 hc hmx;have hxl:=z0h hmx;have hcon:=z9d hb (k:=6) (by decide) rl3 (by show 3<=64;decide) (fun u hu=>by
     have hux:u∈x.args\/u=y:=by
      rw[hpq];simp only[List.mem_cons,ZF,or_false] at hu ⊢;rcases hu with h|h|h
      ·exact .inl (.inl h)
      ·exact .inl (.inr h)
      ·exact .inr h
     rcases hux with hu|rfl
     ·exact⟨by have:=z0h hu;omega,z17 hcx hu⟩
     ·exact hlf hmy) hxq.wf
   have hbd:bodyF (m+1) t=subBF (bodyF m) 6 [p,q,y]:=by rw[bodyF,if_neg hn,if_neg k1,if_neg ktrue,if_neg kexc,if_neg fcol,if_neg fcma,if_neg farr,if_pos fsa,ep,eq,ey]
   have nx:=hx.next;have lq:=hx.wf _ _ gq;have eL':=eL;simp only[six,List.cons_append,List.nil_append] at eL';have neq:(H.next+1=G.next+18)=False:=by simp;omega
   refine qZd (by simp (config:=qZc) (disch:=first|omega|rfl) only[sA,tc,hd]) ?_;(try refine qZe ?_);(try simp only[z00,z04]);cases ho:subBF (bodyF m) 6 [p,q,y] with
   |none =>
    (repeat refine qZa ?_);refine EvC.drwP 19 _ [(0,0),(1,0),(2,0),(3,0),(4,0),(5,0),(6,0),(7,0),(8,0),(9,0),(10,0),(11,0),(12,0),(13,0),(14,0),(15,0),(16,0),(17,0),(18,0)] [([],some 20),([],none)] (by kernel_rfl) (by kernel_rfl) rfl rfl ?_;simp (config:=qZc) (disch:=first|omega|rfl) only[sD,sB,Za,Zb,Value.cells,one,reduceCtorEq,Zq,layC,Int.reduceToNat,ld28,st45,z0u,ld26,cl87,zqn,isAlloc,isRead,dalloc,zmi,t1,t2,qt,l0,l1,l2,l3,iz26,ZK,Nat.one_mul,zsx,eL',e5,gq5];refine EvG.toP hcon ?_;rintro e H5 ⟨hx5,he⟩;rw[ho] at he;exact⟨_,he,And.intro rfl ⟨hxf.trans hx5,by rw[hbd,ho]⟩⟩
   |some bd =>
    (repeat refine qZa ?_);refine qZj [([(0,0),(1,0),(2,0),(3,0),(4,0),(5,0),(6,0),(7,0),(8,0),(9,0),(10,0),(11,0),(12,0),(13,0),(14,0),(15,0),(16,0),(17,0),(18,0)],some 19),([],some 20),([],none)] (by kernel_rfl) ?_;simp (config:=qZc) (disch:=first|omega|rfl) only[sD,sB,Za,Zb,Value.cells,one,reduceCtorEq,Zq,layC,Int.reduceToNat,ld28,z0u,ld26,cl87,zqn,isAlloc,isRead,dalloc,t1,qt,l0,l1,l2,l3,iz26,ZK,Nat.one_mul,eL',e5];refine EvG.toF hcon ?_;rintro e H5 ⟨hx5,he⟩;rw[ho] at he;obtain⟨out,rfl,hob⟩:=he;refine⟨_,rfl,?_⟩;obtain⟨ta,tc,sa,sc,rfl⟩:=hob.rep.eight;have gq6:=hx5.get hxq.wf gq5;have n5:=hx5.next;have nq:=hxq.next
    repeat' (first|(refine qZf ?_;try simp only[z06,z01])|(refine z0p ?_;simp (config:=qZc) (disch:=first|omega|rfl) only[sD,sB,Za,Zb,one,st45,t2,gq6]))
    refine z1b (z0a rfl (by simp only[sB,Za,t2];rfl) (by simp only[sB,Zb,cutC,ld45];rfl) ⟨(hxf.trans hx5).pt (by omega) gq6 _,?_⟩);rw[hbd,ho];exact⟨_,rfl,hob.to (fun n hn hl=>⟨by have:=hn.1;rw[get_put,if_neg (by omega)],by rw[z07];exact hl⟩) fun n hn=>⟨by have:=hn.1;omega,by rw[z07];exact hn.2⟩⟩
  have hd:decide (isF t sSem/\isF (t.at 0) sArr)=false:=decide_eq_false fsa;refine qZm (by simp (config:=qZc) (disch:=first|omega|rfl) only[sA,tc,hd]) ?_;(try refine qZe ?_);(try simp only[z00,z04]);clear tc hd;(repeat refine qZa ?_);refine qZb ?_;simp (config:=qZc) (disch:=first|omega|rfl) only[sB,Za,ld28,cl49,t1,qt];refine(z7q (s:=sSem) (r0.mono hx hw) hx.wf).mono ?_;clear qt;rintro v H3 ⟨rfl,hx3⟩;replace gt:=hx3.get hx.wf gt;replace gq:=hx3.get hx.wf gq;replace hx:=hx.trans hx3;clear hx3;have qt:=row6 gt;by_cases hF:isF t sSem
  ·have hd:decide (isF t sSem)=true:=decide_eq_true hF;(try simp (config:=qZc) (disch:=first|omega|rfl) only[]);refine qZd (by simp (config:=qZc) (disch:=first|omega|rfl) only[sB,Za,hd]) ?_;(try refine qZe ?_);(try simp only[z00,z04]);have hbd:bodyF (m+1) t=subBF (bodyF m) 5 t.args:=by rw[bodyF,if_neg hn,if_neg k1,if_neg ktrue,if_neg kexc,if_neg fcol,if_neg fcma,if_neg farr,if_neg fsa,if_pos hF]
   have hcon:=z9d hb (k:=5) (by decide) (rl.mono hx hw) hfew (fun u hu=>hlf hu) hx.wf;cases ho:subBF (bodyF m) 5 t.args with
   |none =>
    (repeat refine qZa ?_);refine EvC.regP 2 _ rfl rfl ?_;simp (config:=qZc) (disch:=first|omega|rfl) only[sB,Za,z0u,ld26,cl87,z79,t1,qt];refine EvG.toP hcon ?_;rintro e H5 ⟨hx5,he⟩;rw[ho] at he;exact⟨_,he,And.intro rfl ⟨hx.trans hx5,by rw[hbd,ho]⟩⟩
   |some bd =>
    (repeat refine qZa ?_);refine qZb ?_;simp (config:=qZc) (disch:=first|omega|rfl) only[sB,Za,z0u,ld26,cl87,t1,qt];refine EvG.toF hcon ?_;rintro e H5 ⟨hx5,he⟩;rw[ho] at he;obtain⟨out,rfl,hob⟩:=he;refine⟨_,rfl,?_⟩;obtain⟨ta,tc,sa,sc,rfl⟩:=hob.rep.eight;have gq5:=hx5.get hx.wf gq;have n5:=hx5.next;have nx:=hx.next;have lq:=hx.wf _ _ gq
    repeat' (first|(refine qZf ?_;try simp only[z06,z01])|(refine z0q ?_;simp (config:=qZc) (disch:=first|omega|rfl) only[sB,Zb,one,st45,t2,gq5]))
    refine z1b (z0a rfl (by simp only[sB,Za,t2];rfl) (by simp only[sB,Zb,cutC,ld45];rfl) ⟨(hx.trans hx5).pt (by omega) gq5 _,?_⟩);rw[hbd,ho];exact⟨_,rfl,hob.to (fun n hn hl=>⟨by have:=hn.1;rw[get_put,if_neg (by omega)],by rw[z07];exact hl⟩) fun n hn=>⟨by have:=hn.1;omega,by rw[z07];exact hn.2⟩⟩
  have fsem:=hF;clear hF;have hd:decide (isF t sSem)=false:=decide_eq_false fsem;(try simp (config:=qZc) (disch:=first|omega|rfl) only[]);refine qZm (by simp (config:=qZc) (disch:=first|omega|rfl) only[sB,Za,hd]) ?_;(try refine qZe ?_);(try simp only[z00,z04]);clear hd;have hbd:bodyF (m+1) t=some (.mk 3 t []):=by rw[bodyF,if_neg hn,if_neg k1,if_neg ktrue,if_neg kexc,if_neg fcol,if_neg fcma,if_neg farr,if_neg fsa,if_neg fsem]
  exact⟨_,_,rfl,(by simp only[sG,Za,t1]),(by simp only[sG,Za,t2]),gt,gq,hx,hbd⟩
theorem zbz:∀m:Nat,BodyP m
 |0=>fun h=>absurd h (Nat.not_lt_zero _)
 |m+1=>fun hs r hc hw=>zms (zbz m) hs r hc hw
end Go.Proofs.hq
end

section
namespace Go.Proofs.hq
open Go Go.RowKit Go.Hb
inductive RepBI (H:Heap) (S:Nat->Prop):Bdy->List Value->Prop
 |mk (k:Int) (t:Tm) (l:List Bdy) (cs:List Value) (a:Option Addr) (c:Nat) (cells:Nat->List Value):i64 k->RepS H S t cs->l.length<=c->c<=maxLen->(a=none->l=[]/\c=0) ->
   (∀i ad,i < l.length->a=some ad->ad.spot=none/\S ad.block/\ad.block < H.next/\H.load ⟨ad.block,ad.off+i*8,none⟩ 8=some (cells i))->(∀i u,l[i]?=some u->RepBI H S u (cells i)) ->
   RepBI H S (.mk k t l) (eight k cs a l.length c)
theorem z9e {H G:Heap}{b o n:Nat}(h:G.get b=H.get b):G.load ⟨b,o,none⟩ n=H.load ⟨b,o,none⟩ n:=by
 unfold Heap.load Heap.cells;simp only[h]
section
variable {H H':Heap}{S S':Nat->Prop}{u:Bdy}{cs:List Value}
theorem RepBI.rep (h:RepBI H S u cs):RepB H u cs:=by
 induction h with
 |mk k t l ts a c cells h1 h2 h3 h4 h5 h6 h7 ih=>exact .mk k t l ts a c cells h1 h2.rep h3 h4 h5 (fun i ad hi ha=>⟨(h6 i ad hi ha).1,(h6 i ad hi ha).2.2.2⟩) ih
theorem RepBI.to (h:RepBI H S u cs) (hk:∀n,S n->n < H.next->H'.get n=H.get n/\S' n/\n < H'.next):RepBI H' S' u cs:=by
 induction h with
 |mk k t l ts a c cells h1 h2 h3 h4 h5 h6 h7 ih =>
  refine .mk k t l ts a c cells h1 (h2.to hk) h3 h4 h5 (fun i ad hi ha=>?_) ih;obtain⟨p1,p2,p3,p4⟩:=h6 i ad hi ha;obtain⟨k1,k2,k3⟩:=hk _ p2 p3;exact⟨p1,k2,k3,by rw[z9e k1];exact p4⟩
theorem RepBI.inv (h:RepBI H S u cs):∃(ta:Option Addr) (tc:Nat) (a:Option Addr) (c:Nat) (cells:Nat->List Value),cs=eightT u.kind u.term ta tc a u.sub.length c/\i64 u.kind/\RepS H S u.term (six u.term ta tc)/\u.sub.length<=c/\c<=maxLen /\
  ∀i (hi:i < u.sub.length),∃b o,a=some ⟨b,o,none⟩/\S b/\b < H.next/\H.load ⟨b,o+i*8,none⟩ 8=some (cells i)/\RepBI H S u.sub[i] (cells i):=by
 cases h with
 |mk k t l ts a c cells h1 h2 h3 h4 h5 h6 h7 =>
  obtain⟨ta,tc,cellst,rfl,-⟩:=h2.rep.inv;refine⟨ta,tc,a,c,cells,rfl,h1,h2,h3,h4,fun i hi=>?_⟩;cases a with
  |none=>obtain⟨rfl,_⟩:=h5 rfl;exact absurd hi (Nat.not_lt_zero _)
  |some ad =>
   obtain⟨p1,p2,p3,p4⟩:=h6 i ad hi rfl;obtain⟨b,o,s⟩:=ad;obtain rfl:s=none:=p1;exact⟨b,o,rfl,p2,p3,p4,h7 i _ (Zc hi)⟩
theorem OB.bi {TB TT:TypeId}(h:OB H TB TT S u cs):RepBI H S u cs:=by
 induction h with
 |leaf S k t cs h1 h2 h3=>exact .mk k t [] cs none 0 (fun _=>[]) h1 h2 (Ze _) (Zl _) (fun _=>⟨rfl,rfl⟩) (fun i ad hi=>by simp at hi) (fun i u hu=>by simp at hu)
 |node S k t cs l b c cells Si h1 h2 h3 h4 h5 h6 h7 h8 h9 h10 h11 h12 h13 ih =>
  refine .mk k t l cs (some ⟨b,0,none⟩) c (fun i=>(cells.drop (i*8)).take 8) h1 h2 h4 h5 (fun h=>by cases h) (fun i ad hi ha=>?_) (fun i u hu=>(ih i u hu).to fun n hn hl=>⟨rfl,h12 i n (List.getElem?_eq_some_iff.1 hu).1 hn,hl⟩);cases ha;refine⟨rfl,h7,h8,?_⟩;have hle:i*8+8<=l.length*8:=by omega
  unfold Heap.load Heap.cells;simp only[h6,ZP];rw[if_pos (by rw[Zt,Zo,List.length_drop];omega)]
end
theorem RepT.toS {H:Heap}{t:Tm}{cs:List Value}(hw:H.wf) (r:RepT H t cs):RepS H (fun n=>n < H.next) t cs:=by
 intro G hG
 induction r with
 |mk k s u b v l a c cells h1 h2 h3 h4 h5 h6 h7 h8 h9 h10 h11 ih =>
  refine .mk k s u b v l a c cells h1 h2 h3 h4 h5 h6 h7 h8 h9 (fun i ad hi ha=>⟨(h10 i ad hi ha).1,?_⟩) ih;have h:=(h10 i ad hi ha).2;have hl:=zby hw h;rw[z9e (hG _ hl hl)];exact h
theorem RepB.bi {H:Heap}{u:Bdy}{cs:List Value}(hw:H.wf) (r:RepB H u cs):RepBI H (fun n=>n < H.next) u cs:=by
 induction r with
 |mk k t l ts a c cells h1 h2 h3 h4 h5 h6 h7 ih =>
  refine .mk k t l ts a c cells h1 (RepT.toS hw h2) h3 h4 h5 (fun i ad hi ha=>?_) ih;obtain⟨p1,p2⟩:=h6 i ad hi ha;have hl:=zby hw p2;exact⟨p1,hl,hl,p2⟩
inductive FewB (n:Nat):Bdy->Prop
 |mk {b:Bdy}:b.sub.length<=n->Few n b.term->(∀u∈b.sub,FewB n u)->FewB n b
theorem FewB.len {n:Nat}{b:Bdy}(h:FewB n b):b.sub.length<=n:=by cases h;assumption
theorem FewB.term {n:Nat}{b:Bdy}(h:FewB n b):Few n b.term:=by cases h;assumption
theorem FewB.sub {n:Nat}{b:Bdy}(h:FewB n b):∀u∈b.sub,FewB n u:=by cases h;assumption
def LT (H:Heap) (T:TypeId) (E:Nat->Prop) (l:List Tm) (a:Option Addr) (c:Nat):Prop :=
 (l=[]/\a=none/\c=0)\/∃(b:Nat) (cells:List Value),a=some ⟨b,0,none⟩/\l.length<=c/\c<=maxLen/\H.get b=some (.row cells T)/\¬E b/\b < H.next/\l.length*6<=cells.length/\∀i u,l[i]?=some u->RepS H E u ((cells.drop (i*6)).take 6)
section
variable {H H':Heap}{T:TypeId}{E E':Nat->Prop}{l:List Tm}{a:Option Addr}{c:Nat}
theorem LT.nil:LT H T E [] none 0:=.inl ⟨rfl,rfl,rfl⟩
theorem LT.to (h:LT H T E l a c) (hk:∀n,E n\/a=some ⟨n,0,none⟩->n < H.next->H'.get n=H.get n) (hn:H.next<=H'.next) (hs:∀n,E n->E' n) (hne:∀n,a=some ⟨n,0,none⟩->¬E' n):LT H' T E' l a c:=by
 rcases h with h|⟨b,cells,rfl,h1,h2,h3,h4,h5,h6,h7⟩
 ·exact .inl h
 ·exact .inr ⟨b,cells,rfl,h1,h2,(hk b (.inr rfl) h5).trans h3,hne b rfl,Zi h5 hn,h6,fun i u hu=>(h7 i u hu).to fun n hn' hl=>⟨hk n (.inl hn') hl,hs n hn',Zi hl hn⟩⟩
theorem zun {cells:List Value}{i n:Nat}(h:i < n) (vs:List Value) (hn:n*6<=cells.length):((cells.take (n*6)++vs).drop (i*6)).take 6=(cells.drop (i*6)).take 6:=by
 have h1:(cells.take (n*6)).length=n*6:=by rw[Zo];omega
 rw[List.drop_append_of_le_length (by omega),List.take_append_of_le_length (by rw[List.length_drop];omega),List.drop_take,List.take_take];congr 1;omega
theorem LT.push {P:Program}{t:TypeId}(hp:apOk P t T 6) {E2:Nat->Prop}{u:Tm}{cs:List Value}{c1:Nat}{ad:Addr}(h:LT H T E l a c) (hw:H.wf) (hl:H.load ad (1*6)=some cs) (hu:RepS H E2 u cs) (hE:∀n,E2 n->a≠some ⟨n,0,none⟩)
  (hEl:∀n,E n->n < H.next) (hE2l:∀n,E2 n->n < H.next) (hm:l.length+1<=most) (h2:∀n,E n\/E2 n->E' n) (hnew:¬E' H.next) :
  ∃H2,dAp P #[t,t] (.slice a l.length c) (.slice (some ad) 1 c1) H=some (.val (.slice (some ⟨H.next,0,none⟩) (l.length+1) (l.length+1)) H2)/\LT H2 T E' (l++[u]) (some ⟨H.next,0,none⟩) (l.length+1)/\HK (fun n=>a=some ⟨n,0,none⟩) H H2/\H2.next=H.next+1:=by
 have hmax:l.length+1<=maxLen:=Zj hm (by simp [most,maxLen]);obtain⟨hone,hlen⟩:=zfg hu.rep;rcases h with ⟨rfl,rfl,rfl⟩|⟨b,cells,rfl,h1,h2',h3,h4,h5,h6,h7⟩
 ·have hx:=(HX.refl hw).new (some (.row cs T));refine⟨_,z47 hp (by omega) hm hl hone,?_,hx.hk _,rfl⟩;refine .inr ⟨H.next,cs,rfl,Ze _,hmax,z0n,hnew,Zf _,by simp [hlen],fun i v hv=>?_⟩
  match i,hv with
  |0,hv =>
   cases hv;rw[ZK,List.drop_zero,Zm (by omega)];exact hu.to fun n hn hl=>⟨hx.keep n hl,h2 n (.inr hn),Nat.lt_succ_of_lt hl⟩
 ·have hcells:(cells.take (l.length*6)).all one=true:=z5x _ h6 fun i hi=>(zfg (h7 i _ (Zc hi)).rep).1
  have hk:HK (fun n=>some (⟨b,0,none⟩:Addr)=some ⟨n,0,none⟩) H ((H.put b none).new (some (.row (cells.take (l.length*6)++cs) T))):=((HK.refl (S:=fun n=>some (⟨b,0,none⟩:Addr)=some ⟨n,0,none⟩) hw).put (.inl rfl) h5 none).new _;have hkeep:∀n,n < H.next->n≠b->((H.put b none).new (some (.row (cells.take (l.length*6)++cs) T))).get n=H.get n:=fun n hn hne=>by
   rw[z1k (by rw[z07];exact hn),z2r hne]
  refine⟨_,z3k hp (by omega) hm hl hone h3 h6 hcells,?_,hk,rfl⟩;have htl:(cells.take (l.length*6)).length=l.length*6:=by rw[Zo];omega
  refine .inr ⟨H.next,cells.take (l.length*6)++cs,rfl,by simp,hmax,z0n,hnew,Zf _,by simp [hlen,htl];omega,fun i v hv=>?_⟩;by_cases hi:i < l.length
  ·rw[Zz hi] at hv;rw[zun hi _ h6];exact(h7 i v hv).to fun n hn hl=>⟨hkeep n hl fun e=>h4 (e ▸ hn),h2 n (.inl hn),Nat.lt_succ_of_lt hl⟩
  ·have hil:i=l.length:=by
    have:=(List.getElem?_eq_some_iff.1 hv).1;simp at this;omega
   subst hil;simp at hv;subst hv;have e8:((cells.take (l.length*6)++cs).drop (l.length*6)).take 6=cs:=by rw[List.drop_left' htl,Zm (by omega)]
   rw[e8];exact hu.to fun n hn hl=>⟨hkeep n hl fun e=>hE n hn (by rw[e]),h2 n (.inr hn),Nat.lt_succ_of_lt hl⟩
theorem LT.repL (h:LT H T E l a c):∃cells,RepL H l a c cells/\∀i u,l[i]?=some u->RepS H E u (cells i):=by
 rcases h with ⟨rfl,rfl,rfl⟩|⟨b,cells,rfl,h1,h2,h3,h4,h5,h6,h7⟩
 ·exact⟨fun _=>[],⟨Ze _,Zl _,fun _=>⟨rfl,rfl⟩,(fun i ad hi=>by simp at hi),(fun i u hu=>by simp at hu)⟩,(fun i u hu=>by simp at hu)⟩
 ·exact⟨fun i=>(cells.drop (i*6)).take 6,RepL.of_row h3 (fun i hi=>rfl) (fun i u hu=>(h7 i u hu).rep) h1 h2,h7⟩
theorem LT.comp {s:ByteArray}(h:LT H T E l a c) (hs:s.size<=maxLen) (he:∀n,E n->E' n) (hb:∀n,a=some ⟨n,0,none⟩->E' n) (hm:c<=maxLen):RepS H E' (cmpT s l) (six (cmpT s l) a c):=by
 rcases h with ⟨rfl,rfl,rfl⟩|⟨b,cells,rfl,h1,h2,h3,h4,h5,h6,h7⟩
 ·exact RepS.leaf (zdw hs) rfl (Zl _) fun _=>rfl
 ·exact RepS.row (t:=cmpT s l) (zdw hs) rfl h3 (hb b rfl) h5 h6 h1 h2 fun j hj=>(h7 j _ (Zc hj)).to fun n hn hl=>⟨rfl,he n hn,hl⟩
end
end Go.Proofs.hq
end

section
namespace Go.Proofs.hq
open Go Go.RowKit Go.Hb
variable {ok:Ok}
set_option maxRecDepth 10000
attribute [local irreducible] LX LG EL STG SOP SGO SGD SAL SRD SEF SEG SLK SCK ES
theorem zji {k:Int}{t:Tm}{l:List Tm}(h2:k≠2) (h3:k≠3) (h4:¬(k=4/\l.length=2)) (h5:¬(k=5/\l.length=2)) (h6:¬(k=6/\l.length=2)) (h6':¬(k=6/\l.length=3)) (h7:¬(k=7/\l.length=1)):tellB k t l=atmT sTrue:=by
 unfold tellB;rw[if_neg h2,if_neg h3,if_neg h4,if_neg h5,if_neg h6,if_neg h6',if_neg h7]
theorem z4e {H:Heap}{S:Nat->Prop}{s:ByteArray}(h:s.size<=maxLen):RepS H S (atmT s) (six (atmT s) none 0) :=
 RepS.leaf ⟨by show i64 2;decide,h,by show ByteArray.empty.size<=_;decide,by show u64 0;decide,by show i64 0;decide⟩ rfl (Zl _) fun _=>rfl
theorem z6u {H:Heap}{S:Nat->Prop}{s:ByteArray}{x y:Tm}{a a':Option Addr}{c c' b:Nat}(hs:s.size<=maxLen) (hg:H.get b=some (.row (six x a c++six y a' c') 28)) (hS:S b) (hw:H.wf) (hx:RepS H S x (six x a c)) (hy:RepS H S y (six y a' c')) :
  RepS H S (cmpT s [x,y]) (six (cmpT s [x,y]) (some ⟨b,0,none⟩) 2) :=
 RepS.row (t:=cmpT s [x,y]) (zdw hs) rfl hg hS (hw _ _ hg) (Ze _) (Ze _) (by decide) fun j hj=>by
  match j,hj with
  |0,_=>exact hx
  |1,_=>exact hy
theorem LT.el {H:Heap}{T:TypeId}{E:Nat->Prop}{l:List Tm}{a:Option Addr}{c:Nat}(h:LT H T E l a c) {i:Nat}(hi:i < l.length) :
  ∃b a' c',a=some ⟨b,0,none⟩/\H.load ⟨b,i*6,none⟩ 6=some (six l[i] a' c')/\RepS H E l[i] (six l[i] a' c')/\b < H.next:=by
 rcases h with ⟨rfl,-,-⟩|⟨b,cells,rfl,h1,h2,h3,h4,h5,h6,h7⟩
 ·exact absurd hi (Nat.not_lt_zero _)
 ·have hr:=h7 i _ (Zc hi);obtain⟨a',c',cells',e,-⟩:=hr.rep.six;refine⟨b,a',c',rfl,?_,e ▸ hr,h5⟩;unfold Heap.load Heap.cells;simp only[h3,e];rfl
set_option maxHeartbeats 16000000 in
theorem zc0 {m:Nat}:∀{u:Bdy}{cs:List Value}{S:Nat->Prop}{H:Heap},SizeOf.sizeOf u < m->RepBI H S u cs->FewB 1000000 u->(∀n,S n->n < H.next)->H.wf ->
  EvF Tryz.prog okT 53 [.agg ⟨cs⟩] H fun v H'=>HX H H'/\∃out,v=.agg ⟨out⟩/\RepS H' (fun n=>S n\/(H.next<=n/\n < H'.next)) (toldB u) out:=by
 induction m with
 |zero=>intro u cs S H h;omega
 |succ m ih =>
 intro u cs S H hsz r hfew hS hw;have hlen:=hfew.len;have ean:apOk Tryz.prog 26 28 6:=ap26;obtain⟨ta,tc,a,c,cells,rfl,hk,hr,hlc,hcm,hel⟩:=r.inv;refine EvF.enter rfl Tryz.func53 (by decide) rfl ?_;(repeat refine qZa ?_);refine qZb ?_;simp (config:=qZc) (disch:=first|omega|rfl) only[sB,initTm,dBox,dAlloc,Value.cells,one,zr28];obtain⟨H2,e2,hx2,gb,gq,hn2,hw2⟩:=new2 hw (.row (eightT u.kind u.term ta tc a u.sub.length c) 45) (.row zero6 28);simp only[e2];clear e2;have qb:=row8 gb;have hmx:u.sub.length<=9223372036854775807:=by omega
 (repeat refine qZa ?_);refine qZb ?_;simp (config:=qZc) (disch:=first|omega|rfl) only[sA];(repeat refine qZa ?_);refine qZb ?_;simp (config:=qZc) (disch:=first|omega|rfl) only[sB,Za,reduceCtorEq,z29,ld43,ln43,qb];refine EvC.join (fun st=>∃tm G ao co,st=⟨tm,[],G⟩/\tm.get 1=some (.pointer (some ⟨H.next,0,none⟩))/\tm.get 2=some (.pointer (some ⟨H.next+1,0,none⟩))/\tm.get 3=some (.slice ao u.sub.length co) /\
  G.get H.next=some (.row (eightT u.kind u.term ta tc a u.sub.length c) 45)/\G.get (H.next+1)=some (.row zero6 28) /\
  LT G 28 (fun n=>(S n\/(H.next+2<=n/\n < G.next))/\ao≠some ⟨n,0,none⟩) (u.sub.map toldB) ao co/\(∀n,ao=some ⟨n,0,none⟩->H.next+2<=n/\n < G.next)/\HX H G) ?_ ?_
 ·refine qZg (qZk (fun k' st=>∃tm G i ao co,st=⟨tm,[],G⟩/\k'=u.sub.length - i/\i<=u.sub.length/\tm.get 1=some (.pointer (some ⟨H.next,0,none⟩))/\tm.get 2=some (.pointer (some ⟨H.next+1,0,none⟩))/\tm.get 3=some (.slice ao i co) /\
   tm.get 7=some (.slice a u.sub.length c)/\tm.get 8=some (.int .i64 u.sub.length)/\tm.get 9=some (.int .i64 (i:Nat)) /\
   G.get H.next=some (.row (eightT u.kind u.term ta tc a u.sub.length c) 45)/\G.get (H.next+1)=some (.row zero6 28) /\
   LT G 28 (fun n=>(S n\/(H.next+2<=n/\n < G.next))/\ao≠some ⟨n,0,none⟩) ((u.sub.take i).map toldB) ao co/\(∀n,ao=some ⟨n,0,none⟩->H.next+2<=n/\n < G.next)/\HX H G) ?_ u.sub.length _ ?_)
  rotate_left
  ·exact⟨_,_,0,none,0,rfl,rfl,Zl _,(by simp only[sG,Za,reduceCtorEq]),(by simp only[sG,Za,reduceCtorEq]),(by simp only[sG,Za,reduceCtorEq]),(by simp only[sG,Za,reduceCtorEq]),(by simp only[sG,Za,reduceCtorEq]),(by simp only[sB,Za,reduceCtorEq];rfl),gb,gq,.nil,fun n h=>(by cases h),hx2⟩
  rintro k' st ⟨tm,G,i,ao,co,rfl,rfl,hi,t1,t2,t3,t7,t8,t9,gbG,gqG,hlt',hao,hxG⟩;have hwG:=hxG.wf;by_cases hlt:i < u.sub.length;rotate_left
  ·repeat' (first|refine qZa ?_|(refine qZi ?_;try simp only[sB])|(refine qZb ?_;simp (config:=qZc) (disch:=first|omega|rfl) only[sA,t8,t9,decn hlt])|(refine qZm ?_ ?_;simp (config:=qZc) (disch:=first|omega|rfl) only[sB];refine z02 ?_))
   obtain rfl:i=u.sub.length:=by omega
   rw[List.take_length] at hlt';exact⟨_,_,ao,co,rfl,(by simp only[sG,Za,t1]),(by simp only[sG,Za,t2]),(by simp only[sG,Za,t3]),gbG,gqG,hlt',hao,hxG⟩
  obtain⟨b,o,rfl,hSb,hbl,hld,hri⟩:=hel i hlt;obtain⟨ta1,tc1,a1,c1,cells1,e1,-⟩:=hri.inv;rw[e1] at hld hri;have hld1:=hxG.load hw hld;(repeat refine qZa ?_);refine qZb ?_;simp (config:=qZc) (disch:=first|omega|rfl) only[sA,t8,t9,decl hlt];(repeat refine qZa ?_);refine qZd (by simp (config:=qZc) (disch:=first|omega|rfl) only[sB]) ?_;(try refine qZe ?_);(try simp only[z00,z04]);refine qZa ?_;refine qZg ?_;(repeat refine qZa ?_);refine qZb ?_;simp (config:=qZc) (disch:=first|omega|rfl) only[sB,dAlloc,Za,Zb,one,ia43,ld45,zr45,st45,t7,t9,hld1];obtain⟨H4,e4,hx4,g5,hn4,hw4⟩:=z0m hwG (.row zero8 45) (.row (eightT u.sub[i].kind u.sub[i].term ta1 tc1 a1 u.sub[i].sub.length c1) 45);simp only[e4];clear e4;have q5:=row8 g5;have hxf:=hxG.trans hx4;refine qZb ?_;simp (config:=qZc) (disch:=first|omega|rfl) only[sB,Za,Zb,Value.cells,layC,ld45,cl53,zah,t3,q5];have hsz1:=Bdy.size u u.sub[i] (Zu _)
  refine(ih (u:=u.sub[i]) (by omega) (hri.to fun n hn hl=>⟨hxf.keep n hl,hn,Zi hl hxf.next⟩) (hfew.sub _ (Zu _)) (fun n hn=>Zi (hS n hn) hxf.next) hw4).mono ?_;rintro v H5 ⟨hx5,out,rfl,hrep⟩;obtain⟨t6,k6,cells6,rfl,-⟩:=hrep.rep.six;(try simp (config:=qZc) (disch:=first|omega|rfl) only[sB,Za,Zb,one]);obtain⟨H6,e6,hx6,g6,hn6,hw6⟩:=new1 hx5.wf (.row (six (toldB u.sub[i]) t6 k6) 28);simp only[e6];clear e6;have hx46:=hx4.trans (hx5.trans hx6);have n4:=hx4.next;have n5:=hx5.next;have nG:=hxG.next;have lqG:=hwG _ _ gqG;have etl:((u.sub.take i).map toldB).length=i:=by rw[Zp,Zo];omega
  obtain⟨H7,e7,hlt7,hk7,hn7⟩:=LT.push (P:=Tryz.prog) (t:=26) (E':=fun n=>(S n\/(H.next+2<=n/\n < H6.next+1))/\(some ⟨H6.next,0,none⟩:Option Addr)≠some ⟨n,0,none⟩) (E2:=fun n=>S n\/(H4.next<=n/\n < H5.next)) (u:=toldB u.sub[i]) (c1:=1) ean
   (hlt'.to (H':=H6) (E':=fun n=>(S n\/(H.next+2<=n/\n < G.next))/\ao≠some ⟨n,0,none⟩) (fun n _ hl=>hx46.keep n hl) hx46.next (fun n hn=>hn) fun n hn h=>h.2 hn) hw6 (ld1 g6 rfl) (hrep.to fun n hn hl=>⟨hx6.keep n hl,hn,by omega⟩)
   (fun n hn ha=>by
    have h1:=hao n ha;rcases hn with hn|hn
    ·have:=hS n hn;omega
    ·omega) (fun n hn=>by
    rcases hn.1 with h|h
    ·have:=hS n h;omega
    ·omega) (fun n hn=>by
    rcases hn with h|h
    ·have:=hS n h;omega
    ·omega) (by rw[etl];unfold most;omega) (fun n hn=>by
    rcases hn with ⟨h,_⟩|h
    ·refine⟨h.imp_right fun h=>⟨h.1,by omega⟩,fun e=>?_⟩;injection e with e;injection e with e;rcases h with h|h
     ·have:=hS n h;omega
     ·omega
    ·refine⟨h.imp_right fun h=>⟨by omega,by omega⟩,fun e=>?_⟩;injection e with e;injection e with e;rcases h with h|h
     ·have:=hS n h;omega
     ·omega) (fun h=>h.2 rfl)
  rw[etl] at e7 hlt7;have ha1:ao≠some ⟨H.next,0,none⟩:=fun h=>by have:=hao _ h;omega
  have ha2:ao≠some ⟨H.next+1,0,none⟩:=fun h=>by have:=hao _ h;omega
  have gb7:=hk7.get hw6 (hx46.get hwG gbG) ha1;have gq7:=hk7.get hw6 (hx46.get hwG gqG) ha2;have hx7:HX H H7:=(hxG.trans hx46).then hk7 fun n hn h=>by have:=hao _ h;omega
  repeat' (first|(refine qZb ?_;simp (config:=qZc) (disch:=first|omega|rfl) only[sB,Za,t9,z0c])|(refine z0q ?_;simp (config:=qZc) (disch:=first|omega|rfl) only[sB,Za,e7]))
  refine⟨u.sub.length - (i+1),by omega,_,_,i+1,some ⟨H6.next,0,none⟩,i+1,rfl,rfl,by omega,(by simp only[sG,Za,t1]),(by simp only[sG,Za,t2]),(by simp only[sG,Za]),(by simp only[sG,Za,t7]),(by simp only[sG,Za,t8]),(by simp only[sB,Za];rfl),gb7,gq7,?_,fun n h=>by injection h with h;injection h with h;omega,hx7⟩;rw[<-List.take_append_getElem hlt,ZI,hn7];exact hlt7
 rintro st ⟨tm,G,ao,co,rfl,t1,t2,t3,gb,gq,hlt',hao,hxG⟩;have qb:=row8 gb;have htold:=z2o u;have hll:(u.sub.map toldB).length=u.sub.length:=Zp _;have hww:=hxG.wf;have lq:=hww _ _ gq;have hcm':co<=maxLen:=by
  rcases hlt' with ⟨-,-,rfl⟩|⟨b,cells,-,-,h,-⟩
  ·exact Zl _
  ·exact h
 have hrG:RepS G S u.term (six u.term ta tc):=hr.to fun n hn hl=>⟨hxG.keep n hl,hn,Zi hl hxG.next⟩
 simp only[z00];(repeat refine qZa ?_);refine qZg ?_;generalize hL:u.sub.map toldB=L at htold hll hlt';by_cases k2:u.kind=2
 ·(repeat refine qZa ?_);refine qZb ?_;simp (config:=qZc) (disch:=first|omega|rfl) only[sB,Za,z14,ld3,t1,qb,z0l k2];refine qZd (by simp (config:=qZc) (disch:=first|omega|rfl) only[sB,Za]) ?_;(try refine qZe ?_);(try simp only[z00,z04]);(repeat refine qZa ?_);refine qZb ?_;simp (config:=qZc) (disch:=first|omega|rfl) only[sB,Za,cl48];refine(z4d hww).mono ?_;rintro v H5 ⟨rfl,hx5⟩;have n5:=hx5.next;have nG:=hxG.next;have gq5:=hx5.get hww gq
  repeat' (first|(refine qZf ?_;try simp only[z06,z01])|(refine z0q ?_;simp (config:=qZc) (disch:=first|omega|rfl) only[sB,Zb,one,st28,t2,gq5]))
  refine z0a rfl (by simp only[sB,Za,t2];rfl) (by simp only[sB,Zb,cutC,ld28];rfl) ⟨(hxG.trans hx5).pt (by omega) gq5 _,_,rfl,?_⟩;rw[htold,tellB,if_pos k2];exact z4e (by decide)
 (repeat refine qZa ?_);refine qZb ?_;simp (config:=qZc) (disch:=first|omega|rfl) only[sB,Za,z14,ld3,t1,qb,z0g k2];refine qZm (by simp (config:=qZc) (disch:=first|omega|rfl) only[sB,Za]) ?_;(try refine qZe ?_);(try simp only[z00,z04]);refine EvC.frame (fun tm=>tm.get 1=some (.pointer (some ⟨H.next,0,none⟩))/\tm.get 2=some (.pointer (some ⟨H.next+1,0,none⟩))/\tm.get 3=some (.slice ao u.sub.length co)) ⟨(by simp only[sG,Za,t1]),(by simp only[sG,Za,t2]),(by simp only[sG,Za,t3])⟩ ?_;clear t1 t2 t3 tm;rintro tm ⟨t1,t2,t3⟩;by_cases k3:u.kind=3
 ·(repeat refine qZa ?_);refine qZb ?_;simp (config:=qZc) (disch:=first|omega|rfl) only[sB,Za,z14,ld3,t1,qb,z0l k3];refine qZd (by simp (config:=qZc) (disch:=first|omega|rfl) only[sB,Za]) ?_;(try refine qZe ?_);(try simp only[z00,z04]);have nG:=hxG.next
  repeat' (first|refine qZa ?_|(refine qZf ?_;try simp only[z06,z01])|(refine qZb ?_;simp (config:=qZc) (disch:=first|omega|rfl) only[sB,Za,Zb,one,st28,z5l,ld28,t1,t2,qb,gq]))
  refine z0a rfl (by simp only[sB,Za,t2];rfl) (by simp only[sB,Zb,cutC,ld28];rfl) ⟨hxG.pt (by omega) gq _,_,rfl,?_⟩;rw[htold,tellB,if_neg k2,if_pos k3];refine hrG.to fun n hn hl=>?_
  have:=hS n hn;exact⟨by rw[get_put,if_neg (by omega)],.inl hn,by rw[z07];exact hl⟩
 (repeat refine qZa ?_);refine qZb ?_;simp (config:=qZc) (disch:=first|omega|rfl) only[sB,Za,z14,ld3,t1,qb,z0g k3];refine qZm (by simp (config:=qZc) (disch:=first|omega|rfl) only[sB,Za]) ?_;(try refine qZe ?_);(try simp only[z00,z04]);refine EvC.frame (fun tm=>tm.get 1=some (.pointer (some ⟨H.next,0,none⟩))/\tm.get 2=some (.pointer (some ⟨H.next+1,0,none⟩))/\tm.get 3=some (.slice ao u.sub.length co)) ⟨(by simp only[sG,Za,t1]),(by simp only[sG,Za,t2]),(by simp only[sG,Za,t3])⟩ ?_;clear t1 t2 t3 tm;rintro tm ⟨t1,t2,t3⟩;by_cases k4:u.kind=4/\L.length=2
 ·have hl':(u.sub.length:Int)=2:=by omega
  (repeat refine qZa ?_);refine qZb ?_;simp (config:=qZc) (disch:=first|omega|rfl) only[sB,Za,z14,ld3,ln26,t1,t3,qb,z0l k4.1,z0l hl'];refine qZd (by simp (config:=qZc) (disch:=first|omega|rfl) only[sB,Za]) ?_;(try refine qZe ?_);(try simp only[z00,z04]);(repeat refine qZa ?_);refine qZb ?_;simp (config:=qZc) (disch:=first|omega|rfl) only[sB,Za,cl34,t3];refine(z2p hww).mono ?_;rintro v H5 ⟨rfl,hx5⟩;have n5:=hx5.next;have nG:=hxG.next;have gq5:=hx5.get hww gq
  repeat' (first|(refine qZf ?_;try simp only[z06,z01])|(refine z0q ?_;simp (config:=qZc) (disch:=first|omega|rfl) only[sB,Zb,one,st28,t2,gq5]))
  refine z0a rfl (by simp only[sB,Za,t2];rfl) (by simp only[sB,Zb,cutC,ld28];rfl) ⟨(hxG.trans hx5).pt (by omega) gq5 _,_,rfl,?_⟩;rw[htold,tellB,if_neg k2,if_neg k3,if_pos k4];have hcmp:RepS G (fun n=>S n\/(H.next+2<=n/\n < G.next)) (cmpT sCma L) (six (cmpT sCma L) ao co):=hlt'.comp (by decide) (fun n hn=>hn.1) (fun n hn=>.inr (hao n hn)) hcm';have e6:six (cmpT sCma L) ao co=[.int .i64 5,.string sCma,.string Zd,.int .u64 0,.int .i64 0,.slice ao u.sub.length co]:=by show [_,_,_,_,_,Value.slice ao L.length co]=_;rw[hll];rfl
  rw[e6] at hcmp;refine hcmp.to fun n hn hl=>?_
  have hne:n≠H.next+1:=by
   rcases hn with h|h
   ·have:=hS n h;omega
   ·omega
  exact⟨by rw[get_put,if_neg hne];exact hx5.keep n hl,hn.imp_right fun h=>⟨by omega,by rw[z07];omega⟩,by rw[z07];omega⟩
 refine EvC.cut (fun st=>∃tm',st=⟨tm',[],G⟩/\tm'.get 1=some (.pointer (some ⟨H.next,0,none⟩))/\tm'.get 2=some (.pointer (some ⟨H.next+1,0,none⟩))/\tm'.get 3=some (.slice ao u.sub.length co)/\tm'.get 30=some (.bool false)) ?_ ?_
 ·by_cases kk:u.kind=4
  ·have hl':(u.sub.length:Int)≠2:=fun h=>k4 ⟨kk,by omega⟩
   refine qZb ?_;simp (config:=qZc) (disch:=first|omega|rfl) only[sB,Za,z14,ld3,ln26,t1,t3,qb,z0l kk,z0g hl'];exact⟨_,rfl,(by simp only[sG,Za,t1]),(by simp only[sG,Za,t2]),(by simp only[sG,Za,t3]),by first|(simp only[sG,Za];rfl)|simp only[sG,Za]⟩
  ·refine qZb ?_;simp (config:=qZc) (disch:=first|omega|rfl) only[sB,Za,z14,ld3,t1,qb,z0g kk,Zg];exact⟨_,rfl,(by simp only[sG,Za,t1]),(by simp only[sG,Za,t2]),(by simp only[sG,Za,t3]),by first|(simp only[sG,Za];rfl)|simp only[sG,Za]⟩
 clear t1 t2 t3 tm;rintro st ⟨tm,rfl,t1,t2,t3,tc⟩;refine qZm (by simp (config:=qZc) (disch:=first|omega|rfl) only[sA,tc]) ?_;(try refine qZe ?_);(try simp only[z00,z04]);clear tc;by_cases k5:u.kind=5/\L.length=2
 ·have hl':(u.sub.length:Int)=2:=by omega
  (repeat refine qZa ?_);refine qZb ?_;simp (config:=qZc) (disch:=first|omega|rfl) only[sB,Za,z14,ld3,ln26,t1,t3,qb,z0l k5.1,z0l hl'];refine qZd (by simp (config:=qZc) (disch:=first|omega|rfl) only[sB,Za]) ?_;(try refine qZe ?_);(try simp only[z00,z04]);(repeat refine qZa ?_);refine qZb ?_;simp (config:=qZc) (disch:=first|omega|rfl) only[sB,Za,cl34,t3];refine(z2p hww).mono ?_;rintro v H5 ⟨rfl,hx5⟩;have n5:=hx5.next;have nG:=hxG.next;have gq5:=hx5.get hww gq
  repeat' (first|(refine qZf ?_;try simp only[z06,z01])|(refine z0q ?_;simp (config:=qZc) (disch:=first|omega|rfl) only[sB,Zb,one,st28,t2,gq5]))
  refine z0a rfl (by simp only[sB,Za,t2];rfl) (by simp only[sB,Zb,cutC,ld28];rfl) ⟨(hxG.trans hx5).pt (by omega) gq5 _,_,rfl,?_⟩;rw[htold,tellB,if_neg k2,if_neg k3,if_neg k4,if_pos k5];have hcmp:RepS G (fun n=>S n\/(H.next+2<=n/\n < G.next)) (cmpT sSem L) (six (cmpT sSem L) ao co):=hlt'.comp (by decide) (fun n hn=>hn.1) (fun n hn=>.inr (hao n hn)) hcm';have e6:six (cmpT sSem L) ao co=[.int .i64 5,.string sSem,.string Zd,.int .u64 0,.int .i64 0,.slice ao u.sub.length co]:=by show [_,_,_,_,_,Value.slice ao L.length co]=_;rw[hll];rfl
  rw[e6] at hcmp;refine hcmp.to fun n hn hl=>?_
  have hne:n≠H.next+1:=by
   rcases hn with h|h
   ·have:=hS n h;omega
   ·omega
  exact⟨by rw[get_put,if_neg hne];exact hx5.keep n hl,hn.imp_right fun h=>⟨by omega,by rw[z07];omega⟩,by rw[z07];omega⟩
 refine EvC.cut (fun st=>∃tm',st=⟨tm',[],G⟩/\tm'.get 1=some (.pointer (some ⟨H.next,0,none⟩))/\tm'.get 2=some (.pointer (some ⟨H.next+1,0,none⟩))/\tm'.get 3=some (.slice ao u.sub.length co)/\tm'.get 41=some (.bool false)) ?_ ?_
 ·by_cases kk:u.kind=5
  ·have hl':(u.sub.length:Int)≠2:=fun h=>k5 ⟨kk,by omega⟩
   refine qZb ?_;simp (config:=qZc) (disch:=first|omega|rfl) only[sB,Za,z14,ld3,ln26,t1,t3,qb,z0l kk,z0g hl'];exact⟨_,rfl,(by simp only[sG,Za,t1]),(by simp only[sG,Za,t2]),(by simp only[sG,Za,t3]),by first|(simp only[sG,Za];rfl)|simp only[sG,Za]⟩
  ·refine qZb ?_;simp (config:=qZc) (disch:=first|omega|rfl) only[sB,Za,z14,ld3,t1,qb,z0g kk,Zg];exact⟨_,rfl,(by simp only[sG,Za,t1]),(by simp only[sG,Za,t2]),(by simp only[sG,Za,t3]),by first|(simp only[sG,Za];rfl)|simp only[sG,Za]⟩
 clear t1 t2 t3 tm;rintro st ⟨tm,rfl,t1,t2,t3,tc⟩;refine qZm (by simp (config:=qZc) (disch:=first|omega|rfl) only[sA,tc]) ?_;(try refine qZe ?_);(try simp only[z00,z04]);clear tc;by_cases k6:u.kind=6/\L.length=2
 ·have hl':(u.sub.length:Int)=2:=by omega
  (repeat refine qZa ?_);refine qZb ?_;simp (config:=qZc) (disch:=first|omega|rfl) only[sB,Za,z14,ld3,ln26,t1,t3,qb,z0l k6.1,z0l hl'];refine qZd (by simp (config:=qZc) (disch:=first|omega|rfl) only[sB,Za]) ?_;(try refine qZe ?_);(try simp only[z00,z04]);(repeat refine qZa ?_);refine qZb ?_;simp (config:=qZc) (disch:=first|omega|rfl) only[sB,Za,cl34,t3];refine(z2p hww).mono ?_;rintro v H5 ⟨rfl,hx5⟩;have n5:=hx5.next;have nG:=hxG.next;have gq5:=hx5.get hww gq
  repeat' (first|(refine qZf ?_;try simp only[z06,z01])|(refine z0q ?_;simp (config:=qZc) (disch:=first|omega|rfl) only[sB,Zb,one,st28,t2,gq5]))
  refine z0a rfl (by simp only[sB,Za,t2];rfl) (by simp only[sB,Zb,cutC,ld28];rfl) ⟨(hxG.trans hx5).pt (by omega) gq5 _,_,rfl,?_⟩;rw[htold,tellB,if_neg k2,if_neg k3,if_neg k4,if_neg k5,if_pos k6];have hcmp:RepS G (fun n=>S n\/(H.next+2<=n/\n < G.next)) (cmpT sArr L) (six (cmpT sArr L) ao co):=hlt'.comp (by decide) (fun n hn=>hn.1) (fun n hn=>.inr (hao n hn)) hcm';have e6:six (cmpT sArr L) ao co=[.int .i64 5,.string sArr,.string Zd,.int .u64 0,.int .i64 0,.slice ao u.sub.length co]:=by show [_,_,_,_,_,Value.slice ao L.length co]=_;rw[hll];rfl
  rw[e6] at hcmp;refine hcmp.to fun n hn hl=>?_
  have hne:n≠H.next+1:=by
   rcases hn with h|h
   ·have:=hS n h;omega
   ·omega
  exact⟨by rw[get_put,if_neg hne];exact hx5.keep n hl,hn.imp_right fun h=>⟨by omega,by rw[z07];omega⟩,by rw[z07];omega⟩
 refine EvC.cut (fun st=>∃tm',st=⟨tm',[],G⟩/\tm'.get 1=some (.pointer (some ⟨H.next,0,none⟩))/\tm'.get 2=some (.pointer (some ⟨H.next+1,0,none⟩))/\tm'.get 3=some (.slice ao u.sub.length co)/\tm'.get 52=some (.bool false)) ?_ ?_
 ·by_cases kk:u.kind=6
  ·have hl':(u.sub.length:Int)≠2:=fun h=>k6 ⟨kk,by omega⟩
   refine qZb ?_;simp (config:=qZc) (disch:=first|omega|rfl) only[sB,Za,z14,ld3,ln26,t1,t3,qb,z0l kk,z0g hl'];exact⟨_,rfl,(by simp only[sG,Za,t1]),(by simp only[sG,Za,t2]),(by simp only[sG,Za,t3]),by first|(simp only[sG,Za];rfl)|simp only[sG,Za]⟩
  ·refine qZb ?_;simp (config:=qZc) (disch:=first|omega|rfl) only[sB,Za,z14,ld3,t1,qb,z0g kk,Zg];exact⟨_,rfl,(by simp only[sG,Za,t1]),(by simp only[sG,Za,t2]),(by simp only[sG,Za,t3]),by first|(simp only[sG,Za];rfl)|simp only[sG,Za]⟩
 clear t1 t2 t3 tm;rintro st ⟨tm,rfl,t1,t2,t3,tc⟩;refine qZm (by simp (config:=qZc) (disch:=first|omega|rfl) only[sA,tc]) ?_;(try refine qZe ?_);(try simp only[z00,z04]);clear tc;by_cases k6t:u.kind=6/\L.length=3
 ·have hl':(u.sub.length:Int)=3:=by omega
  obtain⟨x,y,z,hxy⟩:∃x y z,L=[x,y,z]:=by
   match L,k6t.2 with
   |[x,y,z],_=>exact⟨x,y,z,rfl⟩
  subst hxy;obtain⟨b,a1,c1,rfl,l0,r1,hbl⟩:=hlt'.el (i:=0) (by show 0 < 3;decide);obtain⟨b',a2,c2,e2,l1,r2,-⟩:=hlt'.el (i:=1) (by show 1 < 3;decide);cases e2;obtain⟨b'',a3,c3,e3,l2,r3,-⟩:=hlt'.el (i:=2) (by show 2 < 3;decide);cases e3;simp only[List.getElem_cons_zero,List.getElem_cons_succ,ZK,Nat.one_mul] at l0 l1 l2 r1 r2 r3;have nG:=hxG.next;obtain⟨L4,eL4⟩:∃L4,six x a1 c1++six y a2 c2=L4:=⟨_,rfl⟩
  have eL4':=eL4;simp only[six,List.cons_append,List.nil_append] at eL4';obtain⟨H4,e4⟩:∃H4,(⟨G.next+14,G.t⟩:Heap).put (G.next+6) (some (.row L4 28))=H4:=⟨_,rfl⟩
  have hx4:HX G H4:=by rw[<-e4];exact(((HX.refl hww).bump 14).put (by omega) (by show _ < G.next+14;omega) _)
  have n4:H4.next=G.next+14:=by rw[<-e4];rfl
  have g4:H4.get (G.next+6)=some (.row L4 28):=by rw[<-e4,get_put,if_pos rfl]
  have nb6:(b=G.next+6)=False:=by simp;omega
  (repeat refine qZa ?_);refine qZb ?_;simp (config:=qZc) (disch:=first|omega|rfl) only[sB,Za,z14,ld3,ln26,t1,t3,qb,z0l k6t.1,z0l hl'];refine qZd (by simp (config:=qZc) (disch:=first|omega|rfl) only[sB,Za]) ?_;(try refine qZe ?_);(try simp only[z00,z04]);(repeat refine qZa ?_);refine qZj [([(0,0),(1,0),(2,0),(3,0),(4,0),(5,0),(6,0)],some 7),([(8,0),(9,0),(10,0),(11,1)],some 12),([],some 13),([],none)] (by kernel_rfl) ?_;simp (config:=qZc) (disch:=first|omega|rfl) only[sD,sB,Za,Zb,Value.cells,one,reduceCtorEq,Zq,layC,Int.reduceToNat,ld28,cl34,zag,isAlloc,isRead,dalloc,t3,l0,l1,iz26,ZK,Nat.one_mul,eL4',e4];refine(z2p hx4.wf).mono ?_;rintro v H5 ⟨rfl,hx5⟩;have n5:=hx5.next;have l2':=hx5.load hx4.wf (hx4.load hww l2);obtain⟨L6,eL6⟩:∃L6,six (cmpT sArr [x,y]) (some ⟨G.next+6,0,none⟩) 2++six z a3 c3=L6:=⟨_,rfl⟩
  have eL6':[.int .i64 5,.string sArr,.string Zd,.int .u64 0,.int .i64 0,.slice (some ⟨G.next+6,0,none⟩) 2 2,.int .i64 z.kind,.string z.name,.string z.num,.int .u64 z.bits,.int .i64 z.var,.slice a3 z.args.length c3]=L6:=eL6;obtain⟨H6,e6⟩:∃H6,H5.put (G.next+11) (some (.row L6 28))=H6:=⟨_,rfl⟩
  have hx6:HX G H6:=by rw[<-e6];exact(hx4.trans hx5).put (by omega) (by omega) _
  have n6:H6.next=H5.next:=by rw[<-e6];rfl
  have g6:H6.get (G.next+11)=some (.row L6 28):=by rw[<-e6,get_put,if_pos rfl]
  have g46:H6.get (G.next+6)=some (.row L4 28):=by rw[<-e6,get_put,if_neg (by omega)];exact hx5.get hx4.wf g4
  have l24:=hx4.load hww l2
  repeat' (first|(refine z0p ?_;simp (config:=qZc) (disch:=first|omega|rfl) only[sV,sD,sB,Za,Zb,Value.cells,one,reduceCtorEq,Zq,layC,Int.reduceToNat,ld28,cl34,zag,t3,l2,l2',iz26,Nat.reduceMul,eL6',e6,isAlloc,isRead,dalloc]))
  refine(z2p hx6.wf).mono ?_;rintro v H7 ⟨rfl,hx7⟩;have n7:=hx7.next;have hx67:=hx6.trans hx7;have gq7:=hx67.get hww gq
  repeat' (first|(refine qZf ?_;try simp only[z06,z01])|(refine z0p ?_;simp (config:=qZc) (disch:=first|omega|rfl) only[sD,sB,Za,Zb,one,st28,t2,gq7]))
  refine z0a rfl (by simp only[sB,Za,t2];rfl) (by simp only[sB,Zb,cutC,ld28];rfl) ⟨(hxG.trans hx67).pt (by omega) gq7 _,_,rfl,?_⟩;have k4':¬(u.kind=4/\[x,y,z].length=2):=k4;rw[htold,tellB,if_neg k2,if_neg k3,if_neg k4,if_neg k5,if_neg k6,if_pos k6t];have rr:∀{w:Tm}{cs:List Value},RepS G (fun n=>(S n\/(H.next+2<=n/\n < G.next))/\(some ⟨b,0,none⟩:Option Addr)≠some ⟨n,0,none⟩) w cs->RepS H7 (fun n=>(S n\/(H.next+2<=n/\n < H7.next))) w cs:=fun h=>h.to fun n hn hl=>⟨hx67.keep n hl,hn.1.imp_right fun h=>⟨h.1,by omega⟩,by omega⟩
  subst eL4 eL6;have ho:RepS H7 (fun n=>(S n\/(H.next+2<=n/\n < H7.next))) (cmpT sSem [cmpT sArr [x,y],z]) (six (cmpT sSem [cmpT sArr [x,y],z]) (some ⟨G.next+11,0,none⟩) 2) :=
   z6u (by decide) (hx7.get hx6.wf g6) (.inr ⟨by omega,by omega⟩) hx7.wf (z6u (by decide) (hx7.get hx6.wf g46) (.inr ⟨by omega,by omega⟩) hx7.wf (rr r1) (rr r2)) (rr r3)
  refine ho.to fun n hn hl=>?_
  have hne:n≠H.next+1:=by
   rcases hn with h|h
   ·have:=hS n h;omega
   ·omega
  exact⟨by rw[get_put,if_neg hne],hn.imp_right fun h=>⟨by omega,by rw[z07];omega⟩,by rw[z07];omega⟩
 refine EvC.cut (fun st=>∃tm',st=⟨tm',[],G⟩/\tm'.get 1=some (.pointer (some ⟨H.next,0,none⟩))/\tm'.get 2=some (.pointer (some ⟨H.next+1,0,none⟩))/\tm'.get 3=some (.slice ao u.sub.length co)/\tm'.get 63=some (.bool false)) ?_ ?_
 ·by_cases kk:u.kind=6
  ·have hl':(u.sub.length:Int)≠3:=fun h=>k6t ⟨kk,by omega⟩
   refine qZb ?_;simp (config:=qZc) (disch:=first|omega|rfl) only[sB,Za,z14,ld3,ln26,t1,t3,qb,z0l kk,z0g hl'];exact⟨_,rfl,(by simp only[sG,Za,t1]),(by simp only[sG,Za,t2]),(by simp only[sG,Za,t3]),by first|(simp only[sG,Za];rfl)|simp only[sG,Za]⟩
  ·refine qZb ?_;simp (config:=qZc) (disch:=first|omega|rfl) only[sB,Za,z14,ld3,t1,qb,z0g kk,Zg];exact⟨_,rfl,(by simp only[sG,Za,t1]),(by simp only[sG,Za,t2]),(by simp only[sG,Za,t3]),by first|(simp only[sG,Za];rfl)|simp only[sG,Za]⟩
 clear t1 t2 t3 tm;rintro st ⟨tm,rfl,t1,t2,t3,tc⟩;refine qZm (by simp (config:=qZc) (disch:=first|omega|rfl) only[sA,tc]) ?_;(try refine qZe ?_);(try simp only[z00,z04]);clear tc;by_cases k7:u.kind=7/\L.length=1
 ·have hl':(u.sub.length:Int)=1:=by omega
  obtain⟨x,hxy⟩:∃x,L=[x]:=by
   match L,k7.2 with
   |[x],_=>exact⟨x,rfl⟩
  subst hxy;obtain⟨b,a1,c1,rfl,l0,r1,hbl⟩:=hlt'.el (i:=0) (by show 0 < 1;decide);simp only[List.getElem_cons_zero,ZK] at l0 r1;have nG:=hxG.next;obtain⟨L4,eL4⟩:∃L4,six u.term ta tc++six x a1 c1=L4:=⟨_,rfl⟩
  have eL4':=eL4;simp only[six,List.cons_append,List.nil_append] at eL4';obtain⟨H4,e4⟩:∃H4,(⟨G.next+8,G.t⟩:Heap).put (G.next+5) (some (.row L4 28))=H4:=⟨_,rfl⟩
  have hx4:HX G H4:=by rw[<-e4];exact(((HX.refl hww).bump 8).put (by omega) (by show _ < G.next+8;omega) _)
  have n4:H4.next=G.next+8:=by rw[<-e4];rfl
  have g4:H4.get (G.next+5)=some (.row L4 28):=by rw[<-e4,get_put,if_pos rfl]
  (repeat refine qZa ?_);refine qZb ?_;simp (config:=qZc) (disch:=first|omega|rfl) only[sB,Za,z14,ld3,ln26,t1,t3,qb,z0l k7.1,z0l hl'];refine qZd (by simp (config:=qZc) (disch:=first|omega|rfl) only[sB,Za]) ?_;(try refine qZe ?_);(try simp only[z00,z04]);(repeat refine qZa ?_);refine qZj [([(0,0),(1,0),(2,0),(3,0),(4,0),(5,0)],some 6),([],some 7),([],none)] (by kernel_rfl) ?_;simp (config:=qZc) (disch:=first|omega|rfl) only[sD,sB,Za,Zb,Value.cells,one,reduceCtorEq,Zq,layC,Int.reduceToNat,z5l,ld28,cl34,zag,isAlloc,isRead,dalloc,t1,t3,qb,l0,iz26,ZK,eL4',e4];refine(z2p hx4.wf).mono ?_;rintro v H5 ⟨rfl,hx5⟩;have n5:=hx5.next;have hx45:=hx4.trans hx5;have gq5:=hx45.get hww gq
  repeat' (first|(refine qZf ?_;try simp only[z06,z01])|(refine z0p ?_;simp (config:=qZc) (disch:=first|omega|rfl) only[sD,sB,Za,Zb,one,st28,t2,gq5]))
  refine z0a rfl (by simp only[sB,Za,t2];rfl) (by simp only[sB,Zb,cutC,ld28];rfl) ⟨(hxG.trans hx45).pt (by omega) gq5 _,_,rfl,?_⟩;rw[htold,tellB,if_neg k2,if_neg k3,if_neg k4,if_neg k5,if_neg k6,if_neg k6t,if_pos k7];subst eL4;have ho:RepS H5 (fun n=>(S n\/(H.next+2<=n/\n < H5.next))) (cmpT sCol [u.term,x]) (six (cmpT sCol [u.term,x]) (some ⟨G.next+5,0,none⟩) 2) :=
   z6u (by decide) (hx5.get hx4.wf g4) (.inr ⟨by omega,by omega⟩) hx5.wf (hrG.to fun n hn hl=>⟨hx45.keep n hl,.inl hn,by omega⟩) (r1.to fun n hn hl=>⟨hx45.keep n hl,hn.1.imp_right fun h=>⟨h.1,by omega⟩,by omega⟩)
  refine ho.to fun n hn hl=>?_
  have hne:n≠H.next+1:=by
   rcases hn with h|h
   ·have:=hS n h;omega
   ·omega
  exact⟨by rw[get_put,if_neg hne],hn.imp_right fun h=>⟨by omega,by rw[z07];omega⟩,by rw[z07];omega⟩
 refine EvC.join (fun st=>∃tm',st=⟨tm',[],G⟩/\tm'.get 2=some (.pointer (some ⟨H.next+1,0,none⟩))) ?_ ?_
 ·by_cases kk:u.kind=7
  ·have hl':(u.sub.length:Int)≠1:=fun h=>k7 ⟨kk,by omega⟩
   repeat' (first|refine qZa ?_|(refine qZe ?_;try simp only[z00])|(refine qZb ?_;simp (config:=qZc) (disch:=first|omega|rfl) only[sB,Za,z14,ld3,ln26,t1,t3,qb,z0l kk,z0g hl'])|(refine qZm ?_ ?_;simp (config:=qZc) (disch:=first|omega|rfl) only[sB,Za];refine z02 ?_))
   exact⟨_,rfl,(by simp only[sG,Za,t2])⟩
  ·repeat' (first|refine qZa ?_|(refine qZe ?_;try simp only[z00])|(refine qZb ?_;simp (config:=qZc) (disch:=first|omega|rfl) only[sB,Za,z14,ld3,t1,qb,z0g kk,Zg])|(refine qZm ?_ ?_;simp (config:=qZc) (disch:=first|omega|rfl) only[sB,Za];refine z02 ?_))
   exact⟨_,rfl,(by simp only[sG,Za,t2])⟩
 rintro st ⟨tm,rfl,t2⟩;(repeat refine qZa ?_);refine qZb ?_;simp (config:=qZc) (disch:=first|omega|rfl) only[sB,Za,cl48];refine(z4d hww).mono ?_;rintro v H5 ⟨rfl,hx5⟩;have n5:=hx5.next;have nG:=hxG.next;have gq5:=hx5.get hww gq
 repeat' (first|(refine qZf ?_)|(refine z0q ?_;simp (config:=qZc) (disch:=first|omega|rfl) only[sB,Zb,one,st28,t2,gq5]))
 refine z0a rfl (by simp only[sB,Za,t2];rfl) (by simp only[sB,Zb,cutC,ld28];rfl) ⟨(hxG.trans hx5).pt (by omega) gq5 _,_,rfl,?_⟩;rw[htold,zji k2 k3 k4 k5 k6 k6t k7];exact z4e (by decide)
set_option maxHeartbeats 2000000 in
theorem zc1 {s:ByteArray}{H:Heap}(hs:s.size<=maxLen) (hw:H.wf) :
  EvF Tryz.prog okT 54 [.string s] H fun v H'=>HX H H'/\RepES H' (Rg H.next H'.next) (.ball (resT s)) v:=by
 refine EvF.enter rfl Tryz.func54 (by decide) rfl ?_;(repeat refine qZa ?_);refine qZb ?_;simp (config:=qZc) (disch:=first|omega|rfl) only[sA,initTm];(repeat refine qZa ?_);refine qZb ?_;simp (config:=qZc) (disch:=first|omega|rfl) only[sB,Za,Zb,Value.cells,reduceCtorEq,layC,cl48,zah];refine(z4d hw).mono ?_;rintro v H3 ⟨rfl,hx3⟩;have n3:=hx3.next
 repeat' (first|(refine z0q ?_;simp (config:=qZc) (disch:=first|omega|rfl) only[sB,Za,Zb,one,reduceCtorEq,cl34,cl50]))
 obtain⟨H4,e4,hx4,g4,hn4,hw4⟩:=new1 hx3.wf (.row (six (atmT s) none 0) 28);simp only[e4];refine(z2p hw4).mono ?_;rintro v H5 ⟨rfl,hx5⟩;have n5:=hx5.next;have g5:=hx5.get hw4 g4;have hr:RepS H5 (fun n=>n=H3.next) (resT s) (six (resT s) (some ⟨H3.next,0,none⟩) 1):=RepS.row (t:=resT s) (zdw (by decide)) rfl g5 rfl (hx5.wf _ _ g5) (Ze _) (Ze _) (by decide) fun j hj=>by
  match j,hj with
  |0,_=>exact z4e hs
 skip
 refine(z81 hr hx5.wf (fun n hn=>by omega)).mono ?_;rintro v H6 ⟨hx6,he⟩;have n6:=hx6.next
 repeat' (first|(refine qZf ?_))
 refine z03 rfl (by simp only[sG,Za,reduceCtorEq]) ⟨((hx3.trans hx4).trans hx5).trans hx6,he.to fun n hn hl=>⟨rfl,?_,hl⟩⟩;rcases hn with rfl|hn
 ·exact⟨by omega,by omega⟩
 ·exact⟨by omega,by omega⟩
set_option maxHeartbeats 4000000 in
theorem z6v {s:ByteArray}{t:Tm}{cs:List Value}{H:Heap}(hs:s.size<=maxLen) (r0:RepT H t cs) (hc:checkS t=0) (hw:H.wf) :
  EvF Tryz.prog okT 51 [.string s,.agg ⟨cs⟩] H fun v H'=>HX H H'/\RepES H' (Rg H.next H'.next) (.ball (typeT s t)) v:=by
 obtain⟨a,c,cells,rfl,-⟩:=r0.six;refine EvF.enter rfl Tryz.func51 (by decide) rfl ?_;(repeat refine qZa ?_);refine qZb ?_;simp (config:=qZc) (disch:=first|omega|rfl) only[sB,initTm,dBox,Value.cells,one,reduceCtorEq];obtain⟨H2,e2,hx2,gt,hn2,hw2⟩:=new1 hw (.row (six t a c) 28);simp only[e2];clear e2;have qt:=row6 gt;(repeat refine qZa ?_);refine qZj [([(0,0)],some 1),([(2,0)],some 3),([(4,2)],some 5),([],some 6),([(7,4)],none)] (by kernel_rfl) ?_;simp (config:=qZc) (disch:=first|omega|rfl) only[sD,sB,Za,Zb,reduceCtorEq,cl48,isAlloc,isRead];have hxb:HX H2 ⟨H2.next+8,H2.t⟩:=(HX.refl hw2).bump 8;refine(z4d hxb.wf).mono ?_;rintro v H3 ⟨rfl,hx3⟩;have n3:H2.next+8<=H3.next:=hx3.next;have qt3:=row6 (hx3.get hxb.wf (show (⟨H2.next+8,H2.t⟩:Heap).get H.next=_ from gt));have hx23:=hxb.trans hx3;have hxh3:=hx2.trans hx23
 repeat' (first|(refine z0p ?_;simp (config:=qZc) (disch:=first|omega|rfl) only[sV,sD,sB,Za,reduceCtorEq,ld28,cl59,qt,qt3,isAlloc,isRead]))
 refine(zbx (r0.mono hxh3 hw) hc hx3.wf).mono ?_;rintro v H4 ⟨hx4,out,rfl,hot⟩;obtain⟨a4,c4,cells4,rfl,-⟩:=hot.rep.six;have n4:=hx4.next;obtain⟨L,eL⟩:∃L,six (atmT s) none 0++six t a4 c4=L:=⟨_,rfl⟩
 have eL':=eL;simp only[six,List.cons_append,List.nil_append] at eL';obtain⟨H5,e5⟩:∃H5,H4.put (H2.next+4) (some (.row L 28))=H5:=⟨_,rfl⟩
 have hx5:HX H H5:=by rw[<-e5];exact(hxh3.trans hx4).put (by omega) (by omega) _
 have n5:H5.next=H4.next:=by rw[<-e5];rfl
 have g5:H5.get (H2.next+4)=some (.row L 28):=by rw[<-e5,get_put,if_pos rfl]
 repeat' (first|(refine z0p ?_;simp (config:=qZc) (disch:=first|omega|rfl) only[sD,sB,Za,Zb,Value.cells,one,reduceCtorEq,Zq,layC,zag,cl34,eL',e5,isAlloc,dalloc]))
 refine(z2p hx5.wf).mono ?_;rintro v H6 ⟨rfl,hx6⟩;have n6:=hx6.next;have g6:=hx6.get hx5.wf g5;subst eL;have hr:RepS H6 (fun n=>n=H2.next+4\/(H3.next<=n/\n < H4.next)) (typeT s t) (six (typeT s t) (some ⟨H2.next+4,0,none⟩) 2):=z6u (by decide) g6 (.inl rfl) hx6.wf (z4e hs) (hot.1.to fun n hn hl=>by
  have h1:H3.next<=n:=hn.1;have h2:n < H4.next:=hn.2;exact⟨by rw[hx6.keep n (by omega),<-e5,get_put,if_neg (by omega)],.inr ⟨h1,h2⟩,by omega⟩)
 repeat' (first|(refine z0p ?_;simp (config:=qZc) (disch:=first|omega|rfl) only[sD,sB,Za,reduceCtorEq,cl50]))
 refine(z81 hr hx6.wf (fun n hn=>by rcases hn with hn|hn<;>omega)).mono ?_;rintro v H7 ⟨hx7,he⟩;have n7:=hx7.next
 repeat' (first|(refine qZf ?_)|(refine z0p ?_;simp (config:=qZc) (disch:=first|omega|rfl) only[sD,sB,Za,Zb,reduceCtorEq,isAlloc,isRead]))
 refine z03 rfl (by simp only[sG,Za,reduceCtorEq]) ⟨(hx5.trans hx6).trans hx7,he.to fun n hn hl=>⟨rfl,?_,hl⟩⟩;rcases hn with (rfl|hn)|hn
 ·exact⟨by omega,by omega⟩
 ·exact⟨by omega,by omega⟩
 ·exact⟨by omega,by omega⟩
theorem zmt {P:Program}{tm:Tr Value}{H:Heap}{K:Tr Value->Heap->Prop}(h:K tm H):EPl P [] tm H K:=h
theorem zvr {x y:Operand}{H:Heap}:dBin Tryz.prog .neq 20 x y .nilIface .nilIface H=some (.val (.bool false) H):=by
 cases x<;>cases y<;>kernel_rfl
theorem zqy:taZ Tryz.prog 128=some (.agg ⟨[]⟩):=by kernel_rfl
theorem z7r {n:Nat}:decide (((n:Nat):Int) > 4000)=decide (4000 < n):=by
 by_cases h:4000 < n
 ·rw[decide_eq_true h,decide_eq_true (by omega)]
 ·rw[decide_eq_false h,decide_eq_false (by omega)]
set_option maxHeartbeats 8000000 in
theorem zdz {fn:Func}{tm:Tr Value}{K:Value->Heap->Prop}{p1 p2 p3:Nat}{H:Heap}(hK:∀H',HX H H'->EvM Tryz.prog okT fn tm [] none H' K) (hw:H.wf) :
  EvM Tryz.prog okT fn tm [⟨.fn (.func 72) #[.pointer (some ⟨p1,0,none⟩),.pointer (some ⟨p2,0,none⟩),.pointer (some ⟨p3,0,none⟩)],#[]⟩] none H K:=by
 refine EvM.recov Tryz.func72 (by decide) (by kernel_rfl) rfl rfl rfl rfl rfl ?_;refine⟨rfl,_,_,z51,zmt ?_⟩;refine EvSq.cons ?_;(repeat refine qZa ?_);refine qZb ?_;simp (config:=qZc) (disch:=first|omega|rfl) only[sB,initTm,dAlloc,Za,Zb,reduceCtorEq,zu2,zu3,drecov,z23,zmk zqy];(repeat refine qZa ?_);refine qZb ?_;simp (config:=qZc) (disch:=first|omega|rfl) only[sB,Za,reduceCtorEq];refine qZm (by simp (config:=qZc) (disch:=first|omega|rfl) only[sB,Za,reduceCtorEq]) ?_;(try refine qZe ?_);(try simp only[z00,z04]);(repeat refine qZa ?_);refine qZb ?_;simp (config:=qZc) (disch:=first|omega|rfl) only[sB,Za,reduceCtorEq,zvr];refine qZm (by simp (config:=qZc) (disch:=first|omega|rfl) only[sB,Za,reduceCtorEq]) ?_;(try refine qZe ?_);(try simp only[z00,z04]);refine EvSq.nil ⟨.inl rfl,rfl,?_⟩;exact hK _ (((HX.refl hw).new _).put (Ze _) (Zf _) _)
theorem zp8:(drecov (some stopCh)).1=.iface 128 (.agg #[]):=rfl
theorem zp9:dsettle (drecov (some stopCh)).2=none:=rfl
set_option maxHeartbeats 8000000 in
theorem zmu {fn:Func}{tm:Tr Value}{K:Value->Heap->Prop}{p1 p2 p3:Nat}{t:Tm}{a:Option Addr}{c:Nat}{cs8:List Value}{v3:Value}{H:Heap}(hl8:cs8.length=8) (r:RepT H t (six t a c)) (hc:checkS t=0) (g1:H.get p1=some (.row (six t a c) 28)) (g2:H.get p2=some (.row cs8 45)) (g3:H.get p3=some (.row [v3] 69)) (h23:p2≠p3)
  (hK:∀H' ev,HX H H'->RepES H' (Rg H.next H'.next) (.ball (typeT sCallable t)) ev->EvM Tryz.prog okT fn tm [] none ((H'.put p2 (some (.row zero8 45))).put p3 (some (.row [ev] 69))) K) (hw:H.wf) :
  EvM Tryz.prog okT fn tm [⟨.fn (.func 72) #[.pointer (some ⟨p1,0,none⟩),.pointer (some ⟨p2,0,none⟩),.pointer (some ⟨p3,0,none⟩)],#[]⟩] (some stopCh) H K:=by
 refine EvM.recov Tryz.func72 (by decide) (by kernel_rfl) rfl rfl rfl rfl rfl ?_;rw[zp8,zp9];refine⟨rfl,_,_,z51,zmt ?_⟩;refine EvSq.cons ?_;(repeat refine qZa ?_);refine qZb ?_;simp (config:=qZc) (disch:=first|omega|rfl) only[sB,initTm,dAlloc,Za,Zb,reduceCtorEq,zu2,zu3,z23,zff zqy];obtain⟨H2,e2,hx2,-,hn2,hw2⟩:=z0m hw (.row [] 128) (.row [] 128);simp only[e2];clear e2;have g12:=hx2.get hw g1;have q1:=row6 g12;(repeat refine qZa ?_);refine qZb ?_;simp (config:=qZc) (disch:=first|omega|rfl) only[sB,Za,reduceCtorEq];refine qZd (by simp (config:=qZc) (disch:=first|omega|rfl) only[sB,Za,reduceCtorEq]) ?_;(try refine qZe ?_);(try simp only[z00,z04]);refine qZb ?_;simp (config:=qZc) (disch:=first|omega|rfl) only[sB,Za,Zb,Value.cells,reduceCtorEq,layC,bd45,ld28,cl51,st45,q1];refine(z6v (s:=sCallable) (by decide) (r.mono hx2 hw) hc hw2).mono ?_;rintro v H3 ⟨hx3,he⟩;have hx23:=hx2.trans hx3;have n2:=hx2.next;have n3:=hx3.next;have g23:=hx23.get hw g2;have g33:=hx23.get hw g3
 have hl2:=hx23.wf _ _ g23;obtain⟨pb,ab,cb,rfl,-,-⟩:=he.rep;have e32:(p3=p2)=False:=by simp;exact fun h=>h23 h.symm
 have d8:List.drop 8 cs8=[]:=List.drop_eq_nil_of_le (by omega);have d81:(8<=cs8.length)=True:=by simp;omega
 repeat' (first|(refine z0q ?_;simp (config:=qZc) (disch:=first|omega|rfl) only[sB,Za,Zb,one,reduceCtorEq,st69,g23,g33,e32,d8,d81]))
 refine EvSq.nil ⟨.inl rfl,rfl,?_⟩;refine hK H3 _ hx23 (he.to fun n hn hl=>⟨rfl,⟨by have:=hn.1;omega,hn.2⟩,hl⟩)
end Go.Proofs.hq
end

section
namespace Go.Hb
open Go Go.RowKit
theorem z6w {P:Program}{ok:Ok}{fn:Func}{tm:Tr Value}{H:Heap}{K:Value->Heap->Prop}{a b:Tmp}{t t':TypeId}{ad bd:Addr}{v u:Value}(h:fn.results.toList=[.cell a t,.cell b t']) (ha:tm.get a=some (.pointer (some ad))) (hv:dLoad P t (.pointer (some ad)) H=some (.val v H))
  (hb:tm.get b=some (.pointer (some bd))) (hu:dLoad P t' (.pointer (some bd)) H=some (.val u H)) (hk:K (.tuple ⟨[v,u]⟩) H):EvM P ok fn tm [] none H K:=by
 refine EvM.now (v:=.tuple ⟨[v,u]⟩) ?_ hk;have key:∀{t:TypeId}{ad:Addr}{v:Value},dLoad P t (.pointer (some ad)) H=some (.val v H)->dload P t ad H=some v:=fun {t ad v} hd=>by
  unfold dLoad at hd;simp only at hd;cases h1:dload P t ad H with
  |none=>rw[h1] at hd;simp at hd
  |some w=>rw[h1] at hd;simp at hd;rw[hd]
 simp [dres,h,dresL,dres1,ha,hb,key hv,key hu]
end Go.Hb
namespace Go.Proofs.hq
open Go Go.RowKit Go.Hb
variable {ok:Ok}
set_option maxRecDepth 10000
attribute [local irreducible] LX LG EL STG SOP SGO SGD SAL SRD SEF SEG SLK SCK ES
theorem zc2 {n:Nat}:Few n zeroT:=.mk (Zl _) fun u hu=>by cases hu
theorem zhl {t:Tm}(h:Few 64 t):Few 64 (cmpT sCall [t]):=.mk (by show 1<=64;decide) fun u hu=>by
 have:u=t:=by simpa [cmpT,Tm.args] using hu
 rw[this];exact h
theorem z82 {t:Tm}(h:Fine t):Few 64 t:=Fine.few _ (Zf _) h
theorem FewB.leaf {n:Nat}{k:Int}{t:Tm}(h:Few n t):FewB n (.mk k t []):=.mk (Zl _) h fun u hu=>by cases hu
theorem ze0 {f:Tm->Option Bdy}{n:Nat}:∀{l:List Tm}{bs:List Bdy},(∀t∈l,∀b,f t=some b->FewB n b)->subBL f l=some bs->∀b∈bs,FewB n b
 |[],bs,_,h=>by cases h;intro b hb;cases hb
 |u :: l,bs,hf,h=>by
  rw[subBL] at h;split at h
  ·rename_i c cs h1 h2;cases h;intro b hb;rcases List.mem_cons.1 hb with rfl|hb
   ·exact hf u (by simp) _ h1
   ·exact ze0 (fun t ht=>hf t (Zn _ ht)) h2 b hb
  ·cases h
theorem z6x {f:Tm->Option Bdy}{n:Nat}{k:Int}{l:List Tm}{b:Bdy}(hl:l.length<=n) (hf:∀t∈l,∀b,f t=some b->FewB n b) (h:subBF f k l=some b):FewB n b:=by
 unfold subBF at h;cases hs:subBL f l with
 |none=>rw[hs] at h;cases h
 |some bs =>
  rw[hs] at h;cases h;exact .mk (by show bs.length<=n;rw[zhk hs];exact hl) zc2 (ze0 hf hs)
theorem zar {t:Tm}{i:Nat}(h:i < t.args.length):t.at i∈t.args:=by
 unfold Tm.at;rw[List.getD_eq_getElem?_getD,Zc h];exact Zu h
theorem z9f:∀{m:Nat}{t:Tm}{b:Bdy},Fine t->bodyF m t=some b->FewB 64 b
 |0,t,b,_,h=>by cases h
 |m+1,t,b,hf,h=>by
  have ih:∀u,Fine u->∀b,bodyF m u=some b->FewB 64 b:=fun u hu b hb=>z9f hu hb
  have hl:=z58 hf;have hargs:∀u∈t.args,∀b,bodyF m u=some b->FewB 64 b:=fun u hu=>ih u (hf.args u hu)
  rw[bodyF] at h;split at h
  ·cases h
  split at h
  ·cases h;exact .leaf (zhl (z82 hf))
  split at h
  ·cases h;exact .leaf zc2
  split at h
  ·cases h;exact .leaf zc2
  split at h
  ·rename_i hF;unfold withinF at h;split at h
   ·cases h
   split at h
   ·cases h;exact .leaf (zhl (z82 hf))
   cases hb:bodyF m (t.at 1) with
   |none=>rw[hb] at h;cases h
   |some c =>
    rw[hb] at h;cases h;refine .mk (by show 1<=64;decide) (z82 (hf.args _ (zar (by rw[hF.2.2];decide)))) fun u hu=>?_
    have:u=c:=by simpa [Bdy.sub] using hu
    subst this;exact hargs _ (zar (by rw[hF.2.2];decide)) _ hb
  split at h
  ·exact z6x hl hargs h
  split at h
  ·exact z6x hl hargs h
  split at h
  ·rename_i hF;have hx:=hf.args _ (zar (i:=0) (by rw[hF.1.2.2];decide));refine z6x (by show 3<=64;decide) (fun u hu=>?_) h;have hu':u∈(t.at 0).args\/u∈t.args:=by
    simp only[List.mem_cons,ZF,or_false] at hu;rcases hu with rfl|rfl|rfl
    ·exact .inl (zar (by rw[hF.2.2.2];decide))
    ·exact .inl (zar (by rw[hF.2.2.2];decide))
    ·exact .inr (zar (by rw[hF.1.2.2];decide))
   rcases hu' with hu|hu
   ·exact ih u (hx.args u hu)
   ·exact hargs u hu
  split at h
  ·exact z6x hl hargs h
  ·cases h;exact .leaf (z82 hf)
theorem FewB.up {n m:Nat}{b:Bdy}(f:FewB n b) (h:n<=m):FewB m b:=by
 induction f with
 |mk h1 h2 _ ih=>exact .mk (Zj h1 h) (h2.up h) ih
def ReadyEnd (H:Heap) (t:Tm) (v:Value) (H':Heap):Prop:=HX H H'/\∃out ev,v=.tuple ⟨[.agg ⟨out⟩,ev]⟩/\OB H' 45 28 (Rg H.next H'.next) (readyS t).1 out/\RepES H' (Rg H.next H'.next) (readyS t).2 ev
set_option maxHeartbeats 16000000 in
theorem z9g {t:Tm}{cs:List Value}{H:Heap}(r0:RepT H t cs) (hw:H.wf):EvF Tryz.prog okT 52 [.agg ⟨cs⟩] H (ReadyEnd H t):=by
 obtain⟨a,c,cells,rfl,-⟩:=r0.six;refine EvF.enterM rfl Tryz.func52 (by decide) rfl ?_;(repeat refine qZa ?_);refine qZb ?_;simp (config:=qZc) (disch:=first|omega|rfl) only[sB,initTm,dBox,dAlloc,Value.cells,one,zr45,zr69];obtain⟨H2,e2,hx2,gt,gb,ge,hn2,hw2⟩:=zvq hw (.row (six t a c) 28) (.row zero8 45) (.row [.nilIface] 69);simp only[e2];clear e2;have ge:H2.get (H.next+1+1)=some (.row [.nilIface] 69):=ge;have qt:=row6 gt;have hlt:=hw2 _ _ ge;(repeat refine qZa ?_);refine qZb ?_;simp (config:=qZc) (disch:=first|omega|rfl) only[sB,Za,reduceCtorEq,ld28,cl18,qt];refine(z25 t _ _ (r0.mono hx2 hw) hw2).mono ?_;rintro v H3 ⟨rfl,hx3⟩;have gt3:=hx3.get hw2 gt;have gb3:=hx3.get hw2 gb;have ge3:=hx3.get hw2 ge;have hx:=hx2.trans hx3;have n3:=hx3.next;have hww:=hx.wf;have qb3:=row8 gb3;have qt3:=row6 gt3;have ne1:(H.next+2=H.next+1)=False:=by simp
 by_cases h0:checkS t=0;rotate_left
 ·repeat' (first|refine qZa ?_|(refine qZf ?_;try simp only[z06,z01])|(refine qZb ?_;simp (config:=qZc) (disch:=first|omega|rfl) only[sB,Za,Zb,one,reduceCtorEq,ld45,st45,st69,z1z h0,gb3,ge3,qb3,z1g,z9b zmo,ne1])|(refine qZd ?_ ?_;simp (config:=qZc) (disch:=first|omega|rfl) only[sB,Za,reduceCtorEq];refine z02 ?_))
  have hrs:readyS t=(zeroB,.num (checkS t)):=by unfold readyS;rw[if_pos h0]
  refine z6w rfl (by simp only[sB,Za,reduceCtorEq];rfl) (by simp only[sB,Zb,cutC,ld45,neu];rfl) (by simp only[sB,Za,reduceCtorEq];rfl) (by simp only[sB,Za,cutC,ld69];rfl) ⟨(hx.pt (by omega) gb3 _).pt (i:=H.next+1+1) (by omega) (by rw[get_put,if_neg (by omega)];exact ge3) _,_,_,rfl,?_,?_⟩
  ·rw[hrs];exact OB.nil (by decide)
  ·rw[hrs];exact RepES.num
 (repeat refine qZa ?_);refine qZb ?_;simp (config:=qZc) (disch:=first|omega|rfl) only[sB,Za,reduceCtorEq,z15 h0];refine qZm (by simp (config:=qZc) (disch:=first|omega|rfl) only[sB,Za,reduceCtorEq]) ?_;(try refine qZe ?_);(try simp only[z00,z04]);(repeat refine qZa ?_);refine qZb ?_;simp (config:=qZc) (disch:=first|omega|rfl) only[sB,Za,reduceCtorEq,List.map_toArray,zjg,zml,zul];have hlt3:=hww _ _ ge3;cases ho:bodyF (SizeOf.sizeOf t+1) t with
 |none =>
  have hrs:readyS t=(zeroB,.ball (typeT sCallable t)):=by unfold readyS;rw[if_neg (fun h=>h h0),ho]
  (repeat refine qZa ?_);refine EvC.regP 1 _ rfl rfl ?_;simp (config:=qZc) (disch:=first|omega|rfl) only[sB,Za,reduceCtorEq,ld28,cl73,z79,qt3];refine EvG.toP (zbz _ (Zf _) (r0.mono hx hw) h0 hww) ?_;rintro e H5 ⟨hx5,he⟩;rw[ho] at he;refine⟨_,he,?_⟩;have hxf:=hx.trans hx5;have n5:=hx5.next;have gb5:=hx5.get hww gb3;have ge5:=hx5.get hww ge3;refine zmu (H:=H5) (cs8:=zero8) rfl (r0.mono hxf hw) h0 (hx5.get hww gt3) gb5 ge5 (by omega) (fun H6 ev hx6 he6=>?_) hxf.wf;have gb6:=hx6.get hxf.wf gb5;have ge6:=hx6.get hxf.wf ge5;have n6:=hx6.next;have hx16:=hxf.trans hx6;refine z6w rfl (by simp only[sB,Za,reduceCtorEq];rfl) (by simp only[sB,Zb,cutC,ld45,neu];rfl) (by simp only[sB,Za,reduceCtorEq];rfl) (by simp only[sB,Za,cutC,ld69];rfl) ⟨(hx16.pt (by omega) gb6 _).pt (i:=H.next+1+1) (by omega) (by rw[get_put,if_neg (by omega)];exact ge6) _,_,_,rfl,?_,?_⟩
  ·rw[hrs];exact OB.nil (by decide)
  ·rw[hrs];refine he6.to fun n hn hl=>?_
   have:=hn.1;exact⟨by rw[get_put,if_neg (by omega),get_put,if_neg (by omega)],⟨by omega,by rw[z07,z07];exact hl⟩,by rw[z07,z07];exact hl⟩
 |some bd =>
  (repeat refine qZa ?_);refine qZb ?_;simp (config:=qZc) (disch:=first|omega|rfl) only[sB,Za,reduceCtorEq,ld28,cl73,qt3];refine EvG.toF (zbz _ (Zf _) (r0.mono hx hw) h0 hww) ?_;rintro e H5 ⟨hx5,he⟩;rw[ho] at he;obtain⟨out,rfl,hob⟩:=he;refine⟨_,rfl,?_⟩;obtain⟨ta,tc,sa,sc,rfl⟩:=hob.rep.eight;have hxf:=hx.trans hx5;have n5:=hx5.next;have gb5:=hx5.get hww gb3;have ge5:=hx5.get hww ge3;(try simp (config:=qZc) (disch:=first|omega|rfl) only[sB,Zb,one,st45,gb5]);obtain⟨H6,e6⟩:∃H6,H5.put (H.next+1) (some (.row (eightT bd.kind bd.term ta tc sa bd.sub.length sc) 45))=H6:=⟨_,rfl⟩
  simp only[e6];have hx6:HX H H6:=by rw[<-e6];exact hxf.pt (by omega) gb5 _
  have n6:H6.next=H5.next:=by rw[<-e6];rfl
  have gb6:H6.get (H.next+1)=some (.row (eightT bd.kind bd.term ta tc sa bd.sub.length sc) 45):=by rw[<-e6,get_put,if_pos rfl]
  have ge6:H6.get (H.next+1+1)=some (.row [.nilIface] 69):=by rw[<-e6,get_put,if_neg (by omega)];exact ge5
  have qb6:=row8 gb6;have hob6:OB H6 45 28 (Rg H3.next H5.next) bd (eightT bd.kind bd.term ta tc sa bd.sub.length sc):=hob.to (fun n hn hl=>⟨by have:=hn.1;rw[<-e6,get_put,if_neg (by omega)],by omega⟩) fun _ hn=>hn
  have hfew:=(z9f (z0k.1 h0).2 ho).up (m:=1000000) (by decide);(repeat refine qZa ?_);refine qZb ?_;simp (config:=qZc) (disch:=first|omega|rfl) only[sB,Za,reduceCtorEq,ld45,cl53,cl33,qb6];refine(zc0 (Zf _) hob6.bi hfew (fun n hn=>by have:=hn.2;omega) hx6.wf).mono ?_;rintro v H7 ⟨hx7,outT,rfl,hrT⟩
  skip
  refine(z1j _ _ _ hrT.rep hx7.wf).mono ?_;rintro v H8 ⟨rfl,hx8⟩;have hx68:=hx7.trans hx8;have n7:=hx7.next;have n8:=hx8.next;have gb8:=hx68.get hx6.wf gb6;have ge8:=hx68.get hx6.wf ge6;have qb8:=row8 gb8;have hx18:=hx6.trans hx68;(try simp (config:=qZc) (disch:=first|omega|rfl) only[sA]);by_cases h4:4000 < cnt (toldB bd) 0
  ·have hd:decide (((cnt (toldB bd) 0:Nat):Int) > 4000)=true:=by rw[z7r];exact decide_eq_true h4
   have hrs:readyS t=(zeroB,.ball (resT sNodes)):=by unfold readyS;rw[if_neg (fun h=>h h0),ho];simp only;rw[if_pos h4]
   refine qZd (by simp (config:=qZc) (disch:=first|omega|rfl) only[sB,Za,reduceCtorEq,hd]) ?_;(try refine qZe ?_);(try simp only[z00,z04]);(repeat refine qZa ?_);refine qZb ?_;simp (config:=qZc) (disch:=first|omega|rfl) only[sB,Za,Zb,Value.cells,reduceCtorEq,layC,st45,bd45,cl54];refine(zc1 (s:=sNodes) (by decide) hx18.wf).mono ?_;rintro v H9 ⟨hx9,he9⟩;obtain⟨pb,ab,cb,rfl,-,-⟩:=he9.rep;have n9:=hx9.next;have gb9:=hx9.get hx18.wf gb8;have ge9:=hx9.get hx18.wf ge8
   repeat' (first|(refine qZf ?_;try simp only[z06,z01])|(refine z0q ?_;simp (config:=qZc) (disch:=first|omega|rfl) only[sB,Za,Zb,one,reduceCtorEq,st69,gb9,ge9,ne1]))
   obtain⟨H9',e9⟩:∃H9',(H9.put (H.next+1) (some (.row zero8 45))).put (H.next+1+1) (some (.row [.iface 100 (.pointer (some ⟨pb,0,none⟩))] 69))=H9':=⟨_,rfl⟩
   have g1:H9'.get (H.next+1)=some (.row zero8 45):=by rw[<-e9,get_put,if_neg (by omega),get_put,if_pos rfl]
   have g2:H9'.get (H.next+1+1)=some (.row [.iface 100 (.pointer (some ⟨pb,0,none⟩))] 69):=by rw[<-e9,get_put,if_pos rfl]
   have hx9':HX H H9':=by rw[<-e9];exact((hx18.trans hx9).pt (by omega) gb9 _).pt (i:=H.next+1+1) (by omega) (by rw[get_put,if_neg (by omega)];exact ge9) _
   have n9':H9'.next=H9.next:=by rw[<-e9];rfl
   have he9':RepES H9' (Rg H8.next H9.next) (.ball (resT sNodes)) (.iface 100 (.pointer (some ⟨pb,0,none⟩))):=he9.to fun n hn hl=>⟨by have:=hn.1;rw[<-e9,get_put,if_neg (by omega),get_put,if_neg (by omega)],hn,by omega⟩
   simp only[e9];refine zdz (H:=H9') (fun H10 hx10=>?_) hx9'.wf;have g1':=hx10.get hx9'.wf g1;have q1':=row8 g1';have q2':=row1 (hx10.get hx9'.wf g2);have n10:=hx10.next;refine z6w rfl (by simp only[sB,Za,reduceCtorEq];rfl) (by simp only[sA,ld45,q1'];rfl) (by simp only[sB,Za,reduceCtorEq];rfl) (by simp only[sA,ld69,q2'];rfl) ⟨hx9'.trans hx10,_,_,rfl,?_,?_⟩
   ·rw[hrs];exact OB.nil (by decide)
   ·rw[hrs];exact he9'.to fun n hn hl=>⟨hx10.keep n hl,⟨by have:=hn.1;omega,by have:=hn.2;omega⟩,by omega⟩
  ·have hd:decide (((cnt (toldB bd) 0:Nat):Int) > 4000)=false:=by rw[z7r];exact decide_eq_false h4
   have hrs:readyS t=(bd,.ok):=by unfold readyS;rw[if_neg (fun h=>h h0),ho];simp only;rw[if_neg h4]
   refine qZm (by simp (config:=qZc) (disch:=first|omega|rfl) only[sB,Za,reduceCtorEq,hd]) ?_;(try refine qZe ?_);(try simp only[z00,z04])
   repeat' (first|refine qZa ?_|(refine qZf ?_)|(refine qZb ?_;simp (config:=qZc) (disch:=first|omega|rfl) only[sB,Za,Zb,one,reduceCtorEq,ld45,st45,zvi,gb8,ge8,qb8,ne1]))
   obtain⟨H9',e9⟩:∃H9',(H8.put (H.next+1) (some (.row (eightT bd.kind bd.term ta tc sa bd.sub.length sc) 45))).put (H.next+1+1) (some (.row [.nilIface] 69))=H9':=⟨_,rfl⟩
   have g1:H9'.get (H.next+1)=some (.row (eightT bd.kind bd.term ta tc sa bd.sub.length sc) 45):=by rw[<-e9,get_put,if_neg (by omega),get_put,if_pos rfl]
   have g2:H9'.get (H.next+1+1)=some (.row [.nilIface] 69):=by rw[<-e9,get_put,if_pos rfl]
   have hx9':HX H H9':=by rw[<-e9];exact(hx18.pt (by omega) gb8 _).pt (i:=H.next+1+1) (by omega) (by rw[get_put,if_neg (by omega)];exact ge8) _
   have n9':H9'.next=H8.next:=by rw[<-e9];rfl
   have hob9:OB H9' 45 28 (Rg H3.next H5.next) bd (eightT bd.kind bd.term ta tc sa bd.sub.length sc):=hob6.to (fun n hn hl=>⟨by have:=hn.1;rw[<-e9,get_put,if_neg (by omega),get_put,if_neg (by omega)];exact hx68.keep n hl,by omega⟩) fun _ hn=>hn
   simp only[e9];refine zdz (H:=H9') (fun H10 hx10=>?_) hx9'.wf;have g1':=hx10.get hx9'.wf g1;have q1':=row8 g1';have q2':=row1 (hx10.get hx9'.wf g2);have n10:=hx10.next;refine z6w rfl (by simp only[sB,Za,reduceCtorEq];rfl) (by simp only[sA,ld45,q1'];rfl) (by simp only[sB,Za,reduceCtorEq];rfl) (by simp only[sA,ld69,q2'];rfl) ⟨hx9'.trans hx10,_,_,rfl,?_,?_⟩
   ·rw[hrs];exact(hob9.keep hx10).sub fun n hn=>⟨by have:=hn.1;omega,by have:=hn.2;omega⟩
   ·rw[hrs];exact RepES.fine
end Go.Proofs.hq
end

section
namespace Go.Proofs.hq
open Go Go.RowKit Go.Hb
variable {ok:Ok}
set_option maxRecDepth 10000
attribute [local irreducible] LX LG EL STG SOP SGO SGD SAL SRD SEF SEG SLK SCK ES
section
variable {f:Int->Int}
abbrev ren (f:Int->Int) (t:Tm):Tm:=sub (fun n=>varT (f n)) t
theorem z9h {t:Tm}(h:t.kind=1):ren f t=varT (f t.var):=z96 h
theorem z4g {t:Tm}(h:t.kind≠1):ren f t=.mk t.kind t.name t.num t.bits t.var (t.args.map (ren f)):=zm3 h
theorem zhm:∀(m:Nat) {t:Tm},SizeOf.sizeOf t < m->Fine t->nd (ren f t)=nd t
 |0,t,h,_=>by omega
 |m+1,t,h,hf=>by
  by_cases k:t.kind=1
  ·rw[z9h k];have h1:nd t=1:=by rw[z1f,z6r hf k];rfl
   rw[h1];rfl
  ·rw[z1f (ren f t),z1f t,show (ren f t).args=t.args.map (ren f) by rw[z4g k];rfl];have go:∀l:List Tm,(∀u∈l,SizeOf.sizeOf u < m/\Fine u)->nd.ndL (l.map (ren f))=nd.ndL l:=by
    intro l
    induction l with
    |nil=>intro _;rfl
    |cons x l ih =>
     intro hl;rw[ZA,nd.ndL,nd.ndL,zhm m (hl x (by simp)).1 (hl x (by simp)).2,ih fun u hu=>hl u (by simp [hu])]
   rw[go t.args fun u hu=>⟨by have:=z0h hu;omega,hf.args u hu⟩]
theorem zc3:∀(m:Nat) {t:Tm},SizeOf.sizeOf t < m->Fine t->occ (ren f t)=(occ t).map f
 |0,t,h,_=>by omega
 |m+1,t,h,hf=>by
  by_cases k:t.kind=1
  ·rw[z9h k,z3a,z3a t,z6r hf k,if_pos k];rfl
  ·rw[z3a (ren f t),z3a t,if_neg k,show (ren f t).args=t.args.map (ren f) by rw[z4g k];rfl,if_neg (by rw[z4g k];exact k)];have go:∀l:List Tm,(∀u∈l,SizeOf.sizeOf u < m/\Fine u)->occL (l.map (ren f))=(occL l).map f:=by
    intro l
    induction l with
    |nil=>intro _;rfl
    |cons x l ih =>
     intro hl;rw[ZA,occL,occL,zc3 m (hl x (by simp)).1 (hl x (by simp)).2,ih fun u hu=>hl u (by simp [hu]),ZI]
   simpa using go t.args fun u hu=>⟨by have:=z0h hu;omega,hf.args u hu⟩
theorem zhn {l:List Tm}(h:∀u∈l,Fine u):occL (l.map (ren f))=(occL l).map f:=by
 induction l with
 |nil=>rfl
 |cons x l ih=>rw[ZA,occL,occL,zc3 _ (Zf _) (h x (by simp)),ih fun u hu=>h u (by simp [hu]),ZI]
theorem z5e (l:List Tm):plainL l=l.map (ren (plcZ (uniq (occL l)))):=_root_.id rfl
theorem zc4 {t:Tm}(hf:∀n,0<=f n) (h:checkS t=0):checkS (ren f t)=0:=by
 obtain⟨h1,h2⟩:=z0k.1 h;refine z0k.2 ⟨?_,zhg (fun n _=>zhf (hf n)) _ t (Zf _) h2⟩;have h3:=zam _ t (Zf _) 0 h1;have h4:=zhm (f:=f) _ (Zf _) h2;rw[z3z _ _ (Zf _) 0 (by omega)];omega
theorem _root_.Go.Hb.FL.repD {H:Heap}{T:TypeId}{S:Nat->Prop}{l:List Tm}{a:Option Addr}{c:Nat}(h:FL H T S l a c) (hw:H.wf):∃cells,∀G:Heap,(∀n,S n->n < H.next->G.get n=H.get n)->RepL G l a c cells:=by
 cases h with
 |nil=>exact⟨fun _=>[],fun G _=>⟨Ze _,Zl _,fun _=>⟨rfl,rfl⟩,fun i ad hi=>by simp at hi,fun i t h=>by simp at h⟩⟩
 |row _ _ b c cells Si ai ci h1 h2 h3 h4 h5 h6 h7 h8 h9 h10 h11 =>
  refine⟨fun i=>(cells.drop (i*6)).take 6,fun G hk=>RepL.of_row (by rw[hk b h7 (hw b _ h3)];exact h3) (fun i hi=>rfl) (fun i t ht=>?_) h1 h2⟩;show RepT G t ((cells.drop (i*6)).take 6);rw[h5 i t ht];exact RepF.rep (T:=T) (S:=Si i) ⟨ai i,ci i,rfl,h6 i t ht,(h11 i t ht).heap (fun n hn hl=>hk n (h9 i n (List.getElem?_eq_some_iff.1 ht).1 hn) hl) hw⟩
theorem _root_.Go.Hb.FL.elS {H:Heap}{T:TypeId}{S:Nat->Prop}{l:List Tm}{a:Option Addr}{c:Nat}(h:FL H T S l a c) (hw:H.wf) {i:Nat}(hi:i < l.length):∃b o a1 c1,a=some ⟨b,o,none⟩/\H.load ⟨b,o+i*6,none⟩ 6=some (six l[i] a1 c1)/\RepS H S l[i] (six l[i] a1 c1):=by
 obtain⟨cells,hc⟩:=h.repD hw;have he:=Zc hi;obtain⟨b,o,rfl,hl,hr⟩:=(hc H fun _ _ _=>rfl).at he;obtain⟨a1,c1,-,h3,-⟩:=hr.six;rw[h3] at hl;exact⟨b,o,a1,c1,rfl,hl,fun G hG=>by rw[<-h3];exact(hc G hG).rep i _ he⟩
end
abbrev isF2 (t:Tm) (s:ByteArray) (x y:Tm):Prop:=t.kind=5/\t.name=s/\t.args=[x,y]
theorem isF2.f {t x y:Tm}{s:ByteArray}(h:isF2 t s x y):isF t s:=⟨h.1,h.2.1,by rw[h.2.2];rfl⟩
theorem isF2.a0 {t x y:Tm}{s:ByteArray}(h:isF2 t s x y):t.at 0=x:=by unfold Tm.at;rw[h.2.2];rfl
theorem isF2.a1 {t x y:Tm}{s:ByteArray}(h:isF2 t s x y):t.at 1=y:=by unfold Tm.at;rw[h.2.2];rfl
theorem isF.two {t:Tm}{s:ByteArray}(h:isF t s):∃x y,isF2 t s x y:=by
 obtain⟨h1,h2,h3⟩:=h
 match hl:t.args,h3 with
 |[x,y],_=>exact⟨x,y,h1,h2,hl⟩
theorem isF.ne {t:Tm}{s u:ByteArray}(h:isF t s) (hs:s≠u):¬isF t u:=fun k=>hs (h.2.1.symm.trans k.2.1)
structure Oth (t:Tm):Prop where
 num:¬isNum t
 var:t.kind≠1
 tru:¬(t.kind=2/\t.name=sTrue)
 cut:¬(t.kind=2/\t.name=sExc)
 col:¬isF t sCol
 cma:¬isF t sCma
 arr:¬isF t sArr
 sem:¬isF t sSem
inductive BdR:Tm->Bdy->Prop
 |var {t}:t.kind=1->BdR t (callB t)
 |tru {t}:t.kind=2->t.name=sTrue->BdR t (.mk 1 zeroT [])
 |cut {t}:t.kind=2->t.name=sExc->BdR t (.mk 2 zeroT [])
 |mcall {t x y}:isF2 t sCol x y->(x.kind=1\/x.kind=2)->¬isNum y->(x.kind=1\/y.kind=1)->BdR t (callB t)
 |mod {t x y b}:isF2 t sCol x y->x.kind=2->y.kind≠1->¬isNum y->BdR y b->BdR t (.mk 7 x [b])
 |and {t x y b d}:isF2 t sCma x y->BdR x b->BdR y d->BdR t (.mk 4 zeroT [b,d])
 |arr {t x y b d}:isF2 t sArr x y->BdR x b->BdR y d->BdR t (.mk 6 zeroT [b,d])
 |ite {t x y u w b d e}:isF2 t sSem x y->isF2 x sArr u w->BdR u b->BdR w d->BdR y e->BdR t (.mk 6 zeroT [b,d,e])
 |or {t x y b d}:isF2 t sSem x y->¬isF x sArr->BdR x b->BdR y d->BdR t (.mk 5 zeroT [b,d])
 |call {t}:Oth t->BdR t (.mk 3 t [])
theorem zsy {f:Tm->Option Bdy}{k:Int}{x y:Tm}{b:Bdy}(h:subBF f k [x,y]=some b):∃b1 b2,f x=some b1/\f y=some b2/\b=.mk k zeroT [b1,b2]:=by
 unfold subBF at h;simp only[subBL] at h;cases h1:f x<;>cases h2:f y<;>simp [h1,h2] at h
 exact⟨_,_,rfl,rfl,h.symm⟩
theorem zvs {f:Tm->Option Bdy}{k:Int}{x y z:Tm}{b:Bdy}(h:subBF f k [x,y,z]=some b):∃b1 b2 b3,f x=some b1/\f y=some b2/\f z=some b3/\b=.mk k zeroT [b1,b2,b3]:=by
 unfold subBF at h;simp only[subBL] at h;cases h1:f x<;>cases h2:f y<;>cases h3:f z<;>simp [h1,h2,h3] at h
 exact⟨_,_,_,rfl,rfl,rfl,h.symm⟩
theorem zmv:∀{m:Nat}{t:Tm}{b:Bdy},bodyF m t=some b->BdR t b:=by
 intro m
 induction m with
 |zero=>intro t b h;cases h
 |succ m ih =>
  intro t b h;rw[bodyF] at h;by_cases h1:isNum t
  ·rw[if_pos h1] at h;cases h
  rw[if_neg h1] at h;by_cases h2:t.kind=1
  ·rw[if_pos h2] at h;cases h;exact .var h2
  rw[if_neg h2] at h;by_cases h3:t.kind=2/\t.name=sTrue
  ·rw[if_pos h3] at h;cases h;exact .tru h3.1 h3.2
  rw[if_neg h3] at h;by_cases h4:t.kind=2/\t.name=sExc
  ·rw[if_pos h4] at h;cases h;exact .cut h4.1 h4.2
  rw[if_neg h4] at h;by_cases h5:isF t sCol
  ·rw[if_pos h5] at h;obtain⟨x,y,hf⟩:=h5.two;unfold withinF at h;rw[hf.a0,hf.a1] at h;by_cases k1:isNum y\/(x.kind≠2/\x.kind≠1)
   ·rw[if_pos k1] at h;cases h
   rw[if_neg k1] at h;by_cases k2:x.kind=1\/y.kind=1
   ·rw[if_pos k2] at h;cases h;exact .mcall hf (by omega) (fun q=>k1 (.inl q)) k2
   rw[if_neg k2] at h;cases hb:bodyF m y<;>rw[hb] at h<;>cases h
   exact .mod hf (by omega) (by omega) (fun q=>k1 (.inl q)) (ih hb)
  rw[if_neg h5] at h;by_cases h6:isF t sCma
  ·rw[if_pos h6] at h;obtain⟨x,y,hf⟩:=h6.two;rw[hf.2.2] at h;obtain⟨b1,b2,e1,e2,rfl⟩:=zsy h;exact .and hf (ih e1) (ih e2)
  rw[if_neg h6] at h;by_cases h7:isF t sArr
  ·rw[if_pos h7] at h;obtain⟨x,y,hf⟩:=h7.two;rw[hf.2.2] at h;obtain⟨b1,b2,e1,e2,rfl⟩:=zsy h;exact .arr hf (ih e1) (ih e2)
  rw[if_neg h7] at h;by_cases h8:isF t sSem/\isF (t.at 0) sArr
  ·rw[if_pos h8] at h;obtain⟨x,y,hf⟩:=h8.1.two;rw[hf.a0] at h8;obtain⟨u,w,hg⟩:=h8.2.two;rw[hf.a0,hf.a1,hg.a0,hg.a1] at h;obtain⟨b1,b2,b3,e1,e2,e3,rfl⟩:=zvs h;exact .ite hf hg (ih e1) (ih e2) (ih e3)
  rw[if_neg h8] at h;by_cases h9:isF t sSem
  ·rw[if_pos h9] at h;obtain⟨x,y,hf⟩:=h9.two;rw[hf.2.2] at h;obtain⟨b1,b2,e1,e2,rfl⟩:=zsy h;exact .or hf (fun q=>h8 ⟨h9,by rw[hf.a0];exact q⟩) (ih e1) (ih e2)
  rw[if_neg h9] at h;cases h;exact .call ⟨h1,h2,h3,h4,h5,h6,h7,h9⟩
theorem isF2.lt {t x y:Tm}{s:ByteArray}(h:isF2 t s x y):SizeOf.sizeOf x < SizeOf.sizeOf t/\SizeOf.sizeOf y < SizeOf.sizeOf t:=⟨z0h (by rw[h.2.2];simp),z0h (by rw[h.2.2];simp)⟩
theorem isF.nn {t:Tm}{s:ByteArray}(h:isF t s):¬isNum t/\t.kind≠1/\∀u,¬(t.kind=2/\t.name=u):=by
 have:=h.1;exact⟨fun q=>by rcases q with q|q<;>omega,by omega,fun u q=>by omega⟩
theorem zho:∀{m:Nat}{t:Tm}{b:Bdy},SizeOf.sizeOf t < m->BdR t b->bodyF m t=some b:=by
 intro m
 induction m with
 |zero=>intro t b h;omega
 |succ m ih =>
  intro t b hs h;have go:∀{s:ByteArray},isF t s->bodyF (m+1) t=(if isF t sCol then withinF (bodyF m) t
    else if isF t sCma then subBF (bodyF m) 4 t.args
    else if isF t sArr then subBF (bodyF m) 6 t.args
    else if isF t sSem/\isF (t.at 0) sArr then subBF (bodyF m) 6 [(t.at 0).at 0,(t.at 0).at 1,t.at 1]
    else if isF t sSem then subBF (bodyF m) 5 t.args
    else some (.mk 3 t [])):=fun hf=>by
   obtain⟨h1,h2,h3⟩:=hf.nn;rw[bodyF,if_neg h1,if_neg h2,if_neg (h3 _),if_neg (h3 _)]
  cases h with
  |var h=>rw[bodyF,if_neg (fun q=>by rcases q with q|q<;>omega),if_pos h]
  |tru h1 h2=>rw[bodyF,if_neg (fun q=>by rcases q with q|q<;>omega),if_neg (by omega),if_pos ⟨h1,h2⟩]
  |cut h1 h2=>rw[bodyF,if_neg (fun q=>by rcases q with q|q<;>omega),if_neg (by omega),if_neg (fun q=>by rw[h2] at q;exact absurd q.2 (by decide)),if_pos ⟨h1,h2⟩]
  |mcall hf h1 h2 h3 =>
   rw[go hf.f,if_pos hf.f];unfold withinF;rw[hf.a0,hf.a1,if_neg (fun q=>by rcases q with q|q;exact h2 q;omega),if_pos h3]
  |mod hf h1 h2 h3 hb =>
   rw[go hf.f,if_pos hf.f];unfold withinF;rw[hf.a0,hf.a1,if_neg (fun q=>by rcases q with q|q;exact h3 q;omega),if_neg (by omega),ih (by have:=hf.lt;omega) hb];rfl
  |and hf hb hd =>
   rw[go hf.f,if_neg (hf.f.ne (by decide)),if_pos hf.f,hf.2.2];unfold subBF;simp only[subBL,ih (by have:=hf.lt;omega) hb,ih (by have:=hf.lt;omega) hd];rfl
  |arr hf hb hd =>
   rw[go hf.f,if_neg (hf.f.ne (by decide)),if_neg (hf.f.ne (by decide)),if_pos hf.f,hf.2.2];unfold subBF;simp only[subBL,ih (by have:=hf.lt;omega) hb,ih (by have:=hf.lt;omega) hd];rfl
  |ite hf hg hb hd he =>
   have l1:=hf.lt;have l2:=hg.lt;rw[go hf.f,if_neg (hf.f.ne (by decide)),if_neg (hf.f.ne (by decide)),if_neg (hf.f.ne (by decide)),if_pos ⟨hf.f,by rw[hf.a0];exact hg.f⟩,hf.a0,hf.a1,hg.a0,hg.a1];unfold subBF;simp only[subBL,ih (by omega) hb,ih (by omega) hd,ih (by omega) he];rfl
  |or hf hn hb hd =>
   rw[go hf.f,if_neg (hf.f.ne (by decide)),if_neg (hf.f.ne (by decide)),if_neg (hf.f.ne (by decide)),if_neg (fun q=>hn (by rw[hf.a0] at q;exact q.2)),if_pos hf.f,hf.2.2];unfold subBF;simp only[subBL,ih (by have:=hf.lt;omega) hb,ih (by have:=hf.lt;omega) hd];rfl
  |call h=>rw[bodyF,if_neg h.num,if_neg h.var,if_neg h.tru,if_neg h.cut,if_neg h.col,if_neg h.cma,if_neg h.arr,if_neg (fun q=>h.sem q.1),if_neg h.sem]
theorem z1l {t:Tm}:toldB (callB t)=cmpT sCall [t]:=by rw[z2o];rfl
theorem ze1:toldB (.mk 1 zeroT [])=atmT sTrue:=by rw[z2o];rfl
theorem ze2:toldB (.mk 2 zeroT [])=atmT sExc:=by rw[z2o];rfl
theorem zas {t:Tm}:toldB (.mk 3 t [])=t:=by rw[z2o];rfl
theorem zat {x:Tm}{b:Bdy}:toldB (.mk 7 x [b])=cmpT sCol [x,toldB b]:=by rw[z2o];rfl
theorem zau {b d:Bdy}:toldB (.mk 4 zeroT [b,d])=cmpT sCma [toldB b,toldB d]:=by rw[z2o];rfl
theorem zav {b d:Bdy}:toldB (.mk 5 zeroT [b,d])=cmpT sSem [toldB b,toldB d]:=by rw[z2o];rfl
theorem zaw {b d:Bdy}:toldB (.mk 6 zeroT [b,d])=cmpT sArr [toldB b,toldB d]:=by rw[z2o];rfl
theorem z7a {b d e:Bdy}:toldB (.mk 6 zeroT [b,d,e])=cmpT sSem [cmpT sArr [toldB b,toldB d],toldB e]:=by rw[z2o];rfl
theorem cmp2 {s:ByteArray}{x y:Tm}:isF2 (cmpT s [x,y]) s x y:=⟨rfl,rfl,rfl⟩
theorem zhp {t:Tm}:Oth (cmpT sCall [t]) :=
 ⟨(fun q=>by rcases q with q|q<;>cases q),(fun q=>by cases q),(fun q=>by cases q.1),(fun q=>by cases q.1),(fun q=>by cases q.2.2),(fun q=>by cases q.2.2),(fun q=>by cases q.2.2),(fun q=>by cases q.2.2)⟩
theorem z3f {s:ByteArray}{l:List Tm}:¬isNum (cmpT s l)/\(cmpT s l).kind≠1:=⟨(fun q=>by rcases q with q|q<;>cases q),(fun q=>by cases q)⟩
theorem zuo {t:Tm}{b:Bdy}(h:BdR t b):BdR (toldB b) b/\¬isNum (toldB b)/\(toldB b).kind≠1/\(isF (toldB b) sArr->isF t sArr):=by
 induction h with
 |var h=>rw[z1l];exact⟨.call zhp,z3f.1,z3f.2,(fun q=>by cases q.2.2)⟩
 |tru h1 h2=>rw[ze1];exact⟨.tru rfl rfl,(fun q=>by rcases q with q|q<;>cases q),(fun q=>by cases q),(fun q=>by cases q.1)⟩
 |cut h1 h2=>rw[ze2];exact⟨.cut rfl rfl,(fun q=>by rcases q with q|q<;>cases q),(fun q=>by cases q),(fun q=>by cases q.1)⟩
 |mcall hf h1 h2 h3=>rw[z1l];exact⟨.call zhp,z3f.1,z3f.2,(fun q=>by cases q.2.2)⟩
 |mod hf h1 h2 h3 hb ih=>rw[zat];exact⟨.mod cmp2 h1 ih.2.2.1 ih.2.1 ih.1,z3f.1,z3f.2,fun q=>absurd q (cmp2.f.ne (by decide))⟩
 |and hf hb hd i1 i2=>rw[zau];exact⟨.and cmp2 i1.1 i2.1,z3f.1,z3f.2,fun q=>absurd q (cmp2.f.ne (by decide))⟩
 |arr hf hb hd i1 i2=>rw[zaw];exact⟨.arr cmp2 i1.1 i2.1,z3f.1,z3f.2,fun q=>hf.f⟩
 |ite hf hg hb hd he i1 i2 i3=>rw[z7a];exact⟨.ite cmp2 cmp2 i1.1 i2.1 i3.1,z3f.1,z3f.2,fun q=>absurd q (cmp2.f.ne (by decide))⟩
 |or hf hn hb hd i1 i2=>rw[zav];exact⟨.or cmp2 (fun q=>hn (i1.2.2.2 q)) i1.1 i2.1,z3f.1,z3f.2,fun q=>absurd q (cmp2.f.ne (by decide))⟩
 |call h=>rw[zas];exact⟨.call h,h.num,h.var,fun q=>q⟩
def szB:Bdy->Nat
 |.mk _ t l=>1+nd t+szBL l
where szBL:List Bdy->Nat
 |[]=>0
 |b :: l=>szB b+szBL l
theorem z4s {t:Tm}{l:List Tm}:nd.ndL (t :: l)=nd t+nd.ndL l:=by rw[nd.ndL]
theorem zc5 (t:Tm):1<=nd t:=by rw[z1f];omega
theorem z5y {s:ByteArray}{x y:Tm}:nd (cmpT s [x,y])=1+nd x+nd y:=by rw[z1f];show 1+nd.ndL [x,y]=_;rw[z4s,z4s,nd.ndL];omega
theorem zc6 {s:ByteArray}{x:Tm}:nd (cmpT s [x])=1+nd x:=by rw[z1f];show 1+nd.ndL [x]=_;rw[z4s,nd.ndL,Nat.add_zero]
theorem zjj {t x y:Tm}{s:ByteArray}(h:isF2 t s x y):nd t=1+nd x+nd y:=by rw[z1f,h.2.2,z4s,z4s,nd.ndL];omega
theorem z7b:nd zeroT=1:=by rw[z1f];rfl
theorem zqz {s:ByteArray}:nd (atmT s)=1:=by rw[z1f];rfl
theorem zfh {t:Tm}{b:Bdy}(hf:Fine t) (h:BdR t b):nd t<=nd (toldB b)/\szB b<=2*nd (toldB b):=by
 have lf:∀{t:Tm},Fine t->t.kind≠5->nd t=1:=fun h k=>by rw[z1f,(z2a (z2d h.node).2.2.1).2.2.2.2 k];rfl
 induction h with
 |var h=>rw[z1l,zc6,callB];simp only[szB,szB.szBL,zc6];omega
 |tru h1 h2=>rw[ze1,zqz,lf hf (by omega)];simp only[szB,szB.szBL,z7b];omega
 |cut h1 h2=>rw[ze2,zqz,lf hf (by omega)];simp only[szB,szB.szBL,z7b];omega
 |mcall h h1 h2 h3=>rw[z1l,zc6,callB];simp only[szB,szB.szBL,zc6];omega
 |mod h h1 h2 h3 hb ih =>
  have:=ih (hf.args _ (by rw[h.2.2];simp));have hx:=lf (hf.args _ (show _∈_ by rw[h.2.2];exact List.mem_cons_self)) (by omega);rw[zat,z5y,zjj h];simp only[szB,szB.szBL];omega
 |and h hb hd i1 i2 =>
  have:=i1 (hf.args _ (by rw[h.2.2];simp));have:=i2 (hf.args _ (by rw[h.2.2];simp));rw[zau,z5y,zjj h];simp only[szB,szB.szBL,z7b];omega
 |arr h hb hd i1 i2 =>
  have:=i1 (hf.args _ (by rw[h.2.2];simp));have:=i2 (hf.args _ (by rw[h.2.2];simp));rw[zaw,z5y,zjj h];simp only[szB,szB.szBL,z7b];omega
 |ite h hg hb hd he i1 i2 i3 =>
  have hx:=hf.args _ (show _∈_ by rw[h.2.2];exact List.mem_cons_self);have:=i1 (hx.args _ (by rw[hg.2.2];simp));have:=i2 (hx.args _ (by rw[hg.2.2];simp));have:=i3 (hf.args _ (by rw[h.2.2];simp));rw[z7a,z5y,z5y,zjj h,zjj hg];simp only[szB,szB.szBL,z7b];omega
 |or h hn hb hd i1 i2 =>
  have:=i1 (hf.args _ (by rw[h.2.2];simp));have:=i2 (hf.args _ (by rw[h.2.2];simp));rw[zav,z5y,zjj h];simp only[szB,szB.szBL,z7b];omega
 |call h=>rw[zas];simp only[szB,szB.szBL];have:=zc5 ‹Tm›;omega
abbrev sInst:ByteArray:=⟨#[105,110,115,116,97,110,116,105,97,116,105,111,110,95,101,114,114,111,114]⟩
abbrev sAtomW:ByteArray:=⟨#[97,116,111,109]⟩
noncomputable def stripF:Nat->ByteArray->Tm->ByteArray × Tm × Er
 |0,m,t=>(m,t,.ok)
 |k+1,m,t=>if isF t sCol then
   (if (t.at 0).kind=1 then (Zd,t,.ball (atmT sInst)) else if (t.at 0).kind=2 then stripF k (t.at 0).name (t.at 1) else (Zd,t,.ball (typeT sAtomW (t.at 0))))
  else (m,t,.ok)
noncomputable def stripS (m:ByteArray) (t:Tm):ByteArray × Tm × Er:=stripF (SizeOf.sizeOf t+1) m t
def StripEnd (H0 H:Heap) (R:ByteArray × Tm × Er) (v:Value) (H':Heap):Prop:=HX H H'/\∃a c ev,v=.tuple ⟨[.string R.1,.agg ⟨six R.2.1 a c⟩,ev]⟩/\RepT H0 R.2.1 (six R.2.1 a c)/\RepES H' (Rg H.next H'.next) R.2.2 ev/\checkS R.2.1=0
set_option maxHeartbeats 8000000 in
theorem zhq {m:ByteArray}{t:Tm}{cs:List Value}{H0 H:Heap}(r0:RepT H0 t cs) (hx0:HX H0 H) (hw0:H0.wf) (hc:checkS t=0) (hw:H.wf):EvF Tryz.prog okT 47 [.string m,.agg ⟨cs⟩] H (StripEnd H0 H (stripS m t)):=by
 obtain⟨a,c,cells,rfl,-⟩:=r0.six;refine EvF.enter rfl Tryz.func47 (by decide) rfl ?_;(repeat refine qZa ?_);refine qZb ?_;simp (config:=qZc) (disch:=first|omega|rfl) only[sB,initTm,dBox,dAlloc,Value.cells,one,reduceCtorEq,zr28];obtain⟨H2,e2,hx2,g3,g5,hn2,hw2⟩:=new2 hw (.row (six t a c) 28) (.row zero6 28);simp only[e2];clear e2;(repeat refine qZa ?_);refine EvC.join (fun st=>∃tm H' u m' a c,st=⟨tm,[],H'⟩/\(m',u,Er.ok)=stripS m t/\checkS u=0/\tm.get 0=some (.string m')/\tm.get 3=some (.pointer (some ⟨H.next,0,none⟩))/\tm.get 5=some (.pointer (some ⟨H.next+1,0,none⟩)) /\
  H'.get H.next=some (.row (six u a c) 28)/\H'.get (H.next+1)=some (.row zero6 28)/\RepT H0 u (six u a c)/\HX H H') ?_ ?_
 ·refine qZg (qZk (fun k st=>∃tm H' u m' a c,st=⟨tm,[],H'⟩/\SizeOf.sizeOf u < k/\stripF k m' u=stripS m t/\checkS u=0/\tm.get 0=some (.string m')/\tm.get 3=some (.pointer (some ⟨H.next,0,none⟩))/\tm.get 5=some (.pointer (some ⟨H.next+1,0,none⟩)) /\
   H'.get H.next=some (.row (six u a c) 28)/\H'.get (H.next+1)=some (.row zero6 28)/\RepT H0 u (six u a c)/\HX H H') ?_ (SizeOf.sizeOf t+1) _ ?_)
  rotate_left
  ·exact⟨_,_,t,m,a,c,rfl,Zf _,rfl,hc,(by simp only[sG,reduceCtorEq]),(by simp only[sG,Za,reduceCtorEq]),(by simp only[sG,Za,reduceCtorEq]),g3,g5,r0,hx2⟩
  rintro k st ⟨tm,H',u,m',a,c,rfl,hk,hR,hcu,t0,t3,t5,g3,g5,ru,hx⟩;have hw':=hx.wf;have q3:=row6 g3;(repeat refine qZa ?_);refine qZb ?_;simp (config:=qZc) (disch:=first|omega|rfl) only[sB,ld28,cl49,t3,q3];refine(z7q (s:=sCol) (ru.mono (hx0.trans hx) hw0) hw').mono ?_;rintro v H3 ⟨rfl,hx3⟩;have g3:=hx3.get hw' g3;have g5:=hx3.get hw' g5;have hx:=hx.trans hx3;have w3:=hx.wf;have q3:=row6 g3;obtain⟨k,rfl⟩:∃n,k=n+1:=⟨k - 1,by omega⟩
  (try simp (config:=qZc) (disch:=first|omega|rfl) only[]);by_cases hi:isF u sCol
  rotate_left
  ·rw[stripF,if_neg hi] at hR
   repeat' (first|(refine qZi ?_;try simp only[sB,decide_eq_false hi])|(refine qZm ?_ ?_;simp (config:=qZc) (disch:=first|omega|rfl) only[sB,Za,decide_eq_false hi];refine z02 ?_))
   exact⟨_,_,u,m',a,c,rfl,hR,hcu,(by simp only[sG,reduceCtorEq,t0]),(by simp only[sG,Za,t3]),(by simp only[sG,Za,t5]),g3,g5,ru,hx⟩
  rw[stripF,if_pos hi] at hR;refine qZd (by simp (config:=qZc) (disch:=first|omega|rfl) only[sB,Za,decide_eq_true hi]) ?_;(try refine qZe ?_);(try simp only[z00,z04]);obtain⟨x,y,hxy⟩:∃x y,u.args=[x,y]:=by
   match hl:u.args,hi.2.2 with
   |[x,y],_=>exact⟨x,y,rfl⟩
  have ex:u.at 0=x:=by unfold Tm.at;rw[hxy];rfl
  have ey:u.at 1=y:=by unfold Tm.at;rw[hxy];rfl
  have x0:u.args[0]'(by rw[hxy];simp)=x:=by simp [hxy]
  have y1:u.args[1]'(by rw[hxy];simp)=y:=by simp [hxy]
  obtain⟨a0,c0,cells0,hcs,-,-,-,-,-,rl⟩:=ru.six;obtain⟨-,-,-,-,-,rfl,rfl⟩:=z78 hcs;obtain⟨b,o,a1,c1,rfl,hld0,hr0⟩:=rl.el (i:=0) (by rw[hxy];simp);obtain⟨b',o',a2,c2,e2,hld1,hr1⟩:=rl.el (i:=1) (by rw[hxy];simp);cases e2;rw[x0] at hld0 hr0;rw[y1] at hld1 hr1;simp only[ZK,Nat.add_zero,Nat.one_mul] at hld0 hld1;have hcx:=z17 hcu (u:=x) (by rw[hxy];simp);have hcy:=z17 hcu (u:=y) (by rw[hxy];simp);have hsy:SizeOf.sizeOf y < SizeOf.sizeOf u:=z0h (by rw[hxy];simp);rw[ex,ey] at hR;have hxl:u.args.length=2:=hi.2.2;have l0:=(hx0.trans hx).load hw0 hld0;(repeat refine qZa ?_);refine qZg ?_;(repeat refine qZa ?_);refine qZb ?_;simp (config:=qZc) (disch:=first|omega|rfl) only[sB,dAlloc,Za,Zb,one,Int.reduceToNat,zr28,ld28,z0u,ld26,st28,t3,q3,hxl,l0,iz26,ZK];obtain⟨H4,e4,hx4,g7,hn4,w4⟩:=z0m w3 (.row zero6 28) (.row (six x a1 c1) 28);simp only[e4];clear e4;have g3:=hx4.get w3 g3;have g5:=hx4.get w3 g5;have q3:=row6 g3;have q7:=row6 g7;have hx:=hx.trans hx4;have l1:=(hx0.trans hx).load hw0 hld1
  (repeat refine qZa ?_);refine qZb ?_;simp (config:=qZc) (disch:=first|omega|rfl) only[sB,Za,z0i,ld3,q7];(repeat refine qZa ?_);refine qZg ?_;have n4:=hx.next;by_cases k1:x.kind=1
  ·rw[if_pos k1] at hR;(repeat refine qZa ?_);refine qZb ?_;simp (config:=qZc) (disch:=first|omega|rfl) only[sB,Za,z0l k1];refine qZd (by simp (config:=qZc) (disch:=first|omega|rfl) only[sB,Za]) ?_;(try refine qZe ?_);(try simp only[z00,z04]);(repeat refine qZa ?_);refine qZj [([],some 1),([],some 2),([(0,0),(3,2)],some 4),([(5,3)],none)] (by kernel_rfl) ?_;simp (config:=qZc) (disch:=first|omega|rfl) only[sD,sA,Zb,cl48];have hb:=(HX.refl w4).bump 6;refine(z4d hb.wf).mono ?_;rintro v H5 ⟨rfl,hx5⟩;have w5:=hx5.wf;have q35:=row6 ((hb.trans hx5).get w4 g3)
   repeat' (first|(refine z0p ?_;simp (config:=qZc) (disch:=first|omega|rfl) only[sD,sB,Za,cl50]))
   refine(z81 (S:=fun _=>False) (z4e (by decide)) w5 (fun _ h=>h.elim)).mono ?_;rintro v H6 ⟨hx6,he6⟩;have hx46:=(hb.trans hx5).trans hx6;have q36:=row6 (hx46.get w4 g3);have g5:=hx46.get w4 g5;have n6:=hx46.next
   repeat' (first|(refine qZf ?_;try simp only[z06,z01])|(refine z0p ?_;simp (config:=qZc) (disch:=first|omega|rfl) only[sV,sD,sB,Za,Zb,one,reduceCtorEq,ld28,st28,t3,q3,q35,q36,g5,t5,isAlloc,isRead]))
   have hxz:=(hx.trans hx46).pt (i:=H.next+1) (by omega) g5 (some (.row (six u (some ⟨b,o,none⟩) c) 28));have n5:H4.next+6<=H5.next:=hx5.next;have n56:=hx6.next;rw[<-hR];refine z4p rfl (by simp only[sB,Za];rfl) (by simp only[sB,Za,t5];rfl) (by simp only[sB,Zb,cutC,ld28]) (by simp only[sG,Za]) ⟨hxz,_,_,_,rfl,ru,he6.to fun n hn hl=>?_,hcu⟩;have hn':=hn.resolve_left (fun h=>h);exact⟨by rw[get_put,if_neg (by omega)],⟨by omega,by rw[z07];omega⟩,by rw[z07];omega⟩
  rw[if_neg k1] at hR;(repeat refine qZa ?_);refine qZb ?_;simp (config:=qZc) (disch:=first|omega|rfl) only[sB,Za,z0g k1];refine qZm (by simp (config:=qZc) (disch:=first|omega|rfl) only[sB,Za]) ?_;(try refine qZe ?_);(try simp only[z00,z04]);by_cases k2:x.kind=2
  ·rw[if_pos k2] at hR;(repeat refine qZa ?_);refine qZb ?_;simp (config:=qZc) (disch:=first|omega|rfl) only[sB,Za,z0l k2];refine qZd (by simp (config:=qZc) (disch:=first|omega|rfl) only[sB,Za]) ?_;(try refine qZe ?_);(try simp only[z00,z04]);refine qZj [([(0,0),(1,0),(2,0),(3,0),(4,0),(5,0),(6,0)],some 7),([],none)] (by kernel_rfl) ?_;simp (config:=qZc) (disch:=first|omega|rfl) only[sD,sB,Za,Zb,one,reduceCtorEq,Int.reduceToNat,ld28,z0u,ld26,st28,z11,ld9,isAlloc,isRead,t3,q3,q7,g3,l1,hxl,iz26,Nat.one_mul];have hb:=hx.bump 8;have hz:=hb.pt (i:=H.next) (Ze _) (show Heap.get ⟨H4.next+8,H4.t⟩ H.next=_ from g3) (some (.row (six y a2 c2) 28));exact⟨k,Zf _,_,_,y,x.name,a2,c2,rfl,by omega,hR,hcy,(by simp only[sG,reduceCtorEq]),(by simp only[sG,Za,reduceCtorEq,t3]),(by simp only[sG,Za,reduceCtorEq,t5]),by rw[get_put,if_pos rfl],by rw[get_put,if_neg (by omega)];exact g5,hr1,hz⟩
  ·rw[if_neg k2] at hR;(repeat refine qZa ?_);refine qZb ?_;simp (config:=qZc) (disch:=first|omega|rfl) only[sB,Za,z0g k2];refine qZm (by simp (config:=qZc) (disch:=first|omega|rfl) only[sB,Za]) ?_;(try refine qZe ?_);(try simp only[z00,z04]);(repeat refine qZa ?_);refine qZj [([(1,0)],some 2),([(0,0),(3,1)],some 4),([(5,2)],none)] (by kernel_rfl) ?_;simp (config:=qZc) (disch:=first|omega|rfl) only[sD,sB,Za,Zb,reduceCtorEq,ld28,cl51,isAlloc,isRead,q7];have hb:=(HX.refl w4).bump 6;refine(z6v (s:=sAtomW) (by decide) ((hr0.mono (hx0.trans hx) hw0).mono hb w4) hcx hb.wf).mono ?_;rintro v H6 ⟨hx6,he6⟩;have hx46:=hb.trans hx6;have q36:=row6 (hx46.get w4 g3);have g5:=hx46.get w4 g5;have n6:=hx46.next
   repeat' (first|(refine qZf ?_;try simp only[z06,z01])|(refine z0p ?_;simp (config:=qZc) (disch:=first|omega|rfl) only[sV,sD,sB,Za,Zb,one,reduceCtorEq,ld28,st28,t3,q3,q36,g5,t5,isAlloc,isRead]))
   have hxz:=(hx.trans hx46).pt (i:=H.next+1) (by omega) g5 (some (.row (six u (some ⟨b,o,none⟩) c) 28));have n5:H4.next+6<=H6.next:=hx6.next;rw[<-hR];refine z4p rfl (by simp only[sB,Za];rfl) (by simp only[sB,Za,t5];rfl) (by simp only[sB,Zb,cutC,ld28]) (by simp only[sG,Za]) ⟨hxz,_,_,_,rfl,ru,he6.to fun n hn hl=>?_,hcu⟩;have hn':H4.next+6<=n:=hn.1;exact⟨by rw[get_put,if_neg (by omega)],⟨by omega,by rw[z07];omega⟩,by rw[z07];omega⟩
 ·rintro st ⟨tm,H',u,m',a,c,rfl,hR,hcu,t0,t3,t5,g3,g5,ru,hx⟩;have q3:=row6 g3;simp only[z00];have hz:=(hx.bump 5).pt (i:=H.next+1) (by omega) (show Heap.get ⟨H'.next+5,H'.t⟩ (H.next+1)=_ from g5) (some (.row (six u a c) 28));(repeat refine qZa ?_);refine qZj [([(0,0),(1,0),(2,0)],some 3),([(4,1)],none)] (by kernel_rfl) ?_;simp (config:=qZc) (disch:=first|omega|rfl) only[sD,sB,Za,Zb,one,reduceCtorEq,ld28,st28,isAlloc,isRead,t0,t3,t5,q3,g5]
  repeat' (first|(refine qZf ?_))
  rw[<-hR];refine z4p rfl (by simp only[sG,Za]) (by simp only[sB,Za,t5];rfl) (by simp only[sB,Zb,cutC,ld28]) (by simp only[sG,Za]) ⟨hz,_,_,_,rfl,ru,RepES.fine,hcu⟩
def RBEnd (H:Heap) (o:Option Bdy) (v:Value) (H':Heap):Prop:=HX H H'/\∃out bd,v=.tuple ⟨[.agg ⟨out⟩,.bool o.isSome]⟩/\OB H' 45 28 (Rg H.next H'.next) bd out/\∀b,o=some b->bd=b
theorem OBL.one {H:Heap}{TB TT:TypeId}{S N:Nat->Prop}{u:Bdy}{cs:List Value}{b:Nat}(hg:H.get b=some (.row cs TB)) (hu:OB H TB TT N u cs) (hw:H.wf) (hS:S b) (hN:∀n,N n->S n) (hb:¬N b):OBL H TB TT S [u] (some ⟨b,0,none⟩) 1:=by
 obtain⟨hone,hlen⟩:=hu.rep.ones;refine .inr ⟨b,cs,fun _=>N,rfl,Ze _,by decide,hg,hS,hw _ _ hg,by simp [hlen],fun i v hv=>?_,fun i _=>hb,fun i n _ hn=>hN n hn,fun i j n hi hj _ _=>by simp at hi hj;omega⟩
 match i,hv with
 |0,hv =>
  cases hv;rw[ZK,List.drop_zero,Zm (by omega)];exact hu
abbrev saidT (e:Int) (b:Bool) (t:Tm) (a:Option Addr) (c:Nat):List Value:=[.int .i64 e,.bool b,.int .i64 t.kind,.string t.name,.string t.num,.int .u64 t.bits,.int .i64 t.var,.slice a t.args.length c]
abbrev said0:List Value:=[.int .i64 0,.bool false,.int .i64 0,.string Zd,.string Zd,.int .u64 0,.int .i64 0,.slice none 0 0]
def RSaid (H:Heap) (S:Nat->Prop):Er->List Value->Prop
 |.ok,cs=>cs=said0
 |.num e,cs=>e≠0/\cs=[.int .i64 e,.bool false,.int .i64 0,.string Zd,.string Zd,.int .u64 0,.int .i64 0,.slice none 0 0]
 |.ball t,cs=>∃a c,cs=saidT 0 true t a c/\RepS H S t (six t a c)
theorem RSaid.to {H H2:Heap}{S S2:Nat->Prop}{e:Er}{cs:List Value}(h:RSaid H S e cs) (hk:∀n,S n->n < H.next->H2.get n=H.get n/\S2 n/\n < H2.next):RSaid H2 S2 e cs:=by
 cases e with
 |ok=>exact h
 |num e=>exact h
 |ball t=>obtain⟨a,c,h1,h2⟩:=h;exact⟨a,c,h1,h2.to hk⟩
theorem RSaid.cells {H:Heap}{S:Nat->Prop}{e:Er}{cs:List Value}(h:RSaid H S e cs):∃n b t a c,cs=saidT n b t a c:=by
 cases e with
 |ok=>exact⟨0,false,zeroT,none,0,h⟩
 |num e=>exact⟨e,false,zeroT,none,0,h.2⟩
 |ball t=>obtain⟨a,c,h1,h2⟩:=h;exact⟨0,true,t,a,c,h1⟩
def noneB:Er->Bool
 |.ok=>true
 |_=>false
noncomputable def madeE (t:Tm):Er:=match bodyF (SizeOf.sizeOf t+1) t with
 |none=>.ball (typeT sCallable t)
 |some b=>if 4000 < cnt (toldB b) 0 then .ball (resT sNodes) else .ok
def RReadyEnd (H:Heap) (t:Tm) (v:Value) (H':Heap):Prop:=HX H H'/\∃out sd,v=.tuple ⟨[.agg ⟨out⟩,.agg ⟨sd⟩]⟩/\OB H' 45 28 (Rg H.next H'.next) (readyS t).1 out/\RSaid H' (Rg H.next H'.next) (readyS t).2 sd
abbrev mark8:List Value:=[.int .i64 (-1),.int .i64 0,.string Zd,.string Zd,.int .u64 0,.int .i64 0,.slice none 0 0,.slice none 0 0]
abbrev mark1:List Value:=[.int .i64 (-1),.string Zd,.string Zd,.int .u64 0,.int .i64 0,.slice none 0 0]
end Go.Proofs.hq
end

section
namespace Go.Hb
open Go Go.RowKit
def dNilK (v:Value) (H:Heap):Option Dr:=match v with
 |.pointer (some a)=>some (.val (.pointer (some a)) H)
 |.func (.func f) a b=>some (.val (.func (.func f) a b) H)
 |_=>none
theorem zhr {P:Program}{H:Heap}{d:Option Tmp}{x:Operand}{ty:TypeId}{pos:String}{af:Array Edge}{g:Option (Nat × Bool)}{ρ:Operand->Value}:dop P ⟨d,.nilCheck x,ty,pos,af,g⟩ ρ H=dNilK (ρ x) H:=_root_.id rfl
theorem ze3 {H:Heap}{a:Addr}:dNilK (.pointer (some a)) H=some (.val (.pointer (some a)) H):=_root_.id rfl
end Go.Hb
namespace Go.Proofs.hq
open Go Go.RowKit Go.Hb
variable {ok:Ok}
set_option maxRecDepth 10000
attribute [local irreducible] LX LG EL STG SOP SGO SGD SAL SRD SEF SEG SLK SCK ES
theorem zmw:taZ Tryz.prog 100=some (.pointer none):=by kernel_rfl
end Go.Proofs.hq
end

section
namespace Go.Proofs.hq
open Go Go.RowKit Go.Hb
variable {ok:Ok}
set_option maxRecDepth 10000
attribute [local irreducible] LX LG EL STG SOP SGO SGD SAL SRD SEF SEG SLK SCK ES
abbrev sClause:ByteArray:=⟨#[99,108,97,117,115,101]⟩
structure Cls where
 head:Tm
 body:Bdy
 vars:Int
def zeroC:Cls:=⟨zeroT,zeroB,0⟩
noncomputable def madeC (h r:Tm):Cls:=⟨(plainL [h,r]).getD 0 zeroT,(readyS ((plainL [h,r]).getD 1 zeroT)).1,(uniq (occL (plainL [h,r]))).length⟩
noncomputable def readB (m:ByteArray) (h r:Tm):ByteArray × Cls × Er :=
 if h.kind=1 then (Zd,zeroC,.ball (atmT sInst))
 else if isNum h then (Zd,zeroC,.ball (typeT sCallable h))
 else match bodyF (SizeOf.sizeOf r+1) r with
  |none=>(Zd,zeroC,.ball (typeT sCallable r))
  |some b=>if 400 < cnt h 0+cnt (toldB b) 0 then (Zd,zeroC,.ball (resT sClause)) else (m,madeC h r,.ok)
noncomputable def readH (m:ByteArray) (h r:Tm):ByteArray × Cls × Er :=
 match stripS m h with
 |(m2,h2,.ok)=>readB m2 h2 r
 |(_,_,e)=>(Zd,zeroC,e)
noncomputable def headOf (t:Tm):Tm:=if isF t sNck then t.at 0 else t
noncomputable def restOf (t:Tm):Tm:=if isF t sNck then t.at 1 else atmT sTrue
noncomputable def readS (m:ByteArray) (t:Tm):ByteArray × Cls × Er :=
 if checkS t≠0 then (Zd,zeroC,.num (checkS t))
 else match stripS m t with
  |(m1,t1,.ok)=>readH m1 (headOf t1) (restOf t1)
  |(_,_,e)=>(Zd,zeroC,e)
abbrev fift (h:Tm) (ha:Option Addr) (hc:Nat) (k:Int) (t:Tm) (ta:Option Addr) (tc:Nat) (a:Option Addr) (n c:Nat) (v:Int):List Value :=
 [.int .i64 h.kind,.string h.name,.string h.num,.int .u64 h.bits,.int .i64 h.var,.slice ha h.args.length hc,.int .i64 k,.int .i64 t.kind,.string t.name,.string t.num,.int .u64 t.bits,.int .i64 t.var,.slice ta t.args.length tc,.slice a n c,.int .i64 v]
abbrev zero15:List Value:=[.int .i64 0,.string Zd,.string Zd,.int .u64 0,.int .i64 0,.slice none 0 0,.int .i64 0,.int .i64 0,.string Zd,.string Zd,.int .u64 0,.int .i64 0,.slice none 0 0,.slice none 0 0,.int .i64 0]
def RepC (H:Heap) (S:Nat->Prop) (c:Cls) (cs:List Value):Prop:=∃ha hc ta tc a k,cs=fift c.head ha hc c.body.kind c.body.term ta tc a c.body.sub.length k c.vars/\RepS H S c.head (six c.head ha hc)/\OB H 45 28 S c.body (eightT c.body.kind c.body.term ta tc a c.body.sub.length k)
theorem RepC.zero {H:Heap}{S:Nat->Prop}:RepC H S zeroC zero15:=⟨none,0,none,0,none,0,rfl,RepS.leaf zbv rfl (Zl _) fun _=>rfl,OB.nil (by decide)⟩
theorem RepC.to {H H2:Heap}{S S2:Nat->Prop}{c:Cls}{cs:List Value}(h:RepC H S c cs) (hk:∀n,S n->n < H.next->H2.get n=H.get n/\S2 n/\n < H2.next) (hs:∀n,S n->S2 n):RepC H2 S2 c cs:=by
 obtain⟨ha,hc,ta,tc,a,k,h1,h2,h3⟩:=h;exact⟨ha,hc,ta,tc,a,k,h1,h2.to hk,h3.to (fun n hn hl=>⟨(hk n hn hl).1,(hk n hn hl).2.2⟩) hs⟩
theorem z26 {H:Heap}{p:Nat}{T:TypeId}{x0 x1 x2 x3 x4 x5 x6 x7 x8 x9 xa xb xc xd xe:Value}(h:H.get p=some (Blk.row [x0,x1,x2,x3,x4,x5,x6,x7,x8,x9,xa,xb,xc,xd,xe] T)) :
  H.load ⟨p,0,none⟩ 6=some [x0,x1,x2,x3,x4,x5]/\H.load ⟨p,6,none⟩ 8=some [x6,x7,x8,x9,xa,xb,xc,xd]/\H.load ⟨p,14,none⟩ 1=some [xe]/\H.load ⟨p,0,none⟩ 15=some [x0,x1,x2,x3,x4,x5,x6,x7,x8,x9,xa,xb,xc,xd,xe]:=by
 refine⟨?_,?_,?_,?_⟩<;>simp only[Heap.load,Heap.cells,h]<;>rfl
def ReadEnd (H:Heap) (R:ByteArray × Cls × Er) (v:Value) (H':Heap):Prop:=HX H H'/\∃cs ev,v=.tuple ⟨[.string R.1,.agg ⟨cs⟩,ev]⟩/\RepC H' (Rg H.next H'.next) R.2.1 cs/\RepES H' (Rg H.next H'.next) R.2.2 ev
theorem zr0:isIface Tryz.prog 69=true:=by kernel_rfl
theorem ze4 {H:Heap}{x y:Operand}{T:TypeId}{v:Value}:dBin Tryz.prog .neq 69 x y (.iface T v) .nilIface H=some (.val (.bool true) H):=by
 simp only[dBin,dnil,zr0,nilEq,if_true]
theorem zup {H:Heap}{x y:Operand}{T:TypeId}{v:Value}:dBin Tryz.prog .eql 69 x y (.iface T v) .nilIface H=some (.val (.bool false) H):=by
 simp only[dBin,dnil,zr0,nilEq,if_true]
theorem zax {n:Nat}{H:Heap}:dBin Tryz.prog .neq 69 (.tmp n) (.const .nilIface) .nilIface .nilIface H=some (.val (.bool false) H):=by kernel_rfl
theorem zuq {n:Nat}{H:Heap}:dBin Tryz.prog .eql 69 (.tmp n) (.const .nilIface) .nilIface .nilIface H=some (.val (.bool true) H):=by kernel_rfl
theorem RepE.some {H:Heap}{e:Er}{v:Value}(h:RepE H e v) (he:e≠.ok):∃T x,v=.iface T x:=by
 cases e with
 |ok=>exact absurd rfl he
 |num n=>exact⟨_,_,h⟩
 |ball t=>obtain⟨p,a,c,h,-⟩:=h;exact⟨_,_,h⟩
theorem z7c:checkS (atmT sTrue)=0:=by kernel_rfl
theorem z2z {H G:Heap}{R:ByteArray × Cls × Er}{e:Er}{ev:Value}{tm:Tr Value}{cs5:List Value}{lo hi:Nat}(hR:R=(Zd,zeroC,e)) (hx:HX H G) (g5:G.get (H.next+1)=some (.row cs5 47)) (t4:tm.get 4=some (.string Zd)) (t5:tm.get 5=some (.pointer (some ⟨H.next+1,0,none⟩))) (t6:tm.get 6=some ev)
  (he:RepES G (Rg lo hi) e ev) (h1:H.next+2<=lo) (h2:hi<=G.next):Ex.leave Tryz.prog okT Tryz.f22 (ReadEnd H R) .ret ⟨tm,[],G.put (H.next+1) (some (.row zero15 47))⟩:=by
 have hz:=hx.pt (i:=H.next+1) (by omega) g5 (some (.row zero15 47));subst hR;refine z4p rfl t4 t5 (by simp only[sB,Zb,cutC,ld47]) t6 ⟨hz,_,_,rfl,RepC.zero,he.to fun n hn hl=>?_⟩;have:=hn.1;exact⟨by rw[get_put,if_neg (by omega)],⟨by omega,by rw[z07];exact hl⟩,by rw[z07];exact hl⟩
set_option maxHeartbeats 16000000 in
theorem zsz {m:ByteArray}{t:Tm}{cs:List Value}{H:Heap}(r0:RepT H t cs) (hw:H.wf):EvF Tryz.prog okT 22 [.string m,.agg ⟨cs⟩] H (ReadEnd H (readS m t)):=by
 obtain⟨a,c,cells,rfl,-⟩:=r0.six;refine EvF.enter rfl Tryz.func22 (by decide) rfl ?_;(repeat refine qZa ?_);refine qZb ?_;simp (config:=qZc) (disch:=first|omega|rfl) only[sB,initTm,dBox,dAlloc,Value.cells,one,reduceCtorEq,zr47];obtain⟨H2,e2,hx2,g3,g5,hn2,hw2⟩:=new2 hw (.row (six t a c) 28) (.row zero15 47);simp only[e2];clear e2;(repeat refine qZa ?_);refine qZb ?_;simp (config:=qZc) (disch:=first|omega|rfl) only[sA,dAlloc,zr47];obtain⟨H3,e3,hx3,g7,hn3,w3⟩:=new1 hw2 (.row zero15 47);simp only[e3];clear e3;have g3:=hx3.get hw2 g3;have g5:=hx3.get hw2 g5;have hx:=hx2.trans hx3;have q3:=row6 g3;(repeat refine qZa ?_);refine qZb ?_;simp (config:=qZc) (disch:=first|omega|rfl) only[sB,Za,reduceCtorEq,ld28,cl18,q3];refine(z25 t _ _ (r0.mono hx hw) w3).mono ?_;rintro v H4 ⟨rfl,hx4⟩;have g3:=hx4.get w3 g3;have g5:=hx4.get w3 g5;have g7:=hx4.get w3 g7;have hx:=hx.trans hx4;have w4:=hx.wf;have n4:=hx4.next;have q3:=row6 g3;have q7:=z26 g7;(try simp (config:=qZc) (disch:=first|omega|rfl) only[]);by_cases hc:checkS t=0;rotate_left
 ·have hR:readS m t=(Zd,zeroC,.num (checkS t)):=by unfold readS;rw[if_pos hc]
  repeat' (first|refine qZa ?_|(refine qZf ?_;try simp only[z06,z01])|(refine qZb ?_;simp (config:=qZc) (disch:=first|omega|rfl) only[sB,Za,reduceCtorEq,z1z hc])|(refine qZj (id:=4) [([(0,0),(3,0)],some 4),([(1,0),(2,0),(5,1)],none)] ?_ ?_;kernel_rfl;simp (config:=qZc) (disch:=first|omega|rfl) only[sD,sB,Za,Zb,one,reduceCtorEq,ld47,st47,q7,g5,z1g,z9b zmo,isAlloc,isRead,zgs,Bool.and_true])|(refine qZd ?_ ?_;simp (config:=qZc) (disch:=first|omega|rfl) only[sB,Za,reduceCtorEq];refine z02 ?_))
  exact z2z hR (hx.bump _) g5 (by simp only[sB,Za,reduceCtorEq];rfl) (by simp only[sG,Za,reduceCtorEq]) (by simp only[sG,Za,reduceCtorEq]) (RepES.num (S:=Rg (H.next+2) (H.next+2))) (Ze _) (by show H.next+2<=H4.next+_;omega)
 (repeat refine qZa ?_);refine qZb ?_;simp (config:=qZc) (disch:=first|omega|rfl) only[sB,Za,reduceCtorEq,z15 hc];refine qZm (by simp (config:=qZc) (disch:=first|omega|rfl) only[sB,Za,reduceCtorEq]) ?_;(try refine qZe ?_);(try simp only[z00,z04]);(repeat refine qZa ?_);refine qZb ?_;simp (config:=qZc) (disch:=first|omega|rfl) only[sB,Za,reduceCtorEq,ld28,cl47,q3];refine(zhq (m:=m) r0 hx hw hc w4).mono ?_;rintro v H5 ⟨hx5,a1,c1,ev1,rfl,r1,he1,hc1⟩;have g3:=hx5.get w4 g3;have g5:=hx5.get w4 g5;have g7:=hx5.get w4 g7;have hx5':=hx.trans hx5;have n5:=hx5.next;obtain⟨⟨m1,t1,e1⟩,hS⟩:∃R,stripS m t=R:=⟨_,rfl⟩
 rw[hS] at r1 he1 hc1 ⊢;simp only at r1 he1 hc1;(try simp (config:=qZc) (disch:=first|omega|rfl) only[sB,Za,Zb,one,reduceCtorEq,st28,g3]);obtain⟨H6,e6⟩:∃H6,H5.put H.next (some (.row (six t1 a1 c1) 28))=H6:=⟨_,rfl⟩
 simp only[e6];have hx6:HX H H6:=by rw[<-e6];exact hx5'.pt (i:=H.next) (Ze _) g3 _
 have n6:H6.next=H5.next:=by rw[<-e6];rfl
 have k6:∀n,n≠H.next->H6.get n=H5.get n:=fun n hn=>by rw[<-e6,get_put,if_neg hn]
 have g3:H6.get H.next=some (.row (six t1 a1 c1) 28):=by rw[<-e6,get_put,if_pos rfl]
 have g5:=(k6 _ (by omega)).trans g5;have g7:=(k6 _ (by omega)).trans g7;clear e6;have w6:=hx6.wf;have he1:RepES H6 (Rg H4.next H5.next) e1 ev1:=he1.to fun n hn hl=>⟨k6 n (by have:=hn.1;omega),hn,by omega⟩
 have q3:=row6 g3;have q7:=z26 g7;by_cases ho:e1=.ok;rotate_left
 ·have hR:readS m t=(Zd,zeroC,e1):=by
   unfold readS;rw[if_neg (fun h=>h hc),hS];cases e1 with
   |ok=>exact absurd rfl ho
   |num n=>rfl
   |ball u=>rfl
  obtain⟨T0,x0,rfl⟩:=he1.rep.some ho
  repeat' (first|refine qZa ?_|(refine qZf ?_;try simp only[z06,z01])|(refine qZb ?_;simp (config:=qZc) (disch:=first|omega|rfl) only[sB,Za,reduceCtorEq,ze4])|(refine qZj (id:=7) [([(0,0),(2,0)],some 3),([(1,0),(4,1)],none)] ?_ ?_;kernel_rfl;simp (config:=qZc) (disch:=first|omega|rfl) only[sD,sB,Za,Zb,one,reduceCtorEq,ld47,st47,q7,g5,isAlloc,isRead,Bool.and_true])|(refine qZd ?_ ?_;simp (config:=qZc) (disch:=first|omega|rfl) only[sB,Za,reduceCtorEq];refine z02 ?_))
  exact z2z hR (hx6.bump _) g5 (by simp only[sB,Za,reduceCtorEq];rfl) (by simp only[sG,Za,reduceCtorEq]) (by simp only[sG,Za,reduceCtorEq]) (RepES.to he1 fun n hn hl=>⟨rfl,hn,by show n < H6.next+_;omega⟩) (by omega) (by show _<=H6.next+_;omega)
 subst ho;obtain rfl:ev1=.nilIface:=he1.rep;(repeat refine qZa ?_);refine qZb ?_;simp (config:=qZc) (disch:=first|omega|rfl) only[sB,Za,reduceCtorEq,zax];refine qZm (by simp (config:=qZc) (disch:=first|omega|rfl) only[sB,Za,reduceCtorEq]) ?_;(try refine qZe ?_);(try simp only[z00,z04]);(repeat refine qZa ?_);refine EvC.meet (fun st=>∃tm G p10 p11,st=⟨tm,[],G⟩/\tm.get 0=some (.string m1)/\tm.get 3=some (.pointer (some ⟨H.next,0,none⟩))/\tm.get 5=some (.pointer (some ⟨H.next+1,0,none⟩))/\tm.get 7=some (.pointer (some ⟨H2.next,0,none⟩)) /\
  tm.get 10=some (.pointer (some ⟨p10,0,none⟩))/\tm.get 11=some (.pointer (some ⟨p11,0,none⟩))/\G.get p10=some (.row (six t1 a1 c1) 28)/\G.get p11=some (.row (six (atmT sTrue) none 0) 28)/\p10≠p11/\H6.next<=p10/\H6.next<=p11/\HX H6 G) ?_ ?_
 ·refine qZj [([],some 1),([(0,0),(2,0),(3,0)],some 4),([],some 5),([],none)] (by kernel_rfl) ?_;simp (config:=qZc) (disch:=first|omega|rfl) only[sD,sA,Zb,cl48];have hb:=(HX.refl w6).bump 6;refine(z4d (s:=sTrue) hb.wf).mono ?_;rintro v H7 ⟨rfl,hx7⟩;have hx67:=hb.trans hx7;have q37:=row6 (hx67.get w6 g3);have n7:H6.next+6<=H7.next:=hx7.next;have w7:=hx7.wf
  repeat' (first|(refine z0p ?_;simp (config:=qZc) (disch:=first|omega|rfl) only[sV,sD,sB,dAlloc,Za,Zb,one,reduceCtorEq,ld28,st28,zr28,q3,q37,neu,neu',isAlloc,isRead,dalloc]))
  exact⟨_,_,H6.next+2,H6.next+3,rfl,(by simp only[sG,reduceCtorEq]),(by simp only[sG,Za,reduceCtorEq]),(by simp only[sG,Za,reduceCtorEq]),(by simp only[sG,Za,reduceCtorEq]),(by simp only[sG,Za,reduceCtorEq]),(by simp only[sG,Za,reduceCtorEq]),by rw[get_put,if_neg (by omega),get_put,if_pos rfl],by rw[get_put,if_pos rfl],by omega,by omega,by omega,
   (((hx67.put (i:=H6.next+2) (by omega) (by omega) _).put (i:=H6.next+3) (by omega) (by show _ < H7.next;omega) _).put (i:=H6.next+2) (by omega) (by show _ < H7.next;omega) _).put (i:=H6.next+3) (by omega) (by show _ < H7.next;omega) _⟩
 ·rintro st ⟨tm,G,p10,p11,rfl,t0,t3,t5,t7,t10,t11,g10,g11,hne,h10,h11,hxG⟩;simp only[z00];have wG:=hxG.wf;have g3:=hxG.get w6 g3;have g5:=hxG.get w6 g5;have g7:=hxG.get w6 g7;have hxHG:=hx6.trans hxG;have q3:=row6 g3;(repeat refine qZa ?_);refine qZb ?_;simp (config:=qZc) (disch:=first|omega|rfl) only[sB,ld28,cl49,t3,q3];refine(z7q (s:=sNck) (r1.mono hxHG hw) wG).mono ?_;rintro v H8 ⟨rfl,hx8⟩;have g3:=hx8.get wG g3;have g5:=hx8.get wG g5;have g7:=hx8.get wG g7;have g10:=hx8.get wG g10;have g11:=hx8.get wG g11;have hxH8:=hxHG.trans hx8;have q3:=row6 g3;have w8:=hx8.wf;have n8:=hx8.next;have nG:=hxG.next;(try simp (config:=qZc) (disch:=first|omega|rfl) only[]);refine EvC.join (fun st=>∃tm G ah ch ar cr,st=⟨tm,[],G⟩/\tm.get 0=some (.string m1)/\tm.get 3=some (.pointer (some ⟨H.next,0,none⟩))/\tm.get 5=some (.pointer (some ⟨H.next+1,0,none⟩))/\tm.get 7=some (.pointer (some ⟨H2.next,0,none⟩)) /\
   tm.get 10=some (.pointer (some ⟨p10,0,none⟩))/\tm.get 11=some (.pointer (some ⟨p11,0,none⟩))/\G.get p10=some (.row (six (headOf t1) ah ch) 28)/\G.get p11=some (.row (six (restOf t1) ar cr) 28) /\ 
   G.get (H.next+1)=some (.row zero15 47)/\G.get H2.next=some (.row zero15 47)/\RepT H (headOf t1) (six (headOf t1) ah ch)/\RepT H (restOf t1) (six (restOf t1) ar cr)/\checkS (headOf t1)=0/\checkS (restOf t1)=0/\HX H G) ?_ ?_
  ·by_cases hn:isF t1 sNck
   ·obtain⟨x,y,hxy⟩:∃x y,t1.args=[x,y]:=by
     match hl:t1.args,hn.2.2 with
     |[x,y],_=>exact⟨x,y,rfl⟩
    have eh:headOf t1=x:=by unfold headOf;rw[if_pos hn];unfold Tm.at;rw[hxy];rfl
    have er:restOf t1=y:=by unfold restOf;rw[if_pos hn];unfold Tm.at;rw[hxy];rfl
    have x0:t1.args[0]'(by rw[hxy];simp)=x:=by simp [hxy]
    have y1:t1.args[1]'(by rw[hxy];simp)=y:=by simp [hxy]
    obtain⟨a0,c0,cells0,hcs,-,-,-,-,-,rl⟩:=r1.six;obtain⟨-,-,-,-,-,rfl,rfl⟩:=z78 hcs;obtain⟨b,o,ax,cx,rfl,hld0,hr0⟩:=rl.el (i:=0) (by rw[hxy];simp);obtain⟨b',o',ay,cy,e2,hld1,hr1⟩:=rl.el (i:=1) (by rw[hxy];simp);cases e2;rw[x0] at hld0 hr0;rw[y1] at hld1 hr1;simp only[ZK,Nat.add_zero,Nat.one_mul] at hld0 hld1;have hcx:=z17 hc1 (u:=x) (by rw[hxy];simp);have hcy:=z17 hc1 (u:=y) (by rw[hxy];simp);have l0:=hxH8.load hw hld0;have l1:=hxH8.load hw hld1;have hxl:t1.args.length=2:=hn.2.2;have nf1:(p10=p11)=False:=eq_false hne;have nf2:(p11=p10)=False:=eq_false (Ne.symm hne);refine qZd (by simp (config:=qZc) (disch:=first|omega|rfl) only[sB,Za,decide_eq_true hn]) ?_;(try refine qZe ?_);(try simp only[z00,z04]);have lb:=zby hw hld0;have n56:=hx6.next;have nf3:(H.next=p10)=False:=by simp;omega
    have nf4:(b=p10)=False:=by simp;omega
    refine qZj [([(0,0),(1,0),(2,0),(3,0)],some 8),([(4,0),(5,0),(6,0),(7,0)],some 9),([],none)] (by kernel_rfl) ?_;simp (config:=qZc) (disch:=first|omega|rfl) only[sV,sD,sB,Za,Zb,one,reduceCtorEq,cutC,Int.reduceToNat,ld28,st28,z0u,ld26,isAlloc,isRead,t3,t10,t11,q3,g10,g11,hxl,l0,l1,iz26,ZK,Nat.one_mul,nf2,nf3,nf4];rw[eh,er];have hz:=((hxH8.bump 10).pt (i:=p10) (by omega) (show Heap.get ⟨H8.next+10,H8.t⟩ p10=_ from g10) (some (.row (six x ax cx) 28))).pt (i:=p11) (by omega) (by rw[get_put,if_neg (Ne.symm hne)];exact g11) (some (.row (six y ay cy) 28));exact⟨_,_,ax,cx,ay,cy,rfl,(by simp only[sG,reduceCtorEq,t0]),(by simp only[sG,Za,t3]),(by simp only[sG,Za,t5]),(by simp only[sG,Za,t7]),(by simp only[sG,Za,t10]),(by simp only[sG,Za,t11]),by rw[get_put,if_neg hne,get_put,if_pos rfl],by rw[get_put,if_pos rfl],by rw[get_put,if_neg (by omega),get_put,if_neg (by omega)];exact g5,by rw[get_put,if_neg (by omega),get_put,if_neg (by omega)];exact g7,hr0,hr1,hcx,hcy,hz⟩
   ·have eh:headOf t1=t1:=by unfold headOf;rw[if_neg hn]
    have er:restOf t1=atmT sTrue:=by unfold restOf;rw[if_neg hn]
    rw[eh,er];refine qZm (by simp (config:=qZc) (disch:=first|omega|rfl) only[sB,Za,decide_eq_false hn]) ?_;(try refine qZe ?_);(try simp only[z00,z04]);exact⟨_,_,a1,c1,none,0,rfl,(by simp only[sG,reduceCtorEq,t0]),(by simp only[sG,Za,t3]),(by simp only[sG,Za,t5]),(by simp only[sG,Za,t7]),(by simp only[sG,Za,t10]),(by simp only[sG,Za,t11]),g10,g11,g5,g7,r1,(z4e (S:=fun _=>False) (by decide)).rep,hc1,z7c,hxH8⟩
  ·rintro st ⟨tm,G,ah,ch,ar,cr,rfl,t0,t3,t5,t7,t10,t11,g10,g11,g5,g7,rh,rr,hch,hcr,hxG⟩;simp only[z00];have hR1:readS m t=readH m1 (headOf t1) (restOf t1):=by
    unfold readS;rw[if_neg (fun h=>h hc),hS]
   rw[hR1];generalize headOf t1=h at *;generalize restOf t1=r at *;have wG:=hxG.wf;have q10:=row6 g10;(repeat refine qZa ?_);refine qZb ?_;simp (config:=qZc) (disch:=first|omega|rfl) only[sB,Za,ld28,cl47,t0,t10,q10];refine(zhq (m:=m1) rh hxG hw hch wG).mono ?_;rintro v H9 ⟨hx9,a2,c2,ev2,rfl,r2,he2,hc2⟩;have lp:=wG _ _ g10;have lq:=wG _ _ g11;have l7:=wG _ _ g7;have n9:=hx9.next;have g10:=hx9.get wG g10;have g11:=hx9.get wG g11;have g5:=hx9.get wG g5;have g7:=hx9.get wG g7;have hx9':=hxG.trans hx9;obtain⟨⟨m2,t2,e2⟩,hS2⟩:∃R,stripS m1 h=R:=⟨_,rfl⟩
   rw[hS2] at r2 he2 hc2 ⊢;simp only at r2 he2 hc2;have b10:H.next+3<=p10:=by omega
   have b11:H.next+3<=p11:=by omega
   (try simp (config:=qZc) (disch:=first|omega|rfl) only[sB,Za,Zb,one,reduceCtorEq,st28,t10,g10]);obtain⟨H10,e10⟩:∃H10,H9.put p10 (some (.row (six t2 a2 c2) 28))=H10:=⟨_,rfl⟩
   simp only[e10];have hx10:HX H H10:=by rw[<-e10];exact hx9'.pt (i:=p10) (by omega) g10 _
   have n10:H10.next=H9.next:=by rw[<-e10];rfl
   have k10:∀n,n≠p10->H10.get n=H9.get n:=fun n hn=>by rw[<-e10,get_put,if_neg hn]
   have g10:H10.get p10=some (.row (six t2 a2 c2) 28):=by rw[<-e10,get_put,if_pos rfl]
   have g5:=(k10 _ (by omega)).trans g5;have g7:=(k10 _ (by omega)).trans g7;have g11:=(k10 _ (Ne.symm hne)).trans g11;clear e10;have w10:=hx10.wf;have he2:RepES H10 (Rg G.next H9.next) e2 ev2:=he2.to fun n hn hl=>⟨k10 n (by have:=hn.1;omega),hn,by omega⟩
   have q10:=row6 g10;have q11:=row6 g11;have q7:=z26 g7;have dG:H.next+2<=G.next:=by omega
   clear g3 q3;by_cases ho2:e2=.ok;rotate_left
   ·have hR:readH m1 h r=(Zd,zeroC,e2):=by
     unfold readH;rw[hS2];cases e2 with
     |ok=>exact absurd rfl ho2
     |num n=>rfl
     |ball u=>rfl
    obtain⟨T0,x0,rfl⟩:=he2.rep.some ho2
    repeat' (first|refine qZa ?_|(refine qZf ?_;try simp only[z06,z01])|(refine qZb ?_;simp (config:=qZc) (disch:=first|omega|rfl) only[sB,Za,reduceCtorEq,ze4])|(refine qZj (id:=13) [([(0,0),(2,0)],some 3),([(1,0),(4,1)],none)] ?_ ?_;kernel_rfl;simp (config:=qZc) (disch:=first|omega|rfl) only[sD,sB,Za,Zb,one,reduceCtorEq,ld47,st47,t5,t7,q7,g5,isAlloc,isRead,Bool.and_true])|(refine qZd ?_ ?_;simp (config:=qZc) (disch:=first|omega|rfl) only[sB,Za,reduceCtorEq];refine z02 ?_))
    exact z2z hR (hx10.bump _) g5 (by simp only[sB,Za,reduceCtorEq];rfl) (by simp only[sG,Za,reduceCtorEq,t5]) (by simp only[sG,Za,reduceCtorEq]) (RepES.to he2 fun n hn hl=>⟨rfl,hn,by show n < H10.next+_;omega⟩) dG (by show _<=H10.next+_;omega)
   subst ho2;obtain rfl:ev2=.nilIface:=he2.rep;have hR2:readH m1 h r=readB m2 t2 r:=by unfold readH;rw[hS2]
   rw[hR2];(repeat refine qZa ?_);refine qZb ?_;simp (config:=qZc) (disch:=first|omega|rfl) only[sB,Za,reduceCtorEq,zax];refine qZm (by simp (config:=qZc) (disch:=first|omega|rfl) only[sB,Za,reduceCtorEq]) ?_;(try refine qZe ?_);(try simp only[z00,z04]);(repeat refine qZa ?_);refine qZb ?_;simp (config:=qZc) (disch:=first|omega|rfl) only[sB,Za,reduceCtorEq,z0i,ld3,t10,q10];(repeat refine qZa ?_);refine EvC.join (fun st=>∃tm',st=⟨tm',[],H10⟩/\tm'.get 0=some (.string m2)/\tm'.get 5=some (.pointer (some ⟨H.next+1,0,none⟩))/\tm'.get 7=some (.pointer (some ⟨H2.next,0,none⟩)) /\
    tm'.get 10=some (.pointer (some ⟨p10,0,none⟩))/\tm'.get 11=some (.pointer (some ⟨p11,0,none⟩))/\t2.kind≠1/\¬isNum t2) ?_ ?_
   ·refine qZg ?_;by_cases k1:t2.kind=1
    ·have hR:readB m2 t2 r=(Zd,zeroC,.ball (atmT sInst)):=by unfold readB;rw[if_pos k1]
     (repeat refine qZa ?_);refine qZb ?_;simp (config:=qZc) (disch:=first|omega|rfl) only[sB,Za,reduceCtorEq,z0l k1];refine qZd (by simp (config:=qZc) (disch:=first|omega|rfl) only[sB,Za,reduceCtorEq]) ?_;(try refine qZe ?_);(try simp only[z00,z04]);(repeat refine qZa ?_);refine qZj [([],some 1),([],some 2),([(0,0),(3,2)],some 4),([(5,3)],none)] (by kernel_rfl) ?_;simp (config:=qZc) (disch:=first|omega|rfl) only[sD,sA,Zb,cl48];have hb:=(HX.refl w10).bump 6;refine(z4d hb.wf).mono ?_;rintro v H11 ⟨rfl,hx11⟩;have w11:=hx11.wf;have q711:=z26 ((hb.trans hx11).get w10 g7)
     repeat' (first|(refine z0p ?_;simp (config:=qZc) (disch:=first|omega|rfl) only[sD,sB,Za,reduceCtorEq,cl50]))
     refine(z81 (S:=fun _=>False) (z4e (by decide)) w11 (fun _ h=>h.elim)).mono ?_;rintro v H12 ⟨hx12,he12⟩;have hx02:=(hb.trans hx11).trans hx12;have q712:=z26 (hx02.get w10 g7);have g5:=hx02.get w10 g5
     repeat' (first|(refine qZf ?_;try simp only[z06,z01])|(refine z0p ?_;simp (config:=qZc) (disch:=first|omega|rfl) only[sV,sD,sB,Za,Zb,one,reduceCtorEq,ld47,st47,t5,t7,q7,q711,q712,g5,isAlloc,isRead]))
     have n11:H10.next+6<=H11.next:=hx11.next;exact z2z (lo:=H11.next) (hi:=H12.next) hR (hx10.trans hx02) g5 (by simp only[sB,Za,reduceCtorEq];rfl) (by simp only[sG,Za,reduceCtorEq,t5]) (by simp only[sG,Za,reduceCtorEq]) (he12.to fun n hn hl=>⟨rfl,hn.resolve_left (fun h=>h),hl⟩) (by omega) (Ze _)
    by_cases k3:isNum t2
    ·have hR:readB m2 t2 r=(Zd,zeroC,.ball (typeT sCallable t2)):=by unfold readB;rw[if_neg k1,if_pos k3]
     (repeat refine qZa ?_);refine qZb ?_;simp (config:=qZc) (disch:=first|omega|rfl) only[sB,Za,reduceCtorEq,z0g k1];refine qZm (by simp (config:=qZc) (disch:=first|omega|rfl) only[sB,Za,reduceCtorEq]) ?_;(try refine qZe ?_);(try simp only[z00,z04]);by_cases k33:t2.kind=3
     ·(repeat refine qZa ?_);refine qZb ?_;simp (config:=qZc) (disch:=first|omega|rfl) only[sB,Za,reduceCtorEq,z0l k33];refine qZd (by simp (config:=qZc) (disch:=first|omega|rfl) only[sB,Za,reduceCtorEq]) ?_;(try refine qZe ?_);(try simp only[z00,z04]);refine qZd (by simp (config:=qZc) (disch:=first|omega|rfl) only[sB,Za,reduceCtorEq]) ?_;(try refine qZe ?_);(try simp only[z00,z04]);(repeat refine qZa ?_);refine qZj [([(1,0)],some 2),([(0,0),(3,1)],some 4),([(5,2)],none)] (by kernel_rfl) ?_;simp (config:=qZc) (disch:=first|omega|rfl) only[sD,sB,Za,Zb,reduceCtorEq,ld28,cl51,isAlloc,isRead,t10,q10];have hb:=(HX.refl w10).bump 6;refine(z6v (s:=sCallable) (by decide) ((r2.mono hx10 hw).mono hb w10) hc2 hb.wf).mono ?_;rintro v H12 ⟨hx12,he12⟩;have hx02:=hb.trans hx12;have q712:=z26 (hx02.get w10 g7);have g5:=hx02.get w10 g5
      repeat' (first|(refine qZf ?_;try simp only[z06,z01])|(refine z0p ?_;simp (config:=qZc) (disch:=first|omega|rfl) only[sV,sD,sB,Za,Zb,one,reduceCtorEq,ld47,st47,t5,t7,q7,q712,g5,isAlloc,isRead]))
      have n11:H10.next+6<=H12.next:=hx12.next;exact z2z (lo:=H10.next+6) (hi:=H12.next) hR (hx10.trans hx02) g5 (by simp only[sB,Za,reduceCtorEq];rfl) (by simp only[sG,Za,reduceCtorEq,t5]) (by simp only[sG,Za,reduceCtorEq]) (he12.to fun n hn hl=>⟨rfl,hn,hl⟩) (by omega) (Ze _)
     ·have k44:t2.kind=4:=k3.resolve_left k33;(repeat refine qZa ?_);refine qZb ?_;simp (config:=qZc) (disch:=first|omega|rfl) only[sB,Za,reduceCtorEq,z0g k33];refine qZm (by simp (config:=qZc) (disch:=first|omega|rfl) only[sB,Za,reduceCtorEq]) ?_;(try refine qZe ?_);(try simp only[z00,z04]);refine qZb ?_;simp (config:=qZc) (disch:=first|omega|rfl) only[sB,Za,reduceCtorEq,z0l k44];refine qZd (by simp (config:=qZc) (disch:=first|omega|rfl) only[sB,Za,reduceCtorEq]) ?_;(try refine qZe ?_);(try simp only[z00,z04]);(repeat refine qZa ?_);refine qZj [([(1,0)],some 2),([(0,0),(3,1)],some 4),([(5,2)],none)] (by kernel_rfl) ?_;simp (config:=qZc) (disch:=first|omega|rfl) only[sD,sB,Za,Zb,reduceCtorEq,ld28,cl51,isAlloc,isRead,t10,q10];have hb:=(HX.refl w10).bump 6;refine(z6v (s:=sCallable) (by decide) ((r2.mono hx10 hw).mono hb w10) hc2 hb.wf).mono ?_;rintro v H12 ⟨hx12,he12⟩;have hx02:=hb.trans hx12;have q712:=z26 (hx02.get w10 g7);have g5:=hx02.get w10 g5
      repeat' (first|(refine qZf ?_;try simp only[z06,z01])|(refine z0p ?_;simp (config:=qZc) (disch:=first|omega|rfl) only[sV,sD,sB,Za,Zb,one,reduceCtorEq,ld47,st47,t5,t7,q7,q712,g5,isAlloc,isRead]))
      have n11:H10.next+6<=H12.next:=hx12.next;exact z2z (lo:=H10.next+6) (hi:=H12.next) hR (hx10.trans hx02) g5 (by simp only[sB,Za,reduceCtorEq];rfl) (by simp only[sG,Za,reduceCtorEq,t5]) (by simp only[sG,Za,reduceCtorEq]) (he12.to fun n hn hl=>⟨rfl,hn,hl⟩) (by omega) (Ze _)
    ·have k33:t2.kind≠3:=fun e=>k3 (.inl e)
     have k44:t2.kind≠4:=fun e=>k3 (.inr e)
     repeat' (first|refine qZa ?_|(refine qZe ?_;try simp only[sA])|(refine qZb ?_;simp (config:=qZc) (disch:=first|omega|rfl) only[sB,Za,reduceCtorEq,z0g k1,z0g k33,z0g k44])|(refine qZm ?_ ?_;simp (config:=qZc) (disch:=first|omega|rfl) only[sB,Za,reduceCtorEq];refine z02 ?_))
     exact⟨_,rfl,(by simp only[sG,reduceCtorEq]),(by simp only[sG,Za,reduceCtorEq,t5]),(by simp only[sG,Za,reduceCtorEq,t7]),(by simp only[sG,Za,reduceCtorEq,t10]),(by simp only[sG,Za,reduceCtorEq,t11]),k1,k3⟩
   ·rintro st ⟨tm',rfl,t0,t5,t7,t10,t11,k1,k3⟩;simp only[z00];have hR3:readB m2 t2 r=match bodyF (SizeOf.sizeOf r+1) r with
      |none=>(Zd,zeroC,.ball (typeT sCallable r))
      |some b=>if 400 < cnt t2 0+cnt (toldB b) 0 then (Zd,zeroC,.ball (resT sClause)) else (m2,madeC t2 r,.ok):=by
     unfold readB;rw[if_neg k1,if_neg k3]
    (repeat refine qZa ?_);refine qZb ?_;simp (config:=qZc) (disch:=first|omega|rfl) only[sB,Za,ld28,cl52,t11,q11];refine(z9g (rr.mono hx10 hw) w10).mono ?_;rintro v H11 ⟨hx11,out,ev,rfl,hob,hev⟩;obtain⟨ta,tc,sa,sc,rfl⟩:=hob.rep.eight;have w11:=hx11.wf;have n11:=hx11.next;(try simp (config:=qZc) (disch:=first|omega|rfl) only[sB,dAlloc,Za,Zb,one,zr45,st45]);obtain⟨H12,e12,hx12,g12,hn12,w12⟩:=z0m w11 (.row zero8 45) (.row (eightT (readyS r).1.kind (readyS r).1.term ta tc sa (readyS r).1.sub.length sc) 45);simp only[e12];clear e12;have hx012:=hx11.trans hx12;have hxH12:=hx10.trans hx012;have g10:=hx012.get w10 g10;have g11:=hx012.get w10 g11;have g5:=hx012.get w10 g5;have g7:=hx012.get w10 g7;have q10:=row6 g10;have q11:=row6 g11;have q12:=row8 g12;have q7:=z26 g7;have d12:H.next+2<=H12.next:=by have:=hx012.next;omega
    have hev:RepES H12 (Rg H10.next H11.next) (readyS r).2 ev:=hev.to fun n hn hl=>⟨hx12.keep n hl,hn,by omega⟩
    cases hb:bodyF (SizeOf.sizeOf r+1) r with
    |none =>
     have hrs:readyS r=(zeroB,.ball (typeT sCallable r)):=by unfold readyS;rw[if_neg (fun h=>h hcr),hb]
     rw[hb] at hR3;rw[hrs] at hev;obtain⟨pb,ab,cb,rfl,gb,rb⟩:=hev.rep;have qb:=row6 gb;have hne1:((typeT sCallable r).name.toList == sResE.toList)=false:=z5m (show sTypeE≠sResE by decide);(repeat refine qZa ?_);refine qZb ?_;simp (config:=qZc) (disch:=first|omega|rfl) only[sB,Za,z23,zff zmw];(repeat refine qZa ?_);refine qZj [([(0,0),(1,0),(2,0),(3,0),(4,0),(5,0),(6,0),(7,0),(8,0),(9,0),(10,0),(11,0),(12,0),(13,0)],some 14),([(15,0)],some 16),([],some 17),([(18,3),(19,3),(20,3),(21,3)],none)] (by kernel_rfl) ?_;simp (config:=qZc) (disch:=first|omega|rfl) only[sD,sB,Za,Zb,reduceCtorEq,zla,z11,ld9,isAlloc,isRead,qb,zhr,ze3,z0z,hne1,zup];refine qZm (by simp (config:=qZc) (disch:=first|omega|rfl) only[sB,Za]) ?_;(try refine qZe ?_);(try simp only[z00,z04])
     repeat' (first|refine qZa ?_|(refine qZf ?_;try simp only[z06,z01])|(refine qZb ?_;simp (config:=qZc) (disch:=first|omega|rfl) only[sB,Za,ze4])|(refine qZj (id:=25) [([(0,0),(2,0)],some 3),([(1,0),(4,1)],none)] ?_ ?_;kernel_rfl;simp (config:=qZc) (disch:=first|omega|rfl) only[sD,sB,Za,Zb,one,reduceCtorEq,ld47,st47,t5,t7,q7,g5,isAlloc,isRead,Bool.and_true])|(refine qZd ?_ ?_;simp (config:=qZc) (disch:=first|omega|rfl) only[sB,Za];refine z02 ?_))
     refine z2z (lo:=H10.next) (hi:=H11.next) hR3 ((hxH12.bump 22).bump 5) g5 (by simp only[sB,Za];rfl) (by simp only[sG,Za,t5]) (by simp only[sG,Za]) (hev.to fun n hn hl=>⟨rfl,hn,by show n < H12.next+22+5;omega⟩) (by omega) (by show _<=H12.next+22+5;omega)
    |some b =>
     rw[hb] at hR3;simp only at hR3;by_cases h4:4000 < cnt (toldB b) 0
     ·have hrs:readyS r=(zeroB,.ball (resT sNodes)):=by unfold readyS;rw[if_neg (fun h=>h hcr),hb];simp only;rw[if_pos h4]
      have hR4:readB m2 t2 r=(Zd,zeroC,.ball (resT sClause)):=by rw[hR3,if_pos (by omega)]
      rw[hrs] at hev;obtain⟨pb,ab,cb,rfl,gb,rb⟩:=hev.rep;have qb:=row6 gb;have hne1:((resT sNodes).name.toList == sResE.toList)=true:=z1a rfl;(repeat refine qZa ?_);refine qZb ?_;simp (config:=qZc) (disch:=first|omega|rfl) only[sB,Za,z23,zff zmw];(repeat refine qZa ?_);refine qZj [([(0,0),(1,0),(2,0),(3,0),(4,0),(5,0),(6,0),(7,0),(8,0),(9,0),(10,0),(11,0),(12,0),(13,0)],some 14),([(15,0)],some 16),([],some 17),([(18,3),(19,3),(20,3),(21,3)],none)] (by kernel_rfl) ?_;simp (config:=qZc) (disch:=first|omega|rfl) only[sD,sB,Za,Zb,reduceCtorEq,zla,z11,ld9,isAlloc,isRead,qb,zhr,ze3,z0z,hne1];refine qZd (by simp (config:=qZc) (disch:=first|omega|rfl) only[sB,Za]) ?_;(try refine qZe ?_);(try simp only[z00,z04]);(repeat refine qZa ?_);refine qZj [([],some 1),([(0,0),(2,1)],some 3),([(4,2)],none)] (by kernel_rfl) ?_;simp (config:=qZc) (disch:=first|omega|rfl) only[sD,sA,Zb,cl54];have hb2:HX H12 ⟨H12.next+22+5,H12.t⟩:=((HX.refl w12).bump 22).bump 5;refine(zc1 (s:=sClause) (by decide) hb2.wf).mono ?_
      rintro v H13 ⟨hx13,he13⟩;have hx23:=hb2.trans hx13;have q713:=z26 (hx23.get w12 g7);have g5:=hx23.get w12 g5
      repeat' (first|(refine qZf ?_;try simp only[z06,z01])|(refine z0p ?_;simp (config:=qZc) (disch:=first|omega|rfl) only[sV,sD,sB,Za,Zb,one,reduceCtorEq,ld47,st47,t5,t7,q7,q713,g5,isAlloc,isRead]))
      have n13:H12.next+22+5<=H13.next:=hx13.next;exact z2z (lo:=H12.next+22+5) (hi:=H13.next) hR4 (hxH12.trans hx23) g5 (by simp only[sB,Za];rfl) (by simp only[sG,Za,t5]) (by simp only[sG,Za]) (he13.to fun n hn hl=>⟨rfl,hn,hl⟩) (by omega) (Ze _)
     ·have hrs:readyS r=(b,.ok):=by unfold readyS;rw[if_neg (fun h=>h hcr),hb];simp only;rw[if_neg h4]
      rw[hrs] at hev;obtain rfl:ev=.nilIface:=hev.rep;(repeat refine qZa ?_);refine qZb ?_;simp (config:=qZc) (disch:=first|omega|rfl) only[sB,Za,z23,zmk zmw];(repeat refine qZa ?_);refine qZj [([(0,0),(1,0),(2,0),(3,0),(4,0),(5,0),(6,0),(7,0),(8,0),(9,0),(10,0),(11,0),(12,0),(13,0)],some 14),([(15,0)],some 16),([],some 17),([(18,3),(19,3),(20,3),(21,3)],none)] (by kernel_rfl) ?_;simp (config:=qZc) (disch:=first|omega|rfl) only[sD,sB,Za,Zb,reduceCtorEq,ld28,cl33,isAlloc,isRead,t10,q10,zuq];have hb2:HX H12 ⟨H12.next+22,H12.t⟩:=(HX.refl w12).bump 22;refine(z1j _ _ _ (r2.mono (hxH12.bump 22) hw) hb2.wf).mono ?_;rintro v H13 ⟨rfl,hx13⟩;have hx213:=hb2.trans hx13;have q1213:=row8 (hx213.get w12 g12)
      repeat' (first|(refine z0p ?_;simp (config:=qZc) (disch:=first|omega|rfl) only[sV,sD,sB,Za,reduceCtorEq,ld45,cl53,q12,q1213,isAlloc,isRead]))
      have hfew:=(z9f (z0k.1 hcr).2 hb).up (m:=1000000) (by decide);have hrb:(readyS r).1=b:=by rw[hrs]
      have w13:=hx13.wf;have hk3:=hx12.trans hx213;have hob13:OB H13 45 28 (Rg H10.next H11.next) (readyS r).1 _:=hob.keep hk3;refine(zc0 (Zf _) hob13.bi (by rw[hrb];exact hfew) (fun n hn=>by have:=hn.2;have:=hk3.next;omega) w13).mono ?_;rintro v H14 ⟨hx14,outT,rfl,hrT⟩;rw[hrb] at hrT
      repeat' (first|(refine z0p ?_;simp (config:=qZc) (disch:=first|omega|rfl) only[sD,sB,Za,cl33]))
      refine(z1j _ _ _ hrT.rep hx14.wf).mono ?_;rintro v H15 ⟨rfl,hx15⟩
      repeat' (first|(refine z0p ?_;simp (config:=qZc) (disch:=first|omega|rfl) only[sD,sB,Za,Zb,reduceCtorEq,isAlloc,isRead]))
      have hx25:=(hx213.trans hx14).trans hx15;have g10:=hx25.get w12 g10;have g11:=hx25.get w12 g11;have g5:=hx25.get w12 g5;have g7:=hx25.get w12 g7;have q10:=row6 g10;have q11:=row6 g11;have q7:=z26 g7;have w15:=hx25.wf;have n25:=hx25.next;have hxH15:=hxH12.trans hx25;have cp1:=z4a t2;have cp2:=z4a (toldB b);by_cases h400:400 < cnt t2 0+cnt (toldB b) 0
      ·have hR4:readB m2 t2 r=(Zd,zeroC,.ball (resT sClause)):=by rw[hR3,if_pos h400]
       have hd:decide ((cnt t2 0:Int)+(cnt (toldB b) 0:Int) > 400)=true:=decide_eq_true (by omega);refine qZd (by simp (config:=qZc) (disch:=first|omega|rfl) only[sB,Za,z0c,hd]) ?_;(try refine qZe ?_);(try simp only[z00,z04]);(repeat refine qZa ?_);refine qZj [([],some 1),([(0,0),(2,1)],some 3),([(4,2)],none)] (by kernel_rfl) ?_;simp (config:=qZc) (disch:=first|omega|rfl) only[sD,sA,Zb,cl54];have hb2:HX H15 ⟨H15.next+5,H15.t⟩:=(HX.refl w15).bump 5;refine(zc1 (s:=sClause) (by decide) hb2.wf).mono ?_;rintro v H16 ⟨hx16,he16⟩;have hx23:=hb2.trans hx16;have q716:=z26 (hx23.get w15 g7);have g5:=hx23.get w15 g5
       repeat' (first|(refine qZf ?_;try simp only[z06,z01])|(refine z0p ?_;simp (config:=qZc) (disch:=first|omega|rfl) only[sV,sD,sB,Za,Zb,one,reduceCtorEq,ld47,st47,t5,t7,q7,q716,g5,isAlloc,isRead]))
       have n16:H15.next+5<=H16.next:=hx16.next;exact z2z (lo:=H15.next+5) (hi:=H16.next) hR4 (hxH15.trans hx23) g5 (by simp only[sB,Za];rfl) (by simp only[sG,Za,t5]) (by simp only[sG,Za]) (he16.to fun n hn hl=>⟨rfl,hn,hl⟩) (by omega) (Ze _)
      have hR4:readB m2 t2 r=(m2,madeC t2 r,.ok):=by rw[hR3,if_neg h400]
      have hd:decide ((cnt t2 0:Int)+(cnt (toldB b) 0:Int) > 400)=false:=decide_eq_false (by omega);refine qZm (by simp (config:=qZc) (disch:=first|omega|rfl) only[sB,Za,z0c,hd]) ?_;(try refine qZe ?_);(try simp only[z00,z04]);(repeat refine qZa ?_);refine qZb ?_;simp (config:=qZc) (disch:=first|omega|rfl) only[sB,Za,zax];refine qZm (by simp (config:=qZc) (disch:=first|omega|rfl) only[sB,Za]) ?_;(try refine qZe ?_);(try simp only[z00,z04]);(repeat refine qZa ?_);refine qZb ?_;simp (config:=qZc) (disch:=first|omega|rfl) only[sB,Za,Zb,Value.cells,one,Zq,layC,ld28,zag,cl55,t10,t11,q10,q11];obtain⟨H16,e16,k16,g16,hn16,w16⟩:=new1 w15 (.row (six t2 a2 c2++six r ar cr) 28);have e16':=e16;simp only[six,List.cons_append,List.nil_append] at e16';simp only[e16'];clear e16 e16';have hxH16:=hxH15.trans k16;have hch2:chkL [t2,r]=0:=by simp [chkL,hc2,hcr]
      have ho2:(occL [t2,r]).length<=8000:=by
       have:=zmf hc2;have:=zmf hcr;simp only[occL,Zr,List.length_nil];omega
      refine(zp5 (RepL.two (r2.mono hxH16 hw) (rr.mono hxH16 hw) g16) (Zj ho2 (by simp [most])) (by simp [most]) w16).mono ?_;rintro v H17 ⟨ap,kp,rfl,hfl,hx17⟩;rw[if_pos hch2] at hfl ⊢;have hff:∀u∈[t2,r],Fine u:=fun u hu=>by
       rcases List.mem_cons.1 hu with rfl|hu
       ·exact(z0k.1 hc2).2
       ·rw[List.mem_singleton.1 hu];exact(z0k.1 hcr).2
      have hpo:(occL (plainL [t2,r])).length<=8000:=by rw[z5e,zhn hff,Zp];exact ho2
      have hpc:chkL (plainL [t2,r])=0:=by
       have hp:=fun n=>(z6t (uniq (occL [t2,r])) n).1
       rw[z5e];simp [chkL,zc4 hp hc2,zc4 hp hcr]
      have hmc:madeC t2 r=⟨(plainL [t2,r]).getD 0 zeroT,(readyS ((plainL [t2,r]).getD 1 zeroT)).1,(uniq (occL (plainL [t2,r]))).length⟩:=rfl;obtain⟨u0,u1,hpl⟩:∃u0 u1,plainL [t2,r]=[u0,u1]:=⟨_,_,rfl⟩
      have hu1:checkS u1=0:=z91 hpc u1 (by rw[hpl];simp);rw[hpl] at hfl hpo hpc hmc ⊢;obtain⟨cellsp,rlp⟩:=hfl.rep;have w17:=hx17.wf;have n17:=hx17.next;(try simp (config:=qZc) (disch:=first|omega|rfl) only[sB,Za,Zb]);(repeat refine qZa ?_);refine qZb ?_;simp (config:=qZc) (disch:=first|omega|rfl) only[sB,Za,cl56];refine(zbt rlp (Zj hpo (by simp [most])) w17).mono ?_;rintro v H18 ⟨u,rfl,hil,hx18⟩;rw[if_pos hpc] at hil;obtain⟨au,ku,rfl,-,-⟩:=hil.slice;obtain⟨bp,op,ax0,cx0,hap,ld0,rs0⟩:=hfl.elS (i:=0) w17 (by simp);obtain⟨bp',op',ax1,cx1,hap',ld1,rs1⟩:=hfl.elS (i:=1) w17 (by simp);subst hap;cases hap';simp only[ZK,Nat.add_zero,Nat.one_mul,List.getElem_cons_zero,List.getElem_cons_succ] at ld0 ld1 rs0 rs1;have ld1':=hx18.load w17 ld1;have w18:=hx18.wf;have n18:=hx18.next;(try simp (config:=qZc) (disch:=first|omega|rfl) only[sB,Za]);(repeat refine qZa ?_);refine qZb ?_;simp (config:=qZc) (disch:=first|omega|rfl) only[sB,Za,Int.reduceToNat,ld28,cl52,ld1',iz26,Nat.one_mul]
      refine(z9g (rs1.rep.mono hx18 w17) w18).mono ?_;rintro v H19 ⟨hx19,outB,evB,rfl,hoB,-⟩;obtain⟨bta,btc,bsa,bsc,rfl⟩:=hoB.rep.eight;have w19:=hx19.wf;have n19:=hx19.next;(try simp (config:=qZc) (disch:=first|omega|rfl) only[sB,dAlloc,Za,Zb,one,zr45,st45]);obtain⟨H20,e20,hx20,g20,hn20,w20⟩:=z0m w19 (.row zero8 45) (.row (eightT (readyS u1).1.kind (readyS u1).1.term bta btc bsa (readyS u1).1.sub.length bsc) 45);simp only[e20];clear e20;have k20:=(hx18.trans hx19).trans hx20;have hx16':=hx17.trans k20;have ld0':=k20.load w17 ld0;have q20:=row8 g20;have g5:=hx16'.get w16 (k16.get w15 g5);have hxH20:=hxH16.trans hx16';have nU:(uniq (occL [u0,u1])).length<=8000:=Zj (z7z _) hpo;(repeat refine qZa ?_);refine qZj [([(0,0),(1,0),(2,0),(3,0),(4,0),(5,0),(6,0),(7,0),(8,0)],some 9),([(10,1)],none)] (by kernel_rfl) ?_;simp (config:=qZc) (disch:=first|omega|rfl) only[sD,sB,Za,Zb,Value.cells,one,reduceCtorEq,Zq,layC,Int.reduceToNat,ld28,st47,ld45,ln32,bd47,isAlloc,isRead,t0,t5,ld0',q20,g5,iz26,ZK]
      repeat' (first|(refine qZf ?_))
      have hxb:=hxH20.bump 11;have hz:=hxb.pt (i:=H.next+1) (by omega) (show Heap.get ⟨H20.next+11,H20.t⟩ (H.next+1)=_ from g5) (some (.row (fift u0 ax0 cx0 (readyS u1).1.kind (readyS u1).1.term bta btc bsa (readyS u1).1.sub.length bsc (uniq (occL [u0,u1])).length) 47));rw[hR4,hmc];refine z4p rfl (by simp only[sG,Za]) (by simp only[sB,Za,t5];rfl) (by simp only[sB,Zb,cutC,ld47];rfl) (by simp only[sG,Za]) ⟨hz,_,_,rfl,⟨_,_,_,_,_,_,rfl,?_,?_⟩,RepES.fine⟩
      ·refine rs0.to fun n hn hl=>?_
       have a1:=hn.1;have a2:=k20.next;exact⟨by rw[get_put,if_neg (by omega)];exact k20.keep n hl,⟨by omega,by rw[z07];show n < H20.next+11;omega⟩,by rw[z07];show n < H20.next+11;omega⟩
      ·refine hoB.to (fun n hn hl=>?_) fun n hn=>?_
       ·have a1:=hn.1;have a2:=hx20.next;exact⟨by rw[get_put,if_neg (by omega)];exact hx20.keep n hl,by rw[z07];show n < H20.next+11;omega⟩
       ·have a1:=hn.1;have a3:=hn.2;have a2:=hx20.next;exact⟨by omega,by rw[z07];show n < H20.next+11;omega⟩
theorem zmx {t:Tm}(hn:nodeS t=0) (h:∀u∈t.args,Fine u):Fine t:=by
 unfold Fine;rw[z5w,if_pos hn];have hl:∀l:List Tm,(∀u∈l,Fine u)->allL nodeS l=0:=by
  intro l
  induction l with
  |nil=>intro _;rfl
  |cons u l ih =>
   intro hu;rw[allL,if_pos (show allE nodeS u=0 from hu u (by simp))];exact ih fun v hv=>hu v (Zn _ hv)
 exact hl t.args h
theorem z3b {s:ByteArray}{x y:Tm}(hs:nodeS (cmpT s [zeroT,zeroT])=0) (hx:Fine x) (hy:Fine y):Fine (cmpT s [x,y]) :=
 zmx (by rw[show cmpT s [x,y]=.mk 5 s Zd 0 0 [x,y] from rfl,z99 (l:=[zeroT,zeroT]) (l':=[x,y]) rfl];exact hs) fun u hu=>by
  rcases List.mem_cons.1 hu with rfl|hu
  ·exact hx
  ·rw[List.mem_singleton.1 hu];exact hy
theorem z6y {s:ByteArray}{x:Tm}(hs:nodeS (cmpT s [zeroT])=0) (hx:Fine x):Fine (cmpT s [x]) :=
 zmx (by rw[show cmpT s [x]=.mk 5 s Zd 0 0 [x] from rfl,z99 (l:=[zeroT]) (l':=[x]) rfl];exact hs) fun u hu=>by rw[List.mem_singleton.1 hu];exact hx
theorem zc7:nodeS (cmpT sCall [zeroT])=0:=by kernel_rfl
theorem zur:nodeS (cmpT sCol [zeroT,zeroT])=0:=by kernel_rfl
theorem zus:nodeS (cmpT sCma [zeroT,zeroT])=0:=by kernel_rfl
theorem zr1:nodeS (cmpT sArr [zeroT,zeroT])=0:=by kernel_rfl
theorem zr2:nodeS (cmpT sSem [zeroT,zeroT])=0:=by kernel_rfl
theorem zut:nodeS (cmpT sNck [zeroT,zeroT])=0:=by kernel_rfl
theorem zmy:Fine (atmT sTrue):=(z0k.1 z7c).2
theorem zpa:Fine (atmT sExc):=(z0k.1 (show checkS (atmT sExc)=0 by kernel_rfl)).2
theorem isF2.fine {t x y:Tm}{s:ByteArray}(h:isF2 t s x y) (hf:Fine t):Fine x/\Fine y:=⟨hf.args _ (by rw[h.2.2];simp),hf.args _ (by rw[h.2.2];simp)⟩
theorem ze5 {t:Tm}{b:Bdy}(hf:Fine t) (h:BdR t b):Fine (toldB b):=by
 induction h with
 |var h=>rw[z1l];exact z6y zc7 hf
 |tru h1 h2=>rw[ze1];exact zmy
 |cut h1 h2=>rw[ze2];exact zpa
 |mcall h h1 h2 h3=>rw[z1l];exact z6y zc7 hf
 |mod h h1 h2 h3 hb ih=>rw[zat];exact z3b zur (h.fine hf).1 (ih (h.fine hf).2)
 |and h hb hd i1 i2=>rw[zau];exact z3b zus (i1 (h.fine hf).1) (i2 (h.fine hf).2)
 |arr h hb hd i1 i2=>rw[zaw];exact z3b zr1 (i1 (h.fine hf).1) (i2 (h.fine hf).2)
 |ite h hg hb hd he i1 i2 i3=>rw[z7a];exact z3b zr2 (z3b zr1 (i1 (hg.fine (h.fine hf).1).1) (i2 (hg.fine (h.fine hf).1).2)) (i3 (h.fine hf).2)
 |or h hn hb hd i1 i2=>rw[zav];exact z3b zr2 (i1 (h.fine hf).1) (i2 (h.fine hf).2)
 |call h=>rw[zas];exact hf
theorem z5f {s:ByteArray}{x y:Tm}:occ (cmpT s [x,y])=occ x++occ y:=by rw[z3a,if_neg (by intro q;cases q)];show []++occL [x,y]=_;simp [occL]
theorem zhs {s:ByteArray}{x:Tm}:occ (cmpT s [x])=occ x:=by rw[z3a,if_neg (by intro q;cases q)];show []++occL [x]=_;simp [occL]
theorem zay {t x y:Tm}{s:ByteArray}(h:isF2 t s x y):occ t=occ x++occ y:=by rw[z3a,if_neg (by have:=h.1;omega),h.2.2];simp [occL]
theorem zht {t:Tm}(hf:Fine t) (k:t.kind=2):occ t=[]:=by rw[z3a,if_neg (by omega),(z2a (z2d hf.node).2.2.1).2.2.2.2 (by omega)];rfl
theorem zmz {s:ByteArray}:occ (atmT s)=[]:=by rw[z3a,if_neg (by intro q;cases q)];rfl
theorem zpb {t:Tm}{b:Bdy}(hf:Fine t) (h:BdR t b):occ (toldB b)=occ t:=by
 induction h with
 |var h=>rw[z1l,zhs]
 |tru h1 h2=>rw[ze1,zmz,zht hf h1]
 |cut h1 h2=>rw[ze2,zmz,zht hf h1]
 |mcall h h1 h2 h3=>rw[z1l,zhs]
 |mod h h1 h2 h3 hb ih=>rw[zat,z5f,zay h,ih (h.fine hf).2]
 |and h hb hd i1 i2=>rw[zau,z5f,zay h,i1 (h.fine hf).1,i2 (h.fine hf).2]
 |arr h hb hd i1 i2=>rw[zaw,z5f,zay h,i1 (h.fine hf).1,i2 (h.fine hf).2]
 |ite h hg hb hd he i1 i2 i3=>rw[z7a,z5f,z5f,zay h,zay hg,i1 (hg.fine (h.fine hf).1).1,i2 (hg.fine (h.fine hf).1).2,i3 (h.fine hf).2]
 |or h hn hb hd i1 i2=>rw[zav,z5f,zay h,i1 (h.fine hf).1,i2 (h.fine hf).2]
 |call h=>rw[zas]
theorem zfi {n:Int}{t:Tm}:∀{l:List Tm},t∈l->n∈occ t->n∈occL l
 |u :: l,h,hn=>by
  rw[occL];rcases List.mem_cons.1 h with rfl|h
  ·exact List.mem_append_left _ hn
  ·exact List.mem_append_right _ (zfi h hn)
section
variable {f:Int->Int}
theorem z1y {t:Tm}:(ren f t).kind=t.kind:=by
 by_cases k:t.kind=1
 ·rw[z9h k,k];rfl
 ·rw[z4g k];rfl
theorem z9i {t x y:Tm}{s:ByteArray}(h:isF2 t s x y):isF2 (ren f t) s (ren f x) (ren f y):=by
 rw[z4g (by have:=h.1;omega),h.2.2];exact⟨h.1,h.2.1,rfl⟩
theorem z7d {t:Tm}{s:ByteArray}:isF (ren f t) s↔isF t s:=by
 by_cases k:t.kind=1
 ·rw[z9h k];exact⟨fun q=>(by cases q.1),fun q=>(by have:=q.1;omega)⟩
 ·rw[z4g k];exact⟨fun q=>⟨q.1,q.2.1,by have:=q.2.2;simpa [Tm.args] using this⟩,fun q=>⟨q.1,q.2.1,by have:=q.2.2;simpa [Tm.args] using this⟩⟩
theorem z4t {s:ByteArray}{l:List Tm}:ren f (cmpT s l)=cmpT s (l.map (ren f)):=by rw[z4g (by intro q;cases q)];rfl
theorem zn0 {s:ByteArray}:ren f (atmT s)=atmT s:=by rw[z4g (by intro q;cases q)];rfl
theorem zc8 {t:Tm}:isNum (ren f t)↔isNum t:=by unfold isNum;rw[z1y]
theorem zt0 {t:Tm}(h:Oth t):Oth (ren f t):=by
 have hn:(ren f t).name=t.name:=by rw[z4g h.var];rfl
 exact⟨fun q=>h.num (zc8.1 q),by rw[z1y];exact h.var,by rw[z1y,hn];exact h.tru,by rw[z1y,hn];exact h.cut,fun q=>h.col (z7d.1 q),fun q=>h.cma (z7d.1 q),fun q=>h.arr (z7d.1 q),fun q=>h.sem (z7d.1 q)⟩
theorem zvt {t:Tm}{b:Bdy}(hf:Fine t) (h:BdR t b):∃b',BdR (ren f t) b'/\toldB b'=ren f (toldB b):=by
 induction h with
 |@var t h=>exact⟨callB (ren f t),.var (by rw[z1y];exact h),by rw[z1l,z1l,z4t];rfl⟩
 |tru h1 h2=>exact⟨_,.tru (by rw[z1y];exact h1) (by rw[z4g (by omega)];exact h2),by rw[ze1,zn0]⟩
 |cut h1 h2=>exact⟨_,.cut (by rw[z1y];exact h1) (by rw[z4g (by omega)];exact h2),by rw[ze2,zn0]⟩
 |@mcall t x y h h1 h2 h3=>exact⟨callB (ren f t),.mcall (z9i h) (by rw[z1y];exact h1) (fun q=>h2 (zc8.1 q)) (by rw[z1y,z1y];exact h3),by rw[z1l,z1l,z4t];rfl⟩
 |mod h h1 h2 h3 hb ih =>
  obtain⟨b',i1,i2⟩:=ih (h.fine hf).2;exact⟨_,.mod (z9i h) (by rw[z1y];exact h1) (by rw[z1y];exact h2) (fun q=>h3 (zc8.1 q)) i1,by rw[zat,zat,z4t,i2];rfl⟩
 |and h hb hd i1 i2 =>
  obtain⟨b',j1,j2⟩:=i1 (h.fine hf).1;obtain⟨d',k1,k2⟩:=i2 (h.fine hf).2;exact⟨_,.and (z9i h) j1 k1,by rw[zau,zau,z4t,j2,k2];rfl⟩
 |arr h hb hd i1 i2 =>
  obtain⟨b',j1,j2⟩:=i1 (h.fine hf).1;obtain⟨d',k1,k2⟩:=i2 (h.fine hf).2;exact⟨_,.arr (z9i h) j1 k1,by rw[zaw,zaw,z4t,j2,k2];rfl⟩
 |ite h hg hb hd he i1 i2 i3 =>
  obtain⟨b',j1,j2⟩:=i1 (hg.fine (h.fine hf).1).1;obtain⟨d',k1,k2⟩:=i2 (hg.fine (h.fine hf).1).2;obtain⟨e',l1,l2⟩:=i3 (h.fine hf).2;exact⟨_,.ite (z9i h) (z9i hg) j1 k1 l1,by rw[z7a,z7a,z4t,j2,k2,l2];simp only[ZA,List.map_nil,z4t]⟩
 |or h hn hb hd i1 i2 =>
  obtain⟨b',j1,j2⟩:=i1 (h.fine hf).1;obtain⟨d',k1,k2⟩:=i2 (h.fine hf).2;exact⟨_,.or (z9i h) (fun q=>hn (z7d.1 q)) j1 k1,by rw[zav,zav,z4t,j2,k2];rfl⟩
 |call h=>exact⟨_,.call (zt0 h),by rw[zas,zas]⟩
theorem zr4:∀(m:Nat) {t:Tm},SizeOf.sizeOf t < m->Fine t->(∀n∈occ t,f n=n)->ren f t=t
 |0,t,h,_,_=>by omega
 |m+1,t,h,hf,ho=>by
  by_cases k:t.kind=1
  ·have hb:=z2a (z2d hf.node).2.2.1;rw[z9h k,ho t.var (by rw[z3a,if_pos k];simp)];obtain⟨k',s,u,b,v,l⟩:=t;have e1:=hb.1 (by omega) (by omega);have e2:=hb.2.1 (by omega);have e3:=hb.2.2.1 (by omega);have e5:=hb.2.2.2.2 (by omega);simp only[Tm.name,Tm.num,Tm.bits,Tm.args,Tm.kind] at e1 e2 e3 e5 k;subst e1 e2 e3 e5 k;rfl
  ·rw[z4g k];have hm:t.args.map (ren f)=t.args:=by
    have:∀l:List Tm,(∀u∈l,ren f u=u)->l.map (ren f)=l:=fun l hl=>by
     conv=>rhs;rw[<-List.map_id l]
     exact List.map_congr_left hl
    refine this _ fun u hu=>zr4 m (by have:=z0h hu;omega) (hf.args u hu) fun n hn=>ho n ?_
    rw[z3a];exact List.mem_append_right _ (zfi hu hn)
   rw[hm];obtain⟨k',s,u,b,v,l⟩:=t;rfl
end
theorem ze6 {n:Int}:∀(l acc:List Int),n∈acc\/n∈l->n∈l.foldl addU acc
 |[],acc,h=>by rcases h with h|h;exact h;simp at h
 |a :: l,acc,h=>by
  refine ze6 l (addU acc a) ?_;rcases h with h|h
  ·refine .inl ?_;unfold addU;split
   ·exact h
   ·exact List.mem_append_left _ h
  ·rcases List.mem_cons.1 h with rfl|h
   ·refine .inl ?_;unfold addU;split
    ·assumption
    ·simp
   ·exact .inr h
theorem z9j {n:Int}{l:List Int}(h:n∈l):n∈uniq l:=ze6 l [] (.inr h)
theorem ze7 {F:Int->Int}:∀(l acc:List Int),(∀a b,(a∈acc\/a∈l)->(b∈acc\/b∈l)->F a=F b->a=b)->(l.map F).foldl addU (acc.map F)=(l.foldl addU acc).map F
 |[],acc,_=>rfl
 |a :: l,acc,h=>by
  have e:addU (acc.map F) (F a)=(addU acc a).map F:=by
   unfold addU;by_cases k:a∈acc
   ·rw[if_pos (List.mem_map_of_mem k),if_pos k]
   ·rw[if_neg (fun q=>by
     obtain⟨b,hb,e⟩:=List.mem_map.1 q;exact k (h b a (.inl hb) (.inr (by simp)) e ▸ hb)),if_neg k,ZI];rfl
  rw[ZA,List.foldl_cons,List.foldl_cons,e];refine ze7 l _ fun x y hx hy=>h x y ?_ ?_
  ·rcases hx with hx|hx
   ·unfold addU at hx;split at hx
    ·exact .inl hx
    ·rcases List.mem_append.1 hx with hx|hx
     ·exact .inl hx
     ·exact .inr (by rw[List.mem_singleton.1 hx];simp)
   ·exact .inr (Zn _ hx)
  ·rcases hy with hx|hx
   ·unfold addU at hx;split at hx
    ·exact .inl hx
    ·rcases List.mem_append.1 hx with hx|hx
     ·exact .inl hx
     ·exact .inr (by rw[List.mem_singleton.1 hx];simp)
   ·exact .inr (Zn _ hx)
theorem zpc {F:Int->Int}{l:List Int}(h:∀a∈l,∀b∈l,F a=F b->a=b):uniq (l.map F)=(uniq l).map F :=
 ze7 l [] fun a b ha hb=>h a (ha.resolve_left (by simp)) b (hb.resolve_left (by simp))
theorem zhu {L:List Int}{n:Int}(h:n∈L):∃i,L.idxOf? n=some i/\L[i]?=some n:=by
 cases e:L.idxOf? n with
 |none =>
  rw[List.idxOf?,List.findIdx?_eq_none_iff] at e;have:=e n h;simp at this
 |some i =>
  rw[List.idxOf?,List.findIdx?_eq_some_iff_getElem] at e;obtain⟨hi,hn,-⟩:=e;exact⟨i,rfl,by rw[Zc hi];simp at hn;rw[hn]⟩
theorem zn1 {L:List Int}{a b:Int}(ha:a∈L) (hb:b∈L) (h:plcZ L a=plcZ L b):a=b:=by
 obtain⟨i,e1,e2⟩:=zhu ha;obtain⟨j,e3,e4⟩:=zhu hb;unfold plcZ at h;rw[e1,e3] at h;have:i=j:=by simp only[Option.getD_some] at h;omega
 subst this;rw[e2] at e4;exact Option.some.inj e4
theorem zt1 {F:Int->Int}{L:List Int}{n:Int}(h:∀a∈L,F a=F n->a=n):plcZ (L.map F) (F n)=plcZ L n:=by
 have:(L.map F).idxOf? (F n)=L.idxOf? n:=by
  unfold List.idxOf?;rw[List.findIdx?_map]
  induction L with
  |nil=>rfl
  |cons a L ih =>
   rw[List.findIdx?_cons,List.findIdx?_cons,ih fun x hx=>h x (Zn _ hx)];have:((fun x=>x == F n) ∘ F) a=(a == n):=by
    show (F a == F n)=(a == n)
    by_cases e:a=n
    ·subst e;rw[beq_self_eq_true,beq_self_eq_true]
    ·have:F a≠F n:=fun q=>e (h a (by simp) q)
     rw[beq_eq_false_iff_ne.2 this,beq_eq_false_iff_ne.2 e]
   rw[this]
 unfold plcZ;rw[this]
theorem zt2 {l:List Int}{n:Int}(h:n∈l):plcZ (uniq (l.map (plcZ (uniq l)))) (plcZ (uniq l) n)=plcZ (uniq l) n:=by
 have hi:∀a∈l,∀b∈l,plcZ (uniq l) a=plcZ (uniq l) b->a=b:=fun a ha b hb e=>zn1 (z9j ha) (z9j hb) e
 rw[zpc hi];exact zt1 fun a ha e=>zn1 ha (z9j h) e
theorem zn2 {l l2:List Tm}(hf:∀u∈l2,Fine u) (ho:occL l2=(occL l).map (plcZ (uniq (occL l)))):plainL l2=l2:=by
 rw[z5e];have:∀l3:List Tm,(∀u∈l3,u∈l2)->l3.map (ren (plcZ (uniq (occL l2))))=l3:=by
  intro l3
  induction l3 with
  |nil=>intro _;rfl
  |cons u l3 ih =>
   intro hu;rw[ZA,ih fun v hv=>hu v (Zn _ hv),zr4 _ (Zf _) (hf u (hu u (by simp))) fun n hn=>?_];have hm:n∈occL l2:=zfi (hu u (by simp)) hn;rw[ho] at hm ⊢;obtain⟨k,hk,rfl⟩:=List.mem_map.1 hm;exact zt2 hk
 exact this l2 fun u hu=>hu
theorem ze8:∀{k:Nat}{m m':ByteArray}{t t':Tm},SizeOf.sizeOf t < k->checkS t=0->stripF k m t=(m',t',.ok)->checkS t'=0/\¬isF t' sCol:=by
 intro k
 induction k with
 |zero=>intro m m' t t' h;omega
 |succ k ih =>
  intro m m' t t' hs hc h;rw[stripF] at h;by_cases k1:isF t sCol
  ·rw[if_pos k1] at h;obtain⟨x,y,hf⟩:=k1.two;rw[hf.a0,hf.a1] at h;by_cases k2:x.kind=1
   ·rw[if_pos k2] at h;cases h
   rw[if_neg k2] at h;by_cases k3:x.kind=2
   ·rw[if_pos k3] at h;exact ih (by have:=hf.lt;omega) (z17 hc (by rw[hf.2.2];simp)) h
   ·rw[if_neg k3] at h;cases h
  ·rw[if_neg k1] at h;cases h;exact⟨hc,k1⟩
theorem ze9 {m:ByteArray}{t:Tm}(h:¬isF t sCol):stripS m t=(m,t,.ok):=by unfold stripS;rw[stripF,if_neg h]
structure Good (b:Bdy):Prop where
 ex:∃u,Fine u/\BdR u b
 few:nd (toldB b)<=4000
theorem Good.fine {b:Bdy}(h:Good b):Fine (toldB b):=by obtain⟨u,h1,h2⟩:=h.ex;exact ze5 h1 h2
theorem Good.check {b:Bdy}(h:Good b):checkS (toldB b)=0:=z0k.2 ⟨by have:=h.few;rw[z3z _ _ (Zf _) 0 (by omega)];omega,h.fine⟩
theorem Good.R {b:Bdy}(h:Good b):BdR (toldB b) b:=by obtain⟨u,h1,h2⟩:=h.ex;exact(zuo h2).1
theorem Good.size {b:Bdy}(h:Good b):szB b<=8000:=by obtain⟨u,h1,h2⟩:=h.ex;have:=(zfh h1 h2).2;have:=h.few;omega
theorem Good.F {b:Bdy}(h:Good b):bodyF (SizeOf.sizeOf (toldB b)+1) (toldB b)=some b:=zho (Zf _) h.R
theorem Good.ready {b:Bdy}(h:Good b):readyS (toldB b)=(b,.ok):=by
 unfold readyS;rw[if_neg (fun q=>q h.check),h.F];simp only;rw[if_neg (by have:=h.few;rw[z3z _ _ (Zf _) 0 (by omega)];omega)]
theorem zt3 {t:Tm}{n:Nat}(h:cnt t 0<=n) (hn:n<=4000):nd t<=n:=by
 have:=zam _ t (Zf _) 0 (by omega);omega
theorem zjk {t:Tm}(h:(readyS t).2=.ok):Good (readyS t).1:=by
 unfold readyS at h ⊢;by_cases k:checkS t=0;rotate_left
 ·rw[if_pos k] at h;cases h
 rw[if_neg (fun q=>q k)] at h ⊢;cases hb:bodyF (SizeOf.sizeOf t+1) t with
 |none=>rw[hb] at h;cases h
 |some b =>
  rw[hb] at h;simp only at h ⊢;by_cases k4:4000 < cnt (toldB b) 0
  ·rw[if_pos k4] at h;cases h
  rw[if_neg k4];exact⟨⟨t,(z0k.1 k).2,zmv hb⟩,zt3 (show cnt (toldB b) 0<=4000 by omega) (Ze _)⟩
structure GoodC (c:Cls):Prop where
 good:Good c.body
 head:checkS c.head=0
 col:¬isF c.head sCol
 var:c.head.kind≠1
 num:¬isNum c.head
 few:nd c.head+nd (toldB c.body)<=400
 fix:plainL [c.head,toldB c.body]=[c.head,toldB c.body]
 vars:c.vars=(uniq (occL [c.head,toldB c.body])).length
theorem zjl {m m':ByteArray}{h r:Tm}{c:Cls}(hh:checkS h=0) (hr:checkS r=0) (hc:¬isF h sCol) (e:readB m h r=(m',c,.ok)):m'=m/\GoodC c:=by
 unfold readB at e;by_cases k1:h.kind=1
 ·rw[if_pos k1] at e;cases e
 rw[if_neg k1] at e;by_cases k2:isNum h
 ·rw[if_pos k2] at e;cases e
 rw[if_neg k2] at e;cases hb:bodyF (SizeOf.sizeOf r+1) r with
 |none=>rw[hb] at e;cases e
 |some b =>
  rw[hb] at e;simp only at e;by_cases k4:400 < cnt h 0+cnt (toldB b) 0
  ·rw[if_pos k4] at e;cases e
  rw[if_neg k4] at e;cases e;refine⟨rfl,?_⟩;obtain⟨f,ef⟩:∃f,plcZ (uniq (occL [h,r]))=f:=⟨_,rfl⟩
  have hf:∀n,0<=f n:=fun n=>by rw[<-ef];exact(z6t _ n).1
  have fh:=(z0k.1 hh).2;have fr:=(z0k.1 hr).2;have hpl:plainL [h,r]=[ren f h,ren f r]:=by rw[z5e,ef];rfl
  have hR:=zmv hb;obtain⟨b1,hR1,ht1⟩:=zvt (f:=f) fr hR;have hr1:=zc4 hf hr;have hh1:=zc4 hf hh;have fr1:=(z0k.1 hr1).2;have fh1:=(z0k.1 hh1).2;have ftb:=ze5 fr hR;have n1:nd h<=400:=zt3 (by omega) (by decide);have n2:nd (toldB b)<=400:=zt3 (by omega) (by decide);have c1:=z3z _ h (Zf _) 0 (by omega);have c2:=z3z _ (toldB b) (Zf _) 0 (by omega);have n3:nd (toldB b1)=nd (toldB b):=by rw[ht1,zhm _ (Zf _) ftb]
  have n4:nd (ren f h)=nd h:=zhm _ (Zf _) fh;have hg:Good b1:=⟨⟨_,fr1,hR1⟩,by omega⟩
  have hry:readyS (ren f r)=(b1,.ok):=by
   unfold readyS;rw[if_neg (fun q=>q hr1),zho (Zf _) hR1];simp only;rw[if_neg (by rw[z3z _ _ (Zf _) 0 (by omega)];omega)]
  have ho1:occ (toldB b1)=(occ r).map f:=by rw[zpb fr1 hR1,zc3 _ (Zf _) fr]
  have ho2:occL [ren f h,toldB b1]=(occL [h,r]).map f:=by
   simp only[occL,List.append_nil];rw[ho1,zc3 _ (Zf _) fh,ZI]
  have hm:madeC h r=⟨ren f h,b1,(uniq (occL [ren f h,ren f r])).length⟩:=by
   unfold madeC;rw[hpl];show Cls.mk (ren f h) (readyS (ren f r)).1 _=_;rw[hry]
  rw[hm];refine⟨hg,hh1,fun q=>hc (z7d.1 q),by show (ren f h).kind≠1;rw[z1y];exact k1,fun q=>k2 (zc8.1 q),by show nd (ren f h)+nd (toldB b1)<=400;omega,?_,?_⟩
  ·exact zn2 (l:=[h,r]) (fun u hu=>by
    rcases List.mem_cons.1 hu with rfl|hu
    ·exact fh1
    ·rw[List.mem_singleton.1 hu];exact hg.fine) (by rw[ef];exact ho2)
  ·show ((uniq (occL [ren f h,ren f r])).length:Int)=((uniq (occL [ren f h,toldB b1])).length:Int)
   rw[ho2,<-zhn (l:=[h,r]) (fun u hu=>by
    rcases List.mem_cons.1 hu with rfl|hu
    ·exact fh
    ·rw[List.mem_singleton.1 hu];exact fr)]
   rfl
theorem isF.chk {t:Tm}{s:ByteArray}(h:isF t s) (hc:checkS t=0):checkS (t.at 0)=0/\checkS (t.at 1)=0:=by
 obtain⟨x,y,hf⟩:=h.two;rw[hf.a0,hf.a1];exact⟨z17 hc (by rw[hf.2.2];simp),z17 hc (by rw[hf.2.2];simp)⟩
theorem zjm {m m':ByteArray}{t:Tm}{c:Cls}(e:readS m t=(m',c,.ok)):GoodC c:=by
 unfold readS at e;by_cases k:checkS t=0;rotate_left
 ·rw[if_pos k] at e;cases e
 rw[if_neg (fun q=>q k)] at e;obtain⟨⟨m1,t1,e1⟩,hS⟩:∃R,stripS m t=R:=⟨_,rfl⟩
 rw[hS] at e;cases e1 with
 |num n=>cases e
 |ball u=>cases e
 |ok =>
  obtain⟨c1,-⟩:=ze8 (Zf _) k hS;simp only at e;have hhr:checkS (headOf t1)=0/\checkS (restOf t1)=0:=by
   unfold headOf restOf;by_cases kn:isF t1 sNck
   ·rw[if_pos kn,if_pos kn];exact kn.chk c1
   ·rw[if_neg kn,if_neg kn];exact⟨c1,z7c⟩
  unfold readH at e;obtain⟨⟨m2,t2,e2⟩,hS2⟩:∃R,stripS m1 (headOf t1)=R:=⟨_,rfl⟩
  rw[hS2] at e;cases e2 with
  |num n=>cases e
  |ball u=>cases e
  |ok =>
   obtain⟨c2,hn⟩:=ze8 (Zf _) hhr.1 hS2;exact(zjl c2 hhr.2 hn e).2
def wholeC (c:Cls):Tm:=cmpT sNck [c.head,toldB c.body]
theorem GoodC.check {c:Cls}(h:GoodC c):checkS (wholeC c)=0:=by
 refine z0k.2 ⟨?_,z3b zut (z0k.1 h.head).2 h.good.fine⟩;have e:nd (wholeC c)=1+nd c.head+nd (toldB c.body):=z5y;have:=h.few;rw[z3z _ _ (Zf _) 0 (by omega)];omega
theorem GoodC.read {c:Cls}(h:GoodC c) (m:ByteArray):readS m (wholeC c)=(m,c,.ok):=by
 have hw:isF2 (wholeC c) sNck c.head (toldB c.body):=cmp2;have hf:=h.few;unfold readS;rw[if_neg (fun q=>q h.check),ze9 (hw.f.ne (by decide))];simp only;unfold headOf restOf readH;rw[if_pos hw.f,if_pos hw.f,hw.a0,hw.a1,ze9 h.col];simp only;unfold readB;rw[if_neg h.var,if_neg h.num,h.good.F];simp only;rw[z3z _ _ (Zf _) 0 (by omega),z3z _ _ (Zf _) 0 (by omega),if_neg (by omega)];have hm:madeC c.head (toldB c.body)=c:=by
  unfold madeC;rw[h.fix];show Cls.mk c.head (readyS (toldB c.body)).1 _=c;rw[h.good.ready];show Cls.mk c.head c.body _=c;rw[<-h.vars]
 rw[hm]
end Go.Proofs.hq
end
