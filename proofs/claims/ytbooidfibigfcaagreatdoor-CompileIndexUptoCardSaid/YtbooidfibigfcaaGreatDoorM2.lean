import Derived.Test.YtbooidfibigfcaaGreatDoorM1
import Derived.RecoverIn
import Derived.RangeFuncLeaves
import Derived.LoopNIn
import Derived.RowKit3
import Derived.ChangeSame
import Derived.Carry
import Derived.OpenShut
import Derived.ProofKit
import Derived.IntWalk
import Derived.BigFrame
/- Lemmas on the program's own code, towards the laws of this folder, part 2. Conditions: as each lemma says. -/
open Array renaming getD_eq_getD_getElem? -> ZH
open Bool renaming and_eq_true -> Zk, false_eq_true -> Zg, not_eq_true -> ZL, not_true -> Zv
open List renaming getElem?_drop -> ZN, getElem?_eq_getElem -> Zc, getElem?_eq_none -> Zy, getElem?_map -> Zw, getElem?_take -> ZJ, length_append -> Zr, length_cons -> ZD, length_map -> Zp, length_take -> Zo, map_append -> ZI, map_cons -> ZA, mem_cons_of_mem -> Zn, not_mem_nil -> ZF, range -> Zh
open Nat renaming beq -> Zs, beq_eq -> Zt, le_refl -> Ze, le_trans -> Zj, lt_of_lt_of_le -> Zi, lt_succ_self -> Zf, zero_add -> ZP
open Option renaming bind_some -> ZB, map_some -> ZE
section
namespace Go.Hb
open Go Go.RowKit
theorem zcq {v u:Value}(h:cellEq v u=true):v=u:=by
 unfold cellEq at h;rw[Bool.or_eq_true] at h;rcases h with h|h
 ·exact zft v u h
 ·split at h
  ·rfl
  ·cases h
theorem z71:∀{a b:List Value},cellsEq a b=true->a=b
 |[],[],_=>rfl
 |v :: a,u :: b,h=>by
  unfold cellsEq at h;rw[Zk] at h;rw[zcq h.1,z71 h.2]
 |[],_ :: _,h=>by unfold cellsEq at h;cases h
 |_ :: _,[],h=>by unfold cellsEq at h;cases h
theorem zba {a b:Option Blk}(h:blkEq a b=true):a=b:=by
 unfold blkEq at h;split at h
 ·rfl
 ·rw[Zk,Zt] at h;rw[h.1,z71 h.2]
 ·rw[Zk,Zt] at h;rw[h.1,z71 h.2]
 ·rw[Zt] at h;rw[h]
 ·cases h
theorem zk2 {a b:Option Value}(h:slotEq a b=true):a=b:=by
 unfold slotEq at h;split at h
 ·rfl
 ·rw[zcq h]
 ·cases h
section
variable {P:Program}{ops:Array Oper}{b:Array Nat}{effs:List Nat}{ok:Ok}{n:Nat}{x:Ctx}{base:Nat}
theorem zk3 {p q:Nat}{st st':St}(h:agree ops base p q st st'=true) :
  (∀(i:Nat) (o:Oper) (d:Tmp),ops[i]?=some o->o.dst=some d->st.tm.get d=st'.tm.get d)/\st.H.get p=st'.H.get p/\st.H.get q=st'.H.get q/\∀i,i < ops.size->st.H.get (base+i)=st'.H.get (base+i):=by
 unfold agree at h;simp only[Zk,List.all_eq_true] at h;obtain⟨⟨⟨h1,h2⟩,h3⟩,h4⟩:=h;refine⟨fun i o d ho hd=>?_,zba h2,zba h3,fun i hi=>zba (h4 i (List.mem_range.2 hi))⟩;have hm:o∈ops.toList:=by
  obtain⟨k1,k2⟩:=Array.getElem?_eq_some_iff.1 ho;rw[<-k2];exact Array.getElem_mem_toList k1
 have:=h1 o hm;rw[hd] at this;exact zk2 this
theorem zo0 {e:Nat}{o:Oper}(h:isSt ops e=true) (ho:ops[e]?=some o):o.dst=none/\o.guard=none/\∃t a v,o.op=.store t a v:=by
 unfold isSt at h;rw[ho] at h;simp only[Zk,Option.isNone_iff_eq_none] at h;refine⟨h.1.1,h.1.2,?_⟩;have:=h.2;split at this
 ·rename_i t a v hop;exact⟨t,a,v,hop⟩
 ·cases this
theorem z72:∀(l:List (Nat × Blk)) (H:Heap),(l.foldl (fun H p=>H.put (base+p.1) (some p.2)) H).next=H.next /\
  ∀j,(∀p∈l,j≠base+p.1)->(l.foldl (fun H p=>H.put (base+p.1) (some p.2)) H).get j=H.get j
 |[],H=>⟨rfl,fun _ _=>rfl⟩
 |p :: l,H=>by
  obtain⟨h1,h2⟩:=z72 l (H.put (base+p.1) (some p.2));refine⟨h1,fun j hj=>?_⟩;rw[List.foldl_cons,h2 j (fun q hq=>hj q (Zn _ hq)),Heap.get_put,if_neg (hj p (by simp))]
theorem zer {o:Oper}{ρ:Operand->Value}{ds ds1:List Deferred}{H H':Heap}{v:Value}{t:TypeId}{a y:Operand}(hop:o.op=.store t a y) (h:dop1 P ok n x o ρ ds H=some (.val v ds1 H')) :
  ds1=ds/\H'.next=H.next/\∀j,stBlk o ρ≠some j->H'.get j=H.get j:=by
 cases n with
 |zero=>unfold dop1 at h;cases h
 |succ n =>
  unfold dop1 at h;have hd:∀r,dop P o ρ H=some r->∃H2,r=.val undef H2/\H2.next=H.next/\∀j,stBlk o ρ≠some j->H2.get j=H.get j:=by
   intro r hr;unfold dop at hr;rw[hop] at hr;simp only at hr;split at hr
   ·rename_i ad hρ;split at hr
    ·obtain⟨H2,h2,rfl⟩:=Option.map_eq_some_iff.1 hr;refine⟨H2,rfl,?_⟩;unfold Heap.store at h2;split at h2
     ·split at h2
      ·cases h2;refine⟨rfl,fun j hj=>?_⟩;rw[Heap.get_put,if_neg];rintro rfl;refine hj ?_;unfold stBlk;rw[hop];simp only[hρ]
      ·cases h2
     ·cases h2
    ·cases hr
   ·cases hr
  split at h
  ·rename_i v' H2 hd2;cases h;obtain⟨H3,e,h1,h2⟩:=hd _ hd2;cases e;exact⟨rfl,h1,h2⟩
  all_goals first
   |(rename_i hd2;obtain⟨_,e,_⟩:=hd _ hd2;cases e;done)
   |cases h
   |skip
theorem z5p {o:Oper}{ρ ρ':Operand->Value}(h:∀y∈o.op.operands.toList,ρ y=ρ' y):stBlk o ρ=stBlk o ρ':=by
 unfold stBlk;cases hop:o.op with
 |store t a v =>
  simp only;rw[h a (by rw[hop];simp [Op.operands])]
 |_=>rfl
theorem z37 (R:RC ops b effs) {tm0:Tr Value}{st:St}:∀{es:List Nat}{n done:Nat}{G:Heap}{gs:List Heap}{tm:Tr Value}{ds:List Deferred}{k:Nat},
  ddraw P ok n x ops b effs base es done (G :: gs) tm ds=some st->DI ops b effs tm0 es done tm k->(∀e∈es,isSt ops e=true) ->
  st.H.next=G.next/\st.ds=ds/\∀j,(∀i,i < ops.size->j≠base+i)->(∀e∈es,∀o,ops[e]?=some o->stBlk o (rho ops b tm0 st.tm e)≠some j)->st.H.get j=G.get j
 |[],n,done,G,gs,tm,ds,k,h,D,_=>by
  obtain⟨tm1,H1,hd,rfl⟩:=z6b h;obtain⟨_,_,l,hl1,hl2⟩:=z1x R (tmF:=tm1) hd z5o D.ds (D.last R) (fun t _=>rfl) D.t0;simp only at hl1;subst hl1;obtain⟨f1,f2⟩:=z72 (base:=base) l G;exact⟨f1,rfl,fun j hj _=>f2 j fun p hp=>hj p.1 (z41.1 (hl2 p hp).1).1⟩
 |e :: es,n,done,G,gs,tm,ds,k,h,D,hst=>by
  obtain⟨n',tm1,H1,o,v,ds1,H2,_,hdn,ho,h',hc⟩:=z31 h;obtain⟨f1,f2⟩:=z36 R D ho h';obtain⟨_,ht0,l,hl1,hl2⟩:=z1x R (tmF:=st.tm) hdn z20 D.ds (D.pend R) f1 D.t0;simp only at hl1;subst hl1;obtain⟨g1,g2⟩:=z72 (base:=base) l G;obtain⟨e1,e2,t,a,y,e3⟩:=zo0 (hst e (by simp)) ho;obtain⟨k1,k2,k3⟩:=z37 R h' (D.next R (zb9 R ho ht0)) (fun f hf=>hst f (Zn _ hf));rcases hc with ⟨c1,_⟩|⟨c1,c2⟩
  ·rw[wanted_none' e2] at c1;cases c1
  ·obtain⟨s1,s2,s3⟩:=zer e3 c2;refine⟨by rw[k1,s2,g1],by rw[k2,s1],fun j hj hno=>?_⟩;rw[k3 j hj (fun f hf of hof=>hno f (Zn _ hf) of hof),s3 j ?_,g2 j fun p hp=>hj p.1 (z0y.1 (hl2 p hp).1).1];have hrho:=pend_rho R D ho ht0 f1;rw[z5p hrho];exact hno e (by simp) o ho
where
 wanted_none' {tm:Tr Value}{o:Oper}(h:o.guard=none):dwanted ops tm o=some true:=by unfold dwanted;rw[h]
 pend_rho (R:RC ops b effs) {tm0:Tr Value}{st:St}{es:List Nat}{done:Nat}{tm tm1:Tr Value}{k e:Nat}{o:Oper}(D:DI ops b effs tm0 (e :: es) done tm k) (ho:ops[e]?=some o)
   (ht0:∀t,¬written ops (fun i=>bit done i\/i∈pending (Zh ops.size) effs (b.getD e 0) done) t->tm1.get t=tm0.get t)
   (f1:∀t,written ops (fun i=>bit done i\/i∈pending (Zh ops.size) effs (b.getD e 0) done) t->tm1.get t=st.tm.get t) :
   ∀y∈o.op.operands.toList,ev tm1 y=rho ops b tm0 st.tm e y:=by
  have hTI:TI ops tm0 st.tm (fun j=>bit done j\/j∈pending (Zh ops.size) effs (b.getD e 0) done) tm1:=fun t=>⟨f1 t,ht0 t⟩
  have hdsL:DS ops b (fun j=>bit done j\/j∈pending (Zh ops.size) effs (b.getD e 0) done):=fun j hj=>by
   rcases hj with hj|hj
   ·exact⟨(D.ds j hj).1,fun k hk=>.inl ((D.ds j hj).2 k hk)⟩
   ·exact⟨((D.pend R) j hj).1,((D.pend R) j hj).2.2.2⟩
  refine R.ev_rho hdsL hTI ho ?_ ?_
  ·rintro (h|h)
   ·exact D.noe e (by simp) h
   ·have:=R.anc_lt _ _ (z0y.1 h).2.1;omega
  ·intro j hj;by_cases hb:bit done j
   ·exact .inl hb
   ·refine .inr (z0y.2 ⟨by have:=R.anc_lt _ _ hj;have:=z1m ho;omega,hj,hb,fun hje=>?_⟩);obtain⟨pre,hp,hpd,_⟩:=D.sfx;rw[hp.mem_iff] at hje;rcases List.mem_append.1 hje with hje|hje
    ·exact hb (hpd j hje)
    ·rcases List.mem_cons.1 hje with rfl|hje
     ·have:=R.anc_lt _ _ hj;omega
     ·exact((List.pairwise_cons.1 D.topo).1 j hje).2 hj
theorem DI.swap {tm0 tm:Tr Value}{e f done k:Nat}(D:DI ops b effs tm0 [e,f] done tm k) (hb:¬anc b f e) (h1:isSt ops e=true) (h2:isSt ops f=true):DI ops b effs tm0 [f,e] done tm k:=by
 obtain⟨pre,hp,hpd,hk⟩:=D.sfx;have ht:=(List.pairwise_cons.1 D.topo).1 f (by simp);refine⟨D.ds,⟨pre,hp.trans (List.Perm.append_left _ (List.Perm.swap f e [])),hpd,hk⟩,?_,?_,fun g hg=>D.noe g (by simp at hg ⊢;exact hg.symm),D.t0⟩
 ·simp [chainOK,h1,h2]
 ·simp only[List.pairwise_cons,List.mem_singleton,ZF,false_implies,implies_true,List.Pairwise.nil,and_true,forall_eq];exact⟨fun h=>ht.1 h.symm,hb⟩
theorem zk4 (R:RC ops b effs) {tm0:Tr Value}{st st':St}{e f p q done k:Nat}{G:Heap}{gs:List Heap}{tm:Tr Value}{ds:List Deferred}
  (h:ddraw P ok n x ops b effs base [e,f] done (G :: gs) tm ds=some st) (h':ddraw P ok n x ops b effs base [f,e] done (G :: gs) tm ds=some st') (D:DI ops b effs tm0 [e,f] done tm k)
  (hb:¬anc b f e) (h1:isSt ops e=true) (h2:isSt ops f=true) (hpq:dtwin P ops b effs base done (G :: gs) tm e f=some (p,q)) (hag:agree ops base p q st st'=true) :
  (∀t,st'.tm.get t=st.tm.get t)/\(∀j,st'.H.get j=st.H.get j)/\st'.H.next=st.H.next/\st'.ds=st.ds:=by
 have D':=D.swap hb h1 h2;obtain⟨a1,a2,a3,a4⟩:=zk3 hag;have htm:∀t,st'.tm.get t=st.tm.get t:=by
  intro t;by_cases hw:∃(i:Nat) (o:Oper),ops[i]?=some o/\o.dst=some t
  ·obtain⟨i,o,ho,hd⟩:=hw;exact(a1 i o t ho hd).symm
  ·rw[z35 R (k:=k) h D.noe D.topo (fun i o ho hd=>absurd ⟨i,o,ho,hd⟩ hw),z35 R (k:=k) h' D'.noe D'.topo (fun i o ho hd=>absurd ⟨i,o,ho,hd⟩ hw)]
 have hst:∀g∈[e,f],isSt ops g=true:=fun g hg=>by
  rcases List.mem_cons.1 hg with rfl|hg
  ·exact h1
  ·rw[List.mem_singleton] at hg;subst hg;exact h2
 have hst':∀g∈[f,e],isSt ops g=true:=fun g hg=>hst g (by simp at hg ⊢;exact hg.symm)
 obtain⟨s1,s2,s3⟩:=z37 R h D hst;obtain⟨s1',s2',s3'⟩:=z37 R h' D' hst';have hrho:∀i,rho ops b tm0 st'.tm i=rho ops b tm0 st.tm i:=fun i=>by
  funext y
  unfold rho;cases y with
  |tmp t=>simp only[ev,htm]
  |_=>rfl
 have hp:∀o,ops[e]?=some o->stBlk o (rho ops b tm0 st.tm e)=some p:=by
  intro o ho;obtain⟨n',tm1,H1,o',v,ds1,H2,_,hdn,ho',hr,hc⟩:=z31 h;rw[ho] at ho';cases ho';obtain⟨f1,f2⟩:=z36 R D ho hr;obtain⟨_,ht0,_⟩:=z1x R (tmF:=st.tm) hdn z20 D.ds (D.pend R) f1 D.t0;rw[<-z5p (z37.pend_rho R D ho ht0 f1)];unfold dtwin at hpq;simp only at hpq;rw[hdn,ho] at hpq;split at hpq
  ·rename_i t1 _ t2 _ o1 o2 q1 q2 q3 q4;cases q1;cases q3;split at hpq
   ·rename_i p' q' r1 r2;cases hpq;exact r1
   ·cases hpq
  ·cases hpq
 have hq:∀o,ops[f]?=some o->stBlk o (rho ops b tm0 st.tm f)=some q:=by
  intro o ho;obtain⟨n',tm1,H1,o',v,ds1,H2,_,hdn,ho',hr,hc⟩:=z31 h';rw[ho] at ho';cases ho';obtain⟨f1,f2⟩:=z36 R D' ho hr;obtain⟨_,ht0,_⟩:=z1x R (tmF:=st'.tm) hdn z20 D'.ds (D'.pend R) f1 D'.t0;rw[<-hrho,<-z5p (z37.pend_rho R D' ho ht0 f1)];unfold dtwin at hpq;simp only at hpq;rw[hdn,ho] at hpq;split at hpq
  ·rename_i t1 _ t2 _ o1 o2 q1 q2 q3 q4;cases q2;cases q4;split at hpq
   ·rename_i p' q' r1 r2;cases hpq;exact r2
   ·cases hpq
  ·cases hpq
 refine⟨htm,fun j=>?_,by rw[s1,s1'],by rw[s2,s2']⟩;by_cases hjp:j=p
 ·rw[hjp];exact a2.symm
 ·by_cases hjq:j=q
  ·rw[hjq];exact a3.symm
  ·by_cases hjb:∃i,i < ops.size/\j=base+i
   ·obtain⟨i,hi,rfl⟩:=hjb;exact(a4 i hi).symm
   ·have hj0:∀i,i < ops.size->j≠base+i:=fun i hi hij=>hjb ⟨i,hi,hij⟩
    have hno:∀g,(g=e\/g=f)->∀o,ops[g]?=some o->stBlk o (rho ops b tm0 st.tm g)≠some j:=by
     rintro g (rfl|rfl) o ho hh
     ·rw[hp o ho] at hh;cases hh;exact hjp rfl
     ·rw[hq o ho] at hh;cases hh;exact hjq rfl
    rw[s3 j hj0 (fun g hg o ho=>hno g (by simpa using hg) o ho),s3' j hj0 (fun g hg o ho=>by rw[hrho];exact hno g (by simp at hg;exact hg.symm) o ho)]
theorem HR.like {N:Nat}{w0 w:World}{τ:Nat->Value}{σ:Nat->Loc}{H H':Heap}(h:HR P N w0 τ σ H' w) (hg:∀j,H'.get j=H.get j) (hn:H'.next=H.next):HR P N w0 τ σ H w :=
 ⟨h.below,h.size,fun i hi=>h.fresh i (by rw[hn];exact hi),fun i B hB=>h.blk i B (by rw[hg];exact hB),h.inj,h.lt⟩
theorem Step.like {σ σ':Nat->Loc}{w w':World}{H0 H H':Heap}(h:Step σ H0 w σ' H' w') (hg:∀j,H'.get j=H.get j) (hn:H'.next=H.next):Step σ H0 w σ' H w' :=
 ⟨by rw[<-hn];exact h.next,h.ext,h.new,h.frame,h.size,fun i hi h0=>⟨(h.keep i hi h0).1,by rw[<-hg];exact(h.keep i hi h0).2⟩⟩
theorem DrawPost.like {N:Nat}{w0 w1:World}{τ:Nat->Value}{m:Nat}{σ0:Nat->Loc}{H0:Heap}{st st':St}{Q:Exit->Act->World->Prop}(hQ:DrawPost P N w0 τ m σ0 H0 w1 st Q)
  (ht:∀t,st'.tm.get t=st.tm.get t) (hg:∀j,st'.H.get j=st.H.get j) (hn:st'.H.next=st.H.next) (hd:st'.ds=st.ds):DrawPost P N w0 τ m σ0 H0 w1 st' Q :=
 fun σ a w hH htm hds hsz hst=>hQ σ a w (hH.like hg hn) (fun t v hv=>htm t v (by rw[ht];exact hv)) (by rw[<-hd];exact hds) hsz (hst.like hg hn)
theorem SI.like {N:Nat}{w0 w1 w:World}{τ:Nat->Value}{m:Nat}{tm0 tmF tmF':Tr Value}{σ0 σ:Nat->Loc}{H0 G:Heap}{S:Nat->Prop}{done:Nat}{ds:List Deferred}{a:Act}
  (I:SI P N w0 τ ops b base m tm0 tmF σ0 H0 w1 S done G ds σ a w) (ht:∀t,tmF'.get t=tmF.get t):SI P N w0 τ ops b base m tm0 tmF' σ0 H0 w1 S done G ds σ a w:=by
 have hrho:∀i,rho ops b tm0 tmF' i=rho ops b tm0 tmF i:=fun i=>by
  funext y
  unfold rho;cases y with
  |tmp t=>simp only[ev,ht]
  |_=>rfl
 have hw:∀o,dwanted ops tmF' o=dwanted ops tmF o:=fun o=>by
  unfold dwanted;simp only[ht]
 exact⟨I.hH,fun t v=>by rw[ht];exact I.ta t v,I.dsr,I.sz,fun p o B mk h1 h2 h3 h4 h5 h6=>I.ex p o B mk h1 h2 h3 h4 (by rw[<-hw];exact h5) (by rw[<-hrho];exact h6),I.non,I.nob,I.nx,I.stp⟩
end
end Go.Hb
end

section
namespace Go.Hb
open Go Go.RowKit
theorem z5q {F:Fence}{n:Nat}{P:Program}{o:Oper}{a:Act}{w w':World}{K:Act->World->Prop}{Q:Exit->Act->World->Prop}{nx:Next}{v':Value}(hF:∀f,F.fn f) (hnd:∀c,o.op≠.defer c)
    (hr:(execOp a.eval o).run P w=.ok nx w') (hx:nx=.value v'\/(nx=.skip/\v'=undef)) (hK:K (a.put o.dst v') w'):o.wpIn F n P a w K Q:=by
  refine⟨fun f _=>hF f,?_⟩;rw[Oper.semAt_eq _ _ _ hnd,hr];rcases hx with rfl|⟨rfl,rfl⟩
  · rw[Oper.uponIn_value];exact hK
  · rw[Oper.uponIn_skip];exact hK
theorem zcr {o:Oper}(h:isEff o=false):∀c,o.op≠.defer c:=by
  intro c hc;unfold isEff at h;rw[hc] at h;cases h
def HZ (Z:Prop) (B:Oper->(Operand->Value)->List Deferred->Heap->Prop) (P:Program) (ops:Array Oper) (b:Array Nat) (effs:List Nat) (base:Nat) (es:List Nat) (done:Nat) (G:Heap) (gs:List Heap) (tm:Tr Value) (ds:List Deferred):Prop :=
  Z\/∃e r tm1 H1 o,es=e :: r/\isSt ops e=false/\ops[e]?=some o/\dnon P ops b effs base (G :: gs) (pending (Zh ops.size) effs (b.getD e 0) done) tm G=some (tm1,H1)/\dwanted ops tm1 o=some true/\B o (ev tm1) ds H1
section
variable {P:Program}{N:Nat}{w0:World}{τ:Nat->Value}{ops:Array Oper}{b:Array Nat}{effs:List Nat}{F:Fence}{ok:Ok}{n:Nat}{x:Ctx}{base m:Nat}{tm0:Tr Value}{σ0:Nat->Loc}{H0:Heap}{w1:World}{Q:Exit->Act->World->Prop}
theorem zrq {listed:Array Bool}{i fuel:Nat}(hl:listed.size=ops.size) (hi:i < ops.size) (hn:¬lst listed i)
    (h:((Zh ops.size).filter fun j=>!listed.getD j false).length<=fuel+1):((Zh ops.size).filter fun j=>!(listed.setIfInBounds i true).getD j false).length<=fuel:=by
  have:=zcp (p:=fun j=>!listed.getD j false) (q:=fun j=>!(listed.setIfInBounds i true).getD j false) (l:=Zh ops.size) (i:=i) (fun j hj=>by
    have h1:¬lst (listed.setIfInBounds i true) j:=by unfold lst;simpa using hj
    rw[zeq (by omega)] at h1;have h2:¬lst listed j:=fun h=>h1 (.inl h)
    unfold lst at h2;simpa using h2) (List.mem_range.2 hi) (by unfold lst at hn;simpa using hn) (by
    have h1:lst (listed.setIfInBounds i true) i:=(zeq (by omega)).2 (.inr rfl);unfold lst at h1;simp [h1])
  omega
set_option maxHeartbeats 1000000 in
theorem zo1 (R:RC ops b effs) (hF:∀f,F.fn f) (hτ:∀j,(τ j).oneCell'=true) (hok:ops.toList.all (okOper P.globals.size m)=true) {Z:Prop}{B:Oper->(Operand->Value)->List Deferred->Heap->Prop}(hE:EffLaw F P N w0 τ ok n x ops m tm0 σ0 H0 w1 Q Z B)
    (hg0:GR P σ0) (hb0:∀i,base<=i->H0.next<=i/\σ0 i=.none) :
    ∀(fuel:Nat) (listed:Array Bool) (n':Nat) (es:List Nat) (done:Nat) (G:Heap) (gs:List Heap) (tm:Tr Value) (ds:List Deferred) (σ:Nat->Loc) (a:Act) (w:World) (st:St),n'<=n ->
    (Z->DrawPost P N w0 τ m σ0 H0 w1 st Q)->HZ Z B P ops b effs base es done G gs tm ds->es.Pairwise (· < ·) ->
    ddraw P ok n' x ops b effs base es done (G :: gs) tm ds=some st->DI ops b effs tm0 es done tm gs.length->listed.size=ops.size->DS ops b (lst listed)->(∀i,bit done i->lst listed i)->(∀e∈es,¬lst listed e) ->
    SI P N w0 τ ops b base m tm0 st.tm σ0 H0 w1 (lst listed) done G ds σ a w->((Zh ops.size).filter fun i=>!listed.getD i false).length<=fuel ->
    wpAnyIn F 0 P .any ops Q fuel listed a w:=by
  have fin:∀(listed:Array Bool) (n':Nat) (es:List Nat) (done:Nat) (G:Heap) (gs:List Heap) (tm:Tr Value) (ds:List Deferred) (σ:Nat->Loc) (a:Act) (w:World) (st:St),
      (Z->DrawPost P N w0 τ m σ0 H0 w1 st Q)->HZ Z B P ops b effs base es done G gs tm ds->ddraw P ok n' x ops b effs base es done (G :: gs) tm ds=some st->DI ops b effs tm0 es done tm gs.length->(∀i,i < ops.size->lst listed i)->DS ops b (lst listed)->(∀e∈es,¬lst listed e) ->
      SI P N w0 τ ops b base m tm0 st.tm σ0 H0 w1 (lst listed) done G ds σ a w->Q .normal a w:=by
    intro listed n' es done G gs tm ds σ a w st hQz hZ hd D hall hS hes I;have hnil:es=[]:=by
      cases es with
      |nil=>rfl
      |cons e es =>
        obtain⟨pre,hp,_⟩:=D.sfx;obtain⟨o,ho,_⟩:=R.mem_effs.1 (show e∈effs from hp.mem_iff.2 (by simp));exact absurd (hall e (z1m ho)) (hes e (by simp))
    subst hnil;have hQ:=hQz (hZ.resolve_right fun ⟨_,_,_,_,_,h,_⟩=>by cases h);obtain⟨tm1,H1,hdn,hst⟩:=z6b hd;have hfac:=z1x R (tmF:=tm1) hdn z5o D.ds (D.last R) (fun t _=>rfl) D.t0;obtain⟨_,ht0,l,hl1,hl2⟩:=hfac;have htm:st.tm=tm1:=by rw[hst]
    have hH1:st.H=H1:=by rw[hst]
    have hds:st.ds=ds:=by rw[hst]
    simp only at hl1;obtain⟨k1,k2,_,_⟩:=zk1 (P:=P) (N:=N) (w0:=w0) (τ:=τ) (base:=base) hb0 l G I.hH I.stp (fun p hp=>by
      obtain⟨q1,o,mk,q2,q3,q4,q5⟩:=hl2 p hp;exact I.ex p.1 o p.2 mk (hall _ (z1m q2)) (z41.1 q1).2.1 q2 q3 (by rw[htm];exact q4) (by rw[htm];exact q5))
    rw[<-hl1] at k1 k2;refine hQ σ a w (by rw[hH1];exact k1) (fun t v hv=>?_) (by rw[hds];exact I.dsr) I.sz (by rw[hH1];exact k2);by_cases hw:written ops (lst listed) t
    · exact(I.ta t v).1 hw hv
    · refine(I.ta t v).2 hw ?_;rw[htm,ht0 t (fun hw'=>hw (z1h (fun i hi=>?_) hw'))] at hv
      · exact hv
      · rcases hi with hi|hi
        · exact hall i (D.ds i hi).1
        · exact hall i (z41.1 hi).1
  intro fuel
  induction fuel with
  |zero =>
    intro listed n' es done G gs tm ds σ a w st hn hQ hZ hso hd D hl hS hdS hes I hle;have hall:∀i,i < ops.size->lst listed i:=fun i hi=>by
      have hnil:((Zh ops.size).filter fun i=>!listed.getD i false)=[]:=List.eq_nil_of_length_eq_zero (by omega);have:=(List.filter_eq_nil_iff.1 hnil) i (List.mem_range.2 hi);unfold lst;simpa using this
    refine⟨?_,fin listed n' es done G gs tm ds σ a w st hQ hZ hd D hall hS hes I⟩;refine List.eq_nil_iff_forall_not_mem.2 fun i hi=>?_
    have:=(z8c R hl hS).1 hi;exact this.2.1 (hall i this.1)
  |succ fuel ih =>
    intro listed n' es0 done G gs tm ds σ a w st0 hn hQ0 hZ0 hso0 hd0 D0 hl hS hdS hes0 I0 hle;refine⟨fun hr=>fin listed n' es0 done G gs tm ds σ a w st0 hQ0 hZ0 hd0 D0 (zik R hl hS hr) hS hes0 I0,fun i hi=>?_⟩;obtain⟨hiz,hil,hia⟩:=(z8c R hl hS).1 hi;have adapt:∃(st:St) (es:List Nat),(Z->DrawPost P N w0 τ m σ0 H0 w1 st Q)/\HZ Z B P ops b effs base es done G gs tm ds/\ddraw P ok n' x ops b effs base es done (G :: gs) tm ds=some st/\DI ops b effs tm0 es done tm gs.length/\(∀e∈es,¬lst listed e) /\
        SI P N w0 τ ops b base m tm0 st.tm σ0 H0 w1 (lst listed) done G ds σ a w/\(∀r,es=i :: r->r.Pairwise (· < ·))/\(i∈es->∃r,es=i :: r)/\(i∉es->es.Pairwise (· < ·)):=by
      have hrs:∀r,es0=i :: r->r.Pairwise (· < ·):=fun r hr=>by rw[hr] at hso0;exact(List.pairwise_cons.1 hso0).2
      by_cases hie:i∈es0
      · cases es0 with
        |nil=>cases hie
        |cons e r =>
          by_cases hei:i=e
          · exact⟨st0,e :: r,hQ0,hZ0,hd0,D0,hes0,I0,hrs,fun _=>⟨r,by rw[hei]⟩,fun _=>hso0⟩
          · have hir:i∈r:=(List.mem_cons.1 hie).resolve_left hei;rcases za3 D0.ord with h|⟨f,rfl,h1,h2⟩
            · exact absurd (hia e (h i hir)) (hes0 e (by simp))
            · rw[List.mem_singleton] at hir;subst hir;have hb:¬anc b i e:=fun h=>hes0 e (by simp) (hia e h)
              have hlt:e < i:=(List.pairwise_cons.1 hso0).1 i (by simp);obtain⟨st',p,q,t1,t2,t3⟩:=zij (by unfold anc at hb;simpa using hb) hlt hd0;obtain⟨s1,s2,s3,s4⟩:=zk4 R hd0 t1 D0 hb h1 h2 t2 t3;have hz:Z:=hZ0.resolve_right fun ⟨e',_,_,_,_,he',hn,_⟩=>by cases he';rw[h1] at hn;cases hn
              refine⟨st',[i,e],fun z=>(hQ0 z).like s1 s2 s3 s4,.inl hz,t1,D0.swap hb h1 h2,fun g hg=>hes0 g (by simp at hg ⊢;exact hg.symm),I0.like s1,fun r hr=>?_,fun _=>⟨[e],rfl⟩,fun h=>absurd (by simp) h⟩;cases hr;exact List.pairwise_singleton _ _
      · exact⟨st0,es0,hQ0,hZ0,hd0,D0,hes0,I0,hrs,fun h=>absurd h hie,fun _=>hso0⟩
    obtain⟨st,es,hQ,hZ,hd,D,hes,I,hso1,hhead,hso2⟩:=adapt;obtain⟨o,ho⟩:=z3s hiz;have hg:GR P σ:=hg0.ext I.stp.ext;have hoko:okOper P.globals.size m o=true:=List.all_eq_true.1 hok o (by have:=Array.getElem?_eq_some_iff.1 ho;obtain⟨h1,h2⟩:=this;rw[<-h2];exact Array.getElem_mem_toList h1);unfold okOper at hoko;rw[Zk] at hoko;have hdm:∀d,o.dst=some d->d < m:=fun d hd=>by have:=hoko.1;rw[hd] at this;simpa [Nat.blt_eq] using this
    have hop:=I.opnd R hS hg ho hil hia hoko.2;have hl':(listed.setIfInBounds i true).size=ops.size:=by simpa using hl
    have hset:∀j,lst (listed.setIfInBounds i true) j↔lst listed j\/j=i:=fun j=>zeq (by omega)
    have hSeq:lst (listed.setIfInBounds i true)=fun j=>lst listed j\/j=i:=funext fun j=>propext (hset j)
    have hS':DS ops b (lst (listed.setIfInBounds i true)):=fun j hj=>by
      rw[hset] at hj;rcases hj with hj|rfl
      · exact⟨(hS j hj).1,fun k hk=>(hset k).2 (.inl ((hS j hj).2 k hk))⟩
      · exact⟨hiz,fun k hk=>(hset k).2 (.inl (hia k hk))⟩
    have hle':=zrq (ops:=ops) hl hiz hil hle;have hwant:∀bb,dwanted ops st.tm o=some bb->Region.wanted o (yielded ops a.tmps)=bb:=fun bb hw=>by
      refine zco (σ:=σ) (τ:=τ) (fun j want oj d v hgd hoj hdj hv=>?_) hw;exact(I.ta d v).1 ⟨j,oj,hia j (R.guard i o j want ho hgd),hoj,hdj⟩ hv
    unfold wpOpIn;rw[ho];simp only;by_cases hie:i∈es
    ·
      cases es with
      |nil=>cases hie
      |cons e es =>
        obtain⟨pre,hp,hpd,hk⟩:=D.sfx;obtain⟨r,hr⟩:=hhead hie;have hso:=hso1 r hr;cases hr;obtain⟨n'',tm1,H1,o',v,ds1,H2,hlt',hdn,ho',hrest,hcase⟩:=z31 hd;rw[ho] at ho';cases ho';obtain⟨f1,f2⟩:=z36 R D ho hrest;obtain⟨_,ht0,l,hl1,hl2⟩:=z1x R (tmF:=st.tm) hdn z20 D.ds (D.pend R) f1 D.t0;simp only at hl1;have hlS:∀p∈l,lst listed p.1/\¬bit done p.1/\anc b i p.1:=fun p hp=>by
          have:=z0y.1 (hl2 p hp).1;exact⟨hia _ this.2.1,this.2.2.1,this.2.1⟩
        obtain⟨k1,k2,k3,k4⟩:=zk1 (P:=P) (N:=N) (w0:=w0) (τ:=τ) (base:=base) hb0 l G I.hH I.stp (fun p hp=>by
          obtain⟨q1,o2,mk,q2,q3,q4,q5⟩:=hl2 p hp;exact I.ex p.1 o2 p.2 mk (hlS p hp).1 (hlS p hp).2.1 q2 q3 q4 q5)
        rw[<-hl1] at k1 k2 k3 k4;have hget1:∀p,p < ops.size->¬bit (done ||| b.getD i 0 ||| 2 ^ i) p->H1.get (base+p)=none:=fun p hp hb=>by
          rw [k4 _ (fun q hq e => hb (by rw[z0v];have:p=q.1:=by omega
                                         rw[this];exact .inr (.inl (hlS q hq).2.2)))]
          exact I.nob p hp (fun h=>hb (z0v.2 (.inl h)))
        have hdS':∀j,bit (done ||| b.getD i 0 ||| 2 ^ i) j->lst (listed.setIfInBounds i true) j:=fun j hj=>by
          rw[hset];rcases z0v.1 hj with h|h|h
          · exact .inl (hdS j h)
          · exact .inl (hia j h)
          · exact .inr h
        have hes':∀f∈es,¬lst (listed.setIfInBounds i true) f:=fun f hf h=>by
          rcases (hset f).1 h with h|rfl
          · exact hes f (Zn _ hf) h
          · exact((List.pairwise_cons.1 D.topo).1 f hf).1 rfl
        have D':=D.next R (zb9 R ho ht0 (v:=v));have hTI:TI ops tm0 st.tm (fun j=>bit done j\/j∈pending (Zh ops.size) effs (b.getD i 0) done) tm1:=fun t=>⟨f1 t,ht0 t⟩
        have hdsL:DS ops b (fun j=>bit done j\/j∈pending (Zh ops.size) effs (b.getD i 0) done):=fun j hj=>by
          rcases hj with hj|hj
          · exact⟨(D.ds j hj).1,fun k hk=>.inl ((D.ds j hj).2 k hk)⟩
          · exact⟨((D.pend R) j hj).1,((D.pend R) j hj).2.2.2⟩
        have hanc:∀j,anc b i j->bit done j\/j∈pending (Zh ops.size) effs (b.getD i 0) done:=fun j hj=>by
          by_cases hb:bit done j
          · exact .inl hb
          · refine .inr (z0y.2 ⟨by have:=R.anc_lt _ _ hj;omega,hj,hb,fun hje=>?_⟩);rw[hp.mem_iff] at hje;rcases List.mem_append.1 hje with hje|hje
            · exact hb (hpd j hje)
            · exact hes j hje (hia j hj)
        have hni:¬(bit done i\/i∈pending (Zh ops.size) effs (b.getD i 0) done):=by
          rintro (h|h)
          · exact hil (hdS i h)
          · have:=R.anc_lt _ _ (z0y.1 h).2.1;omega
        have hwt:dwanted ops tm1 o=dwanted ops st.tm o:=R.wanted hTI ho hanc;have hρ:=R.ev_rho hdsL hTI ho hni hanc;have next:Z->∀(σ':Nat->Loc) (a':Act) (v':Value) (w':World),a'.tmps=a.tmps->VR σ' τ v v'->HR P N w0 τ σ' H2 w'->DsR σ' τ ds1 a'.defers->Step σ H1 w σ' H2 w' ->
            wpAnyIn F 0 P .any ops Q fuel (listed.setIfInBounds i true) (a'.put o.dst v') w':=by
          intro hz σ' a' v' w' hta hvr hH' hdr hst';refine ih _ n'' es _ H2 (G :: gs) _ ds1 σ' _ w' st (by omega) hQ (.inl hz) hso hrest D' hl' hS' hdS' hes' ?_ hle';refine⟨hH',?_,by rw[z1e];exact hdr,by rw[z1q,hta];exact I.sz,fun p op B mk hpS hpd' hop' hal hwp hdal=>?_,fun p hp hpS=>?_,fun p hp hpd'=>?_,by have:=hst'.next;have:=I.nx;omega,k2.trans hst'⟩
          · rw[hSeq];exact I.slots R hst'.ext ho hil hdm (fun d v2 hd hv2=>by rw[f2 d hd] at hv2;cases hv2;exact hvr) hta
          · have hpi:p≠i:=fun e=>hpd' (z0v.2 (.inr (.inr e)))
            have hpS0:lst listed p:=((hset p).1 hpS).resolve_right hpi;have hnd:¬bit done p:=fun h=>hpd' (z0v.2 (.inl h))
            exact(I.ex p op B mk hpS0 hnd hop' hal hwp hdal).step k1 hst' (hget1 p (z1m hop') hpd')
          · have hpS0:¬lst listed p:=fun h=>hpS ((hset p).2 (.inl h))
            have hpb:¬bit (done ||| b.getD i 0 ||| 2 ^ i) p:=fun h=>hpS (hdS' p h)
            rw[(hst'.keep (base+p) (.inl (by have:=I.nx;omega)) (hget1 p hp hpb)).1];exact I.non p hp hpS0
          · exact(hst'.keep (base+p) (.inl (by have:=I.nx;omega)) (hget1 p hp hpd')).2
        have hzb:Z\/(dwanted ops tm1 o=some true/\B o (ev tm1) ds H1):=hZ.imp_right fun ⟨e',_,_,_,_,he',_,ho',hd',hw',hb'⟩=>by
          cases he';rw[ho] at ho';cases ho';rw[hdn] at hd';cases hd';exact⟨hw',hb'⟩
        rcases hcase with ⟨c1,rfl,rfl,rfl⟩|⟨c1,c2⟩
        · rw[hwant false (hwt ▸ c1)];simp only[Zg,if_false];have hz:Z:=hzb.resolve_right fun h=>by rw[c1] at h;cases h.1
          exact⟨fun f _=>hF f,next hz σ a undef w rfl (.flat _ rfl) k1 I.dsr (Step.refl _ _ _)⟩
        · rw[hwant true (hwt ▸ c1)];simp only[if_true];refine hE n'' (by omega) o (ev tm1) ds H1 v ds1 H2 (by have:=Array.getElem?_eq_some_iff.1 ho;obtain⟨h1,h2⟩:=this;rw[<-h2];exact Array.getElem_mem h1) (hzb.imp_right fun h=>h.2) c2 a w σ _ (fun y hy=>by rw[hρ y hy];exact hop y hy) k1 I.dsr hg ⟨fun t v hno hv=>(I.ta t v).2 (fun ⟨p,op,_,hp,hd⟩=>hno p op hp hd) hv,I.sz,k2⟩ (fun hz σ' v' w' dfs' hv hH' hdr hst'=>?_);exact next hz σ' { a with defers:=dfs' } v' w' rfl hv hH' hdr hst'
    ·
      obtain⟨pre,hp,hpd,hk⟩:=D.sfx;have hne:isEff o=false:=by
        cases hx:isEff o with
        |false=>rfl
        |true =>
          have:=R.mem_effs.2 ⟨o,ho,hx⟩;rw[hp.mem_iff] at this;rcases List.mem_append.1 this with h|h
          · exact absurd (hdS i (hpd i h)) hil
          · exact absurd h hie
      have hso:=hso2 hie;have hnd:¬bit done i:=fun h=>hil (hdS i h)
      have hcnt:effsIn effs (b.getD i 0)<=gs.length:=by
        unfold effsIn;rw[(hp.filter _).length_eq,List.filter_append,Zr,<-hk];have:(es.filter fun e=>(b.getD i 0).testBit e)=[]:=List.filter_eq_nil_iff.2 fun e he hb=>hes e he (hia e hb)
        rw[this];have:=List.length_filter_le (fun e=>(b.getD i 0).testBit e) pre;simpa using this
      have hFN:=z8b R hd D i o ho hne hnd [] G gs rfl hcnt;have hdS':∀j,bit done j->lst (listed.setIfInBounds i true) j:=fun j hj=>(hset j).2 (.inl (hdS j hj))
      have hes':∀f∈es,¬lst (listed.setIfInBounds i true) f:=fun f hf h=>by
        rcases (hset f).1 h with h|rfl
        · exact hes f hf h
        · exact hie hf
      rcases hFN with ⟨c1,c2⟩|⟨c1,c2,B,mk,c3,c4⟩|⟨c1,c2,ρ,v,c3,c4,c5⟩
      ·
        rw[hwant false c1];simp only[Zg,if_false];refine⟨fun f _=>hF f,ih _ n' es done G gs tm ds σ _ w st hn hQ hZ hso hd D hl' hS' hdS' hes' ?_ hle'⟩;refine⟨I.hH,?_,by rw[z1e];exact I.dsr,by rw[z1q];exact I.sz,fun p op B mk hpS hpd' hop' hal hwp hdal=>?_,fun p hp hpS=>I.non p hp (fun h=>hpS ((hset p).2 (.inl h))),I.nob,I.nx,I.stp⟩
        · rw[hSeq];exact I.slots R (Ext.refl σ) ho hil hdm (fun d v2 hd hv2=>by rw[c2 d hd] at hv2;cases hv2;exact .flat _ rfl) rfl
        · rcases (hset p).1 hpS with h|rfl
          · exact I.ex p op B mk h hpd' hop' hal hwp hdal
          · rw[ho] at hop';cases hop';rw[c1] at hwp;cases hwp
      ·
        rw[hwant true c1];simp only[if_true];obtain⟨v',ob,Sz,es1,hrun,hall⟩:=zcm (w:=w) I.hH.size hτ hop c2 c3;have hnn:=I.non i hiz hil;have hlt:base+i < G.next:=by have:=I.nx;omega
        have hH':=I.hH.extra ob Sz es1 hlt hnn;have hb:=hb0 (base+i) (Nat.le_add_right _ _);have he:Ext σ (upd σ (base+i) (.live w.heap.size Sz es1)):=fun j=>by
          by_cases hj:j=base+i
          · rw[hj];exact .inl hnn
          · exact .inr (.inl (z0f _ _ hj))
        obtain⟨hvr,hbr⟩:=hall _ (base+i) he (z0r _ _ _);refine z5q hF (zcr hne) hrun (.inl rfl) (ih _ n' es done G gs tm ds (upd σ (base+i) (.live w.heap.size Sz es1)) _ _ st hn hQ hZ hso hd D hl' hS' hdS' hes' ?_ hle');refine⟨hH',?_,by rw[z1e];exact I.dsr.ext he,by rw[z1q];exact I.sz,fun p op B2 mk2 hpS hpd' hop' hal hwp hdal=>?_,fun p hp hpS=>?_,I.nob,I.nx,I.stp.extra ob Sz es1 hb.1 hb.2⟩
        · rw[hSeq];exact I.slots R he ho hil hdm (fun d v2 hd hv2=>by rw[c4 d hd] at hv2;cases hv2;exact hvr) rfl
        · rcases (hset p).1 hpS with h|rfl
          · have hpi:p≠i:=fun e=>hil (e ▸ h)
            have hB:=I.ex p op B2 mk2 h hpd' hop' hal hwp hdal;rw[z0f _ _ (by omega)];have hlt2:=I.hH.lt;exact(hB.ext he).world fun c S' es' hc=>Below.heap_alloc w _ c (hlt2 (base+p) c S' es' hc)
          · rw[ho] at hop';cases hop';rw[c3] at hdal;cases hdal;rw[z0r];exact hbr
        · rw[hset] at hpS;have hpi:p≠i:=fun e=>hpS (.inr e)
          rw[z0f _ _ (by omega)];exact I.non p hp fun h=>hpS (.inl h)
      ·
        rw[hwant true c1];simp only[if_true];obtain⟨nx,w',σ',v',hrun,hnx,hvr,hH',hst'⟩:=z34 I.hH hτ (fun y hy=>by rw[c3 y hy];exact hop y hy) c4;refine z5q hF (zcr hne) hrun hnx (ih _ n' es done G gs tm ds σ' _ w' st hn hQ hZ hso hd D hl' hS' hdS' hes' ?_ hle');have hlow:∀p,p < ops.size->¬bit done p->(base+p < G.next\/σ (base+p)≠.none):=fun p hp _=>.inl (by have:=I.nx;omega)
        refine⟨hH',?_,by rw[z1e];exact I.dsr.ext hst'.ext,by rw[z1q];exact I.sz,fun p op B2 mk2 hpS hpd' hop' hal hwp hdal=>?_,fun p hp hpS=>?_,I.nob,I.nx,I.stp.trans hst'⟩
        · rw[hSeq];exact I.slots R hst'.ext ho hil hdm (fun d v2 hd hv2=>by rw[c5 d hd] at hv2;cases hv2;exact hvr) rfl
        · rcases (hset p).1 hpS with h|rfl
          · exact(I.ex p op B2 mk2 h hpd' hop' hal hwp hdal).step I.hH hst' (I.nob p (z1m hop') hpd')
          · rw[ho] at hop';cases hop';rw[c2] at hal;cases hal
        · rw[hset] at hpS;have hpS0:¬lst listed p:=fun h=>hpS (.inl h)
          rw[(hst'.keep (base+p) (hlow p hp (fun h=>hpS0 (hdS p h))) (I.nob p hp (fun h=>hpS0 (hdS p h)))).1];exact I.non p hp hpS0
end
end Go.Hb
end

section
namespace Go.Hb
open Go Go.RowKit
section
variable {P:Program}{b:Frame}{a:Act}{k:List Item}{cs:List Frame}{w:World}{F:Fence}{n:Nat}{Q:Exit->Act->World->Prop}
theorem z2i {c:Code}:step P (lone (b.atR a (.code (.scope c) :: k)) cs w)=.next (lone (b.atR a (.code c :: .inScope c :: k)) cs w) :=
 step_lone_go (by simp [stepG,stepG.exec,Frame.atR])
theorem zbb {c:Code}:step P (lone (b.atR a (.inScope c :: k)) cs w)=.next (lone (b.atR a k) cs w) :=
 step_lone_go (by simp [stepG,stepG.exec,Frame.atR])
def noGoto (Q:Exit->Act->World->Prop):Exit->Act->World->Prop
 |.goto _,_,_=>False
 |e,a,w=>Q e a w
theorem zil {c:Code}(h:c.wpIn F n P (noGoto Q) a w):(Code.scope c).wpIn F n P Q a w:=by
 intro b k cs hro hb hr;have h0:(lone (b.atR a (.code (.scope c) :: k)) cs w).fenced P F:=fenced_calm hb hr rfl;obtain⟨e,a₁,w₁,hq,harr⟩:=h b (.inScope c :: k) cs hro hb hr;cases e with
 |normal=>exact⟨.normal,a₁,w₁,hq,.head h0 z2i (StepsIn.trans harr (.one (fenced_calm hb hr rfl) zbb))⟩
 |exit id =>
  have hx:exitTo id (.inScope c :: k)=exitTo id k:=by simp [exitTo]
  exact⟨.exit id,a₁,w₁,hq,fun k' hk=>.head h0 z2i (harr.1 k' (by rw[hx];exact hk)),
   fun hr' hk=>let ⟨k₁,h1,h2⟩:=harr.2 hr' (by rw[hx];exact hk);⟨k₁,h1,.head h0 z2i h2⟩⟩
 |goto l=>exact hq.elim
 |ret=>exact⟨_,a₁,w₁,hq,.of_steps (.one h0 z2i) harr⟩
 |panic ch=>exact⟨_,a₁,w₁,hq,.of_steps (.one h0 z2i) harr⟩
 |outgrown=>exact⟨_,a₁,w₁,hq,.of_steps (.one h0 z2i) harr⟩
def seqS (F:Fence) (n:Nat) (P:Program) (Q:Exit->Act->List Frame->World->Prop):List Code->Act->List Frame->World->Prop
 |[]=>Q .normal
 |c :: rs=>c.wpSIn F n P (Exit.thenS (seqS F n P Q rs) Q)
theorem za4 (Q:Exit->Act->List Frame->World->Prop):Exit.thenS (Q .normal) Q=Q:=by
 funext e a cs w;cases e<;>rfl
theorem z8d (Q:Exit->Act->List Frame->World->Prop) (c:Code):∀rs:List Code,seqS F n P Q (rs++[c])=seqS F n P (Exit.thenS (c.wpSIn F n P Q) Q) rs
 |[]=>by show c.wpSIn F n P (Exit.thenS (Q .normal) Q)=_;rw[za4];rfl
 |d :: rs=>by
  show d.wpSIn F n P (Exit.thenS (seqS F n P Q (rs++[c])) Q)=d.wpSIn F n P (Exit.thenS (seqS F n P (Exit.thenS (c.wpSIn F n P Q) Q) rs) (Exit.thenS (c.wpSIn F n P Q) Q));rw[z8d Q c rs];congr 1
  funext e a cs w
  cases e<;>rfl
theorem zo2:∀{c:Code}{ops:Array Oper}{rs:List Code}{Q:Exit->Act->List Frame->World->Prop}{a:Act}{cs:List Frame}{w:World},headRegion c=some (ops,rs) ->
  wpOpsSIn F n P ops (Exit.thenS (seqS F n P Q rs) Q) (Zh ops.size) a cs w->c.wpSIn F n P Q a cs w:=by
 intro c
 induction c with
 |region id ops dr =>
  intro ops' rs Q a cs w h hw;cases dr with
  |true=>cases h
  |false =>
   simp only[headRegion,Option.some.injEq,Prod.mk.injEq] at h;obtain⟨rfl,rfl⟩:=h;refine wpSIn_region ?_;have:Exit.thenS (seqS F n P Q []) Q=Q:=za4 Q;rw[this] at hw;exact hw
 |seq x y ihx _ =>
  intro ops' rs Q a cs w h hw;simp only[headRegion] at h;cases hx:headRegion x with
  |none=>rw[hx] at h;cases h
  |some p =>
   obtain⟨ops1,rs1⟩:=p;rw[hx] at h;simp only[Option.some.injEq,Prod.mk.injEq] at h;obtain⟨rfl,rfl⟩:=h;refine wpSIn_seq (ihx hx ?_);rw[z8d] at hw;have:Exit.thenS (seqS F n P (Exit.thenS (y.wpSIn F n P Q) Q) rs1) (Exit.thenS (y.wpSIn F n P Q) Q)=Exit.thenS (seqS F n P (Exit.thenS (y.wpSIn F n P Q) Q) rs1) Q:=by
    funext e a cs w;cases e<;>rfl
   rw[this];exact hw
 |_=>intro ops' rs Q a cs w h;cases h
end
section
variable {P:Program}{N:Nat}{w0:World}{τ:Nat->Value}{σ σ':Nat->Loc}{H:Heap}{w w':World}
theorem HR.drop (h:HR P N w0 τ σ H w) {i:Nat}{b S es:Nat}(hgi:H.get i≠none) (hi:i < H.next) (hl:σ i=.live b S es) (hb:N<=b)
  (hos:w'.os=w.os) (ht:w'.tape=w.tape) (ho:w'.output=w.output) (hs:w'.heap.size=w.heap.size) (hw:∀k,k≠b->w'.heap[k]?=w.heap[k]?) :
  HR P N w0 τ (upd σ i .dead) (H.put i none) w'/\Step σ H w (upd σ i .dead) (H.put i none) w':=by
 obtain⟨h1,s1⟩:=h.kill i hi (by rw[hl];simp) hgi;have hlive:∀j c S' es',upd σ i .dead j=.live c S' es'->c≠b:=fun j c S' es' hj hc=>by
  by_cases hji:j=i
  ·rw[hji,z0r] at hj;cases hj
  ·rw[z0f _ _ hji] at hj;subst hc;exact hji (h.inj j i c S' es' S es hj hl)
 refine⟨⟨h1.below.trans ⟨hos,ht,ho,by have:=h.size;omega,fun k hk=>hw k (by omega)⟩,by rw[hs];exact h.size,h1.fresh,fun j C hj=>?_,h1.inj,fun j c S' es' hj=>by rw[hs];exact h1.lt j c S' es' hj⟩,
  ⟨s1.next,s1.ext,s1.new,fun k hk hn=>?_,by omega,s1.keep⟩⟩
 ·exact(h1.blk j C hj).world fun c S' es' hc=>hw c (hlive j c S' es' hc)
 ·exact hw k fun e=>hgi (hn i S es (e ▸ hl))
theorem za5:∀(l:List Value) (i:Nat) (t:Tr Value) (j:Nat),(initTm i l t).get j=if i<=j/\j < i+l.length then l[j - i]? else t.get j
 |[],i,t,j=>by
  have:¬(i<=j/\j < i+([]:List Value).length):=by simp
  rw[if_neg this];rfl
 |v :: l,i,t,j=>by
  rw[initTm,za5 l (i+1) _ j];by_cases h1:i+1<=j/\j < i+1+l.length
  ·rw[if_pos h1,if_pos (by simp;omega)];obtain⟨k,hk⟩:∃k,j - i=k+1:=⟨j - i - 1,by omega⟩
   rw[hk,List.getElem?_cons_succ];congr 1;omega
  ·rw[if_neg h1,Tr.get_put];by_cases h2:j=i
   ·subst h2;rw[if_pos rfl,if_pos (by simp)];simp
   ·rw[if_neg h2,if_neg (by simp;omega)]
theorem TmR.init {args:List Value}{args':Array Value}(h:LR σ τ args args'.toList) (nt:Nat):TmR σ τ (initTm 0 args .nil) (args'++Array.replicate (nt - args'.size) undef):=by
 intro j v hv;rw[za5] at hv;split at hv
 ·rename_i hj;obtain⟨v',hv',hr⟩:=h.get hv;simp only[Nat.sub_zero,Array.getElem?_toList] at hv';have hlt:j < args'.size:=(Array.getElem?_eq_some_iff.1 hv').1;rw[ZH,Array.getElem?_append_left hlt,hv'];exact hr
 ·cases hv
theorem TmR.put {tm:Tr Value}{a:Act}(h:TmR σ τ tm a.tmps) (he:Ext σ σ') {d:Option Tmp}{v v':Value}(hd:∀t,d=some t->t < a.tmps.size) (hv:VR σ' τ v v') :
  TmR σ' τ (putD tm d v) (a.put d v').tmps:=by
 intro t u hu;rw[z7j];by_cases hdt:d=some t
 ·rw[if_pos ⟨hdt,hd t hdt⟩];rw[(z2x tm d v t).1 hdt] at hu;cases hu;exact hv
 ·rw[if_neg (fun h=>hdt h.1)];rw[(z2x tm d v t).2 hdt] at hu;exact(h t u hu).ext he
theorem opnd {tm:Tr Value}{a:Act}(h:TmR σ τ tm a.tmps) (hg:GR P σ) {y:Operand}(hy:okOpnd P.globals.size y=true):VR σ τ (ev tm y) (a.eval y):=by
 cases y with
 |tmp t =>
  show VR σ τ ((tm.get t).getD junk) (a.tmps.getD t undef);cases hq:tm.get t with
  |none=>exact .junk _
  |some v=>exact h t v hq
 |const v=>exact .flat _ hy
 |global g=>exact hg.ptr (by simpa [okOpnd,Nat.blt_eq] using hy)
 |func f=>exact .flat _ rfl
def res1 (a:Array Value):ResultVar->Sem Value
 |.tmp t=>pure (a.getD t undef)
 |.cell b t=>do loadVar t (<-asAddr (a.getD b undef))
theorem zes (hH:HR P N w0 τ σ H w) {tm:Tr Value}{a:Array Value}(h:TmR σ τ tm a) {r:ResultVar}{v:Value}(hd:dres1 P tm H r=some v) :
  ∃v',(res1 a r).run P w=.ok v' w/\VR σ τ v v':=by
 cases r with
 |tmp t =>
  simp only[dres1,Option.some.injEq] at hd;subst hd;refine⟨_,rfl,?_⟩;cases hq:tm.get t with
  |none=>exact .junk _
  |some v=>exact h t v hq
 |cell b t =>
  simp only[dres1] at hd;split at hd
  ·rename_i ad hq;have:=h b _ hq;obtain⟨a',e1,hA⟩:=this.ptr_inv;obtain⟨v',hv',hr⟩:=z85 hH hd hA;refine⟨v',?_,hr⟩;simp [res1,e1,asAddr,Sem.run_bind,hv']
  ·cases hd
theorem z8e (hH:HR P N w0 τ σ H w) {tm:Tr Value}{a:Array Value}(h:TmR σ τ tm a):∀{rs:List ResultVar}{vs:List Value},dresL P tm H rs=some vs ->
  ∃vs',(rs.mapM (res1 a)).run P w=.ok vs' w/\LR σ τ vs vs'
 |[],vs,hd=>by simp only[dresL,Option.some.injEq] at hd;subst hd;exact⟨[],rfl,LR.nil⟩
 |r :: rs,vs,hd=>by
  simp only[dresL] at hd;split at hd
  ·rename_i v vs1 h1 h2;cases hd;obtain⟨v',e1,r1⟩:=zes hH h h1;obtain⟨vs',e2,r2⟩:=z8e hH h h2;refine⟨v' :: vs',?_,LR.cons r1 r2⟩;rw[List.mapM_cons,Sem.run_bind,e1,Result.andThen_ok,Sem.run_bind,e2];rfl
  ·cases hd
theorem zim (hH:HR P N w0 τ σ H w) {fn:Func}{tm:Tr Value}{a:Array Value}(h:TmR σ τ tm a) {v:Value}(hd:dres P fn tm H=some v) :
  ∃v',(results fn a).run P w=.ok v' w/\VR σ τ v v':=by
 unfold dres at hd;cases hl:dresL P tm H fn.results.toList with
 |none=>rw[hl] at hd;cases hd
 |some vs =>
  rw[hl] at hd;obtain⟨vs',e1,r1⟩:=z8e hH h hl;have hrun:(results fn a).run P w=(do let vs <-fn.results.toList.mapM (res1 a);pure (if h:vs.toArray.size=1 then vs.toArray[0] else Value.tuple vs.toArray):Sem Value).run P w:=by
   have hf:(fun r:ResultVar=>(match r with
    |ResultVar.tmp t=>(pure (a.getD t undef):Sem Value)
    |ResultVar.cell b t=>(do loadVar t (<-asAddr (a.getD b undef)):Sem Value)))=res1 a:=by
    funext r;cases r<;>rfl
   show Sem.run P (do let vs <-fn.results.mapM (fun r:ResultVar=>(match r with
    |ResultVar.tmp t=>(pure (a.getD t undef):Sem Value)
    |ResultVar.cell b t=>(do loadVar t (<-asAddr (a.getD b undef)):Sem Value)));pure (if h:vs.size=1 then vs[0] else Value.tuple vs)) w=_
   rw[hf,Array.mapM_eq_mapM_toList];simp only[map_eq_pure_bind,bind_assoc,pure_bind]
  rw[hrun,Sem.run_bind,e1,Result.andThen_ok];have hl1:=r1.1
  match vs,hd,r1 with
  |[u],hd,r1 =>
   cases hd;obtain⟨v',r',rfl,hv,hr⟩:=r1.cons_inv;have:=hr.nil_inv;subst this;exact⟨v',rfl,hv⟩
  |[],hd,r1 =>
   cases hd;have:=r1.nil_inv;subst this;exact⟨_,rfl,.flat _ rfl⟩
  |u1 :: u2 :: vs,hd,r1 =>
   cases hd;obtain⟨v1,r',rfl,hv,hr⟩:=r1.cons_inv;obtain⟨v2,r'',rfl,hv2,hr2⟩:=hr.cons_inv;refine⟨.tuple (v1 :: v2 :: r'').toArray,?_,RA.mk_tuple r1⟩;simp
end
end Go.Hb
end

section
namespace Go.Hb
open Go Go.RowKit
def ChR (σ:Nat->Loc) (τ:Nat->Value):List PanicEntry->List PanicEntry->Prop
 |[],[]=>True
 |e :: l,e' :: l'=>VR σ τ e.v e'.v/\e'.recovered=e.recovered/\e'.goexit=e.goexit/\ChR σ τ l l'
 |_,_=>False
def ExR (σ:Nat->Loc) (τ:Nat->Value):Ex->Exit->Prop
 |.normal,.normal=>True
 |.exit i,.exit j=>i=j
 |.ret,.ret=>True
 |.panic ch,.panic ch'=>ChR σ τ ch ch'
 |_,_=>False
def EnR (σ:Nat->Loc) (τ:Nat->Value):En->Ending->Prop
 |.ret v,.returned v'=>VR σ τ v v'
 |.panic ch,.panicked ch'=>ChR σ τ ch ch'
 |_,_=>False
def MdR (σ:Nat->Loc) (τ:Nat->Value):Option (List PanicEntry)->FrameMode->Prop
 |none,.returning=>True
 |some ch,.panicking ch'=>ChR σ τ ch ch'
 |_,_=>False
structure SR (P:Program) (N:Nat) (w0:World) (τ:Nat->Value) (σ:Nat->Loc) (st:St) (m:Nat) (a:Act) (w:World):Prop where
 hH:HR P N w0 τ σ st.H w
 tm:TmR σ τ st.tm a.tmps
 ds:DsR σ τ st.ds a.defers
 sz:m<=a.tmps.size
 gr:GR P σ
def FRel (x:Ctx) (F:Fence):Prop:=(x.round=none/\F=Fence.wide)\/(x.round≠none/\∃l,F=Fence.wide.inRound l)
section
variable {P:Program}{N:Nat}{w0:World}{τ:Nat->Value}{σ σ':Nat->Loc}{H:Heap}{w w':World}
theorem ChR.ext (he:Ext σ σ'):∀{l l':List PanicEntry},ChR σ τ l l'->ChR σ' τ l l'
 |[],[],_=>trivial
 |_ :: _,_ :: _,h=>⟨h.1.ext he,h.2.1,h.2.2.1,ChR.ext he h.2.2.2⟩
 |[],_ :: _,h=>h.elim
 |_ :: _,[],h=>h.elim
theorem MdR.ext (he:Ext σ σ'):∀{m:Option (List PanicEntry)}{u:FrameMode},MdR σ τ m u->MdR σ' τ m u
 |none,.returning,_=>trivial
 |some _,.panicking _,h=>ChR.ext he h
 |none,.run,h=>h.elim
 |none,.panicking _,h=>h.elim
 |some _,.run,h=>h.elim
 |some _,.returning,h=>h.elim
theorem MdR.ne_run {m:Option (List PanicEntry)}{u:FrameMode}(h:MdR σ τ m u):u≠.run:=by
 rintro rfl;cases m<;>exact h
theorem ChR.dropWhile:∀{l l':List PanicEntry},ChR σ τ l l'->ChR σ τ (l.dropWhile (!·.goexit)) (l'.dropWhile (!·.goexit))
 |[],[],_=>trivial
 |e :: l,e' :: l',h=>by
  simp only[List.dropWhile_cons];rw[h.2.2.1];split
  ·exact ChR.dropWhile h.2.2.2
  ·exact h
 |[],_ :: _,h=>h.elim
 |_ :: _,[],h=>h.elim
theorem MdR.settle:∀{m:Option (List PanicEntry)}{u:FrameMode},MdR σ τ m u->MdR σ τ (dsettle m) (settle u)
 |none,.returning,_=>trivial
 |some [],.panicking [],_=>trivial
 |some (⟨v,r,g⟩ :: l),.panicking (⟨v',r',g'⟩ :: l'),h=>by
  have hr:r'=r:=h.2.1;subst hr;cases r' with
  |false=>exact h
  |true =>
   have hd:=h.2.2.2.dropWhile;unfold dsettle Go.settle;simp only[if_true];revert hd;generalize l.dropWhile (!·.goexit)=x;generalize l'.dropWhile (!·.goexit)=y;intro hd
   match x,y,hd with
   |[],[],_=>trivial
   |_ :: _,_ :: _,hd=>exact hd
   |[],_ :: _,hd=>exact hd.elim
   |_ :: _,[],hd=>exact hd.elim
 |none,.run,h=>h.elim
 |none,.panicking _,h=>h.elim
 |some _,.run,h=>h.elim
 |some _,.returning,h=>h.elim
 |some [],.panicking (_ :: _),h=>h.elim
 |some (_ :: _),.panicking [],h=>h.elim
theorem zet {m:Option (List PanicEntry)}{c₀:Frame}{cs:List Frame}(h:MdR σ τ m c₀.mode) :
  ∃v' u',(match recoverD (c₀ :: cs) with|some (v,cs')=>(v,cs')|none=>(.nilIface,c₀ :: cs))=(v',{ c₀ with mode:=u' } :: cs)/\VR σ τ (drecov m).1 v'/\MdR σ τ (drecov m).2 u':=by
 obtain⟨f1,f2,f3,f4,mode,f6,f7⟩:=c₀;simp only at h
 match m,mode,h with
 |none,.returning,_=>exact⟨.nilIface,.returning,rfl,.flat _ rfl,trivial⟩
 |some [],.panicking [],_=>exact⟨.nilIface,.panicking [],rfl,.flat _ rfl,trivial⟩
 |some (⟨v,r,g⟩ :: l),.panicking (⟨v',r',g'⟩ :: l'),h =>
  have hr:r'=r:=h.2.1;have hg:g'=g:=h.2.2.1;subst hr hg;cases r' with
  |true=>exact⟨.nilIface,.panicking (⟨v',true,g'⟩ :: l'),rfl,.flat _ rfl,h⟩
  |false =>
   cases g' with
   |true=>exact⟨.nilIface,.panicking (⟨v',false,true⟩ :: l'),rfl,.flat _ rfl,h⟩
   |false=>exact⟨v',.panicking (⟨v',true,false⟩ :: l'),rfl,h.1,⟨h.1,rfl,rfl,h.2.2.2⟩⟩
theorem HR.loopAt (hH:HR P N w0 τ σ H w) {l:Nat}{s:LoopState}{pend:Option Code}{fn:FuncId}{tm:Tr Value}{ps:List Tmp}{as bo:Code}{k:Nat}(hg:H.get l=some (.loop s pend fn tm ps as bo k)) :
  ∃b S es m L,σ l=.live b S es/\N<=b/\w.heap[b]?=some (.loop L)/\L.state=s/\L.pending=pend/\L.params.toList=ps/\L.assign=as/\L.body=bo/\TmR σ τ tm L.tmps/\m<=L.tmps.size /\
   okCode P.globals.size m as=true/\okCode P.globals.size m bo=true/\(∀t∈ps,t < m)/\(pend=none\/pend=some .ret\/∃id,pend=some (.exit id)):=by
 have hB:=hH.blk l _ hg;generalize hσ:σ l=loc at hB;cases hB with
 |loop b S es _ _ _ _ _ _ _ _ m L h1 h2 h3 h4 h5 h6 h7 h8 h9 h10 h11 h12 h13=>exact⟨b,S,es,m,L,rfl,h1,h2,h3,h4,h5,h6,h7,h8,h9,h10,h11,h12,h13⟩
theorem BR.at' {l l' b S es:Nat}(h:BR σ l l') (hl:σ l=.live b S es):l'=b:=by
 unfold BR at h;rw[hl] at h;exact h
theorem z42 {b:Nat}{L:Loop}(h:w.heap[b]?=some (.loop L)):(Instr.getLoop b).run P w=.ok L w:=by
 have hg:(getObj b).run P w=.ok (.loop L) w:=by simp [getObj,Sem.run,h]
 simp [Instr.getLoop,Sem.run_bind,hg]
theorem z5r {b:Nat}{o:Obj}{L:Loop}(h:w.heap[b]?=some (.loop L)):(setObj b o).run P w=.ok () { w with heap:=w.heap.setIfInBounds b o }:=by
 simp [setObj,Sem.run,h]
theorem zin {b:Nat}{o:Obj}{l:Option (List Deferred)}(h:w.heap[b]?=some (.deferred l)):(setObj b o).run P w=.ok () { w with heap:=w.heap.setIfInBounds b o }:=by
 simp [setObj,Sem.run,h]
theorem HR.setLoop (hH:HR P N w0 τ σ H w) {l:Nat}{s s':LoopState}{pend pend':Option Code}{fn:FuncId}{tm:Tr Value}{ps:List Tmp}{as bo:Code}{k b S es m:Nat}{L:Loop}(hg:H.get l=some (.loop s pend fn tm ps as bo k))
  (hσ:σ l=.live b S es) (hN:N<=b) (hb:w.heap[b]?=some (.loop L)) (h5:L.params.toList=ps) (h6:L.assign=as) (h7:L.body=bo) (h8:TmR σ τ tm L.tmps) (h9:m<=L.tmps.size)
  (h10:okCode P.globals.size m as=true) (h11:okCode P.globals.size m bo=true) (h12:∀t∈ps,t < m) (h13:pend'=none\/pend'=some .ret\/∃id,pend'=some (.exit id)) :
  HR P N w0 τ σ (H.put l (some (.loop s' pend' fn tm ps as bo k))) { w with heap:=w.heap.setIfInBounds b (.loop { L with state:=s',pending:=pend' }) } /\
  Step σ H w σ (H.put l (some (.loop s' pend' fn tm ps as bo k))) { w with heap:=w.heap.setIfInBounds b (.loop { L with state:=s',pending:=pend' }) }:=by
 have hbl:=(Array.getElem?_eq_some_iff.1 hb).1;exact hH.write (by rw[hg];simp) hσ hN rfl rfl rfl (by simp) (fun j hj=>z69 _ hj)
  (.loop b S es s' pend' fn tm ps as bo k m { L with state:=s',pending:=pend' } hN (zb6 _ hbl) rfl rfl h5 h6 h7 h8 h9 h10 h11 h12 h13)
theorem zk5 {m:Nat}:∀{ps:List Tmp}{args args':List Value}{tm:Tr Value}{a:Array Value},LR σ τ args args'->TmR σ τ tm a->m<=a.size->(∀t∈ps,t < m) ->
  TmR σ τ ((ps.zip args).foldl (fun t p=>t.put p.1 (some p.2)) tm) ((ps.zip args').foldl (fun tmps p=>tmps.setIfInBounds p.1 p.2) a)/\((ps.zip args').foldl (fun tmps p=>tmps.setIfInBounds p.1 p.2) a).size=a.size
 |[],args,args',tm,a,_,ht,_,_=>by simpa using ht
 |p :: ps,[],args',tm,a,hl,ht,_,_=>by rw[hl.nil_inv];simpa using ht
 |p :: ps,v :: args,args',tm,a,hl,ht,hm,hp=>by
  obtain⟨v',r',rfl,hv,hr⟩:=hl.cons_inv;simp only[List.zip_cons_cons,List.foldl_cons];have hlt:p < a.size:=Zi (hp p (by simp)) hm;have h1:TmR σ τ (tm.put p (some v)) (a.setIfInBounds p v'):=fun t u hu=>by
   rw[Tr.get_put] at hu;rw[ZH,Array.getElem?_setIfInBounds];by_cases h:t=p
   ·rw[if_pos h] at hu;cases hu;rw[if_pos h.symm,if_pos hlt];exact hv
   ·rw[if_neg h] at hu;rw[if_neg (fun e=>h e.symm)];have:=ht t u hu;rw[ZH] at this;exact this
  obtain⟨k1,k2⟩:=zk5 hr h1 (by simpa using hm) (fun t ht=>hp t (Zn _ ht));exact⟨k1,by rw[k2];simp⟩
end
end Go.Hb
end

section
namespace Go.Hb
open Go Go.RowKit
section
variable (P:Program) (N:Nat) (w0:World) (τ:Nat->Value) (ok:Ok)
def seqW (F:Fence) (P:Program) (Q:Exit->Act->World->Prop):List Code->Act->World->Prop
  |[]=>Q .normal
  |c :: rs=>c.wpIn F 0 P (Exit.then (seqW F P Q rs) Q)
def Cont (σ:Nat->Loc) (H:Heap) (w:World) (ex:Ex) (st':St) (m:Nat) (Q:Exit->Act->World->Prop):Prop :=
  ∀e a' w' σ',ExR σ' τ ex e->SR P N w0 τ σ' st' m a' w'->Step σ H w σ' st'.H w'->Q e a' w'
structure All (n:Nat):Prop where
  code:∀{x c st ex st' m a w σ F}(Q:Exit->Act->World->Prop),dcode P ok n x c st=some (ex,st')->okCode P.globals.size m c=true->SR P N w0 τ σ st m a w->FRel x F ->
    Cont P N w0 τ σ st.H w ex st' m Q->c.wpIn F 0 P Q a w
  loop:∀{x c st ex st' m a w σ F}(Q:Exit->Act->World->Prop),dcode P ok n x (.loop c) st=some (ex,st')->okCode P.globals.size m c=true->SR P N w0 τ σ st m a w->FRel x F ->
    Cont P N w0 τ σ st.H w ex st' m Q->Code.roundsIn F 0 P c Q n a w
  seq:∀{x rs st ex st' m a w σ F}(Q:Exit->Act->World->Prop),dseq P ok n x rs st=some (ex,st')->(∀c∈rs,okCode P.globals.size m c=true)->SR P N w0 τ σ st m a w->FRel x F ->
    Cont P N w0 τ σ st.H w ex st' m Q->seqW F P Q rs a w
  ops:∀{x ops l st ex st' m a w σ F}(Q:Exit->Act->World->Prop),dops P ok n x ops l st=some (ex,st')->ops.toList.all (okOper P.globals.size m)=true->SR P N w0 τ σ st m a w->FRel x F ->
    Cont P N w0 τ σ st.H w ex st' m Q->wpOpsIn F 0 P ops Q l a w
  op1:∀{x o ρ ds H r a w σ F}(K:Act->World->Prop) (Q:Exit->Act->World->Prop),dop1 P ok n x o ρ ds H=some r->(∀y∈o.op.operands.toList,VR σ τ (ρ y) (a.eval y))->HR P N w0 τ σ H w->DsR σ τ ds a.defers->GR P σ->FRel x F ->
    (match (generalizing:=false) r with
     |.val v ds1 H1=>∀ σ' v' w' dfs',VR σ' τ v v'->HR P N w0 τ σ' H1 w'->DsR σ' τ ds1 dfs'->Step σ H w σ' H1 w'->K (({ a with defers:=dfs' }:Act).put o.dst v') w'
     |.panic ch H1=>∀ σ' ch' w',ChR σ' τ ch ch'->HR P N w0 τ σ' H1 w'->Step σ H w σ' H1 w'->Q (.panic ch') a w')->o.wpIn F 0 P a w K Q
  call:∀{f args args' H en H' w σ},dcall P ok n f args H=some (en,H')->LR σ τ args args'.toList->HR P N w0 τ σ H w->GR P σ ->
    CallsIn Fence.wide 0 P f args' w fun e w'=>∃ σ',EnR σ' τ en e/\HR P N w0 τ σ' H' w'/\Step σ H w σ' H' w'
  leave:∀{fn tm ds md H en H' tmps ds' u w σ}(R:Ending->World->Prop),dleave P ok n fn tm ds md H=some (en,H')->TmR σ τ tm tmps->DsR σ τ ds ds'->MdR σ τ md u->HR P N w0 τ σ H w->GR P σ ->
    (∀e w' σ',EnR σ' τ en e->HR P N w0 τ σ' H' w'->Step σ H w σ' H' w'->R e w')->LeavesInM Fence.wide 0 P fn tmps R ds' u w
  round:∀{l l' args args' H v H' w σ},dround P ok n l args H=some (v,H')->BR σ l l'->LR σ τ args args'.toList->HR P N w0 τ σ H w->GR P σ ->
    ∃f tmps as bo,(Instr.yield l' args').run P w=.ok (.round l' f tmps as bo) w /\
      ∀(F:Fence),(F=Fence.wide\/∃l2,F=Fence.wide.inRound l2)->RoundIn F 0 P l' f tmps as bo w fun e w'=>∃v' σ',e=.returned v'/\VR σ' τ v v'/\HR P N w0 τ σ' H' w'/\Step σ H w σ' H' w'
end
end Go.Hb
end

section
namespace Go.Hb
open Go Go.RowKit
section
variable {P:Program}{N:Nat}{w0:World}{τ:Nat->Value}{ok:Ok}{n:Nat}
theorem FRel.fn {x:Ctx}{F:Fence}(h:FRel x F):∀f,F.fn f:=by
  intro f;rcases h with ⟨_,rfl⟩|⟨_,l,rfl⟩<;>trivial
theorem FRel.depth {x:Ctx}{F:Fence}(h:FRel x F):F.depth.isSome=true->1<=0:=by
  intro hd;rcases h with ⟨_,rfl⟩|⟨_,l,rfl⟩<;>cases hd
theorem FRel.calls {x:Ctx}{F:Fence}(h:FRel x F) {f:FuncId}{args:Array Value}{w:World}{R:Ending->World->Prop}(hc:CallsIn Fence.wide 0 P f args w R):CallsIn F 0 P f args w R:=by
  rcases h with ⟨_,rfl⟩|⟨_,l,rfl⟩
  · exact hc
  · exact hc
theorem FRel.any {x:Ctx}{F:Fence}(h:FRel x F):F=Fence.wide\/∃l2,F=Fence.wide.inRound l2:=by
  rcases h with ⟨_,h⟩|⟨_,h⟩
  · exact .inl h
  · exact .inr h
theorem zk6 {o:Oper}{ρ:Operand->Value}{H:Heap}{r:Dr}{c:Call}(ho:o.op=.defer c) (h:dop P o ρ H=some r):∃d,r=.dfr d:=by
  unfold dop at h;rw[ho] at h;simp only at h;split at h
  · split at h
    · cases h;exact⟨_,rfl⟩
    · cases h
  · cases h
theorem zfv (hτ:∀j,(τ j).oneCell'=true) (A:All P N w0 τ ok n) {x o ρ ds H r a w σ F}(K:Act->World->Prop) (Q:Exit->Act->World->Prop) (h:dop1 P ok (n+1) x o ρ ds H=some r)
    (hρ:∀y∈o.op.operands.toList,VR σ τ (ρ y) (a.eval y)) (hH:HR P N w0 τ σ H w) (hds:DsR σ τ ds a.defers) (hg:GR P σ) (hF:FRel x F)
    (hK:match (generalizing:=false) r with
     |.val v ds1 H1=>∀ σ' v' w' dfs',VR σ' τ v v'->HR P N w0 τ σ' H1 w'->DsR σ' τ ds1 dfs'->Step σ H w σ' H1 w'->K (({ a with defers:=dfs' }:Act).put o.dst v') w'
     |.panic ch H1=>∀ σ' ch' w',ChR σ' τ ch ch'->HR P N w0 τ σ' H1 w'->Step σ H w σ' H1 w'->Q (.panic ch') a w'):o.wpIn F 0 P a w K Q:=by
  unfold dop1 at h;have hnd:∀dr,dop P o ρ H=some dr->(∀d,dr≠.dfr d)->∀c,o.op≠.defer c:=fun dr hd hne c hc=>by
    obtain⟨d,hd'⟩:=zk6 hc hd;exact hne d hd'
  split at h
  ·
    rename_i v H' hd;cases h;obtain⟨nx,w',σ',v',hrun,hnx,hv,hH',hst⟩:=z34 hH hτ hρ hd;exact z5q hF.fn (hnd _ hd (by simp)) hrun hnx (hK σ' v' w' a.defers hv hH' (hds.ext hst.ext) hst)
  ·
    rename_i f args hd;obtain⟨args',hrun,hl⟩:=z34 hH hτ hρ hd;refine⟨fun f _=>hF.fn f,?_⟩;rw[Oper.semAt_eq _ _ _ (hnd _ hd (by simp)),hrun,Oper.uponIn_enter];refine⟨hF.depth,?_⟩;cases hc:dcall P ok n f args H with
    |none=>rw[hc] at h;cases h
    |some p =>
      obtain⟨en,H'⟩:=p;rw[hc] at h;refine hF.calls (CallsIn.mono (A.call hc hl hH hg) fun e w' he=>?_);obtain⟨σ',hen,hH',hst⟩:=he;cases en with
      |ret v =>
        cases h;cases e with
        |returned v'=>exact hK σ' v' w' a.defers hen hH' (hds.ext hst.ext) hst
        |panicked _=>exact hen.elim
        |outgrown=>exact hen.elim
      |panic ch =>
        cases h;cases e with
        |returned v'=>exact hen.elim
        |panicked ch'=>exact hK σ' ch' w' hen hH' hst
        |outgrown=>exact hen.elim
  ·
    rename_i l args hd;obtain⟨l',args',hrun,hbr,hl⟩:=z34 hH hτ hρ hd;cases hc:dround P ok n l args H with
    |none=>rw[hc] at h;cases h
    |some p =>
      obtain⟨v,H'⟩:=p;rw[hc] at h;cases h;obtain⟨f,tmps,as,bo,hy,hr⟩:=A.round hc hbr hl hH hg;refine⟨fun f _=>hF.fn f,?_⟩;rw[Oper.semAt_eq _ _ _ (hnd _ hd (by simp)),hrun,hy,Oper.uponIn_round];refine⟨hF.depth,RoundIn.mono (hr F hF.any) fun e w' he=>?_⟩;obtain⟨v',σ',rfl,hv,hH',hst⟩:=he;exact hK σ' v' w' a.defers hv hH' (hds.ext hst.ext) hst
  ·
    rename_i d hd;obtain⟨d',hrun,hdr⟩:=z34 hH hτ hρ hd;cases hx:x.round with
    |some _=>rw[hx] at h;cases h
    |none =>
      rw[hx] at h;cases h;refine⟨fun f _=>hF.fn f,?_⟩;have hFw:F=Fence.wide:=by
        rcases hF with ⟨_,h⟩|⟨h,_⟩
        · exact h
        · exact absurd hx h
      subst hFw;show o.uponIn Fence.wide 0 P a K Q ((execOp a.eval o).run P w);rw[hrun,Oper.uponIn_defer];exact hK σ undef w (d' :: a.defers) (.flat _ rfl) hH ⟨hdr,hds⟩ (Step.refl _ _ _)
  ·
    rename_i v hd;cases h;obtain⟨v',hrun,hv⟩:=z34 hH hτ hρ hd;refine⟨fun f _=>hF.fn f,?_⟩;rw[Oper.semAt_eq _ _ _ (hnd _ hd (by simp)),hrun,Oper.uponIn_panic];exact hK σ _ w ⟨hv,rfl,rfl,trivial⟩ hH (Step.refl _ _ _)
  · cases h
theorem zo3 (A:All P N w0 τ ok n) {x ops l st ex st' m a w σ F}(Q:Exit->Act->World->Prop) (h:dops P ok (n+1) x ops l st=some (ex,st')) (hok:ops.toList.all (okOper P.globals.size m)=true) (hs:SR P N w0 τ σ st m a w)
    (hF:FRel x F) (hQ:Cont P N w0 τ σ st.H w ex st' m Q):wpOpsIn F 0 P ops Q l a w:=by
  cases l with
  |nil =>
    unfold dops at h;cases h;exact hQ .normal a w σ trivial hs (Step.refl _ _ _)
  |cons i rest =>
    unfold dops at h;unfold wpOpsIn;cases ho:ops[i]? with
    |none=>rw[ho] at h;cases h
    |some o =>
      rw[ho] at h;simp only at h ⊢;have hmem:o∈ops.toList:=by
        obtain⟨h1,h2⟩:=Array.getElem?_eq_some_iff.1 ho;rw[<-h2];exact Array.getElem_mem_toList h1
      have hoko:=List.all_eq_true.1 hok o hmem;unfold okOper at hoko;rw[Zk] at hoko;have hdm:∀d,o.dst=some d->d < m:=fun d hd=>by have:=hoko.1;rw[hd] at this;simpa [Nat.blt_eq] using this
      have hput:∀{σ':Nat->Loc}{v v':Value}{ds:List Deferred}{dfs:List Deferred}{H':Heap}{w':World},Ext σ σ'->VR σ' τ v v'->HR P N w0 τ σ' H' w'->DsR σ' τ ds dfs ->
          SR P N w0 τ σ' (St.put ⟨st.tm,ds,st.H⟩ o.dst v H') m (({ a with defers:=dfs }:Act).put o.dst v') w':=by
        intro σ' v v' ds dfs H' w' he hv hH' hd;have htm:=TmR.put (a:={ a with defers:=dfs }) hs.tm he (d:=o.dst) (fun t ht=>Zi (hdm t ht) hs.sz) hv;have hst:St.put ⟨st.tm,ds,st.H⟩ o.dst v H'=⟨putD st.tm o.dst v,ds,H'⟩:=by cases o.dst<;>rfl
        rw[hst];exact⟨hH',htm,by rw[z1e];exact hd,by rw[z1q];exact hs.sz,hs.gr.ext he⟩
      cases hw:dwanted ops st.tm o with
      |none=>rw[hw] at h;cases h
      |some bb =>
        rw[hw] at h;have hwant:=zco (σ:=σ) (τ:=τ) (a:=a.tmps) (fun j want oj d v _ _ _ hv=>hs.tm d v hv) hw;rw[hwant];cases bb with
        |false =>
          simp only[Zg,if_false] at h ⊢;refine⟨fun f _=>hF.fn f,A.ops Q h hok (hput (Ext.refl σ) (.flat _ rfl) hs.hH hs.ds) hF ?_⟩;intro e a' w' σ' he hs' hst;refine hQ e a' w' σ' he hs' ?_;have:(st.put o.dst undef st.H).H=st.H:=by cases o.dst<;>rfl
          rw[this] at hst;exact hst
        |true =>
          simp only[if_true] at h ⊢;cases h1:dop1 P ok n x o (ev st.tm) st.ds st.H with
          |none=>rw[h1] at h;cases h
          |some r =>
            rw[h1] at h;refine A.op1 _ Q h1 (fun y hy=>opnd hs.tm hs.gr (List.all_eq_true.1 hoko.2 y hy)) hs.hH hs.ds hs.gr hF ?_;cases r with
            |val v ds1 H1 =>
              intro σ' v' w' dfs' hv hH' hd' hst;refine A.ops Q h hok (hput hst.ext hv hH' hd') hF ?_;intro e a' w'' σ'' he hs' hst';refine hQ e a' w'' σ'' he hs' ?_;have:(St.put ⟨st.tm,ds1,st.H⟩ o.dst v H1).H=H1:=by cases o.dst<;>rfl
              rw[this] at hst';exact hst.trans hst'
            |panic ch H1 =>
              intro σ' ch' w' hch hH' hst;cases h;exact hQ (.panic ch') a w' σ' hch ⟨hH',fun t v hv=>(hs.tm t v hv).ext hst.ext,hs.ds.ext hst.ext,hs.sz,hs.gr.ext hst.ext⟩ hst
theorem zo4 (A:All P N w0 τ ok n) {x rs st ex st' m a w σ F}(Q:Exit->Act->World->Prop) (h:dseq P ok (n+1) x rs st=some (ex,st')) (hok:∀c∈rs,okCode P.globals.size m c=true) (hs:SR P N w0 τ σ st m a w)
    (hF:FRel x F) (hQ:Cont P N w0 τ σ st.H w ex st' m Q):seqW F P Q rs a w:=by
  cases rs with
  |nil=>unfold dseq at h;cases h;exact hQ .normal a w σ trivial hs (Step.refl _ _ _)
  |cons c rs =>
    unfold dseq at h;cases hc:dcode P ok n x c st with
    |none=>rw[hc] at h;cases h
    |some p =>
      obtain⟨ex1,st1⟩:=p;rw[hc] at h;refine A.code _ hc (hok c (by simp)) hs hF ?_;intro e a' w' σ' he hs' hst;cases ex1 with
      |normal =>
        cases e<;>try exact he.elim
        exact A.seq Q h (fun d hd=>hok d (Zn _ hd)) hs' hF fun e2 a2 w2 σ2 he2 hs2 hst2=>hQ e2 a2 w2 σ2 he2 hs2 (hst.trans hst2)
      | exit i => cases h;cases e<;>try exact he.elim
                  exact hQ _ a' w' σ' he hs' hst
      | ret => cases h;cases e<;>try exact he.elim
               exact hQ _ a' w' σ' he hs' hst
      | panic ch => cases h;cases e<;>try exact he.elim
                    exact hQ _ a' w' σ' he hs' hst
theorem zk7 (A:All P N w0 τ ok n) {x c st ex st' m a w σ F}(Q:Exit->Act->World->Prop) (hm:mapShape c=none) (h:dcode P ok (n+1) x (.loop c) st=some (ex,st')) (hok:okCode P.globals.size m c=true) (hs:SR P N w0 τ σ st m a w)
    (hF:FRel x F) (hQ:Cont P N w0 τ σ st.H w ex st' m Q):Code.roundsIn F 0 P c Q (n+1) a w:=by
  unfold dcode at h;simp only at h;rw[hm] at h;simp only at h;rw[roundsIn_succ];cases hc:dcode P ok n x c st with
  |none=>rw[hc] at h;cases h
  |some p =>
    obtain⟨ex1,st1⟩:=p;rw[hc] at h;refine A.code _ hc hok hs hF ?_;intro e a' w' σ' he hs' hst;cases ex1 with
    |normal =>
      cases e<;>try exact he.elim
      exact A.loop Q h hok hs' hF fun e2 a2 w2 σ2 he2 hs2 hst2=>hQ e2 a2 w2 σ2 he2 hs2 (hst.trans hst2)
    | exit i => cases h;cases e<;>try exact he.elim
                exact hQ _ a' w' σ' he hs' hst
    | ret => cases h;cases e<;>try exact he.elim
             exact hQ _ a' w' σ' he hs' hst
    | panic ch => cases h;cases e<;>try exact he.elim
                  exact hQ _ a' w' σ' he hs' hst
end
end Go.Hb
end

section
namespace Go.Hb
end Go.Hb
end

section
namespace Go.Hb
open Go Go.RowKit
section
variable {P:Program}{N:Nat}{w0:World}{τ:Nat->Value}{ok:Ok}{n:Nat}{σ σ1:Nat->Loc}{H:Heap}{w w1:World}
theorem za6 (A:All P N w0 τ ok n) {x c st ex st' m a F}(Q:Exit->Act->World->Prop) (h:dcode P ok (n+1) x (.loop c) st=some (ex,st')) (hok:okCode P.globals.size m c=true) (hs:SR P N w0 τ σ st m a w)
  (hF:FRel x F) (hQ:Cont P N w0 τ σ st.H w ex st' m Q):Code.roundsIn F 0 P c Q (n+1) a w:=by
 cases hms:mapShape c with
 |none=>exact zk7 A Q hms h hok hs hF hQ
 |some q =>
  unfold dcode at h;simp only at h;rw[hms] at h;cases h
end
end Go.Hb
end

section
namespace Go.Hb
open Go Go.RowKit
section
variable {P:Program}{N:Nat}{w0:World}{τ:Nat->Value}{ok:Ok}{n:Nat}
theorem FRel.round {x:Ctx}{F:Fence}(h:FRel x F) (hx:x.round=none):F=Fence.wide:=by
  rcases h with ⟨_,h⟩|⟨h,_⟩
  · exact h
  · exact absurd hx h
theorem HR.bump {σ:Nat->Loc}{H:Heap}{w:World}(h:HR P N w0 τ σ H w) (k:Nat):HR P N w0 τ σ ⟨H.next+k,H.t⟩ w :=
  ⟨h.below,h.size,fun i hi=>h.fresh i (by have:H.next+k<=i:=hi;omega),h.blk,h.inj,h.lt⟩
theorem HR.get_none {σ:Nat->Loc}{H:Heap}{w:World}(h:HR P N w0 τ σ H w) {i:Nat}(hi:H.next<=i):H.get i=none:=by
  cases hg:H.get i with
  |none=>rfl
  |some B=>have:=h.get_lt hg;omega
theorem z7w {n i:Nat}:¬lst (Array.replicate n false) i:=by
  unfold lst;rw[ZH,Array.getElem?_replicate];split<;>simp
theorem zfw (hτ:∀j,(τ j).oneCell'=true) (hm:P.follows .mixedOrders=true) {x id ops st st' m a w σ F}(Q:Exit->Act->World->Prop) {Z:Prop}{B:Oper->(Operand->Value)->List Deferred->Heap->Prop}{effs:List Nat}
    (heffs:effs=(Zh ops.size).filter fun i=>match ops[i]? with|some o=>isEff o|none=>false) (hE:EffLaw F P N w0 τ ok n x ops m st.tm σ st.H w Q Z B)
    (h:ddraw P ok n x ops (Region.before ops) effs st.H.next effs 0 [⟨st.H.next+ops.size,st.H.t⟩] st.tm st.ds=some st')
    (hok:ops.toList.all (okOper P.globals.size m)=true) (hdr:okDraw ops=true) (hs:SR P N w0 τ σ st m a w) (hF:∀f,F.fn f) (hQ:Z->DrawPost P N w0 τ m σ st.H w st' Q)
    (hZ:HZ Z B P ops (Region.before ops) effs st.H.next effs 0 ⟨st.H.next+ops.size,st.H.t⟩ [] st.tm st.ds):(Code.region id ops true).wpIn F 0 P Q a w:=by
  subst heffs;have R:=RC.of_ok hdr;refine wpIn_region_any hm ?_;have hdrew:({ w with drawn:=w.drawn+1 }:World)=w.drew:=rfl;rw[hdrew];refine zo1 (N:=N) (w0:=w0) (n:=n) (x:=x) (m:=m) (tm0:=st.tm) (σ0:=σ) (H0:=st.H) (w1:=w) R hF hτ hok hE hs.gr (fun i hi=>⟨hi,hs.hH.fresh i hi⟩) ops.size (Array.replicate ops.size false) n _ 0 _ [] st.tm st.ds σ a w.drew st' (Ze _) hQ hZ R.sorted h ?_ (by simp) ?_ ?_ ?_ ?_ ?_
  · exact⟨fun i hi=>by simp [bit] at hi,⟨[],List.Perm.refl _,fun e he=>(by cases he),rfl⟩,R.chain,R.topo R.sorted,fun e _ he=>by simp [bit] at he,fun t _=>rfl⟩
  · intro i hi;exact absurd hi z7w
  · intro i hi;simp [bit] at hi
  · intro e _ he;exact absurd he z7w
  · refine⟨hs.hH.drew.bump _,fun t v=>⟨fun hw=>?_,fun _ hv=>hs.tm t v hv⟩,hs.ds,hs.sz,fun p o B mk hp=>absurd hp z7w,fun p _ _=>hs.hH.fresh _ (Nat.le_add_right _ _),fun p _ _=>hs.hH.get_none (Nat.le_add_right _ _),Ze _,?_⟩
    · obtain⟨p,_,hp,_⟩:=hw;exact absurd hp z7w
    · exact⟨Nat.le_add_right _ _,Ext.refl σ,fun i b S es hi=>.inr (.inl ⟨S,es,hi⟩),fun _ _ _=>rfl,Ze _,fun i _ hg=>⟨rfl,hg⟩⟩
  · have:=List.length_filter_le (fun i=>!(Array.replicate ops.size false).getD i false) (Zh ops.size);simpa using this
theorem zk8 (hτ:∀j,(τ j).oneCell'=true) (hm:P.follows .mixedOrders=true) (hE:∀k,k < n->All P N w0 τ ok k) {x id ops st st' m a w σ F}(Q:Exit->Act->World->Prop)
    (h:ddraw P ok n x ops (Region.before ops) ((Zh ops.size).filter fun i=>match ops[i]? with|some o=>isEff o|none=>false) st.H.next
      ((Zh ops.size).filter fun i=>match ops[i]? with|some o=>isEff o|none=>false) 0 [⟨st.H.next+ops.size,st.H.t⟩] st.tm st.ds=some st')
    (hok:ops.toList.all (okOper P.globals.size m)=true) (hdr:okDraw ops=true) (hs:SR P N w0 τ σ st m a w) (hF:FRel x F) (hQ:Cont P N w0 τ σ st.H w .normal st' m Q):(Code.region id ops true).wpIn F 0 P Q a w:=by
  refine zfw (Z:=True) (B:=fun _ _ _ _=>False) hτ hm Q rfl ?_ h hok hdr hs hF.fn ?_ (.inl trivial)
  · intro n' hn' o ρ ds H v ds1 H1 _ _ hd a w σ K hρ hH hds hg _ hK;exact(hE n' hn').op1 K Q hd hρ hH hds hg hF (hK trivial)
  · intro _ σ' a' w' hH' htm hds' hsz hst;exact hQ .normal a' w' σ' trivial ⟨hH',htm,hds',hsz,hs.gr.ext hst.ext⟩ hst
theorem dval {o:Option Heap}{r:Dr}(h:o.map (Dr.val undef ·)=some r):∃v H,r=.val v H:=by
  cases o with
  |none=>cases h
  |some H=>cases h;exact⟨_,_,rfl⟩
theorem z8f {t:TypeId}{m k v:Value}{H:Heap}{r:Dr}(h:dupdate P t m k v H=some r):∃v H,r=.val v H:=by
  unfold dupdate at h
  repeat' (split at h)
  all_goals first|(cases h;exact⟨_,_,rfl⟩)|cases h
theorem zeu {ts:Array TypeId}{s x:Value}{H:Heap}{r:Dr}(h:dappend P ts s x H=some r):∃v H,r=.val v H:=by
  unfold dappend at h
  repeat' (first|split at h|(simp only at h;split at h))
  all_goals first|(cases h;exact⟨_,_,rfl⟩)|cases h
theorem zio {t xt:TypeId}{s x:Value}{H:Heap}{r:Dr}(h:dzeros P t xt s x H=some r):∃v H,r=.val v H:=by
  unfold dzeros at h
  repeat' (split at h)
  all_goals first|(cases h;exact⟨_,_,rfl⟩)|cases h
theorem zo5 {ops:Array Oper}{e:Nat}{o:Oper}{ρ:Operand->Value}{H:Heap}{r:Dr}(hm:mild ops e=true) (ho:ops[e]?=some o) (h:dop P o ρ H=some r):∃v H,r=.val v H:=by
  unfold mild at hm;rw[ho] at hm;obtain⟨dst,op,ty,pos,af,g⟩:=o;cases op with
  |store t a x =>
    unfold dop at h;simp only at h;split at h
    · split at h
      · exact dval h
      · cases h
    · cases h
  |mapUpdate t m k x=>unfold dop at h;exact z8f h
  |insert t m k x=>unfold dop at h;exact z8f h
  |call c =>
    obtain⟨cl,as,ats⟩:=c;cases cl with
    |builtin bb =>
      cases bb with
      |append =>
        unfold dop at h;simp only at h;split at h<;>first|contradiction|skip
        split at h
        · split at h
          · rename_i hz;cases h;exact zio hz
          · exact zeu h
        · cases h
      |_=>simp at hm
    |_=>simp at hm
  |_=>simp at hm
theorem zk9 {ok ok':Ok}{ops:Array Oper}{e:Nat}{o:Oper}(hm:mild ops e=true) (ho:ops[e]?=some o) (n:Nat) (x:Ctx) (ρ:Operand->Value) (ds:List Deferred) (H:Heap):dop1 P ok n x o ρ ds H=dop1 P ok' n x o ρ ds H:=by
  cases n with
  |zero=>rw[dop1,dop1]
  |succ n =>
    rw[dop1,dop1];cases hd:dop P o ρ H with
    |none=>rfl
    |some r =>
      obtain⟨v,H',rfl⟩:=zo5 hm ho hd;rfl
theorem z32 {ok ok':Ok}{x:Ctx}{ops:Array Oper}{b:Array Nat}{effs:List Nat}{base:Nat}:∀(n:Nat) (es:List Nat) (done:Nat) (hs:List Heap) (tm:Tr Value) (ds:List Deferred),es.all (mild ops)=true ->
    ddraw P ok n x ops b effs base es done hs tm ds=ddraw P ok' n x ops b effs base es done hs tm ds/\dstage P ok n x ops b effs base es done hs tm ds=dstage P ok' n x ops b effs base es done hs tm ds
  |0,es,done,hs,tm,ds,_=>⟨by rw[ddraw,ddraw],by rw[dstage,dstage]⟩
  |n+1,es,done,hs,tm,ds,hm=>by
    constructor
    · rw[ddraw,ddraw];cases ht:twin b es with
      |none=>exact(z32 n es done hs tm ds hm).2
      |some p =>
        obtain⟨e,f⟩:=p;obtain⟨rfl,_,_⟩:=zfu ht;have hm2:[f,e].all (mild ops)=true:=by
          simp only[List.all_cons,List.all_nil,Bool.and_true,Zk] at hm ⊢;exact⟨hm.2,hm.1⟩
        simp only[(z32 (ok:=ok) (ok':=ok') (x:=x) (b:=b) (effs:=effs) (base:=base) n [e,f] done hs tm ds hm).2,(z32 (ok:=ok) (ok':=ok') (x:=x) (b:=b) (effs:=effs) (base:=base) n [f,e] done hs tm ds hm2).2]
    · unfold dstage;cases hs with
      |nil=>rfl
      |cons G gs =>
        cases es with
        |nil=>rfl
        |cons e es =>
          simp only;rw[List.all_cons,Zk] at hm;cases hd:dnon P ops b effs base (G :: gs) (pending (Zh ops.size) effs (b.getD e 0) done) tm G with
          |none=>rfl
          |some p =>
            obtain⟨tm1,H1⟩:=p;simp only;cases ho:ops[e]? with
            |none=>rfl
            |some o =>
              simp only;cases hw:dwanted ops tm1 o with
              |none=>rfl
              |some bb =>
                cases bb with
                |false=>exact(z32 n es _ _ _ _ hm.2).1
                |true =>
                  simp only[zk9 (ok:=ok) (ok':=ok') hm.1 ho];cases h1:dop1 P ok' n x o (ev tm1) ds H1 with
                  |none=>rfl
                  |some r =>
                    cases r with
                    |val v ds1 H2=>exact(z32 n es _ _ _ _ hm.2).1
                    |panic _ _=>rfl
def okAny (z:Value):Ok:=⟨0,fun _ _ H=>some (.ret z,H)⟩
theorem zka {ops:Array Oper}{e:Nat}{o:Oper}{ρ:Operand->Value}{H:Heap}{f:FuncId}{args:List Value}(ho:ops[e]?=some o) (h:dop P o ρ H=some (.call f args)):isSt ops e=false:=by
  cases hs:isSt ops e with
  |false=>rfl
  |true =>
    exfalso;unfold isSt at hs;rw[ho] at hs;simp only[Zk] at hs;have h3:=hs.2;obtain⟨dst,op,ty,pos,af,g⟩:=o;cases op with
    |store t a y =>
      unfold dop at h;simp only at h;split at h
      · split at h
        · obtain⟨_,_,h⟩:=dval h;cases h
        · cases h
      · cases h
    |_=>simp at h3
theorem zcs {t:Tmp}{v:Value}:∀(l:List Oper) (tm:Tr Value),(l.foldl (fun t o=>match o.dst with|some d=>t.put d none|none=>t) tm).get t=some v->(∀o∈l,o.dst≠some t)/\tm.get t=some v
  |[],tm,h=>⟨fun _ h=>(by cases h),h⟩
  |o :: l,tm,h=>by
    rw[List.foldl_cons] at h;obtain⟨h1,h2⟩:=zcs l _ h;cases hd:o.dst with
    |none =>
      rw[hd] at h2;exact⟨fun o' ho'=>by rcases List.mem_cons.1 ho' with rfl|ho';(· rw[hd];simp);exact h1 o' ho',h2⟩
    |some d =>
      rw[hd] at h2;simp only at h2;rw[Tr.get_put] at h2;split at h2
      · cases h2
      · rename_i hne;exact⟨fun o' ho'=>by rcases List.mem_cons.1 ho' with rfl|ho';(· rw[hd];intro h;cases h;exact hne rfl);exact h1 o' ho',h2⟩
theorem zrr {ops:Array Oper}{tm:Tr Value}{t:Tmp}{v:Value}(h:(clr ops tm).get t=some v):(∀(i:Nat) (o:Oper),ops[i]?=some o->o.dst≠some t)/\tm.get t=some v:=by
  obtain⟨h1,h2⟩:=zcs _ _ h;exact⟨fun i o ho=>h1 o (by obtain⟨k1,k2⟩:=Array.getElem?_eq_some_iff.1 ho;rw[<-k2];exact Array.getElem_mem_toList k1),h2⟩
theorem zo6 {call:FuncId->List Value->Heap->Option (En × Heap)}{draw:List Nat->Nat->List Heap->Tr Value->Option St}{ops:Array Oper}{b:Array Nat}{effs:List Nat}{base:Nat}{G:Heap}{tm:Tr Value}{ch:List PanicEntry}{H2:Heap}
    (h:dpan P call draw ops b effs base G tm=some (ch,H2)) :
    ∃e es tm1 H1 o f args st1,effs=e :: es/\dnon P ops b effs base [G] (pending (Zh ops.size) effs (b.getD e 0) 0) tm G=some (tm1,H1)/\ops[e]?=some o/\dwanted ops tm1 o=some true/\dop P o (ev tm1) H1=some (.call f args) /\
      es.all (mild ops)=true/\call f args H1=some (.panic ch,H2)/\draw es (0 ||| b.getD e 0 ||| 2 ^ e) [H1,G] (putD tm1 o.dst (dmight P f))=some st1:=by
  unfold dpan at h;split at h
  · cases h
  rename_i e es;split at h
  · cases h
  rename_i tm1 H1 hdn;split at h
  · cases h
  rename_i o ho;split at h
  · rename_i f args hw hd hm;split at h
    · rename_i ch' H2' st1 hc hr;cases h;refine⟨e,es,tm1,H1,o,f,args,st1,rfl,hdn,ho,hw,hd,hm,hc,?_⟩;rw[<-hr];cases o.dst<;>rfl
    · cases h
  · cases h
theorem zo7 (hτ:∀j,(τ j).oneCell'=true) (hm:P.follows .mixedOrders=true) (A:All P N w0 τ ok n) {x id ops st m a w σ F}{ch:List PanicEntry}{H2:Heap}(Q:Exit->Act->World->Prop)
    (h:dpan P (dcall P ok n) (fun es done hs tm=>ddraw P ok n x ops (Region.before ops) ((Zh ops.size).filter fun i=>match ops[i]? with|some o=>isEff o|none=>false) st.H.next es done hs tm st.ds) ops (Region.before ops)
      ((Zh ops.size).filter fun i=>match ops[i]? with|some o=>isEff o|none=>false) st.H.next ⟨st.H.next+ops.size,st.H.t⟩ st.tm=some (ch,H2))
    (hok:ops.toList.all (okOper P.globals.size m)=true) (hdr:okDraw ops=true) (hs:SR P N w0 τ σ st m a w) (hF:FRel x F) (hQ:Cont P N w0 τ σ st.H w (.panic ch) ⟨clr ops st.tm,st.ds,H2⟩ m Q):(Code.region id ops true).wpIn F 0 P Q a w:=by
  have R:=RC.of_ok hdr;generalize he:((Zh ops.size).filter fun i=>match ops[i]? with|some o=>isEff o|none=>false)=effs at h R;obtain⟨e,es,tm1,H1,o,f,args,st1,hee,hdn,ho,hw,hd,hmild,hc,hr⟩:=zo6 h;have hns:=zka ho hd;have hn:∃k,n=k+2:=by
    match n,hr with
    |0,hr=>rw[ddraw] at hr;cases hr
    |1,hr =>
      exfalso;rw[ddraw] at hr;split at hr
      · rw[dstage] at hr;cases hr
      · rw[dstage] at hr;cases hr
    |k+2,_=>exact⟨k,rfl⟩
  have htw:twin (Region.before ops) effs=none:=by
    have hch:=R.chain;rw[hee] at hch ⊢;rcases za3 hch with h|⟨g,rfl,h1,_⟩
    · cases es with
      |nil=>rfl
      |cons g gs =>
        cases gs with
        |nil =>
          have h1:((Region.before ops).getD g 0).testBit e=true:=h g (by simp);unfold twin;simp only[h1,Bool.true_or]
        |cons _ _=>rfl
    · rw[h1] at hns;cases hns
  have hrun:ddraw P (okAny (dmight P f)) (n+2) x ops (Region.before ops) effs st.H.next effs 0 [⟨st.H.next+ops.size,st.H.t⟩] st.tm st.ds=some st1:=by
    rw[ddraw,htw];simp only;unfold dstage;generalize hq:effs=E at hee ⊢;subst hee;subst hq;simp only[hdn,ho,hw];obtain⟨k,rfl⟩:=hn;have h1:dop1 P (okAny (dmight P f)) (k+2) x o (ev tm1) st.ds H1=some (.val (dmight P f) st.ds H1):=by
      rw[dop1,hd];simp only;rw[dcall];rfl
    rw[h1];simp only;rw[(z32 (ok:=okAny (dmight P f)) (ok':=ok) (k+2) es _ _ _ _ hmild).1,<-hr];cases o.dst<;>rfl
  refine zfw (Z:=False) (B:=fun o' ρ ds H=>dop P o' ρ H=some (.call f args)/\ds=st.ds/\H=H1) (n:=n+2) (ok:=okAny (dmight P f)) hτ hm Q he.symm ?_ hrun hok hdr hs hF.fn (fun h=>h.elim) (.inr ⟨e,es,tm1,H1,o,hee,hns,ho,hdn,hw,hd,rfl,rfl⟩);intro n' _ o' ρ ds H v ds1 H1' _ hB _ a w σ' K hρ hH hds hg hseen _;obtain⟨hdo,rfl,rfl⟩:=hB.resolve_left (fun h=>h);have h1:dop1 P ok (n+1) x o' ρ st.ds H=some (.panic ch H2):=by rw[dop1,hdo];simp only[hc]
  refine zfv hτ A K Q h1 hρ hH hds hg hF ?_;intro σ2 ch' w2 hch hH2 hst2;refine hQ (.panic ch') a w2 σ2 hch ⟨hH2,fun t v hv=>?_,hds.ext hst2.ext,hseen.sz,hg.ext hst2.ext⟩ (hseen.stp.trans hst2);obtain⟨hv1,hv2⟩:=zrr hv;exact(hseen.tm t v hv1 hv2).ext hst2.ext
theorem zev {σ:Nat->Loc}{H:Heap}{w:World}(hH:HR P N w0 τ σ H w) {tm:Tr Value}(L:Loop) (htm:TmR σ τ tm L.tmps) {ps:List Tmp}{as bo:Code}{m:Nat}{fnx:FuncId}(hL1:L.state=.ready) (hL2:L.pending=none)
    (hL3:L.params.toList=ps) (hL4:L.assign=as) (hL5:L.body=bo) (hsz:m<=L.tmps.size) (hok3:okCode P.globals.size m as=true) (hok4:okCode P.globals.size m bo=true) (hps:∀t∈ps,t < m) :
    ∃ σ2,HR P N w0 τ σ2 ((H.new (some .dfr)).new (some (.loop .ready none fnx tm ps as bo H.next))) ((w.alloc (.deferred (some []))).alloc (.loop L)) /\
      Step σ H w σ2 ((H.new (some .dfr)).new (some (.loop .ready none fnx tm ps as bo H.next))) ((w.alloc (.deferred (some []))).alloc (.loop L)) /\
      σ2 H.next=.live w.heap.size 0 0/\σ2 (H.new (some .dfr)).next=.live (w.heap.size+1) 0 0:=by
  obtain⟨hH1,hst1⟩:=hH.alloc (w':=w.alloc (.deferred (some []))) (B:=.dfr) (S:=0) (es:=0) rfl rfl rfl (by simp) (fun k hk=>Below.heap_alloc w _ k hk)
    (.dfr _ _ _ hH.size (by show (w.heap.push _)[w.heap.size]?=_;simp))
  have hsz':(w.alloc (.deferred (some []))).heap.size=w.heap.size+1:=by simp
  have htm1:=htm.ext hst1.ext;have hN:=hH.size;obtain⟨hH2,hst2⟩:=hH1.alloc (w':=(w.alloc (.deferred (some []))).alloc (.loop L))
    (B:=.loop .ready none fnx tm ps as bo H.next) (S:=0) (es:=0) rfl rfl rfl (by simp) (fun k hk=>Below.heap_alloc _ _ k hk)
    (.loop _ _ _ _ _ _ _ _ _ _ _ m L (by omega)
      (by show ((w.alloc (.deferred (some []))).heap.push _)[(w.alloc (.deferred (some []))).heap.size]?=_;exact Array.getElem?_push_size) hL1 hL2 hL3 hL4 hL5 (htm1.ext (hH1.ext_new _)) hsz hok3 hok4 hps (.inl rfl))
  refine⟨_,hH2,hst1.trans hst2,?_,?_⟩
  · have hne:H.next≠(H.new (some .dfr)).next:=Nat.ne_of_lt (Zf _);rw[z0f _ _ hne,z0r]
  · rw[z0r,hsz']
theorem zbc (fnid:FuncId) (tmps:Array Value) (ps:Array Tmp) (as bo:Code) (w:World) :
    (Instr.enterLoop fnid tmps ps as bo none).run P w=.ok (w.heap.size+1,[{ target:=.collected w.heap.size,args:=#[] }])
      ((w.alloc (.deferred (some []))).alloc (.loop { state:=.ready,pending:=none,fn:=fnid,tmps:=tmps,params:=ps,assign:=as,body:=bo,defers:=w.heap.size })):=by
  have hsz:(w.alloc (.deferred (some []))).heap.size=w.heap.size+1:=by simp
  simp [Instr.enterLoop,Sem.run_bind,hsz]
theorem zew {w:World}{b:Nat}{L:Loop}(h:w.heap[b]?=some (.loop L)) (hb:L.state≠.busy) :
    (Instr.endLoop b).run P w=.ok L.pending { w with heap:=w.heap.setIfInBounds b (.loop { L with state:=.exhausted }) }:=by
  simp [Instr.endLoop,Sem.run_bind,z42 h,hb,z5r h]
theorem zbd {a:Act}{f:Operand}{g:FuncId}{x y:Array Value}(l:Nat) (h:a.eval f=.func (.func g) x y) (w:World) :
    (resolve a.eval (rangeCall f l) 0).run P w=.ok { target:=.fn (.func g) y,args:=x++#[.func (.yield l) #[] #[]] } w:=by
  have hc:a.eval (.const (.func (.yield l) #[] #[]))=.func (.yield l) #[] #[]:=rfl;simp [rangeCall,resolve,h,hc,Deferred.ofValue,Sem.run_bind]
theorem ziq (A:All P N w0 τ ok n) {x:Ctx}{f:Operand}{ps:Array Tmp}{as bo:Code}{st st':St}{ex:Ex}{m:Nat}{a:Act}{w:World}{σ:Nat->Loc}(Q:Exit->Act->World->Prop)
    (hok1:okOpnd P.globals.size f=true) (hok2:∀t∈ps.toList,t < m) (hok3:okCode P.globals.size m as=true) (hok4:okCode P.globals.size m bo=true) (hs:SR P N w0 τ σ st m a w) (hF:FRel x Fence.wide)
    {g:FuncId}{first captured:Array Value}(hv:ev st.tm f=.func (.func g) first captured) {d1:Dr}(hd1:dcall1 P g []=some d1) {v:Value}{H3:Heap}
    (hc:dcall P ok n g (first.toList++[.func (.yield (st.H.new (some .dfr)).next) #[] #[]]++captured.toList) ((st.H.new (some .dfr)).new (some (.loop .ready none x.fn st.tm ps.toList as bo st.H.next)))=some (.ret v,H3))
    {s:LoopState}{pend:Option Code}{fn3:FuncId}{tm3:Tr Value}{ps3:List Tmp}{as3 bo3:Code}{dd3:Nat}(hg3:H3.get (st.H.new (some .dfr)).next=some (.loop s pend fn3 tm3 ps3 as3 bo3 dd3)) (hnb:s≠.busy)
    (h:(match (generalizing:=false) pend with
      |none=>some (Ex.normal,(⟨st.tm,{ target:=.collected st.H.next,args:=#[] } :: st.ds,H3.put (st.H.new (some .dfr)).next (some (.loop .exhausted pend fn3 tm3 ps3 as3 bo3 dd3))⟩:St))
      |some c=>dcode P ok n x c ⟨st.tm,{ target:=.collected st.H.next,args:=#[] } :: st.ds,H3.put (st.H.new (some .dfr)).next (some (.loop .exhausted pend fn3 tm3 ps3 as3 bo3 dd3))⟩)=some (ex,st'))
    (hQ:Cont P N w0 τ σ st.H w ex st' m Q):(Code.rangeFunc f ps as bo).wpIn Fence.wide 0 P Q a w:=by
  have hy:=opnd hs.tm hs.gr hok1;rw[hv] at hy;obtain⟨first',captured',e1,hf,hcap⟩:=hy.func_inv;obtain⟨_,hcallf⟩:=z4k hd1;refine wpIn_rangeFunc fun fnid _=>?_
  obtain⟨σ2,hH2,hst2,hσd,hσl⟩:=zev hs.hH (tm:=st.tm) (fnx:=x.fn) (m:=m) { state:=.ready,pending:=none,fn:=fnid,tmps:=a.tmps,params:=ps,assign:=as,body:=bo,defers:=w.heap.size } hs.tm rfl rfl rfl rfl rfl hs.sz hok3 hok4 hok2;have hbr:BR σ2 (st.H.new (some .dfr)).next (w.heap.size+1):=by unfold BR;rw[hσl]
  have hargs:LR σ2 τ (first.toList++[Value.func (.yield (st.H.new (some .dfr)).next) #[] #[]]++captured.toList) (first'++#[Value.func (.yield (w.heap.size+1)) #[] #[]]++captured').toList:=by
    simp only[Array.toList_append];exact LR.append (LR.append (hf.ext hst2.ext) (LR.cons (.yield _ _ hbr) LR.nil)) (hcap.ext hst2.ext)
  have hcall:=A.call hc hargs hH2 (hs.gr.ext hst2.ext);refine⟨w.heap.size+1,[{ target:=.collected w.heap.size,args:=#[] }],_,{ target:=.fn (.func g) captured',args:=first'++#[.func (.yield (w.heap.size+1)) #[] #[]] },_,g,first'++#[Value.func (.yield (w.heap.size+1)) #[] #[]]++captured',_,
    zbc fnid a.tmps ps as bo w,zbd _ e1 _,fun _ _=>trivial,(by simp only[invoke];exact hcallf _ _),fun hd=>(by cases hd),CallsIn.mono hcall ?_⟩
  intro e w3 he;obtain⟨σ3,hen,hH3,hst3⟩:=he;cases e with
  |panicked _=>exact hen.elim
  |outgrown=>exact hen.elim
  |returned v' =>
    obtain⟨b,S,es,mm,L3,q1,q2,q3,q4,q5,q6,q7,q8,q9,q10,q11,q12,q13,q14⟩:=hH3.loopAt hg3;have hbe:b=w.heap.size+1:=by
      rcases hst3.ext (st.H.new (some .dfr)).next with k|k|⟨_,k⟩
      · rw[hσl] at k;cases k
      · rw[hσl,q1] at k;cases k;rfl
      · rw[q1] at k;cases k
    subst hbe;obtain⟨hH4,hst4⟩:=hH3.setLoop (s':=.exhausted) (pend':=pend) hg3 q1 q2 q3 q6 q7 q8 q9 q10 q11 q12 q13 q14;have hstA:=hst2.trans (hst3.trans hst4);have hL:({ L3 with state:=.exhausted,pending:=pend }:Loop)={ L3 with state:=.exhausted }:=by rw[<-q5]
    have hend:=zew (P:=P) q3 (by rw[q4];exact hnb);rw[<-hL,q5] at hend;have hsr:SR P N w0 τ σ3 ⟨st.tm,{ target:=.collected st.H.next,args:=#[] } :: st.ds,H3.put (st.H.new (some .dfr)).next (some (.loop .exhausted pend fn3 tm3 ps3 as3 bo3 dd3))⟩ m { a with defers:=[{ target:=.collected w.heap.size,args:=#[] }]++a.defers }
        { w3 with heap:=w3.heap.setIfInBounds (w.heap.size+1) (.loop { L3 with state:=.exhausted,pending:=pend }) }:=by
      refine⟨hH4,hs.tm.ext hstA.ext,⟨⟨LR.nil,.inr ⟨st.H.next,w.heap.size,rfl,rfl,?_⟩⟩,hs.ds.ext hstA.ext⟩,hs.sz,hs.gr.ext hstA.ext⟩;have:BR σ2 st.H.next w.heap.size:=by unfold BR;rw[hσd]
      exact this.ext (hst3.trans hst4).ext
    refine⟨pend,_,hend,?_⟩;cases pend with
    |none =>
      cases h;exact hQ .normal _ _ σ3 trivial hsr hstA
    |some c =>
      have hokc:okCode P.globals.size m c=true:=by
        rcases q14 with k|k|⟨id,k⟩
        · cases k
        · cases k;rfl
        · cases k;rfl
      exact A.code Q h hokc hsr hF fun e2 a2 w2 σ5 he2 hs2 hst5=>hQ e2 a2 w2 σ5 he2 hs2 (hstA.trans hst5)
theorem zkb (hτ:∀j,(τ j).oneCell'=true) (hm:P.follows .mixedOrders=true) (A:All P N w0 τ ok n) (hE:∀k,k < n->All P N w0 τ ok k) {x c st ex st' m a w σ F}(Q:Exit->Act->World->Prop)
    (h:dcode P ok (n+1) x c st=some (ex,st')) (hok:okCode P.globals.size m c=true) (hs:SR P N w0 τ σ st m a w) (hF:FRel x F) (hQ:Cont P N w0 τ σ st.H w ex st' m Q):c.wpIn F 0 P Q a w:=by
  cases c with
  |skip=>unfold dcode at h;cases h;exact wpIn_skip (hQ .normal a w σ trivial hs (Step.refl _ _ _))
  |label l=>unfold dcode at h;cases h;exact wpIn_label (hQ .normal a w σ trivial hs (Step.refl _ _ _))
  |exit i=>unfold dcode at h;cases h;exact wpIn_exit (hQ (.exit i) a w σ rfl hs (Step.refl _ _ _))
  |ret=>unfold dcode at h;cases h;exact wpIn_ret (hQ .ret a w σ trivial hs (Step.refl _ _ _))
  |region id ops dr =>
    unfold okCode at hok;rw[Zk] at hok;cases dr with
    |false =>
      unfold dcode at h;exact wpIn_region (A.ops Q h hok.1 hs hF hQ)
    |true =>
      unfold dcode at h;simp only at h;split at h
      · rename_i st1 hd;cases h;exact zk8 hτ hm hE Q hd hok.1 (by simpa using hok.2) hs hF hQ
      · split at h
        · rename_i ch H2 hp;cases h;exact zo7 hτ hm A Q hp hok.1 (by simpa using hok.2) hs hF hQ
        · cases h
  |seq c1 c2 =>
    unfold dcode at h;simp only at h;unfold okCode at hok;rw[Zk] at hok;refine wpIn_seq ?_;cases hc:dcode P ok n x c1 st with
    |none=>rw[hc] at h;cases h
    |some p =>
      obtain⟨ex1,st1⟩:=p;rw[hc] at h;refine A.code _ hc hok.1 hs hF ?_;intro e a' w' σ' he hs' hst;cases ex1 with
      |normal =>
        cases e<;>try exact he.elim
        exact A.code Q h hok.2 hs' hF fun e2 a2 w2 σ2 he2 hs2 hst2=>hQ e2 a2 w2 σ2 he2 hs2 (hst.trans hst2)
      | exit i => cases h;cases e<;>try exact he.elim
                  exact hQ _ a' w' σ' he hs' hst
      | ret => cases h;cases e<;>try exact he.elim
               exact hQ _ a' w' σ' he hs' hst
      | panic ch => cases h;cases e<;>try exact he.elim
                    exact hQ _ a' w' σ' he hs' hst
  |cond y c1 c2 =>
    unfold dcode at h;simp only at h;unfold okCode at hok;rw[Zk,Zk] at hok;have hy:=opnd hs.tm hs.gr hok.1.1;split at h
    · rename_i hv;rw[hv] at hy;exact wpIn_cond_true (hy.flat_eq rfl) (A.code Q h hok.1.2 hs hF hQ)
    · rename_i hv;rw[hv] at hy;exact wpIn_cond_false (hy.flat_eq rfl) (A.code Q h hok.2 hs hF hQ)
    · cases h
  |block i c1 =>
    unfold dcode at h;simp only at h;unfold okCode at hok;refine wpIn_block ?_;cases hc:dcode P ok n x c1 st with
    |none=>rw[hc] at h;cases h
    |some p =>
      obtain⟨ex1,st1⟩:=p;rw[hc] at h;refine A.code _ hc hok hs hF ?_;intro e a' w' σ' he hs' hst;cases ex1 with
      | normal => cases h;cases e<;>try exact he.elim
                  exact hQ .normal a' w' σ' trivial hs' hst
      |exit j =>
        cases e<;>try exact he.elim
        rename_i j';have hj:j=j':=he;subst hj;show (if j=i then Q .normal a' w' else Q (.exit j) a' w');by_cases hji:j=i
        · subst hji;simp only[Nat.beq_refl,if_true] at h;cases h;rw[if_pos rfl];exact hQ .normal a' w' σ' trivial hs' hst
        · have hb:Zs j i=false:=by rw[<-ZL,Zt];exact hji
          simp only[hb,Zg,if_false] at h;cases h;rw[if_neg hji];exact hQ (.exit j) a' w' σ' rfl hs' hst
      | ret => cases h;cases e<;>try exact he.elim
               exact hQ _ a' w' σ' he hs' hst
      | panic ch => cases h;cases e<;>try exact he.elim
                    exact hQ _ a' w' σ' he hs' hst
  |scope c1 =>
    unfold dcode at h;simp only at h;unfold okCode at hok;refine zil (A.code _ h hok hs hF ?_);intro e a' w' σ' he hs' hst;have hq:=hQ e a' w' σ' he hs' hst;cases e with
    |goto l=>cases ex<;>exact he.elim
    |_=>exact hq
  |loop c1 =>
    unfold okCode at hok;exact wpIn_loop_rounds (n+1) (za6 A Q h hok hs hF hQ)
  |rangeFunc f ps as bo =>
    unfold dcode at h;simp only at h;unfold okCode at hok;simp only[Zk] at hok;obtain⟨⟨⟨hok1,hok2⟩,hok3⟩,hok4⟩:=hok;split at h
    case h_2=>cases h
    rename_i g first captured hx hv
    split at h
    · cases h
    rename_i hd1;have hFw:=hF.round hx;subst hFw;have hd1':∃d,dcall1 P g []=some d:=by
      cases hh:dcall1 P g [] with
      |none=>rw[hh] at hd1;simp at hd1
      |some d=>exact⟨d,rfl⟩
    obtain⟨d1,hd1'⟩:=hd1';split at h
    case h_2=>cases h
    rename_i v H3 hc;split at h
    case h_2=>cases h
    rename_i s pend fn3 tm3 ps3 as3 bo3 dd3 hg3;refine ziq A Q hok1 (fun t ht=>by have:=List.all_eq_true.1 hok2 t ht;simpa [Nat.blt_eq] using this) hok3 hok4 hs hF hv hd1' hc hg3 ?_ ?_ hQ
    · intro hb;subst hb;cases h
    · cases s<;>first|cases h|exact h
  |_=>unfold dcode at h;cases h
end
end Go.Hb
end

section
namespace Go.Hb
open Go Go.RowKit
section
variable {P:Program}{N:Nat}{w0:World}{τ:Nat->Value}{ok:Ok}{n:Nat}
structure OkFns (P:Program) (N:Nat) (w0:World) (ok:Ok):Prop where
 code:∀f fn c,ok.testBit f=true->P.funcs[f]?=some fn->fn.body=some c->okCode P.globals.size fn.ntmps c=true
 know:∀(τ:Nat->Value) f args args' H en H' w σ,(∀j,(τ j).oneCell'=true)->ok.K f args H=some (en,H')->LR σ τ args args'.toList->HR P N w0 τ σ H w->GR P σ ->
  Calls P f args' w fun e w'=>∃ σ',EnR σ' τ en e/\HR P N w0 τ σ' H' w'/\Step σ H w σ' H' w'
theorem SR.init {σ:Nat->Loc}{H:Heap}{w:World}{args:List Value}{args':Array Value}(hl:LR σ τ args args'.toList) (hH:HR P N w0 τ σ H w) (hg:GR P σ) (nt:Nat) :
  SR P N w0 τ σ ⟨initTm 0 args .nil,[],H⟩ nt { tmps:=args'++Array.replicate (nt - args'.size) undef,defers:=[] } w :=
 ⟨hH,TmR.init hl nt,trivial,by simp;omega,hg⟩
theorem zkc (hτ:∀j,(τ j).oneCell'=true) (hOK:OkFns P N w0 ok) (A:All P N w0 τ ok n) {f args args' H en H' w σ}(h:dcall P ok (n+1) f args H=some (en,H')) (hl:LR σ τ args args'.toList) (hH:HR P N w0 τ σ H w) (hg:GR P σ) :
  CallsIn Fence.wide 0 P f args' w fun e w'=>∃ σ',EnR σ' τ en e/\HR P N w0 τ σ' H' w'/\Step σ H w σ' H' w':=by
 unfold dcall at h;split at h
 ·rename_i r hk;cases h;exact callsIn_wide.2 (hOK.know τ f args args' H en H' w σ hτ hk hl hH hg)
 split at h
 case h_2=>cases h
 rename_i fn hf hb;split at h
 case h_2=>cases h
 rename_i c hc;refine callsIn_of_wp_marks hf hc trivial ?_;have hcode:=hOK.code f fn c hb hf hc;cases hd:dcode P ok n ⟨f,none⟩ c ⟨initTm 0 args .nil,[],H⟩ with
 |none=>rw[hd] at h;cases h
 |some p =>
  obtain⟨ex,st⟩:=p;rw[hd] at h;refine A.code _ hd hcode (SR.init hl hH hg fn.ntmps) (.inl ⟨rfl,rfl⟩) ?_;intro e a' w' σ' he hs hst;cases ex with
  |normal =>
   cases e<;>try exact he.elim
   exact A.leave _ h hs.tm hs.ds trivial hs.hH hs.gr fun e2 w2 σ2 he2 hH2 hst2=>⟨σ2,he2,hH2,hst.trans hst2⟩
  |ret =>
   cases e<;>try exact he.elim
   exact A.leave _ h hs.tm hs.ds trivial hs.hH hs.gr fun e2 w2 σ2 he2 hH2 hst2=>⟨σ2,he2,hH2,hst.trans hst2⟩
  |panic ch =>
   cases e<;>try exact he.elim
   exact A.leave (u:=.panicking _) _ h hs.tm hs.ds he hs.hH hs.gr fun e2 w2 σ2 he2 hH2 hst2=>⟨σ2,he2,hH2,hst.trans hst2⟩
  |exit i=>cases h
theorem z7k {F:Fence}(hro:F.round=none) (Q:Exit->Act->List Frame->World->Prop) (cs:List Frame):∀(rs:List Code) (a:Act) (w:World),seqW F P (fun e a w=>Q e a cs w) rs a w->seqS F 0 P Q rs a cs w
 |[],a,w,h=>h
 |c :: rs,a,w,h=>by
  refine wpSIn_of_wpIn hro (wpIn_mono h fun e a' w' he=>?_);cases e with
  |normal=>exact z7k hro Q cs rs a' w' he
  |_=>exact he
theorem z8g (hτ:∀j,(τ j).oneCell'=true) {F:Fence}(hF:∀f,F.fn f) {ops:Array Oper}{m:Nat}(hok:ops.toList.all (okOper P.globals.size m)=true) (Q:Exit->Act->List Frame->World->Prop) (cs:List Frame) :
  ∀(l:List Nat) (tm:Tr Value) (H:Heap) (r:Tr Value × Heap) (a:Act) (w:World) (σ:Nat->Loc),dplain P ops l tm H=some r->HR P N w0 τ σ H w->TmR σ τ tm a.tmps->m<=a.tmps.size->GR P σ ->
  (∀a' w' σ',HR P N w0 τ σ' r.2 w'->TmR σ' τ r.1 a'.tmps->a'.defers=a.defers->m<=a'.tmps.size->Step σ H w σ' r.2 w'->Q .normal a' cs w')->wpOpsSIn F 0 P ops Q l a cs w
 |[],tm,H,r,a,w,σ,h,hH,ht,hm,hg,hQ=>by
  unfold dplain at h;cases h;exact hQ a w σ hH ht rfl hm (Step.refl _ _ _)
 |i :: l,tm,H,r,a,w,σ,h,hH,ht,hm,hg,hQ=>by
  unfold dplain at h;unfold wpOpsSIn;cases ho:ops[i]? with
  |none=>rw[ho] at h;cases h
  |some o =>
   rw[ho] at h;simp only at h ⊢;have hmem:o∈ops.toList:=by
    obtain⟨h1,h2⟩:=Array.getElem?_eq_some_iff.1 ho;rw[<-h2];exact Array.getElem_mem_toList h1
   have hoko:=List.all_eq_true.1 hok o hmem;unfold okOper at hoko;rw[Zk] at hoko;have hdm:∀d,o.dst=some d->d < m:=fun d hd=>by have:=hoko.1;rw[hd] at this;simpa [Nat.blt_eq] using this
   split at h
   case h_2=>cases h
   rename_i v H1 hgd hd;have hw:Region.wanted o (yielded ops a.tmps)=true:=by unfold Region.wanted;rw[hgd]
   refine⟨fun f _=>hF f,?_⟩;rw[hw];simp only[if_true];obtain⟨nx,w',σ',v',hrun,hnx,hv,hH',hst⟩:=z34 hH hτ (fun y hy=>opnd ht hg (List.all_eq_true.1 hoko.2 y hy)) hd;have next:wpOpsSIn F 0 P ops Q l (a.put o.dst v') cs w':=by
    refine z8g hτ hF hok Q cs l (putD tm o.dst v) H1 r _ w' σ' h hH' (TmR.put ht hst.ext (fun t hd=>Zi (hdm t hd) hm) hv) (by rw[z1q];exact hm) (hg.ext hst.ext) ?_;intro a' w2 σ2 k1 k2 k3 k4 k5;exact hQ a' w2 σ2 k1 k2 (by rw[k3,z1e]) k4 (hst.trans k5)
   rw[hrun];rcases hnx with rfl|⟨rfl,rfl⟩
   ·exact next
   ·exact next
theorem zbe {o:Oper}(h:isRecover o=true) (ρ:Operand->Value) (w:World):o.guard=none/\(execOp ρ o).run P w=.ok .recover w:=by
 unfold isRecover at h;split at h
 case h_2=>cases h
 rename_i c hg ho;split at h
 case h_2=>cases h
 rename_i hc ha;refine⟨hg,?_⟩;have hd:dop P o ρ ⟨0,.nil⟩=some .recov:=by
  unfold dop;rw[ho];simp only[hc,ha]
 unfold execOp;rw[ho];obtain⟨callee,args,ats⟩:=c;simp only at hc ha;subst hc;simp only[resolve];rfl
theorem zkd {F:Fence}{k:Nat}(hF:∀f,F.fn f) {ops:Array Oper}{i:Nat}{o:Oper}(ho:ops[i]?=some o) (hrec:isRecover o=true) {Q:Exit->Act->List Frame->World->Prop}{rest:List Nat}{a:Act}{cs cs1:List Frame}{w:World}{v':Value}
  (hrv:(match recoverD cs with|some (v,cs')=>(v,cs')|none=>(.nilIface,cs))=(v',cs1)) (h:wpOpsSIn F k P ops Q rest (a.put o.dst v') cs1 w):wpOpsSIn F k P ops Q (i :: rest) a cs w:=by
 unfold wpOpsSIn;rw[ho];simp only;refine⟨fun _ _=>hF _,?_⟩;have hir:=zbe (P:=P) hrec;have hw:Region.wanted o (yielded ops a.tmps)=true:=by unfold Region.wanted;rw[(hir a.eval w).1]
 rw[hw];simp only[if_true];rw[(hir _ w).2];cases hrd:recoverD cs with
 |none =>
  rw[hrd] at hrv;simp only[Prod.mk.injEq] at hrv;simp only;rw[hrv.1,hrv.2];exact h
 |some p =>
  obtain⟨v2,cs2⟩:=p;rw[hrd] at hrv;simp only[Prod.mk.injEq] at hrv;simp only;rw[hrv.1,hrv.2];exact h
theorem ztr:∀{c:Code}{ops:Array Oper}{rs:List Code}{g m:Nat},headRegion c=some (ops,rs)->okCode g m c=true->ops.toList.all (okOper g m)=true/\∀d∈rs,okCode g m d=true:=by
 intro c
 induction c with
 |region id ops dr =>
  intro ops' rs g m h hok;cases dr with
  |true=>cases h
  |false =>
   simp only[headRegion,Option.some.injEq,Prod.mk.injEq] at h;obtain⟨rfl,rfl⟩:=h;unfold okCode at hok;rw[Zk] at hok;exact⟨hok.1,fun d hd=>(by cases hd)⟩
 |seq x y ihx _ =>
  intro ops' rs g m h hok;simp only[headRegion] at h;unfold okCode at hok;rw[Zk] at hok;cases hx:headRegion x with
  |none=>rw[hx] at h;cases h
  |some p =>
   obtain⟨ops1,rs1⟩:=p;rw[hx] at h;simp only[Option.some.injEq,Prod.mk.injEq] at h;obtain⟨rfl,rfl⟩:=h;obtain⟨k1,k2⟩:=ihx hx hok.1;refine⟨k1,fun d hd=>?_⟩;rcases List.mem_append.1 hd with hd|hd
   ·exact k2 d hd
   ·simp at hd;rw[hd];exact hok.2
 |_=>intro ops' rs g m h;cases h
theorem DsR.nil_inv {σ:Nat->Loc}{ds:List Deferred}(h:DsR σ τ [] ds):ds=[]:=by
 cases ds with
 |nil=>rfl
 |cons _ _=>exact h.elim
theorem zir (hτ:∀j,(τ j).oneCell'=true) (hOK:OkFns P N w0 ok) (A:All P N w0 τ ok n) {fn tm ds md H en H' tmps ds' u w σ}(R:Ending->World->Prop) (h:dleave P ok (n+1) fn tm ds md H=some (en,H')) (ht:TmR σ τ tm tmps)
  (hd:DsR σ τ ds ds') (hu:MdR σ τ md u) (hH:HR P N w0 τ σ H w) (hg:GR P σ) (hR:∀e w' σ',EnR σ' τ en e->HR P N w0 τ σ' H' w'->Step σ H w σ' H' w'->R e w'):LeavesInM Fence.wide 0 P fn tmps R ds' u w:=by
 cases ds with
 |nil =>
  have:=hd.nil_inv;subst this;unfold dleave at h;cases md with
  |none =>
   cases u with
   |returning =>
    simp only at h;cases hr:dres P fn tm H with
    |none=>rw[hr] at h;cases h
    |some v =>
     rw[hr] at h;cases h;obtain⟨v',hrun,hv⟩:=zim hH ht hr;exact⟨v',hrun,hR _ w σ hv hH (Step.refl _ _ _)⟩
   |run=>exact hu.elim
   |panicking _=>exact hu.elim
  |some ch =>
   cases u with
   |panicking ch'=>cases h;exact hR _ w σ hu hH (Step.refl _ _ _)
   |run=>exact hu.elim
   |returning=>exact hu.elim
 |cons d ds =>
  cases ds' with
  |nil=>exact hd.elim
  |cons d' ds' =>
   obtain⟨⟨hargs,htgt⟩,hds⟩:=hd;unfold dleave at h;unfold LeavesInM;refine⟨hu.ne_run,?_⟩;rcases htgt with ⟨g,cap,cap',e1,e2,hcap⟩|⟨l,l',e1,e2,hbr⟩
   ·
    rw[e1] at h;simp only at h;split at h
    case h_2=>cases h
    rename_i gn hgn hokg;rw[Zk] at hokg;obtain⟨hokg,hd1⟩:=hokg;obtain⟨d1,hd1⟩:=Option.isSome_iff_exists.1 hd1;obtain⟨_,hcallf⟩:=z4k hd1;split at h
    case h_2=>cases h
    rename_i c hc;split at h
    case h_2=>cases h
    rename_i ops rest hhead;split at h
    case h_2=>cases h
    rename_i o ho;split at h
    case isFalse=>cases h
    rename_i hrec;split at h
    case h_2=>cases h
    rename_i tm1 H1 hpl;refine .inr ⟨fun hh=>(by cases hh),.func g,cap',g,d'.args++cap',e2,by rw[e2];simp only[invoke];exact hcallf _ _,fun _ _=>trivial,?_⟩;obtain⟨hok1,hok2⟩:=ztr hhead (hOK.code g gn c hokg hgn hc);refine callsDIn_of_wpSIn hgn hc trivial fun c₀ cs hmode=>?_
    refine zo2 hhead ?_;have hsz:0 < ops.size:=(Array.getElem?_eq_some_iff.1 ho).1;have hrange:Zh ops.size=0 :: (Zh ops.size).drop 1:=by
     obtain⟨k,hk⟩:∃k,ops.size=k+1:=⟨ops.size - 1,by omega⟩
     rw[hk,List.range_succ_eq_map];rfl
    rw[hrange];obtain⟨v',u',hrv,hvr,hmd⟩:=zet (cs:=cs) (c₀:=c₀) (by rw[hmode];exact hu);have hmem:o∈ops.toList:=by
     obtain⟨h1,h2⟩:=Array.getElem?_eq_some_iff.1 ho;rw[<-h2];exact Array.getElem_mem_toList h1
    have hoko:=List.all_eq_true.1 hok1 o hmem;unfold okOper at hoko;rw[Zk] at hoko;have hdm:∀t,o.dst=some t->t < gn.ntmps:=fun t hd=>by have:=hoko.1;rw[hd] at this;simpa [Nat.blt_eq] using this
    have hl:LR σ τ (d.args.toList++cap.toList) (d'.args++cap').toList:=by rw[Array.toList_append];exact LR.append hargs hcap
    have hs0:=SR.init (P:=P) hl hH hg gn.ntmps;have hst0:(St.put ⟨initTm 0 (d.args.toList++cap.toList) .nil,[],H⟩ o.dst (drecov md).1 H).tm=putD (initTm 0 (d.args.toList++cap.toList) .nil) o.dst (drecov md).1:=by cases o.dst<;>rfl
    rw[hst0] at hpl;have main:wpOpsSIn Fence.wide 0 P ops (Exit.thenS (seqS Fence.wide 0 P (bodyPostS P gn c₀ cs (fun
      |.returned _,u',w'=>LeavesInM Fence.wide 0 P fn tmps R ds' (settle u') w'
      |.panicked chain,u',w'=>LeavesInM Fence.wide 0 P fn tmps R ds' (raised u' chain) w'
      |.outgrown,_,w'=>R .outgrown w')) rest) (bodyPostS P gn c₀ cs (fun
      |.returned _,u',w'=>LeavesInM Fence.wide 0 P fn tmps R ds' (settle u') w'
      |.panicked chain,u',w'=>LeavesInM Fence.wide 0 P fn tmps R ds' (raised u' chain) w'
      |.outgrown,_,w'=>R .outgrown w'))) ((Zh ops.size).drop 1)
      ((({ tmps:=(d'.args++cap')++Array.replicate (gn.ntmps - (d'.args++cap').size) undef,defers:=[] }:Act)).put o.dst v') ({ c₀ with mode:=u' } :: cs) w:=by
     refine z8g hτ (fun _=>trivial) hok1 _ _ _ _ H (tm1,H1) _ w σ hpl hH (TmR.put hs0.tm (Ext.refl σ) (fun t hd=>Zi (hdm t hd) hs0.sz) hvr) (by rw[z1q];exact hs0.sz) hg ?_;intro a1 w1 σ1 hH1 ht1 hdf1 hsz1 hst1;rw[z1e] at hdf1;show seqS Fence.wide 0 P _ rest a1 _ w1;refine z7k rfl _ _ rest a1 w1 ?_;cases hsq:dseq P ok n ⟨g,none⟩ rest ⟨tm1,[],H1⟩ with
     |none=>rw[hsq] at h;cases h
     |some p =>
      obtain⟨ex,st2⟩:=p;rw[hsq] at h;refine A.seq _ hsq hok2 ⟨hH1,ht1,by rw[hdf1];trivial,hsz1,hg.ext hst1.ext⟩ (.inl ⟨rfl,rfl⟩) ?_;intro e a2 w2 σ2 he hs2 hst2;have hstA:=hst1.trans hst2;have fin:∀(hx:(if st2.ds.isEmpty && gn.results.isEmpty then dleave P ok n fn tm ds (dsettle (drecov md).2) st2.H else none)=some (en,H')),
        a2.defers=[]/\∃u2,({ c₀ with mode:=u' } :: cs:List Frame)={ c₀ with mode:=u2 } :: cs/\∃v,(results gn a2.tmps).run P w2=.ok v w2/\LeavesInM Fence.wide 0 P fn tmps R ds' (settle u2) w2:=by
       intro hx;split at hx
       case isFalse=>cases hx
       rename_i hemp;rw[Zk] at hemp;have hds2:st2.ds=[]:=by simpa using hemp.1
       have hrs:gn.results=#[]:=by simpa using hemp.2
       have hdf2:a2.defers=[]:=by have:=hs2.ds;rw[hds2] at this;exact this.nil_inv
       refine⟨hdf2,u',rfl,.tuple #[],by simp [results,hrs],?_⟩;exact A.leave R hx (ht.ext hstA.ext) (hds.ext hstA.ext) ((hmd.ext hstA.ext).settle) hs2.hH hs2.gr fun e3 w3 σ3 he3 hH3 hst3=>hR e3 w3 σ3 he3 hH3 (hstA.trans hst3)
      cases ex with
      |normal =>
       cases e<;>try exact he.elim
       obtain⟨q1,u2,q2,v,q3,q4⟩:=fin h;exact⟨q1,u2,q2,v,q3,q4⟩
      |ret =>
       cases e<;>try exact he.elim
       obtain⟨q1,u2,q2,v,q3,q4⟩:=fin h;exact⟨q1,u2,q2,v,q3,q4⟩
      |exit i=>cases h
      |panic ch=>cases h
    exact zkd (fun _=>trivial) ho hrec hrv main
   ·
    rw[e1] at h;simp only at h;split at h
    case h_2=>cases h
    rename_i hgl;have hB:=hH.blk l _ hgl;have hlt:=hH.get_lt hgl;generalize hσ:σ l=loc at hB;cases hB with
    |dfr b S es q1 q2 =>
     have hlb:=hbr.at' hσ;subst hlb;obtain⟨hH2,hst2⟩:=hH.drop (w':={ w with heap:=w.heap.setIfInBounds l' (.deferred none) }) (by rw[hgl];simp) hlt hσ q1 rfl rfl rfl (by simp) (fun k hk=>z69 _ hk);refine .inl ⟨l',_,e2,?_,A.leave R h (ht.ext hst2.ext) (hds.ext hst2.ext) (hu.ext hst2.ext) hH2 (hg.ext hst2.ext) fun e3 w3 σ3 he3 hH3 hst3=>hR e3 w3 σ3 he3 hH3 (hst2.trans hst3)⟩;have hgo:(getObj l').run P w=.ok (.deferred (some [])) w:=by simp [getObj,Sem.run,q2]
     simp [Instr.takeDeferred,Sem.run_bind,hgo,zin q2]
end
end Go.Hb
end

section
namespace Go.Hb
open Go Go.RowKit
section
variable {P:Program}{N:Nat}{w0:World}{τ:Nat->Value}{ok:Ok}{n:Nat}
theorem z9x {w:World}{b:Nat}{L:Loop}(h:w.heap[b]?=some (.loop L)) (hr:L.state=.ready) :
  (Instr.beginRound b).run P w=.ok () { w with heap:=w.heap.setIfInBounds b (.loop { L with state:=.busy }) }:=by
 simp [Instr.beginRound,Sem.run_bind,z42 h,z5r h,hr]
theorem zct {w:World}{b:Nat}{L:Loop}(h:w.heap[b]?=some (.loop L)) (jump:Option Code) :
  (Instr.endRound b jump).run P w=.ok (.bool jump.isNone) { w with heap:=w.heap.setIfInBounds b (.loop { L with state:=if jump.isNone then .ready else .done,pending:=jump }) }:=by
 simp [Instr.endRound,Sem.run_bind,z42 h,z5r h]
theorem zke {w:World}{b:Nat}{L:Loop}{args:Array Value}(h:w.heap[b]?=some (.loop L)) (hs:args.size=L.params.size) :
  (Instr.yield b args).run P w=.ok (.round b L.fn ((L.params.zip args).foldl (fun tmps (t,a)=>tmps.setIfInBounds t a) L.tmps) L.assign L.body) w:=by
 simp [Instr.yield,Sem.run_bind,z42 h,hs]
theorem zis (A:All P N w0 τ ok n) {l l' args args' H v H' w σ}(h:dround P ok (n+1) l args H=some (v,H')) (hbr:BR σ l l') (hl:LR σ τ args args'.toList) (hH:HR P N w0 τ σ H w) (hg:GR P σ) :
  ∃f tmps as bo,(Instr.yield l' args').run P w=.ok (.round l' f tmps as bo) w /\
   ∀(F:Fence),(F=Fence.wide\/∃l2,F=Fence.wide.inRound l2)->RoundIn F 0 P l' f tmps as bo w fun e w'=>∃v' σ',e=.returned v'/\VR σ' τ v v'/\HR P N w0 τ σ' H' w'/\Step σ H w σ' H' w':=by
 unfold dround at h;split at h
 case h_2=>cases h
 rename_i pend fn tm ps as bo dd hgl;obtain⟨b,S,es,m,L,q1,q2,q3,q4,q5,q6,q7,q8,q9,q10,q11,q12,q13,q14⟩:=hH.loopAt hgl;have hlb:=hbr.at' q1;subst hlb;split at h
 case isFalse=>cases h
 rename_i hlen;rw[Zt] at hlen;have hsz:args'.size=L.params.size:=by
  have h1:=hl.1;have h2:L.params.toList.length=ps.length:=by rw[q6]
  simp at h1 h2;omega
 obtain⟨hz1,hz2⟩:=zk5 hl q9 q10 q13;have hfold:(L.params.zip args').foldl (fun tmps (t,a)=>tmps.setIfInBounds t a) L.tmps=(ps.zip args'.toList).foldl (fun tmps p=>tmps.setIfInBounds p.1 p.2) L.tmps:=by
  rw[<-q6,<-Array.foldl_toList,Array.toList_zip]
 refine⟨L.fn,_,L.assign,L.body,zke q3 hsz,fun F hF=>?_⟩;rw[hfold];have hFn:∀f,F.fn f:=by rcases hF with rfl|⟨l2,rfl⟩<;>exact fun _=>trivial
 have hFr:∀fn0:FuncId,FRel ⟨fn0,some l⟩ (F.inRound l'):=fun fn0=>by
  refine .inr ⟨by simp,l',?_⟩;rcases hF with rfl|⟨l2,rfl⟩<;>rfl
 refine roundIn_of_wpIn (hFn _) ?_;rw[q7,q8];dsimp only at h;cases hd:dcode P ok n ⟨fn,some l⟩ as ⟨(ps.zip args).foldl (fun t p=>t.put p.1 (some p.2)) tm,[],H⟩ with
 |none=>rw[hd] at h;cases h
 |some p =>
  obtain⟨ex1,st1⟩:=p;rw[hd] at h;cases ex1 with
  |exit i=>cases h
  |ret=>cases h
  |panic ch=>cases h
  |normal =>
   simp only at h;refine A.code (m:=m) _ hd q11 ⟨hH,hz1,trivial,by rw[hz2];exact q10,hg⟩ (hFr fn) ?_;intro e a1 w1 σ1 he hs1 hst1;cases e<;>try exact he.elim
   split at h
   case h_2=>cases h
   rename_i pend1 fn1 tm1 ps1 as1 bo1 d1 hgl1;obtain⟨b1,S1,es1,m1,L1,r1,r2,r3,r4,r5,r6,r7,r8,r9,r10,r11,r12,r13,r14⟩:=hs1.hH.loopAt hgl1;have live:∀{σ2:Nat->Loc}{b2 S2 es2:Nat},Ext σ σ2->σ2 l=.live b2 S2 es2->b2=l':=fun he hl2=>by
    rcases he l with k|k|⟨_,k⟩
    ·rw[q1] at k;cases k
    ·rw[q1,hl2] at k;cases k;rfl
    ·rw[hl2] at k;cases k
   have hb1:=live hst1.ext r1;subst hb1;obtain⟨hH2,hst2⟩:=hs1.hH.setLoop (s':=.busy) (pend':=pend1) hgl1 r1 r2 r3 r6 r7 r8 r9 r10 r11 r12 r13 r14;have hL2:({ L1 with state:=.busy,pending:=pend1 }:Loop)={ L1 with state:=.busy }:=by rw[<-r5]
   rw[hL2] at hH2 hst2;refine⟨_,z9x r3 r4,?_⟩;cases hd2:dcode P ok n ⟨fn,some l⟩ bo ⟨st1.tm,st1.ds,st1.H.put l (some (.loop .busy pend1 fn1 tm1 ps1 as1 bo1 d1))⟩ with
   |none=>rw[hd2] at h;cases h
   |some p2 =>
    obtain⟨ex2,st2⟩:=p2;rw[hd2] at h;refine A.code (m:=m) _ hd2 q12 ⟨hH2,hs1.tm,hs1.ds,hs1.sz,hs1.gr⟩ (hFr fn) ?_;intro e2 a2 w2 σ2 he2 hs2 hst3;have hstA:=hst1.trans (hst2.trans hst3);have fin:∀(jump:Option Code) (vv:Value) (s:LoopState),dendRound l jump vv s st2.H=some (v,H')->vv=.bool jump.isNone->s=(if jump.isNone then .ready else .done)->(jump=none\/jump=some .ret\/∃id,jump=some (.exit id)) ->
      ∃v' w',(Instr.endRound b1 jump).run P w2=.ok v' w'/\∃v2 σ',Ending.returned v'=.returned v2/\VR σ' τ v v2/\HR P N w0 τ σ' H' w'/\Step σ H w σ' H' w':=by
     intro jump vv s hx hvv hss hj;unfold dendRound at hx;split at hx
     case h_2=>cases hx
     rename_i s0 pend0 fn3 tm3 ps3 as3 bo3 d3 hgl3;cases hx;obtain⟨b3,S3,es3,m3,L3,t1,t2,t3,t4,t5,t6,t7,t8,t9,t10,t11,t12,t13,t14⟩:=hs2.hH.loopAt hgl3;have hb3:=live hstA.ext t1;subst hb3;obtain⟨hH4,hst4⟩:=hs2.hH.setLoop (s':=s) (pend':=jump) hgl3 t1 t2 t3 t6 t7 t8 t9 t10 t11 t12 t13 hj;rw[hss] at hH4 hst4;refine⟨_,_,zct t3 jump,_,σ2,rfl,?_,by rw[hss];exact hH4,by rw[hss];exact hstA.trans hst4⟩;rw[hvv];exact .flat _ rfl
    cases ex2 with
    |normal =>
     cases e2<;>try exact he2.elim
     exact fin none _ _ h rfl rfl (.inl rfl)
    |ret =>
     cases e2<;>try exact he2.elim
     exact fin (some .ret) _ _ h rfl rfl (.inr (.inl rfl))
    |exit id =>
     cases e2<;>try exact he2.elim
     rename_i id';have hid:id=id':=he2;subst hid;exact fin (some (.exit id)) _ _ h rfl rfl (.inr (.inr ⟨id,rfl⟩))
    |panic ch=>cases h
theorem zo8:All P N w0 τ ok 0:=by
 constructor
 ·intros;rename_i h _ _ _ _;unfold dcode at h;cases h
 ·intros;rename_i h _ _ _ _;unfold dcode at h;cases h
 ·intros;rename_i h _ _ _ _;unfold dseq at h;cases h
 ·intros;rename_i h _ _ _ _;unfold dops at h;cases h
 ·intros;rename_i h _ _ _ _ _ _;unfold dop1 at h;cases h
 ·intros;rename_i h _ _ _;unfold dcall at h;cases h
 ·intros;rename_i h _ _ _ _ _ _;unfold dleave at h;cases h
 ·intros;rename_i h _ _ _ _;unfold dround at h;cases h
theorem zkf (hτ:∀j,(τ j).oneCell'=true) (hm:P.follows .mixedOrders=true) (hOK:OkFns P N w0 ok):∀n,All P N w0 τ ok n:=by
 intro n
 induction n using Nat.strongRecOn with
 |_ n ih =>
  cases n with
  |zero=>exact zo8
  |succ n =>
   have A:=ih n (Zf n);have hE:∀k,k < n->All P N w0 τ ok k:=fun k hk=>ih k (by omega)
   exact {
    code:=fun Q h hok hs hF hQ=>zkb hτ hm A hE Q h hok hs hF hQ
    loop:=fun Q h hok hs hF hQ=>za6 A Q h hok hs hF hQ
    seq:=fun Q h hok hs hF hQ=>zo4 A Q h hok hs hF hQ
    ops:=fun Q h hok hs hF hQ=>zo3 A Q h hok hs hF hQ
    op1:=fun K Q h hρ hH hd hg hF hK=>zfv hτ A K Q h hρ hH hd hg hF hK
    call:=fun h hl hH hg=>zkc hτ hOK A h hl hH hg
    leave:=fun R h ht hd hu hH hg hR=>zir hτ hOK A R h ht hd hu hH hg hR
    round:=fun h hb hl hH hg=>zis A h hb hl hH hg }
theorem z7l (hτ:∀j,(τ j).oneCell'=true) (hm:P.follows .mixedOrders=true) (hOK:OkFns P N w0 ok) {f:FuncId}{args:List Value}{args':Array Value}{H H':Heap}{en:En}{w:World}{σ:Nat->Loc}
  (h:dcall P ok n f args H=some (en,H')) (hl:LR σ τ args args'.toList) (hH:HR P N w0 τ σ H w) (hg:GR P σ) :
  Calls P f args' w fun e w'=>∃ σ',EnR σ' τ en e/\HR P N w0 τ σ' H' w'/\Step σ H w σ' H' w' :=
 callsIn_wide.1 ((zkf hτ hm hOK n).call h hl hH hg)
end
end Go.Hb
end

section
namespace Go.Hb
open Go Go.RowKit
def okFn (P:Program) (f:FuncId):Bool :=
 match P.funcs[f]? with
 |some fn=>match fn.body with
  |some c=>okCode P.globals.size fn.ntmps c
  |none=>true
 |none=>true
theorem za7 {P:Program}{ok:Nat}(h:((Zh P.funcs.size).all fun f=>!ok.testBit f || okFn P f)=true):∀f fn c,ok.testBit f=true->P.funcs[f]?=some fn->fn.body=some c->okCode P.globals.size fn.ntmps c=true:=by
 intro f fn c hb hf hc;have hlt:f < P.funcs.size:=(Array.getElem?_eq_some_iff.1 hf).1;have:=List.all_eq_true.1 h f (List.mem_range.2 hlt);rw[hb] at this;simp only[Zv,Bool.false_or] at this;unfold okFn at this;rw[hf] at this;simp only[hc] at this;exact this
theorem zo9 {P:Program}{ok N:Nat}{w0:World}(h:((Zh P.funcs.size).all fun f=>!ok.testBit f || okFn P f)=true):OkFns P N w0 (Ok.run ok) :=
 ⟨za7 h,fun τ f args args' H en H' w σ _ hk=>by cases hk⟩
def retTrue:Option (En × Heap)->Bool
 |some (.ret (.bool true),_)=>true
 |_=>false
theorem zex {r:Option (En × Heap)}(h:retTrue r=true):∃H',r=some (.ret (.bool true),H'):=by
 unfold retTrue at h;split at h
 ·exact⟨_,rfl⟩
 ·cases h
def sig0 (nx:Nat):Nat->Loc:=fun i=>if i < nx then .dead else .none
theorem HR.start {P:Program}{τ:Nat->Value}(nx:Nat) (W:World):HR P W.heap.size W τ (sig0 nx) ⟨nx,.nil⟩ W:=by
 refine⟨Below.refl _ _,Ze _,fun i hi=>?_,fun i B hB=>?_,fun i j b S es S' es' hi=>?_,fun i b S es hi=>?_⟩
 ·have hi':nx<=i:=hi;unfold sig0;rw[if_neg (by omega)]
 ·cases hB
 ·unfold sig0 at hi;split at hi<;>cases hi
 ·unfold sig0 at hi;split at hi<;>cases hi
theorem GR.start {P:Program}{nx:Nat}(h:P.globals.size<=nx):GR P (sig0 nx):=fun g hg=>.inl (by unfold sig0;rw[if_pos (by omega)])
theorem zit {P:Program}{ok n nx:Nat}{f:FuncId}{args:List Value}{args':Array Value}{τ:Nat->Value}(hτ:∀j,(τ j).oneCell'=true) (hm:P.follows .mixedOrders=true)
  (hok:((Zh P.funcs.size).all fun f=>!ok.testBit f || okFn P f)=true) (hnx:P.globals.size<=nx)
  (hrun:retTrue (dcall P (Ok.run ok) n f args ⟨nx,.nil⟩)=true) (hl:LR (sig0 nx) τ args args'.toList) (W:World) :
  Calls P f args' W fun e W'=>e=.returned (.bool true)/\Below W.heap.size W W':=by
 obtain⟨H',h⟩:=zex hrun;refine(z7l hτ hm (zo9 hok) h hl (HR.start nx W) (GR.start hnx)).mono fun e w' he=>?_
 obtain⟨σ',hen,hH,_⟩:=he;cases e with
 |returned v'=>exact⟨by rw[show v'=.bool true from VR.flat_eq hen rfl],hH.below⟩
 |panicked _=>exact hen.elim
 |outgrown=>exact hen.elim
section
open Go.ChangeShapes Go.WideShapes
variable {H:Type}{enc:TypeId × Value->H}{P:Program}
theorem zbf {f:Func}{s:ChangeSpec}{apart fresh handsOn again:Bool}{W W':World}{args:Array Value}{v:Value}{ds gs:List (DataW H)}{before pa pv:List MemPlace}
  (hW:DataW.Whole enc P f.params.toList s.vars apart W args.toList ds gs before)
  (hres:∀(b:Nat) (sp:Nat->Bool) (hd:Bool),DataW.TrodAll enc P W' b sp hd f.resultTypes.toList (v.resultList f.resultTypes.size) (s.fn H (ds++gs)).results [])
  (hargs:∀sp:Nat->Bool,(∀p∈before,sp p.block=true)->DataW.TrodAll enc P W' 0 sp true f.params.toList args.toList (s.fn H (ds++gs)).args pa)
  (hvars:∀sp:Nat->Bool,(∀p∈before,sp p.block=true)->DataW.TrodVars enc P W' sp s.vars (s.fn H (ds++gs)).vars pv)
  (hps:before=pa++pv) (hB:Below W.heap.size W W')
  (hok:∀(j:Nat) (t:TypeId) (r:Value),f.resultTypes[j]?=some t->(v.resultList f.resultTypes.size)[j]?=some r->Value.okWide P W' .any 0 t r) :
  s.post enc P f apart fresh handsOn again W args v W':=by
 have hlt:∀p∈before,p.block < W.heap.size:=fun p hp=>hW.lt p hp
 have hold:∀p∈before,(fun b=>decide (b < W.heap.size)) p.block=true:=fun p hp=>by simpa using hW.lt p hp
 refine⟨ds,gs,before,[],pa,pv,hW,hres _ _ _,hargs _ hold,hvars _ hold,World.keptBut_mono (fun p hp=>⟨hp,?_⟩) (hB.frame (·∈before)),fun _=>?_⟩
 ·rw[hps,List.mem_append] at hp;exact Or.inr hp
 ·obtain⟨_,_,_,_,_,hz,hn⟩:=hW;refine⟨hok,_,_,([]++pa)++pv,⟨[]++pa,pv,trodAll_append (hargs _ (fun _ _=>rfl)) (hres _ _ _),hvars _ (fun _ _=>rfl),rfl,?_,?_⟩,?_⟩
  ·intro b off hp;have hp':MemPlace.cell b off∈before:=by rw[hps];simpa using hp
   rw[hB.frozen (hlt _ hp')];exact hz b off hp'
  ·intro ha;have:=hn ha;rw[hps] at this;simpa using this
  ·intro p hp _;rw[hps];simpa using hp
end
end Go.Hb
end

section
namespace Go.Hb
open Go Go.RowKit
def toksFrom:Nat->List (Option Nat)->List Value
 |_,[]=>[]
 |o,none :: l=>.chan (some o) :: toksFrom (o+1) l
 |o,some n :: l=>.agg ⟨(Zh n).map fun i=>.chan (some (o+i))⟩ :: toksFrom (o+n) l
def Fits (s:Option Nat) (v:Value):Prop :=
 match s with
 |none=>v.oneCell'=true
 |some n=>∃cs,v=.agg cs/\cs.size=n/\∀(i:Nat) u,cs[i]?=some u->u.oneCell'=true
def FitsL:List (Option Nat)->List Value->Prop
 |[],[]=>True
 |s :: l,v :: vs=>Fits s v/\FitsL l vs
 |_,_=>False
def cellsOfL (vs:List Value):List Value:=vs.flatMap fun v=>v.cells.toList
def tokT (vs:List Value) (j:Nat):Value:=((cellsOfL vs)[j]?).getD (.bool true)
end Go.Hb
end

section
namespace Go.Hb
open Go Go.RowKit Go.ChangeShapes Go.WideShapes
section
variable {H:Type}{enc:TypeId × Value->H}{P:Program}
theorem z6c (hl:laidOutB P=true) {W W':World}(hB:Below W.heap.size W W') (sp:Nat->Bool):∀{ts:List TypeId}{vs:List Value}{ds:List (DataW H)}{ps:List MemPlace},
  (∀t∈ts,P.readableRec t=true/\t < P.types.size)->DataW.TrodAll enc P W 0 (fun _=>true) true ts vs ds ps->(∀x∈ps,x.block < W.heap.size)->(∀x∈ps,sp x.block=true)->DataW.TrodAll enc P W' 0 sp true ts vs ds ps
 |[],vs,ds,ps,_,h,_,_=>by
  obtain⟨rfl,rfl,rfl⟩:=trodAll_nil h;exact trodAll_mk0
 |t :: ts,vs,ds,ps,ht,h,hlt,hsp=>by
  obtain⟨v,vs1,d,ds1,p,q,rfl,rfl,rfl,h1,h2⟩:=trodAll_cons h;exact trodAll_cons_mk (WideElems.Trod_stays hl (ht t (by simp)).1 (ht t (by simp)).2 h1 (fun x hx=>hB.same (hlt x (by simp [hx]))) (fun x hx=>hsp x (by simp [hx])))
   (z6c hl hB sp (fun u hu=>ht u (by simp [hu])) h2 (fun x hx=>hlt x (by simp [hx])) (fun x hx=>hsp x (by simp [hx])))
theorem zey {f:FuncId}{fn:Func}{s:ChangeSpec}{W:World}{args:Array Value}{ds gs:List (DataW H)}{before:List MemPlace}
  (hl:laidOutB P=true) (hts:fn.params.toList.all (fun t=>P.readableRec t && decide (t < P.types.size))=true) (hvs:s.vars=[]) (hr:fn.resultTypes=#[4]) (hb:P.underlying 4=some .bool)
  (hfn:∀ds:List (DataW H),ds.length=fn.params.size->(s.fn H (ds++[])).results=[.lit (.bool true)]/\(s.fn H (ds++[])).args=ds/\(s.fn H (ds++[])).vars=[])
  (hW:DataW.Whole enc P fn.params.toList s.vars false W args.toList ds gs before)
  (hc:Calls P f args W fun e W'=>e=.returned (.bool true)/\Below W.heap.size W W') :
  Calls P f args W fun e W'=>∃v,e=.returned v/\s.post enc P fn false true false false W args v W':=by
 have hW':=hW;obtain⟨p,q,hA,hV,rfl,hfz,hnd⟩:=hW;rw[hvs] at hV;obtain⟨rfl,rfl⟩:=trodVars_none hV;have hlen:∀{ts:List TypeId}{vs:List Value}{ds:List (DataW H)}{ps:List MemPlace},DataW.TrodAll enc P W 0 (fun _=>true) true ts vs ds ps->ds.length=ts.length:=by
  intro ts
  induction ts with
  |nil=>intro vs ds ps h;obtain⟨_,rfl,_⟩:=trodAll_nil h;rfl
  |cons t ts ih=>intro vs ds ps h;obtain⟨v,vs1,d,ds1,p,q,rfl,rfl,rfl,h1,h2⟩:=trodAll_cons h;simp [ih h2]
 obtain⟨e1,e2,e3⟩:=hfn ds (by rw[hlen hA];simp);refine hc.mono fun e W' ⟨he,hB⟩=>?_
 subst he;refine⟨_,rfl,zbf (pa:=p) (pv:=[]) hW' (fun _ _ _=>?_) (fun sp hsp=>?_) (fun _ _=>?_) rfl hB (ok_one hr rfl (okWide_bool_mk hb _))⟩
 ·rw[e1,hr];exact trodAll_cons_mk (shut_bool hb _) trodAll_mk0
 ·rw[e2];refine z6c hl hB sp (fun t ht=>?_) hA (fun x hx=>hW'.lt x (by simp [hx])) (fun x hx=>hsp x (by simp [hx]));have:=List.all_eq_true.1 hts t ht;simpa using this
 ·rw[e3,hvs];rfl
def shOf (P:Program) (t:TypeId):Option Nat :=
 match P.underlying t with
 |some (.struct _)|some (.array _ _)=>some (P.cellsOf t)
 |_=>none
end
end Go.Hb
end

section
namespace Go.Hb
open Go Go.RowKit
def Upon {α:Type}(f:Nat->Option α) (Q:α->Prop):Prop:=∃N r,(∀n,N<=n->f n=some r)/\Q r
theorem Upon.mono {α:Type}{f:Nat->Option α}{Q R:α->Prop}(h:Upon f Q) (k:∀r,Q r->R r):Upon f R:=by
 obtain⟨N,r,h1,h2⟩:=h;exact⟨N,r,h1,k r h2⟩
theorem Upon.now {α:Type}{f:Nat->Option α}{Q:α->Prop}{r:α}(h:∀n,f (n+1)=some r) (hq:Q r):Upon f Q :=
 ⟨1,r,fun n hn=>by obtain⟨m,rfl⟩:∃m,n=m+1:=⟨n - 1,by omega⟩;exact h m,hq⟩
theorem Upon.step {α β:Type}{f:Nat->Option α}{g:Nat->Option β}{R:α->Prop}{Q:β->Prop}(k:Nat->α->Option β) (hg:∀n r,f n=some r->g (n+1)=k n r)
  (hf:Upon f R) (hk:∀r,R r->Upon (fun n=>k n r) Q):Upon g Q:=by
 obtain⟨N,r,h1,h2⟩:=hf;obtain⟨M,q,h3,h4⟩:=hk r h2;refine⟨max N M+1,q,fun n hn=>?_,h4⟩;obtain⟨m,rfl⟩:∃m,n=m+1:=⟨n - 1,by omega⟩
 rw[hg m r (h1 m (by omega))];exact h3 m (by omega)
theorem Upon.go {α:Type}{f g:Nat->Option α}{Q:α->Prop}(hg:∀n,g (n+1)=f n) (hf:Upon f Q):Upon g Q:=by
 obtain⟨N,r,h1,h2⟩:=hf;refine⟨N+1,r,fun n hn=>?_,h2⟩;obtain⟨m,rfl⟩:∃m,n=m+1:=⟨n - 1,by omega⟩
 rw[hg];exact h1 m (by omega)
section
variable (P:Program) (ok:Ok) (x:Ctx)
def EvC (c:Code) (st:St) (Q:Ex->St->Prop):Prop:=Upon (fun n=>dcode P ok n x c st) fun p=>Q p.1 p.2
def EvO (ops:Array Oper) (l:List Nat) (st:St) (Q:Ex->St->Prop):Prop:=Upon (fun n=>dops P ok n x ops l st) fun p=>Q p.1 p.2
def EvF (f:FuncId) (args:List Value) (H:Heap) (K:Value->Heap->Prop):Prop:=Upon (fun n=>dcall P ok n f args H) fun p=>∃v,p.1=.ret v/\K v p.2
def EvV (fn:Func) (tm:Tr Value) (ds:List Deferred) (H:Heap) (K:Value->Heap->Prop):Prop:=Upon (fun n=>dleave P ok n fn tm ds none H) fun p=>∃v,p.1=.ret v/\K v p.2
def Ev1 (o:Oper) (ρ:Operand->Value) (ds:List Deferred) (H:Heap) (K:Value->List Deferred->Heap->Prop):Prop :=
 Upon (fun n=>dop1 P ok n x o ρ ds H) fun r=>∃v ds' H',r=.val v ds' H'/\K v ds' H'
def EvR (l:Nat) (args:List Value) (H:Heap) (K:Value->Heap->Prop):Prop:=Upon (fun n=>dround P ok n l args H) fun p=>K p.1 p.2
def EvL (ops:Array Oper):List Oper->St->(St->Prop)->Prop
 |[],st,Q=>Q st
 |o :: os,st,Q =>
  (dwanted ops st.tm o=some false/\EvL ops os ⟨putD st.tm o.dst undef,st.ds,st.H⟩ Q) \/
  (dwanted ops st.tm o=some true/\Ev1 P ok x o (ev st.tm) st.ds st.H fun v ds H=>EvL ops os ⟨putD st.tm o.dst v,ds,H⟩ Q)
end
def Ex.thenC (k:St->Prop) (Q:Ex->St->Prop):Ex->St->Prop
 |.normal,st=>k st
 |e,st=>Q e st
def Ex.inBlock (id:Nat) (Q:Ex->St->Prop):Ex->St->Prop
 |.exit j,st=>if j=id then Q .normal st else Q (.exit j) st
 |e,st=>Q e st
def Ex.leave (P:Program) (ok:Ok) (fn:Func) (K:Value->Heap->Prop):Ex->St->Prop
 |.normal,st|.ret,st=>EvV P ok fn st.tm st.ds st.H K
 |_,_=>False
section
variable {P:Program}{ok:Ok}{x:Ctx}{st:St}{Q:Ex->St->Prop}
theorem EvC.mono {c:Code}{R:Ex->St->Prop}(h:EvC P ok x c st Q) (k:∀e st,Q e st->R e st):EvC P ok x c st R:=Upon.mono h fun _ hq=>k _ _ hq
theorem EvF.mono {f:FuncId}{args:List Value}{H:Heap}{K L:Value->Heap->Prop}(h:EvF P ok f args H K) (k:∀v H',K v H'->L v H'):EvF P ok f args H L :=
 Upon.mono h fun _ ⟨v,e,hq⟩=>⟨v,e,k _ _ hq⟩
theorem Ev1.mono {o:Oper}{ρ:Operand->Value}{ds:List Deferred}{H:Heap}{K L:Value->List Deferred->Heap->Prop}(h:Ev1 P ok x o ρ ds H K) (k:∀v d H',K v d H'->L v d H'):Ev1 P ok x o ρ ds H L :=
 Upon.mono h fun _ ⟨v,ds',H',e,hq⟩=>⟨v,ds',H',e,k _ _ _ hq⟩
theorem qZe (h:Q .normal st):EvC P ok x .skip st Q:=Upon.now (fun n=>by rw[dcode]) h
theorem qZi {id:Nat}(h:Q (.exit id) st):EvC P ok x (.exit id) st Q:=Upon.now (fun n=>by rw[dcode]) h
theorem qZf (h:Q .ret st):EvC P ok x .ret st Q:=Upon.now (fun n=>by rw[dcode]) h
theorem EvC.scope {c:Code}(h:EvC P ok x c st Q):EvC P ok x (.scope c) st Q:=Upon.go (fun n=>by rw[dcode]) h
theorem qZa {a b:Code}(h:EvC P ok x a st (Ex.thenC (fun st1=>EvC P ok x b st1 Q) Q)):EvC P ok x (.seq a b) st Q:=by
 refine Upon.step (fun n (r:Ex × St)=>match r with|(.normal,st1)=>dcode P ok n x b st1|r=>some r) (fun n r hr=>?_) h ?_
 ·rw[dcode,hr];obtain⟨e,s⟩:=r;cases e<;>rfl
 ·rintro ⟨e,s⟩ hq;cases e with
  |normal=>exact hq
  |_=>exact⟨0,_,fun n _=>rfl,hq⟩
theorem qZd {c:Operand}{a b:Code}(hc:ev st.tm c=.bool true) (h:EvC P ok x a st Q):EvC P ok x (.cond c a b) st Q:=Upon.go (fun n=>by rw[dcode,hc]) h
theorem qZm {c:Operand}{a b:Code}(hc:ev st.tm c=.bool false) (h:EvC P ok x b st Q):EvC P ok x (.cond c a b) st Q:=Upon.go (fun n=>by rw[dcode,hc]) h
theorem EvC.cond {c:Operand}{a b:Code}(t:Bool) (hc:ev st.tm c=.bool t) (h1:t=true->EvC P ok x a st Q) (h2:t=false->EvC P ok x b st Q):EvC P ok x (.cond c a b) st Q:=by
 cases t with
 |true=>exact qZd hc (h1 rfl)
 |false=>exact qZm hc (h2 rfl)
theorem qZg {id:Nat}{b:Code}(h:EvC P ok x b st (Ex.inBlock id Q)):EvC P ok x (.block id b) st Q:=by
 refine Upon.step (fun n (r:Ex × St)=>match r with|(.exit j,st1)=>if Zs j id then some (.normal,st1) else some (.exit j,st1)|r=>some r) (fun n r hr=>?_) h ?_
 ·rw[dcode,hr];obtain⟨e,s⟩:=r;cases e<;>rfl
 ·rintro ⟨e,s⟩ hq;cases e with
  |exit j =>
   simp only[Ex.inBlock] at hq;by_cases hj:j=id
   ·rw[if_pos hj] at hq;exact⟨0,_,fun n _=>by simp only[hj,Nat.beq_refl,if_true];rfl,hq⟩
   ·rw[if_neg hj] at hq;have:Zs j id=false:=by rw[<-ZL,Zt];exact hj
    exact⟨0,_,fun n _=>by simp only[this];rfl,hq⟩
  |_=>exact⟨0,_,fun n _=>rfl,hq⟩
theorem EvC.loop1 {b:Code}(hb:mapShape b=none) (h:EvC P ok x b st (Ex.thenC (fun st1=>EvC P ok x (.loop b) st1 Q) Q)):EvC P ok x (.loop b) st Q:=by
 refine Upon.step (fun n (r:Ex × St)=>match r with|(.normal,st1)=>dcode P ok n x (.loop b) st1|r=>some r) (fun n r hr=>?_) h ?_
 ·rw[dcode,hb];simp only[hr];obtain⟨e,s⟩:=r;cases e<;>rfl
 ·rintro ⟨e,s⟩ hq;cases e with
  |normal=>exact hq
  |_=>exact⟨0,_,fun n _=>rfl,hq⟩
theorem qZk {b:Code}(I:Nat->St->Prop) (hI:∀k st,I k st->EvC P ok x b st (Ex.thenC (fun st1=>∃k',k' < k/\I k' st1) Q)) (k:Nat) (st:St) (h:I k st) (hb:mapShape b=none:=by rfl):EvC P ok x (.loop b) st Q:=by
 induction k using Nat.strongRecOn generalizing st with
 |_ k ih =>
  refine EvC.loop1 hb ((hI k st h).mono fun e st1 hq=>?_);cases e with
  |normal=>obtain⟨k',hk,hI'⟩:=hq;exact ih k' hk st1 hI'
  |_=>exact hq
theorem EvO.nil {ops:Array Oper}(h:Q .normal st):EvO P ok x ops [] st Q:=Upon.now (fun n=>by rw[dops]) h
theorem EvO.of_list {ops:Array Oper}{K:St->Prop}(hQ:∀st,K st->Q .normal st):∀(l:List Nat) (os:List Oper) (st:St),l.map (fun i=>ops[i]?)=os.map some->EvL P ok x ops os st K->EvO P ok x ops l st Q
 |[],[],st,_,h=>EvO.nil (hQ _ h)
 |[],_ :: _,_,h,_=>by simp at h
 |_ :: _,[],_,h,_=>by simp at h
 |i :: l,o :: os,st,hl,h=>by
  simp only[ZA,List.cons.injEq] at hl;rcases h with ⟨hw,h⟩|⟨hw,h⟩
  ·refine Upon.go (fun n=>?_) (EvO.of_list hQ l os _ hl.2 h);rw[dops,hl.1];simp only[hw];cases o.dst<;>rfl
  ·refine Upon.step (fun n r=>match r with|.val v ds H=>dops P ok n x ops l (St.put ⟨st.tm,ds,st.H⟩ o.dst v H)|.panic ch H=>some (.panic ch,⟨st.tm,st.ds,H⟩)) (fun n r hr=>?_) h ?_
   ·rw[dops,hl.1];simp only[hw,hr];cases r<;>rfl
   ·rintro r ⟨v,ds,H,rfl,hr⟩;have:=EvO.of_list hQ l os _ hl.2 hr;refine this.imp fun N=>?_
    rintro ⟨r,h1,h2⟩;refine⟨r,fun n hn=>?_,h2⟩;rw[<-h1 n hn];cases o.dst<;>rfl
theorem z5s (ops:Array Oper):(Zh ops.size).map (fun i=>ops[i]?)=ops.toList.map some:=by
 apply List.ext_getElem?;intro i;simp only[Zw,List.getElem?_range];by_cases h:i < ops.size
 ·simp [h]
 ·simp [h]
theorem EvC.ops {id:Nat}{ops:Array Oper}(h:EvL P ok x ops ops.toList st (Q .normal)):EvC P ok x (.region id ops false) st Q :=
 Upon.go (fun n=>by rw[dcode]) (EvO.of_list (K:=Q .normal) (fun _ h=>h) _ _ st (z5s ops) h)
theorem z2j {ops:Array Oper}{tm:Tr Value}{o:Oper}(h:o.guard=none):dwanted ops tm o=some true:=by unfold dwanted;rw[h]
theorem Ev1.val {o:Oper}{ρ:Operand->Value}{ds:List Deferred}{H H':Heap}{v:Value}{K:Value->List Deferred->Heap->Prop}(h:dop P o ρ H=some (.val v H')) (hk:K v ds H'):Ev1 P ok x o ρ ds H K :=
 Upon.now (r:=.val v ds H') (fun n=>by rw[dop1,h]) ⟨v,ds,H',rfl,hk⟩
theorem Ev1.call {o:Oper}{ρ:Operand->Value}{ds:List Deferred}{H:Heap}{f:FuncId}{args:List Value}{K:Value->List Deferred->Heap->Prop}(h:dop P o ρ H=some (.call f args))
  (hk:EvF P ok f args H fun v H'=>K v ds H'):Ev1 P ok x o ρ ds H K:=by
 refine Upon.step (fun n (r:En × Heap)=>match r with|(.ret v,H')=>some (.val v ds H')|(.panic ch,H')=>some (.panic ch H')) (fun n r hr=>?_) hk ?_
 ·rw[dop1,h];simp only[hr];obtain⟨e,H'⟩:=r;cases e<;>rfl
 ·rintro ⟨e,H'⟩ ⟨v,rfl,hv⟩;exact⟨0,_,fun n _=>rfl,v,ds,H',rfl,hv⟩
theorem Ev1.yield {o:Oper}{ρ:Operand->Value}{ds:List Deferred}{H:Heap}{l:Nat}{args:List Value}{K:Value->List Deferred->Heap->Prop}(h:dop P o ρ H=some (.yield l args))
  (hk:EvR P ok l args H fun v H'=>K v ds H'):Ev1 P ok x o ρ ds H K:=by
 refine Upon.step (fun n (r:Value × Heap)=>some (.val r.1 ds r.2)) (fun n r hr=>?_) hk ?_
 ·rw[dop1,h];simp only[hr]
 ·rintro ⟨v,H'⟩ hv;exact⟨0,_,fun n _=>rfl,v,ds,H',rfl,hv⟩
section
variable {ops:Array Oper}{os:List Oper}{tm:Tr Value}{ds:List Deferred}{H:Heap}{K:St->Prop}{op:Op}{ty:TypeId}{pos:String}{af:Array Edge}
theorem EvL.val {d:Tmp}{v:Value}{H':Heap}(h:dop P ⟨some d,op,ty,pos,af,none⟩ (ev tm) H=some (.val v H')) (hk:EvL P ok x ops os ⟨tm.put d (some v),ds,H'⟩ K) :
  EvL P ok x ops (⟨some d,op,ty,pos,af,none⟩ :: os) ⟨tm,ds,H⟩ K:=.inr ⟨rfl,Ev1.val h hk⟩
theorem EvL.call {d:Tmp}{f:FuncId}{args:List Value}(h:dop P ⟨some d,op,ty,pos,af,none⟩ (ev tm) H=some (.call f args))
  (hk:EvF P ok f args H fun v H'=>EvL P ok x ops os ⟨tm.put d (some v),ds,H'⟩ K):EvL P ok x ops (⟨some d,op,ty,pos,af,none⟩ :: os) ⟨tm,ds,H⟩ K:=.inr ⟨rfl,Ev1.call h hk⟩
end
theorem EvF.enter {f:FuncId}{fn:Func}{c:Code}{args:List Value}{H:Heap}{K:Value->Heap->Prop}(hK:ok.K f args H=none) (hf:P.funcs[f]?=some fn) (hm:ok.testBit f=true) (hb:fn.body=some c)
  (h:EvC P ok ⟨f,none⟩ c ⟨initTm 0 args .nil,[],H⟩ (Ex.leave P ok fn K)):EvF P ok f args H K:=by
 refine Upon.step (fun n (r:Ex × St)=>match r with|(.normal,st)|(.ret,st)=>dleave P ok n fn st.tm st.ds none st.H|(.panic ch,st)=>dleave P ok n fn st.tm st.ds (some ch) st.H|_=>none) (fun n r hr=>?_) h ?_
 ·rw[dcall,hK];simp only[hf,hm,hb,hr];obtain⟨e,s⟩:=r;cases e<;>rfl
 ·rintro ⟨e,s⟩ hq;cases e with
  |normal=>exact hq
  |ret=>exact hq
  |exit _=>exact hq.elim
  |panic _=>exact hq.elim
theorem EvF.know {f:FuncId}{args:List Value}{H H':Heap}{v:Value}{K:Value->Heap->Prop}(hK:ok.K f args H=some (.ret v,H')) (h:K v H'):EvF P ok f args H K :=
 Upon.now (r:=(.ret v,H')) (fun n=>by rw[dcall,hK]) ⟨v,rfl,h⟩
theorem EvV.now {fn:Func}{tm:Tr Value}{H:Heap}{v:Value}{K:Value->Heap->Prop}(hr:dres P fn tm H=some v) (h:K v H):EvV P ok fn tm [] H K :=
 Upon.now (r:=(.ret v,H)) (fun n=>by rw[dleave,hr]) ⟨v,rfl,h⟩
theorem EvV.mark {fn:Func}{tm:Tr Value}{ds:List Deferred}{l:Nat}{args:Array Value}{H:Heap}{K:Value->Heap->Prop}(hg:H.get l=some .dfr) (h:EvV P ok fn tm ds (H.put l none) K) :
  EvV P ok fn tm (⟨.collected l,args⟩ :: ds) H K :=
 Upon.go (fun n=>by rw[dleave];simp only[hg]) h
end
end Go.Hb
end

section
namespace Go.Hb
open Go Go.RowKit
def deadAt (P:Program) (W:World):Nat:=max P.globals.size W.heap.size
def ab (P:Program) (W:World):Value->Value
 |.pointer (some a)=>if a.spot=none/\a.block < W.heap.size then .pointer (some a) else .pointer (some ⟨deadAt P W,0,none⟩)
 |.slice (some a) n c=>if n<=c/\c<=maxLen then (if a.spot=none/\a.block < W.heap.size then .slice (some a) n c else .slice (some ⟨deadAt P W,0,none⟩) n c) else junk
 |.map (some _)=>.map (some (deadAt P W))
 |v=>if flat v then v else junk
def abV (P:Program) (W:World):Value->Value
 |.agg ⟨cs⟩=>.agg ⟨cs.map (ab P W)⟩
 |v=>ab P W v
def mkTr (f:Nat->Option Blk):Nat->Tr Blk
 |0=>.nil
 |n+1=>(mkTr f n).put n (f n)
theorem zfx (f:Nat->Option Blk):∀n i,(mkTr f n).get i=if i < n then f i else none
 |0,i=>by simp [mkTr,Tr.get]
 |n+1,i=>by
  rw[mkTr,Tr.get_put,zfx f n i];by_cases h:i=n
  ·rw[if_pos h,if_pos (by omega),h]
  ·rw[if_neg h];by_cases h2:i < n
   ·rw[if_pos h2,if_pos (by omega)]
   ·rw[if_neg h2,if_neg (by omega)]
def blkW (P:Program) (W:World) (i:Nat):Option Blk :=
 match W.heap[i]? with
 |some (.cells cs t _)=>some (.ro (cs.toList.map (ab P W)) t)
 |_=>none
def heapW (P:Program) (W:World):Heap:=⟨deadAt P W+1,mkTr (blkW P W) W.heap.size⟩
def sigW (P:Program) (W:World):Nat->Loc:=fun i=>if i < W.heap.size then .live i 0 0 else if i < deadAt P W+1 then .dead else .none
def tauW:Nat->Value:=fun _=>.bool true
section
variable {P:Program}{W:World}
theorem z6d (i:Nat):(heapW P W).get i=if i < W.heap.size then blkW P W i else none:=zfx _ _ _
theorem z8h:sigW P W (deadAt P W)=.dead:=by
 unfold sigW;rw[if_neg (by unfold deadAt;omega),if_pos (by omega)]
theorem zbg {b:Nat}(h:b < W.heap.size):sigW P W b=.live b 0 0:=by unfold sigW;rw[if_pos h]
theorem zpw (v:Value):VR (sigW P W) tauW (ab P W v) v:=by
 have dead:∀a:Addr,AR (sigW P W) ⟨deadAt P W,0,none⟩ a:=fun a=>by unfold AR;simp only[z8h]
 have live:∀a:Addr,a.spot=none/\a.block < W.heap.size->AR (sigW P W) a a:=fun a h=>by
  unfold AR;rw[h.1];simp only[zbg h.2];obtain⟨b,o,s⟩:=a;obtain rfl:s=none:=h.1;exact⟨rfl,rfl⟩
 have rest:∀v:Value,VR (sigW P W) tauW (if flat v then v else junk) v:=fun v=>by
  split
  ·rename_i h;exact .flat _ h
  ·exact .junk _
 unfold ab;split
 ·split
  ·rename_i h;exact .ptr _ _ (live _ h)
  ·exact .ptr _ _ (dead _)
 ·split
  ·rename_i h;split
   ·rename_i h2;refine .slice _ _ _ _ _ (live _ h2) h.1 (Ze _) ⟨h.2,fun _ b S es hb=>?_⟩;rw[zbg h2.2] at hb;cases hb;exact fun e=>absurd rfl e
   ·refine .slice _ _ _ _ _ (dead _) h.1 (Ze _) ⟨h.2,fun _ b S es hb=>?_⟩;simp only[z8h] at hb;cases hb
  ·exact .junk _
 ·refine .map _ _ ?_;unfold BR;rw[z8h];trivial
 ·exact rest _
theorem zkg (l:List Value):LR (sigW P W) tauW (l.map (ab P W)) l :=
 ⟨by simp,fun i v v' h h'=>by
  rw[Zw,h'] at h;simp only[ZE,Option.some.injEq] at h;subst h;exact zpw v'⟩
theorem zrs (v:Value):VR (sigW P W) tauW (abV P W v) v:=by
 unfold abV;split
 ·rename_i cs;exact RA.mk_agg (x:=⟨cs.map (ab P W)⟩) (x':=⟨cs⟩) (zkg cs)
 ·exact zpw _
theorem zoa (l:List Value):LR (sigW P W) tauW (l.map (abV P W)) l :=
 ⟨by simp,fun i v v' h h'=>by
  rw[Zw,h'] at h;simp only[ZE,Option.some.injEq] at h;subst h;exact zrs v'⟩
theorem HR.world:HR P W.heap.size W tauW (sigW P W) (heapW P W) W:=by
 refine⟨Below.refl _ _,Ze _,fun i hi=>?_,fun i B hB=>?_,fun i j b S es S' es' hi hj=>?_,fun i b S es hi=>?_⟩
 ·have hi':deadAt P W+1<=i:=hi;unfold sigW;have:W.heap.size<=deadAt P W:=by unfold deadAt;omega
  rw[if_neg (by omega),if_neg (by omega)]
 ·rw[z6d] at hB;split at hB
  ·rename_i hlt;unfold blkW at hB;split at hB
   ·rename_i cs t fr hw;cases hB;rw[zbg hlt];refine .ro i 0 _ t cs fr hlt hw ?_;unfold PR;rw[Zp,List.take_length];exact zkg _
   ·cases hB
  ·cases hB
 ·unfold sigW at hi hj;split at hi
  ·split at hj
   ·cases hi;cases hj;rfl
   ·split at hj<;>cases hj
  ·split at hi<;>cases hi
 ·unfold sigW at hi;split at hi
  ·cases hi;assumption
  ·split at hi<;>cases hi
theorem GR.world:GR P (sigW P W):=fun g hg=>by
 by_cases h:g < W.heap.size
 ·exact .inr ⟨0,0,zbg h⟩
 ·refine .inl ?_;unfold sigW;rw[if_neg h,if_pos (by unfold deadAt;omega)]
theorem ziu {b o n:Nat}{l:List Value}(hn:0 < n) (hl:l.length=n) (h:∀j v,l[j]?=some v->W.cell? ⟨b,o+j,none⟩=some v):(heapW P W).load ⟨b,o,none⟩ n=some (l.map (ab P W)):=by
 have hcell:∀j (hj:j < n),∃cs t fr,W.heap[b]?=some (.cells cs t fr)/\cs[o+j]?=l[j]?:=fun j hj=>by
  have h0:=h j l[j] (Zc (by omega));unfold World.cell? at h0;simp only at h0;split at h0
  ·rename_i cs t fr hw;refine⟨cs,t,fr,hw,?_⟩;rw[Zc (by omega)];simpa using h0
  ·cases h0
 obtain⟨cs,t,fr,hw,_⟩:=hcell 0 hn;have hlt:b < W.heap.size:=(Array.getElem?_eq_some_iff.1 hw).1;have hcells:(heapW P W).cells b=some (cs.toList.map (ab P W)):=by
  unfold Heap.cells;rw[z6d,if_pos hlt];unfold blkW;rw[hw]
 have hget:∀j,j < n->cs[o+j]?=l[j]?:=fun j hj=>by
  obtain⟨cs',t',fr',hw',he⟩:=hcell j hj;rw[hw] at hw';cases hw';exact he
 have hlist:((cs.toList.map (ab P W)).drop o).take n=l.map (ab P W):=by
  apply List.ext_getElem?;intro j;rw[ZJ];by_cases hj:j < n
  ·rw[if_pos hj,ZN,Zw,Zw];have:=hget j hj;simp only[Array.getElem?_toList];rw[this]
  ·rw[if_neg hj,Zy (by simp;omega)]
 unfold Heap.load;rw[hcells];simp only[hlist];rw[if_pos (by rw[Zt];simp [hl])]
theorem zez {ok:Ok}{f:FuncId}{args:Array Value}(hm:P.follows .mixedOrders=true) (hOK:OkFns P W.heap.size W ok)
  (h:EvF P ok f (args.toList.map (abV P W)) (heapW P W) fun v _=>v=.bool true):Calls P f args W fun e W'=>e=.returned (.bool true)/\Below W.heap.size W W':=by
 obtain⟨N,⟨en,H'⟩,hr,v,he,hv⟩:=h;simp only at he;subst he hv;refine(z7l (τ:=tauW) (fun _=>rfl) hm hOK (hr N (Ze _)) (zoa args.toList) HR.world GR.world).mono fun e w' he=>?_
 obtain⟨σ',hen,hH,_⟩:=he;cases e with
 |returned v'=>exact⟨by rw[show v'=.bool true from VR.flat_eq hen rfl],hH.below⟩
 |panicked _=>exact hen.elim
 |outgrown=>exact hen.elim
end
end Go.Hb
end

section
namespace Go.Hb
open Go Go.RowKit
def schedGo (n:Nat) (b:Array Nat) (effs:List Nat):List Nat->Nat->List (List Nat × Option Nat)
  |[],done=>[((Zh n).filter fun i=>!done.testBit i && !effs.contains i,none)]
  |e :: es,done=>(pending (Zh n) effs (b.getD e 0) done,some e) :: schedGo n b effs es (done ||| b.getD e 0 ||| 2 ^ e)
def effsOf (ops:Array Oper):List Nat:=(Zh ops.size).filter fun i=>match ops[i]? with|some o=>isEff o|none=>false
def noTwin (b:Array Nat):List Nat->Bool
  |[]=>true
  |e :: es=>(twin b (e :: es)).isNone && noTwin b es
def sched (ops:Array Oper):List (List (Nat × Nat) × Option Nat) :=
  if noTwin (Region.before ops) (effsOf ops)=false then [] else (schedGo ops.size (Region.before ops) (effsOf ops) (effsOf ops) 0).map fun p=>(p.1.map fun i=>(i,effsIn (effsOf ops) ((Region.before ops).getD i 0)),p.2)
section
variable (P:Program) (ok:Ok) (x:Ctx) (ops:Array Oper) (base:Nat)
def EvN (hs:List Heap):List (Nat × Nat)->Tr Value->Heap->(Tr Value->Heap->Prop)->Prop
  |[],tm,H,K=>K tm H
  |(i,k) :: L,tm,H,K=>∃o,ops.toList[i]?=some o /\
    ((dwanted ops tm o=some false/\EvN hs L (putD tm o.dst undef) H K) \/
     (dwanted ops tm o=some true/\isAlloc o=true/\∃B mk,dalloc P o (ev tm)=some (B,mk)/\EvN hs L (putD tm o.dst (mk (base+i))) (H.put (base+i) (some B)) K) \/
     (dwanted ops tm o=some true/\isAlloc o=false/\∃v G gs G',hs=G :: gs/\dop P o (ev tm) G=some (.val v G') /\
       (isRead o=false\/(G'.next=G.next/\sameOn P o (ev tm) v (gs.take (gs.length - k))=true))/\EvN hs L (putD tm o.dst v) H K))
def EvS:List (List (Nat × Nat) × Option Nat)->List Heap->Tr Value->List Deferred->(St->Prop)->Prop
  |[],_,_,_,_=>False
  |(L,none) :: _,hs,tm,ds,K=>∃G gs,hs=G :: gs/\EvN P ops base hs L tm G fun tm1 H1=>K ⟨tm1,ds,H1⟩
  |(L,some e) :: S,hs,tm,ds,K=>∃G gs o,hs=G :: gs/\ops.toList[e]?=some o/\EvN P ops base hs L tm G fun tm1 H1 =>
    (dwanted ops tm1 o=some false/\EvS S (H1 :: hs) (putD tm1 o.dst undef) ds K) \/
    (dwanted ops tm1 o=some true/\Ev1 P ok x o (ev tm1) ds H1 fun v ds1 H2=>EvS S (H2 :: hs) (putD tm1 o.dst v) ds1 K)
end
section
variable {P:Program}{ok:Ok}{x:Ctx}{ops:Array Oper}{base:Nat}
theorem zkh (tm:Tr Value) (d:Option Tmp) (v:Value):(match d with|some d=>tm.put d (some v)|none=>tm)=putD tm d v:=by cases d<;>rfl
theorem z3h {effs:List Nat}{b:Array Nat}{hs:List Heap}{K:Tr Value->Heap->Prop}:∀(L:List Nat) (tm:Tr Value) (H:Heap),
    EvN P ops base hs (L.map fun i=>(i,effsIn effs (b.getD i 0))) tm H K->∃tm1 H1,dnon P ops b effs base hs L tm H=some (tm1,H1)/\K tm1 H1
  |[],tm,H,h=>⟨tm,H,by rw[dnon],h⟩
  |i :: L,tm,H,h=>by
    obtain⟨o,ho,h⟩:=h;have ho':ops[i]?=some o:=by simpa using ho
    rcases h with ⟨hw,h⟩|⟨hw,ha,B,mk,hd,h⟩|⟨hw,ha,v,G,gs,G',rfl,hd,hr,h⟩
    · obtain⟨tm1,H1,e,hk⟩:=z3h L _ _ h;refine⟨tm1,H1,?_,hk⟩;rw[dnon,ho'];simp only[hw,zkh];exact e
    · obtain⟨tm1,H1,e,hk⟩:=z3h L _ _ h;refine⟨tm1,H1,?_,hk⟩;rw[dnon,ho'];simp only[hw,ha,hd,zkh];exact e
    · obtain⟨tm1,H1,e,hk⟩:=z3h L _ _ h;refine⟨tm1,H1,?_,hk⟩;rw[dnon,ho'];simp only[hw,ha,hd,zkh];have hc:(!isRead o || (Zs G'.next G.next && sameOn P o (ev tm) v (gs.take (gs.length - effsIn effs (b.getD i 0)))))=true:=by
        rcases hr with hr|⟨h1,h2⟩
        · rw[hr];rfl
        · rw[h1,h2];simp
      simp only[hc];exact e
def EvDr (P:Program) (ok:Ok) (x:Ctx) (ops:Array Oper) (b:Array Nat) (effs:List Nat) (base:Nat) (es:List Nat) (done:Nat) (hs:List Heap) (tm:Tr Value) (ds:List Deferred) (K:St->Prop):Prop :=
  Upon (fun n=>ddraw P ok n x ops b effs base es done hs tm ds) K
theorem z4z {K:St->Prop}{b:Array Nat}{effs:List Nat}:∀(es:List Nat) (done:Nat) (hs:List Heap) (tm:Tr Value) (ds:List Deferred),noTwin b es=true ->
    EvS P ok x ops base ((schedGo ops.size b effs es done).map fun p=>(p.1.map fun i=>(i,effsIn effs (b.getD i 0)),p.2)) hs tm ds K ->
    EvDr P ok x ops b effs base es done hs tm ds K
  |[],done,hs,tm,ds,_,h=>by
    obtain⟨G,gs,rfl,h⟩:=h;obtain⟨tm1,H1,e,hk⟩:=z3h _ _ _ h;refine Upon.go (f:=fun n=>dstage P ok n x ops b effs base [] done (G :: gs) tm ds) (fun n=>by rw[ddraw];rfl) (Upon.now (fun n=>?_) hk);rw[dstage];simp only[e]
  |e :: es,done,hs,tm,ds,ht,h=>by
    unfold noTwin at ht;rw[Zk,Option.isNone_iff_eq_none] at ht;refine Upon.go (f:=fun n=>dstage P ok n x ops b effs base (e :: es) done hs tm ds) (fun n=>by rw[ddraw,ht.1]) ?_;obtain⟨G,gs,o,rfl,ho,h⟩:=h;have ho':ops[e]?=some o:=by simpa using ho
    obtain⟨tm1,H1,en,hk⟩:=z3h _ _ _ h;rcases hk with ⟨hw,hk⟩|⟨hw,hk⟩
    · refine Upon.go (fun n=>?_) (z4z es _ _ _ ds ht.2 hk);rw[dstage];simp only at en;simp only[en,ho',hw];cases o.dst<;>rfl
    · refine Upon.step (fun n r=>match r with|.val v ds1 H2=>ddraw P ok n x ops b effs base es (done ||| b.getD e 0 ||| 2 ^ e) (H2 :: G :: gs) (putD tm1 o.dst v) ds1|_=>none) (fun n r hr=>?_) hk ?_
      · rw[dstage];simp only at en;simp only[en,ho',hw,hr];cases r<;>cases o.dst<;>rfl
      · rintro r ⟨v,ds1,H2,rfl,hk⟩;exact z4z es _ _ _ ds1 ht.2 hk
theorem EvC.draw {id:Nat}{st:St}{Q:Ex->St->Prop}{S:List (List (Nat × Nat) × Option Nat)}(hS:sched ops=S)
    (h:EvS P ok x ops st.H.next S [⟨st.H.next+ops.size,st.H.t⟩] st.tm st.ds (Q .normal)):EvC P ok x (.region id ops true) st Q:=by
  subst hS;unfold sched at h;split at h
  · exact h.elim
  rename_i hnt;rw[Bool.not_eq_false] at hnt;refine Upon.step (fun n st1=>some (.normal,st1)) (fun n r hr=>?_) (z4z (b:=Region.before ops) (effs:=effsOf ops) (effsOf ops) 0 [⟨st.H.next+ops.size,st.H.t⟩] st.tm st.ds hnt h) ?_
  · have e:dcode P ok (n+1) x (.region id ops true) st=(match ddraw P ok n x ops (Region.before ops) (effsOf ops) st.H.next (effsOf ops) 0 [⟨st.H.next+ops.size,st.H.t⟩] st.tm st.ds with
        |some st1=>some (.normal,st1)
        |none=>match dpan P (dcall P ok n) (fun es done hs tm=>ddraw P ok n x ops (Region.before ops) (effsOf ops) st.H.next es done hs tm st.ds) ops (Region.before ops) (effsOf ops) st.H.next ⟨st.H.next+ops.size,st.H.t⟩ st.tm with
          |some (ch,H')=>some (.panic ch,⟨clr ops st.tm,st.ds,H'⟩)
          |none=>none):=by
      rw[dcode];rfl
    rw[e,hr]
  · intro r hq;exact⟨0,_,fun n _=>rfl,hq⟩
end
end Go.Hb
end

section
namespace Go.Hb
open Go Go.RowKit
section
variable (P:Program) (ok:Ok) (x:Ctx) (ops:Array Oper)
def LK (d:Option Tmp) (tm:Tr Value) (ds:List Deferred) (H:Heap) (K:Tr Value->List Deferred->Heap->Prop):Option Dr->Prop
  |some (.val v H')=>K (putD tm d v) ds H'
  |some (.call f args)=>EvF P ok f args H fun v H'=>K (putD tm d v) ds H'
  |some (.yield l args)=>EvR P ok l args H fun v H'=>K (putD tm d v) ds H'
  |some (.dfr dd)=>x.round=none/\K (putD tm d undef) (dd :: ds) H
  |_=>False
def GK (d:Option Tmp) (tm:Tr Value) (K L:Prop) (want:Bool):Option Value->Prop
  |some (.bool b)=>if b=want then K else L
  |some (.tuple _)=>L
  |_=>False
def guardOf (ops:Array Oper) (tm:Tr Value) (j:Nat):Option Value :=
  match ops.toList[j]? with
  |some o=>match o.dst with
    |some d=>tm.get d
    |none=>some (.tuple #[])
  |none=>some (.tuple #[])
def EL:List Oper->Tr Value->List Deferred->Heap->(Tr Value->List Deferred->Heap->Prop)->Prop
  |[],tm,ds,H,K=>K tm ds H
  |o :: os,tm,ds,H,K=>match o.guard with
    |none=>LK P ok x o.dst tm ds H (fun tm ds H=>EL os tm ds H K) (dop P o (ev tm) H)
    |some (j,w)=>GK o.dst tm (LK P ok x o.dst tm ds H (fun tm ds H=>EL os tm ds H K) (dop P o (ev tm) H)) (EL os (putD tm o.dst undef) ds H K) w (guardOf ops tm j)
end
section
variable {P:Program}{ok:Ok}{x:Ctx}{ops:Array Oper}
theorem z5t {tm:Tr Value}{o:Oper}{j:Nat}{w:Bool}(hg:o.guard=some (j,w)) :
    (∀b,guardOf ops tm j=some (.bool b)->dwanted ops tm o=some (b == w))/\(∀l,guardOf ops tm j=some (.tuple l)->dwanted ops tm o=some false):=by
  unfold guardOf dwanted;rw[hg];simp only[Array.getElem?_toList];cases ops[j]? with
  |none=>simp
  |some oj =>
    simp only[ZB];cases oj.dst with
    |none=>simp
    |some d =>
      simp only;constructor
      · intro b h;rw[h]
      · intro l h;rw[h]
theorem Ev1.of_LK {o:Oper}{d:Option Tmp}{tm:Tr Value}{ds:List Deferred}{H:Heap}{K:Tr Value->List Deferred->Heap->Prop}(h:LK P ok x d tm ds H K (dop P o (ev tm) H)) :
    Ev1 P ok x o (ev tm) ds H fun v ds H=>K (putD tm d v) ds H:=by
  unfold LK at h;split at h
  · rename_i v H' hd;exact Ev1.val hd h
  · rename_i f args hd;exact Ev1.call hd h
  · rename_i l args hd;exact Ev1.yield hd h
  · rename_i dd hd;exact Upon.now (r:=.val undef (dd :: ds) H) (fun n=>by rw[dop1,hd,h.1]) ⟨undef,dd :: ds,H,rfl,h.2⟩
  · exact h.elim
theorem EvL.of_EL {K:Tr Value->List Deferred->Heap->Prop}:∀(os:List Oper) (tm:Tr Value) (ds:List Deferred) (H:Heap),EL P ok x ops os tm ds H K->EvL P ok x ops os ⟨tm,ds,H⟩ fun st=>K st.tm st.ds st.H
  |[],tm,ds,H,h=>h
  |o :: os,tm,ds,H,h=>by
    unfold EL at h;split at h
    · rename_i hg;exact .inr ⟨z2j hg,(Ev1.of_LK h).mono fun v ds H h=>EvL.of_EL os _ _ _ h⟩
    · rename_i j w hg;obtain⟨g1,g2⟩:=z5t (ops:=ops) (tm:=tm) hg;unfold GK at h;split at h
      · rename_i b hb;have:=g1 b hb;by_cases hbw:b=w
        · rw[if_pos hbw] at h;refine .inr ⟨by rw[this,hbw];simp,(Ev1.of_LK h).mono fun v ds H h=>EvL.of_EL os _ _ _ h⟩
        · rw[if_neg hbw] at h;refine .inl ⟨by rw[this];simp [hbw],EvL.of_EL os _ _ _ h⟩
      · rename_i l hl;exact .inl ⟨g2 l hl,EvL.of_EL os _ _ _ h⟩
      · exact h.elim
theorem qZb {id:Nat}{ops:Array Oper}{tm:Tr Value}{ds:List Deferred}{H:Heap}{Q:Ex->St->Prop}(h:EL P ok x ops ops.toList tm ds H fun tm ds H=>Q .normal ⟨tm,ds,H⟩):EvC P ok x (.region id ops false) ⟨tm,ds,H⟩ Q :=
  EvC.ops (EvL.of_EL (K:=fun tm ds H=>Q .normal ⟨tm,ds,H⟩) _ _ _ _ h)
section
variable (P ok x ops) (base:Nat)
def NK (k:Nat) (o:Oper) (tm:Tr Value) (gs:List Heap) (K:Tr Value->Prop) (d:Option Tmp) (nx:Nat):Option Dr->Prop
  |some (.val v G')=>(isRead o=false\/(G'.next=nx/\sameOn P o (ev tm) v (gs.take (gs.length - k))=true))/\K (putD tm d v)
  |_=>False
def AK (i:Nat) (tm:Tr Value) (H:Heap) (K:Tr Value->Heap->Prop) (d:Option Tmp):Option (Blk × (Nat->Value))->Prop
  |some (B,mk)=>K (putD tm d (mk (base+i))) (H.put (base+i) (some B))
  |none=>False
def EN1 (G:Heap) (gs:List Heap) (i k:Nat) (tm:Tr Value) (H:Heap) (K:Tr Value->Heap->Prop):Option Oper->Prop
  |none=>False
  |some o =>
    let go:Prop:=match isAlloc o with
      |true=>AK base i tm H K o.dst (dalloc P o (ev tm))
      |false=>NK P k o tm gs (fun tm=>K tm H) o.dst G.next (dop P o (ev tm) G)
    match o.guard with
    |none=>go
    |some (j,w)=>GK o.dst tm go (K (putD tm o.dst undef) H) w (guardOf ops tm j)
def EN (G:Heap) (gs:List Heap):List (Nat × Nat)->Tr Value->Heap->(Tr Value->Heap->Prop)->Prop
  |[],tm,H,K=>K tm H
  |(i,k) :: L,tm,H,K=>EN1 P ops base G gs i k tm H (fun tm H=>EN G gs L tm H K) ops.toList[i]?
def ES1 (tm:Tr Value) (ds:List Deferred) (H:Heap) (K:Tr Value->List Deferred->Heap->Prop):Option Oper->Prop
  |none=>False
  |some o=>match o.guard with
    |none=>LK P ok x o.dst tm ds H K (dop P o (ev tm) H)
    |some (j,w)=>GK o.dst tm (LK P ok x o.dst tm ds H K (dop P o (ev tm) H)) (K (putD tm o.dst undef) ds H) w (guardOf ops tm j)
def ES:List (List (Nat × Nat) × Option Nat)->Heap->List Heap->Tr Value->List Deferred->(Tr Value->List Deferred->Heap->Prop)->Prop
  |[],_,_,_,_,_=>False
  |(L,none) :: _,G,gs,tm,ds,K=>EN P ops base G gs L tm G fun tm H=>K tm ds H
  |(L,some e) :: S,G,gs,tm,ds,K=>EN P ops base G gs L tm G fun tm H=>ES1 P ok x ops tm ds H (fun tm ds H=>ES S H (G :: gs) tm ds K) ops.toList[e]?
end
theorem EvN.mono {base:Nat}{hs:List Heap}{K K':Tr Value->Heap->Prop}(hk:∀tm H,K tm H->K' tm H):∀(L:List (Nat × Nat)) (tm:Tr Value) (H:Heap),EvN P ops base hs L tm H K->EvN P ops base hs L tm H K'
  |[],tm,H,h=>hk _ _ h
  |(i,k) :: L,tm,H,h=>by
    obtain⟨o,ho,h⟩:=h;refine⟨o,ho,?_⟩;rcases h with ⟨hw,h⟩|⟨hw,ha,B,mk,hd,h⟩|⟨hw,ha,v,G,gs,G',rfl,hd,hr,h⟩
    · exact .inl ⟨hw,EvN.mono hk L _ _ h⟩
    · exact .inr (.inl ⟨hw,ha,B,mk,hd,EvN.mono hk L _ _ h⟩)
    · exact .inr (.inr ⟨hw,ha,v,G,gs,G',rfl,hd,hr,EvN.mono hk L _ _ h⟩)
theorem EvN.of_EN {base:Nat}{G:Heap}{gs:List Heap}{K:Tr Value->Heap->Prop}:∀(L:List (Nat × Nat)) (tm:Tr Value) (H:Heap),EN P ops base G gs L tm H K->EvN P ops base (G :: gs) L tm H K
  |[],tm,H,h=>h
  |(i,k) :: L,tm,H,h=>by
    unfold EN EN1 at h;split at h
    · exact h.elim
    · rename_i o ho;refine⟨o,ho,?_⟩;have go:dwanted ops tm o=some true->(match isAlloc o with
          |true=>AK base i tm H (fun tm H=>EN P ops base G gs L tm H K) o.dst (dalloc P o (ev tm))
          |false=>NK P k o tm gs (fun tm=>EN P ops base G gs L tm H K) o.dst G.next (dop P o (ev tm) G)) ->
          ((dwanted ops tm o=some true/\isAlloc o=true/\∃B mk,dalloc P o (ev tm)=some (B,mk)/\EvN P ops base (G :: gs) L (putD tm o.dst (mk (base+i))) (H.put (base+i) (some B)) K) \/
           (dwanted ops tm o=some true/\isAlloc o=false/\∃v G1 gs1 G',G :: gs=G1 :: gs1/\dop P o (ev tm) G1=some (.val v G') /\
             (isRead o=false\/(G'.next=G1.next/\sameOn P o (ev tm) v (gs1.take (gs1.length - k))=true))/\EvN P ops base (G :: gs) L (putD tm o.dst v) H K)):=fun hw h=>by
        cases ha:isAlloc o with
        |true =>
          rw[ha] at h;simp only at h;unfold AK at h;split at h
          · rename_i B mk hd;exact .inl ⟨hw,rfl,B,mk,hd,EvN.of_EN L _ _ h⟩
          · exact h.elim
        |false =>
          rw[ha] at h;simp only at h;unfold NK at h;split at h
          · rename_i v G' hd;exact .inr ⟨hw,rfl,v,G,gs,G',rfl,hd,h.1,EvN.of_EN L _ _ h.2⟩
          · exact h.elim
      simp only at h;split at h
      · rename_i hg;exact .inr (go (z2j hg) h)
      · rename_i j w hg;obtain⟨g1,g2⟩:=z5t (ops:=ops) (tm:=tm) hg;unfold GK at h;split at h
        · rename_i b hb;have hw:=g1 b hb;by_cases hbw:b=w
          · rw[if_pos hbw] at h;exact .inr (go (by rw[hw,hbw];simp) h)
          · rw[if_neg hbw] at h;refine .inl ⟨by rw[hw];simp [hbw],EvN.of_EN L _ _ h⟩
        · rename_i l hl;exact .inl ⟨g2 l hl,EvN.of_EN L _ _ h⟩
        · exact h.elim
theorem EvS.of_ES {base:Nat}{K:Tr Value->List Deferred->Heap->Prop}:∀(S:List (List (Nat × Nat) × Option Nat)) (G:Heap) (gs:List Heap) (tm:Tr Value) (ds:List Deferred),ES P ok x ops base S G gs tm ds K->EvS P ok x ops base S (G :: gs) tm ds fun st=>K st.tm st.ds st.H
  |[],_,_,_,_,h=>h
  |(L,none) :: S,G,gs,tm,ds,h=>⟨G,gs,rfl,EvN.of_EN L _ _ h⟩
  |(L,some e) :: S,G,gs,tm,ds,h=>by
    unfold ES at h;cases ho:ops.toList[e]? with
    |none =>
      rw[ho] at h;have hno:∀(L:List (Nat × Nat)) tm H,EN P ops base G gs L tm H (fun _ _=>False)->False:=by
        intro L
        induction L with
        |nil=>intro tm H h;exact h
        |cons p L ih =>
          intro tm H h;obtain⟨i,k⟩:=p;have h2:=EvN.of_EN _ _ _ h;obtain⟨o,_,h3⟩:=h2;unfold EN EN1 at h;split at h
          · exact h
          · rename_i o' ho';simp only at h;have key:∀d,(match isAlloc o' with
                |true=>AK base i tm H (fun tm H=>EN P ops base G gs L tm H fun _ _=>False) d (dalloc P o' (ev tm))
                |false=>NK P k o' tm gs (fun tm=>EN P ops base G gs L tm H fun _ _=>False) d G.next (dop P o' (ev tm) G))->False:=by
              intro d hh;split at hh
              · unfold AK at hh;split at hh
                · exact ih _ _ hh
                · exact hh
              · unfold NK at hh;split at hh
                · exact ih _ _ hh.2
                · exact hh
            split at h
            · exact key _ h
            · unfold GK at h;split at h
              · split at h
                · exact key _ h
                · exact ih _ _ h
              · exact ih _ _ h
              · exact h
      exact(hno L tm G (by simpa [ES1] using h)).elim
    |some o =>
      rw[ho] at h;refine⟨G,gs,o,rfl,ho,EvN.mono (fun tm1 H1 h=>?_) _ _ _ (EvN.of_EN L _ _ h)⟩;unfold ES1 at h;simp only at h;split at h
      · rename_i hg;exact .inr ⟨z2j hg,(Ev1.of_LK h).mono fun v ds H h=>EvS.of_ES S _ _ _ _ h⟩
      · rename_i j w hg;obtain⟨g1,g2⟩:=z5t (ops:=ops) (tm:=tm1) hg;unfold GK at h;split at h
        · rename_i b hb;have hw:=g1 b hb;by_cases hbw:b=w
          · rw[if_pos hbw] at h;exact .inr ⟨by rw[hw,hbw];simp,(Ev1.of_LK h).mono fun v ds H h=>EvS.of_ES S _ _ _ _ h⟩
          · rw[if_neg hbw] at h;exact .inl ⟨by rw[hw];simp [hbw],EvS.of_ES S _ _ _ _ h⟩
        · rename_i l hl;exact .inl ⟨g2 l hl,EvS.of_ES S _ _ _ _ h⟩
        · exact h.elim
theorem qZj {id:Nat}{ops:Array Oper}{tm:Tr Value}{ds:List Deferred}{H:Heap}{Q:Ex->St->Prop}(S:List (List (Nat × Nat) × Option Nat)) (hS:sched ops=S)
    (h:ES P ok x ops H.next S ⟨H.next+ops.size,H.t⟩ [] tm ds fun tm ds H=>Q .normal ⟨tm,ds,H⟩):EvC P ok x (.region id ops true) ⟨tm,ds,H⟩ Q :=
  EvC.draw hS (EvS.of_ES (K:=fun tm ds H=>Q .normal ⟨tm,ds,H⟩) _ _ _ _ _ h)
end
end Go.Hb
end

section
namespace Go.Hb
open Go Go.RowKit
def Heap.wf (H:Heap):Prop:=∀i B,H.get i=some B->i < H.next
structure HX (H H':Heap):Prop where
 next:H.next<=H'.next
 keep:∀i,i < H.next->H'.get i=H.get i
 wf:H'.wf
theorem HX.refl {H:Heap}(h:H.wf):HX H H:=⟨Ze _,fun _ _=>rfl,h⟩
theorem HX.trans {A B C:Heap}(h:HX A B) (k:HX B C):HX A C :=
 ⟨Zj h.next k.next,fun i hi=>by rw[k.keep i (Zi hi h.next),h.keep i hi],k.wf⟩
theorem HX.new {A H:Heap}(h:HX A H) (B:Option Blk):HX A (H.new B):=by
 refine⟨Nat.le_succ_of_le h.next,fun i hi=>?_,fun i C hC=>?_⟩
 ·rw[Heap.get_new,if_neg (by have:=h.next;omega)];exact h.keep i hi
 ·rw[Heap.get_new] at hC;show i < H.next+1;by_cases hi:i=H.next
  ·omega
  ·rw[if_neg hi] at hC;have:=h.wf i C hC;omega
theorem HX.put {A H:Heap}(h:HX A H) {i:Nat}(hi:A.next<=i) (hl:i < H.next) (B:Option Blk):HX A (H.put i B):=by
 refine⟨h.next,fun j hj=>?_,fun j C hC=>?_⟩
 ·rw[Heap.get_put,if_neg (by omega)];exact h.keep j hj
 ·rw[Heap.get_put] at hC;show j < H.next;by_cases hj:j=i
  ·omega
  ·rw[if_neg hj] at hC;exact h.wf j C hC
theorem HX.bump {A H:Heap}(h:HX A H) (k:Nat):HX A ⟨H.next+k,H.t⟩ :=
 ⟨Zj h.next (Nat.le_add_right _ _),h.keep,fun i B hB=>Zi (h.wf i B hB) (Nat.le_add_right _ _)⟩
theorem HX.cells {H H':Heap}(h:HX H H') {i:Nat}{cs:List Value}(hw:H.wf) (hc:H.cells i=some cs):H'.cells i=some cs:=by
 have hlt:i < H.next:=by
  unfold Heap.cells at hc;cases hg:H.get i with
  |none=>rw[hg] at hc;cases hc
  |some B=>exact hw i B hg
 unfold Heap.cells at hc ⊢;rw[h.keep i hlt];exact hc
theorem HX.load {H H':Heap}(h:HX H H') {a:Addr}{n:Nat}{l:List Value}(hw:H.wf) (hl:H.load a n=some l):H'.load a n=some l:=by
 unfold Heap.load at hl ⊢;split at hl
 ·rename_i cs hs hc;rw[hs,h.cells hw hc];exact hl
 ·cases hl
theorem zob {P:Program}{W:World}:(heapW P W).wf:=by
 intro i B hB;rw[z6d] at hB;split at hB
 ·show i < deadAt P W+1;unfold deadAt;omega
 ·cases hB
inductive Tm where
 |mk (kind:Int) (name num:ByteArray) (bits var:Int) (args:List Tm)
def Tm.args:Tm->List Tm|.mk _ _ _ _ _ l=>l
def Tm.kind:Tm->Int|.mk k _ _ _ _ _=>k
def Tm.name:Tm->ByteArray|.mk _ s _ _ _ _=>s
def Tm.num:Tm->ByteArray|.mk _ _ s _ _ _=>s
def Tm.bits:Tm->Int|.mk _ _ _ b _ _=>b
def Tm.var:Tm->Int|.mk _ _ _ _ v _=>v
def i64 (n:Int):Prop:=-9223372036854775808<=n/\n<=9223372036854775807
def u64 (n:Int):Prop:=0<=n/\n<=18446744073709551615
inductive RepT (H:Heap):Tm->List Value->Prop
 |mk (k:Int) (s u:ByteArray) (b v:Int) (l:List Tm) (a:Option Addr) (c:Nat) (cells:Nat->List Value):i64 k->s.size<=maxLen->u.size<=maxLen->u64 b->i64 v->l.length<=maxLen ->
   l.length<=c->c<=maxLen->(a=none->l=[]/\c=0) ->
   (∀i ad,i < l.length->a=some ad->ad.spot=none/\H.load ⟨ad.block,ad.off+i*6,none⟩ 6=some (cells i))->(∀i t,l[i]?=some t->RepT H t (cells i)) ->
   RepT H (.mk k s u b v l) [.int .i64 k,.string s,.string u,.int .u64 b,.int .i64 v,.slice a l.length c]
theorem RepT.mono {H H':Heap}(h:HX H H') (hw:H.wf):∀{t:Tm}{cs:List Value},RepT H t cs->RepT H' t cs:=by
 intro t cs r
 induction r with
 |mk k s u b v l a c cells h1 h2 h3 h4 h5 h6 h7 h8 h9 h10 h11 ih =>
  exact .mk k s u b v l a c cells h1 h2 h3 h4 h5 h6 h7 h8 h9 (fun i ad hi ha=>⟨(h10 i ad hi ha).1,h.load hw (h10 i ad hi ha).2⟩) ih
structure RepL (H:Heap) (l:List Tm) (a:Option Addr) (c:Nat) (cells:Nat->List Value):Prop where
 len:l.length<=c
 cap:c<=maxLen
 nil:a=none->l=[]/\c=0
 load:∀i ad,i < l.length->a=some ad->ad.spot=none/\H.load ⟨ad.block,ad.off+i*6,none⟩ 6=some (cells i)
 rep:∀i t,l[i]?=some t->RepT H t (cells i)
theorem RepL.mono {H H':Heap}(h:HX H H') (hw:H.wf) {l:List Tm}{a:Option Addr}{c:Nat}{cells:Nat->List Value}(r:RepL H l a c cells):RepL H' l a c cells :=
 ⟨r.len,r.cap,r.nil,fun i ad hi ha=>⟨(r.load i ad hi ha).1,h.load hw (r.load i ad hi ha).2⟩,fun i t ht=>(r.rep i t ht).mono h hw⟩
theorem RepT.inv {H:Heap}{t:Tm}{cs:List Value}(r:RepT H t cs):∃a c cells,cs=[.int .i64 t.kind,.string t.name,.string t.num,.int .u64 t.bits,.int .i64 t.var,.slice a t.args.length c] /\
  i64 t.kind/\t.name.size<=maxLen/\t.num.size<=maxLen/\u64 t.bits/\i64 t.var/\RepL H t.args a c cells:=by
 cases r with
 |mk k s u b v l a c cells h1 h2 h3 h4 h5 h6 h7 h8 h9 h10 h11=>exact⟨a,c,cells,rfl,h1,h2,h3,h4,h5,h7,h8,h9,h10,h11⟩
theorem RepL.at {H:Heap}{l:List Tm}{a:Option Addr}{c:Nat}{cells:Nat->List Value}(r:RepL H l a c cells) {i:Nat}{t:Tm}(h:l[i]?=some t) :
  ∃b o,a=some ⟨b,o,none⟩/\H.load ⟨b,o+i*6,none⟩ 6=some (cells i)/\RepT H t (cells i):=by
 have hi:i < l.length:=(List.getElem?_eq_some_iff.1 h).1;cases a with
 |none=>obtain⟨rfl,_⟩:=r.nil rfl;simp at hi
 |some ad =>
  obtain⟨h1,h2⟩:=r.load i ad hi rfl;obtain⟨b,o,s⟩:=ad;obtain rfl:s=none:=h1;exact⟨b,o,rfl,h2,r.rep i t h⟩
end Go.Hb
end

section
namespace Go.Hb
open Go Go.RowKit
theorem z00 {k:St->Prop}{Q:Ex->St->Prop}{st:St}:Ex.thenC k Q .normal st=k st:=_root_.id rfl
theorem z50 {k:St->Prop}{Q:Ex->St->Prop}{st:St}{i:Nat}:Ex.thenC k Q (.exit i) st=Q (.exit i) st:=_root_.id rfl
theorem z06 {k:St->Prop}{Q:Ex->St->Prop}{st:St}:Ex.thenC k Q .ret st=Q .ret st:=_root_.id rfl
theorem z3c {id j:Nat}{Q:Ex->St->Prop}{st:St}:Ex.inBlock id Q (.exit j) st=if j=id then Q .normal st else Q (.exit j) st:=_root_.id rfl
theorem z04 {id:Nat}{Q:Ex->St->Prop}{st:St}:Ex.inBlock id Q .normal st=Q .normal st:=_root_.id rfl
theorem z01 {id:Nat}{Q:Ex->St->Prop}{st:St}:Ex.inBlock id Q .ret st=Q .ret st:=_root_.id rfl
theorem zoc {P:Program}{fn:Func}{tm:Tr Value}{H:Heap}{r:Tmp}(h:fn.results.toList=[.tmp r]):dres P fn tm H=some ((tm.get r).getD junk):=by
 simp only[dres,h,dresL,dres1]
theorem zod {P:Program}{fn:Func}{tm:Tr Value}{H:Heap}{r q:Tmp}(h:fn.results.toList=[.tmp r,.tmp q]):dres P fn tm H=some (.tuple ⟨[(tm.get r).getD junk,(tm.get q).getD junk]⟩):=by
 simp only[dres,h,dresL,dres1]
theorem z03 {P:Program}{ok:Ok}{fn:Func}{tm:Tr Value}{H:Heap}{r:Tmp}{v:Value}{K:Value->Heap->Prop}(h:fn.results.toList=[.tmp r]) (hv:tm.get r=some v) (hk:K v H):Ex.leave P ok fn K .ret ⟨tm,[],H⟩ :=
 EvV.now (v:=v) (by rw[zoc h,hv];rfl) hk
def guardGet (tm:Tr Value):Option Oper->Option Value
 |some ⟨some d,_,_,_,_,_⟩=>tm.get d
 |_=>some (.tuple #[])
theorem za8 {ops:Array Oper}{tm:Tr Value}{j:Nat}:guardOf ops tm j=guardGet tm ops.toList[j]?:=by
 unfold guardOf guardGet;cases ops.toList[j]? with
 |none=>rfl
 |some o =>
  obtain⟨d,op,ty,pos,af,g⟩:=o;cases d<;>rfl
theorem z6e {tm:Tr Value}{d:Tmp}{op:Op}{ty:TypeId}{pos:String}{af:Array Edge}{g:Option (Nat × Bool)}:guardGet tm (some ⟨some d,op,ty,pos,af,g⟩)=tm.get d:=_root_.id rfl
theorem EvC.cut {P:Program}{ok:Ok}{x:Ctx}{a b:Code}{st:St}{Q:Ex->St->Prop}(R:St->Prop) (h1:EvC P ok x a st (fun e st1=>e=.normal/\R st1)) (h2:∀st1,R st1->EvC P ok x b st1 Q):EvC P ok x (.seq a b) st Q:=by
 refine qZa (h1.mono fun e st1 ⟨he,hr⟩=>?_);subst he;exact h2 st1 hr
theorem EvC.meet {P:Program}{ok:Ok}{x:Ctx}{c:Code}{st:St}{Q:Ex->St->Prop}(R:St->Prop) (h1:EvC P ok x c st (fun e st1=>e=.normal/\R st1)) (h2:∀st1,R st1->Q .normal st1):EvC P ok x c st Q :=
 h1.mono fun e st1 ⟨he,hr⟩=>by subst he;exact h2 st1 hr
theorem EvC.join {P:Program}{ok:Ok}{x:Ctx}{c:Code}{st:St}{Q:Ex->St->Prop}(R:St->Prop) (h1:EvC P ok x c st (Ex.thenC R Q)) (h2:∀st1,R st1->Q .normal st1):EvC P ok x c st Q :=
 h1.mono fun e st1 h=>by
  cases e with
  |normal=>exact h2 st1 h
  |_=>exact h
theorem EvC.frame {P:Program}{ok:Ok}{x:Ctx}{c:Code}{tm:Tr Value}{ds:List Deferred}{H:Heap}{Q:Ex->St->Prop}(R:Tr Value->Prop) (h1:R tm) (h2:∀tm,R tm->EvC P ok x c ⟨tm,ds,H⟩ Q):EvC P ok x c ⟨tm,ds,H⟩ Q:=h2 tm h1
theorem LK.mono {P:Program}{ok:Ok}{x:Ctx}{d:Option Tmp}{tm:Tr Value}{ds:List Deferred}{H:Heap}{K L:Tr Value->List Deferred->Heap->Prop}{r:Option Dr}(h:LK P ok x d tm ds H K r) (k:∀tm ds H,K tm ds H->L tm ds H):LK P ok x d tm ds H L r:=by
 unfold LK at h ⊢;split at h
 ·exact k _ _ _ h
 ·exact h.mono fun v H' hk=>k _ _ _ hk
 ·exact Upon.mono h fun _ hk=>k _ _ _ hk
 ·exact⟨h.1,k _ _ _ h.2⟩
 ·exact h
theorem EL.mono {P:Program}{ok:Ok}{x:Ctx}{ops:Array Oper}{K L:Tr Value->List Deferred->Heap->Prop}(k:∀tm ds H,K tm ds H->L tm ds H):∀(os:List Oper) (tm:Tr Value) (ds:List Deferred) (H:Heap),EL P ok x ops os tm ds H K->EL P ok x ops os tm ds H L
 |[],tm,ds,H,h=>k _ _ _ h
 |o :: os,tm,ds,H,h=>by
  unfold EL at h ⊢;split at h
  ·exact h.mono fun tm ds H h=>EL.mono k os tm ds H h
  ·unfold GK at h ⊢;split at h
   ·split at h
    ·rename_i hb;simp only[hb,if_true];exact h.mono fun tm ds H h=>EL.mono k os tm ds H h
    ·rename_i hb;simp only[hb,if_false];exact EL.mono k os _ _ _ h
   ·exact EL.mono k os _ _ _ h
   ·exact h
theorem EL.append {P:Program}{ok:Ok}{x:Ctx}{ops:Array Oper}{K:Tr Value->List Deferred->Heap->Prop}{b:List Oper}:∀(a:List Oper) (tm:Tr Value) (ds:List Deferred) (H:Heap),EL P ok x ops a tm ds H (fun tm ds H=>EL P ok x ops b tm ds H K)->EL P ok x ops (a++b) tm ds H K
 |[],tm,ds,H,h=>h
 |o :: os,tm,ds,H,h=>by
  rw[List.cons_append];unfold EL at h ⊢;split at h
  ·exact h.mono fun tm ds H h=>EL.append os tm ds H h
  ·unfold GK at h ⊢;split at h
   ·split at h
    ·rename_i hb;simp only[hb,if_true];exact h.mono fun tm ds H h=>EL.append os tm ds H h
    ·rename_i hb;simp only[hb,if_false];exact EL.append os _ _ _ h
   ·exact EL.append os _ _ _ h
   ·exact h
theorem EL.join {P:Program}{ok:Ok}{x:Ctx}{ops:Array Oper}{K:Tr Value->List Deferred->Heap->Prop}{os:List Oper}{tm:Tr Value}{ds:List Deferred}{H:Heap}(n:Nat) (R:Tr Value->Prop)
  (h1:EL P ok x ops (os.take n) tm ds H fun tm' ds' H'=>ds'=ds/\H'=H/\R tm') (h2:∀tm',R tm'->EL P ok x ops (os.drop n) tm' ds H K):EL P ok x ops os tm ds H K:=by
 rw[<-List.take_append_drop n os];refine EL.append _ _ _ _ (h1.mono ?_ _ _ _ _);rintro tm' ds' H' ⟨rfl,rfl,hr⟩;exact h2 tm' hr
theorem zpx (tm:Tr Value) (t:Tmp):ev tm (.tmp t)=(tm.get t).getD junk:=_root_.id rfl
theorem zfy (tm:Tr Value) (v:Value):ev tm (.const v)=v:=_root_.id rfl
theorem zcu (tm:Tr Value) (g:Nat):ev tm (.global g)=.pointer (some ⟨g,0,none⟩):=_root_.id rfl
theorem zki (tm:Tr Value) (f:FuncId):ev tm (.func f)=.func (.func f) #[] #[]:=_root_.id rfl
theorem z2c (tm:Tr Value) (d:Tmp) (v:Value):putD tm (some d) v=tm.put d (some v):=_root_.id rfl
theorem zfz (tm:Tr Value) (v:Value):putD tm none v=tm:=_root_.id rfl
theorem zpy {P:Program}{ok:Ok}{x:Ctx}{ops:Array Oper}{tm:Tr Value}{ds:List Deferred}{H:Heap}{K:Tr Value->List Deferred->Heap->Prop}:EL P ok x ops [] tm ds H K=K tm ds H:=_root_.id rfl
def LX (P:Program) (ok:Ok) (x:Ctx) (ops:Array Oper) (d:Option Tmp) (os:List Oper) (tm:Tr Value) (ds:List Deferred) (H:Heap) (K:Tr Value->List Deferred->Heap->Prop) (r:Option Dr):Prop :=
 LK P ok x d tm ds H (fun tm ds H=>EL P ok x ops os tm ds H K) r
def LG (P:Program) (ok:Ok) (x:Ctx) (ops:Array Oper) (o:Oper) (os:List Oper) (tm:Tr Value) (ds:List Deferred) (H:Heap) (K:Tr Value->List Deferred->Heap->Prop) (w:Bool) (g:Option Value):Prop :=
 GK o.dst tm (LX P ok x ops o.dst os tm ds H K (dop P o (ev tm) H)) (EL P ok x ops os (putD tm o.dst undef) ds H K) w g
section
variable {P:Program}{ok:Ok}{x:Ctx}{ops:Array Oper}{os:List Oper}{tm:Tr Value}{ds:List Deferred}{H H':Heap}{K:Tr Value->List Deferred->Heap->Prop}{d:Option Tmp}{op:Op}{ty:TypeId}{pos:String}{af:Array Edge}{j:Nat}{w:Bool}
theorem zkj:EL P ok x ops (⟨d,op,ty,pos,af,none⟩ :: os) tm ds H K=LX P ok x ops d os tm ds H K (dop P ⟨d,op,ty,pos,af,none⟩ (ev tm) H):=_root_.id rfl
theorem zg0:EL P ok x ops (⟨d,op,ty,pos,af,some (j,w)⟩ :: os) tm ds H K=LG P ok x ops ⟨d,op,ty,pos,af,some (j,w)⟩ os tm ds H K w (guardOf ops tm j):=_root_.id rfl
theorem zpz {v:Value}:LX P ok x ops d os tm ds H K (some (.val v H'))=EL P ok x ops os (putD tm d v) ds H' K:=_root_.id rfl
theorem zkk {f:FuncId}{args:List Value}:LX P ok x ops d os tm ds H K (some (.call f args))=EvF P ok f args H fun v H'=>EL P ok x ops os (putD tm d v) ds H' K:=_root_.id rfl
theorem zg1 {l:Nat}{args:List Value}:LX P ok x ops d os tm ds H K (some (.yield l args))=EvR P ok l args H fun v H'=>EL P ok x ops os (putD tm d v) ds H' K:=_root_.id rfl
theorem zts {g:Option (Nat × Bool)}:LG P ok x ops ⟨d,op,ty,pos,af,g⟩ os tm ds H K true (some (.bool true))=LX P ok x ops d os tm ds H K (dop P ⟨d,op,ty,pos,af,g⟩ (ev tm) H):=_root_.id rfl
theorem ztt {g:Option (Nat × Bool)}:LG P ok x ops ⟨d,op,ty,pos,af,g⟩ os tm ds H K false (some (.bool false))=LX P ok x ops d os tm ds H K (dop P ⟨d,op,ty,pos,af,g⟩ (ev tm) H):=_root_.id rfl
theorem ztu {g:Option (Nat × Bool)}:LG P ok x ops ⟨d,op,ty,pos,af,g⟩ os tm ds H K true (some (.bool false))=EL P ok x ops os (putD tm d undef) ds H K:=_root_.id rfl
theorem ztv {g:Option (Nat × Bool)}:LG P ok x ops ⟨d,op,ty,pos,af,g⟩ os tm ds H K false (some (.bool true))=EL P ok x ops os (putD tm d undef) ds H K:=_root_.id rfl
theorem zg2 {g:Option (Nat × Bool)}:LG P ok x ops ⟨d,op,ty,pos,af,g⟩ os tm ds H K w (some undef)=EL P ok x ops os (putD tm d undef) ds H K:=_root_.id rfl
end
section
variable (P:Program)
def dPick (c a b:Value) (H:Heap):Option Dr:=match c with|.bool true=>some (.val a H)|.bool false=>some (.val b H)|_=>none
def dBin (op:BinOp) (t:TypeId) (x y:Operand) (a b:Value) (H:Heap):Option Dr :=
 match dnil P op t a b with
 |some v=>some (.val v H)
 |none=>match (flat a && (flat b && true)),pureRun P (do let r <-(do eqGuard op t x y a b;binOp op t a b);pure (Next.value r)) with
  |true,some (.value v)=>match flat v with
   |true=>some (.val v H)
   |false=>none
  |_,_=>none
def dLoad (t:TypeId) (a:Value) (H:Heap):Option Dr:=match a with|.pointer (some ad)=>(dload P t ad H).map (.val · H)|_=>none
def dStore (t:TypeId) (a v:Value) (H:Heap):Option Dr :=
 match a with
 |.pointer (some ad)=>if Zs v.cells.size (P.cellsOf t) && (P.info? t).isSome then (H.store ad v.cells.toList).map (.val undef ·) else none
 |_=>none
def fldOf (t:TypeId) (f:Nat):Option (Nat × TypeId):=match P.underlying t with|some (.struct fs)=>(fs.toList[f]?).map fun fd=>(fd.offset,fd.type)|_=>none
def dField (t:TypeId) (x:Value) (f:Nat) (H:Heap):Option Dr :=
 match P.underlying t,x with
 |some (.struct fs),.agg cs=>match fs.toList[f]? with
  |some fd=>(dpart P fd.type cs fd.offset).map (.val · H)
  |none=>none
 |_,_=>none
def dFieldAddr (t:TypeId) (x:Value) (f:Nat) (H:Heap):Option Dr :=
 match P.underlying t,x with
 |some (.struct fs),.pointer (some a)=>match fs.toList[f]? with
  |some fd=>if a.spot.isNone && !(Zs (P.cellsOf fd.type) 0) then some (.val (.pointer (some ⟨a.block,a.off+fd.offset,none⟩)) H) else none
  |none=>none
 |_,_=>none
def dIndexAddr (t:TypeId) (x ix:Value) (H:Heap):Option Dr :=
 match P.underlying t,x with
 |some (.slice e),.slice (some a) n _=>match intBetween ix (n - 1),Zs n 0,a.spot,(P.info? e).isSome with
  |some i,false,none,true=>some (.val (.pointer (some ⟨a.block,a.off+i*P.cellsOf e,none⟩)) H)
  |_,_,_,_=>none
 |some (.array n e),.pointer (some a)=>match intBetween ix (n - 1),Zs n 0,a.spot,(P.info? e).isSome with
  |some i,false,none,true=>some (.val (.pointer (some ⟨a.block,a.off+i*P.cellsOf e,none⟩)) H)
  |_,_,_,_=>none
 |_,_=>none
def dLen (ts:Option TypeId) (x:Value) (H:Heap):Option Dr :=
 match x with
 |.slice _ n _=>match ts.bind P.underlying with
  |some (.slice _)=>some (.val (goInt n) H)
  |_=>none
 |.map (some r)=>match ts.bind P.underlying,H.get r with
  |some (.map _ _),some (.map es _)=>some (.val (goInt es.length) H)
  |_,_=>none
 |_=>none
def callable (f:FuncId):Bool:=match P.funcs[f]? with|some fn=>fn.body.isSome && !(fn.name == "runtime.NumGoroutine")|none=>false
end
section
variable {P:Program}{d:Option Tmp}{ty:TypeId}{pos:String}{af:Array Edge}{g:Option (Nat × Bool)}{ρ:Operand->Value}{H:Heap}
theorem zg3 {a:Operand}:dop P ⟨d,.move a,ty,pos,af,g⟩ ρ H=some (.val (ρ a) H):=_root_.id rfl
theorem z51 {a:Operand}:dop P ⟨d,.assign a,ty,pos,af,g⟩ ρ H=some (.val (ρ a) H):=_root_.id rfl
theorem zg4 {c a b:Operand}:dop P ⟨d,.pick c a b,ty,pos,af,g⟩ ρ H=dPick (ρ c) (ρ a) (ρ b) H:=_root_.id rfl
theorem za9 {b:Bool}{v w:Value}:dPick (.bool b) v w H=some (.val (if b=true then v else w) H):=by cases b<;>rfl
theorem zg5 {t:TypeId}{a:Operand}:dop P ⟨d,.load t a,ty,pos,af,g⟩ ρ H=dLoad P t (ρ a) H:=_root_.id rfl
theorem zcv {t:TypeId}{a v:Operand}:dop P ⟨d,.store t a v,ty,pos,af,g⟩ ρ H=dStore P t (ρ a) (ρ v) H:=_root_.id rfl
theorem zcw {t:TypeId}{a:Operand}{f:Nat}:dop P ⟨d,.field t a f,ty,pos,af,g⟩ ρ H=dField P t (ρ a) f H:=_root_.id rfl
theorem z6f {t:TypeId}{a:Operand}{f:Nat}:dop P ⟨d,.fieldAddr t a f,ty,pos,af,g⟩ ρ H=dFieldAddr P t (ρ a) f H:=_root_.id rfl
theorem z6g {t:TypeId}{a i:Operand}:dop P ⟨d,.indexAddr t a i,ty,pos,af,g⟩ ρ H=dIndexAddr P t (ρ a) (ρ i) H:=_root_.id rfl
theorem zkl {op:BinOp}{t u:TypeId}{a b:Operand}:dop P ⟨d,.binOp op t a b u,ty,pos,af,g⟩ ρ H=dBin P op t a b (ρ a) (ρ b) H:=_root_.id rfl
theorem z08 {f:FuncId}{args:Array Operand}{ats:Array TypeId}{tm:Tr Value}(h:callable P f=true) :
  dop P ⟨d,.call ⟨.value (.func f),args,ats⟩,ty,pos,af,g⟩ (ev tm) H=some (.call f (args.toList.map (ev tm))):=by
 unfold callable at h;simp only[dop,ev];cases hf:P.funcs[f]? with
 |none=>rw[hf] at h;cases h
 |some fn =>
  rw[hf] at h;simp only at h;simp [dcall1,hf,h]
theorem zg6 {t:TypeId}{x y:Operand}{k:IntKind}{a b:Int}:dBin P .add t x y (.int k a) (.int k b) H=some (.val (.int k (k.wrap (a+b))) H):=by
 simp [dBin,dnil,flat,eqGuard,binOp,Op.intArith,Sem.bind];rfl
theorem zg7 {t:TypeId}{x y:Operand}{k:IntKind}{a b:Int}:dBin P .lss t x y (.int k a) (.int k b) H=some (.val (.bool (decide (a < b))) H):=by
 simp [dBin,dnil,flat,eqGuard,binOp,Op.intCmp,Sem.bind];rfl
def cutC (cs:List Value) (o n:Nat):Option (List Value):=let l:=(cs.drop o).take n;if Zs l.length n then some l else none
def dloadA (n:Nat) (l:Option (List Value)) (H:Heap):Option Dr:=(l.map fun l=>Value.agg ⟨l⟩).map (.val · H)
def dload1 (l:Option (List Value)) (H:Heap):Option Dr:=match l with|some [v]=>some (.val v H)|_=>none
theorem z21 {t:TypeId}{ad:Addr}(h:isAgg? P t=some true):dLoad P t (.pointer (some ad)) H=dloadA (P.cellsOf t) (H.load ad (P.cellsOf t)) H:=by
 simp only[dLoad,dload,h,dloadA]
theorem z09 {t:TypeId}{ad:Addr}(h:isAgg? P t=some false):dLoad P t (.pointer (some ad)) H=dload1 (H.load ad 1) H:=by
 simp only[dLoad,dload,h,dload1];split
 ·rename_i v hv;rw[hv];rfl
 ·rename_i hv;split
  ·rename_i v hv2;exact absurd hv2 (hv v)
  ·rfl
theorem z8i {n:Nat}{l:List Value}:dloadA n (some l) H=some (.val (.agg ⟨l⟩) H):=_root_.id rfl
theorem z8j {v:Value}:dload1 (some [v]) H=some (.val v H):=_root_.id rfl
theorem zbh {b o n:Nat}{B:Option Blk}:(H.new B).load ⟨b,o,none⟩ n=if b=H.next then (match B with|some (.ro cs _)|some (.row cs _)=>cutC cs o n|_=>none) else H.load ⟨b,o,none⟩ n:=by
 unfold Heap.load Heap.cells;rw[Heap.get_new];by_cases h:b=H.next
 ·rw[if_pos h,if_pos h];cases B with
  |none=>rfl
  |some B=>cases B<;>rfl
 ·rw[if_neg h,if_neg h]
theorem zg8 {b o n i:Nat}{B:Option Blk}:(H.put i B).load ⟨b,o,none⟩ n=if b=i then (match B with|some (.ro cs _)|some (.row cs _)=>cutC cs o n|_=>none) else H.load ⟨b,o,none⟩ n:=by
 unfold Heap.load Heap.cells;rw[Heap.get_put];by_cases h:b=i
 ·rw[if_pos h,if_pos h];cases B with
  |none=>rfl
  |some B=>cases B<;>rfl
 ·rw[if_neg h,if_neg h]
theorem zg9 {B:Option Blk}:(H.new B).next=H.next+1:=_root_.id rfl
theorem z07 {i:Nat}{B:Option Blk}:(H.put i B).next=H.next:=_root_.id rfl
theorem get_new {B:Option Blk}{j:Nat}:(H.new B).get j=if j=H.next then B else H.get j:=Heap.get_new _ _ _
theorem get_put {B:Option Blk}{i j:Nat}:(H.put i B).get j=if j=i then B else H.get j:=Heap.get_put _ _ _ _
def dStoreB (ad:Addr) (vs:List Value) (H:Heap):Option Blk->Option Dr
 |some (.row cs e)=>if ad.off+vs.length<=cs.length/\vs.all one=true then some (.val undef (H.put ad.block (some (.row (splice cs ad.off vs) e)))) else none
 |_=>none
theorem ziv {t:TypeId}{b o:Nat}{v:Value}(h:(P.info? t).isSome=true) (hc:v.cells.size=P.cellsOf t):dStore P t (.pointer (some ⟨b,o,none⟩)) v H=dStoreB ⟨b,o,none⟩ v.cells.toList H (H.get b):=by
 simp only[dStore,h,hc,Nat.beq_refl,Bool.and_self,if_true];unfold Heap.store dStoreB;simp only;cases H.get b with
 |none=>rfl
 |some B =>
  cases B with
  |row cs e =>
   simp only;split<;>rfl
  |_=>rfl
def dStoreIf (c:Bool) (ad:Addr) (vs:List Value) (H:Heap) (B:Option Blk):Option Dr:=if c=true then dStoreB ad vs H B else none
theorem z43 {ad:Addr}{vs:List Value}{B:Option Blk}:dStoreIf true ad vs H B=dStoreB ad vs H B:=_root_.id rfl
theorem zaa {t:TypeId}{b o:Nat}{v:Value}(h:(P.info? t).isSome=true):dStore P t (.pointer (some ⟨b,o,none⟩)) v H=dStoreIf (Zs v.cells.size (P.cellsOf t)) ⟨b,o,none⟩ v.cells.toList H (H.get b):=by
 cases hc:Zs v.cells.size (P.cellsOf t) with
 |true=>rw[z43];exact ziv h (Nat.beq_eq.mp hc)
 |false=>simp only[dStore,hc,Bool.false_and];rfl
theorem z73 {t:TypeId}{b o:Nat}{cs:List Value}(h:(P.info? t).isSome=true):dStore P t (.pointer (some ⟨b,o,none⟩)) (.agg ⟨cs⟩) H=dStoreIf (Zs cs.length (P.cellsOf t)) ⟨b,o,none⟩ cs H (H.get b):=zaa h
theorem z33 {t:TypeId}{b o:Nat}{v:Value}(h:(P.info? t).isSome=true) (h1:P.cellsOf t=1) (hv:v.cells=#[v]):dStore P t (.pointer (some ⟨b,o,none⟩)) v H=dStoreB ⟨b,o,none⟩ [v] H (H.get b):=by
 rw[zaa h,hv,h1];rfl
theorem z3u {t:TypeId}{b o:Nat}{k:IntKind}{n:Int}(h:(P.info? t).isSome=true) (h1:P.cellsOf t=1):dStore P t (.pointer (some ⟨b,o,none⟩)) (.int k n) H=dStoreB ⟨b,o,none⟩ [.int k n] H (H.get b):=z33 h h1 rfl
theorem z44 {t:TypeId}{b o:Nat}{s:ByteArray}(h:(P.info? t).isSome=true) (h1:P.cellsOf t=1):dStore P t (.pointer (some ⟨b,o,none⟩)) (.string s) H=dStoreB ⟨b,o,none⟩ [.string s] H (H.get b):=z33 h h1 rfl
theorem z1i {t:TypeId}{b o n c:Nat}{a:Option Addr}(h:(P.info? t).isSome=true) (h1:P.cellsOf t=1):dStore P t (.pointer (some ⟨b,o,none⟩)) (.slice a n c) H=dStoreB ⟨b,o,none⟩ [.slice a n c] H (H.get b):=z33 h h1 rfl
theorem z8k {b o:Nat}{vs cs:List Value}{e:TypeId}:dStoreB ⟨b,o,none⟩ vs H (some (.row cs e))=if o+vs.length<=cs.length/\vs.all one=true then some (.val undef (H.put b (some (.row (splice cs o vs) e)))) else none:=_root_.id rfl
theorem z45 {cs vs:List Value}:splice cs 0 vs=vs++cs.drop vs.length:=by cases cs<;>rfl
theorem z8l {c:Value}{cs vs:List Value}{n:Nat}:splice (c :: cs) (n+1) vs=c :: splice cs n vs:=_root_.id rfl
def dBox (e:TypeId) (v:Value) (H:Heap):Option Dr:=if v.cells.toList.all one then some (.val (.pointer (some ⟨H.next,0,none⟩)) (H.new (some (.row v.cells.toList e)))) else none
theorem zkm {e:TypeId}{a:Operand}:dop P ⟨d,.box e a,ty,pos,af,g⟩ ρ H=dBox e (ρ a) H:=_root_.id rfl
def zerosOf (P:Program) (e:TypeId):Option (List Value):=match pureRun P (zeroValue e) with|some z=>if flat z && z.cells.toList.all one then some z.cells.toList else none|none=>none
def dAlloc (e:TypeId) (H:Heap):Option (List Value)->Option Dr
 |some cs=>some (.val (.pointer (some ⟨H.next,0,none⟩)) (H.new (some (.row cs e))))
 |none=>none
theorem zcx {e:TypeId}:dop P ⟨d,.alloc e,ty,pos,af,g⟩ ρ H=dAlloc e H (zerosOf P e):=by
 simp only[dop,zerosOf];cases pureRun P (zeroValue e) with
 |none=>rfl
 |some z =>
  simp only;split<;>rfl
theorem z05 {t:TypeId}{f b o off:Nat}{u:TypeId}(h:fldOf P t f=some (off,u)) (hn:Zs (P.cellsOf u) 0=false):dFieldAddr P t (.pointer (some ⟨b,o,none⟩)) f H=some (.val (.pointer (some ⟨b,o+off,none⟩)) H):=by
 unfold fldOf at h;unfold dFieldAddr;split at h
 ·rename_i fs hu;rw[hu];simp only;cases hf:fs.toList[f]? with
  |none=>rw[hf] at h;cases h
  |some fd =>
   rw[hf] at h;simp only[ZE,Option.some.injEq,Prod.mk.injEq] at h;obtain⟨rfl,rfl⟩:=h;simp [hn]
 ·cases h
theorem z2u {t e:TypeId}{b o n c:Nat}{k:IntKind}{i:Nat}(hu:P.underlying t=some (.slice e)) (hi:(P.info? e).isSome=true) (h:i < n) :
  dIndexAddr P t (.slice (some ⟨b,o,none⟩) n c) (.int k (i:Int)) H=some (.val (.pointer (some ⟨b,o+i*P.cellsOf e,none⟩)) H):=by
 have h1:intBetween (.int k (i:Int)) (n - 1)=some i:=by
  unfold intBetween;simp only;rw[if_pos ⟨by omega,by omega⟩];simp
 have h2:Zs n 0=false:=by rw[<-ZL,Zt];omega
 simp only[dIndexAddr,hu,h1,h2,hi]
theorem z2q {α:Type}(a:α):pureRun P (pure a:Sem α)=some a:=rfl
theorem z0s {t:TypeId}{d:TypeDesc}(h:P.underlying t=some d):pureRun P (underlying t)=some d:=by
 unfold underlying;rw[z0b];show (pureRun P (match P.underlying t with|some d=>pure d|none=>stuck "no such type"))=_;rw[h];rfl
def dOut (fl:Bool) (r:Option Next) (H:Heap):Option Dr :=
 match fl,r with
 |true,some (.value v)=>match flat v with
  |true=>some (.val v H)
  |false=>none
 |_,_=>none
theorem z6h {o:Oper}:dflat P o ρ H=dOut (allFlat ρ o) (pureRun P (execOp ρ o)) H:=rfl
def dLn (P:Program) (t ty:TypeId) (v:Value) (H:Heap):Option Dr :=
 match v with
 |.slice _ n _=>match P.underlying t with
  |some (.slice _)=>some (.val (goInt n) H)
  |_=>none
 |.map (some r)=>match P.underlying t,H.get r with
  |some (.map _ _),some (.map es _)=>some (.val (goInt es.length) H)
  |_,_=>none
 |v=>dOut (flat v && true) (pureRun P (do let r <-Builtin.len_ #[t] ty #[v];pure (Next.value r))) H
theorem zkn {x:Operand}{t:TypeId}:dop P ⟨d,.call ⟨.builtin .len,#[x],#[t]⟩,ty,pos,af,g⟩ ρ H=dLn P t ty (ρ x) H:=by
 have e:dflat P ⟨d,.call ⟨.builtin .len,#[x],#[t]⟩,ty,pos,af,g⟩ ρ H=dOut (flat (ρ x) && true) (pureRun P (do let r <-Builtin.len_ #[t] ty #[ρ x];pure (Next.value r))) H:=by
  rw[z6h,BigFrame.execOp_builtin,BigFrame.builtin_len];simp [allFlat,Op.operands,Call.operands]
 simp only[dop,e];unfold dLn;cases h:ρ x with
 |slice a n c=>rfl
 |map r=>cases r<;>rfl
 |_=>rfl
theorem z19 {t ty e:TypeId}{a:Option Addr}{n c:Nat}(hu:P.underlying t=some (.slice e)):dLn P t ty (.slice a n c) H=some (.val (.int .i64 n) H):=by
 simp only[dLn,hu,goInt]
theorem z74 {t ty:TypeId}{s:ByteArray}(hu:P.underlying t=some .string):dLn P t ty (.string s) H=some (.val (.int .i64 s.size) H):=by
 simp only[dLn,z0b,Builtin.len_];simp [z0b,z0s hu,z2q,dOut,flat,goInt]
theorem zga {t:TypeId}{x y:Operand}{k:IntKind}{a b:Int}:dBin P .gtr t x y (.int k a) (.int k b) H=some (.val (.bool (decide (a > b))) H):=by
 simp [dBin,dnil,flat,eqGuard,binOp,Op.intCmp,Sem.bind];rfl
theorem zgb {t:TypeId}{x y:Operand}{k:IntKind}{a b:Int}:dBin P .sub t x y (.int k a) (.int k b) H=some (.val (.int k (k.wrap (a - b))) H):=by
 simp [dBin,dnil,flat,eqGuard,binOp,Op.intArith,Sem.bind];rfl
theorem zgc {t:TypeId}{x y:Operand}{k:IntKind}{a b:Int}:dBin P .mul t x y (.int k a) (.int k b) H=some (.val (.int k (k.wrap (a*b))) H):=by
 simp [dBin,dnil,flat,eqGuard,binOp,Op.intArith,Sem.bind];rfl
theorem zgd {t:TypeId}{x y:Operand}{k:IntKind}{a b:Int}:dBin P .leq t x y (.int k a) (.int k b) H=some (.val (.bool (decide (a<=b))) H):=by
 simp [dBin,dnil,flat,eqGuard,binOp,Op.intCmp,Sem.bind];rfl
theorem zge {t:TypeId}{x y:Operand}{k:IntKind}{a b:Int}:dBin P .geq t x y (.int k a) (.int k b) H=some (.val (.bool (decide (a >= b))) H):=by
 simp [dBin,dnil,flat,eqGuard,binOp,Op.intCmp,Sem.bind];rfl
theorem zgf {t:TypeId}{x y:Operand}{k:IntKind}{a b:Int}:dBin P .eql t x y (.int k a) (.int k b) H=some (.val (.bool (a == b)) H):=by
 simp [dBin,dnil,flat,eqGuard,binOp,Op.intCmp,Sem.bind];rfl
theorem zgg {t:TypeId}{x y:Operand}{k:IntKind}{a b:Int}:dBin P .neq t x y (.int k a) (.int k b) H=some (.val (.bool (a != b)) H):=by
 simp [dBin,dnil,flat,eqGuard,binOp,Op.intCmp,Sem.bind];rfl
theorem z0z {t:TypeId}{x y:Operand}{a b:ByteArray}:dBin P .eql t x y (.string a) (.string b) H=some (.val (.bool (a.toList == b.toList)) H):=by
 simp [dBin,dnil,flat,eqGuard,binOp,Op.stringOp,Sem.bind];rfl
theorem z10 {t:TypeId}{x y:Operand}{a b:ByteArray}:dBin P .neq t x y (.string a) (.string b) H=some (.val (.bool (!(a.toList == b.toList))) H):=by
 simp [dBin,dnil,flat,eqGuard,binOp,Op.stringOp,Sem.bind];rfl
def dUn (P:Program) (op:UnOp) (v:Value) (H:Heap):Option Dr:=dOut (flat v && true) (pureRun P (do let r <-Op.unary op v;pure (Next.value r))) H
theorem zq0 {op:UnOp}{t:TypeId}{a:Operand}:dop P ⟨d,.unOp op t a,ty,pos,af,g⟩ ρ H=dUn P op (ρ a) H:=_root_.id rfl
theorem zq1 {b:Bool}:dUn P .not (.bool b) H=some (.val (.bool (!b)) H):=_root_.id rfl
def dExt (t:Value) (i:Nat) (H:Heap):Option Dr:=match t with|.tuple vs=>(vs.toList[i]?).map (.val · H)|_=>none
theorem z8m {a:Operand}{i:Nat}:dop P ⟨d,.extract a i,ty,pos,af,g⟩ ρ H=dExt (ρ a) i H:=_root_.id rfl
theorem zq2 {a:Value}{l:List Value}:dExt (.tuple ⟨a :: l⟩) 0 H=some (.val a H):=_root_.id rfl
theorem zq3 {a b:Value}{l:List Value}:dExt (.tuple ⟨a :: b :: l⟩) 1 H=some (.val b H):=_root_.id rfl
theorem zq4 {a b c:Value}{l:List Value}:dExt (.tuple ⟨a :: b :: c :: l⟩) 2 H=some (.val c H):=_root_.id rfl
def dMin (P:Program) (ats:Array TypeId) (ty:TypeId) (v w:Value) (H:Heap):Option Dr:=dOut (flat v && (flat w && true)) (pureRun P (do let r <-Builtin.min_ ats ty #[v,w];pure (Next.value r))) H
theorem zrt {ats:Array TypeId}{a b:Operand}:dop P ⟨d,.call ⟨.builtin .min,#[a,b],ats⟩,ty,pos,af,g⟩ ρ H=dMin P ats ty (ρ a) (ρ b) H:=by
 have e:dop P ⟨d,.call ⟨.builtin .min,#[a,b],ats⟩,ty,pos,af,g⟩ ρ H=dflat P ⟨d,.call ⟨.builtin .min,#[a,b],ats⟩,ty,pos,af,g⟩ ρ H:=rfl;rw[e,z6h,BigFrame.execOp_builtin,BigFrame.builtin_min];simp [allFlat,Op.operands,Call.operands,dMin]
theorem zru {ats:Array TypeId}{k k':IntKind}{a b:Int}:dMin P ats ty (.int k a) (.int k' b) H=some (.val (.int k (if b < a then b else a)) H):=by
 unfold dMin;simp [Builtin.min_,Builtin.min2,flat,dOut];rfl
theorem z0c {n:Int}(h1:-9223372036854775808<=n) (h2:n<=9223372036854775807):IntKind.i64.wrap n=n:=by
 exact IntWalk.i64_in _ ⟨h1,h2⟩
end
end Go.Hb
end

section
namespace Go.Hb
open Go Go.RowKit
def o1 (P:Program) (o:Oper) (ρ:Operand->Value) (H:Heap):Option Dr :=
 match o.op with
 |.pick c a b=>match ρ c with
  |.bool true=>some (.val (ρ a) H)
  |.bool false=>some (.val (ρ b) H)
  |_=>none
 |_=>none
def o2 (P:Program) (o:Oper) (ρ:Operand->Value) (H:Heap):Option Dr :=
 match o.op with
 |.alloc e=>match pureRun P (zeroValue e) with
  |some z=>if flat z && z.cells.toList.all one then some (.val (.pointer (some ⟨H.next,0,none⟩)) (H.new (some (.row z.cells.toList e)))) else none
  |none=>none
 |_=>none
def o3 (P:Program) (o:Oper) (ρ:Operand->Value) (H:Heap):Option Dr :=
 match o.op with
 |.box e x=>let v:=ρ x
  if v.cells.toList.all one then some (.val (.pointer (some ⟨H.next,0,none⟩)) (H.new (some (.row v.cells.toList e)))) else none
 |_=>none
def o4 (P:Program) (o:Oper) (ρ:Operand->Value) (H:Heap):Option Dr :=
 match o.op with
 |.build t parts=>if parts.toList.all (fun p=>(ρ p.2).cells.toList.all one) && zflat P t then
   match pureRun P (Instr.build t (parts.map fun (i,x)=>(i,ρ x))) with
   |some v=>some (.val v H)
   |none=>none
  else none
 |_=>none
def o5 (P:Program) (o:Oper) (ρ:Operand->Value) (H:Heap):Option Dr :=
 match o.op with
 |.buildSlice t len parts=>match P.underlying t with
  |some (.slice e)=>match P.info? e with
   |some i=>match i.zero with
    |some z =>
     let size:=i.size
     if len<=bmost/\len*size<=bmost/\flat z=true/\z.cells.size=size/\z.cells.toList.all one=true/\parts.toList.all (fun p=>(ρ p.2).cells.toList.all one)=true then
      match Instr.fill (fun i=>some (i*size,size)) ((Array.range (len*size)).map (z.cells[· % z.cells.size]!)) (parts.toList.map fun p=>(p.1,ρ p.2)) with
      |some cells=>some (.val (.slice (some ⟨H.next,0,none⟩) len len) (H.new (some (.row cells.toList e))))
      |none=>none
     else none
    |none=>none
   |none=>none
  |_=>none
 |_=>none
def o6 (P:Program) (o:Oper) (ρ:Operand->Value) (H:Heap):Option Dr :=
 match o.op with
 |.load t a=>match ρ a with
  |.pointer (some ad)=>(dload P t ad H).map (.val · H)
  |_=>none
 |_=>none
def o7 (P:Program) (o:Oper) (ρ:Operand->Value) (H:Heap):Option Dr :=
 match o.op with
 |.store t a x=>match ρ a with
  |.pointer (some ad)=>let v:=ρ x
   if Zs v.cells.size (P.cellsOf t) && (P.info? t).isSome then (H.store ad v.cells.toList).map (.val undef ·) else none
  |_=>none
 |_=>none
def o8 (P:Program) (o:Oper) (ρ:Operand->Value) (H:Heap):Option Dr :=
 match o.op with
 |.nilCheck x=>match ρ x with
  |.pointer (some a)=>some (.val (.pointer (some a)) H)
  |.func (.func f) a b=>some (.val (.func (.func f) a b) H)
  |_=>none
 |_=>none
def o9 (P:Program) (o:Oper) (ρ:Operand->Value) (H:Heap):Option Dr :=
 match o.op with
 |.binOp op t x y _=>match dnil P op t (ρ x) (ρ y) with
  |some v=>some (.val v H)
  |none=>dflat P o ρ H
 |_=>none
def o11 (P:Program) (o:Oper) (ρ:Operand->Value) (H:Heap):Option Dr :=
 match o.op with
 |.convert src dst x=>match P.underlying src,P.underlying dst,ρ x with
  |some (.slice e),some .string,.slice a n c=>match P.underlying e with
   |some (.int .u8)=>(dbytes (.slice a n c) H).map (.val · H)
   |_=>none
  |_,some (.slice _),_=>none
  |_,_,_=>dflat P o ρ H
 |_=>none
def o12 (P:Program) (o:Oper) (ρ:Operand->Value) (H:Heap):Option Dr :=
 match o.op with
 |.makeInterface t x=>match P.underlying t with
  |some (.interface _)=>none
  |some _=>some (.val (.iface t (ρ x)) H)
  |none=>none
 |_=>none
def o13 (P:Program) (o:Oper) (ρ:Operand->Value) (H:Heap):Option Dr :=
 match o.op with
 |.makeFunc fn first captured=>match fn with
  |.func f=>some (.val (.func (.func f) (first.map ρ) (captured.map ρ)) H)
  |_=>none
 |_=>none
def o14 (P:Program) (o:Oper) (ρ:Operand->Value) (H:Heap):Option Dr :=
 match o.op with
 |.makeMap _ none=>some (.val (.map (some H.next)) (H.new (some (.map [] 0))))
 |_=>none
def o15 (P:Program) (o:Oper) (ρ:Operand->Value) (H:Heap):Option Dr :=
 match o.op with
 |.makeSlice t l c=>match P.underlying t with
  |some (.slice e)=>match P.info? e,intBetween (ρ c) most with
   |some i,some cap=>match i.zero,intBetween (ρ l) cap with
    |some z,some len =>
     let size:=i.size
     if flat z=true/\z.cells.size=size/\i.bytes<=4096/\z.cells.toList.all one=true then
      some (.val (.slice (some ⟨H.next,0,none⟩) len cap) (H.new (some (.row ((Zh (cap*size)).map (z.cells[· % z.cells.size]!)) e))))
     else none
    |_,_=>none
   |_,_=>none
  |_=>none
 |_=>none
def o16 (P:Program) (o:Oper) (ρ:Operand->Value) (H:Heap):Option Dr :=
 match o.op with
 |.slice t x lo hi mx=>match ρ x with
  |.string _=>dflat P o ρ H
  |v=>dslice P t v (lo.map ρ) (hi.map ρ) (mx.map ρ) H
 |_=>none
def o17 (P:Program) (o:Oper) (ρ:Operand->Value) (H:Heap):Option Dr :=
 match o.op with
 |.fieldAddr s x f=>match P.underlying s,ρ x with
  |some (.struct fs),.pointer (some a)=>match fs.toList[f]? with
   |some fd=>if a.spot.isNone && !(Zs (P.cellsOf fd.type) 0) then some (.val (.pointer (some ⟨a.block,a.off+fd.offset,none⟩)) H) else none
   |none=>none
  |_,_=>none
 |_=>none
def o18 (P:Program) (o:Oper) (ρ:Operand->Value) (H:Heap):Option Dr :=
 match o.op with
 |.field t x f=>match P.underlying t,ρ x with
  |some (.struct fs),.agg cs=>match fs.toList[f]? with
   |some fd=>(dpart P fd.type cs fd.offset).map (.val · H)
   |none=>none
  |_,_=>none
 |_=>none
def o19 (P:Program) (o:Oper) (ρ:Operand->Value) (H:Heap):Option Dr :=
 match o.op with
 |.indexAddr t x ix=>match P.underlying t,ρ x with
  |some (.slice e),.slice (some a) n _=>match intBetween (ρ ix) (n - 1),Zs n 0,a.spot,(P.info? e).isSome with
   |some i,false,none,true=>some (.val (.pointer (some ⟨a.block,a.off+i*P.cellsOf e,none⟩)) H)
   |_,_,_,_=>none
  |some (.array n e),.pointer (some a)=>match intBetween (ρ ix) (n - 1),Zs n 0,a.spot,(P.info? e).isSome with
   |some i,false,none,true=>some (.val (.pointer (some ⟨a.block,a.off+i*P.cellsOf e,none⟩)) H)
   |_,_,_,_=>none
  |_,_=>none
 |_=>none
def o20 (P:Program) (o:Oper) (ρ:Operand->Value) (H:Heap):Option Dr :=
 match o.op with
 |.index t x ix=>match P.underlying t,ρ x with
  |some (.array n e),.agg cs=>match intBetween (ρ ix) (n - 1),Zs n 0 with
   |some i,false=>(dpart P e cs (i*P.cellsOf e)).map (.val · H)
   |_,_=>none
  |_,_=>dflat P o ρ H
 |_=>none
def o24 (P:Program) (o:Oper) (ρ:Operand->Value) (H:Heap):Option Dr :=
 match o.op with
 |.typeAssert x xt at_ ok=>match ρ x with
  |.iface t v=>(dassert P t v at_ ok).map (.val · H)
  |_=>dflat P o ρ H
 |_=>none
def o25 (P:Program) (o:Oper) (ρ:Operand->Value) (H:Heap):Option Dr :=
 match o.op with
 |.extract t ix=>match ρ t with
  |.tuple vs=>(vs.toList[ix]?).map (.val · H)
  |_=>none
 |_=>none
def o26 (P:Program) (o:Oper) (ρ:Operand->Value) (H:Heap):Option Dr :=
 match o.op with
 |.range t x=>match P.underlying t,ρ x with
  |some .string,.string s=>some (.val (.pointer (some ⟨H.next,0,none⟩)) (H.new (some (.siter s 0))))
  |some (.map _ _),.map (some m)=>match H.get m with
   |some (.map _ clock)=>some (.val (.pointer (some ⟨H.next,0,none⟩)) (H.new (some (.mit m clock))))
   |_=>none
  |_,_=>none
 |_=>none
def o27 (P:Program) (o:Oper) (ρ:Operand->Value) (H:Heap):Option Dr :=
 match o.op with
 |.next it true=>match ρ it with
  |.pointer (some ⟨r,0,none⟩)=>match H.get r with
   |some (.siter s pos) =>
    if pos < s.size then
     let (c,width):=Utf8.decode s pos
     some (.val (.tuple #[.bool true,goInt pos,.int .i32 c]) (H.put r (some (.siter s (pos+width)))))
    else some (.val (.tuple #[.bool false]) H)
   |_=>none
  |_=>none
 |_=>none
def o28 (P:Program) (o:Oper) (ρ:Operand->Value) (H:Heap):Option Dr :=
 match o.op with
 |.call c=>match c.callee with
  |.builtin b=>match b,c.args.toList with
   |.len,[x]=>match ρ x with
    |.slice _ n _=>match (c.argTypes[0]?).bind P.underlying with
     |some (.slice _)=>some (.val (goInt n) H)
     |_=>none
    |.map (some r)=>match (c.argTypes[0]?).bind P.underlying,H.get r with
     |some (.map _ _),some (.map es _)=>some (.val (goInt es.length) H)
     |_,_=>none
    |_=>dflat P o ρ H
   |.append,[s,x]=>match c.argTypes.toList with
    |[t,xt]=>match dzeros P t xt (ρ s) (ρ x) H with
     |some r=>some r
     |none=>dappend P c.argTypes (ρ s) (ρ x) H
    |_=>none
   |.cap,_=>dflat P o ρ H
   |.copy,[d,x]=>dcopy P c.argTypes (ρ d) (ρ x) H
   |.clear,[x]=>dclear P c.argTypes (ρ x) H
   |.delete,[m,k]=>match c.argTypes[0]? with
    |some t=>ddelete P t (ρ m) (ρ k) H
    |none=>none
   |.recover,[]=>some .recov
   |.min,_|.max,_=>dflat P o ρ H
   |_,_=>none
  |.value f=>match ρ f with
   |.func (.func f) first captured =>
    match dcall1 P f (first.toList++c.args.toList.map ρ++captured.toList) with
    |some r=>some r
    |none=>dflat P o ρ H
   |.func (.yield l) first _=>some (.yield l (first.toList++c.args.toList.map ρ))
   |_=>none
  |_=>none
 |_=>none
def o29 (P:Program) (o:Oper) (ρ:Operand->Value) (H:Heap):Option Dr :=
 match o.op with
 |.defer c=>match c.callee with
  |.value f=>match ρ f with
   |.func (.func f) first captured=>some (.dfr { target:=.fn (.func f) captured,args:=first++c.args.map ρ })
   |_=>none
  |_=>none
 |_=>none
def o30 (P:Program) (o:Oper) (ρ:Operand->Value) (H:Heap):Option Dr :=
 match o.op with
 |.panic x=>match ρ x with
  |.iface t v=>some (.panic (.iface t v))
  |_=>none
 |_=>none
def fInt (op:BinOp) (k:IntKind) (a b:Int):Option Value :=
 match op with
 |.add=>some (.int k (k.wrap (a+b)))
 |.sub=>some (.int k (k.wrap (a - b)))
 |.mul=>some (.int k (k.wrap (a*b)))
 |.eql=>some (.bool (a == b))
 |.neq=>some (.bool (a != b))
 |.lss=>some (.bool (decide (a < b)))
 |.leq=>some (.bool (decide (a<=b)))
 |.gtr=>some (.bool (decide (a > b)))
 |.geq=>some (.bool (decide (a >= b)))
 |_=>none
def fop0 (P:Program) (o:Oper) (ρ:Operand->Value) (H:Heap):Option Dr :=
 match o.op with
 |.move x|.assign x=>some (.val (ρ x) H)
 |.pick c a b=>o1 P o ρ H
 |.alloc e=>o2 P o ρ H
 |.box e x=>o3 P o ρ H
 |.build t parts=>o4 P o ρ H
 |.buildSlice t len parts=>o5 P o ρ H
 |.load t a=>o6 P o ρ H
 |.store t a x=>o7 P o ρ H
 |.nilCheck x=>o8 P o ρ H
 |.binOp op t x y _=>o9 P o ρ H
 |.unOp ..=>dflat P o ρ H
 |.convert src dst x=>o11 P o ρ H
 |.makeInterface t x=>o12 P o ρ H
 |.makeFunc fn first captured=>o13 P o ρ H
 |.makeMap _ none=>o14 P o ρ H
 |.makeSlice t l c=>o15 P o ρ H
 |.slice t x lo hi mx=>o16 P o ρ H
 |.fieldAddr s x f=>o17 P o ρ H
 |.field t x f=>o18 P o ρ H
 |.indexAddr t x ix=>o19 P o ρ H
 |.index t x ix=>o20 P o ρ H
 |.lookup t m k ok=>dlookup P t (ρ m) (ρ k) ok H
 |.mapUpdate t m k x=>dupdate P t (ρ m) (ρ k) (ρ x) H
 |.insert t m k x=>dupdate P t (ρ m) (ρ k) (ρ x) H
 |.typeAssert x xt at_ ok=>o24 P o ρ H
 |.extract t ix=>o25 P o ρ H
 |.range t x=>o26 P o ρ H
 |.next it true=>o27 P o ρ H
 |.call c=>o28 P o ρ H
 |.defer c=>o29 P o ρ H
 |.panic x=>o30 P o ρ H
 |_=>none
theorem zf0 (P:Program) (o:Oper) (ρ:Operand->Value) (H:Heap):fop0 P o ρ H=dop P o ρ H:=by
 obtain⟨dst,op,ty,pos,af,g⟩:=o;cases op<;>first|rfl|(rename_i a b;cases b<;>rfl)
def fBin (P:Program) (o:Oper) (ρ:Operand->Value) (H:Heap) (op:BinOp) (x y:Value):Option Dr :=
 match x,y with
 |.int k a,.int k' b=>match Zs k.ctorIdx k'.ctorIdx,fInt op k a b with
  |true,some v=>some (.val v H)
  |_,_=>fop0 P o ρ H
 |_,_=>fop0 P o ρ H
def fop (P:Program) (o:Oper) (ρ:Operand->Value) (H:Heap):Option Dr :=
 match o.op with
 |.binOp op _ x y _=>fBin P o ρ H op (ρ x) (ρ y)
 |_=>fop0 P o ρ H
theorem zrv {P:Program}{d:Option Tmp}{ty:TypeId}{pos:String}{af:Array Edge}{g:Option (Nat × Bool)}{ρ:Operand->Value}{H:Heap}{op:BinOp}{t u:TypeId}{x y:Operand} :
  fBin P ⟨d,.binOp op t x y u,ty,pos,af,g⟩ ρ H op (ρ x) (ρ y)=dop P ⟨d,.binOp op t x y u,ty,pos,af,g⟩ ρ H:=by
 unfold fBin;split
 ·rename_i k a k' b hx hy;split
  ·rename_i v hk hv;rw[Zt] at hk;have hkk:k=k':=by cases k<;>cases k'<;>first|rfl|(simp [IntKind.ctorIdx] at hk)
   subst hkk;show _=dBin P op t x y (ρ x) (ρ y) H;rw[hx,hy];unfold fInt at hv;split at hv<;>cases hv
   all_goals (simp [dBin,dnil,flat,eqGuard,binOp,Op.intArith,Op.intCmp,Sem.bind];rfl)
  ·exact zf0 _ _ _ _
 ·exact zf0 _ _ _ _
theorem ztw (P:Program) (o:Oper) (ρ:Operand->Value) (H:Heap):fop P o ρ H=dop P o ρ H:=by
 obtain⟨dst,op,ty,pos,af,g⟩:=o;cases op<;>first|exact zrv|(unfold fop;exact zf0 _ _ _ _)
structure Rec where
 fuel:Nat
 code:Ctx->Code->St->Option (Ex × St)
 seq:Ctx->List Code->St->Option (Ex × St)
 ops:Ctx->Array Oper->List Nat->St->Option (Ex × St)
 op1:Ctx->Oper->(Operand->Value)->List Deferred->Heap->Option R1
 draw:Ctx->Array Oper->Array Nat->List Nat->Nat->List Nat->Nat->List Heap->Tr Value->List Deferred->Option St
 stage:Ctx->Array Oper->Array Nat->List Nat->Nat->List Nat->Nat->List Heap->Tr Value->List Deferred->Option St
 call:FuncId->List Value->Heap->Option (En × Heap)
 leave:Func->Tr Value->List Deferred->Option (List PanicEntry)->Heap->Option (En × Heap)
 round:Nat->List Value->Heap->Option (Value × Heap)
noncomputable def codeF (P:Program) (ok:Ok) (rr:Rec):Ctx->Code->St->Option (Ex × St)
 |x,c,st =>
  match c with
  |.skip|.label _=>some (.normal,st)
  |.region _ ops false=>rr.ops x ops (Zh ops.size) st
  |.region _ ops true =>
   let effs:=(Zh ops.size).filter fun i=>match ops[i]? with|some o=>isEff o|none=>false
   match rr.draw x ops (Region.before ops) effs st.H.next effs 0 [⟨st.H.next+ops.size,st.H.t⟩] st.tm st.ds with
   |some st1=>some (.normal,st1)
   |none=>match dpan P (rr.call) (fun es done hs tm=>rr.draw x ops (Region.before ops) effs st.H.next es done hs tm st.ds) ops (Region.before ops) effs st.H.next ⟨st.H.next+ops.size,st.H.t⟩ st.tm with
    |some (ch,H)=>some (.panic ch,⟨clr ops st.tm,st.ds,H⟩)
    |none=>none
  |.seq a b=>match rr.code x a st with
   |some (.normal,st1)=>rr.code x b st1
   |r=>r
  |.cond c a b=>match ev st.tm c with
   |.bool true=>rr.code x a st
   |.bool false=>rr.code x b st
   |_=>none
  |.block id b=>match rr.code x b st with
   |some (.exit j,st1)=>if Zs j id then some (.normal,st1) else some (.exit j,st1)
   |r=>r
  |.scope b=>rr.code x b st
  |.loop b=>match mapShape b with
   |none=>match rr.code x b st with
    |some (.normal,st1)=>rr.code x (.loop b) st1
    |r=>r
   |some _=>none
  |.exit id=>some (.exit id,st)
  |.ret=>some (.ret,st)
  |.rangeFunc f params assign body =>
   match x.round,ev st.tm f with
   |none,.func (.func g) first captured =>
    if (dcall1 P g []).isNone then none else
    let dl:=st.H.next;let H1:=st.H.new (some .dfr);let l:=H1.next;let H2:=H1.new (some (.loop .ready none x.fn st.tm params.toList assign body dl))
    match rr.call g (first.toList++[.func (.yield l) #[] #[]]++captured.toList) H2 with
    |some (.ret _,H3)=>match H3.get l with
     |some (.loop s pend fn tm ps as bo dd)=>match s with
      |.busy=>none
      |_ =>
       let H4:=H3.put l (some (.loop .exhausted pend fn tm ps as bo dd));let st1:St:=⟨st.tm,{ target:=.collected dl,args:=#[] } :: st.ds,H4⟩
       match pend with
       |none=>some (.normal,st1)
       |some c=>rr.code x c st1
     |_=>none
    |_=>none
   |_,_=>none
  |_=>none
noncomputable def seqF (P:Program) (ok:Ok) (rr:Rec):Ctx->List Code->St->Option (Ex × St)
 |_,[],st=>some (.normal,st)
 |x,c :: cs,st=>match rr.code x c st with
  |some (.normal,st1)=>rr.seq x cs st1
  |r=>r
noncomputable def opsF (P:Program) (ok:Ok) (rr:Rec):Ctx->Array Oper->List Nat->St->Option (Ex × St)
 |_,_,[],st=>some (.normal,st)
 |x,ops,i :: rest,st =>
  match ops[i]? with
  |none=>none
  |some o=>match dwanted ops st.tm o with
   |none=>none
   |some false=>rr.ops x ops rest (st.put o.dst undef st.H)
   |some true=>match rr.op1 x o (ev st.tm) st.ds st.H with
    |some (.val v ds H)=>rr.ops x ops rest (St.put ⟨st.tm,ds,st.H⟩ o.dst v H)
    |some (.panic ch H)=>some (.panic ch,⟨st.tm,st.ds,H⟩)
    |none=>none
noncomputable def op1F (P:Program) (ok:Ok) (rr:Rec):Ctx->Oper->(Operand->Value)->List Deferred->Heap->Option R1
 |x,o,ρ,ds,H =>
  match fop P o ρ H with
  |some (.val v H')=>some (.val v ds H')
  |some (.call f args)=>match rr.call f args H with
   |some (.ret v,H')=>some (.val v ds H')
   |some (.panic ch,H')=>some (.panic ch H')
   |none=>none
  |some (.yield l args)=>match rr.round l args H with
   |some (v,H')=>some (.val v ds H')
   |none=>none
  |some (.dfr d)=>match x.round with
   |none=>some (.val undef (d :: ds) H)
   |some _=>none
  |some (.panic v)=>some (.panic [{ v,recovered:=false }] H)
  |_=>none
noncomputable def drawF (P:Program) (ok:Ok) (rr:Rec):Ctx->Array Oper->Array Nat->List Nat->Nat->List Nat->Nat->List Heap->Tr Value->List Deferred->Option St
 |x,ops,b,effs,base,es,done,hs,tm,ds =>
  match twin b es with
  |none=>rr.stage x ops b effs base es done hs tm ds
  |some (e,f)=>match rr.stage x ops b effs base [e,f] done hs tm ds,rr.stage x ops b effs base [f,e] done hs tm ds with
   |some st,some st'=>match dtwin P ops b effs base done hs tm e f with
    |some (p,q)=>if agree ops base p q st st' then some st else none
    |none=>none
   |_,_=>none
noncomputable def stageF (P:Program) (ok:Ok) (rr:Rec):Ctx->Array Oper->Array Nat->List Nat->Nat->List Nat->Nat->List Heap->Tr Value->List Deferred->Option St
 |x,ops,b,effs,base,es,done,hs,tm,ds =>
  match hs with
  |[]=>none
  |G :: _=>match es with
   |[]=>match dnon P ops b effs base hs ((Zh ops.size).filter fun i=>!done.testBit i && !effs.contains i) tm G with
    |some (tm1,H1)=>some ⟨tm1,ds,H1⟩
    |none=>none
   |e :: es =>
    let m:=b.getD e 0
    match dnon P ops b effs base hs (pending (Zh ops.size) effs m done) tm G with
    |none=>none
    |some (tm1,H1)=>match ops[e]? with
     |none=>none
     |some o =>
      let done1:=done ||| m ||| 2 ^ e
      match dwanted ops tm1 o with
      |none=>none
      |some false=>rr.draw x ops b effs base es done1 (H1 :: hs) (match o.dst with|some d=>tm1.put d (some undef)|none=>tm1) ds
      |some true=>match rr.op1 x o (ev tm1) ds H1 with
       |some (.val v ds1 H2)=>rr.draw x ops b effs base es done1 (H2 :: hs) (match o.dst with|some d=>tm1.put d (some v)|none=>tm1) ds1
       |_=>none
noncomputable def callF (P:Program) (ok:Ok) (rr:Rec):FuncId->List Value->Heap->Option (En × Heap)
 |f,args,H =>
  match ok.K f args H with
  |some r=>some r
  |none=>match P.funcs[f]?,ok.testBit f with
   |some fn,true=>match fn.body with
    |some c=>match rr.code ⟨f,none⟩ c ⟨initTm 0 args .nil,[],H⟩ with
     |some (.normal,st)|some (.ret,st)=>rr.leave fn st.tm st.ds none st.H
     |some (.panic ch,st)=>rr.leave fn st.tm st.ds (some ch) st.H
     |_=>none
    |none=>none
   |_,_=>none
noncomputable def leaveF (P:Program) (ok:Ok) (rr:Rec):Func->Tr Value->List Deferred->Option (List PanicEntry)->Heap->Option (En × Heap)
 |fn,tm,[],none,H=>match dres P fn tm H with
  |some v=>some (.ret v,H)
  |none=>none
 |_,_,[],some ch,H=>some (.panic ch,H)
 |fn,tm,d :: ds,m,H=>match d.target with
  |.collected l=>match H.get l with
   |some .dfr=>rr.leave fn tm ds m (H.put l none)
   |_=>none
  |.fn (.func g) captured=>match P.funcs[g]?,ok.testBit g && (dcall1 P g []).isSome with
   |some gn,true=>match gn.body with
    |some c=>match headRegion c with
     |some (ops,rest)=>match ops[0]? with
      |some o=>if isRecover o then
        let r:=drecov m;let st0:=St.put ⟨initTm 0 (d.args.toList++captured.toList) .nil,[],H⟩ o.dst r.1 H
        match dplain P ops ((Zh ops.size).drop 1) st0.tm H with
        |some (tm1,H1)=>match rr.seq ⟨g,none⟩ rest ⟨tm1,[],H1⟩ with
         |some (.normal,st2)|some (.ret,st2)=>if st2.ds.isEmpty && gn.results.isEmpty then rr.leave fn tm ds (dsettle r.2) st2.H else none
         |_=>none
        |none=>none
       else none
      |none=>none
     |none=>none
    |none=>none
   |_,_=>none
  |_=>none
noncomputable def roundF (P:Program) (ok:Ok) (rr:Rec):Nat->List Value->Heap->Option (Value × Heap)
 |l,args,H=>match H.get l with
  |some (.loop .ready pend fn tm ps as bo dd) =>
   if Zs args.length ps.length then
    let tm1:=(ps.zip args).foldl (fun t p=>t.put p.1 (some p.2)) tm
    match rr.code ⟨fn,some l⟩ as ⟨tm1,[],H⟩ with
    |some (.normal,st1)=>match st1.H.get l with
     |some (.loop .ready pend1 fn1 tm1 ps1 as1 bo1 d1) =>
      match rr.code ⟨fn,some l⟩ bo ⟨st1.tm,st1.ds,st1.H.put l (some (.loop .busy pend1 fn1 tm1 ps1 as1 bo1 d1))⟩ with
      |some (.normal,st2)=>dendRound l none (.bool true) .ready st2.H
      |some (.ret,st2)=>dendRound l (some .ret) (.bool false) .done st2.H
      |some (.exit id,st2)=>dendRound l (some (.exit id)) (.bool false) .done st2.H
      |_=>none
     |_=>none
    |_=>none
   else none
  |_=>none
def Rec.none:Rec:=⟨0,fun _ _ _=>Option.none,fun _ _ _=>Option.none,fun _ _ _ _=>Option.none,fun _ _ _ _ _=>Option.none,fun _ _ _ _ _ _ _ _ _ _=>Option.none,fun _ _ _ _ _ _ _ _ _ _=>Option.none,fun _ _ _=>Option.none,fun _ _ _ _ _=>Option.none,fun _ _ _=>Option.none⟩
noncomputable def Rec.next (P:Program) (ok:Ok) (r:Rec):Rec:=⟨r.fuel+1,codeF P ok r,seqF P ok r,opsF P ok r,op1F P ok r,drawF P ok r,stageF P ok r,callF P ok r,leaveF P ok r,roundF P ok r⟩
noncomputable def frun (P:Program) (ok:Ok) (n:Nat):Rec:=Nat.rec Rec.none (fun _ r=>Rec.next P ok r) n
theorem zrw (P:Program):fop P=dop P:=by funext o ρ H;exact ztw P o ρ H
theorem zoe (P:Program) (ok:Ok) (n:Nat):codeF P ok ⟨n,dcode P ok n,dseq P ok n,dops P ok n,dop1 P ok n,ddraw P ok n,dstage P ok n,dcall P ok n,dleave P ok n,dround P ok n⟩=dcode P ok (n+1):=by
 funext a0 a1 a2
 cases a1 with
 |region i o d=>cases d<;>(simp only[codeF,dcode];try rfl)
 |_=>simp only[codeF,dcode];try rfl
theorem zrx (P:Program) (ok:Ok) (n:Nat):seqF P ok ⟨n,dcode P ok n,dseq P ok n,dops P ok n,dop1 P ok n,ddraw P ok n,dstage P ok n,dcall P ok n,dleave P ok n,dround P ok n⟩=dseq P ok (n+1):=by
 funext a0 a1 a2
 cases a1<;>(simp only[seqF,dseq];try rfl)
theorem zry (P:Program) (ok:Ok) (n:Nat):opsF P ok ⟨n,dcode P ok n,dseq P ok n,dops P ok n,dop1 P ok n,ddraw P ok n,dstage P ok n,dcall P ok n,dleave P ok n,dround P ok n⟩=dops P ok (n+1):=by
 funext a0 a1 a2 a3
 cases a2<;>(simp only[opsF,dops];try rfl)
theorem zrz (P:Program) (ok:Ok) (n:Nat):op1F P ok ⟨n,dcode P ok n,dseq P ok n,dops P ok n,dop1 P ok n,ddraw P ok n,dstage P ok n,dcall P ok n,dleave P ok n,dround P ok n⟩=dop1 P ok (n+1):=by
 funext a0 a1 a2 a3 a4
 simp only[op1F,dop1,zrw];try rfl
theorem zof (P:Program) (ok:Ok) (n:Nat):drawF P ok ⟨n,dcode P ok n,dseq P ok n,dops P ok n,dop1 P ok n,ddraw P ok n,dstage P ok n,dcall P ok n,dleave P ok n,dround P ok n⟩=ddraw P ok (n+1):=by
 funext a0 a1 a2 a3 a4 a5 a6 a7 a8 a9
 simp only[drawF,ddraw];try rfl
theorem zko (P:Program) (ok:Ok) (n:Nat):stageF P ok ⟨n,dcode P ok n,dseq P ok n,dops P ok n,dop1 P ok n,ddraw P ok n,dstage P ok n,dcall P ok n,dleave P ok n,dround P ok n⟩=dstage P ok (n+1):=by
 funext a0 a1 a2 a3 a4 a5 a6 a7 a8 a9
 cases a7 with
 |nil=>simp only[stageF,dstage];try rfl
 |cons G gs=>cases a5<;>(simp only[stageF,dstage];try rfl)
theorem zog (P:Program) (ok:Ok) (n:Nat):callF P ok ⟨n,dcode P ok n,dseq P ok n,dops P ok n,dop1 P ok n,ddraw P ok n,dstage P ok n,dcall P ok n,dleave P ok n,dround P ok n⟩=dcall P ok (n+1):=by
 funext a0 a1 a2
 simp only[callF,dcall];try rfl
theorem zkp (P:Program) (ok:Ok) (n:Nat):leaveF P ok ⟨n,dcode P ok n,dseq P ok n,dops P ok n,dop1 P ok n,ddraw P ok n,dstage P ok n,dcall P ok n,dleave P ok n,dround P ok n⟩=dleave P ok (n+1):=by
 funext a0 a1 a2 a3 a4
 cases a2 with
 |nil=>cases a3<;>(simp only[leaveF,dleave];try rfl)
 |cons d ds=>simp only[leaveF,dleave];try rfl
theorem zkq (P:Program) (ok:Ok) (n:Nat):roundF P ok ⟨n,dcode P ok n,dseq P ok n,dops P ok n,dop1 P ok n,ddraw P ok n,dstage P ok n,dcall P ok n,dleave P ok n,dround P ok n⟩=dround P ok (n+1):=by
 funext a0 a1 a2
 simp only[roundF,dround];try rfl
theorem zkr (P:Program) (ok:Ok):∀n,frun P ok n=⟨n,dcode P ok n,dseq P ok n,dops P ok n,dop1 P ok n,ddraw P ok n,dstage P ok n,dcall P ok n,dleave P ok n,dround P ok n⟩
 |0=>by
  show Rec.none=_;unfold Rec.none;congr 1<;>funext<;>first|rw[dcode]|rw[dseq]|rw[dops]|rw[dop1]|rw[ddraw]|rw[dstage]|rw[dcall]|rw[dleave]|rw[dround]
 |n+1=>by
  show Rec.next P ok (frun P ok n)=_;rw[zkr P ok n,Rec.next];rw[zoe,zrx,zry,zrz,zof,zko,zog,zkp,zkq]
end Go.Hb
end

section
namespace Go.Hb
open Go Go.RowKit
section
variable {P:Program}{ok:Ok}{x:Ctx}{ops:Array Oper}{os:List Oper}{tm:Tr Value}{ds:List Deferred}{H H':Heap}{K:Tr Value->List Deferred->Heap->Prop}{w:Bool}
theorem z02 {c:Code}{st:St}{Q:Ex->St->Prop}(h:EvC P ok x c st Q):EvC P ok x c st Q:=h
theorem z0q {d:Option Tmp}{r:Option Dr}(h:LX P ok x ops d os tm ds H K r):LX P ok x ops d os tm ds H K r:=h
theorem z0j {fn:Func}{KK:Value->Heap->Prop}(h:fn.results.toList=[]) (hk:KK (.tuple ⟨[]⟩) H):Ex.leave P ok fn KK .normal ⟨tm,[],H⟩ :=
 EvV.now (v:=.tuple ⟨[]⟩) (by simp only[dres,h,dresL]) hk
theorem z1r {fn:Func}{r q:Tmp}{v u:Value}{KK:Value->Heap->Prop}(h:fn.results.toList=[.tmp r,.tmp q]) (hv:tm.get r=some v) (hu:tm.get q=some u) (hk:KK (.tuple ⟨[v,u]⟩) H):Ex.leave P ok fn KK .ret ⟨tm,[],H⟩ :=
 EvV.now (v:=.tuple ⟨[v,u]⟩) (by rw[zod h,hv,hu];rfl) hk
end
section
variable {P:Program}{d:Option Tmp}{ty:TypeId}{pos:String}{af:Array Edge}{g:Option (Nat × Bool)}{ρ:Operand->Value}{H:Heap}
theorem zab {o:Oper}{v:Value}:sameOn P o ρ v []=true:=by unfold sameOn;rfl
theorem z4l {o n:Nat}{cs:List Value}{e:TypeId}:(H.new (some (.row cs e))).load ⟨H.next,o,none⟩ n=cutC cs o n:=by rw[zbh,if_pos rfl]
theorem z1k {b:Nat}{B:Option Blk}(h:b < H.next):(H.new B).get b=H.get b:=by rw[get_new,if_neg (by omega)]
theorem z0n {B:Option Blk}:(H.new B).get H.next=B:=by rw[get_new,if_pos rfl]
theorem z2r {b i:Nat}{B:Option Blk}(h:b≠i):(H.put i B).get b=H.get b:=by rw[get_put,if_neg h]
theorem z8n {b:Nat}{B:Option Blk}:(H.put b B).get b=B:=by rw[get_put,if_pos rfl]
theorem z1s {t:TypeId}{n:Nat}(h:isAgg? P t=some true) (hn:P.cellsOf t=n) {ad:Addr}:dLoad P t (.pointer (some ad)) H=dloadA n (H.load ad n) H:=by rw[z21 h,hn]
theorem z1d {t:TypeId}{n:Nat}(h:(P.info? t).isSome=true) (hn:P.cellsOf t=n) {b o:Nat}{cs:List Value} :
  dStore P t (.pointer (some ⟨b,o,none⟩)) (.agg ⟨cs⟩) H=dStoreIf (Zs cs.length n) ⟨b,o,none⟩ cs H (H.get b):=by rw[z73 h,hn]
theorem z8o {t:TypeId}{b o:Nat}{a:Option Nat}(h:(P.info? t).isSome=true) (h1:P.cellsOf t=1):dStore P t (.pointer (some ⟨b,o,none⟩)) (.map a) H=dStoreB ⟨b,o,none⟩ [.map a] H (H.get b):=z33 h h1 rfl
theorem zbi {t u:TypeId}{b o:Nat}{v:Value}(h:(P.info? t).isSome=true) (h1:P.cellsOf t=1):dStore P t (.pointer (some ⟨b,o,none⟩)) (.iface u v) H=dStoreB ⟨b,o,none⟩ [.iface u v] H (H.get b):=z33 h h1 rfl
theorem z7u {t:TypeId}{b o:Nat}(h:(P.info? t).isSome=true) (h1:P.cellsOf t=1):dStore P t (.pointer (some ⟨b,o,none⟩)) .nilIface H=dStoreB ⟨b,o,none⟩ [.nilIface] H (H.get b):=z33 h h1 rfl
def dGet1 (v:Option Value) (H:Heap):Option Dr:=v.map (.val · H)
theorem zac {v:Value}:dGet1 (some v) H=some (.val v H):=_root_.id rfl
theorem z0t {t e:TypeId}{b o n c s:Nat}{k:IntKind}{i:Nat}(hu:P.underlying t=some (.slice e)) (hi:(P.info? e).isSome=true) (hs:P.cellsOf e=s) (h:i < n) :
  dIndexAddr P t (.slice (some ⟨b,o,none⟩) n c) (.int k (i:Int)) H=some (.val (.pointer (some ⟨b,o+i*s,none⟩)) H):=by rw[z2u hu hi h,hs]
theorem z5j {t e:TypeId}{b o n c s:Nat}{k:IntKind}{i:Int}(hu:P.underlying t=some (.slice e)) (hi:(P.info? e).isSome=true) (hs:P.cellsOf e=s) (h0:0<=i) (h:i < n) :
  dIndexAddr P t (.slice (some ⟨b,o,none⟩) n c) (.int k i) H=some (.val (.pointer (some ⟨b,o+i.toNat*s,none⟩)) H):=by
 obtain⟨j,rfl⟩:=Int.eq_ofNat_of_zero_le h0;rw[z0t hu hi hs (by omega)];rfl
def layC (pl:List (Nat × Nat)):List Value->List (Nat × List Value)->Option (List Value)
 |cells,[]=>some cells
 |cells,(i,v) :: rest=>match pl[i]? with
  |some (off,size)=>if v.length=size/\off+v.length<=cells.length then layC pl (splice cells off v) rest else none
  |none=>none
theorem zgh:∀(vs:List Value) (off j:Nat) (cells:Array Value),off+j+vs.length<=cells.size ->
  ((vs.zipIdx j).foldl (fun cs (p:Value × Nat)=>cs.setIfInBounds (off+p.2) p.1) cells).toList=splice cells.toList (off+j) vs
 |[],off,j,cells,h=>by
  rw[z1p _ _ _ (by simp at h ⊢;omega)];simp
 |v :: vs,off,j,cells,h=>by
  have h':off+j+(vs.length+1)<=cells.size:=by simpa using h
  rw[List.zipIdx_cons,List.foldl_cons];have ih:=zgh vs off (j+1) (cells.setIfInBounds (off+j) v) (by simp;omega);rw[ih,z1p _ _ _ (by simp;omega),z1p _ _ _ (by simp;omega)];simp only[Array.toList_setIfInBounds,ZD];rw[List.set_eq_take_append_cons_drop,if_pos (by simp;omega)];apply List.ext_getElem?;intro k;simp only[List.getElem?_append,ZJ,ZN,Zo,Zr,ZD,List.length_drop,Array.length_toList,List.getElem?_cons]
  grind
theorem zbj {place:Nat->Option (Nat × Nat)}{pl:List (Nat × Nat)}(hp:∀i,place i=pl[i]?):∀(parts:List (Nat × Value)) (cells:Array Value),(Instr.fill place cells parts).map (·.toList)=layC pl cells.toList (parts.map fun p=>(p.1,p.2.cells.toList))
 |[],cells=>rfl
 |(i,v) :: rest,cells=>by
  rw[Instr.fill,hp i,ZA,layC];cases hi:pl[i]? with
  |none=>rfl
  |some os =>
   obtain⟨off,size⟩:=os;simp only;by_cases hc:v.cells.size=size/\off+v.cells.size<=cells.size
   ·obtain⟨h1,h2⟩:=hc;rw[if_neg (by simp [h1];omega),if_pos ⟨by simpa using h1,by simpa using h2⟩,zbj hp rest];congr 1;have:=zgh v.cells.toList off 0 cells (by simpa using h2);rw[<-Array.foldl_toList,Array.toList_zipIdx];exact this
   ·rw[if_pos (by
     simp;by_cases h:v.cells.size=size
     ·exact .inr (by omega)
     ·exact .inl h),if_neg (by simpa using hc)]
    rfl
def bdPl (P:Program) (t:TypeId):Option (List (Nat × Nat)) :=
 match P.underlying t with
 |some (.struct fs)=>(pureRun P (fs.mapM fun f=>do pure (f.offset,<-sizeOf f.type))).map (·.toList)
 |_=>none
def dBuild (P:Program) (t:TypeId) (vs:List (Nat × Value)) (H:Heap):Option Dr :=
 if vs.all (fun p=>p.2.cells.toList.all one) && zflat P t then
  match pureRun P (Instr.build t ⟨vs⟩) with
  |some v=>some (.val v H)
  |none=>none
 else none
theorem zcy {t:TypeId}{parts:Array (Nat × Operand)}:dop P ⟨d,.build t parts,ty,pos,af,g⟩ ρ H=dBuild P t (parts.toList.map fun p=>(p.1,ρ p.2)) H:=by
 have e1:(parts.toList.all fun p=>(ρ p.2).cells.toList.all one)=((parts.toList.map fun p=>(p.1,ρ p.2)).all fun p=>p.2.cells.toList.all one):=by rw[List.all_map];rfl
 have e2:(parts.map fun (i,x)=>(i,ρ x))=⟨parts.toList.map fun p=>(p.1,ρ p.2)⟩:=by
  apply Array.ext';simp
 simp only[dop,dBuild,e1,e2];rfl
def dBd (c:Bool) (r:Option (List Value)) (H:Heap):Option Dr:=match c,r with|true,some cs=>some (.val (.agg ⟨cs⟩) H)|_,_=>none
theorem zgi {cs:List Value}:dBd true (some cs) H=some (.val (.agg ⟨cs⟩) H):=_root_.id rfl
theorem z1t {t:TypeId}{pl:List (Nat × Nat)}{zs:List Value}{vs:List (Nat × Value)}(hp:bdPl P t=some pl) (hz:zerosOf P t=some zs) :
  dBuild P t vs H=dBd (vs.all fun p=>p.2.cells.toList.all one) (layC pl zs (vs.map fun p=>(p.1,p.2.cells.toList))) H:=by
 unfold zerosOf at hz;split at hz
 ·rename_i z hzv;split at hz
  ·rename_i hfl;cases hz;rw[Zk] at hfl;have hzf:zflat P t=true:=by unfold zflat;rw[hzv];exact hfl.1
   unfold dBuild;rw[hzf,Bool.and_true];cases hall:(vs.all fun p=>p.2.cells.toList.all one) with
   |false=>rfl
   |true =>
    rw[if_pos rfl];unfold bdPl at hp;split at hp
    ·rename_i fs hu;cases hm:pureRun P (fs.mapM fun f=>do pure (f.offset,<-sizeOf f.type)) with
     |none=>rw[hm] at hp;cases hp
     |some places =>
      rw[hm] at hp;cases hp;have hf:=zbj (place:=(places[·]?)) (pl:=places.toList) (fun i=>by simp) vs z.cells;simp only[Instr.build,z0b,hzv,z0s hu,ZB,hm];rw[<-hf];cases Instr.fill (places[·]?) z.cells vs with
      |none=>rfl
      |some cells=>rfl
    ·cases hp
  ·cases hz
 ·cases hz
def dBuildS (P:Program) (t:TypeId) (len:Nat) (vs:List (Nat × Value)) (H:Heap):Option Dr :=
 match P.underlying t with
 |some (.slice e)=>match P.info? e with
  |some i=>match i.zero with
   |some z =>
    let size:=i.size
    if len<=bmost/\len*size<=bmost/\flat z=true/\z.cells.size=size/\z.cells.toList.all one=true/\vs.all (fun p=>p.2.cells.toList.all one)=true then
     match Instr.fill (fun i=>some (i*size,size)) ((Array.range (len*size)).map (z.cells[· % z.cells.size]!)) vs with
     |some cells=>some (.val (.slice (some ⟨H.next,0,none⟩) len len) (H.new (some (.row cells.toList e))))
     |none=>none
    else none
   |none=>none
  |none=>none
 |_=>none
theorem z5k {t:TypeId}{len:Nat}{parts:Array (Nat × Operand)}:dop P ⟨d,.buildSlice t len parts,ty,pos,af,g⟩ ρ H=dBuildS P t len (parts.toList.map fun p=>(p.1,ρ p.2)) H:=by
 have e1:(parts.toList.all fun p=>(ρ p.2).cells.toList.all one)=((parts.toList.map fun p=>(p.1,ρ p.2)).all fun p=>p.2.cells.toList.all one):=by rw[List.all_map];rfl
 simp only[dop,dBuildS,e1];rfl
def bsZs (P:Program) (t:TypeId) (len:Nat):Option (TypeId × Nat × List Value) :=
 match P.underlying t with
 |some (.slice e)=>match P.info? e with
  |some i=>match i.zero with
   |some z=>if len<=bmost/\len*i.size<=bmost/\flat z=true/\z.cells.size=i.size/\z.cells.toList.all one=true then some (e,i.size,(Zh (len*i.size)).map (z.cells[· % z.cells.size]!)) else none
   |none=>none
  |none=>none
 |_=>none
def placesN (size:Nat):Nat->Nat->List (Nat × Nat)
 |0,_=>[]
 |n+1,o=>(o,size) :: placesN size n (o+size)
theorem z8p (size:Nat):∀(n o i:Nat),(placesN size n o)[i]?=if i < n then some (o+i*size,size) else none
 |0,o,i=>by simp [placesN]
 |n+1,o,0=>by simp [placesN]
 |n+1,o,i+1=>by
  rw[placesN,List.getElem?_cons_succ,z8p size n (o+size) i];by_cases h:i < n
  ·rw[if_pos h,if_pos (by omega),Nat.succ_mul];congr 2;omega
  ·rw[if_neg h,if_neg (by omega)]
def dBs (e:TypeId) (n:Nat) (c:Bool) (r:Option (List Value)) (H:Heap):Option Dr:=match c,r with|true,some cs=>some (.val (.slice (some ⟨H.next,0,none⟩) n n) (H.new (some (.row cs e))))|_,_=>none
theorem zgj {e:TypeId}{n:Nat}{cs:List Value}:dBs e n true (some cs) H=some (.val (.slice (some ⟨H.next,0,none⟩) n n) (H.new (some (.row cs e)))):=_root_.id rfl
theorem zks {size n:Nat}:∀(parts:List (Nat × Value)) (cells:Array Value),parts.all (fun p=>Nat.blt p.1 n)=true ->
  Instr.fill (fun i=>some (i*size,size)) cells parts=Instr.fill (fun i=>(placesN size n 0)[i]?) cells parts
 |[],cells,_=>rfl
 |(i,v) :: rest,cells,h=>by
  simp only[List.all_cons,Zk] at h;have hi:i < n:=of_eq_true (by rw[<-Nat.blt_eq,h.1];simp);rw[Instr.fill,Instr.fill,z8p,if_pos hi,ZP];simp only;split
  ·rfl
  ·exact zks rest _ h.2
theorem z16 {t e:TypeId}{len size:Nat}{zs:List Value}{vs:List (Nat × Value)}(h:bsZs P t len=some (e,size,zs)) (hv:vs.all (fun p=>Nat.blt p.1 len)=true) :
  dBuildS P t len vs H=dBs e len (vs.all fun p=>p.2.cells.toList.all one) (layC (placesN size len 0) zs (vs.map fun p=>(p.1,p.2.cells.toList))) H:=by
 unfold bsZs at h;split at h
 ·rename_i e' h1;split at h
  ·rename_i i h2;split at h
   ·rename_i z h3;split at h
    ·rename_i hc;obtain⟨h5,h6,h7,h8,h9⟩:=hc;simp only[Option.some.injEq,Prod.mk.injEq] at h;obtain⟨rfl,rfl,rfl⟩:=h;simp only[dBuildS,h1,h2,h3];cases hall:(vs.all fun p=>p.2.cells.toList.all one) with
     |false=>rw[if_neg (by simp)];rfl
     |true =>
      rw[if_pos ⟨h5,h6,h7,h8,h9,rfl⟩,zks vs _ hv];have hf:=zbj (place:=((placesN i.size len 0)[·]?)) (pl:=placesN i.size len 0) (fun i=>rfl) vs ((Array.range (len*i.size)).map (z.cells[· % z.cells.size]!));rw[Array.toList_map,Array.toList_range] at hf;rw[<-hf];cases Instr.fill ((placesN i.size len 0)[·]?) ((Array.range (len*i.size)).map (z.cells[· % z.cells.size]!)) vs with
      |none=>rfl
      |some cells=>rfl
    ·cases h
   ·cases h
  ·cases h
 ·cases h
def dSl (P:Program) (t:TypeId) (v:Value) (lo hi mx:Option Value) (H:Heap):Option Dr :=
 match v with
 |.string s=>dOut ((lo.toList++(hi.toList++mx.toList)).all flat) (pureRun P (do let r <-Instr.sliceAt t (.string s) lo hi mx;pure (Next.value r))) H
 |v=>dslice P t v lo hi mx H
theorem ziw {t:TypeId}{s:ByteArray}{k:IntKind}{l:Nat}(hu:P.underlying t=some .string) (h:l<=s.size):dSl P t (.string s) (some (.int k (l:Int))) none none H=some (.val (.string (s.extract l s.size)) H):=by
 have hb:(0:Int)<=(l:Int)/\(l:Int)<=(s.size:Int):=⟨by omega,by omega⟩
 simp only[dSl,Instr.sliceAt,Instr.slice,z0b,z0s hu,ZB];simp [Instr.sliceBounds,Instr.sliceBound,asIntOf,z2q,hb,h,dOut,flat]
theorem z3i {k:IntKind}{n m:Nat}(h:n<=m):intBetween (.int k (n:Int)) m=some n:=by
 unfold intBetween;simp only;rw[if_pos ⟨by omega,by omega⟩];simp
def slcOk (P:Program) (t e:TypeId) (s:Nat):Prop:=P.underlying t=some (.slice e)/\(P.info? e).isSome=true/\P.cellsOf e=s
theorem ztx {t e:TypeId}{s:Nat}{a:Option Addr}{n c m:Nat}{k:IntKind}(h:slcOk P t e s) (hm:m<=c):dSl P t (.slice a n c) none (some (.int k (m:Int))) none H=some (.val (.slice a m c) H):=by
 obtain⟨h1,h2,_⟩:=h;obtain⟨i,hi⟩:=Option.isSome_iff_exists.1 h2;simp only[dSl,dslice,h1,hi,bound,z3i hm];rfl
theorem zcz {t:TypeId}{v:Operand}{lo hi mx:Option Operand}:dop P ⟨d,.slice t v lo hi mx,ty,pos,af,g⟩ ρ H=dSl P t (ρ v) (lo.map ρ) (hi.map ρ) (mx.map ρ) H:=by
 cases h:ρ v with
 |string s =>
  have e:dop P ⟨d,.slice t v lo hi mx,ty,pos,af,g⟩ ρ H=dflat P ⟨d,.slice t v lo hi mx,ty,pos,af,g⟩ ρ H:=by simp only[dop,h]
  rw[e,z6h];have e1:allFlat ρ ⟨d,.slice t v lo hi mx,ty,pos,af,g⟩=(((lo.map ρ).toList++((hi.map ρ).toList++(mx.map ρ).toList)).all flat):=by
   unfold allFlat;cases lo<;>cases hi<;>cases mx<;>simp [Op.operands,h,flat]
  have e2:execOp ρ ⟨d,.slice t v lo hi mx,ty,pos,af,g⟩=(do let r <-Instr.sliceAt t (.string s) (lo.map ρ) (hi.map ρ) (mx.map ρ);pure (Next.value r)):=by rw[<-h];rfl
  rw[e1,e2];rfl
 |_=>simp only[dop,h,dSl]
def dAp (P:Program) (ts:Array TypeId) (s v:Value) (H:Heap):Option Dr :=
 match ts.toList with
 |[t,xt]=>match dzeros P t xt s v H with
  |some r=>some r
  |none=>dappend P ts s v H
 |_=>none
theorem zad {s v:Operand}{ts:Array TypeId}:dop P ⟨d,.call ⟨.builtin .append,#[s,v],ts⟩,ty,pos,af,g⟩ ρ H=dAp P ts (ρ s) (ρ v) H:=_root_.id rfl
def apSz (P:Program) (t:TypeId):Option (TypeId × Nat) :=
 match P.underlying t with
 |some (.slice e)=>match P.info? e with
  |some i=>if i.bytes<=4096/\0 < i.size/\zsize i=i.size then some (e,i.size) else none
  |none=>none
 |_=>none
def apOk (P:Program) (t e:TypeId) (s:Nat):Prop:=∃i,P.underlying t=some (.slice e)/\P.info? e=some i/\i.size=s/\i.bytes<=4096/\0 < s/\zsize i=s
theorem z3j {t e:TypeId}{s:Nat}(h:apSz P t=some (e,s)):apOk P t e s:=by
 unfold apSz at h;split at h
 ·rename_i e' h1;split at h
  ·rename_i i h2;split at h
   ·rename_i hc;simp only[Option.some.injEq,Prod.mk.injEq] at h;obtain⟨rfl,rfl⟩:=h;exact⟨i,h1,h2,rfl,hc.1,hc.2.1,hc.2.2⟩
   ·cases h
  ·cases h
 ·cases h
theorem z4m {t xt:TypeId}{s:Value}{a:Option Addr}{n c:Nat}:dzeros P t xt s (.slice a n c) H=none:=by
 unfold dzeros;split
 ·rename_i h;simp [intBetween] at h
 ·rfl
theorem zs0 {t e:TypeId}{s:Nat}{a a':Option Addr}{n c c':Nat}(h:apOk P t e s):dAp P #[t,t] (.slice a n c) (.slice a' 0 c') H=some (.val (.slice a n c) H):=by
 obtain⟨i,h1,h2,_⟩:=h;simp [dAp,z4m,dappend,h1,h2]
theorem z47 {t e:TypeId}{s:Nat}{ad:Addr}{m c':Nat}{news:List Value}(h:apOk P t e s) (hm:0 < m) (hmost:m<=most) (hl:H.load ad (m*s)=some news) (hone:news.all one=true) :
  dAp P #[t,t] (.slice none 0 0) (.slice (some ad) m c') H=some (.val (.slice (some ⟨H.next,0,none⟩) m m) (H.new (some (.row news e)))):=by
 obtain⟨i,h1,h2,h3,h4,h5,h6⟩:=h;subst h3;have e0:Zs m 0=false:=by rw[<-ZL,Zt];omega
 have hlen:news.length=m*i.size:=by
  unfold Heap.load at hl;split at hl
  ·simp only at hl;split at hl
   ·rename_i hh;cases hl;rw[Zt] at hh;exact hh
   ·cases hl
  ·cases hl
 simp only[dAp,z4m,dappend,h1,h2,Nat.beq_refl,e0,dsource,hl];simp [hmost,h4,h5,h6,hlen,hone]
theorem z3k {t e:TypeId}{s b:Nat}{ad:Addr}{n c m c':Nat}{cs news:List Value}(h:apOk P t e s) (hm:0 < m) (hmost:n+m<=most) (hl:H.load ad (m*s)=some news) (hone:news.all one=true)
  (hb:H.get b=some (.row cs e)) (hn:n*s<=cs.length) (hone':(cs.take (n*s)).all one=true) :
  dAp P #[t,t] (.slice (some ⟨b,0,none⟩) n c) (.slice (some ad) m c') H=some (.val (.slice (some ⟨H.next,0,none⟩) (n+m) (n+m)) ((H.put b none).new (some (.row (cs.take (n*s)++news) e)))):=by
 obtain⟨i,h1,h2,h3,h4,h5,h6⟩:=h;subst h3;have e0:Zs m 0=false:=by rw[<-ZL,Zt];omega
 have hlen:news.length=m*i.size:=by
  unfold Heap.load at hl;split at hl
  ·simp only at hl;split at hl
   ·rename_i hh;cases hl;rw[Zt] at hh;exact hh
   ·cases hl
  ·cases hl
 simp only[dAp,z4m,dappend,h1,h2,Nat.beq_refl,e0,dsource,hl,hb];simp [hmost,h4,h5,h6,hlen,hone,hn,hone']
def repL (n:Nat) (zs:List Value):List Value:=(List.replicate n zs).flatten
def dMk (P:Program) (t:TypeId) (l c:Value) (H:Heap):Option Dr :=
 match P.underlying t with
 |some (.slice e)=>match P.info? e,intBetween c most with
  |some i,some cap=>match i.zero,intBetween l cap with
   |some z,some len =>
    let size:=i.size
    if flat z=true/\z.cells.size=size/\i.bytes<=4096/\z.cells.toList.all one=true then
     some (.val (.slice (some ⟨H.next,0,none⟩) len cap) (H.new (some (.row ((Zh (cap*size)).map (z.cells[· % z.cells.size]!)) e))))
    else none
   |_,_=>none
  |_,_=>none
 |_=>none
theorem z6i {t:TypeId}{l c:Operand}:dop P ⟨d,.makeSlice t l c,ty,pos,af,g⟩ ρ H=dMk P t (ρ l) (ρ c) H:=_root_.id rfl
def mkZs (P:Program) (t:TypeId):Option (TypeId × List Value) :=
 match P.underlying t with
 |some (.slice e)=>match P.info? e with
  |some i=>match i.zero with
   |some z=>if flat z=true/\z.cells.size=i.size/\i.bytes<=4096/\z.cells.toList.all one=true/\0 < i.size then some (e,z.cells.toList) else none
   |none=>none
  |none=>none
 |_=>none
def mkOk (P:Program) (t e:TypeId) (zs:List Value):Prop:=∃i z,P.underlying t=some (.slice e)/\P.info? e=some i/\i.zero=some z/\flat z=true/\z.cells.size=i.size/\i.bytes<=4096/\z.cells.toList.all one=true/\z.cells.toList=zs/\0 < i.size
theorem zf1 {t e:TypeId}{zs:List Value}(h:mkZs P t=some (e,zs)):mkOk P t e zs:=by
 unfold mkZs at h;split at h
 ·rename_i e' h1;split at h
  ·rename_i i h2;split at h
   ·rename_i z h3;split at h
    ·rename_i hc;simp only[Option.some.injEq,Prod.mk.injEq] at h;obtain⟨rfl,rfl⟩:=h;exact⟨i,z,h1,h2,h3,hc.1,hc.2.1,hc.2.2.1,hc.2.2.2.1,rfl,hc.2.2.2.2⟩
    ·cases h
   ·cases h
  ·cases h
 ·cases h
theorem zd0 {zs:Array Value}(hz:0 < zs.size):∀n,(Zh (n*zs.size)).map (zs[· % zs.size]!)=repL n zs.toList
 |0=>by simp [repL]
 |n+1=>by
  have ih:=zd0 hz n;unfold repL at ih ⊢;rw[Nat.succ_mul,List.range_add,ZI,ih,List.replicate_succ',List.flatten_append];congr 1;simp only[List.map_map,List.flatten_cons,List.flatten_nil,List.append_nil];apply List.ext_getElem?;intro k;by_cases hk:k < zs.size
  ·simp [hk,Nat.add_mod,Nat.mod_eq_of_lt hk]
  ·simp [hk]
theorem z5u {t e:TypeId}{zs:List Value}{n:Nat}{k k':IntKind}(h:mkOk P t e zs) (hn:n<=most):dMk P t (.int k (n:Int)) (.int k' (n:Int)) H=some (.val (.slice (some ⟨H.next,0,none⟩) n n) (H.new (some (.row (repL n zs) e)))):=by
 obtain⟨i,z,h1,h2,h3,h4,h5,h6,h7,h8,h9⟩:=h;subst h8;simp only[dMk,h1,h2,h3,z3i hn,z3i (Ze n)];rw[if_pos ⟨h4,h5,h6,h7⟩,<-h5,zd0 (by omega)]
theorem z48 {n:Nat}{zs:List Value}:(repL n zs).length=n*zs.length:=by simp [repL]
theorem zbk {n:Nat}{v:Value}:repL n [v]=List.replicate n v:=by
 unfold repL
 induction n with
 |zero=>rfl
 |succ n ih=>rw[List.replicate_succ,List.flatten_cons,ih,List.replicate_succ];rfl
def dCp (P:Program) (ts:Array TypeId) (a b:Value) (H:Heap):Option Dr:=dcopy P ts a b H
theorem zgk {a b:Operand}{ts:Array TypeId}:dop P ⟨d,.call ⟨.builtin .copy,#[a,b],ts⟩,ty,pos,af,g⟩ ρ H=dCp P ts (ρ a) (ρ b) H:=_root_.id rfl
def dClr (P:Program) (ts:Array TypeId) (a:Value) (H:Heap):Option Dr:=dclear P ts a H
theorem z7m {f:FuncId}{a b:Array Operand}:dop P ⟨d,.makeFunc (.func f) a b,ty,pos,af,g⟩ ρ H=some (.val (.func (.func f) (a.map ρ) (b.map ρ)) H):=_root_.id rfl
def dCallV (P:Program) (o:Oper) (ρ:Operand->Value) (f:Value) (args:List Value) (H:Heap):Option Dr :=
 match f with
 |.func (.func f) first captured =>
  match dcall1 P f (first.toList++args++captured.toList) with
  |some r=>some r
  |none=>dflat P o ρ H
 |.func (.yield l) first _=>some (.yield l (first.toList++args))
 |_=>none
theorem z2s {t:Tmp}{args:Array Operand}{ats:Array TypeId} :
  dop P ⟨d,.call ⟨.value (.tmp t),args,ats⟩,ty,pos,af,g⟩ ρ H=dCallV P ⟨d,.call ⟨.value (.tmp t),args,ats⟩,ty,pos,af,g⟩ ρ (ρ (.tmp t)) (args.toList.map ρ) H:=by
 simp only[dop,dCallV];cases ρ (.tmp t) with
 |func f a b=>cases f<;>rfl
 |_=>rfl
theorem z1u {o:Oper}{f:FuncId}{a b:Array Value}{args:List Value}(h:callable P f=true):dCallV P o ρ (.func (.func f) a b) args H=some (.call f (a.toList++args++b.toList)):=by
 unfold callable at h;simp only[dCallV];cases hf:P.funcs[f]? with
 |none=>rw[hf] at h;cases h
 |some fn =>
  rw[hf] at h;simp only at h;simp [dcall1,hf,h]
end
end Go.Hb
end
