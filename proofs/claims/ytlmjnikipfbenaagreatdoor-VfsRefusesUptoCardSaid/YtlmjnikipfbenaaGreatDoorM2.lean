import Derived.Test.YtlmjnikipfbenaaGreatDoorM1
import Derived.RecoverIn
import Derived.RangeFuncLeaves
import Derived.LoopNIn
import Derived.Laws.IdiomRangeMap
import Derived.RowKit3
import Derived.ChangeSame
import Derived.Carry
import Derived.OpenShut
import Derived.ProofKit
import Derived.IntWalk
import Derived.BigFrame
/- Lemmas on the program's own code, towards the laws of this folder, part 2. Conditions: as each lemma says. -/
open Array renaming getD_eq_getD_getElem? → ZG, getElem?_toList → ZC
open Bool renaming and_eq_true → Zi, false_eq_true → Zc, not_eq_true → ZB, not_true → Zn
open List renaming ext_getElem? → ZD, getElem?_eq_getElem → Zd, getElem?_eq_none → Zw, getElem?_map → Zr, getElem_mem → ZE, length_append → Zu, length_cons → ZF, length_map → Zv, map_cons → Zs, mem_cons_of_mem → Zl, range → Zj
open Nat renaming beq → Zk, beq_eq → Zp, beq_refl → Zy, le_refl → Ze, le_trans → ZA, lt_of_lt_of_le → Zt
open Option renaming bind_some → Zq, map_some → Zo
section
namespace Go.Hb
open Go Go.RowKit
theorem z86 {v u:Value}(h:cellEq v u=true):v=u:=by
 unfold cellEq at h;rw[Bool.or_eq_true] at h;rcases h with h|h
 ·exact z9k v u h
 ·split at h
  ·rfl
  ·cases h
theorem z4d:∀{a b:List Value},cellsEq a b=true→a=b
 |[],[],_=>rfl
 |v :: a,u :: b,h=>by
  unfold cellsEq at h;rw[Zi] at h;rw[z86 h.1,z4d h.2]
 |[],_ :: _,h=>by unfold cellsEq at h;cases h
 |_ :: _,[],h=>by unfold cellsEq at h;cases h
theorem zaw {a b:Option Blk}(h:blkEq a b=true):a=b:=by
 unfold blkEq at h;split at h
 ·rfl
 ·rw[Zi,Zp] at h;rw[h.1,z4d h.2]
 ·rw[Zi,Zp] at h;rw[h.1,z4d h.2]
 ·rw[Zp] at h;rw[h]
 ·cases h
theorem zi3 {a b:Option Value}(h:slotEq a b=true):a=b:=by
 unfold slotEq at h;split at h
 ·rfl
 ·rw[z86 h]
 ·cases h
section
variable {P:Program}{ops:Array Oper}{b:Array Nat}{effs:List Nat}{ok:Ok}{n:Nat}{x:Ctx}{base:Nat}
theorem zi4 {p q:Nat}{st st':St}(h:agree ops base p q st st'=true) :
  (∀(i:Nat) (o:Oper) (d:Tmp),ops[i]?=some o→o.dst=some d→st.tm.get d=st'.tm.get d)∧st.H.get p=st'.H.get p∧st.H.get q=st'.H.get q∧∀i,i < ops.size→st.H.get (base+i)=st'.H.get (base+i):=by
 unfold agree at h;simp only[Zi,List.all_eq_true] at h;obtain⟨⟨⟨h1,h2⟩,h3⟩,h4⟩:=h;refine⟨fun i o d ho hd=>?_,zaw h2,zaw h3,fun i hi=>zaw (h4 i (List.mem_range.2 hi))⟩;have hm:o∈ops.toList:=by
  obtain⟨k1,k2⟩:=Array.getElem?_eq_some_iff.1 ho;rw[←k2];exact Array.getElem_mem_toList k1
 have:=h1 o hm;rw[hd] at this;exact zi3 this
theorem zl2 {e:Nat}{o:Oper}(h:isSt ops e=true) (ho:ops[e]?=some o):o.dst=none∧o.guard=none∧∃t a v,o.op=.store t a v:=by
 unfold isSt at h;rw[ho] at h;simp only[Zi,Option.isNone_iff_eq_none] at h;refine⟨h.1.1,h.1.2,?_⟩;have:=h.2;split at this
 ·rename_i t a v hop;exact⟨t,a,v,hop⟩
 ·cases this
theorem z6r:∀(l:List (Nat × Blk)) (H:Heap),(l.foldl (fun H p=>H.put (base+p.1) (some p.2)) H).next=H.next ∧
  ∀j,(∀p∈l,j≠base+p.1)→(l.foldl (fun H p=>H.put (base+p.1) (some p.2)) H).get j=H.get j
 |[],H=>⟨rfl,fun _ _=>rfl⟩
 |p :: l,H=>by
  obtain⟨h1,h2⟩:=z6r l (H.put (base+p.1) (some p.2));refine⟨h1,fun j hj=>?_⟩;rw[List.foldl_cons,h2 j (fun q hq=>hj q (Zl _ hq)),Heap.get_put,if_neg (hj p (by simp))]
theorem zdq {o:Oper}{ρ:Operand→Value}{ds ds1:List Deferred}{H H':Heap}{v:Value}{t:TypeId}{a y:Operand}(hop:o.op=.store t a y) (h:dop1 P ok n x o ρ ds H=some (.val v ds1 H')) :
  ds1=ds∧H'.next=H.next∧∀j,stBlk o ρ≠some j→H'.get j=H.get j:=by
 cases n with
 |zero=>unfold dop1 at h;cases h
 |succ n =>
  unfold dop1 at h;have hd:∀r,dop P o ρ H=some r→∃H2,r=.val undef H2∧H2.next=H.next∧∀j,stBlk o ρ≠some j→H2.get j=H.get j:=by
   intro r hr;unfold dop at hr;rw[hop] at hr;simp only at hr;split at hr
   ·rename_i ad hρ;split at hr
    ·obtain⟨H2,h2,rfl⟩:=Option.map_eq_some_iff.1 hr;refine⟨H2,rfl,?_⟩;unfold Heap.store at h2;split at h2
     ·split at h2
      ·cases h2;refine⟨rfl,fun j hj=>?_⟩;rw[Heap.get_put,if_neg];rintro rfl;refine hj ?_;unfold stBlk;rw[hop];simp only[hρ]
      ·cases h2
     ·cases h2
    ·cases hr
   ·cases hr
  split at h
  ·rename_i v' H2 hd2;cases h;obtain⟨H3,e,h1,h2⟩:=hd _ hd2;cases e;exact⟨rfl,h1,h2⟩
  all_goals first
   |(rename_i hd2;obtain⟨_,e,_⟩:=hd _ hd2;cases e;done)
   |cases h
   |skip
theorem z5o {o:Oper}{ρ ρ':Operand→Value}(h:∀y∈o.op.operands.toList,ρ y=ρ' y):stBlk o ρ=stBlk o ρ':=by
 unfold stBlk;cases hop:o.op with
 |store t a v =>
  simp only;rw[h a (by rw[hop];simp [Op.operands])]
 |_=>rfl
theorem z3r (R:RC ops b effs) {tm0:Tr Value}{st:St}:∀{es:List Nat}{n done:Nat}{G:Heap}{gs:List Heap}{tm:Tr Value}{ds:List Deferred}{k:Nat},
  ddraw P ok n x ops b effs base es done (G :: gs) tm ds=some st→DI ops b effs tm0 es done tm k→(∀e∈es,isSt ops e=true) →
  st.H.next=G.next∧st.ds=ds∧∀j,(∀i,i < ops.size→j≠base+i)→(∀e∈es,∀o,ops[e]?=some o→stBlk o (rho ops b tm0 st.tm e)≠some j)→st.H.get j=G.get j
 |[],n,done,G,gs,tm,ds,k,h,D,_=>by
  obtain⟨tm1,H1,hd,rfl⟩:=z68 h;obtain⟨_,_,l,hl1,hl2⟩:=z2c R (tmF:=tm1) hd z5n D.ds (D.last R) (fun t _=>rfl) D.t0;simp only at hl1;subst hl1;obtain⟨f1,f2⟩:=z6r (base:=base) l G;exact⟨f1,rfl,fun j hj _=>f2 j fun p hp=>hj p.1 (z4k.1 (hl2 p hp).1).1⟩
 |e :: es,n,done,G,gs,tm,ds,k,h,D,hst=>by
  obtain⟨n',tm1,H1,o,v,ds1,H2,_,hdn,ho,h',hc⟩:=z3l h;obtain⟨f1,f2⟩:=z3q R D ho h';obtain⟨_,ht0,l,hl1,hl2⟩:=z2c R (tmF:=st.tm) hdn z2j D.ds (D.pend R) f1 D.t0;simp only at hl1;subst hl1;obtain⟨g1,g2⟩:=z6r (base:=base) l G;obtain⟨e1,e2,t,a,y,e3⟩:=zl2 (hst e (by simp)) ho;obtain⟨k1,k2,k3⟩:=z3r R h' (D.next R (zav R ho ht0)) (fun f hf=>hst f (Zl _ hf));rcases hc with ⟨c1,_⟩|⟨c1,c2⟩
  ·rw[wanted_none' e2] at c1;cases c1
  ·obtain⟨s1,s2,s3⟩:=zdq e3 c2;refine⟨by rw[k1,s2,g1],by rw[k2,s1],fun j hj hno=>?_⟩;rw[k3 j hj (fun f hf of hof=>hno f (Zl _ hf) of hof),s3 j ?_,g2 j fun p hp=>hj p.1 (z15.1 (hl2 p hp).1).1];have hrho:=pend_rho R D ho ht0 f1;rw[z5o hrho];exact hno e (by simp) o ho
where
 wanted_none' {tm:Tr Value}{o:Oper}(h:o.guard=none):dwanted ops tm o=some true:=by unfold dwanted;rw[h]
 pend_rho (R:RC ops b effs) {tm0:Tr Value}{st:St}{es:List Nat}{done:Nat}{tm tm1:Tr Value}{k e:Nat}{o:Oper}(D:DI ops b effs tm0 (e :: es) done tm k) (ho:ops[e]?=some o)
   (ht0:∀t,¬written ops (fun i=>bit done i∨i∈pending (Zj ops.size) effs (b.getD e 0) done) t→tm1.get t=tm0.get t)
   (f1:∀t,written ops (fun i=>bit done i∨i∈pending (Zj ops.size) effs (b.getD e 0) done) t→tm1.get t=st.tm.get t) :
   ∀y∈o.op.operands.toList,ev tm1 y=rho ops b tm0 st.tm e y:=by
  have hTI:TI ops tm0 st.tm (fun j=>bit done j∨j∈pending (Zj ops.size) effs (b.getD e 0) done) tm1:=fun t=>⟨f1 t,ht0 t⟩
  have hdsL:DS ops b (fun j=>bit done j∨j∈pending (Zj ops.size) effs (b.getD e 0) done):=fun j hj=>by
   rcases hj with hj|hj
   ·exact⟨(D.ds j hj).1,fun k hk=>.inl ((D.ds j hj).2 k hk)⟩
   ·exact⟨((D.pend R) j hj).1,((D.pend R) j hj).2.2.2⟩
  refine R.ev_rho hdsL hTI ho ?_ ?_
  ·rintro (h|h)
   ·exact D.noe e (by simp) h
   ·have:=R.anc_lt _ _ (z15.1 h).2.1;omega
  ·intro j hj;by_cases hb:bit done j
   ·exact .inl hb
   ·refine .inr (z15.2 ⟨by have:=R.anc_lt _ _ hj;have:=z1v ho;omega,hj,hb,fun hje=>?_⟩);obtain⟨pre,hp,hpd,_⟩:=D.sfx;rw[hp.mem_iff] at hje;rcases List.mem_append.1 hje with hje|hje
    ·exact hb (hpd j hje)
    ·rcases List.mem_cons.1 hje with rfl|hje
     ·have:=R.anc_lt _ _ hj;omega
     ·exact((List.pairwise_cons.1 D.topo).1 j hje).2 hj
theorem DI.swap {tm0 tm:Tr Value}{e f done k:Nat}(D:DI ops b effs tm0 [e,f] done tm k) (hb:¬anc b f e) (h1:isSt ops e=true) (h2:isSt ops f=true):DI ops b effs tm0 [f,e] done tm k:=by
 obtain⟨pre,hp,hpd,hk⟩:=D.sfx;have ht:=(List.pairwise_cons.1 D.topo).1 f (by simp);refine⟨D.ds,⟨pre,hp.trans (List.Perm.append_left _ (List.Perm.swap f e [])),hpd,hk⟩,?_,?_,fun g hg=>D.noe g (by simp at hg ⊢;exact hg.symm),D.t0⟩
 ·simp [chainOK,h1,h2]
 ·simp only[List.pairwise_cons,List.mem_singleton,List.not_mem_nil,false_implies,implies_true,List.Pairwise.nil,and_true,forall_eq];exact⟨fun h=>ht.1 h.symm,hb⟩
theorem zi5 (R:RC ops b effs) {tm0:Tr Value}{st st':St}{e f p q done k:Nat}{G:Heap}{gs:List Heap}{tm:Tr Value}{ds:List Deferred}
  (h:ddraw P ok n x ops b effs base [e,f] done (G :: gs) tm ds=some st) (h':ddraw P ok n x ops b effs base [f,e] done (G :: gs) tm ds=some st') (D:DI ops b effs tm0 [e,f] done tm k)
  (hb:¬anc b f e) (h1:isSt ops e=true) (h2:isSt ops f=true) (hpq:dtwin P ops b effs base done (G :: gs) tm e f=some (p,q)) (hag:agree ops base p q st st'=true) :
  (∀t,st'.tm.get t=st.tm.get t)∧(∀j,st'.H.get j=st.H.get j)∧st'.H.next=st.H.next∧st'.ds=st.ds:=by
 have D':=D.swap hb h1 h2;obtain⟨a1,a2,a3,a4⟩:=zi4 hag;have htm:∀t,st'.tm.get t=st.tm.get t:=by
  intro t;by_cases hw:∃(i:Nat) (o:Oper),ops[i]?=some o∧o.dst=some t
  ·obtain⟨i,o,ho,hd⟩:=hw;exact(a1 i o t ho hd).symm
  ·rw[z3p R (k:=k) h D.noe D.topo (fun i o ho hd=>absurd ⟨i,o,ho,hd⟩ hw),z3p R (k:=k) h' D'.noe D'.topo (fun i o ho hd=>absurd ⟨i,o,ho,hd⟩ hw)]
 have hst:∀g∈[e,f],isSt ops g=true:=fun g hg=>by
  rcases List.mem_cons.1 hg with rfl|hg
  ·exact h1
  ·rw[List.mem_singleton] at hg;subst hg;exact h2
 have hst':∀g∈[f,e],isSt ops g=true:=fun g hg=>hst g (by simp at hg ⊢;exact hg.symm)
 obtain⟨s1,s2,s3⟩:=z3r R h D hst;obtain⟨s1',s2',s3'⟩:=z3r R h' D' hst';have hrho:∀i,rho ops b tm0 st'.tm i=rho ops b tm0 st.tm i:=fun i=>by
  funext y
  unfold rho;cases y with
  |tmp t=>simp only[ev,htm]
  |_=>rfl
 have hp:∀o,ops[e]?=some o→stBlk o (rho ops b tm0 st.tm e)=some p:=by
  intro o ho;obtain⟨n',tm1,H1,o',v,ds1,H2,_,hdn,ho',hr,hc⟩:=z3l h;rw[ho] at ho';cases ho';obtain⟨f1,f2⟩:=z3q R D ho hr;obtain⟨_,ht0,_⟩:=z2c R (tmF:=st.tm) hdn z2j D.ds (D.pend R) f1 D.t0;rw[←z5o (z3r.pend_rho R D ho ht0 f1)];unfold dtwin at hpq;simp only at hpq;rw[hdn,ho] at hpq;split at hpq
  ·rename_i t1 _ t2 _ o1 o2 q1 q2 q3 q4;cases q1;cases q3;split at hpq
   ·rename_i p' q' r1 r2;cases hpq;exact r1
   ·cases hpq
  ·cases hpq
 have hq:∀o,ops[f]?=some o→stBlk o (rho ops b tm0 st.tm f)=some q:=by
  intro o ho;obtain⟨n',tm1,H1,o',v,ds1,H2,_,hdn,ho',hr,hc⟩:=z3l h';rw[ho] at ho';cases ho';obtain⟨f1,f2⟩:=z3q R D' ho hr;obtain⟨_,ht0,_⟩:=z2c R (tmF:=st'.tm) hdn z2j D'.ds (D'.pend R) f1 D'.t0;rw[←hrho,←z5o (z3r.pend_rho R D' ho ht0 f1)];unfold dtwin at hpq;simp only at hpq;rw[hdn,ho] at hpq;split at hpq
  ·rename_i t1 _ t2 _ o1 o2 q1 q2 q3 q4;cases q2;cases q4;split at hpq
   ·rename_i p' q' r1 r2;cases hpq;exact r2
   ·cases hpq
  ·cases hpq
 refine⟨htm,fun j=>?_,by rw[s1,s1'],by rw[s2,s2']⟩;by_cases hjp:j=p
 ·rw[hjp];exact a2.symm
 ·by_cases hjq:j=q
  ·rw[hjq];exact a3.symm
  ·by_cases hjb:∃i,i < ops.size∧j=base+i
   ·obtain⟨i,hi,rfl⟩:=hjb;exact(a4 i hi).symm
   ·have hj0:∀i,i < ops.size→j≠base+i:=fun i hi hij=>hjb ⟨i,hi,hij⟩
    have hno:∀g,(g=e∨g=f)→∀o,ops[g]?=some o→stBlk o (rho ops b tm0 st.tm g)≠some j:=by
     rintro g (rfl|rfl) o ho hh
     ·rw[hp o ho] at hh;cases hh;exact hjp rfl
     ·rw[hq o ho] at hh;cases hh;exact hjq rfl
    rw[s3 j hj0 (fun g hg o ho=>hno g (by simpa using hg) o ho),s3' j hj0 (fun g hg o ho=>by rw[hrho];exact hno g (by simp at hg;exact hg.symm) o ho)]
theorem HR.like {N:Nat}{w0 w:World}{τ:Nat→Value}{σ:Nat→Loc}{H H':Heap}(h:HR P N w0 τ σ H' w) (hg:∀j,H'.get j=H.get j) (hn:H'.next=H.next):HR P N w0 τ σ H w :=
 ⟨h.below,h.size,fun i hi=>h.fresh i (by rw[hn];exact hi),fun i B hB=>h.blk i B (by rw[hg];exact hB),h.inj,h.lt⟩
theorem Step.like {σ σ':Nat→Loc}{w w':World}{H0 H H':Heap}(h:Step σ H0 w σ' H' w') (hg:∀j,H'.get j=H.get j) (hn:H'.next=H.next):Step σ H0 w σ' H w' :=
 ⟨by rw[←hn];exact h.next,h.ext,h.new,h.frame,h.size,fun i hi h0=>⟨(h.keep i hi h0).1,by rw[←hg];exact(h.keep i hi h0).2⟩⟩
theorem DrawPost.like {N:Nat}{w0 w1:World}{τ:Nat→Value}{m:Nat}{σ0:Nat→Loc}{H0:Heap}{st st':St}{Q:Exit→Act→World→Prop}(hQ:DrawPost P N w0 τ m σ0 H0 w1 st Q)
  (ht:∀t,st'.tm.get t=st.tm.get t) (hg:∀j,st'.H.get j=st.H.get j) (hn:st'.H.next=st.H.next) (hd:st'.ds=st.ds):DrawPost P N w0 τ m σ0 H0 w1 st' Q :=
 fun σ a w hH htm hds hsz hst=>hQ σ a w (hH.like hg hn) (fun t v hv=>htm t v (by rw[ht];exact hv)) (by rw[←hd];exact hds) hsz (hst.like hg hn)
theorem SI.like {N:Nat}{w0 w1 w:World}{τ:Nat→Value}{m:Nat}{tm0 tmF tmF':Tr Value}{σ0 σ:Nat→Loc}{H0 G:Heap}{S:Nat→Prop}{done:Nat}{ds:List Deferred}{a:Act}
  (I:SI P N w0 τ ops b base m tm0 tmF σ0 H0 w1 S done G ds σ a w) (ht:∀t,tmF'.get t=tmF.get t):SI P N w0 τ ops b base m tm0 tmF' σ0 H0 w1 S done G ds σ a w:=by
 have hrho:∀i,rho ops b tm0 tmF' i=rho ops b tm0 tmF i:=fun i=>by
  funext y
  unfold rho;cases y with
  |tmp t=>simp only[ev,ht]
  |_=>rfl
 have hw:∀o,dwanted ops tmF' o=dwanted ops tmF o:=fun o=>by
  unfold dwanted;simp only[ht]
 exact⟨I.hH,fun t v=>by rw[ht];exact I.ta t v,I.dsr,I.sz,fun p o B mk h1 h2 h3 h4 h5 h6=>I.ex p o B mk h1 h2 h3 h4 (by rw[←hw];exact h5) (by rw[←hrho];exact h6),I.non,I.nob,I.nx,I.stp⟩
end
end Go.Hb
end

section
namespace Go.Hb
open Go Go.RowKit
theorem z21 {F:Fence}{n:Nat}{P:Program}{o:Oper}{a:Act}{w w':World}{K:Act→World→Prop}{Q:Exit→Act→World→Prop}{nx:Next}{v':Value}(hF:∀f,F.fn f) (hnd:∀c,o.op≠.defer c)
    (hr:(execOp a.eval o).run P w=.ok nx w') (hx:nx=.value v'∨(nx=.skip∧v'=undef)) (hK:K (a.put o.dst v') w'):o.wpIn F n P a w K Q:=by
  refine⟨fun f _=>hF f,?_⟩;rw[Oper.semAt_eq _ _ _ hnd,hr];rcases hx with rfl|⟨rfl,rfl⟩
  · rw[Oper.uponIn_value];exact hK
  · rw[Oper.uponIn_skip];exact hK
theorem zc1 {o:Oper}(h:isEff o=false):∀c,o.op≠.defer c:=by
  intro c hc;unfold isEff at h;rw[hc] at h;cases h
def HZ (Z:Prop) (B:Oper→(Operand→Value)→List Deferred→Heap→Prop) (P:Program) (ops:Array Oper) (b:Array Nat) (effs:List Nat) (base:Nat) (es:List Nat) (done:Nat) (G:Heap) (gs:List Heap) (tm:Tr Value) (ds:List Deferred):Prop :=
  Z∨∃e r tm1 H1 o,es=e :: r∧isSt ops e=false∧ops[e]?=some o∧dnon P ops b effs base (G :: gs) (pending (Zj ops.size) effs (b.getD e 0) done) tm G=some (tm1,H1)∧dwanted ops tm1 o=some true∧B o (ev tm1) ds H1
section
variable {P:Program}{N:Nat}{w0:World}{τ:Nat→Value}{ops:Array Oper}{b:Array Nat}{effs:List Nat}{F:Fence}{ok:Ok}{n:Nat}{x:Ctx}{base m:Nat}{tm0:Tr Value}{σ0:Nat→Loc}{H0:Heap}{w1:World}{Q:Exit→Act→World→Prop}
theorem znv {listed:Array Bool}{i fuel:Nat}(hl:listed.size=ops.size) (hi:i < ops.size) (hn:¬lst listed i)
    (h:((Zj ops.size).filter fun j=>!listed.getD j false).length≤fuel+1):((Zj ops.size).filter fun j=>!(listed.setIfInBounds i true).getD j false).length≤fuel:=by
  have:=zc0 (p:=fun j=>!listed.getD j false) (q:=fun j=>!(listed.setIfInBounds i true).getD j false) (l:=Zj ops.size) (i:=i) (fun j hj=>by
    have h1:¬lst (listed.setIfInBounds i true) j:=by unfold lst;simpa using hj
    rw[zdp (by omega)] at h1;have h2:¬lst listed j:=fun h=>h1 (.inl h)
    unfold lst at h2;simpa using h2) (List.mem_range.2 hi) (by unfold lst at hn;simpa using hn) (by
    have h1:lst (listed.setIfInBounds i true) i:=(zdp (by omega)).2 (.inr rfl);unfold lst at h1;simp [h1])
  omega
set_option maxHeartbeats 1000000 in
theorem zl3 (R:RC ops b effs) (hF:∀f,F.fn f) (hτ:∀j,(τ j).oneCell'=true) (hok:ops.toList.all (okOper P.globals.size m)=true) {Z:Prop}{B:Oper→(Operand→Value)→List Deferred→Heap→Prop}(hE:EffLaw F P N w0 τ ok n x ops m tm0 σ0 H0 w1 Q Z B)
    (hg0:GR P σ0) (hb0:∀i,base≤i→H0.next≤i∧σ0 i=.none) :
    ∀(fuel:Nat) (listed:Array Bool) (n':Nat) (es:List Nat) (done:Nat) (G:Heap) (gs:List Heap) (tm:Tr Value) (ds:List Deferred) (σ:Nat→Loc) (a:Act) (w:World) (st:St),n'≤n →
    (Z→DrawPost P N w0 τ m σ0 H0 w1 st Q)→HZ Z B P ops b effs base es done G gs tm ds→es.Pairwise (· < ·) →
    ddraw P ok n' x ops b effs base es done (G :: gs) tm ds=some st→DI ops b effs tm0 es done tm gs.length→listed.size=ops.size→DS ops b (lst listed)→(∀i,bit done i→lst listed i)→(∀e∈es,¬lst listed e) →
    SI P N w0 τ ops b base m tm0 st.tm σ0 H0 w1 (lst listed) done G ds σ a w→((Zj ops.size).filter fun i=>!listed.getD i false).length≤fuel →
    wpAnyIn F 0 P .any ops Q fuel listed a w:=by
  have fin:∀(listed:Array Bool) (n':Nat) (es:List Nat) (done:Nat) (G:Heap) (gs:List Heap) (tm:Tr Value) (ds:List Deferred) (σ:Nat→Loc) (a:Act) (w:World) (st:St),
      (Z→DrawPost P N w0 τ m σ0 H0 w1 st Q)→HZ Z B P ops b effs base es done G gs tm ds→ddraw P ok n' x ops b effs base es done (G :: gs) tm ds=some st→DI ops b effs tm0 es done tm gs.length→(∀i,i < ops.size→lst listed i)→DS ops b (lst listed)→(∀e∈es,¬lst listed e) →
      SI P N w0 τ ops b base m tm0 st.tm σ0 H0 w1 (lst listed) done G ds σ a w→Q .normal a w:=by
    intro listed n' es done G gs tm ds σ a w st hQz hZ hd D hall hS hes I;have hnil:es=[]:=by
      cases es with
      |nil=>rfl
      |cons e es =>
        obtain⟨pre,hp,_⟩:=D.sfx;obtain⟨o,ho,_⟩:=R.mem_effs.1 (show e∈effs from hp.mem_iff.2 (by simp));exact absurd (hall e (z1v ho)) (hes e (by simp))
    subst hnil;have hQ:=hQz (hZ.resolve_right fun ⟨_,_,_,_,_,h,_⟩=>by cases h);obtain⟨tm1,H1,hdn,hst⟩:=z68 hd;have hfac:=z2c R (tmF:=tm1) hdn z5n D.ds (D.last R) (fun t _=>rfl) D.t0;obtain⟨_,ht0,l,hl1,hl2⟩:=hfac;have htm:st.tm=tm1:=by rw[hst]
    have hH1:st.H=H1:=by rw[hst]
    have hds:st.ds=ds:=by rw[hst]
    simp only at hl1;obtain⟨k1,k2,_,_⟩:=zi2 (P:=P) (N:=N) (w0:=w0) (τ:=τ) (base:=base) hb0 l G I.hH I.stp (fun p hp=>by
      obtain⟨q1,o,mk,q2,q3,q4,q5⟩:=hl2 p hp;exact I.ex p.1 o p.2 mk (hall _ (z1v q2)) (z4k.1 q1).2.1 q2 q3 (by rw[htm];exact q4) (by rw[htm];exact q5))
    rw[←hl1] at k1 k2;refine hQ σ a w (by rw[hH1];exact k1) (fun t v hv=>?_) (by rw[hds];exact I.dsr) I.sz (by rw[hH1];exact k2);by_cases hw:written ops (lst listed) t
    · exact(I.ta t v).1 hw hv
    · refine(I.ta t v).2 hw ?_;rw[htm,ht0 t (fun hw'=>hw (z1s (fun i hi=>?_) hw'))] at hv
      · exact hv
      · rcases hi with hi|hi
        · exact hall i (D.ds i hi).1
        · exact hall i (z4k.1 hi).1
  intro fuel
  induction fuel with
  |zero =>
    intro listed n' es done G gs tm ds σ a w st hn hQ hZ hso hd D hl hS hdS hes I hle;have hall:∀i,i < ops.size→lst listed i:=fun i hi=>by
      have hnil:((Zj ops.size).filter fun i=>!listed.getD i false)=[]:=List.eq_nil_of_length_eq_zero (by omega);have:=(List.filter_eq_nil_iff.1 hnil) i (List.mem_range.2 hi);unfold lst;simpa using this
    refine⟨?_,fin listed n' es done G gs tm ds σ a w st hQ hZ hd D hall hS hes I⟩;refine List.eq_nil_iff_forall_not_mem.2 fun i hi=>?_
    have:=(z85 R hl hS).1 hi;exact this.2.1 (hall i this.1)
  |succ fuel ih =>
    intro listed n' es0 done G gs tm ds σ a w st0 hn hQ0 hZ0 hso0 hd0 D0 hl hS hdS hes0 I0 hle;refine⟨fun hr=>fin listed n' es0 done G gs tm ds σ a w st0 hQ0 hZ0 hd0 D0 (zh0 R hl hS hr) hS hes0 I0,fun i hi=>?_⟩;obtain⟨hiz,hil,hia⟩:=(z85 R hl hS).1 hi;have adapt:∃(st:St) (es:List Nat),(Z→DrawPost P N w0 τ m σ0 H0 w1 st Q)∧HZ Z B P ops b effs base es done G gs tm ds∧ddraw P ok n' x ops b effs base es done (G :: gs) tm ds=some st∧DI ops b effs tm0 es done tm gs.length∧(∀e∈es,¬lst listed e) ∧
        SI P N w0 τ ops b base m tm0 st.tm σ0 H0 w1 (lst listed) done G ds σ a w∧(∀r,es=i :: r→r.Pairwise (· < ·))∧(i∈es→∃r,es=i :: r)∧(i∉es→es.Pairwise (· < ·)):=by
      have hrs:∀r,es0=i :: r→r.Pairwise (· < ·):=fun r hr=>by rw[hr] at hso0;exact(List.pairwise_cons.1 hso0).2
      by_cases hie:i∈es0
      · cases es0 with
        |nil=>cases hie
        |cons e r =>
          by_cases hei:i=e
          · exact⟨st0,e :: r,hQ0,hZ0,hd0,D0,hes0,I0,hrs,fun _=>⟨r,by rw[hei]⟩,fun _=>hso0⟩
          · have hir:i∈r:=(List.mem_cons.1 hie).resolve_left hei;rcases z9n D0.ord with h|⟨f,rfl,h1,h2⟩
            · exact absurd (hia e (h i hir)) (hes0 e (by simp))
            · rw[List.mem_singleton] at hir;subst hir;have hb:¬anc b i e:=fun h=>hes0 e (by simp) (hia e h)
              have hlt:e < i:=(List.pairwise_cons.1 hso0).1 i (by simp);obtain⟨st',p,q,t1,t2,t3⟩:=zgz (by unfold anc at hb;simpa using hb) hlt hd0;obtain⟨s1,s2,s3,s4⟩:=zi5 R hd0 t1 D0 hb h1 h2 t2 t3;have hz:Z:=hZ0.resolve_right fun ⟨e',_,_,_,_,he',hn,_⟩=>by cases he';rw[h1] at hn;cases hn
              refine⟨st',[i,e],fun z=>(hQ0 z).like s1 s2 s3 s4,.inl hz,t1,D0.swap hb h1 h2,fun g hg=>hes0 g (by simp at hg ⊢;exact hg.symm),I0.like s1,fun r hr=>?_,fun _=>⟨[e],rfl⟩,fun h=>absurd (by simp) h⟩;cases hr;exact List.pairwise_singleton _ _
      · exact⟨st0,es0,hQ0,hZ0,hd0,D0,hes0,I0,hrs,fun h=>absurd h hie,fun _=>hso0⟩
    obtain⟨st,es,hQ,hZ,hd,D,hes,I,hso1,hhead,hso2⟩:=adapt;obtain⟨o,ho⟩:=z4b hiz;have hg:GR P σ:=hg0.ext I.stp.ext;have hoko:okOper P.globals.size m o=true:=List.all_eq_true.1 hok o (by have:=Array.getElem?_eq_some_iff.1 ho;obtain⟨h1,h2⟩:=this;rw[←h2];exact Array.getElem_mem_toList h1);unfold okOper at hoko;rw[Zi] at hoko;have hdm:∀d,o.dst=some d→d < m:=fun d hd=>by have:=hoko.1;rw[hd] at this;simpa [Nat.blt_eq] using this
    have hop:=I.opnd R hS hg ho hil hia hoko.2;have hl':(listed.setIfInBounds i true).size=ops.size:=by simpa using hl
    have hset:∀j,lst (listed.setIfInBounds i true) j↔lst listed j∨j=i:=fun j=>zdp (by omega)
    have hSeq:lst (listed.setIfInBounds i true)=fun j=>lst listed j∨j=i:=funext fun j=>propext (hset j)
    have hS':DS ops b (lst (listed.setIfInBounds i true)):=fun j hj=>by
      rw[hset] at hj;rcases hj with hj|rfl
      · exact⟨(hS j hj).1,fun k hk=>(hset k).2 (.inl ((hS j hj).2 k hk))⟩
      · exact⟨hiz,fun k hk=>(hset k).2 (.inl (hia k hk))⟩
    have hle':=znv (ops:=ops) hl hiz hil hle;have hwant:∀bb,dwanted ops st.tm o=some bb→Region.wanted o (yielded ops a.tmps)=bb:=fun bb hw=>by
      refine zbz (σ:=σ) (τ:=τ) (fun j want oj d v hgd hoj hdj hv=>?_) hw;exact(I.ta d v).1 ⟨j,oj,hia j (R.guard i o j want ho hgd),hoj,hdj⟩ hv
    unfold wpOpIn;rw[ho];simp only;by_cases hie:i∈es
    ·
      cases es with
      |nil=>cases hie
      |cons e es =>
        obtain⟨pre,hp,hpd,hk⟩:=D.sfx;obtain⟨r,hr⟩:=hhead hie;have hso:=hso1 r hr;cases hr;obtain⟨n'',tm1,H1,o',v,ds1,H2,hlt',hdn,ho',hrest,hcase⟩:=z3l hd;rw[ho] at ho';cases ho';obtain⟨f1,f2⟩:=z3q R D ho hrest;obtain⟨_,ht0,l,hl1,hl2⟩:=z2c R (tmF:=st.tm) hdn z2j D.ds (D.pend R) f1 D.t0;simp only at hl1;have hlS:∀p∈l,lst listed p.1∧¬bit done p.1∧anc b i p.1:=fun p hp=>by
          have:=z15.1 (hl2 p hp).1;exact⟨hia _ this.2.1,this.2.2.1,this.2.1⟩
        obtain⟨k1,k2,k3,k4⟩:=zi2 (P:=P) (N:=N) (w0:=w0) (τ:=τ) (base:=base) hb0 l G I.hH I.stp (fun p hp=>by
          obtain⟨q1,o2,mk,q2,q3,q4,q5⟩:=hl2 p hp;exact I.ex p.1 o2 p.2 mk (hlS p hp).1 (hlS p hp).2.1 q2 q3 q4 q5)
        rw[←hl1] at k1 k2 k3 k4;have hget1:∀p,p < ops.size→¬bit (done ||| b.getD i 0 ||| 2 ^ i) p→H1.get (base+p)=none:=fun p hp hb=>by
          rw [k4 _ (fun q hq e => hb (by rw[z0u];have:p=q.1:=by omega
                                         rw[this];exact .inr (.inl (hlS q hq).2.2)))]
          exact I.nob p hp (fun h=>hb (z0u.2 (.inl h)))
        have hdS':∀j,bit (done ||| b.getD i 0 ||| 2 ^ i) j→lst (listed.setIfInBounds i true) j:=fun j hj=>by
          rw[hset];rcases z0u.1 hj with h|h|h
          · exact .inl (hdS j h)
          · exact .inl (hia j h)
          · exact .inr h
        have hes':∀f∈es,¬lst (listed.setIfInBounds i true) f:=fun f hf h=>by
          rcases (hset f).1 h with h|rfl
          · exact hes f (Zl _ hf) h
          · exact((List.pairwise_cons.1 D.topo).1 f hf).1 rfl
        have D':=D.next R (zav R ho ht0 (v:=v));have hTI:TI ops tm0 st.tm (fun j=>bit done j∨j∈pending (Zj ops.size) effs (b.getD i 0) done) tm1:=fun t=>⟨f1 t,ht0 t⟩
        have hdsL:DS ops b (fun j=>bit done j∨j∈pending (Zj ops.size) effs (b.getD i 0) done):=fun j hj=>by
          rcases hj with hj|hj
          · exact⟨(D.ds j hj).1,fun k hk=>.inl ((D.ds j hj).2 k hk)⟩
          · exact⟨((D.pend R) j hj).1,((D.pend R) j hj).2.2.2⟩
        have hanc:∀j,anc b i j→bit done j∨j∈pending (Zj ops.size) effs (b.getD i 0) done:=fun j hj=>by
          by_cases hb:bit done j
          · exact .inl hb
          · refine .inr (z15.2 ⟨by have:=R.anc_lt _ _ hj;omega,hj,hb,fun hje=>?_⟩);rw[hp.mem_iff] at hje;rcases List.mem_append.1 hje with hje|hje
            · exact hb (hpd j hje)
            · exact hes j hje (hia j hj)
        have hni:¬(bit done i∨i∈pending (Zj ops.size) effs (b.getD i 0) done):=by
          rintro (h|h)
          · exact hil (hdS i h)
          · have:=R.anc_lt _ _ (z15.1 h).2.1;omega
        have hwt:dwanted ops tm1 o=dwanted ops st.tm o:=R.wanted hTI ho hanc;have hρ:=R.ev_rho hdsL hTI ho hni hanc;have next:Z→∀(σ':Nat→Loc) (a':Act) (v':Value) (w':World),a'.tmps=a.tmps→VR σ' τ v v'→HR P N w0 τ σ' H2 w'→DsR σ' τ ds1 a'.defers→Step σ H1 w σ' H2 w' →
            wpAnyIn F 0 P .any ops Q fuel (listed.setIfInBounds i true) (a'.put o.dst v') w':=by
          intro hz σ' a' v' w' hta hvr hH' hdr hst';refine ih _ n'' es _ H2 (G :: gs) _ ds1 σ' _ w' st (by omega) hQ (.inl hz) hso hrest D' hl' hS' hdS' hes' ?_ hle';refine⟨hH',?_,by rw[z0t];exact hdr,by rw[z0v,hta];exact I.sz,fun p op B mk hpS hpd' hop' hal hwp hdal=>?_,fun p hp hpS=>?_,fun p hp hpd'=>?_,by have:=hst'.next;have:=I.nx;omega,k2.trans hst'⟩
          · rw[hSeq];exact I.slots R hst'.ext ho hil hdm (fun d v2 hd hv2=>by rw[f2 d hd] at hv2;cases hv2;exact hvr) hta
          · have hpi:p≠i:=fun e=>hpd' (z0u.2 (.inr (.inr e)))
            have hpS0:lst listed p:=((hset p).1 hpS).resolve_right hpi;have hnd:¬bit done p:=fun h=>hpd' (z0u.2 (.inl h))
            exact(I.ex p op B mk hpS0 hnd hop' hal hwp hdal).step k1 hst' (hget1 p (z1v hop') hpd')
          · have hpS0:¬lst listed p:=fun h=>hpS ((hset p).2 (.inl h))
            have hpb:¬bit (done ||| b.getD i 0 ||| 2 ^ i) p:=fun h=>hpS (hdS' p h)
            rw[(hst'.keep (base+p) (.inl (by have:=I.nx;omega)) (hget1 p hp hpb)).1];exact I.non p hp hpS0
          · exact(hst'.keep (base+p) (.inl (by have:=I.nx;omega)) (hget1 p hp hpd')).2
        have hzb:Z∨(dwanted ops tm1 o=some true∧B o (ev tm1) ds H1):=hZ.imp_right fun ⟨e',_,_,_,_,he',_,ho',hd',hw',hb'⟩=>by
          cases he';rw[ho] at ho';cases ho';rw[hdn] at hd';cases hd';exact⟨hw',hb'⟩
        rcases hcase with ⟨c1,rfl,rfl,rfl⟩|⟨c1,c2⟩
        · rw[hwant false (hwt ▸ c1)];simp only[Zc,if_false];have hz:Z:=hzb.resolve_right fun h=>by rw[c1] at h;cases h.1
          exact⟨fun f _=>hF f,next hz σ a undef w rfl (.flat _ rfl) k1 I.dsr (Step.refl _ _ _)⟩
        · rw[hwant true (hwt ▸ c1)];simp only[if_true];refine hE n'' (by omega) o (ev tm1) ds H1 v ds1 H2 (by have:=Array.getElem?_eq_some_iff.1 ho;obtain⟨h1,h2⟩:=this;rw[←h2];exact Array.getElem_mem h1) (hzb.imp_right fun h=>h.2) c2 a w σ _ (fun y hy=>by rw[hρ y hy];exact hop y hy) k1 I.dsr hg ⟨fun t v hno hv=>(I.ta t v).2 (fun ⟨p,op,_,hp,hd⟩=>hno p op hp hd) hv,I.sz,k2⟩ (fun hz σ' v' w' dfs' hv hH' hdr hst'=>?_);exact next hz σ' { a with defers:=dfs' } v' w' rfl hv hH' hdr hst'
    ·
      obtain⟨pre,hp,hpd,hk⟩:=D.sfx;have hne:isEff o=false:=by
        cases hx:isEff o with
        |false=>rfl
        |true =>
          have:=R.mem_effs.2 ⟨o,ho,hx⟩;rw[hp.mem_iff] at this;rcases List.mem_append.1 this with h|h
          · exact absurd (hdS i (hpd i h)) hil
          · exact absurd h hie
      have hso:=hso2 hie;have hnd:¬bit done i:=fun h=>hil (hdS i h)
      have hcnt:effsIn effs (b.getD i 0)≤gs.length:=by
        unfold effsIn;rw[(hp.filter _).length_eq,List.filter_append,Zu,←hk];have:(es.filter fun e=>(b.getD i 0).testBit e)=[]:=List.filter_eq_nil_iff.2 fun e he hb=>hes e he (hia e hb)
        rw[this];have:=List.length_filter_le (fun e=>(b.getD i 0).testBit e) pre;simpa using this
      have hFN:=z84 R hd D i o ho hne hnd [] G gs rfl hcnt;have hdS':∀j,bit done j→lst (listed.setIfInBounds i true) j:=fun j hj=>(hset j).2 (.inl (hdS j hj))
      have hes':∀f∈es,¬lst (listed.setIfInBounds i true) f:=fun f hf h=>by
        rcases (hset f).1 h with h|rfl
        · exact hes f hf h
        · exact hie hf
      rcases hFN with ⟨c1,c2⟩|⟨c1,c2,B,mk,c3,c4⟩|⟨c1,c2,ρ,v,c3,c4,c5⟩
      ·
        rw[hwant false c1];simp only[Zc,if_false];refine⟨fun f _=>hF f,ih _ n' es done G gs tm ds σ _ w st hn hQ hZ hso hd D hl' hS' hdS' hes' ?_ hle'⟩;refine⟨I.hH,?_,by rw[z0t];exact I.dsr,by rw[z0v];exact I.sz,fun p op B mk hpS hpd' hop' hal hwp hdal=>?_,fun p hp hpS=>I.non p hp (fun h=>hpS ((hset p).2 (.inl h))),I.nob,I.nx,I.stp⟩
        · rw[hSeq];exact I.slots R (Ext.refl σ) ho hil hdm (fun d v2 hd hv2=>by rw[c2 d hd] at hv2;cases hv2;exact .flat _ rfl) rfl
        · rcases (hset p).1 hpS with h|rfl
          · exact I.ex p op B mk h hpd' hop' hal hwp hdal
          · rw[ho] at hop';cases hop';rw[c1] at hwp;cases hwp
      ·
        rw[hwant true c1];simp only[if_true];obtain⟨v',ob,Sz,es1,hrun,hall⟩:=zbx (w:=w) I.hH.size hτ hop c2 c3;have hnn:=I.non i hiz hil;have hlt:base+i < G.next:=by have:=I.nx;omega
        have hH':=I.hH.extra ob Sz es1 hlt hnn;have hb:=hb0 (base+i) (Nat.le_add_right _ _);have he:Ext σ (upd σ (base+i) (.live w.heap.size Sz es1)):=fun j=>by
          by_cases hj:j=base+i
          · rw[hj];exact .inl hnn
          · exact .inr (.inl (z0g _ _ hj))
        obtain⟨hvr,hbr⟩:=hall _ (base+i) he (z0j _ _ _);refine z21 hF (zc1 hne) hrun (.inl rfl) (ih _ n' es done G gs tm ds (upd σ (base+i) (.live w.heap.size Sz es1)) _ _ st hn hQ hZ hso hd D hl' hS' hdS' hes' ?_ hle');refine⟨hH',?_,by rw[z0t];exact I.dsr.ext he,by rw[z0v];exact I.sz,fun p op B2 mk2 hpS hpd' hop' hal hwp hdal=>?_,fun p hp hpS=>?_,I.nob,I.nx,I.stp.extra ob Sz es1 hb.1 hb.2⟩
        · rw[hSeq];exact I.slots R he ho hil hdm (fun d v2 hd hv2=>by rw[c4 d hd] at hv2;cases hv2;exact hvr) rfl
        · rcases (hset p).1 hpS with h|rfl
          · have hpi:p≠i:=fun e=>hil (e ▸ h)
            have hB:=I.ex p op B2 mk2 h hpd' hop' hal hwp hdal;rw[z0g _ _ (by omega)];have hlt2:=I.hH.lt;exact(hB.ext he).world fun c S' es' hc=>Below.heap_alloc w _ c (hlt2 (base+p) c S' es' hc)
          · rw[ho] at hop';cases hop';rw[c3] at hdal;cases hdal;rw[z0j];exact hbr
        · rw[hset] at hpS;have hpi:p≠i:=fun e=>hpS (.inr e)
          rw[z0g _ _ (by omega)];exact I.non p hp fun h=>hpS (.inl h)
      ·
        rw[hwant true c1];simp only[if_true];obtain⟨nx,w',σ',v',hrun,hnx,hvr,hH',hst'⟩:=z3o I.hH hτ (fun y hy=>by rw[c3 y hy];exact hop y hy) c4;refine z21 hF (zc1 hne) hrun hnx (ih _ n' es done G gs tm ds σ' _ w' st hn hQ hZ hso hd D hl' hS' hdS' hes' ?_ hle');have hlow:∀p,p < ops.size→¬bit done p→(base+p < G.next∨σ (base+p)≠.none):=fun p hp _=>.inl (by have:=I.nx;omega)
        refine⟨hH',?_,by rw[z0t];exact I.dsr.ext hst'.ext,by rw[z0v];exact I.sz,fun p op B2 mk2 hpS hpd' hop' hal hwp hdal=>?_,fun p hp hpS=>?_,I.nob,I.nx,I.stp.trans hst'⟩
        · rw[hSeq];exact I.slots R hst'.ext ho hil hdm (fun d v2 hd hv2=>by rw[c5 d hd] at hv2;cases hv2;exact hvr) rfl
        · rcases (hset p).1 hpS with h|rfl
          · exact(I.ex p op B2 mk2 h hpd' hop' hal hwp hdal).step I.hH hst' (I.nob p (z1v hop') hpd')
          · rw[ho] at hop';cases hop';rw[c2] at hal;cases hal
        · rw[hset] at hpS;have hpS0:¬lst listed p:=fun h=>hpS (.inl h)
          rw[(hst'.keep (base+p) (hlow p hp (fun h=>hpS0 (hdS p h))) (I.nob p hp (fun h=>hpS0 (hdS p h)))).1];exact I.non p hp hpS0
end
end Go.Hb
end

section
namespace Go.Hb
open Go Go.RowKit
section
variable {P:Program}{b:Frame}{a:Act}{k:List Item}{cs:List Frame}{w:World}{F:Fence}{n:Nat}{Q:Exit→Act→World→Prop}
theorem z31 {c:Code}:step P (lone (b.atR a (.code (.scope c) :: k)) cs w)=.next (lone (b.atR a (.code c :: .inScope c :: k)) cs w) :=
 step_lone_go (by simp [stepG,stepG.exec,Frame.atR])
theorem zax {c:Code}:step P (lone (b.atR a (.inScope c :: k)) cs w)=.next (lone (b.atR a k) cs w) :=
 step_lone_go (by simp [stepG,stepG.exec,Frame.atR])
def noGoto (Q:Exit→Act→World→Prop):Exit→Act→World→Prop
 |.goto _,_,_=>False
 |e,a,w=>Q e a w
theorem zh1 {c:Code}(h:c.wpIn F n P (noGoto Q) a w):(Code.scope c).wpIn F n P Q a w:=by
 intro b k cs hro hb hr;have h0:(lone (b.atR a (.code (.scope c) :: k)) cs w).fenced P F:=fenced_calm hb hr rfl;obtain⟨e,a₁,w₁,hq,harr⟩:=h b (.inScope c :: k) cs hro hb hr;cases e with
 |normal=>exact⟨.normal,a₁,w₁,hq,.head h0 z31 (StepsIn.trans harr (.one (fenced_calm hb hr rfl) zax))⟩
 |exit id =>
  have hx:exitTo id (.inScope c :: k)=exitTo id k:=by simp [exitTo]
  exact⟨.exit id,a₁,w₁,hq,fun k' hk=>.head h0 z31 (harr.1 k' (by rw[hx];exact hk)),
   fun hr' hk=>let ⟨k₁,h1,h2⟩:=harr.2 hr' (by rw[hx];exact hk);⟨k₁,h1,.head h0 z31 h2⟩⟩
 |goto l=>exact hq.elim
 |ret=>exact⟨_,a₁,w₁,hq,.of_steps (.one h0 z31) harr⟩
 |panic ch=>exact⟨_,a₁,w₁,hq,.of_steps (.one h0 z31) harr⟩
 |outgrown=>exact⟨_,a₁,w₁,hq,.of_steps (.one h0 z31) harr⟩
def seqS (F:Fence) (n:Nat) (P:Program) (Q:Exit→Act→List Frame→World→Prop):List Code→Act→List Frame→World→Prop
 |[]=>Q .normal
 |c :: rs=>c.wpSIn F n P (Exit.thenS (seqS F n P Q rs) Q)
theorem z9o (Q:Exit→Act→List Frame→World→Prop):Exit.thenS (Q .normal) Q=Q:=by
 funext e a cs w;cases e<;>rfl
theorem z87 (Q:Exit→Act→List Frame→World→Prop) (c:Code):∀rs:List Code,seqS F n P Q (rs++[c])=seqS F n P (Exit.thenS (c.wpSIn F n P Q) Q) rs
 |[]=>by show c.wpSIn F n P (Exit.thenS (Q .normal) Q)=_;rw[z9o];rfl
 |d :: rs=>by
  show d.wpSIn F n P (Exit.thenS (seqS F n P Q (rs++[c])) Q)=d.wpSIn F n P (Exit.thenS (seqS F n P (Exit.thenS (c.wpSIn F n P Q) Q) rs) (Exit.thenS (c.wpSIn F n P Q) Q));rw[z87 Q c rs];congr 1
  funext e a cs w
  cases e<;>rfl
theorem zl4:∀{c:Code}{ops:Array Oper}{rs:List Code}{Q:Exit→Act→List Frame→World→Prop}{a:Act}{cs:List Frame}{w:World},headRegion c=some (ops,rs) →
  wpOpsSIn F n P ops (Exit.thenS (seqS F n P Q rs) Q) (Zj ops.size) a cs w→c.wpSIn F n P Q a cs w:=by
 intro c
 induction c with
 |region id ops dr =>
  intro ops' rs Q a cs w h hw;cases dr with
  |true=>cases h
  |false =>
   simp only[headRegion,Option.some.injEq,Prod.mk.injEq] at h;obtain⟨rfl,rfl⟩:=h;refine wpSIn_region ?_;have:Exit.thenS (seqS F n P Q []) Q=Q:=z9o Q;rw[this] at hw;exact hw
 |seq x y ihx _ =>
  intro ops' rs Q a cs w h hw;simp only[headRegion] at h;cases hx:headRegion x with
  |none=>rw[hx] at h;cases h
  |some p =>
   obtain⟨ops1,rs1⟩:=p;rw[hx] at h;simp only[Option.some.injEq,Prod.mk.injEq] at h;obtain⟨rfl,rfl⟩:=h;refine wpSIn_seq (ihx hx ?_);rw[z87] at hw;have:Exit.thenS (seqS F n P (Exit.thenS (y.wpSIn F n P Q) Q) rs1) (Exit.thenS (y.wpSIn F n P Q) Q)=Exit.thenS (seqS F n P (Exit.thenS (y.wpSIn F n P Q) Q) rs1) Q:=by
    funext e a cs w;cases e<;>rfl
   rw[this];exact hw
 |_=>intro ops' rs Q a cs w h;cases h
end
section
variable {P:Program}{N:Nat}{w0:World}{τ:Nat→Value}{σ σ':Nat→Loc}{H:Heap}{w w':World}
theorem HR.drop (h:HR P N w0 τ σ H w) {i:Nat}{b S es:Nat}(hgi:H.get i≠none) (hi:i < H.next) (hl:σ i=.live b S es) (hb:N≤b)
  (hos:w'.os=w.os) (ht:w'.tape=w.tape) (ho:w'.output=w.output) (hs:w'.heap.size=w.heap.size) (hw:∀k,k≠b→w'.heap[k]?=w.heap[k]?) :
  HR P N w0 τ (upd σ i .dead) (H.put i none) w'∧Step σ H w (upd σ i .dead) (H.put i none) w':=by
 obtain⟨h1,s1⟩:=h.kill i hi (by rw[hl];simp) hgi;have hlive:∀j c S' es',upd σ i .dead j=.live c S' es'→c≠b:=fun j c S' es' hj hc=>by
  by_cases hji:j=i
  ·rw[hji,z0j] at hj;cases hj
  ·rw[z0g _ _ hji] at hj;subst hc;exact hji (h.inj j i c S' es' S es hj hl)
 refine⟨⟨h1.below.trans ⟨hos,ht,ho,by have:=h.size;omega,fun k hk=>hw k (by omega)⟩,by rw[hs];exact h.size,h1.fresh,fun j C hj=>?_,h1.inj,fun j c S' es' hj=>by rw[hs];exact h1.lt j c S' es' hj⟩,
  ⟨s1.next,s1.ext,s1.new,fun k hk hn=>?_,by omega,s1.keep⟩⟩
 ·exact(h1.blk j C hj).world fun c S' es' hc=>hw c (hlive j c S' es' hc)
 ·exact hw k fun e=>hgi (hn i S es (e ▸ hl))
theorem z9p:∀(l:List Value) (i:Nat) (t:Tr Value) (j:Nat),(initTm i l t).get j=if i≤j∧j < i+l.length then l[j - i]? else t.get j
 |[],i,t,j=>by
  have:¬(i≤j∧j < i+([]:List Value).length):=by simp
  rw[if_neg this];rfl
 |v :: l,i,t,j=>by
  rw[initTm,z9p l (i+1) _ j];by_cases h1:i+1≤j∧j < i+1+l.length
  ·rw[if_pos h1,if_pos (by simp;omega)];obtain⟨k,hk⟩:∃k,j - i=k+1:=⟨j - i - 1,by omega⟩
   rw[hk,List.getElem?_cons_succ];congr 1;omega
  ·rw[if_neg h1,Tr.get_put];by_cases h2:j=i
   ·subst h2;rw[if_pos rfl,if_pos (by simp)];simp
   ·rw[if_neg h2,if_neg (by simp;omega)]
theorem TmR.init {args:List Value}{args':Array Value}(h:LR σ τ args args'.toList) (nt:Nat):TmR σ τ (initTm 0 args .nil) (args'++Array.replicate (nt - args'.size) undef):=by
 intro j v hv;rw[z9p] at hv;split at hv
 ·rename_i hj;obtain⟨v',hv',hr⟩:=h.get hv;simp only[Nat.sub_zero,ZC] at hv';have hlt:j < args'.size:=(Array.getElem?_eq_some_iff.1 hv').1;rw[ZG,Array.getElem?_append_left hlt,hv'];exact hr
 ·cases hv
theorem TmR.put {tm:Tr Value}{a:Act}(h:TmR σ τ tm a.tmps) (he:Ext σ σ') {d:Option Tmp}{v v':Value}(hd:∀t,d=some t→t < a.tmps.size) (hv:VR σ' τ v v') :
  TmR σ' τ (putD tm d v) (a.put d v').tmps:=by
 intro t u hu;rw[z3y];by_cases hdt:d=some t
 ·rw[if_pos ⟨hdt,hd t hdt⟩];rw[(z3k tm d v t).1 hdt] at hu;cases hu;exact hv
 ·rw[if_neg (fun h=>hdt h.1)];rw[(z3k tm d v t).2 hdt] at hu;exact(h t u hu).ext he
theorem opnd {tm:Tr Value}{a:Act}(h:TmR σ τ tm a.tmps) (hg:GR P σ) {y:Operand}(hy:okOpnd P.globals.size y=true):VR σ τ (ev tm y) (a.eval y):=by
 cases y with
 |tmp t =>
  show VR σ τ ((tm.get t).getD junk) (a.tmps.getD t undef);cases hq:tm.get t with
  |none=>exact .junk _
  |some v=>exact h t v hq
 |const v=>exact .flat _ hy
 |global g=>exact hg.ptr (by simpa [okOpnd,Nat.blt_eq] using hy)
 |func f=>exact .flat _ rfl
def res1 (a:Array Value):ResultVar→Sem Value
 |.tmp t=>pure (a.getD t undef)
 |.cell b t=>do loadVar t (←asAddr (a.getD b undef))
theorem zdr (hH:HR P N w0 τ σ H w) {tm:Tr Value}{a:Array Value}(h:TmR σ τ tm a) {r:ResultVar}{v:Value}(hd:dres1 P tm H r=some v) :
  ∃v',(res1 a r).run P w=.ok v' w∧VR σ τ v v':=by
 cases r with
 |tmp t =>
  simp only[dres1,Option.some.injEq] at hd;subst hd;refine⟨_,rfl,?_⟩;cases hq:tm.get t with
  |none=>exact .junk _
  |some v=>exact h t v hq
 |cell b t =>
  simp only[dres1] at hd;split at hd
  ·rename_i ad hq;have:=h b _ hq;obtain⟨a',e1,hA⟩:=this.ptr_inv;obtain⟨v',hv',hr⟩:=z7y hH hd hA;refine⟨v',?_,hr⟩;simp [res1,e1,asAddr,Sem.run_bind,hv']
  ·cases hd
theorem z88 (hH:HR P N w0 τ σ H w) {tm:Tr Value}{a:Array Value}(h:TmR σ τ tm a):∀{rs:List ResultVar}{vs:List Value},dresL P tm H rs=some vs →
  ∃vs',(rs.mapM (res1 a)).run P w=.ok vs' w∧LR σ τ vs vs'
 |[],vs,hd=>by simp only[dresL,Option.some.injEq] at hd;subst hd;exact⟨[],rfl,LR.nil⟩
 |r :: rs,vs,hd=>by
  simp only[dresL] at hd;split at hd
  ·rename_i v vs1 h1 h2;cases hd;obtain⟨v',e1,r1⟩:=zdr hH h h1;obtain⟨vs',e2,r2⟩:=z88 hH h h2;refine⟨v' :: vs',?_,LR.cons r1 r2⟩;rw[List.mapM_cons,Sem.run_bind,e1,Result.andThen_ok,Sem.run_bind,e2];rfl
  ·cases hd
theorem zh2 (hH:HR P N w0 τ σ H w) {fn:Func}{tm:Tr Value}{a:Array Value}(h:TmR σ τ tm a) {v:Value}(hd:dres P fn tm H=some v) :
  ∃v',(results fn a).run P w=.ok v' w∧VR σ τ v v':=by
 unfold dres at hd;cases hl:dresL P tm H fn.results.toList with
 |none=>rw[hl] at hd;cases hd
 |some vs =>
  rw[hl] at hd;obtain⟨vs',e1,r1⟩:=z88 hH h hl;have hrun:(results fn a).run P w=(do let vs ←fn.results.toList.mapM (res1 a);pure (if h:vs.toArray.size=1 then vs.toArray[0] else Value.tuple vs.toArray):Sem Value).run P w:=by
   have hf:(fun r:ResultVar=>(match r with
    |ResultVar.tmp t=>(pure (a.getD t undef):Sem Value)
    |ResultVar.cell b t=>(do loadVar t (←asAddr (a.getD b undef)):Sem Value)))=res1 a:=by
    funext r;cases r<;>rfl
   show Sem.run P (do let vs ←fn.results.mapM (fun r:ResultVar=>(match r with
    |ResultVar.tmp t=>(pure (a.getD t undef):Sem Value)
    |ResultVar.cell b t=>(do loadVar t (←asAddr (a.getD b undef)):Sem Value)));pure (if h:vs.size=1 then vs[0] else Value.tuple vs)) w=_
   rw[hf,Array.mapM_eq_mapM_toList];simp only[map_eq_pure_bind,bind_assoc,pure_bind]
  rw[hrun,Sem.run_bind,e1,Result.andThen_ok];have hl1:=r1.1
  match vs,hd,r1 with
  |[u],hd,r1 =>
   cases hd;obtain⟨v',r',rfl,hv,hr⟩:=r1.cons_inv;have:=hr.nil_inv;subst this;exact⟨v',rfl,hv⟩
  |[],hd,r1 =>
   cases hd;have:=r1.nil_inv;subst this;exact⟨_,rfl,.flat _ rfl⟩
  |u1 :: u2 :: vs,hd,r1 =>
   cases hd;obtain⟨v1,r',rfl,hv,hr⟩:=r1.cons_inv;obtain⟨v2,r'',rfl,hv2,hr2⟩:=hr.cons_inv;refine⟨.tuple (v1 :: v2 :: r'').toArray,?_,RA.mk_tuple r1⟩;simp
end
end Go.Hb
end

section
namespace Go.Hb
open Go Go.RowKit
def ChR (σ:Nat→Loc) (τ:Nat→Value):List PanicEntry→List PanicEntry→Prop
 |[],[]=>True
 |e :: l,e' :: l'=>VR σ τ e.v e'.v∧e'.recovered=e.recovered∧e'.goexit=e.goexit∧ChR σ τ l l'
 |_,_=>False
def ExR (σ:Nat→Loc) (τ:Nat→Value):Ex→Exit→Prop
 |.normal,.normal=>True
 |.exit i,.exit j=>i=j
 |.ret,.ret=>True
 |.panic ch,.panic ch'=>ChR σ τ ch ch'
 |_,_=>False
def EnR (σ:Nat→Loc) (τ:Nat→Value):En→Ending→Prop
 |.ret v,.returned v'=>VR σ τ v v'
 |.panic ch,.panicked ch'=>ChR σ τ ch ch'
 |_,_=>False
def MdR (σ:Nat→Loc) (τ:Nat→Value):Option (List PanicEntry)→FrameMode→Prop
 |none,.returning=>True
 |some ch,.panicking ch'=>ChR σ τ ch ch'
 |_,_=>False
structure SR (P:Program) (N:Nat) (w0:World) (τ:Nat→Value) (σ:Nat→Loc) (st:St) (m:Nat) (a:Act) (w:World):Prop where
 hH:HR P N w0 τ σ st.H w
 tm:TmR σ τ st.tm a.tmps
 ds:DsR σ τ st.ds a.defers
 sz:m≤a.tmps.size
 gr:GR P σ
def FRel (x:Ctx) (F:Fence):Prop:=(x.round=none∧F=Fence.wide)∨(x.round≠none∧∃l,F=Fence.wide.inRound l)
section
variable {P:Program}{N:Nat}{w0:World}{τ:Nat→Value}{σ σ':Nat→Loc}{H:Heap}{w w':World}
theorem ChR.ext (he:Ext σ σ'):∀{l l':List PanicEntry},ChR σ τ l l'→ChR σ' τ l l'
 |[],[],_=>trivial
 |_ :: _,_ :: _,h=>⟨h.1.ext he,h.2.1,h.2.2.1,ChR.ext he h.2.2.2⟩
 |[],_ :: _,h=>h.elim
 |_ :: _,[],h=>h.elim
theorem MdR.ext (he:Ext σ σ'):∀{m:Option (List PanicEntry)}{u:FrameMode},MdR σ τ m u→MdR σ' τ m u
 |none,.returning,_=>trivial
 |some _,.panicking _,h=>ChR.ext he h
 |none,.run,h=>h.elim
 |none,.panicking _,h=>h.elim
 |some _,.run,h=>h.elim
 |some _,.returning,h=>h.elim
theorem MdR.ne_run {m:Option (List PanicEntry)}{u:FrameMode}(h:MdR σ τ m u):u≠.run:=by
 rintro rfl;cases m<;>exact h
theorem ChR.dropWhile:∀{l l':List PanicEntry},ChR σ τ l l'→ChR σ τ (l.dropWhile (!·.goexit)) (l'.dropWhile (!·.goexit))
 |[],[],_=>trivial
 |e :: l,e' :: l',h=>by
  simp only[List.dropWhile_cons];rw[h.2.2.1];split
  ·exact ChR.dropWhile h.2.2.2
  ·exact h
 |[],_ :: _,h=>h.elim
 |_ :: _,[],h=>h.elim
theorem MdR.settle:∀{m:Option (List PanicEntry)}{u:FrameMode},MdR σ τ m u→MdR σ τ (dsettle m) (settle u)
 |none,.returning,_=>trivial
 |some [],.panicking [],_=>trivial
 |some (⟨v,r,g⟩ :: l),.panicking (⟨v',r',g'⟩ :: l'),h=>by
  have hr:r'=r:=h.2.1;subst hr;cases r' with
  |false=>exact h
  |true =>
   have hd:=h.2.2.2.dropWhile;unfold dsettle Go.settle;simp only[if_true];revert hd;generalize l.dropWhile (!·.goexit)=x;generalize l'.dropWhile (!·.goexit)=y;intro hd
   match x,y,hd with
   |[],[],_=>trivial
   |_ :: _,_ :: _,hd=>exact hd
   |[],_ :: _,hd=>exact hd.elim
   |_ :: _,[],hd=>exact hd.elim
 |none,.run,h=>h.elim
 |none,.panicking _,h=>h.elim
 |some _,.run,h=>h.elim
 |some _,.returning,h=>h.elim
 |some [],.panicking (_ :: _),h=>h.elim
 |some (_ :: _),.panicking [],h=>h.elim
theorem zds {m:Option (List PanicEntry)}{c₀:Frame}{cs:List Frame}(h:MdR σ τ m c₀.mode) :
  ∃v' u',(match recoverD (c₀ :: cs) with|some (v,cs')=>(v,cs')|none=>(.nilIface,c₀ :: cs))=(v',{ c₀ with mode:=u' } :: cs)∧VR σ τ (drecov m).1 v'∧MdR σ τ (drecov m).2 u':=by
 obtain⟨f1,f2,f3,f4,mode,f6,f7⟩:=c₀;simp only at h
 match m,mode,h with
 |none,.returning,_=>exact⟨.nilIface,.returning,rfl,.flat _ rfl,trivial⟩
 |some [],.panicking [],_=>exact⟨.nilIface,.panicking [],rfl,.flat _ rfl,trivial⟩
 |some (⟨v,r,g⟩ :: l),.panicking (⟨v',r',g'⟩ :: l'),h =>
  have hr:r'=r:=h.2.1;have hg:g'=g:=h.2.2.1;subst hr hg;cases r' with
  |true=>exact⟨.nilIface,.panicking (⟨v',true,g'⟩ :: l'),rfl,.flat _ rfl,h⟩
  |false =>
   cases g' with
   |true=>exact⟨.nilIface,.panicking (⟨v',false,true⟩ :: l'),rfl,.flat _ rfl,h⟩
   |false=>exact⟨v',.panicking (⟨v',true,false⟩ :: l'),rfl,h.1,⟨h.1,rfl,rfl,h.2.2.2⟩⟩
theorem HR.loopAt (hH:HR P N w0 τ σ H w) {l:Nat}{s:LoopState}{pend:Option Code}{fn:FuncId}{tm:Tr Value}{ps:List Tmp}{as bo:Code}{k:Nat}(hg:H.get l=some (.loop s pend fn tm ps as bo k)) :
  ∃b S es m L,σ l=.live b S es∧N≤b∧w.heap[b]?=some (.loop L)∧L.state=s∧L.pending=pend∧L.params.toList=ps∧L.assign=as∧L.body=bo∧TmR σ τ tm L.tmps∧m≤L.tmps.size ∧
   okCode P.globals.size m as=true∧okCode P.globals.size m bo=true∧(∀t∈ps,t < m)∧(pend=none∨pend=some .ret∨∃id,pend=some (.exit id)):=by
 have hB:=hH.blk l _ hg;generalize hσ:σ l=loc at hB;cases hB with
 |loop b S es _ _ _ _ _ _ _ _ m L h1 h2 h3 h4 h5 h6 h7 h8 h9 h10 h11 h12 h13=>exact⟨b,S,es,m,L,rfl,h1,h2,h3,h4,h5,h6,h7,h8,h9,h10,h11,h12,h13⟩
theorem BR.at' {l l' b S es:Nat}(h:BR σ l l') (hl:σ l=.live b S es):l'=b:=by
 unfold BR at h;rw[hl] at h;exact h
theorem z4l {b:Nat}{L:Loop}(h:w.heap[b]?=some (.loop L)):(Instr.getLoop b).run P w=.ok L w:=by
 have hg:(getObj b).run P w=.ok (.loop L) w:=by simp [getObj,Sem.run,h]
 simp [Instr.getLoop,Sem.run_bind,hg]
theorem z5p {b:Nat}{o:Obj}{L:Loop}(h:w.heap[b]?=some (.loop L)):(setObj b o).run P w=.ok () { w with heap:=w.heap.setIfInBounds b o }:=by
 simp [setObj,Sem.run,h]
theorem zh3 {b:Nat}{o:Obj}{l:Option (List Deferred)}(h:w.heap[b]?=some (.deferred l)):(setObj b o).run P w=.ok () { w with heap:=w.heap.setIfInBounds b o }:=by
 simp [setObj,Sem.run,h]
theorem HR.setLoop (hH:HR P N w0 τ σ H w) {l:Nat}{s s':LoopState}{pend pend':Option Code}{fn:FuncId}{tm:Tr Value}{ps:List Tmp}{as bo:Code}{k b S es m:Nat}{L:Loop}(hg:H.get l=some (.loop s pend fn tm ps as bo k))
  (hσ:σ l=.live b S es) (hN:N≤b) (hb:w.heap[b]?=some (.loop L)) (h5:L.params.toList=ps) (h6:L.assign=as) (h7:L.body=bo) (h8:TmR σ τ tm L.tmps) (h9:m≤L.tmps.size)
  (h10:okCode P.globals.size m as=true) (h11:okCode P.globals.size m bo=true) (h12:∀t∈ps,t < m) (h13:pend'=none∨pend'=some .ret∨∃id,pend'=some (.exit id)) :
  HR P N w0 τ σ (H.put l (some (.loop s' pend' fn tm ps as bo k))) { w with heap:=w.heap.setIfInBounds b (.loop { L with state:=s',pending:=pend' }) } ∧
  Step σ H w σ (H.put l (some (.loop s' pend' fn tm ps as bo k))) { w with heap:=w.heap.setIfInBounds b (.loop { L with state:=s',pending:=pend' }) }:=by
 have hbl:=(Array.getElem?_eq_some_iff.1 hb).1;exact hH.write (by rw[hg];simp) hσ hN rfl rfl rfl (by simp) (fun j hj=>z77 _ hj)
  (.loop b S es s' pend' fn tm ps as bo k m { L with state:=s',pending:=pend' } hN (z7o _ hbl) rfl rfl h5 h6 h7 h8 h9 h10 h11 h12 h13)
theorem zi6 {m:Nat}:∀{ps:List Tmp}{args args':List Value}{tm:Tr Value}{a:Array Value},LR σ τ args args'→TmR σ τ tm a→m≤a.size→(∀t∈ps,t < m) →
  TmR σ τ ((ps.zip args).foldl (fun t p=>t.put p.1 (some p.2)) tm) ((ps.zip args').foldl (fun tmps p=>tmps.setIfInBounds p.1 p.2) a)∧((ps.zip args').foldl (fun tmps p=>tmps.setIfInBounds p.1 p.2) a).size=a.size
 |[],args,args',tm,a,_,ht,_,_=>by simpa using ht
 |p :: ps,[],args',tm,a,hl,ht,_,_=>by rw[hl.nil_inv];simpa using ht
 |p :: ps,v :: args,args',tm,a,hl,ht,hm,hp=>by
  obtain⟨v',r',rfl,hv,hr⟩:=hl.cons_inv;simp only[List.zip_cons_cons,List.foldl_cons];have hlt:p < a.size:=Zt (hp p (by simp)) hm;have h1:TmR σ τ (tm.put p (some v)) (a.setIfInBounds p v'):=fun t u hu=>by
   rw[Tr.get_put] at hu;rw[ZG,Array.getElem?_setIfInBounds];by_cases h:t=p
   ·rw[if_pos h] at hu;cases hu;rw[if_pos h.symm,if_pos hlt];exact hv
   ·rw[if_neg h] at hu;rw[if_neg (fun e=>h e.symm)];have:=ht t u hu;rw[ZG] at this;exact this
  obtain⟨k1,k2⟩:=zi6 hr h1 (by simpa using hm) (fun t ht=>hp t (Zl _ ht));exact⟨k1,by rw[k2];simp⟩
end
end Go.Hb
end

section
namespace Go.Hb
open Go Go.RowKit
section
variable (P:Program) (N:Nat) (w0:World) (τ:Nat→Value) (ok:Ok)
def seqW (F:Fence) (P:Program) (Q:Exit→Act→World→Prop):List Code→Act→World→Prop
  |[]=>Q .normal
  |c :: rs=>c.wpIn F 0 P (Exit.then (seqW F P Q rs) Q)
def Cont (σ:Nat→Loc) (H:Heap) (w:World) (ex:Ex) (st':St) (m:Nat) (Q:Exit→Act→World→Prop):Prop :=
  ∀e a' w' σ',ExR σ' τ ex e→SR P N w0 τ σ' st' m a' w'→Step σ H w σ' st'.H w'→Q e a' w'
structure All (n:Nat):Prop where
  code:∀{x c st ex st' m a w σ F}(Q:Exit→Act→World→Prop),dcode P ok n x c st=some (ex,st')→okCode P.globals.size m c=true→SR P N w0 τ σ st m a w→FRel x F →
    Cont P N w0 τ σ st.H w ex st' m Q→c.wpIn F 0 P Q a w
  loop:∀{x c st ex st' m a w σ F}(Q:Exit→Act→World→Prop),dcode P ok n x (.loop c) st=some (ex,st')→okCode P.globals.size m c=true→SR P N w0 τ σ st m a w→FRel x F →
    Cont P N w0 τ σ st.H w ex st' m Q→Code.roundsIn F 0 P c Q n a w
  seq:∀{x rs st ex st' m a w σ F}(Q:Exit→Act→World→Prop),dseq P ok n x rs st=some (ex,st')→(∀c∈rs,okCode P.globals.size m c=true)→SR P N w0 τ σ st m a w→FRel x F →
    Cont P N w0 τ σ st.H w ex st' m Q→seqW F P Q rs a w
  ops:∀{x ops l st ex st' m a w σ F}(Q:Exit→Act→World→Prop),dops P ok n x ops l st=some (ex,st')→ops.toList.all (okOper P.globals.size m)=true→SR P N w0 τ σ st m a w→FRel x F →
    Cont P N w0 τ σ st.H w ex st' m Q→wpOpsIn F 0 P ops Q l a w
  op1:∀{x o ρ ds H r a w σ F}(K:Act→World→Prop) (Q:Exit→Act→World→Prop),dop1 P ok n x o ρ ds H=some r→(∀y∈o.op.operands.toList,VR σ τ (ρ y) (a.eval y))→HR P N w0 τ σ H w→DsR σ τ ds a.defers→GR P σ→FRel x F →
    (match (generalizing:=false) r with
     |.val v ds1 H1=>∀ σ' v' w' dfs',VR σ' τ v v'→HR P N w0 τ σ' H1 w'→DsR σ' τ ds1 dfs'→Step σ H w σ' H1 w'→K (({ a with defers:=dfs' }:Act).put o.dst v') w'
     |.panic ch H1=>∀ σ' ch' w',ChR σ' τ ch ch'→HR P N w0 τ σ' H1 w'→Step σ H w σ' H1 w'→Q (.panic ch') a w')→o.wpIn F 0 P a w K Q
  call:∀{f args args' H en H' w σ},dcall P ok n f args H=some (en,H')→LR σ τ args args'.toList→HR P N w0 τ σ H w→GR P σ →
    CallsIn Fence.wide 0 P f args' w fun e w'=>∃ σ',EnR σ' τ en e∧HR P N w0 τ σ' H' w'∧Step σ H w σ' H' w'
  leave:∀{fn tm ds md H en H' tmps ds' u w σ}(R:Ending→World→Prop),dleave P ok n fn tm ds md H=some (en,H')→TmR σ τ tm tmps→DsR σ τ ds ds'→MdR σ τ md u→HR P N w0 τ σ H w→GR P σ →
    (∀e w' σ',EnR σ' τ en e→HR P N w0 τ σ' H' w'→Step σ H w σ' H' w'→R e w')→LeavesInM Fence.wide 0 P fn tmps R ds' u w
  round:∀{l l' args args' H v H' w σ},dround P ok n l args H=some (v,H')→BR σ l l'→LR σ τ args args'.toList→HR P N w0 τ σ H w→GR P σ →
    ∃f tmps as bo,(Instr.yield l' args').run P w=.ok (.round l' f tmps as bo) w ∧
      ∀(F:Fence),(F=Fence.wide∨∃l2,F=Fence.wide.inRound l2)→RoundIn F 0 P l' f tmps as bo w fun e w'=>∃v' σ',e=.returned v'∧VR σ' τ v v'∧HR P N w0 τ σ' H' w'∧Step σ H w σ' H' w'
end
end Go.Hb
end

section
namespace Go.Hb
open Go Go.RowKit
section
variable {P:Program}{N:Nat}{w0:World}{τ:Nat→Value}{ok:Ok}{n:Nat}
theorem FRel.fn {x:Ctx}{F:Fence}(h:FRel x F):∀f,F.fn f:=by
  intro f;rcases h with ⟨_,rfl⟩|⟨_,l,rfl⟩<;>trivial
theorem FRel.depth {x:Ctx}{F:Fence}(h:FRel x F):F.depth.isSome=true→1≤0:=by
  intro hd;rcases h with ⟨_,rfl⟩|⟨_,l,rfl⟩<;>cases hd
theorem FRel.calls {x:Ctx}{F:Fence}(h:FRel x F) {f:FuncId}{args:Array Value}{w:World}{R:Ending→World→Prop}(hc:CallsIn Fence.wide 0 P f args w R):CallsIn F 0 P f args w R:=by
  rcases h with ⟨_,rfl⟩|⟨_,l,rfl⟩
  · exact hc
  · exact hc
theorem FRel.any {x:Ctx}{F:Fence}(h:FRel x F):F=Fence.wide∨∃l2,F=Fence.wide.inRound l2:=by
  rcases h with ⟨_,h⟩|⟨_,h⟩
  · exact .inl h
  · exact .inr h
theorem zi7 {o:Oper}{ρ:Operand→Value}{H:Heap}{r:Dr}{c:Call}(ho:o.op=.defer c) (h:dop P o ρ H=some r):∃d,r=.dfr d:=by
  unfold dop at h;rw[ho] at h;simp only at h;split at h
  · split at h
    · cases h;exact⟨_,rfl⟩
    · cases h
  · cases h
theorem zer (hτ:∀j,(τ j).oneCell'=true) (A:All P N w0 τ ok n) {x o ρ ds H r a w σ F}(K:Act→World→Prop) (Q:Exit→Act→World→Prop) (h:dop1 P ok (n+1) x o ρ ds H=some r)
    (hρ:∀y∈o.op.operands.toList,VR σ τ (ρ y) (a.eval y)) (hH:HR P N w0 τ σ H w) (hds:DsR σ τ ds a.defers) (hg:GR P σ) (hF:FRel x F)
    (hK:match (generalizing:=false) r with
     |.val v ds1 H1=>∀ σ' v' w' dfs',VR σ' τ v v'→HR P N w0 τ σ' H1 w'→DsR σ' τ ds1 dfs'→Step σ H w σ' H1 w'→K (({ a with defers:=dfs' }:Act).put o.dst v') w'
     |.panic ch H1=>∀ σ' ch' w',ChR σ' τ ch ch'→HR P N w0 τ σ' H1 w'→Step σ H w σ' H1 w'→Q (.panic ch') a w'):o.wpIn F 0 P a w K Q:=by
  unfold dop1 at h;have hnd:∀dr,dop P o ρ H=some dr→(∀d,dr≠.dfr d)→∀c,o.op≠.defer c:=fun dr hd hne c hc=>by
    obtain⟨d,hd'⟩:=zi7 hc hd;exact hne d hd'
  split at h
  ·
    rename_i v H' hd;cases h;obtain⟨nx,w',σ',v',hrun,hnx,hv,hH',hst⟩:=z3o hH hτ hρ hd;exact z21 hF.fn (hnd _ hd (by simp)) hrun hnx (hK σ' v' w' a.defers hv hH' (hds.ext hst.ext) hst)
  ·
    rename_i f args hd;obtain⟨args',hrun,hl⟩:=z3o hH hτ hρ hd;refine⟨fun f _=>hF.fn f,?_⟩;rw[Oper.semAt_eq _ _ _ (hnd _ hd (by simp)),hrun,Oper.uponIn_enter];refine⟨hF.depth,?_⟩;cases hc:dcall P ok n f args H with
    |none=>rw[hc] at h;cases h
    |some p =>
      obtain⟨en,H'⟩:=p;rw[hc] at h;refine hF.calls (CallsIn.mono (A.call hc hl hH hg) fun e w' he=>?_);obtain⟨σ',hen,hH',hst⟩:=he;cases en with
      |ret v =>
        cases h;cases e with
        |returned v'=>exact hK σ' v' w' a.defers hen hH' (hds.ext hst.ext) hst
        |panicked _=>exact hen.elim
        |outgrown=>exact hen.elim
      |panic ch =>
        cases h;cases e with
        |returned v'=>exact hen.elim
        |panicked ch'=>exact hK σ' ch' w' hen hH' hst
        |outgrown=>exact hen.elim
  ·
    rename_i l args hd;obtain⟨l',args',hrun,hbr,hl⟩:=z3o hH hτ hρ hd;cases hc:dround P ok n l args H with
    |none=>rw[hc] at h;cases h
    |some p =>
      obtain⟨v,H'⟩:=p;rw[hc] at h;cases h;obtain⟨f,tmps,as,bo,hy,hr⟩:=A.round hc hbr hl hH hg;refine⟨fun f _=>hF.fn f,?_⟩;rw[Oper.semAt_eq _ _ _ (hnd _ hd (by simp)),hrun,hy,Oper.uponIn_round];refine⟨hF.depth,RoundIn.mono (hr F hF.any) fun e w' he=>?_⟩;obtain⟨v',σ',rfl,hv,hH',hst⟩:=he;exact hK σ' v' w' a.defers hv hH' (hds.ext hst.ext) hst
  ·
    rename_i d hd;obtain⟨d',hrun,hdr⟩:=z3o hH hτ hρ hd;cases hx:x.round with
    |some _=>rw[hx] at h;cases h
    |none =>
      rw[hx] at h;cases h;refine⟨fun f _=>hF.fn f,?_⟩;have hFw:F=Fence.wide:=by
        rcases hF with ⟨_,h⟩|⟨h,_⟩
        · exact h
        · exact absurd hx h
      subst hFw;show o.uponIn Fence.wide 0 P a K Q ((execOp a.eval o).run P w);rw[hrun,Oper.uponIn_defer];exact hK σ undef w (d' :: a.defers) (.flat _ rfl) hH ⟨hdr,hds⟩ (Step.refl _ _ _)
  ·
    rename_i v hd;cases h;obtain⟨v',hrun,hv⟩:=z3o hH hτ hρ hd;refine⟨fun f _=>hF.fn f,?_⟩;rw[Oper.semAt_eq _ _ _ (hnd _ hd (by simp)),hrun,Oper.uponIn_panic];exact hK σ _ w ⟨hv,rfl,rfl,trivial⟩ hH (Step.refl _ _ _)
  · cases h
theorem zl5 (A:All P N w0 τ ok n) {x ops l st ex st' m a w σ F}(Q:Exit→Act→World→Prop) (h:dops P ok (n+1) x ops l st=some (ex,st')) (hok:ops.toList.all (okOper P.globals.size m)=true) (hs:SR P N w0 τ σ st m a w)
    (hF:FRel x F) (hQ:Cont P N w0 τ σ st.H w ex st' m Q):wpOpsIn F 0 P ops Q l a w:=by
  cases l with
  |nil =>
    unfold dops at h;cases h;exact hQ .normal a w σ trivial hs (Step.refl _ _ _)
  |cons i rest =>
    unfold dops at h;unfold wpOpsIn;cases ho:ops[i]? with
    |none=>rw[ho] at h;cases h
    |some o =>
      rw[ho] at h;simp only at h ⊢;have hmem:o∈ops.toList:=by
        obtain⟨h1,h2⟩:=Array.getElem?_eq_some_iff.1 ho;rw[←h2];exact Array.getElem_mem_toList h1
      have hoko:=List.all_eq_true.1 hok o hmem;unfold okOper at hoko;rw[Zi] at hoko;have hdm:∀d,o.dst=some d→d < m:=fun d hd=>by have:=hoko.1;rw[hd] at this;simpa [Nat.blt_eq] using this
      have hput:∀{σ':Nat→Loc}{v v':Value}{ds:List Deferred}{dfs:List Deferred}{H':Heap}{w':World},Ext σ σ'→VR σ' τ v v'→HR P N w0 τ σ' H' w'→DsR σ' τ ds dfs →
          SR P N w0 τ σ' (St.put ⟨st.tm,ds,st.H⟩ o.dst v H') m (({ a with defers:=dfs }:Act).put o.dst v') w':=by
        intro σ' v v' ds dfs H' w' he hv hH' hd;have htm:=TmR.put (a:={ a with defers:=dfs }) hs.tm he (d:=o.dst) (fun t ht=>Zt (hdm t ht) hs.sz) hv;have hst:St.put ⟨st.tm,ds,st.H⟩ o.dst v H'=⟨putD st.tm o.dst v,ds,H'⟩:=by cases o.dst<;>rfl
        rw[hst];exact⟨hH',htm,by rw[z0t];exact hd,by rw[z0v];exact hs.sz,hs.gr.ext he⟩
      cases hw:dwanted ops st.tm o with
      |none=>rw[hw] at h;cases h
      |some bb =>
        rw[hw] at h;have hwant:=zbz (σ:=σ) (τ:=τ) (a:=a.tmps) (fun j want oj d v _ _ _ hv=>hs.tm d v hv) hw;rw[hwant];cases bb with
        |false =>
          simp only[Zc,if_false] at h ⊢;refine⟨fun f _=>hF.fn f,A.ops Q h hok (hput (Ext.refl σ) (.flat _ rfl) hs.hH hs.ds) hF ?_⟩;intro e a' w' σ' he hs' hst;refine hQ e a' w' σ' he hs' ?_;have:(st.put o.dst undef st.H).H=st.H:=by cases o.dst<;>rfl
          rw[this] at hst;exact hst
        |true =>
          simp only[if_true] at h ⊢;cases h1:dop1 P ok n x o (ev st.tm) st.ds st.H with
          |none=>rw[h1] at h;cases h
          |some r =>
            rw[h1] at h;refine A.op1 _ Q h1 (fun y hy=>opnd hs.tm hs.gr (List.all_eq_true.1 hoko.2 y hy)) hs.hH hs.ds hs.gr hF ?_;cases r with
            |val v ds1 H1 =>
              intro σ' v' w' dfs' hv hH' hd' hst;refine A.ops Q h hok (hput hst.ext hv hH' hd') hF ?_;intro e a' w'' σ'' he hs' hst';refine hQ e a' w'' σ'' he hs' ?_;have:(St.put ⟨st.tm,ds1,st.H⟩ o.dst v H1).H=H1:=by cases o.dst<;>rfl
              rw[this] at hst';exact hst.trans hst'
            |panic ch H1 =>
              intro σ' ch' w' hch hH' hst;cases h;exact hQ (.panic ch') a w' σ' hch ⟨hH',fun t v hv=>(hs.tm t v hv).ext hst.ext,hs.ds.ext hst.ext,hs.sz,hs.gr.ext hst.ext⟩ hst
theorem zl6 (A:All P N w0 τ ok n) {x rs st ex st' m a w σ F}(Q:Exit→Act→World→Prop) (h:dseq P ok (n+1) x rs st=some (ex,st')) (hok:∀c∈rs,okCode P.globals.size m c=true) (hs:SR P N w0 τ σ st m a w)
    (hF:FRel x F) (hQ:Cont P N w0 τ σ st.H w ex st' m Q):seqW F P Q rs a w:=by
  cases rs with
  |nil=>unfold dseq at h;cases h;exact hQ .normal a w σ trivial hs (Step.refl _ _ _)
  |cons c rs =>
    unfold dseq at h;cases hc:dcode P ok n x c st with
    |none=>rw[hc] at h;cases h
    |some p =>
      obtain⟨ex1,st1⟩:=p;rw[hc] at h;refine A.code _ hc (hok c (by simp)) hs hF ?_;intro e a' w' σ' he hs' hst;cases ex1 with
      |normal =>
        cases e<;>try exact he.elim
        exact A.seq Q h (fun d hd=>hok d (Zl _ hd)) hs' hF fun e2 a2 w2 σ2 he2 hs2 hst2=>hQ e2 a2 w2 σ2 he2 hs2 (hst.trans hst2)
      | exit i => cases h;cases e<;>try exact he.elim
                  exact hQ _ a' w' σ' he hs' hst
      | ret => cases h;cases e<;>try exact he.elim
               exact hQ _ a' w' σ' he hs' hst
      | panic ch => cases h;cases e<;>try exact he.elim
                    exact hQ _ a' w' σ' he hs' hst
theorem zi8 (A:All P N w0 τ ok n) {x c st ex st' m a w σ F}(Q:Exit→Act→World→Prop) (hm:mapShape c=none) (h:dcode P ok (n+1) x (.loop c) st=some (ex,st')) (hok:okCode P.globals.size m c=true) (hs:SR P N w0 τ σ st m a w)
    (hF:FRel x F) (hQ:Cont P N w0 τ σ st.H w ex st' m Q):Code.roundsIn F 0 P c Q (n+1) a w:=by
  unfold dcode at h;simp only at h;rw[hm] at h;simp only at h;rw[roundsIn_succ];cases hc:dcode P ok n x c st with
  |none=>rw[hc] at h;cases h
  |some p =>
    obtain⟨ex1,st1⟩:=p;rw[hc] at h;refine A.code _ hc hok hs hF ?_;intro e a' w' σ' he hs' hst;cases ex1 with
    |normal =>
      cases e<;>try exact he.elim
      exact A.loop Q h hok hs' hF fun e2 a2 w2 σ2 he2 hs2 hst2=>hQ e2 a2 w2 σ2 he2 hs2 (hst.trans hst2)
    | exit i => cases h;cases e<;>try exact he.elim
                exact hQ _ a' w' σ' he hs' hst
    | ret => cases h;cases e<;>try exact he.elim
             exact hQ _ a' w' σ' he hs' hst
    | panic ch => cases h;cases e<;>try exact he.elim
                  exact hQ _ a' w' σ' he hs' hst
end
end Go.Hb
end

section
namespace Go.Hb
open Go Go.RowKit
section
variable {τ:Nat→Value}{σ0 σ' σ2:Nat→Loc}
theorem AR.cut (hc:∀i,σ0 i≠.none→σ2 i=σ' i) {a a' a0:Addr}(h:AR σ' a a') (h0:AR σ0 a a0):AR σ2 a a':=by
 unfold AR at *;cases hsp:a.spot with
 |some _=>trivial
 |none =>
  rw[hsp] at h h0;simp only at h h0 ⊢;have hne:σ0 a.block≠.none:=fun e=>by rw[e] at h0;exact h0
  rw[hc _ hne];exact h
theorem BR.cut (hc:∀i,σ0 i≠.none→σ2 i=σ' i) {a a' a0:Nat}(h:BR σ' a a') (h0:BR σ0 a a0):BR σ2 a a':=by
 unfold BR at *;have hne:σ0 a≠.none:=fun e=>by rw[e] at h0;exact h0
 rw[hc _ hne];exact h
theorem VR.cut (hc:∀i,σ0 i≠.none→σ2 i=σ' i) {v v' v0:Value}(h:VR σ' τ v v') (h0:VR σ0 τ v v0):VR σ2 τ v v':=by
 have ra:∀{x x' x0:Array Value},x.size=x'.size→(∀(i:Nat) v v',x[i]?=some v→x'[i]?=some v'→∀v0,VR σ0 τ v v0→VR σ2 τ v v')→RA σ0 τ x x0→∀(i:Nat) v v',x[i]?=some v→x'[i]?=some v'→VR σ2 τ v v':=by
  intro x x' x0 hs ih k i v v' hv hv';obtain⟨u,hu,hr⟩:=LR.get k (i:=i) (v:=v) (by simpa using hv);exact ih i v v' hv hv' u hr
 induction h generalizing v0 with
 |junk v'=>exact .junk v'
 |tok j=>exact .tok j
 |flat v h=>exact .flat v h
 |ptr a a' h=>obtain⟨a0,rfl,h1⟩:=h0.ptr_inv;exact .ptr a a' (h.cut hc h1)
 |slice a a' n c c' h h1 h2 h3 =>
  obtain⟨a0,c0,rfl,k1,-⟩:=h0.slice_inv;refine .slice a a' n c c' (h.cut hc k1) h1 h2 ⟨h3.1,fun hsp b S es hb=>?_⟩;have hne:σ0 a.block≠.none:=fun e=>by unfold AR at k1;rw[hsp] at k1;simp only[e] at k1
  rw[hc _ hne] at hb;exact h3.2 hsp b S es hb
 |map r r' h=>obtain⟨r0,rfl,h1⟩:=h0.map_inv;exact .map r r' (h.cut hc h1)
 |func f x y x' y' h1 h2 h3 h4 i1 i2 =>
  obtain⟨x0,y0,rfl,k1,k2⟩:=h0.func_inv;exact .func f x y x' y' h1 (ra h1 (fun i v v' a b u hu=>i1 i v v' a b hu) k1) h3 (ra h3 (fun i v v' a b u hu=>i2 i v v' a b hu) k2)
 |yield l l' h=>obtain⟨l0,rfl,h1,-,-⟩:=h0.yield_inv;exact .yield l l' (h.cut hc h1)
 |iface t v v' h ih=>obtain⟨u0,rfl,h1⟩:=h0.iface_inv;exact .iface t v v' (ih h1)
 |agg x x' h1 h2 ih =>
  obtain⟨x0,rfl,k⟩:=h0.agg_inv;exact .agg x x' h1 (ra h1 (fun i v v' a b u hu=>ih i v v' a b hu) k)
 |tuple x x' h1 h2 ih =>
  obtain⟨x0,rfl,k⟩:=h0.tuple_inv;exact .tuple x x' h1 (ra h1 (fun i v v' a b u hu=>ih i v v' a b hu) k)
theorem LR.cut (hc:∀i,σ0 i≠.none→σ2 i=σ' i) {l l' l0:List Value}(h:LR σ' τ l l') (h0:LR σ0 τ l l0):LR σ2 τ l l' :=
 ⟨h.1,fun i v v' a b=>by obtain⟨u,hu,hr⟩:=h0.get a;exact(h.2 i v v' a b).cut hc hr⟩
theorem TmR.cut (hc:∀i,σ0 i≠.none→σ2 i=σ' i) {tm:Tr Value}{a a0:Array Value}(h:TmR σ' τ tm a) (h0:TmR σ0 τ tm a0):TmR σ2 τ tm a:=fun i v hv=>(h i v hv).cut hc (h0 i v hv)
variable {P:Program}{N:Nat}{w0:World}{H0 H':Heap}{w w':World}
theorem BlkR.cut (hc:∀i,σ0 i≠.none→σ2 i=σ' i) {l l0:Loc}{B:Blk}(h:BlkR P N σ' τ w' l B) (h0:BlkR P N σ0 τ w l0 B):BlkR P N σ2 τ w' l B:=by
 cases h with
 |ro b S cs e cur fr h1 h2 h3=>cases h0 with|ro _ _ _ _ cur0 _ _ _ k3=>exact .ro b S cs e cur fr h1 h2 (LR.cut hc h3 k3)
 |row b S es cs e cur h1 h2 h3 h4 h5=>cases h0 with|row _ _ _ _ _ cur0 _ _ _ _ k5=>exact .row b S es cs e cur h1 h2 h3 h4 (LR.cut hc h5 k5)
 |map b S es xs clock xs' h1 h2 h3 =>
  cases h0 with
  |map _ _ _ _ _ xs0 _ _ k3 =>
   refine .map b S es xs clock xs' h1 h2 ⟨h3.1,fun i e e' a b'=>?_⟩;obtain⟨x,y,z,u⟩:=h3.2 i e e' a b';have hi:i < xs.length:=(List.getElem?_eq_some_iff.1 a).1;have hi0:i < xs0.size:=by rw[←k3.1];exact hi
   exact⟨x,y,z,u.cut hc (k3.2 i e xs0[i] a (Array.getElem?_eq_getElem hi0)).2.2.2⟩
 |siter b S es s pos h1 h2=>exact .siter b S es s pos h1 h2
 |mit b S es m m' since h1 h2 h3=>cases h0 with|mit _ _ _ _ m0 _ _ _ k3=>exact .mit b S es m m' since h1 h2 (h3.cut hc k3)
 |loop b S es st pend fn tm ps as bo k m L h1 h2 h3 h4 h5 h6 h7 h8 h9 h10 h11 h12 h13 =>
  cases h0 with
  |loop _ _ _ _ _ _ _ _ _ _ _ _ L0 _ _ _ _ _ _ _ k8=>exact .loop b S es st pend fn tm ps as bo k m L h1 h2 h3 h4 h5 h6 h7 (h8.cut hc k8) h9 h10 h11 h12 h13
 |dfr b S es h1 h2=>exact .dfr b S es h1 h2
theorem HR.back (h0:HR P N w0 τ σ0 H0 w) (h1:HR P N w0 τ σ' H' w') (hs:Step σ0 H0 w σ' H' w') (hk:∀i,i < H0.next→H'.get i=H0.get i) :
  ∃ σ2,HR P N w0 τ σ2 H0 w'∧Step σ0 H0 w σ2 H0 w'∧(∀i,σ0 i≠.none→σ2 i=σ' i)∧(∀i,σ2 i=σ' i∨σ2 i=.none):=by
 have hlt:∀i,σ0 i≠.none→i < H0.next:=fun i hi=>by
  rcases Nat.lt_or_ge i H0.next with h|h
  ·exact h
  ·exact absurd (h0.fresh i h) hi
 have hc:∀i,σ0 i≠.none→(fun i=>if i < H0.next then σ' i else Loc.none) i=σ' i:=fun i hi=>if_pos (hlt i hi)
 have hp:∀i b S es,(fun i=>if i < H0.next then σ' i else Loc.none) i=.live b S es→σ' i=.live b S es:=fun i b S es h=>by
  simp only at h;split at h
  ·exact h
  ·cases h
 refine⟨fun i=>if i < H0.next then σ' i else .none,⟨h1.below,h1.size,fun i hi=>if_neg (by omega),fun i B hB=>?_,fun i j b S es S' es' hi hj=>h1.inj i j b S es S' es' (hp _ _ _ _ hi) (hp _ _ _ _ hj),fun i b S es hi=>h1.lt i b S es (hp _ _ _ _ hi)⟩,⟨Ze _,fun i=>?_,fun i b S es hi=>hs.new i b S es (hp _ _ _ _ hi),hs.frame,hs.size,fun i hi hg=>?_⟩,hc,fun i=>?_⟩
 ·have hi:=h0.get_lt hB;have k0:=h0.blk i B hB;have k1:=h1.blk i B (by rw[hk i hi];exact hB);have e:(if i < H0.next then σ' i else Loc.none)=σ' i:=if_pos hi;rw[e];exact k1.cut hc k0
 ·by_cases hi:i < H0.next
  ·simp only[if_pos hi];exact hs.ext i
  ·exact .inl (h0.fresh i (by omega))
 ·obtain⟨e1,-⟩:=hs.keep i hi hg;by_cases hl:i < H0.next
  ·simp only[if_pos hl];exact⟨e1,hg⟩
  ·simp only[if_neg hl];exact⟨(h0.fresh i (by omega)).symm,hg⟩
 ·by_cases hl:i < H0.next
  ·exact .inl (if_pos hl)
  ·exact .inr (if_neg hl)
end
section
variable {P:Program}
theorem zdt {w:World}{b m since last:Nat}{seen:Array Nat}{es:Array MapEntry}{clock:Nat}{ty:TypeId}(hi:w.heap[b]?=some (.mapIter (some m) since seen last)) (hm:w.heap[m]?=some (.map es clock)) (hold:∀x∈es.toList,x.born < since) (hsl:since≤last) :
  ((leftOf es seen).size=0∧(Instr.next (.pointer (some ⟨b,0,none⟩)) false ty).run P w=.ok (.tuple #[.bool false]) w) ∨
  ∃e∈(leftOf es seen).toList,∃w1:World,(w1=w∨w1=w.drew)∧(Instr.next (.pointer (some ⟨b,0,none⟩)) false ty).run P w=.ok (.tuple #[.bool true,e.key,e.val]) { w1 with heap:=w1.heap.setIfInBounds b (.mapIter (some m) since (seen.push e.born) clock) }:=by
 simp only[Instr.next,getObj,Sem.run_bind,Sem.run,hi,hm,Result.andThen,next_test_false seen es since last hold hsl,Zc,if_false];unfold leftOf;have hmem:∀x∈(Array.filter (fun e=>!seen.contains e.born) es).toList,x.born < since:=fun x hx=>hold x (by simp at hx ⊢;exact hx.1)
 generalize Array.filter (fun e=>!seen.contains e.born) es=L at hmem ⊢;have e1:L.filter (fun x=>decide (x.born < since))=L:=Array.filter_eq_self.2 (fun x hx=>by simpa using hmem x (by simpa using hx));have e2:L.filter (fun x=>decide (x.born ≥ since))=#[]:=by
  rw[Array.filter_eq_empty_iff];intro x hx;have:=hmem x (by simpa using hx);simp;omega
 simp only[e1,e2,Array.append_empty];by_cases h0:L.size=0
 ·left;have:L=#[]:=Array.eq_empty_of_size_eq_zero h0;subst this;refine⟨rfl,?_⟩;simp [choose,Sem.run,Question.forced]
 ·right;have hne:L.isEmpty=false:=by simp [Array.isEmpty,h0]
  simp only[hne,Zc,if_false,Array.empty_append,Array.size_map];have hch:∃(j:Nat) (w1:World),j < L.size∧(w1=w∨w1=w.drew)∧(choose (Question.mapNext L.size)).run P w=.ok j w1:=by
   by_cases hf:L.size≤1
   ·exact⟨0,w,by omega,.inl rfl,by simp [choose,Sem.run,Question.forced,hf]⟩
   ·exact⟨_,w.drew,Nat.mod_lt _ (by omega),.inr rfl,by
     simp only[choose,Sem.run,Question.forced,decide_eq_true_eq,hf,if_false,Question.cut];rfl⟩
  obtain⟨j,w1,hj,hal,hrun⟩:=hch;refine⟨L[j],by simp,w1,hal,?_⟩;have hi1:w1.heap[b]?=some (.mapIter (some m) since seen last):=by rcases hal with rfl|rfl<;>exact hi
  have hset:∀o:Obj,(setObj b o).run P w1=.ok () { w1 with heap:=w1.heap.setIfInBounds b o }:=fun o=>by simp [setObj,Sem.run,hi1]
  simp only[hrun,Array.getElem?_map,Array.getElem?_eq_getElem hj,Zo,Sem.run_bind,hset,Result.andThen];rfl
theorem zc2 {w:World}{b m since:Nat}{seen:Array Nat}{es:Array MapEntry}{clock:Nat}{e:MapEntry}(hi:w.heap[b]?=some (.mapIter (some m) since (seen.push e.born) clock)) (hm:w.heap[m]?=some (.map es clock)) (he:e∈es.toList) (hn:(es.toList.map (·.born)).Nodup) :
  (Instr.entry (.pointer (some ⟨b,0,none⟩))).run P w=.ok (.tuple #[e.key,e.val]) w:=by
 have hf:es.find? (·.born == e.born)=some e:=by rw[←Array.find?_toList];exact find_born e es.toList hn he
 simp only[Instr.entry,getObj,Sem.run_bind,Sem.run,hi,hm,Result.andThen,Array.back?_push,bne_self_eq_false,Zc,if_false,hf];rfl
end
section
variable {F:Fence}{P:Program}
theorem zc3 (Q:Exit→Act→World→Prop):Exit.then (Q .normal) Q=Q:=by
 funext e a w;cases e<;>rfl
theorem z89 (Q:Exit→Act→World→Prop) (c:Code):∀rs:List Code,seqW F P Q (rs++[c])=seqW F P (Exit.then (c.wpIn F 0 P Q) Q) rs
 |[]=>by show c.wpIn F 0 P (Exit.then (Q .normal) Q)=_;rw[zc3];rfl
 |d :: rs=>by
  show d.wpIn F 0 P (Exit.then (seqW F P Q (rs++[c])) Q)=d.wpIn F 0 P (Exit.then (seqW F P (Exit.then (c.wpIn F 0 P Q) Q) rs) (Exit.then (c.wpIn F 0 P Q) Q));rw[z89 Q c rs];congr 1
  funext e a w
  cases e<;>rfl
theorem znw:∀{c:Code}{ops:Array Oper}{rs:List Code}{Q:Exit→Act→World→Prop}{a:Act}{w:World},headRegion c=some (ops,rs) →
  wpOpsIn F 0 P ops (Exit.then (seqW F P Q rs) Q) (Zj ops.size) a w→c.wpIn F 0 P Q a w:=by
 intro c
 induction c with
 |region id ops dr =>
  intro ops' rs Q a w h hw;cases dr with
  |true=>cases h
  |false =>
   simp only[headRegion,Option.some.injEq,Prod.mk.injEq] at h;obtain⟨rfl,rfl⟩:=h;refine wpIn_region ?_;have:Exit.then (seqW F P Q []) Q=Q:=zc3 Q;rw[this] at hw;exact hw
 |seq x y ihx _ =>
  intro ops' rs Q a w h hw;simp only[headRegion] at h;cases hx:headRegion x with
  |none=>rw[hx] at h;cases h
  |some p =>
   obtain⟨ops1,rs1⟩:=p;rw[hx] at h;simp only[Option.some.injEq,Prod.mk.injEq] at h;obtain⟨rfl,rfl⟩:=h;refine wpIn_seq (ihx hx ?_);rw[z89] at hw;have:Exit.then (seqW F P (Exit.then (y.wpIn F 0 P Q) Q) rs1) (Exit.then (y.wpIn F 0 P Q) Q)=Exit.then (seqW F P (Exit.then (y.wpIn F 0 P Q) Q) rs1) Q:=by
    funext e a w;cases e<;>rfl
   rw[this];exact hw
 |_=>intro ops' rs Q a w h;cases h
end
theorem z8a:∀{a b:List MapEntry},entsSame a b=true→a=b
 |[],[],_=>rfl
 |e :: a,f :: b,h=>by
  unfold entsSame at h;simp only[Zi,Zp] at h;obtain⟨⟨⟨h1,h2⟩,h3⟩,h4⟩:=h;obtain⟨k,v,n⟩:=e;obtain⟨k',v',n'⟩:=f;rw[z8a h4];have e1:=z9k _ _ h1;have e2:=z9k _ _ h2;simp only at e1 e2 h3;rw[e1,e2,h3]
 |[],_ :: _,h=>by unfold entsSame at h;cases h
 |_ :: _,[],h=>by unfold entsSame at h;cases h
theorem zh4 {a b:Option Blk}(h:blkSame a b=true):a=b:=by
 unfold blkSame at h;split at h
 ·rfl
 ·rw[Zi,Zp] at h;rw[h.1,z4d h.2]
 ·rw[Zi,Zp] at h;rw[h.1,z4d h.2]
 ·rw[Zi,Zp] at h;rw[h.1,z8a h.2]
 ·rw[Zi,Zp,Zp] at h;rw[h.1,h.2]
 ·rename_i s p s' p';rw[Zi,Zp] at h;have:s=s':=by
   have h1:=h.1;obtain⟨⟨x⟩⟩:=s;obtain⟨⟨y⟩⟩:=s';simp at h1;rw[h1]
  rw[this,h.2]
 ·rfl
 ·cases h
theorem z8b:∀{t u:Tr Value},trSub t u=true→∀i v,t.get i=some v→u.get i=some v
 |.nil,_,_,i,v,hv=>by simp [Tr.get] at hv
 |.node l x r,u,h,i,v,hv=>by
  unfold trSub at h;simp only[Zi] at h;obtain⟨⟨h1,h2⟩,h3⟩:=h;rw[Tr.get_parts] at hv ⊢;by_cases hi:i=0
  ·rw[if_pos hi] at hv ⊢;have hx:x=some v:=hv;rw[hx] at h1;simp only at h1;cases hu:u.val with
   |none=>rw[hu] at h1;cases h1
   |some y=>rw[hu] at h1;rw[z86 h1]
  ·rw[if_neg hi] at hv ⊢;by_cases hm:i % 2=1
   ·rw[if_pos hm] at hv ⊢;exact z8b h2 _ _ hv
   ·rw[if_neg hm] at hv ⊢;exact z8b h3 _ _ hv
theorem z9q {s0 s1:St}(h:calmB s0 s1=true):Calm s0 s1:=by
 unfold calmB at h;simp only[Zi,List.all_eq_true,List.mem_range,List.isEmpty_iff] at h;obtain⟨⟨h1,h2⟩,h3⟩:=h;exact⟨fun i hi=>(zh4 (h1 i hi)).symm,z8b h2,h3⟩
theorem z79 {s0:St}{r:Ex × St}:∀{rs:List (Ex × St)},mapEnd.mapOnly s0 r rs=true→∀q∈rs,(q.1=.normal∧Calm s0 q.2)∨q=r
 |[],_,q,hq=>by cases hq
 |(e,s1) :: rs,h,q,hq=>by
  have key:((e=.normal∧Calm s0 s1)∨(e,s1)=r)∧mapEnd.mapOnly s0 r rs=true:=by
   by_cases hn:e=.normal
   ·subst hn;rw[mapEnd.mapOnly] at h;split at h
    ·rename_i hc;exact⟨.inl ⟨rfl,z9q hc⟩,h⟩
    ·split at h
     ·rename_i hc;exact⟨.inl ⟨rfl,hc⟩,h⟩
     ·cases h
   ·by_cases hr:(e,s1)=r
    ·rw[mapEnd.mapOnly,if_pos hr] at h
     ·exact⟨.inr hr,h⟩
     ·intro s hs;exact hn (Prod.mk.inj hs).1
    ·rw[mapEnd.mapOnly,if_neg hr] at h
     ·cases h
     ·intro s hs;exact hn (Prod.mk.inj hs).1
  rcases List.mem_cons.1 hq with rfl|hq
  ·exact key.1
  ·exact z79 key.2 q hq
theorem z8c {s0:St}{done res:Ex × St}:∀{rs:List (Ex × St)},mapEnd s0 done rs=some res→(∀q∈rs,(q.1=.normal∧Calm s0 q.2)∨(q=res∧q.1≠.normal))∧((∀q∈rs,q.1=.normal)→res=done)
 |[],h=>⟨fun q hq=>(by cases hq),fun _=>by unfold mapEnd at h;exact(Option.some.inj h).symm⟩
 |(e,s1) :: rs,h=>by
  by_cases hn:e=.normal
  ·subst hn;have key:Calm s0 s1∧mapEnd s0 done rs=some res:=by
    unfold mapEnd at h;split at h
    ·rename_i hc;exact⟨z9q hc,h⟩
    ·split at h
     ·rename_i hc;exact⟨hc,h⟩
     ·cases h
   obtain⟨h1,h2⟩:=z8c key.2;refine⟨fun q hq=>?_,fun hall=>h2 fun q hq=>hall q (Zl _ hq)⟩;rcases List.mem_cons.1 hq with rfl|hq
   ·exact .inl ⟨rfl,key.1⟩
   ·exact h1 q hq
  ·have key:(e,s1)=res∧mapEnd.mapOnly s0 (e,s1) rs=true:=by
    cases e with
    |normal=>exact absurd rfl hn
    |_ =>
     unfold mapEnd at h;split at h
     ·rename_i hm;exact⟨Option.some.inj h,hm⟩
     ·cases h
   refine⟨fun q hq=>?_,fun hall=>absurd (hall (e,s1) (by simp)) hn⟩;rcases List.mem_cons.1 hq with rfl|hq
   ·exact .inr ⟨key.1,hn⟩
   ·rcases z79 key.2 q hq with k|k
    ·exact .inl k
    ·rw[k];exact .inr ⟨key.1,hn⟩
theorem z8d {α:Type}:∀{l:List (Option α)}{rs:List α},allSome l=some rs→∀x∈l,∃r,x=some r∧r∈rs
 |[],_,_,x,hx=>by cases hx
 |some a :: l,rs,h,x,hx=>by
  unfold allSome at h;rw[Option.map_eq_some_iff] at h;obtain⟨rs',h1,rfl⟩:=h;rcases List.mem_cons.1 hx with rfl|hx
  ·exact⟨a,rfl,by simp⟩
  ·obtain⟨r,e,hr⟩:=z8d h1 x hx;exact⟨r,e,Zl _ hr⟩
 |none :: l,_,h,_,_=>by unfold allSome at h;cases h
theorem z7a {α:Type}:∀{l:List (Option α)}{rs:List α},allSome l=some rs→∀r∈rs,some r∈l
 |[],rs,h,r,hr=>by unfold allSome at h;rw[←Option.some.inj h] at hr;cases hr
 |some a :: l,rs,h,r,hr=>by
  unfold allSome at h;rw[Option.map_eq_some_iff] at h;obtain⟨rs',h1,rfl⟩:=h;rcases List.mem_cons.1 hr with rfl|hr
  ·simp
  ·exact Zl _ (z7a h1 r hr)
 |none :: l,_,h,_,_=>by unfold allSome at h;cases h
theorem z7b:∀{l:List Nat},nodupB l=true→l.Nodup
 |[],_=>List.nodup_nil
 |a :: l,h=>by
  unfold nodupB at h;rw[Zi,Bool.not_eq_true',List.any_eq_false] at h;exact List.nodup_cons.2 ⟨fun hm=>by have:=h.1 a hm;simp at this,z7b h.2⟩
end Go.Hb
end

section
namespace Go.Hb
open Go Go.RowKit
theorem zdu {ops:List Oper}{it d1 d2:Tmp}(h:mapHead ops=some (it,d1,d2)):∃o1 o2,ops=[o1,o2]∧o1.guard=none∧o1.op=.next (.tmp it) false∧o1.dst=some d1∧o2.guard=none∧o2.op=.extract (.tmp d1) 0∧o2.dst=some d2∧d1≠d2∧it≠d1∧it≠d2:=by
 unfold mapHead at h;split at h
 case h_2=>cases h
 rename_i o1 o2;split at h
 case h_2=>cases h
 rename_i i e1 d e2 e3 e4 g1 g2 g3 g4 g5 g6;split at h
 case isFalse=>cases h
 rename_i hc;simp only[Zi,Bool.not_eq_true',Zp] at hc;simp only[Option.some.injEq,Prod.mk.injEq] at h;obtain⟨rfl,rfl,rfl⟩:=h;have nb:∀{a b:Nat},Zk a b=false→a≠b:=fun h e=>by rw[e,Zy] at h;cases h
 obtain⟨⟨⟨c1,c2⟩,c3⟩,c4⟩:=hc;subst c1;exact⟨o1,o2,rfl,by assumption,by assumption,by assumption,by assumption,by assumption,by assumption,nb c2,nb c3,nb c4⟩
theorem zc4 {c:Code}{q:MapParts}(h:mapShape c=some q):∃i1 o1 o2 b o,c=.seq (.region i1 #[o1,o2] false) (.seq (.cond (.tmp q.d2) .skip (.exit q.j)) (.block q.k b)) ∧
  o1.guard=none∧o1.op=.next (.tmp q.it) false∧o1.dst=some q.d1∧o2.guard=none∧o2.op=.extract (.tmp q.d1) 0∧o2.dst=some q.d2∧q.d1≠q.d2∧q.it≠q.d1∧q.it≠q.d2 ∧
  headRegion b=some (q.ops,q.rest)∧q.ops[0]?=some o∧o.guard=none∧o.op=.entry (.tmp q.it)∧o.dst=q.dst:=by
 unfold mapShape at h;split at h
 case h_2=>cases h
 rename_i i1 ops t j k b;split at h
 case h_2=>cases h
 rename_i it d1 d2 hm;obtain⟨o1,o2,e,k1,k2,k3,k4,k5,k6,k7,k8,k9⟩:=zdu hm;obtain rfl:ops=#[o1,o2]:=by cases ops;simp only at e;rw[e]
 split at h
 case isFalse=>cases h
 rename_i ht;rw[Zp] at ht;subst ht;unfold mapTail at h;split at h
 case h_2=>cases h
 rename_i ops5 rest hh;split at h
 case h_2=>cases h
 rename_i o ho;split at h
 case h_2=>cases h
 rename_i i hg hop;split at h
 case isFalse=>cases h
 rename_i hi;rw[Zp] at hi;subst hi;cases h;exact⟨i1,o1,o2,b,o,rfl,k1,k2,k3,k4,k5,k6,k7,k8,k9,hh,ho,hg,hop,rfl⟩
theorem znx:∀{c:Code}{ops:Array Oper}{rs:List Code}{g m:Nat},headRegion c=some (ops,rs)→okCode g m c=true→ops.toList.all (okOper g m)=true∧∀d∈rs,okCode g m d=true:=by
 intro c
 induction c with
 |region id ops dr =>
  intro ops' rs g m h hok;cases dr with
  |true=>cases h
  |false =>
   simp only[headRegion,Option.some.injEq,Prod.mk.injEq] at h;obtain⟨rfl,rfl⟩:=h;unfold okCode at hok;rw[Zi] at hok;exact⟨hok.1,fun d hd=>(by cases hd)⟩
 |seq x y ihx _ =>
  intro ops' rs g m h hok;simp only[headRegion] at h;unfold okCode at hok;rw[Zi] at hok;cases hx:headRegion x with
  |none=>rw[hx] at h;cases h
  |some p =>
   obtain⟨ops1,rs1⟩:=p;rw[hx] at h;simp only[Option.some.injEq,Prod.mk.injEq] at h;obtain⟨rfl,rfl⟩:=h;obtain⟨k1,k2⟩:=ihx hx hok.1;refine⟨k1,fun d hd=>?_⟩;rcases List.mem_append.1 hd with hd|hd
   ·exact k2 d hd
   ·simp at hd;rw[hd];exact hok.2
 |_=>intro ops' rs g m h;cases h
theorem zi9 {α:Type}{p q:α→Bool}(hpq:∀x,q x=true→p x=true):∀l:List α,(l.filter q).length≤(l.filter p).length
 |[]=>Ze _
 |y :: l=>by
  have:=zi9 hpq l;rw[List.filter_cons,List.filter_cons];by_cases hy:q y=true
  ·rw[if_pos hy,if_pos (hpq y hy),ZF,ZF];omega
  ·rw[if_neg hy];split
   ·rw[ZF];omega
   ·exact this
theorem zia {α:Type}{p q:α→Bool}(hpq:∀x,q x=true→p x=true) {e:α}(hp:p e=true) (hq:q e=false):∀{l:List α},e∈l→(l.filter q).length < (l.filter p).length
 |y :: l,he=>by
  have hle:=zi9 hpq l;rw[List.filter_cons,List.filter_cons];rcases List.mem_cons.1 he with rfl|he
  ·rw[if_pos hp,if_neg (by rw[hq];simp),ZF];omega
  ·have:=zia hpq hp hq he;by_cases hy:q y=true
   ·rw[if_pos hy,if_pos (hpq y hy),ZF,ZF];omega
   ·rw[if_neg hy];split
    ·rw[ZF];omega
    ·exact this
theorem zh5 {k:Nat}(h:0 < k):Zj k=0 :: (Zj k).drop 1:=by
 cases k with
 |zero=>omega
 |succ k=>rw[List.range_succ_eq_map];rfl
theorem zc5 {tm:Tr Value}:∀(l:List ResultVar) (t:Tr Value),(∀i v,t.get i=some v→tm.get i=some v)→∀i v,(l.foldl (fun t v=>t.put (resTmp v) (tm.get (resTmp v))) t).get i=some v→tm.get i=some v
 |[],t,h,i,v,hv=>h i v hv
 |r :: l,t,h,i,v,hv=>by
  refine zc5 l _ (fun j u hu=>?_) i v hv;rw[Tr.get_put] at hu;by_cases hj:j=resTmp r
  ·rw[if_pos hj] at hu;rw[hj];exact hu
  ·rw[if_neg hj] at hu;exact h j u hu
section
variable {P:Program}{ρ:Operand→Value}{w w':World}{d:Option Tmp}{ty:TypeId}{pos:String}{af:Array Edge}{g:Option (Nat × Bool)}
theorem zc6 {it:Operand}{u v:Value}(hu:ρ it=u) (h:(Instr.next u false ty).run P w=.ok v w'):(execOp ρ ⟨d,.next it false,ty,pos,af,g⟩).run P w=.ok (.value v) w':=by
 simp only[execOp,hu,Sem.run_bind,h,Result.andThen_ok];rfl
theorem zh6 {it:Operand}{u v:Value}(hu:ρ it=u) (h:(Instr.entry u).run P w=.ok v w'):(execOp ρ ⟨d,.entry it,ty,pos,af,g⟩).run P w=.ok (.value v) w':=by
 simp only[execOp,hu,Sem.run_bind,h,Result.andThen_ok];rfl
theorem z9r {t:Operand}{v:Value}{l:List Value}(hu:ρ t=.tuple ⟨v :: l⟩):(execOp ρ ⟨d,.extract t 0,ty,pos,af,g⟩).run P w=.ok (.value v) w:=by
 simp only[execOp,hu,Instr.extract];rfl
end
section
variable {P:Program}{N:Nat}{w0:World}{τ:Nat→Value}{ok:Ok}{n:Nat}{σ σ1:Nat→Loc}{H:Heap}{w w1:World}
theorem zay {x:Ctx}{r:Ex × St}{m:Nat}{a:Act}(h:SR P N w0 τ σ r.2 m a w):(onlyRes P x r).1=r.1∧(onlyRes P x r).2.H=r.2.H∧SR P N w0 τ σ (onlyRes P x r).2 m a w:=by
 unfold onlyRes;split
 ·rename_i fn h1 h2 h3;refine⟨h1.symm,rfl,h.hH,fun i v hv=>h.tm i v ?_,h.ds,h.sz,h.gr⟩;exact zc5 (tm:=r.2.tm) fn.results.toList .nil (fun i v hv=>by simp [Tr.get] at hv) i v hv
 ·exact⟨rfl,rfl,h⟩
theorem HR.hide (h:HR P N w0 τ σ H w) (i:Nat):HR P N w0 τ σ (H.put i none) w∧Step σ H w σ (H.put i none) w:=by
 refine⟨⟨h.below,h.size,h.fresh,fun j C hj=>?_,h.inj,h.lt⟩,⟨Ze _,Ext.refl σ,fun j c S es hj=>.inr (.inl ⟨S,es,hj⟩),fun _ _ _=>rfl,Ze _,fun j _ hj=>⟨rfl,?_⟩⟩⟩
 ·rw[Heap.get_put] at hj;by_cases hji:j=i
  ·rw[if_pos hji] at hj;cases hj
  ·rw[if_neg hji] at hj;exact h.blk j C hj
 ·rw[Heap.get_put];split
  ·rfl
  ·exact hj
theorem HR.poke (h:HR P N w0 τ σ H w) {i b S es:Nat}{o:Obj}(hg:H.get i=none) (hl:σ i=.live b S es) (hb:N≤b):HR P N w0 τ σ H { w with heap:=w.heap.setIfInBounds b o }:=by
 refine⟨h.below.trans ⟨rfl,rfl,rfl,by simp,fun k hk=>z77 _ (by omega)⟩,by simpa using h.size,h.fresh,fun j C hj=>?_,h.inj,fun j c S es hj=>by simpa using h.lt j c S es hj⟩;have hji:j≠i:=fun e=>by rw[e,hg] at hj;cases hj
 exact(h.blk j C hj).world fun c S' es' hc=>z77 _ (fun e=>hji (h.inj j i c S' es' S es hc (e ▸ hl)))
theorem Step.poke {σ0:Nat→Loc}{H0 H1:Heap}(h:Step σ0 H0 w σ1 H1 w1) {i b S es:Nat}{o:Obj}(hg:H0.get i≠none) (hl:σ0 i=.live b S es):Step σ0 H0 w σ1 H1 { w1 with heap:=w1.heap.setIfInBounds b o } :=
 ⟨h.next,h.ext,h.new,fun k hk hn=>by
  have hkb:k≠b:=fun e=>hg (hn i S es (e ▸ hl))
  exact(z77 _ hkb).trans (h.frame k hk hn),by simpa using h.size,h.keep⟩
theorem Step.drew {σ0:Nat→Loc}{H0 H1:Heap}(h:Step σ0 H0 w σ1 H1 w1):Step σ0 H0 w σ1 H1 w1.drew:=⟨h.next,h.ext,h.new,h.frame,h.size,h.keep⟩
theorem z7p {a:Act}{d:Tmp}{v:Value}(hd:d < a.tmps.size):(a.put (some d) v).tmps.getD d undef=v:=by rw[z3y,if_pos ⟨rfl,hd⟩]
theorem z4e {a:Act}{d t:Tmp}{v:Value}(h:d≠t):(a.put (some d) v).tmps.getD t undef=a.tmps.getD t undef:=by rw[z3y,if_neg (fun k=>h (Option.some.inj k.1))]
theorem zl7 (A:All P N w0 τ ok n) {x c st ex st' m a F}{q:MapParts}(Q:Exit→Act→World→Prop) (hq:mapShape c=some q) (h:dcode P ok (n+1) x (.loop c) st=some (ex,st')) (hok:okCode P.globals.size m c=true) (hs:SR P N w0 τ σ st m a w)
  (hF:FRel x F) (hQ:Cont P N w0 τ σ st.H w ex st' m Q):Code.roundsIn F 0 P c Q (n+1) a w:=by
 unfold dcode at h;simp only at h;rw[hq] at h;simp only at h;split at h
 case h_2=>cases h
 rename_i r hit;split at h
 case h_2=>cases h
 rename_i mm since hgr hds;split at h
 case h_2=>cases h
 rename_i es clk hgm;split at h
 case isFalse=>cases h
 rename_i hcond;obtain⟨hsc,hlen,hborn,hnod,hmr,hd1,hd2⟩:=hcond;split at h
 case h_2=>cases h
 rename_i rs hrs;obtain⟨hall,hdone⟩:=z8c h;obtain⟨i1,o1,o2,b2,o,rfl,hg1,hop1,hdst1,hg2,hop2,hdst2,hne12,hne1,hne2,hhead,ho,hgo,hopo,hdsto⟩:=zc4 hq;obtain⟨od1,oo1,ot1,opo1,oa1,og1⟩:=o1;obtain⟨od2,oo2,ot2,opo2,oa2,og2⟩:=o2;obtain⟨od3,oo3,ot3,opo3,oa3,og3⟩:=o;simp only at hg1 hop1 hdst1 hg2 hop2 hdst2 hgo hopo hdsto;subst hg1 hop1 hdst1 hg2 hop2 hdst2 hgo hopo hdsto;have hsc:since≤clk:=by simpa using hsc
 have hnod:=z7b hnod;have hborn:∀e∈es,e.born < since:=fun e he=>by have:=List.all_eq_true.1 hborn e he;simpa [Nat.blt_eq] using this
 have hd1:st.tm.get q.d1=none:=Option.isNone_iff_eq_none.1 hd1;have hd2:st.tm.get q.d2=none:=Option.isNone_iff_eq_none.1 hd2;have hok0:=hok;unfold okCode at hok;rw[Zi] at hok;obtain⟨hokR,hokB⟩:=hok;unfold okCode at hokR hokB;rw[Zi] at hokR hokB;replace hokB:=hokB.2;unfold okCode at hokB;have hok1:=List.all_eq_true.1 hokR.1 ⟨some q.d1,.next (.tmp q.it) false,ot1,opo1,oa1,none⟩ (by simp);have hok2:=List.all_eq_true.1 hokR.1 ⟨some q.d2,.extract (.tmp q.d1) 0,ot2,opo2,oa2,none⟩ (by simp);unfold okOper at hok1 hok2;rw[Zi] at hok1 hok2;have hl1:q.d1 < m:=by simpa [Nat.blt_eq] using hok1.1
 have hl2:q.d2 < m:=by simpa [Nat.blt_eq] using hok2.1
 obtain⟨hokO,hokS⟩:=znx hhead hokB;have hoko:=List.all_eq_true.1 hokO ⟨q.dst,.entry (.tmp q.it),ot3,opo3,oa3,none⟩ (by
  obtain⟨h1,h2⟩:=Array.getElem?_eq_some_iff.1 ho;rw[←h2];exact Array.getElem_mem_toList h1)
 unfold okOper at hoko;rw[Zi] at hoko;have hlo:∀d,q.dst=some d→d < m:=fun d hd=>by have:=hoko.1;rw[hd] at this;simpa [Nat.blt_eq] using this
 have hops0:0 < q.ops.size:=(Array.getElem?_eq_some_iff.1 ho).1;have hrl:=hs.hH.get_lt hgr;have hB:=hs.hH.blk r _ hgr;generalize hσr:σ r=loc at hB;cases hB with
 |mit b S es0 _ m' _ hNb hbi hbm =>
 obtain⟨hH0,hst0⟩:=hs.hH.hide r;have hgm0:(st.H.put r none).get mm=some (.map es clk):=by rw[Heap.get_put,if_neg hmr];exact hgm
 have hgr0:(st.H.put r none).get r=none:=by rw[Heap.get_put,if_pos rfl]
 have hgrn:st.H.get r≠none:=by rw[hgr];simp
 generalize hH0e:st.H.put r none=H0 at *;have hnx:H0.next=st.H.next:=by rw[←hH0e];rfl
 have key:∀(k budget:Nat) (seen:Array Nat) (last:Nat) (a1:Act) (w1:World) (σ1:Nat→Loc),(es.filter fun e=>!seen.contains e.born).length≤k→k+1≤budget→since≤last→HR P N w0 τ σ1 H0 w1→Step σ st.H w σ1 H0 w1→σ1 r=.live b S es0→BR σ1 mm m' →
   TmR σ1 τ st.tm a1.tmps→a1.defers=[]→m≤a1.tmps.size→GR P σ1→w1.heap[b]?=some (.mapIter (some m') since seen last) →
   (∀e∈es,seen.contains e.born=true→∃r∈rs,mapRound P x q.k (dops P ok n x q.ops ((Zj q.ops.size).drop 1) (St.put ⟨st.tm,[],H0⟩ q.dst (.tuple #[e.key,e.val]) H0)) (fun st1=>dseq P ok n x q.rest st1)=some r∧r.1=.normal) →
   Code.roundsIn F 0 P (.seq (.region i1 #[⟨some q.d1,.next (.tmp q.it) false,ot1,opo1,oa1,none⟩,⟨some q.d2,.extract (.tmp q.d1) 0,ot2,opo2,oa2,none⟩] false) (.seq (.cond (.tmp q.d2) .skip (.exit q.j)) (.block q.k b2))) Q budget a1 w1:=by
  intro k
  induction k using Nat.strongRecOn with
  |_ k ih =>
  intro budget seen last a1 w1 σ1 hcnt hbud hsl hH1 hst1 hσ1r hbm1 htm1 hdf1 hsz1 hgr1 hit1 hseen;obtain⟨bud,rfl⟩:∃bud,budget=bud+1:=⟨budget - 1,by omega⟩
  rw[roundsIn_succ];have hBm:=hH1.blk mm _ hgm0;generalize hσm:σ1 mm=locm at hBm;cases hBm with
  |map bm Sm esm _ _ xs' hNm hwm hent =>
  have ebm:m'=bm:=by unfold BR at hbm1;rw[hσm] at hbm1;exact hbm1
  subst ebm;have hbs:xs'.toList.map (·.born)=es.map (·.born):=by
   apply ZD;intro i;rw[Zr,Zr];cases he:es[i]? with
   |none =>
    have:xs'.toList[i]?=none:=by
     rw[List.getElem?_eq_none_iff] at he ⊢;have:=hent.1;simp only[Array.length_toList];omega
    rw[this]
   |some e =>
    have hi:=(List.getElem?_eq_some_iff.1 he).1;have hi':i < xs'.size:=by rw[←hent.1];exact hi
    have e2:=hent.2 i e xs'[i] he (Array.getElem?_eq_getElem hi');have:xs'.toList[i]?=some xs'[i]:=by rw[ZC];exact Array.getElem?_eq_getElem hi'
    rw[this];simp only[Zo];rw[e2.2.2.1]
  have hnod':(xs'.toList.map (·.born)).Nodup:=by rw[hbs];exact hnod
  have hold:∀x∈xs'.toList,x.born < since:=fun x hx=>by
   have:x.born∈es.map (·.born):=by rw[←hbs];exact List.mem_map_of_mem hx
   obtain⟨e,he,e2⟩:=List.mem_map.1 this;rw[←e2];exact hborn e he
  have hptr:a1.tmps.getD q.it undef=.pointer (some ⟨b,0,none⟩):=by
   have hv:=htm1 q.it _ hit;obtain⟨a',e1,hA⟩:=hv.ptr_inv;rw[e1];unfold AR at hA;simp only[hσ1r] at hA;rw[hA.2]
  refine wpIn_seq (wpIn_region ?_);show wpOpsIn F 0 P _ _ [0,1] a1 w1;unfold wpOpsIn;show (if Region.wanted _ _=true then _ else _);rw[if_pos (by unfold Region.wanted;rfl)];have hlt1:q.d1 < a1.tmps.size:=Zt hl1 hsz1;have hlt2:q.d2 < a1.tmps.size:=Zt hl2 hsz1;have hbl:b < w1.heap.size:=(Array.getElem?_eq_some_iff.1 hit1).1;rcases zdt (P:=P) (ty:=ot1) hit1 hwm hold hsl with ⟨hz,hnext⟩|⟨e',he',w2,hw2,hnext⟩
  ·
   refine z21 hF.fn (fun c=>by simp) (nx:=.value (.tuple #[.bool false])) (w':=w1) (v':=.tuple #[.bool false]) ?_ (.inl rfl) ?_
   ·exact zc6 (d:=some q.d1) (it:=.tmp q.it) (pos:=opo1) (af:=oa1) (g:=none) hptr hnext
   unfold wpOpsIn;show (if Region.wanted _ _=true then _ else _);rw[if_pos (by unfold Region.wanted;rfl)];refine z21 hF.fn (fun c=>by simp) (nx:=.value (.bool false)) (w':=w1) (v':=.bool false) ?_ (.inl rfl) ?_
   ·exact z9r (d:=some q.d2) (t:=.tmp q.d1) (ty:=ot2) (pos:=opo2) (af:=oa2) (g:=none) (z7p hlt1)
   unfold wpOpsIn;show (Code.seq (Code.cond (.tmp q.d2) .skip (.exit q.j)) (.block q.k b2)).wpIn F 0 P _ _ _;refine wpIn_seq (wpIn_cond_false (z7p (by rw[z0v];exact hlt2)) (wpIn_exit ?_));have hres:(ex,st')=(Ex.exit q.j,(⟨st.tm,[],H0⟩:St)):=hdone fun r hr=>by
    obtain⟨e,he,e2⟩:=List.mem_map.1 (z7a hrs r hr);have hin:seen.contains e.born=true:=by
     have hb:e.born∈xs'.toList.map (·.born):=by rw[hbs];exact List.mem_map_of_mem he
     obtain⟨e',he',e3⟩:=List.mem_map.1 hb;unfold leftOf at hz;have h0:Array.filter (fun e=>!seen.contains e.born) xs'=#[]:=Array.eq_empty_of_size_eq_zero hz;rw[Array.filter_eq_empty_iff] at h0;have:=h0 e' (by simpa using he');rw[e3] at this;simpa using this
    obtain⟨r',hr',e4,e5⟩:=hseen e he hin;rw[e2] at e4;rw[Option.some.inj e4];exact e5
   obtain⟨rfl,rfl⟩:=Prod.mk.inj hres;refine hQ (.exit q.j) ((a1.put (some q.d1) (.tuple #[.bool false])).put (some q.d2) (.bool false)) w1 σ1 rfl ⟨hH1,fun i v hv=>?_,?_,?_,hgr1⟩ hst1
   ·show VR σ1 τ v (((a1.put (some q.d1) (.tuple #[.bool false])).put (some q.d2) (.bool false)).tmps.getD i undef);have n1:q.d1≠i:=fun e=>by rw[←e,hd1] at hv;cases hv
    have n2:q.d2≠i:=fun e=>by rw[←e,hd2] at hv;cases hv
    rw[z4e n2,z4e n1];exact htm1 i v hv
   ·rw[z0t,z0t,hdf1];trivial
   ·rw[z0v,z0v];exact hsz1
  ·
   have hmem':e'∈xs'.toList:=by unfold leftOf at he';simp at he';simpa using he'.1
   have hnew:seen.contains e'.born=false:=by unfold leftOf at he';simp at he' ⊢;exact he'.2
   obtain⟨i,hi'⟩:=List.getElem?_of_mem hmem';rw[ZC] at hi';have hil:i < es.length:=by rw[hent.1];exact(Array.getElem?_eq_some_iff.1 hi').1
   have hei:=Zd hil;have hem:=ZE hil;generalize es[i]=e at hei hem;obtain⟨hkey,hfl,hbo,hval⟩:=hent.2 i e e' hei hi';have hmne:m'≠b:=fun hh=>hmr (hH1.inj mm r b Sm esm S es0 (hh ▸ hσm) hσ1r)
   have hH3:HR P N w0 τ σ1 H0 { w2 with heap:=w2.heap.setIfInBounds b (.mapIter (some m') since (seen.push e'.born) clk) }:=by
    rcases hw2 with rfl|rfl
    ·exact hH1.poke hgr0 hσ1r hNb
    ·exact hH1.drew.poke hgr0 hσ1r hNb
   have hst3:Step σ st.H w σ1 H0 { w2 with heap:=w2.heap.setIfInBounds b (.mapIter (some m') since (seen.push e'.born) clk) }:=by
    rcases hw2 with rfl|rfl
    ·exact hst1.poke hgrn hσr
    ·exact hst1.drew.poke hgrn hσr
   have hhp:w2.heap=w1.heap:=by rcases hw2 with rfl|rfl<;>rfl
   have hit3:({ w2 with heap:=w2.heap.setIfInBounds b (.mapIter (some m') since (seen.push e'.born) clk) }:World).heap[b]?=some (.mapIter (some m') since (seen.push e'.born) clk):=z7o _ (by rw[hhp];exact hbl);have hwm3:({ w2 with heap:=w2.heap.setIfInBounds b (.mapIter (some m') since (seen.push e'.born) clk) }:World).heap[m']?=some (.map xs' clk):=by
    rw[z77 _ hmne,hhp];exact hwm
   refine z21 hF.fn (fun c=>by simp) (nx:=.value (.tuple #[.bool true,e'.key,e'.val])) (v':=.tuple #[.bool true,e'.key,e'.val]) (w':={ w2 with heap:=w2.heap.setIfInBounds b (.mapIter (some m') since (seen.push e'.born) clk) }) ?_ (.inl rfl) ?_
   ·exact zc6 (d:=some q.d1) (it:=.tmp q.it) (pos:=opo1) (af:=oa1) (g:=none) hptr hnext
   generalize ({ w2 with heap:=w2.heap.setIfInBounds b (.mapIter (some m') since (seen.push e'.born) clk) }:World)=w3 at hH3 hst3 hit3 hwm3 ⊢;unfold wpOpsIn;show (if Region.wanted _ _=true then _ else _);rw[if_pos (by unfold Region.wanted;rfl)];refine z21 hF.fn (fun c=>by simp) (nx:=.value (.bool true)) (w':=w3) (v':=.bool true) ?_ (.inl rfl) ?_
   ·exact z9r (d:=some q.d2) (t:=.tmp q.d1) (ty:=ot2) (pos:=opo2) (af:=oa2) (g:=none) (z7p hlt1)
   unfold wpOpsIn;show (Code.seq (Code.cond (.tmp q.d2) .skip (.exit q.j)) (.block q.k b2)).wpIn F 0 P _ _ _;refine wpIn_seq (wpIn_cond_true (z7p (by rw[z0v];exact hlt2)) (wpIn_skip ?_));show (Code.block q.k b2).wpIn F 0 P _ ((a1.put (some q.d1) (.tuple #[.bool true,e'.key,e'.val])).put (some q.d2) (.bool true)) w3;have hdf2:((a1.put (some q.d1) (.tuple #[.bool true,e'.key,e'.val])).put (some q.d2) (.bool true)).defers=[]:=by rw[z0t,z0t];exact hdf1
   have hsz2:m≤((a1.put (some q.d1) (.tuple #[.bool true,e'.key,e'.val])).put (some q.d2) (.bool true)).tmps.size:=by rw[z0v,z0v];exact hsz1
   have htm2:TmR σ1 τ st.tm ((a1.put (some q.d1) (.tuple #[.bool true,e'.key,e'.val])).put (some q.d2) (.bool true)).tmps:=fun i v hv=>by
    have n1:q.d1≠i:=fun e=>by rw[←e,hd1] at hv;cases hv
    have n2:q.d2≠i:=fun e=>by rw[←e,hd2] at hv;cases hv
    rw[z4e n2,z4e n1];exact htm1 i v hv
   have hptr2:((a1.put (some q.d1) (.tuple #[.bool true,e'.key,e'.val])).put (some q.d2) (.bool true)).eval (.tmp q.it)=.pointer (some ⟨b,0,none⟩):=by
    show ((a1.put (some q.d1) _).put (some q.d2) _).tmps.getD q.it undef=_;rw[z4e (Ne.symm hne2),z4e (Ne.symm hne1)];exact hptr
   generalize ((a1.put (some q.d1) (.tuple #[.bool true,e'.key,e'.val])).put (some q.d2) (.bool true))=a2 at hdf2 hsz2 htm2 hptr2 ⊢;refine wpIn_block (znw hhead ?_);rw[zh5 hops0];unfold wpOpsIn;rw[ho];show (if Region.wanted _ _=true then _ else _);rw[if_pos (by unfold Region.wanted;rfl)];refine z21 hF.fn (fun c=>by simp) (nx:=.value (.tuple #[e'.key,e'.val])) (w':=w3) (v':=.tuple #[e'.key,e'.val]) ?_ (.inl rfl) ?_
   ·exact zh6 (d:=q.dst) (it:=.tmp q.it) (ty:=ot3) (pos:=opo3) (af:=oa3) (g:=none) hptr2 (zc2 hit3 hwm3 hmem' hnod')
   obtain⟨rr,hrr,hrm⟩:=z8d hrs _ (List.mem_map_of_mem hem);have hvt:VR σ1 τ (.tuple #[e.key,e.val]) (.tuple #[e'.key,e'.val]):=RA.mk_tuple (LR.cons (by rw[hkey];exact .flat _ hfl) (LR.cons hval LR.nil));have hput:(St.put ⟨st.tm,[],H0⟩ q.dst (.tuple #[e.key,e.val]) H0)=⟨putD st.tm q.dst (.tuple #[e.key,e.val]),[],H0⟩:=by cases q.dst<;>rfl
   have hsr:SR P N w0 τ σ1 (St.put ⟨st.tm,[],H0⟩ q.dst (.tuple #[e.key,e.val]) H0) m (a2.put q.dst (.tuple #[e'.key,e'.val])) w3:=by
    rw[hput];exact⟨hH3,htm2.put (Ext.refl σ1) (fun t ht=>Zt (hlo t ht) hsz2) hvt,by rw[z0t,hdf2];trivial,by rw[z0v];exact hsz2,hgr1⟩
   have hHs:(St.put ⟨st.tm,[],H0⟩ q.dst (.tuple #[e.key,e.val]) H0).H=H0:=by rw[hput]
   cases hdo:dops P ok n x q.ops ((Zj q.ops.size).drop 1) (St.put ⟨st.tm,[],H0⟩ q.dst (.tuple #[e.key,e.val]) H0) with
   |none=>rw[hdo] at hrr;cases hrr
   |some p =>
   obtain⟨ex4,st4⟩:=p;rw[hdo] at hrr;refine A.ops _ hdo hokO hsr hF ?_;intro e4 a4 w4 σ4 he4 hs4 hst4;rw[hHs] at hst4;have leave:∀{ex5:Ex}{st5:St}{e5:Exit}{a5:Act}{w5:World}{σ5:Nat→Loc},rr=onlyRes P x (ex5,st5)→ex5≠.normal→ExR σ5 τ ex5 e5→SR P N w0 τ σ5 st5 m a5 w5→Step σ1 H0 w3 σ5 st5.H w5→Q e5 a5 w5:=by
    intro ex5 st5 e5 a5 w5 σ5 hr5 hn5 he5 hs5 hst5;obtain⟨f1,f2,f3⟩:=zay (x:=x) (r:=(ex5,st5)) hs5;rcases hall rr hrm with ⟨k1,-⟩|⟨k1,-⟩
    ·rw[hr5,f1] at k1;exact absurd k1 hn5
    ·rw[hr5] at k1;rw[k1] at f1 f2 f3;simp only at f1 f2 f3;subst f1;refine hQ e5 a5 w5 σ5 he5 f3 ?_;rw[f2];exact hst3.trans hst5
   have calm:∀{st5:St}{a5:Act}{w5:World}{σ5:Nat→Loc},rr=(.normal,st5)→SR P N w0 τ σ5 st5 m a5 w5→Step σ1 H0 w3 σ5 st5.H w5 →
     Code.roundsIn F 0 P (.seq (.region i1 #[⟨some q.d1,.next (.tmp q.it) false,ot1,opo1,oa1,none⟩,⟨some q.d2,.extract (.tmp q.d1) 0,ot2,opo2,oa2,none⟩] false) (.seq (.cond (.tmp q.d2) .skip (.exit q.j)) (.block q.k b2))) Q bud a5 w5:=by
    intro st5 a5 w5 σ5 hr5 hs5 hst5;have hcm:Calm ⟨st.tm,[],H0⟩ st5:=by
     rcases hall rr hrm with ⟨-,k1⟩|⟨-,k1⟩
     ·rw[hr5] at k1;exact k1
     ·rw[hr5] at k1;exact absurd rfl k1
    obtain⟨σ6,hH6,hst6,hc6,hor6⟩:=hH3.back hs5.hH hst5 hcm.1;have hr6:σ6 r=.live b S es0:=by
     rw[hc6 r (by rw[hσ1r];simp),(hst5.keep r (.inl (by rw[hnx];exact hrl)) hgr0).1];exact hσ1r
    have hit5:w5.heap[b]?=some (.mapIter (some m') since (seen.push e'.born) clk):=by
     rw[hst6.frame b ((Array.getElem?_eq_some_iff.1 hit3).1) fun i S' es' hi=>?_]
     ·exact hit3
     ·rw[hH3.inj i r b S' es' S es0 hi hσ1r];exact hgr0
    have hnow:(seen.push e'.born).contains e.born=true:=by rw[hbo];simp
    have hcnt2:(es.filter fun e=>!(seen.push e'.born).contains e.born).length < (es.filter fun e=>!seen.contains e.born).length:=by
     refine zia (fun y hy=>?_) (e:=e) ?_ ?_ hem
     ·cases hs:seen.contains y.born with
      |false=>rfl
      |true =>
       have:(seen.push e'.born).contains y.born=true:=by simp at hs ⊢;exact .inl hs
       rw[this] at hy;cases hy
     ·rw[←hbo,hnew];rfl
     ·rw[hnow];rfl
    refine ih _ (Zt hcnt2 hcnt) bud (seen.push e'.born) clk a5 w5 σ6 (Ze _) (by omega) hsc hH6 (hst3.trans hst6) hr6 (hbm1.ext hst6.ext) ?_ ?_ hs5.sz (hgr1.ext hst6.ext) hit5 ?_
    ·exact TmR.cut hc6 (fun i v hv=>hs5.tm i v (hcm.2.1 i v hv)) htm1
    ·have:=hs5.ds;rw[hcm.2.2] at this;cases hd:a5.defers with
     |nil=>rfl
     |cons d l=>rw[hd] at this;exact this.elim
    ·intro e2 he2 hin;by_cases hb2:seen.contains e2.born=true
     ·exact hseen e2 he2 hb2
     ·have hbb:e2.born=e.born:=by
       rw[←hbo];simp only[Array.contains_push,Bool.or_eq_true] at hin;rcases hin with hin|hin
       ·first|exact absurd hin hb2|simpa using hin
       ·first|exact absurd hin hb2|simpa using hin
      have e3:e2=e:=by
       have h1:=find_born e2 es hnod he2;have h2:=find_born e es hnod hem;rw[hbb] at h1;rw[h1] at h2;exact Option.some.inj h2
      subst e3;exact⟨rr,hrm,by rw[hdo];exact hrr,by rw[hr5]⟩
   cases ex4 with
   |normal =>
    cases e4<;>try exact he4.elim
    show seqW F P _ q.rest a4 w4;cases hds5:dseq P ok n x q.rest st4 with
    |none=>simp only[mapRound,hds5] at hrr;cases hrr
    |some p5 =>
    obtain⟨ex5,st5⟩:=p5;refine A.seq _ hds5 hokS hs4 hF ?_;intro e5 a5 w5 σ5 he5 hs5 hst5;have hst45:=hst4.trans hst5;cases ex5 with
    |normal =>
     cases e5<;>try exact he5.elim
     have:rr=(.normal,st5):=by simp only[mapRound,hds5,onlyRes,Option.some.injEq] at hrr;exact hrr.symm
     exact calm this hs5 hst45
    |exit i =>
     cases e5<;>try exact he5.elim
     rename_i i';have hii:i=i':=he5;subst hii;by_cases hik:i=q.k
     ·have:rr=(.normal,st5):=by
       simp only[mapRound,hds5,hik,Zy,if_true,Option.some.injEq] at hrr;exact hrr.symm
      have hc:=calm this hs5 hst45;show (if i=q.k then _ else _);rw[if_pos hik];exact hc
     ·have hb:Zk i q.k=false:=by rw[←ZB,Zp];exact hik
      have:rr=onlyRes P x (.exit i,st5):=by
       simp only[mapRound,hds5,hb,Zc,if_false,Option.some.injEq] at hrr;exact hrr.symm
      have hc:=leave this (by simp) he5 hs5 hst45;show (if i=q.k then _ else _);rw[if_neg hik];exact hc
    |ret =>
     cases e5<;>try exact he5.elim
     have:rr=onlyRes P x (.ret,st5):=by simp only[mapRound,hds5,Option.some.injEq] at hrr;exact hrr.symm
     exact leave this (by simp) he5 hs5 hst45
    |panic ch =>
     cases e5<;>try exact he5.elim
     have:rr=onlyRes P x (.panic ch,st5):=by simp only[mapRound,hds5,Option.some.injEq] at hrr;exact hrr.symm
     exact leave this (by simp) he5 hs5 hst45
   |panic ch =>
    cases e4<;>try exact he4.elim
    have:rr=onlyRes P x (.panic ch,st4):=by simp only[mapRound,Option.some.injEq] at hrr;exact hrr.symm
    exact leave this (by simp) he4 hs4 hst4
   |exit i=>simp only[mapRound] at hrr;cases hrr
   |ret=>simp only[mapRound] at hrr;cases hrr
 refine key es.length (n+1) #[] since a w σ (List.length_filter_le _ _) (by omega) (Ze _) hH0 hst0 hσr hbm hs.tm ?_ hs.sz hs.gr hbi (fun e _ he=>by simp at he);have:=hs.ds;rw[hds] at this;cases hd:a.defers with
 |nil=>rfl
 |cons d l=>rw[hd] at this;exact this.elim
theorem z9s (A:All P N w0 τ ok n) {x c st ex st' m a F}(Q:Exit→Act→World→Prop) (h:dcode P ok (n+1) x (.loop c) st=some (ex,st')) (hok:okCode P.globals.size m c=true) (hs:SR P N w0 τ σ st m a w)
  (hF:FRel x F) (hQ:Cont P N w0 τ σ st.H w ex st' m Q):Code.roundsIn F 0 P c Q (n+1) a w:=by
 cases hms:mapShape c with
 |none=>exact zi8 A Q hms h hok hs hF hQ
 |some q=>exact zl7 A Q hms h hok hs hF hQ
end
end Go.Hb
end

section
namespace Go.Hb
open Go Go.RowKit
section
variable {P:Program}{N:Nat}{w0:World}{τ:Nat→Value}{ok:Ok}{n:Nat}
theorem FRel.round {x:Ctx}{F:Fence}(h:FRel x F) (hx:x.round=none):F=Fence.wide:=by
  rcases h with ⟨_,h⟩|⟨h,_⟩
  · exact h
  · exact absurd hx h
theorem HR.bump {σ:Nat→Loc}{H:Heap}{w:World}(h:HR P N w0 τ σ H w) (k:Nat):HR P N w0 τ σ ⟨H.next+k,H.t⟩ w :=
  ⟨h.below,h.size,fun i hi=>h.fresh i (by have:H.next+k≤i:=hi;omega),h.blk,h.inj,h.lt⟩
theorem HR.get_none {σ:Nat→Loc}{H:Heap}{w:World}(h:HR P N w0 τ σ H w) {i:Nat}(hi:H.next≤i):H.get i=none:=by
  cases hg:H.get i with
  |none=>rfl
  |some B=>have:=h.get_lt hg;omega
theorem z7q {n i:Nat}:¬lst (Array.replicate n false) i:=by
  unfold lst;rw[ZG,Array.getElem?_replicate];split<;>simp
theorem zes (hτ:∀j,(τ j).oneCell'=true) (hm:P.follows .mixedOrders=true) {x id ops st st' m a w σ F}(Q:Exit→Act→World→Prop) {Z:Prop}{B:Oper→(Operand→Value)→List Deferred→Heap→Prop}{effs:List Nat}
    (heffs:effs=(Zj ops.size).filter fun i=>match ops[i]? with|some o=>isEff o|none=>false) (hE:EffLaw F P N w0 τ ok n x ops m st.tm σ st.H w Q Z B)
    (h:ddraw P ok n x ops (Region.before ops) effs st.H.next effs 0 [⟨st.H.next+ops.size,st.H.t⟩] st.tm st.ds=some st')
    (hok:ops.toList.all (okOper P.globals.size m)=true) (hdr:okDraw ops=true) (hs:SR P N w0 τ σ st m a w) (hF:∀f,F.fn f) (hQ:Z→DrawPost P N w0 τ m σ st.H w st' Q)
    (hZ:HZ Z B P ops (Region.before ops) effs st.H.next effs 0 ⟨st.H.next+ops.size,st.H.t⟩ [] st.tm st.ds):(Code.region id ops true).wpIn F 0 P Q a w:=by
  subst heffs;have R:=RC.of_ok hdr;refine wpIn_region_any hm ?_;have hdrew:({ w with drawn:=w.drawn+1 }:World)=w.drew:=rfl;rw[hdrew];refine zl3 (N:=N) (w0:=w0) (n:=n) (x:=x) (m:=m) (tm0:=st.tm) (σ0:=σ) (H0:=st.H) (w1:=w) R hF hτ hok hE hs.gr (fun i hi=>⟨hi,hs.hH.fresh i hi⟩) ops.size (Array.replicate ops.size false) n _ 0 _ [] st.tm st.ds σ a w.drew st' (Ze _) hQ hZ R.sorted h ?_ (by simp) ?_ ?_ ?_ ?_ ?_
  · exact⟨fun i hi=>by simp [bit] at hi,⟨[],List.Perm.refl _,fun e he=>(by cases he),rfl⟩,R.chain,R.topo R.sorted,fun e _ he=>by simp [bit] at he,fun t _=>rfl⟩
  · intro i hi;exact absurd hi z7q
  · intro i hi;simp [bit] at hi
  · intro e _ he;exact absurd he z7q
  · refine⟨hs.hH.drew.bump _,fun t v=>⟨fun hw=>?_,fun _ hv=>hs.tm t v hv⟩,hs.ds,hs.sz,fun p o B mk hp=>absurd hp z7q,fun p _ _=>hs.hH.fresh _ (Nat.le_add_right _ _),fun p _ _=>hs.hH.get_none (Nat.le_add_right _ _),Ze _,?_⟩
    · obtain⟨p,_,hp,_⟩:=hw;exact absurd hp z7q
    · exact⟨Nat.le_add_right _ _,Ext.refl σ,fun i b S es hi=>.inr (.inl ⟨S,es,hi⟩),fun _ _ _=>rfl,Ze _,fun i _ hg=>⟨rfl,hg⟩⟩
  · have:=List.length_filter_le (fun i=>!(Array.replicate ops.size false).getD i false) (Zj ops.size);simpa using this
theorem zib (hτ:∀j,(τ j).oneCell'=true) (hm:P.follows .mixedOrders=true) (hE:∀k,k < n→All P N w0 τ ok k) {x id ops st st' m a w σ F}(Q:Exit→Act→World→Prop)
    (h:ddraw P ok n x ops (Region.before ops) ((Zj ops.size).filter fun i=>match ops[i]? with|some o=>isEff o|none=>false) st.H.next
      ((Zj ops.size).filter fun i=>match ops[i]? with|some o=>isEff o|none=>false) 0 [⟨st.H.next+ops.size,st.H.t⟩] st.tm st.ds=some st')
    (hok:ops.toList.all (okOper P.globals.size m)=true) (hdr:okDraw ops=true) (hs:SR P N w0 τ σ st m a w) (hF:FRel x F) (hQ:Cont P N w0 τ σ st.H w .normal st' m Q):(Code.region id ops true).wpIn F 0 P Q a w:=by
  refine zes (Z:=True) (B:=fun _ _ _ _=>False) hτ hm Q rfl ?_ h hok hdr hs hF.fn ?_ (.inl trivial)
  · intro n' hn' o ρ ds H v ds1 H1 _ _ hd a w σ K hρ hH hds hg _ hK;exact(hE n' hn').op1 K Q hd hρ hH hds hg hF (hK trivial)
  · intro _ σ' a' w' hH' htm hds' hsz hst;exact hQ .normal a' w' σ' trivial ⟨hH',htm,hds',hsz,hs.gr.ext hst.ext⟩ hst
theorem dval {o:Option Heap}{r:Dr}(h:o.map (Dr.val undef ·)=some r):∃v H,r=.val v H:=by
  cases o with
  |none=>cases h
  |some H=>cases h;exact⟨_,_,rfl⟩
theorem z8e {t:TypeId}{m k v:Value}{H:Heap}{r:Dr}(h:dupdate P t m k v H=some r):∃v H,r=.val v H:=by
  unfold dupdate at h
  repeat' (split at h)
  all_goals first|(cases h;exact⟨_,_,rfl⟩)|cases h
theorem zdv {ts:Array TypeId}{s x:Value}{H:Heap}{r:Dr}(h:dappend P ts s x H=some r):∃v H,r=.val v H:=by
  unfold dappend at h
  repeat' (first|split at h|(simp only at h;split at h))
  all_goals first|(cases h;exact⟨_,_,rfl⟩)|cases h
theorem zh7 {t xt:TypeId}{s x:Value}{H:Heap}{r:Dr}(h:dzeros P t xt s x H=some r):∃v H,r=.val v H:=by
  unfold dzeros at h
  repeat' (split at h)
  all_goals first|(cases h;exact⟨_,_,rfl⟩)|cases h
theorem zl8 {ops:Array Oper}{e:Nat}{o:Oper}{ρ:Operand→Value}{H:Heap}{r:Dr}(hm:mild ops e=true) (ho:ops[e]?=some o) (h:dop P o ρ H=some r):∃v H,r=.val v H:=by
  unfold mild at hm;rw[ho] at hm;obtain⟨dst,op,ty,pos,af,g⟩:=o;cases op with
  |store t a x =>
    unfold dop at h;simp only at h;split at h
    · split at h
      · exact dval h
      · cases h
    · cases h
  |mapUpdate t m k x=>unfold dop at h;exact z8e h
  |insert t m k x=>unfold dop at h;exact z8e h
  |call c =>
    obtain⟨cl,as,ats⟩:=c;cases cl with
    |builtin bb =>
      cases bb with
      |append =>
        unfold dop at h;simp only at h;split at h<;>first|contradiction|skip
        split at h
        · split at h
          · rename_i hz;cases h;exact zh7 hz
          · exact zdv h
        · cases h
      |_=>simp at hm
    |_=>simp at hm
  |_=>simp at hm
theorem zic {ok ok':Ok}{ops:Array Oper}{e:Nat}{o:Oper}(hm:mild ops e=true) (ho:ops[e]?=some o) (n:Nat) (x:Ctx) (ρ:Operand→Value) (ds:List Deferred) (H:Heap):dop1 P ok n x o ρ ds H=dop1 P ok' n x o ρ ds H:=by
  cases n with
  |zero=>rw[dop1,dop1]
  |succ n =>
    rw[dop1,dop1];cases hd:dop P o ρ H with
    |none=>rfl
    |some r =>
      obtain⟨v,H',rfl⟩:=zl8 hm ho hd;rfl
theorem z3m {ok ok':Ok}{x:Ctx}{ops:Array Oper}{b:Array Nat}{effs:List Nat}{base:Nat}:∀(n:Nat) (es:List Nat) (done:Nat) (hs:List Heap) (tm:Tr Value) (ds:List Deferred),es.all (mild ops)=true →
    ddraw P ok n x ops b effs base es done hs tm ds=ddraw P ok' n x ops b effs base es done hs tm ds∧dstage P ok n x ops b effs base es done hs tm ds=dstage P ok' n x ops b effs base es done hs tm ds
  |0,es,done,hs,tm,ds,_=>⟨by rw[ddraw,ddraw],by rw[dstage,dstage]⟩
  |n+1,es,done,hs,tm,ds,hm=>by
    constructor
    · rw[ddraw,ddraw];cases ht:twin b es with
      |none=>exact(z3m n es done hs tm ds hm).2
      |some p =>
        obtain⟨e,f⟩:=p;obtain⟨rfl,_,_⟩:=zeq ht;have hm2:[f,e].all (mild ops)=true:=by
          simp only[List.all_cons,List.all_nil,Bool.and_true,Zi] at hm ⊢;exact⟨hm.2,hm.1⟩
        simp only[(z3m (ok:=ok) (ok':=ok') (x:=x) (b:=b) (effs:=effs) (base:=base) n [e,f] done hs tm ds hm).2,(z3m (ok:=ok) (ok':=ok') (x:=x) (b:=b) (effs:=effs) (base:=base) n [f,e] done hs tm ds hm2).2]
    · unfold dstage;cases hs with
      |nil=>rfl
      |cons G gs =>
        cases es with
        |nil=>rfl
        |cons e es =>
          simp only;rw[List.all_cons,Zi] at hm;cases hd:dnon P ops b effs base (G :: gs) (pending (Zj ops.size) effs (b.getD e 0) done) tm G with
          |none=>rfl
          |some p =>
            obtain⟨tm1,H1⟩:=p;simp only;cases ho:ops[e]? with
            |none=>rfl
            |some o =>
              simp only;cases hw:dwanted ops tm1 o with
              |none=>rfl
              |some bb =>
                cases bb with
                |false=>exact(z3m n es _ _ _ _ hm.2).1
                |true =>
                  simp only[zic (ok:=ok) (ok':=ok') hm.1 ho];cases h1:dop1 P ok' n x o (ev tm1) ds H1 with
                  |none=>rfl
                  |some r =>
                    cases r with
                    |val v ds1 H2=>exact(z3m n es _ _ _ _ hm.2).1
                    |panic _ _=>rfl
def okAny (z:Value):Ok:=⟨0,fun _ _ H=>some (.ret z,H)⟩
theorem zid {ops:Array Oper}{e:Nat}{o:Oper}{ρ:Operand→Value}{H:Heap}{f:FuncId}{args:List Value}(ho:ops[e]?=some o) (h:dop P o ρ H=some (.call f args)):isSt ops e=false:=by
  cases hs:isSt ops e with
  |false=>rfl
  |true =>
    exfalso;unfold isSt at hs;rw[ho] at hs;simp only[Zi] at hs;have h3:=hs.2;obtain⟨dst,op,ty,pos,af,g⟩:=o;cases op with
    |store t a y =>
      unfold dop at h;simp only at h;split at h
      · split at h
        · obtain⟨_,_,h⟩:=dval h;cases h
        · cases h
      · cases h
    |_=>simp at h3
theorem zc7 {t:Tmp}{v:Value}:∀(l:List Oper) (tm:Tr Value),(l.foldl (fun t o=>match o.dst with|some d=>t.put d none|none=>t) tm).get t=some v→(∀o∈l,o.dst≠some t)∧tm.get t=some v
  |[],tm,h=>⟨fun _ h=>(by cases h),h⟩
  |o :: l,tm,h=>by
    rw[List.foldl_cons] at h;obtain⟨h1,h2⟩:=zc7 l _ h;cases hd:o.dst with
    |none =>
      rw[hd] at h2;exact⟨fun o' ho'=>by rcases List.mem_cons.1 ho' with rfl|ho';(· rw[hd];simp);exact h1 o' ho',h2⟩
    |some d =>
      rw[hd] at h2;simp only at h2;rw[Tr.get_put] at h2;split at h2
      · cases h2
      · rename_i hne;exact⟨fun o' ho'=>by rcases List.mem_cons.1 ho' with rfl|ho';(· rw[hd];intro h;cases h;exact hne rfl);exact h1 o' ho',h2⟩
theorem zny {ops:Array Oper}{tm:Tr Value}{t:Tmp}{v:Value}(h:(clr ops tm).get t=some v):(∀(i:Nat) (o:Oper),ops[i]?=some o→o.dst≠some t)∧tm.get t=some v:=by
  obtain⟨h1,h2⟩:=zc7 _ _ h;exact⟨fun i o ho=>h1 o (by obtain⟨k1,k2⟩:=Array.getElem?_eq_some_iff.1 ho;rw[←k2];exact Array.getElem_mem_toList k1),h2⟩
theorem zl9 {call:FuncId→List Value→Heap→Option (En × Heap)}{draw:List Nat→Nat→List Heap→Tr Value→Option St}{ops:Array Oper}{b:Array Nat}{effs:List Nat}{base:Nat}{G:Heap}{tm:Tr Value}{ch:List PanicEntry}{H2:Heap}
    (h:dpan P call draw ops b effs base G tm=some (ch,H2)) :
    ∃e es tm1 H1 o f args st1,effs=e :: es∧dnon P ops b effs base [G] (pending (Zj ops.size) effs (b.getD e 0) 0) tm G=some (tm1,H1)∧ops[e]?=some o∧dwanted ops tm1 o=some true∧dop P o (ev tm1) H1=some (.call f args) ∧
      es.all (mild ops)=true∧call f args H1=some (.panic ch,H2)∧draw es (0 ||| b.getD e 0 ||| 2 ^ e) [H1,G] (putD tm1 o.dst (dmight P f))=some st1:=by
  unfold dpan at h;split at h
  · cases h
  rename_i e es;split at h
  · cases h
  rename_i tm1 H1 hdn;split at h
  · cases h
  rename_i o ho;split at h
  · rename_i f args hw hd hm;split at h
    · rename_i ch' H2' st1 hc hr;cases h;refine⟨e,es,tm1,H1,o,f,args,st1,rfl,hdn,ho,hw,hd,hm,hc,?_⟩;rw[←hr];cases o.dst<;>rfl
    · cases h
  · cases h
theorem zla (hτ:∀j,(τ j).oneCell'=true) (hm:P.follows .mixedOrders=true) (A:All P N w0 τ ok n) {x id ops st m a w σ F}{ch:List PanicEntry}{H2:Heap}(Q:Exit→Act→World→Prop)
    (h:dpan P (dcall P ok n) (fun es done hs tm=>ddraw P ok n x ops (Region.before ops) ((Zj ops.size).filter fun i=>match ops[i]? with|some o=>isEff o|none=>false) st.H.next es done hs tm st.ds) ops (Region.before ops)
      ((Zj ops.size).filter fun i=>match ops[i]? with|some o=>isEff o|none=>false) st.H.next ⟨st.H.next+ops.size,st.H.t⟩ st.tm=some (ch,H2))
    (hok:ops.toList.all (okOper P.globals.size m)=true) (hdr:okDraw ops=true) (hs:SR P N w0 τ σ st m a w) (hF:FRel x F) (hQ:Cont P N w0 τ σ st.H w (.panic ch) ⟨clr ops st.tm,st.ds,H2⟩ m Q):(Code.region id ops true).wpIn F 0 P Q a w:=by
  have R:=RC.of_ok hdr;generalize he:((Zj ops.size).filter fun i=>match ops[i]? with|some o=>isEff o|none=>false)=effs at h R;obtain⟨e,es,tm1,H1,o,f,args,st1,hee,hdn,ho,hw,hd,hmild,hc,hr⟩:=zl9 h;have hns:=zid ho hd;have hn:∃k,n=k+2:=by
    match n,hr with
    |0,hr=>rw[ddraw] at hr;cases hr
    |1,hr =>
      exfalso;rw[ddraw] at hr;split at hr
      · rw[dstage] at hr;cases hr
      · rw[dstage] at hr;cases hr
    |k+2,_=>exact⟨k,rfl⟩
  have htw:twin (Region.before ops) effs=none:=by
    have hch:=R.chain;rw[hee] at hch ⊢;rcases z9n hch with h|⟨g,rfl,h1,_⟩
    · cases es with
      |nil=>rfl
      |cons g gs =>
        cases gs with
        |nil =>
          have h1:((Region.before ops).getD g 0).testBit e=true:=h g (by simp);unfold twin;simp only[h1,Bool.true_or]
        |cons _ _=>rfl
    · rw[h1] at hns;cases hns
  have hrun:ddraw P (okAny (dmight P f)) (n+2) x ops (Region.before ops) effs st.H.next effs 0 [⟨st.H.next+ops.size,st.H.t⟩] st.tm st.ds=some st1:=by
    rw[ddraw,htw];simp only;unfold dstage;generalize hq:effs=E at hee ⊢;subst hee;subst hq;simp only[hdn,ho,hw];obtain⟨k,rfl⟩:=hn;have h1:dop1 P (okAny (dmight P f)) (k+2) x o (ev tm1) st.ds H1=some (.val (dmight P f) st.ds H1):=by
      rw[dop1,hd];simp only;rw[dcall];rfl
    rw[h1];simp only;rw[(z3m (ok:=okAny (dmight P f)) (ok':=ok) (k+2) es _ _ _ _ hmild).1,←hr];cases o.dst<;>rfl
  refine zes (Z:=False) (B:=fun o' ρ ds H=>dop P o' ρ H=some (.call f args)∧ds=st.ds∧H=H1) (n:=n+2) (ok:=okAny (dmight P f)) hτ hm Q he.symm ?_ hrun hok hdr hs hF.fn (fun h=>h.elim) (.inr ⟨e,es,tm1,H1,o,hee,hns,ho,hdn,hw,hd,rfl,rfl⟩);intro n' _ o' ρ ds H v ds1 H1' _ hB _ a w σ' K hρ hH hds hg hseen _;obtain⟨hdo,rfl,rfl⟩:=hB.resolve_left (fun h=>h);have h1:dop1 P ok (n+1) x o' ρ st.ds H=some (.panic ch H2):=by rw[dop1,hdo];simp only[hc]
  refine zer hτ A K Q h1 hρ hH hds hg hF ?_;intro σ2 ch' w2 hch hH2 hst2;refine hQ (.panic ch') a w2 σ2 hch ⟨hH2,fun t v hv=>?_,hds.ext hst2.ext,hseen.sz,hg.ext hst2.ext⟩ (hseen.stp.trans hst2);obtain⟨hv1,hv2⟩:=zny hv;exact(hseen.tm t v hv1 hv2).ext hst2.ext
theorem zdw {σ:Nat→Loc}{H:Heap}{w:World}(hH:HR P N w0 τ σ H w) {tm:Tr Value}(L:Loop) (htm:TmR σ τ tm L.tmps) {ps:List Tmp}{as bo:Code}{m:Nat}{fnx:FuncId}(hL1:L.state=.ready) (hL2:L.pending=none)
    (hL3:L.params.toList=ps) (hL4:L.assign=as) (hL5:L.body=bo) (hsz:m≤L.tmps.size) (hok3:okCode P.globals.size m as=true) (hok4:okCode P.globals.size m bo=true) (hps:∀t∈ps,t < m) :
    ∃ σ2,HR P N w0 τ σ2 ((H.new (some .dfr)).new (some (.loop .ready none fnx tm ps as bo H.next))) ((w.alloc (.deferred (some []))).alloc (.loop L)) ∧
      Step σ H w σ2 ((H.new (some .dfr)).new (some (.loop .ready none fnx tm ps as bo H.next))) ((w.alloc (.deferred (some []))).alloc (.loop L)) ∧
      σ2 H.next=.live w.heap.size 0 0∧σ2 (H.new (some .dfr)).next=.live (w.heap.size+1) 0 0:=by
  obtain⟨hH1,hst1⟩:=hH.alloc (w':=w.alloc (.deferred (some []))) (B:=.dfr) (S:=0) (es:=0) rfl rfl rfl (by simp) (fun k hk=>Below.heap_alloc w _ k hk)
    (.dfr _ _ _ hH.size (by show (w.heap.push _)[w.heap.size]?=_;simp))
  have hsz':(w.alloc (.deferred (some []))).heap.size=w.heap.size+1:=by simp
  have htm1:=htm.ext hst1.ext;have hN:=hH.size;obtain⟨hH2,hst2⟩:=hH1.alloc (w':=(w.alloc (.deferred (some []))).alloc (.loop L))
    (B:=.loop .ready none fnx tm ps as bo H.next) (S:=0) (es:=0) rfl rfl rfl (by simp) (fun k hk=>Below.heap_alloc _ _ k hk)
    (.loop _ _ _ _ _ _ _ _ _ _ _ m L (by omega)
      (by show ((w.alloc (.deferred (some []))).heap.push _)[(w.alloc (.deferred (some []))).heap.size]?=_;exact Array.getElem?_push_size) hL1 hL2 hL3 hL4 hL5 (htm1.ext (hH1.ext_new _)) hsz hok3 hok4 hps (.inl rfl))
  refine⟨_,hH2,hst1.trans hst2,?_,?_⟩
  · have hne:H.next≠(H.new (some .dfr)).next:=Nat.ne_of_lt (Nat.lt_succ_self _);rw[z0g _ _ hne,z0j]
  · rw[z0j,hsz']
theorem zaz (fnid:FuncId) (tmps:Array Value) (ps:Array Tmp) (as bo:Code) (w:World) :
    (Instr.enterLoop fnid tmps ps as bo none).run P w=.ok (w.heap.size+1,[{ target:=.collected w.heap.size,args:=#[] }])
      ((w.alloc (.deferred (some []))).alloc (.loop { state:=.ready,pending:=none,fn:=fnid,tmps:=tmps,params:=ps,assign:=as,body:=bo,defers:=w.heap.size })):=by
  have hsz:(w.alloc (.deferred (some []))).heap.size=w.heap.size+1:=by simp
  simp [Instr.enterLoop,Sem.run_bind,hsz]
theorem zdx {w:World}{b:Nat}{L:Loop}(h:w.heap[b]?=some (.loop L)) (hb:L.state≠.busy) :
    (Instr.endLoop b).run P w=.ok L.pending { w with heap:=w.heap.setIfInBounds b (.loop { L with state:=.exhausted }) }:=by
  simp [Instr.endLoop,Sem.run_bind,z4l h,hb,z5p h]
theorem zb0 {a:Act}{f:Operand}{g:FuncId}{x y:Array Value}(l:Nat) (h:a.eval f=.func (.func g) x y) (w:World) :
    (resolve a.eval (rangeCall f l) 0).run P w=.ok { target:=.fn (.func g) y,args:=x++#[.func (.yield l) #[] #[]] } w:=by
  have hc:a.eval (.const (.func (.yield l) #[] #[]))=.func (.yield l) #[] #[]:=rfl;simp [rangeCall,resolve,h,hc,Deferred.ofValue,Sem.run_bind]
theorem zh8 (A:All P N w0 τ ok n) {x:Ctx}{f:Operand}{ps:Array Tmp}{as bo:Code}{st st':St}{ex:Ex}{m:Nat}{a:Act}{w:World}{σ:Nat→Loc}(Q:Exit→Act→World→Prop)
    (hok1:okOpnd P.globals.size f=true) (hok2:∀t∈ps.toList,t < m) (hok3:okCode P.globals.size m as=true) (hok4:okCode P.globals.size m bo=true) (hs:SR P N w0 τ σ st m a w) (hF:FRel x Fence.wide)
    {g:FuncId}{first captured:Array Value}(hv:ev st.tm f=.func (.func g) first captured) {d1:Dr}(hd1:dcall1 P g []=some d1) {v:Value}{H3:Heap}
    (hc:dcall P ok n g (first.toList++[.func (.yield (st.H.new (some .dfr)).next) #[] #[]]++captured.toList) ((st.H.new (some .dfr)).new (some (.loop .ready none x.fn st.tm ps.toList as bo st.H.next)))=some (.ret v,H3))
    {s:LoopState}{pend:Option Code}{fn3:FuncId}{tm3:Tr Value}{ps3:List Tmp}{as3 bo3:Code}{dd3:Nat}(hg3:H3.get (st.H.new (some .dfr)).next=some (.loop s pend fn3 tm3 ps3 as3 bo3 dd3)) (hnb:s≠.busy)
    (h:(match (generalizing:=false) pend with
      |none=>some (Ex.normal,(⟨st.tm,{ target:=.collected st.H.next,args:=#[] } :: st.ds,H3.put (st.H.new (some .dfr)).next (some (.loop .exhausted pend fn3 tm3 ps3 as3 bo3 dd3))⟩:St))
      |some c=>dcode P ok n x c ⟨st.tm,{ target:=.collected st.H.next,args:=#[] } :: st.ds,H3.put (st.H.new (some .dfr)).next (some (.loop .exhausted pend fn3 tm3 ps3 as3 bo3 dd3))⟩)=some (ex,st'))
    (hQ:Cont P N w0 τ σ st.H w ex st' m Q):(Code.rangeFunc f ps as bo).wpIn Fence.wide 0 P Q a w:=by
  have hy:=opnd hs.tm hs.gr hok1;rw[hv] at hy;obtain⟨first',captured',e1,hf,hcap⟩:=hy.func_inv;obtain⟨_,hcallf⟩:=z4v hd1;refine wpIn_rangeFunc fun fnid _=>?_
  obtain⟨σ2,hH2,hst2,hσd,hσl⟩:=zdw hs.hH (tm:=st.tm) (fnx:=x.fn) (m:=m) { state:=.ready,pending:=none,fn:=fnid,tmps:=a.tmps,params:=ps,assign:=as,body:=bo,defers:=w.heap.size } hs.tm rfl rfl rfl rfl rfl hs.sz hok3 hok4 hok2;have hbr:BR σ2 (st.H.new (some .dfr)).next (w.heap.size+1):=by unfold BR;rw[hσl]
  have hargs:LR σ2 τ (first.toList++[Value.func (.yield (st.H.new (some .dfr)).next) #[] #[]]++captured.toList) (first'++#[Value.func (.yield (w.heap.size+1)) #[] #[]]++captured').toList:=by
    simp only[Array.toList_append];exact LR.append (LR.append (hf.ext hst2.ext) (LR.cons (.yield _ _ hbr) LR.nil)) (hcap.ext hst2.ext)
  have hcall:=A.call hc hargs hH2 (hs.gr.ext hst2.ext);refine⟨w.heap.size+1,[{ target:=.collected w.heap.size,args:=#[] }],_,{ target:=.fn (.func g) captured',args:=first'++#[.func (.yield (w.heap.size+1)) #[] #[]] },_,g,first'++#[Value.func (.yield (w.heap.size+1)) #[] #[]]++captured',_,
    zaz fnid a.tmps ps as bo w,zb0 _ e1 _,fun _ _=>trivial,(by simp only[invoke];exact hcallf _ _),fun hd=>(by cases hd),CallsIn.mono hcall ?_⟩
  intro e w3 he;obtain⟨σ3,hen,hH3,hst3⟩:=he;cases e with
  |panicked _=>exact hen.elim
  |outgrown=>exact hen.elim
  |returned v' =>
    obtain⟨b,S,es,mm,L3,q1,q2,q3,q4,q5,q6,q7,q8,q9,q10,q11,q12,q13,q14⟩:=hH3.loopAt hg3;have hbe:b=w.heap.size+1:=by
      rcases hst3.ext (st.H.new (some .dfr)).next with k|k|⟨_,k⟩
      · rw[hσl] at k;cases k
      · rw[hσl,q1] at k;cases k;rfl
      · rw[q1] at k;cases k
    subst hbe;obtain⟨hH4,hst4⟩:=hH3.setLoop (s':=.exhausted) (pend':=pend) hg3 q1 q2 q3 q6 q7 q8 q9 q10 q11 q12 q13 q14;have hstA:=hst2.trans (hst3.trans hst4);have hL:({ L3 with state:=.exhausted,pending:=pend }:Loop)={ L3 with state:=.exhausted }:=by rw[←q5]
    have hend:=zdx (P:=P) q3 (by rw[q4];exact hnb);rw[←hL,q5] at hend;have hsr:SR P N w0 τ σ3 ⟨st.tm,{ target:=.collected st.H.next,args:=#[] } :: st.ds,H3.put (st.H.new (some .dfr)).next (some (.loop .exhausted pend fn3 tm3 ps3 as3 bo3 dd3))⟩ m { a with defers:=[{ target:=.collected w.heap.size,args:=#[] }]++a.defers }
        { w3 with heap:=w3.heap.setIfInBounds (w.heap.size+1) (.loop { L3 with state:=.exhausted,pending:=pend }) }:=by
      refine⟨hH4,hs.tm.ext hstA.ext,⟨⟨LR.nil,.inr ⟨st.H.next,w.heap.size,rfl,rfl,?_⟩⟩,hs.ds.ext hstA.ext⟩,hs.sz,hs.gr.ext hstA.ext⟩;have:BR σ2 st.H.next w.heap.size:=by unfold BR;rw[hσd]
      exact this.ext (hst3.trans hst4).ext
    refine⟨pend,_,hend,?_⟩;cases pend with
    |none =>
      cases h;exact hQ .normal _ _ σ3 trivial hsr hstA
    |some c =>
      have hokc:okCode P.globals.size m c=true:=by
        rcases q14 with k|k|⟨id,k⟩
        · cases k
        · cases k;rfl
        · cases k;rfl
      exact A.code Q h hokc hsr hF fun e2 a2 w2 σ5 he2 hs2 hst5=>hQ e2 a2 w2 σ5 he2 hs2 (hstA.trans hst5)
theorem zie (hτ:∀j,(τ j).oneCell'=true) (hm:P.follows .mixedOrders=true) (A:All P N w0 τ ok n) (hE:∀k,k < n→All P N w0 τ ok k) {x c st ex st' m a w σ F}(Q:Exit→Act→World→Prop)
    (h:dcode P ok (n+1) x c st=some (ex,st')) (hok:okCode P.globals.size m c=true) (hs:SR P N w0 τ σ st m a w) (hF:FRel x F) (hQ:Cont P N w0 τ σ st.H w ex st' m Q):c.wpIn F 0 P Q a w:=by
  cases c with
  |skip=>unfold dcode at h;cases h;exact wpIn_skip (hQ .normal a w σ trivial hs (Step.refl _ _ _))
  |label l=>unfold dcode at h;cases h;exact wpIn_label (hQ .normal a w σ trivial hs (Step.refl _ _ _))
  |exit i=>unfold dcode at h;cases h;exact wpIn_exit (hQ (.exit i) a w σ rfl hs (Step.refl _ _ _))
  |ret=>unfold dcode at h;cases h;exact wpIn_ret (hQ .ret a w σ trivial hs (Step.refl _ _ _))
  |region id ops dr =>
    unfold okCode at hok;rw[Zi] at hok;cases dr with
    |false =>
      unfold dcode at h;exact wpIn_region (A.ops Q h hok.1 hs hF hQ)
    |true =>
      unfold dcode at h;simp only at h;split at h
      · rename_i st1 hd;cases h;exact zib hτ hm hE Q hd hok.1 (by simpa using hok.2) hs hF hQ
      · split at h
        · rename_i ch H2 hp;cases h;exact zla hτ hm A Q hp hok.1 (by simpa using hok.2) hs hF hQ
        · cases h
  |seq c1 c2 =>
    unfold dcode at h;simp only at h;unfold okCode at hok;rw[Zi] at hok;refine wpIn_seq ?_;cases hc:dcode P ok n x c1 st with
    |none=>rw[hc] at h;cases h
    |some p =>
      obtain⟨ex1,st1⟩:=p;rw[hc] at h;refine A.code _ hc hok.1 hs hF ?_;intro e a' w' σ' he hs' hst;cases ex1 with
      |normal =>
        cases e<;>try exact he.elim
        exact A.code Q h hok.2 hs' hF fun e2 a2 w2 σ2 he2 hs2 hst2=>hQ e2 a2 w2 σ2 he2 hs2 (hst.trans hst2)
      | exit i => cases h;cases e<;>try exact he.elim
                  exact hQ _ a' w' σ' he hs' hst
      | ret => cases h;cases e<;>try exact he.elim
               exact hQ _ a' w' σ' he hs' hst
      | panic ch => cases h;cases e<;>try exact he.elim
                    exact hQ _ a' w' σ' he hs' hst
  |cond y c1 c2 =>
    unfold dcode at h;simp only at h;unfold okCode at hok;rw[Zi,Zi] at hok;have hy:=opnd hs.tm hs.gr hok.1.1;split at h
    · rename_i hv;rw[hv] at hy;exact wpIn_cond_true (hy.flat_eq rfl) (A.code Q h hok.1.2 hs hF hQ)
    · rename_i hv;rw[hv] at hy;exact wpIn_cond_false (hy.flat_eq rfl) (A.code Q h hok.2 hs hF hQ)
    · cases h
  |block i c1 =>
    unfold dcode at h;simp only at h;unfold okCode at hok;refine wpIn_block ?_;cases hc:dcode P ok n x c1 st with
    |none=>rw[hc] at h;cases h
    |some p =>
      obtain⟨ex1,st1⟩:=p;rw[hc] at h;refine A.code _ hc hok hs hF ?_;intro e a' w' σ' he hs' hst;cases ex1 with
      | normal => cases h;cases e<;>try exact he.elim
                  exact hQ .normal a' w' σ' trivial hs' hst
      |exit j =>
        cases e<;>try exact he.elim
        rename_i j';have hj:j=j':=he;subst hj;show (if j=i then Q .normal a' w' else Q (.exit j) a' w');by_cases hji:j=i
        · subst hji;simp only[Zy,if_true] at h;cases h;rw[if_pos rfl];exact hQ .normal a' w' σ' trivial hs' hst
        · have hb:Zk j i=false:=by rw[←ZB,Zp];exact hji
          simp only[hb,Zc,if_false] at h;cases h;rw[if_neg hji];exact hQ (.exit j) a' w' σ' rfl hs' hst
      | ret => cases h;cases e<;>try exact he.elim
               exact hQ _ a' w' σ' he hs' hst
      | panic ch => cases h;cases e<;>try exact he.elim
                    exact hQ _ a' w' σ' he hs' hst
  |scope c1 =>
    unfold dcode at h;simp only at h;unfold okCode at hok;refine zh1 (A.code _ h hok hs hF ?_);intro e a' w' σ' he hs' hst;have hq:=hQ e a' w' σ' he hs' hst;cases e with
    |goto l=>cases ex<;>exact he.elim
    |_=>exact hq
  |loop c1 =>
    unfold okCode at hok;exact wpIn_loop_rounds (n+1) (z9s A Q h hok hs hF hQ)
  |rangeFunc f ps as bo =>
    unfold dcode at h;simp only at h;unfold okCode at hok;simp only[Zi] at hok;obtain⟨⟨⟨hok1,hok2⟩,hok3⟩,hok4⟩:=hok;split at h
    case h_2=>cases h
    rename_i g first captured hx hv
    split at h
    · cases h
    rename_i hd1;have hFw:=hF.round hx;subst hFw;have hd1':∃d,dcall1 P g []=some d:=by
      cases hh:dcall1 P g [] with
      |none=>rw[hh] at hd1;simp at hd1
      |some d=>exact⟨d,rfl⟩
    obtain⟨d1,hd1'⟩:=hd1';split at h
    case h_2=>cases h
    rename_i v H3 hc;split at h
    case h_2=>cases h
    rename_i s pend fn3 tm3 ps3 as3 bo3 dd3 hg3;refine zh8 A Q hok1 (fun t ht=>by have:=List.all_eq_true.1 hok2 t ht;simpa [Nat.blt_eq] using this) hok3 hok4 hs hF hv hd1' hc hg3 ?_ ?_ hQ
    · intro hb;subst hb;cases h
    · cases s<;>first|cases h|exact h
  |_=>unfold dcode at h;cases h
end
end Go.Hb
end

section
namespace Go.Hb
open Go Go.RowKit
section
variable {P:Program}{N:Nat}{w0:World}{τ:Nat→Value}{ok:Ok}{n:Nat}
structure OkFns (P:Program) (N:Nat) (w0:World) (ok:Ok):Prop where
 code:∀f fn c,ok.testBit f=true→P.funcs[f]?=some fn→fn.body=some c→okCode P.globals.size fn.ntmps c=true
 know:∀(τ:Nat→Value) f args args' H en H' w σ,(∀j,(τ j).oneCell'=true)→ok.K f args H=some (en,H')→LR σ τ args args'.toList→HR P N w0 τ σ H w→GR P σ →
  Calls P f args' w fun e w'=>∃ σ',EnR σ' τ en e∧HR P N w0 τ σ' H' w'∧Step σ H w σ' H' w'
theorem SR.init {σ:Nat→Loc}{H:Heap}{w:World}{args:List Value}{args':Array Value}(hl:LR σ τ args args'.toList) (hH:HR P N w0 τ σ H w) (hg:GR P σ) (nt:Nat) :
  SR P N w0 τ σ ⟨initTm 0 args .nil,[],H⟩ nt { tmps:=args'++Array.replicate (nt - args'.size) undef,defers:=[] } w :=
 ⟨hH,TmR.init hl nt,trivial,by simp;omega,hg⟩
theorem zif (hτ:∀j,(τ j).oneCell'=true) (hOK:OkFns P N w0 ok) (A:All P N w0 τ ok n) {f args args' H en H' w σ}(h:dcall P ok (n+1) f args H=some (en,H')) (hl:LR σ τ args args'.toList) (hH:HR P N w0 τ σ H w) (hg:GR P σ) :
  CallsIn Fence.wide 0 P f args' w fun e w'=>∃ σ',EnR σ' τ en e∧HR P N w0 τ σ' H' w'∧Step σ H w σ' H' w':=by
 unfold dcall at h;split at h
 ·rename_i r hk;cases h;exact callsIn_wide.2 (hOK.know τ f args args' H en H' w σ hτ hk hl hH hg)
 split at h
 case h_2=>cases h
 rename_i fn hf hb;split at h
 case h_2=>cases h
 rename_i c hc;refine callsIn_of_wp_marks hf hc trivial ?_;have hcode:=hOK.code f fn c hb hf hc;cases hd:dcode P ok n ⟨f,none⟩ c ⟨initTm 0 args .nil,[],H⟩ with
 |none=>rw[hd] at h;cases h
 |some p =>
  obtain⟨ex,st⟩:=p;rw[hd] at h;refine A.code _ hd hcode (SR.init hl hH hg fn.ntmps) (.inl ⟨rfl,rfl⟩) ?_;intro e a' w' σ' he hs hst;cases ex with
  |normal =>
   cases e<;>try exact he.elim
   exact A.leave _ h hs.tm hs.ds trivial hs.hH hs.gr fun e2 w2 σ2 he2 hH2 hst2=>⟨σ2,he2,hH2,hst.trans hst2⟩
  |ret =>
   cases e<;>try exact he.elim
   exact A.leave _ h hs.tm hs.ds trivial hs.hH hs.gr fun e2 w2 σ2 he2 hH2 hst2=>⟨σ2,he2,hH2,hst.trans hst2⟩
  |panic ch =>
   cases e<;>try exact he.elim
   exact A.leave (u:=.panicking _) _ h hs.tm hs.ds he hs.hH hs.gr fun e2 w2 σ2 he2 hH2 hst2=>⟨σ2,he2,hH2,hst.trans hst2⟩
  |exit i=>cases h
theorem z7c {F:Fence}(hro:F.round=none) (Q:Exit→Act→List Frame→World→Prop) (cs:List Frame):∀(rs:List Code) (a:Act) (w:World),seqW F P (fun e a w=>Q e a cs w) rs a w→seqS F 0 P Q rs a cs w
 |[],a,w,h=>h
 |c :: rs,a,w,h=>by
  refine wpSIn_of_wpIn hro (wpIn_mono h fun e a' w' he=>?_);cases e with
  |normal=>exact z7c hro Q cs rs a' w' he
  |_=>exact he
theorem z8f (hτ:∀j,(τ j).oneCell'=true) {F:Fence}(hF:∀f,F.fn f) {ops:Array Oper}{m:Nat}(hok:ops.toList.all (okOper P.globals.size m)=true) (Q:Exit→Act→List Frame→World→Prop) (cs:List Frame) :
  ∀(l:List Nat) (tm:Tr Value) (H:Heap) (r:Tr Value × Heap) (a:Act) (w:World) (σ:Nat→Loc),dplain P ops l tm H=some r→HR P N w0 τ σ H w→TmR σ τ tm a.tmps→m≤a.tmps.size→GR P σ →
  (∀a' w' σ',HR P N w0 τ σ' r.2 w'→TmR σ' τ r.1 a'.tmps→a'.defers=a.defers→m≤a'.tmps.size→Step σ H w σ' r.2 w'→Q .normal a' cs w')→wpOpsSIn F 0 P ops Q l a cs w
 |[],tm,H,r,a,w,σ,h,hH,ht,hm,hg,hQ=>by
  unfold dplain at h;cases h;exact hQ a w σ hH ht rfl hm (Step.refl _ _ _)
 |i :: l,tm,H,r,a,w,σ,h,hH,ht,hm,hg,hQ=>by
  unfold dplain at h;unfold wpOpsSIn;cases ho:ops[i]? with
  |none=>rw[ho] at h;cases h
  |some o =>
   rw[ho] at h;simp only at h ⊢;have hmem:o∈ops.toList:=by
    obtain⟨h1,h2⟩:=Array.getElem?_eq_some_iff.1 ho;rw[←h2];exact Array.getElem_mem_toList h1
   have hoko:=List.all_eq_true.1 hok o hmem;unfold okOper at hoko;rw[Zi] at hoko;have hdm:∀d,o.dst=some d→d < m:=fun d hd=>by have:=hoko.1;rw[hd] at this;simpa [Nat.blt_eq] using this
   split at h
   case h_2=>cases h
   rename_i v H1 hgd hd;have hw:Region.wanted o (yielded ops a.tmps)=true:=by unfold Region.wanted;rw[hgd]
   refine⟨fun f _=>hF f,?_⟩;rw[hw];simp only[if_true];obtain⟨nx,w',σ',v',hrun,hnx,hv,hH',hst⟩:=z3o hH hτ (fun y hy=>opnd ht hg (List.all_eq_true.1 hoko.2 y hy)) hd;have next:wpOpsSIn F 0 P ops Q l (a.put o.dst v') cs w':=by
    refine z8f hτ hF hok Q cs l (putD tm o.dst v) H1 r _ w' σ' h hH' (TmR.put ht hst.ext (fun t hd=>Zt (hdm t hd) hm) hv) (by rw[z0v];exact hm) (hg.ext hst.ext) ?_;intro a' w2 σ2 k1 k2 k3 k4 k5;exact hQ a' w2 σ2 k1 k2 (by rw[k3,z0t]) k4 (hst.trans k5)
   rw[hrun];rcases hnx with rfl|⟨rfl,rfl⟩
   ·exact next
   ·exact next
theorem zb1 {o:Oper}(h:isRecover o=true) (ρ:Operand→Value) (w:World):o.guard=none∧(execOp ρ o).run P w=.ok .recover w:=by
 unfold isRecover at h;split at h
 case h_2=>cases h
 rename_i c hg ho;split at h
 case h_2=>cases h
 rename_i hc ha;refine⟨hg,?_⟩;have hd:dop P o ρ ⟨0,.nil⟩=some .recov:=by
  unfold dop;rw[ho];simp only[hc,ha]
 unfold execOp;rw[ho];obtain⟨callee,args,ats⟩:=c;simp only at hc ha;subst hc;simp only[resolve];rfl
theorem zig {F:Fence}{k:Nat}(hF:∀f,F.fn f) {ops:Array Oper}{i:Nat}{o:Oper}(ho:ops[i]?=some o) (hrec:isRecover o=true) {Q:Exit→Act→List Frame→World→Prop}{rest:List Nat}{a:Act}{cs cs1:List Frame}{w:World}{v':Value}
  (hrv:(match recoverD cs with|some (v,cs')=>(v,cs')|none=>(.nilIface,cs))=(v',cs1)) (h:wpOpsSIn F k P ops Q rest (a.put o.dst v') cs1 w):wpOpsSIn F k P ops Q (i :: rest) a cs w:=by
 unfold wpOpsSIn;rw[ho];simp only;refine⟨fun _ _=>hF _,?_⟩;have hir:=zb1 (P:=P) hrec;have hw:Region.wanted o (yielded ops a.tmps)=true:=by unfold Region.wanted;rw[(hir a.eval w).1]
 rw[hw];simp only[if_true];rw[(hir _ w).2];cases hrd:recoverD cs with
 |none =>
  rw[hrd] at hrv;simp only[Prod.mk.injEq] at hrv;simp only;rw[hrv.1,hrv.2];exact h
 |some p =>
  obtain⟨v2,cs2⟩:=p;rw[hrd] at hrv;simp only[Prod.mk.injEq] at hrv;simp only;rw[hrv.1,hrv.2];exact h
theorem zp6:∀{c:Code}{ops:Array Oper}{rs:List Code}{g m:Nat},headRegion c=some (ops,rs)→okCode g m c=true→ops.toList.all (okOper g m)=true∧∀d∈rs,okCode g m d=true:=by
 intro c
 induction c with
 |region id ops dr =>
  intro ops' rs g m h hok;cases dr with
  |true=>cases h
  |false =>
   simp only[headRegion,Option.some.injEq,Prod.mk.injEq] at h;obtain⟨rfl,rfl⟩:=h;unfold okCode at hok;rw[Zi] at hok;exact⟨hok.1,fun d hd=>(by cases hd)⟩
 |seq x y ihx _ =>
  intro ops' rs g m h hok;simp only[headRegion] at h;unfold okCode at hok;rw[Zi] at hok;cases hx:headRegion x with
  |none=>rw[hx] at h;cases h
  |some p =>
   obtain⟨ops1,rs1⟩:=p;rw[hx] at h;simp only[Option.some.injEq,Prod.mk.injEq] at h;obtain⟨rfl,rfl⟩:=h;obtain⟨k1,k2⟩:=ihx hx hok.1;refine⟨k1,fun d hd=>?_⟩;rcases List.mem_append.1 hd with hd|hd
   ·exact k2 d hd
   ·simp at hd;rw[hd];exact hok.2
 |_=>intro ops' rs g m h;cases h
theorem DsR.nil_inv {σ:Nat→Loc}{ds:List Deferred}(h:DsR σ τ [] ds):ds=[]:=by
 cases ds with
 |nil=>rfl
 |cons _ _=>exact h.elim
theorem zh9 (hτ:∀j,(τ j).oneCell'=true) (hOK:OkFns P N w0 ok) (A:All P N w0 τ ok n) {fn tm ds md H en H' tmps ds' u w σ}(R:Ending→World→Prop) (h:dleave P ok (n+1) fn tm ds md H=some (en,H')) (ht:TmR σ τ tm tmps)
  (hd:DsR σ τ ds ds') (hu:MdR σ τ md u) (hH:HR P N w0 τ σ H w) (hg:GR P σ) (hR:∀e w' σ',EnR σ' τ en e→HR P N w0 τ σ' H' w'→Step σ H w σ' H' w'→R e w'):LeavesInM Fence.wide 0 P fn tmps R ds' u w:=by
 cases ds with
 |nil =>
  have:=hd.nil_inv;subst this;unfold dleave at h;cases md with
  |none =>
   cases u with
   |returning =>
    simp only at h;cases hr:dres P fn tm H with
    |none=>rw[hr] at h;cases h
    |some v =>
     rw[hr] at h;cases h;obtain⟨v',hrun,hv⟩:=zh2 hH ht hr;exact⟨v',hrun,hR _ w σ hv hH (Step.refl _ _ _)⟩
   |run=>exact hu.elim
   |panicking _=>exact hu.elim
  |some ch =>
   cases u with
   |panicking ch'=>cases h;exact hR _ w σ hu hH (Step.refl _ _ _)
   |run=>exact hu.elim
   |returning=>exact hu.elim
 |cons d ds =>
  cases ds' with
  |nil=>exact hd.elim
  |cons d' ds' =>
   obtain⟨⟨hargs,htgt⟩,hds⟩:=hd;unfold dleave at h;unfold LeavesInM;refine⟨hu.ne_run,?_⟩;rcases htgt with ⟨g,cap,cap',e1,e2,hcap⟩|⟨l,l',e1,e2,hbr⟩
   ·
    rw[e1] at h;simp only at h;split at h
    case h_2=>cases h
    rename_i gn hgn hokg;rw[Zi] at hokg;obtain⟨hokg,hd1⟩:=hokg;obtain⟨d1,hd1⟩:=Option.isSome_iff_exists.1 hd1;obtain⟨_,hcallf⟩:=z4v hd1;split at h
    case h_2=>cases h
    rename_i c hc;split at h
    case h_2=>cases h
    rename_i ops rest hhead;split at h
    case h_2=>cases h
    rename_i o ho;split at h
    case isFalse=>cases h
    rename_i hrec;split at h
    case h_2=>cases h
    rename_i tm1 H1 hpl;refine .inr ⟨fun hh=>(by cases hh),.func g,cap',g,d'.args++cap',e2,by rw[e2];simp only[invoke];exact hcallf _ _,fun _ _=>trivial,?_⟩;obtain⟨hok1,hok2⟩:=zp6 hhead (hOK.code g gn c hokg hgn hc);refine callsDIn_of_wpSIn hgn hc trivial fun c₀ cs hmode=>?_
    refine zl4 hhead ?_;have hsz:0 < ops.size:=(Array.getElem?_eq_some_iff.1 ho).1;have hrange:Zj ops.size=0 :: (Zj ops.size).drop 1:=by
     obtain⟨k,hk⟩:∃k,ops.size=k+1:=⟨ops.size - 1,by omega⟩
     rw[hk,List.range_succ_eq_map];rfl
    rw[hrange];obtain⟨v',u',hrv,hvr,hmd⟩:=zds (cs:=cs) (c₀:=c₀) (by rw[hmode];exact hu);have hmem:o∈ops.toList:=by
     obtain⟨h1,h2⟩:=Array.getElem?_eq_some_iff.1 ho;rw[←h2];exact Array.getElem_mem_toList h1
    have hoko:=List.all_eq_true.1 hok1 o hmem;unfold okOper at hoko;rw[Zi] at hoko;have hdm:∀t,o.dst=some t→t < gn.ntmps:=fun t hd=>by have:=hoko.1;rw[hd] at this;simpa [Nat.blt_eq] using this
    have hl:LR σ τ (d.args.toList++cap.toList) (d'.args++cap').toList:=by rw[Array.toList_append];exact LR.append hargs hcap
    have hs0:=SR.init (P:=P) hl hH hg gn.ntmps;have hst0:(St.put ⟨initTm 0 (d.args.toList++cap.toList) .nil,[],H⟩ o.dst (drecov md).1 H).tm=putD (initTm 0 (d.args.toList++cap.toList) .nil) o.dst (drecov md).1:=by cases o.dst<;>rfl
    rw[hst0] at hpl;have main:wpOpsSIn Fence.wide 0 P ops (Exit.thenS (seqS Fence.wide 0 P (bodyPostS P gn c₀ cs (fun
      |.returned _,u',w'=>LeavesInM Fence.wide 0 P fn tmps R ds' (settle u') w'
      |.panicked chain,u',w'=>LeavesInM Fence.wide 0 P fn tmps R ds' (raised u' chain) w'
      |.outgrown,_,w'=>R .outgrown w')) rest) (bodyPostS P gn c₀ cs (fun
      |.returned _,u',w'=>LeavesInM Fence.wide 0 P fn tmps R ds' (settle u') w'
      |.panicked chain,u',w'=>LeavesInM Fence.wide 0 P fn tmps R ds' (raised u' chain) w'
      |.outgrown,_,w'=>R .outgrown w'))) ((Zj ops.size).drop 1)
      ((({ tmps:=(d'.args++cap')++Array.replicate (gn.ntmps - (d'.args++cap').size) undef,defers:=[] }:Act)).put o.dst v') ({ c₀ with mode:=u' } :: cs) w:=by
     refine z8f hτ (fun _=>trivial) hok1 _ _ _ _ H (tm1,H1) _ w σ hpl hH (TmR.put hs0.tm (Ext.refl σ) (fun t hd=>Zt (hdm t hd) hs0.sz) hvr) (by rw[z0v];exact hs0.sz) hg ?_;intro a1 w1 σ1 hH1 ht1 hdf1 hsz1 hst1;rw[z0t] at hdf1;show seqS Fence.wide 0 P _ rest a1 _ w1;refine z7c rfl _ _ rest a1 w1 ?_;cases hsq:dseq P ok n ⟨g,none⟩ rest ⟨tm1,[],H1⟩ with
     |none=>rw[hsq] at h;cases h
     |some p =>
      obtain⟨ex,st2⟩:=p;rw[hsq] at h;refine A.seq _ hsq hok2 ⟨hH1,ht1,by rw[hdf1];trivial,hsz1,hg.ext hst1.ext⟩ (.inl ⟨rfl,rfl⟩) ?_;intro e a2 w2 σ2 he hs2 hst2;have hstA:=hst1.trans hst2;have fin:∀(hx:(if st2.ds.isEmpty && gn.results.isEmpty then dleave P ok n fn tm ds (dsettle (drecov md).2) st2.H else none)=some (en,H')),
        a2.defers=[]∧∃u2,({ c₀ with mode:=u' } :: cs:List Frame)={ c₀ with mode:=u2 } :: cs∧∃v,(results gn a2.tmps).run P w2=.ok v w2∧LeavesInM Fence.wide 0 P fn tmps R ds' (settle u2) w2:=by
       intro hx;split at hx
       case isFalse=>cases hx
       rename_i hemp;rw[Zi] at hemp;have hds2:st2.ds=[]:=by simpa using hemp.1
       have hrs:gn.results=#[]:=by simpa using hemp.2
       have hdf2:a2.defers=[]:=by have:=hs2.ds;rw[hds2] at this;exact this.nil_inv
       refine⟨hdf2,u',rfl,.tuple #[],by simp [results,hrs],?_⟩;exact A.leave R hx (ht.ext hstA.ext) (hds.ext hstA.ext) ((hmd.ext hstA.ext).settle) hs2.hH hs2.gr fun e3 w3 σ3 he3 hH3 hst3=>hR e3 w3 σ3 he3 hH3 (hstA.trans hst3)
      cases ex with
      |normal =>
       cases e<;>try exact he.elim
       obtain⟨q1,u2,q2,v,q3,q4⟩:=fin h;exact⟨q1,u2,q2,v,q3,q4⟩
      |ret =>
       cases e<;>try exact he.elim
       obtain⟨q1,u2,q2,v,q3,q4⟩:=fin h;exact⟨q1,u2,q2,v,q3,q4⟩
      |exit i=>cases h
      |panic ch=>cases h
    exact zig (fun _=>trivial) ho hrec hrv main
   ·
    rw[e1] at h;simp only at h;split at h
    case h_2=>cases h
    rename_i hgl;have hB:=hH.blk l _ hgl;have hlt:=hH.get_lt hgl;generalize hσ:σ l=loc at hB;cases hB with
    |dfr b S es q1 q2 =>
     have hlb:=hbr.at' hσ;subst hlb;obtain⟨hH2,hst2⟩:=hH.drop (w':={ w with heap:=w.heap.setIfInBounds l' (.deferred none) }) (by rw[hgl];simp) hlt hσ q1 rfl rfl rfl (by simp) (fun k hk=>z77 _ hk);refine .inl ⟨l',_,e2,?_,A.leave R h (ht.ext hst2.ext) (hds.ext hst2.ext) (hu.ext hst2.ext) hH2 (hg.ext hst2.ext) fun e3 w3 σ3 he3 hH3 hst3=>hR e3 w3 σ3 he3 hH3 (hst2.trans hst3)⟩;have hgo:(getObj l').run P w=.ok (.deferred (some [])) w:=by simp [getObj,Sem.run,q2]
     simp [Instr.takeDeferred,Sem.run_bind,hgo,zh3 q2]
end
end Go.Hb
end

section
namespace Go.Hb
open Go Go.RowKit
section
variable {P:Program}{N:Nat}{w0:World}{τ:Nat→Value}{ok:Ok}{n:Nat}
theorem z9h {w:World}{b:Nat}{L:Loop}(h:w.heap[b]?=some (.loop L)) (hr:L.state=.ready) :
  (Instr.beginRound b).run P w=.ok () { w with heap:=w.heap.setIfInBounds b (.loop { L with state:=.busy }) }:=by
 simp [Instr.beginRound,Sem.run_bind,z4l h,z5p h,hr]
theorem zc8 {w:World}{b:Nat}{L:Loop}(h:w.heap[b]?=some (.loop L)) (jump:Option Code) :
  (Instr.endRound b jump).run P w=.ok (.bool jump.isNone) { w with heap:=w.heap.setIfInBounds b (.loop { L with state:=if jump.isNone then .ready else .done,pending:=jump }) }:=by
 simp [Instr.endRound,Sem.run_bind,z4l h,z5p h]
theorem zih {w:World}{b:Nat}{L:Loop}{args:Array Value}(h:w.heap[b]?=some (.loop L)) (hs:args.size=L.params.size) :
  (Instr.yield b args).run P w=.ok (.round b L.fn ((L.params.zip args).foldl (fun tmps (t,a)=>tmps.setIfInBounds t a) L.tmps) L.assign L.body) w:=by
 simp [Instr.yield,Sem.run_bind,z4l h,hs]
theorem zha (A:All P N w0 τ ok n) {l l' args args' H v H' w σ}(h:dround P ok (n+1) l args H=some (v,H')) (hbr:BR σ l l') (hl:LR σ τ args args'.toList) (hH:HR P N w0 τ σ H w) (hg:GR P σ) :
  ∃f tmps as bo,(Instr.yield l' args').run P w=.ok (.round l' f tmps as bo) w ∧
   ∀(F:Fence),(F=Fence.wide∨∃l2,F=Fence.wide.inRound l2)→RoundIn F 0 P l' f tmps as bo w fun e w'=>∃v' σ',e=.returned v'∧VR σ' τ v v'∧HR P N w0 τ σ' H' w'∧Step σ H w σ' H' w':=by
 unfold dround at h;split at h
 case h_2=>cases h
 rename_i pend fn tm ps as bo dd hgl;obtain⟨b,S,es,m,L,q1,q2,q3,q4,q5,q6,q7,q8,q9,q10,q11,q12,q13,q14⟩:=hH.loopAt hgl;have hlb:=hbr.at' q1;subst hlb;split at h
 case isFalse=>cases h
 rename_i hlen;rw[Zp] at hlen;have hsz:args'.size=L.params.size:=by
  have h1:=hl.1;have h2:L.params.toList.length=ps.length:=by rw[q6]
  simp at h1 h2;omega
 obtain⟨hz1,hz2⟩:=zi6 hl q9 q10 q13;have hfold:(L.params.zip args').foldl (fun tmps (t,a)=>tmps.setIfInBounds t a) L.tmps=(ps.zip args'.toList).foldl (fun tmps p=>tmps.setIfInBounds p.1 p.2) L.tmps:=by
  rw[←q6,←Array.foldl_toList,Array.toList_zip]
 refine⟨L.fn,_,L.assign,L.body,zih q3 hsz,fun F hF=>?_⟩;rw[hfold];have hFn:∀f,F.fn f:=by rcases hF with rfl|⟨l2,rfl⟩<;>exact fun _=>trivial
 have hFr:∀fn0:FuncId,FRel ⟨fn0,some l⟩ (F.inRound l'):=fun fn0=>by
  refine .inr ⟨by simp,l',?_⟩;rcases hF with rfl|⟨l2,rfl⟩<;>rfl
 refine roundIn_of_wpIn (hFn _) ?_;rw[q7,q8];dsimp only at h;cases hd:dcode P ok n ⟨fn,some l⟩ as ⟨(ps.zip args).foldl (fun t p=>t.put p.1 (some p.2)) tm,[],H⟩ with
 |none=>rw[hd] at h;cases h
 |some p =>
  obtain⟨ex1,st1⟩:=p;rw[hd] at h;cases ex1 with
  |exit i=>cases h
  |ret=>cases h
  |panic ch=>cases h
  |normal =>
   simp only at h;refine A.code (m:=m) _ hd q11 ⟨hH,hz1,trivial,by rw[hz2];exact q10,hg⟩ (hFr fn) ?_;intro e a1 w1 σ1 he hs1 hst1;cases e<;>try exact he.elim
   split at h
   case h_2=>cases h
   rename_i pend1 fn1 tm1 ps1 as1 bo1 d1 hgl1;obtain⟨b1,S1,es1,m1,L1,r1,r2,r3,r4,r5,r6,r7,r8,r9,r10,r11,r12,r13,r14⟩:=hs1.hH.loopAt hgl1;have live:∀{σ2:Nat→Loc}{b2 S2 es2:Nat},Ext σ σ2→σ2 l=.live b2 S2 es2→b2=l':=fun he hl2=>by
    rcases he l with k|k|⟨_,k⟩
    ·rw[q1] at k;cases k
    ·rw[q1,hl2] at k;cases k;rfl
    ·rw[hl2] at k;cases k
   have hb1:=live hst1.ext r1;subst hb1;obtain⟨hH2,hst2⟩:=hs1.hH.setLoop (s':=.busy) (pend':=pend1) hgl1 r1 r2 r3 r6 r7 r8 r9 r10 r11 r12 r13 r14;have hL2:({ L1 with state:=.busy,pending:=pend1 }:Loop)={ L1 with state:=.busy }:=by rw[←r5]
   rw[hL2] at hH2 hst2;refine⟨_,z9h r3 r4,?_⟩;cases hd2:dcode P ok n ⟨fn,some l⟩ bo ⟨st1.tm,st1.ds,st1.H.put l (some (.loop .busy pend1 fn1 tm1 ps1 as1 bo1 d1))⟩ with
   |none=>rw[hd2] at h;cases h
   |some p2 =>
    obtain⟨ex2,st2⟩:=p2;rw[hd2] at h;refine A.code (m:=m) _ hd2 q12 ⟨hH2,hs1.tm,hs1.ds,hs1.sz,hs1.gr⟩ (hFr fn) ?_;intro e2 a2 w2 σ2 he2 hs2 hst3;have hstA:=hst1.trans (hst2.trans hst3);have fin:∀(jump:Option Code) (vv:Value) (s:LoopState),dendRound l jump vv s st2.H=some (v,H')→vv=.bool jump.isNone→s=(if jump.isNone then .ready else .done)→(jump=none∨jump=some .ret∨∃id,jump=some (.exit id)) →
      ∃v' w',(Instr.endRound b1 jump).run P w2=.ok v' w'∧∃v2 σ',Ending.returned v'=.returned v2∧VR σ' τ v v2∧HR P N w0 τ σ' H' w'∧Step σ H w σ' H' w':=by
     intro jump vv s hx hvv hss hj;unfold dendRound at hx;split at hx
     case h_2=>cases hx
     rename_i s0 pend0 fn3 tm3 ps3 as3 bo3 d3 hgl3;cases hx;obtain⟨b3,S3,es3,m3,L3,t1,t2,t3,t4,t5,t6,t7,t8,t9,t10,t11,t12,t13,t14⟩:=hs2.hH.loopAt hgl3;have hb3:=live hstA.ext t1;subst hb3;obtain⟨hH4,hst4⟩:=hs2.hH.setLoop (s':=s) (pend':=jump) hgl3 t1 t2 t3 t6 t7 t8 t9 t10 t11 t12 t13 hj;rw[hss] at hH4 hst4;refine⟨_,_,zc8 t3 jump,_,σ2,rfl,?_,by rw[hss];exact hH4,by rw[hss];exact hstA.trans hst4⟩;rw[hvv];exact .flat _ rfl
    cases ex2 with
    |normal =>
     cases e2<;>try exact he2.elim
     exact fin none _ _ h rfl rfl (.inl rfl)
    |ret =>
     cases e2<;>try exact he2.elim
     exact fin (some .ret) _ _ h rfl rfl (.inr (.inl rfl))
    |exit id =>
     cases e2<;>try exact he2.elim
     rename_i id';have hid:id=id':=he2;subst hid;exact fin (some (.exit id)) _ _ h rfl rfl (.inr (.inr ⟨id,rfl⟩))
    |panic ch=>cases h
theorem zlb:All P N w0 τ ok 0:=by
 constructor
 ·intros;rename_i h _ _ _ _;unfold dcode at h;cases h
 ·intros;rename_i h _ _ _ _;unfold dcode at h;cases h
 ·intros;rename_i h _ _ _ _;unfold dseq at h;cases h
 ·intros;rename_i h _ _ _ _;unfold dops at h;cases h
 ·intros;rename_i h _ _ _ _ _ _;unfold dop1 at h;cases h
 ·intros;rename_i h _ _ _;unfold dcall at h;cases h
 ·intros;rename_i h _ _ _ _ _ _;unfold dleave at h;cases h
 ·intros;rename_i h _ _ _ _;unfold dround at h;cases h
theorem zii (hτ:∀j,(τ j).oneCell'=true) (hm:P.follows .mixedOrders=true) (hOK:OkFns P N w0 ok):∀n,All P N w0 τ ok n:=by
 intro n
 induction n using Nat.strongRecOn with
 |_ n ih =>
  cases n with
  |zero=>exact zlb
  |succ n =>
   have A:=ih n (Nat.lt_succ_self n);have hE:∀k,k < n→All P N w0 τ ok k:=fun k hk=>ih k (by omega)
   exact {
    code:=fun Q h hok hs hF hQ=>zie hτ hm A hE Q h hok hs hF hQ
    loop:=fun Q h hok hs hF hQ=>z9s A Q h hok hs hF hQ
    seq:=fun Q h hok hs hF hQ=>zl6 A Q h hok hs hF hQ
    ops:=fun Q h hok hs hF hQ=>zl5 A Q h hok hs hF hQ
    op1:=fun K Q h hρ hH hd hg hF hK=>zer hτ A K Q h hρ hH hd hg hF hK
    call:=fun h hl hH hg=>zif hτ hOK A h hl hH hg
    leave:=fun R h ht hd hu hH hg hR=>zh9 hτ hOK A R h ht hd hu hH hg hR
    round:=fun h hb hl hH hg=>zha A h hb hl hH hg }
theorem z7d (hτ:∀j,(τ j).oneCell'=true) (hm:P.follows .mixedOrders=true) (hOK:OkFns P N w0 ok) {f:FuncId}{args:List Value}{args':Array Value}{H H':Heap}{en:En}{w:World}{σ:Nat→Loc}
  (h:dcall P ok n f args H=some (en,H')) (hl:LR σ τ args args'.toList) (hH:HR P N w0 τ σ H w) (hg:GR P σ) :
  Calls P f args' w fun e w'=>∃ σ',EnR σ' τ en e∧HR P N w0 τ σ' H' w'∧Step σ H w σ' H' w' :=
 callsIn_wide.1 ((zii hτ hm hOK n).call h hl hH hg)
end
end Go.Hb
end

section
namespace Go.Hb
open Go Go.RowKit
def okFn (P:Program) (f:FuncId):Bool :=
 match P.funcs[f]? with
 |some fn=>match fn.body with
  |some c=>okCode P.globals.size fn.ntmps c
  |none=>true
 |none=>true
theorem z6s {P:Program}{ok:Nat}(h:((Zj P.funcs.size).all fun f=>!ok.testBit f || okFn P f)=true):∀f fn c,ok.testBit f=true→P.funcs[f]?=some fn→fn.body=some c→okCode P.globals.size fn.ntmps c=true:=by
 intro f fn c hb hf hc;have hlt:f < P.funcs.size:=(Array.getElem?_eq_some_iff.1 hf).1;have:=List.all_eq_true.1 h f (List.mem_range.2 hlt);rw[hb] at this;simp only[Zn,Bool.false_or] at this;unfold okFn at this;rw[hf] at this;simp only[hc] at this;exact this
def retTrue:Option (En × Heap)→Bool
 |some (.ret (.bool true),_)=>true
 |_=>false
theorem zdy {r:Option (En × Heap)}(h:retTrue r=true):∃H',r=some (.ret (.bool true),H'):=by
 unfold retTrue at h;split at h
 ·exact⟨_,rfl⟩
 ·cases h
def sig0 (nx:Nat):Nat→Loc:=fun i=>if i < nx then .dead else .none
theorem HR.start {P:Program}{τ:Nat→Value}(nx:Nat) (W:World):HR P W.heap.size W τ (sig0 nx) ⟨nx,.nil⟩ W:=by
 refine⟨Below.refl _ _,Ze _,fun i hi=>?_,fun i B hB=>?_,fun i j b S es S' es' hi=>?_,fun i b S es hi=>?_⟩
 ·have hi':nx≤i:=hi;unfold sig0;rw[if_neg (by omega)]
 ·cases hB
 ·unfold sig0 at hi;split at hi<;>cases hi
 ·unfold sig0 at hi;split at hi<;>cases hi
theorem GR.start {P:Program}{nx:Nat}(h:P.globals.size≤nx):GR P (sig0 nx):=fun g hg=>.inl (by unfold sig0;rw[if_pos (by omega)])
section
open Go.ChangeShapes Go.WideShapes
variable {H:Type}{enc:TypeId × Value→H}{P:Program}
theorem zb2 {f:Func}{s:ChangeSpec}{apart fresh handsOn again:Bool}{W W':World}{args:Array Value}{v:Value}{ds gs:List (DataW H)}{before pa pv:List MemPlace}
  (hW:DataW.Whole enc P f.params.toList s.vars apart W args.toList ds gs before)
  (hres:∀(b:Nat) (sp:Nat→Bool) (hd:Bool),DataW.TrodAll enc P W' b sp hd f.resultTypes.toList (v.resultList f.resultTypes.size) (s.fn H (ds++gs)).results [])
  (hargs:∀sp:Nat→Bool,(∀p∈before,sp p.block=true)→DataW.TrodAll enc P W' 0 sp true f.params.toList args.toList (s.fn H (ds++gs)).args pa)
  (hvars:∀sp:Nat→Bool,(∀p∈before,sp p.block=true)→DataW.TrodVars enc P W' sp s.vars (s.fn H (ds++gs)).vars pv)
  (hps:before=pa++pv) (hB:Below W.heap.size W W')
  (hok:∀(j:Nat) (t:TypeId) (r:Value),f.resultTypes[j]?=some t→(v.resultList f.resultTypes.size)[j]?=some r→Value.okWide P W' .any 0 t r) :
  s.post enc P f apart fresh handsOn again W args v W':=by
 have hlt:∀p∈before,p.block < W.heap.size:=fun p hp=>hW.lt p hp
 have hold:∀p∈before,(fun b=>decide (b < W.heap.size)) p.block=true:=fun p hp=>by simpa using hW.lt p hp
 refine⟨ds,gs,before,[],pa,pv,hW,hres _ _ _,hargs _ hold,hvars _ hold,World.keptBut_mono (fun p hp=>⟨hp,?_⟩) (hB.frame (·∈before)),fun _=>?_⟩
 ·rw[hps,List.mem_append] at hp;exact Or.inr hp
 ·obtain⟨_,_,_,_,_,hz,hn⟩:=hW;refine⟨hok,_,_,([]++pa)++pv,⟨[]++pa,pv,trodAll_append (hargs _ (fun _ _=>rfl)) (hres _ _ _),hvars _ (fun _ _=>rfl),rfl,?_,?_⟩,?_⟩
  ·intro b off hp;have hp':MemPlace.cell b off∈before:=by rw[hps];simpa using hp
   rw[hB.frozen (hlt _ hp')];exact hz b off hp'
  ·intro ha;have:=hn ha;rw[hps] at this;simpa using this
  ·intro p hp _;rw[hps];simpa using hp
end
end Go.Hb
end

section
namespace Go.Hb
open Go Go.RowKit
def toksFrom:Nat→List (Option Nat)→List Value
 |_,[]=>[]
 |o,none :: l=>.chan (some o) :: toksFrom (o+1) l
 |o,some n :: l=>.agg ⟨(Zj n).map fun i=>.chan (some (o+i))⟩ :: toksFrom (o+n) l
def Fits (s:Option Nat) (v:Value):Prop :=
 match s with
 |none=>v.oneCell'=true
 |some n=>∃cs,v=.agg cs∧cs.size=n∧∀(i:Nat) u,cs[i]?=some u→u.oneCell'=true
def FitsL:List (Option Nat)→List Value→Prop
 |[],[]=>True
 |s :: l,v :: vs=>Fits s v∧FitsL l vs
 |_,_=>False
def cellsOfL (vs:List Value):List Value:=vs.flatMap fun v=>v.cells.toList
def tokT (vs:List Value) (j:Nat):Value:=((cellsOfL vs)[j]?).getD (.bool true)
end Go.Hb
end

section
namespace Go.Hb
open Go Go.RowKit Go.ChangeShapes Go.WideShapes
section
variable {H:Type}{enc:TypeId × Value→H}{P:Program}
theorem z69 (hl:laidOutB P=true) {W W':World}(hB:Below W.heap.size W W') (sp:Nat→Bool):∀{ts:List TypeId}{vs:List Value}{ds:List (DataW H)}{ps:List MemPlace},
  (∀t∈ts,P.readableRec t=true∧t < P.types.size)→DataW.TrodAll enc P W 0 (fun _=>true) true ts vs ds ps→(∀x∈ps,x.block < W.heap.size)→(∀x∈ps,sp x.block=true)→DataW.TrodAll enc P W' 0 sp true ts vs ds ps
 |[],vs,ds,ps,_,h,_,_=>by
  obtain⟨rfl,rfl,rfl⟩:=trodAll_nil h;exact trodAll_mk0
 |t :: ts,vs,ds,ps,ht,h,hlt,hsp=>by
  obtain⟨v,vs1,d,ds1,p,q,rfl,rfl,rfl,h1,h2⟩:=trodAll_cons h;exact trodAll_cons_mk (WideElems.Trod_stays hl (ht t (by simp)).1 (ht t (by simp)).2 h1 (fun x hx=>hB.same (hlt x (by simp [hx]))) (fun x hx=>hsp x (by simp [hx])))
   (z69 hl hB sp (fun u hu=>ht u (by simp [hu])) h2 (fun x hx=>hlt x (by simp [hx])) (fun x hx=>hsp x (by simp [hx])))
theorem zdz {f:FuncId}{fn:Func}{s:ChangeSpec}{W:World}{args:Array Value}{ds gs:List (DataW H)}{before:List MemPlace}
  (hl:laidOutB P=true) (hts:fn.params.toList.all (fun t=>P.readableRec t && decide (t < P.types.size))=true) (hvs:s.vars=[]) (hr:fn.resultTypes=#[4]) (hb:P.underlying 4=some .bool)
  (hfn:∀ds:List (DataW H),ds.length=fn.params.size→(s.fn H (ds++[])).results=[.lit (.bool true)]∧(s.fn H (ds++[])).args=ds∧(s.fn H (ds++[])).vars=[])
  (hW:DataW.Whole enc P fn.params.toList s.vars false W args.toList ds gs before)
  (hc:Calls P f args W fun e W'=>e=.returned (.bool true)∧Below W.heap.size W W') :
  Calls P f args W fun e W'=>∃v,e=.returned v∧s.post enc P fn false true false false W args v W':=by
 have hW':=hW;obtain⟨p,q,hA,hV,rfl,hfz,hnd⟩:=hW;rw[hvs] at hV;obtain⟨rfl,rfl⟩:=trodVars_none hV;have hlen:∀{ts:List TypeId}{vs:List Value}{ds:List (DataW H)}{ps:List MemPlace},DataW.TrodAll enc P W 0 (fun _=>true) true ts vs ds ps→ds.length=ts.length:=by
  intro ts
  induction ts with
  |nil=>intro vs ds ps h;obtain⟨_,rfl,_⟩:=trodAll_nil h;rfl
  |cons t ts ih=>intro vs ds ps h;obtain⟨v,vs1,d,ds1,p,q,rfl,rfl,rfl,h1,h2⟩:=trodAll_cons h;simp [ih h2]
 obtain⟨e1,e2,e3⟩:=hfn ds (by rw[hlen hA];simp);refine hc.mono fun e W' ⟨he,hB⟩=>?_
 subst he;refine⟨_,rfl,zb2 (pa:=p) (pv:=[]) hW' (fun _ _ _=>?_) (fun sp hsp=>?_) (fun _ _=>?_) rfl hB (ok_one hr rfl (okWide_bool_mk hb _))⟩
 ·rw[e1,hr];exact trodAll_cons_mk (shut_bool hb _) trodAll_mk0
 ·rw[e2];refine z69 hl hB sp (fun t ht=>?_) hA (fun x hx=>hW'.lt x (by simp [hx])) (fun x hx=>hsp x (by simp [hx]));have:=List.all_eq_true.1 hts t ht;simpa using this
 ·rw[e3,hvs];rfl
def shOf (P:Program) (t:TypeId):Option Nat :=
 match P.underlying t with
 |some (.struct _)|some (.array _ _)=>some (P.cellsOf t)
 |_=>none
end
end Go.Hb
end

section
namespace Go.Hb
open Go Go.RowKit
def Upon {α:Type}(f:Nat→Option α) (Q:α→Prop):Prop:=∃N r,(∀n,N≤n→f n=some r)∧Q r
theorem Upon.mono {α:Type}{f:Nat→Option α}{Q R:α→Prop}(h:Upon f Q) (k:∀r,Q r→R r):Upon f R:=by
 obtain⟨N,r,h1,h2⟩:=h;exact⟨N,r,h1,k r h2⟩
theorem Upon.now {α:Type}{f:Nat→Option α}{Q:α→Prop}{r:α}(h:∀n,f (n+1)=some r) (hq:Q r):Upon f Q :=
 ⟨1,r,fun n hn=>by obtain⟨m,rfl⟩:∃m,n=m+1:=⟨n - 1,by omega⟩;exact h m,hq⟩
theorem Upon.step {α β:Type}{f:Nat→Option α}{g:Nat→Option β}{R:α→Prop}{Q:β→Prop}(k:Nat→α→Option β) (hg:∀n r,f n=some r→g (n+1)=k n r)
  (hf:Upon f R) (hk:∀r,R r→Upon (fun n=>k n r) Q):Upon g Q:=by
 obtain⟨N,r,h1,h2⟩:=hf;obtain⟨M,q,h3,h4⟩:=hk r h2;refine⟨max N M+1,q,fun n hn=>?_,h4⟩;obtain⟨m,rfl⟩:∃m,n=m+1:=⟨n - 1,by omega⟩
 rw[hg m r (h1 m (by omega))];exact h3 m (by omega)
theorem Upon.go {α:Type}{f g:Nat→Option α}{Q:α→Prop}(hg:∀n,g (n+1)=f n) (hf:Upon f Q):Upon g Q:=by
 obtain⟨N,r,h1,h2⟩:=hf;refine⟨N+1,r,fun n hn=>?_,h2⟩;obtain⟨m,rfl⟩:∃m,n=m+1:=⟨n - 1,by omega⟩
 rw[hg];exact h1 m (by omega)
section
variable (P:Program) (ok:Ok) (x:Ctx)
def EvC (c:Code) (st:St) (Q:Ex→St→Prop):Prop:=Upon (fun n=>dcode P ok n x c st) fun p=>Q p.1 p.2
def EvO (ops:Array Oper) (l:List Nat) (st:St) (Q:Ex→St→Prop):Prop:=Upon (fun n=>dops P ok n x ops l st) fun p=>Q p.1 p.2
def EvF (f:FuncId) (args:List Value) (H:Heap) (K:Value→Heap→Prop):Prop:=Upon (fun n=>dcall P ok n f args H) fun p=>∃v,p.1=.ret v∧K v p.2
def EvV (fn:Func) (tm:Tr Value) (ds:List Deferred) (H:Heap) (K:Value→Heap→Prop):Prop:=Upon (fun n=>dleave P ok n fn tm ds none H) fun p=>∃v,p.1=.ret v∧K v p.2
def Ev1 (o:Oper) (ρ:Operand→Value) (ds:List Deferred) (H:Heap) (K:Value→List Deferred→Heap→Prop):Prop :=
 Upon (fun n=>dop1 P ok n x o ρ ds H) fun r=>∃v ds' H',r=.val v ds' H'∧K v ds' H'
def EvR (l:Nat) (args:List Value) (H:Heap) (K:Value→Heap→Prop):Prop:=Upon (fun n=>dround P ok n l args H) fun p=>K p.1 p.2
def EvL (ops:Array Oper):List Oper→St→(St→Prop)→Prop
 |[],st,Q=>Q st
 |o :: os,st,Q =>
  (dwanted ops st.tm o=some false∧EvL ops os ⟨putD st.tm o.dst undef,st.ds,st.H⟩ Q) ∨
  (dwanted ops st.tm o=some true∧Ev1 P ok x o (ev st.tm) st.ds st.H fun v ds H=>EvL ops os ⟨putD st.tm o.dst v,ds,H⟩ Q)
end
def Ex.thenC (k:St→Prop) (Q:Ex→St→Prop):Ex→St→Prop
 |.normal,st=>k st
 |e,st=>Q e st
def Ex.inBlock (id:Nat) (Q:Ex→St→Prop):Ex→St→Prop
 |.exit j,st=>if j=id then Q .normal st else Q (.exit j) st
 |e,st=>Q e st
def Ex.leave (P:Program) (ok:Ok) (fn:Func) (K:Value→Heap→Prop):Ex→St→Prop
 |.normal,st|.ret,st=>EvV P ok fn st.tm st.ds st.H K
 |_,_=>False
section
variable {P:Program}{ok:Ok}{x:Ctx}{st:St}{Q:Ex→St→Prop}
theorem EvC.mono {c:Code}{R:Ex→St→Prop}(h:EvC P ok x c st Q) (k:∀e st,Q e st→R e st):EvC P ok x c st R:=Upon.mono h fun _ hq=>k _ _ hq
theorem EvF.mono {f:FuncId}{args:List Value}{H:Heap}{K L:Value→Heap→Prop}(h:EvF P ok f args H K) (k:∀v H',K v H'→L v H'):EvF P ok f args H L :=
 Upon.mono h fun _ ⟨v,e,hq⟩=>⟨v,e,k _ _ hq⟩
theorem Ev1.mono {o:Oper}{ρ:Operand→Value}{ds:List Deferred}{H:Heap}{K L:Value→List Deferred→Heap→Prop}(h:Ev1 P ok x o ρ ds H K) (k:∀v d H',K v d H'→L v d H'):Ev1 P ok x o ρ ds H L :=
 Upon.mono h fun _ ⟨v,ds',H',e,hq⟩=>⟨v,ds',H',e,k _ _ _ hq⟩
theorem EvC.skip (h:Q .normal st):EvC P ok x .skip st Q:=Upon.now (fun n=>by rw[dcode]) h
theorem EvC.exit {id:Nat}(h:Q (.exit id) st):EvC P ok x (.exit id) st Q:=Upon.now (fun n=>by rw[dcode]) h
theorem EvC.ret (h:Q .ret st):EvC P ok x .ret st Q:=Upon.now (fun n=>by rw[dcode]) h
theorem EvC.scope {c:Code}(h:EvC P ok x c st Q):EvC P ok x (.scope c) st Q:=Upon.go (fun n=>by rw[dcode]) h
theorem EvC.seq {a b:Code}(h:EvC P ok x a st (Ex.thenC (fun st1=>EvC P ok x b st1 Q) Q)):EvC P ok x (.seq a b) st Q:=by
 refine Upon.step (fun n (r:Ex × St)=>match r with|(.normal,st1)=>dcode P ok n x b st1|r=>some r) (fun n r hr=>?_) h ?_
 ·rw[dcode,hr];obtain⟨e,s⟩:=r;cases e<;>rfl
 ·rintro ⟨e,s⟩ hq;cases e with
  |normal=>exact hq
  |_=>exact⟨0,_,fun n _=>rfl,hq⟩
theorem EvC.condT {c:Operand}{a b:Code}(hc:ev st.tm c=.bool true) (h:EvC P ok x a st Q):EvC P ok x (.cond c a b) st Q:=Upon.go (fun n=>by rw[dcode,hc]) h
theorem EvC.condF {c:Operand}{a b:Code}(hc:ev st.tm c=.bool false) (h:EvC P ok x b st Q):EvC P ok x (.cond c a b) st Q:=Upon.go (fun n=>by rw[dcode,hc]) h
theorem EvC.cond {c:Operand}{a b:Code}(t:Bool) (hc:ev st.tm c=.bool t) (h1:t=true→EvC P ok x a st Q) (h2:t=false→EvC P ok x b st Q):EvC P ok x (.cond c a b) st Q:=by
 cases t with
 |true=>exact .condT hc (h1 rfl)
 |false=>exact .condF hc (h2 rfl)
theorem EvC.block {id:Nat}{b:Code}(h:EvC P ok x b st (Ex.inBlock id Q)):EvC P ok x (.block id b) st Q:=by
 refine Upon.step (fun n (r:Ex × St)=>match r with|(.exit j,st1)=>if Zk j id then some (.normal,st1) else some (.exit j,st1)|r=>some r) (fun n r hr=>?_) h ?_
 ·rw[dcode,hr];obtain⟨e,s⟩:=r;cases e<;>rfl
 ·rintro ⟨e,s⟩ hq;cases e with
  |exit j =>
   simp only[Ex.inBlock] at hq;by_cases hj:j=id
   ·rw[if_pos hj] at hq;exact⟨0,_,fun n _=>by simp only[hj,Zy,if_true];rfl,hq⟩
   ·rw[if_neg hj] at hq;have:Zk j id=false:=by rw[←ZB,Zp];exact hj
    exact⟨0,_,fun n _=>by simp only[this];rfl,hq⟩
  |_=>exact⟨0,_,fun n _=>rfl,hq⟩
theorem EvC.loop1 {b:Code}(hb:mapShape b=none) (h:EvC P ok x b st (Ex.thenC (fun st1=>EvC P ok x (.loop b) st1 Q) Q)):EvC P ok x (.loop b) st Q:=by
 refine Upon.step (fun n (r:Ex × St)=>match r with|(.normal,st1)=>dcode P ok n x (.loop b) st1|r=>some r) (fun n r hr=>?_) h ?_
 ·rw[dcode,hb];simp only[hr];obtain⟨e,s⟩:=r;cases e<;>rfl
 ·rintro ⟨e,s⟩ hq;cases e with
  |normal=>exact hq
  |_=>exact⟨0,_,fun n _=>rfl,hq⟩
theorem EvC.loop {b:Code}(I:Nat→St→Prop) (hI:∀k st,I k st→EvC P ok x b st (Ex.thenC (fun st1=>∃k',k' < k∧I k' st1) Q)) (k:Nat) (st:St) (h:I k st) (hb:mapShape b=none:=by rfl):EvC P ok x (.loop b) st Q:=by
 induction k using Nat.strongRecOn generalizing st with
 |_ k ih =>
  refine EvC.loop1 hb ((hI k st h).mono fun e st1 hq=>?_);cases e with
  |normal=>obtain⟨k',hk,hI'⟩:=hq;exact ih k' hk st1 hI'
  |_=>exact hq
theorem EvO.nil {ops:Array Oper}(h:Q .normal st):EvO P ok x ops [] st Q:=Upon.now (fun n=>by rw[dops]) h
theorem EvO.of_list {ops:Array Oper}{K:St→Prop}(hQ:∀st,K st→Q .normal st):∀(l:List Nat) (os:List Oper) (st:St),l.map (fun i=>ops[i]?)=os.map some→EvL P ok x ops os st K→EvO P ok x ops l st Q
 |[],[],st,_,h=>EvO.nil (hQ _ h)
 |[],_ :: _,_,h,_=>by simp at h
 |_ :: _,[],_,h,_=>by simp at h
 |i :: l,o :: os,st,hl,h=>by
  simp only[Zs,List.cons.injEq] at hl;rcases h with ⟨hw,h⟩|⟨hw,h⟩
  ·refine Upon.go (fun n=>?_) (EvO.of_list hQ l os _ hl.2 h);rw[dops,hl.1];simp only[hw];cases o.dst<;>rfl
  ·refine Upon.step (fun n r=>match r with|.val v ds H=>dops P ok n x ops l (St.put ⟨st.tm,ds,st.H⟩ o.dst v H)|.panic ch H=>some (.panic ch,⟨st.tm,st.ds,H⟩)) (fun n r hr=>?_) h ?_
   ·rw[dops,hl.1];simp only[hw,hr];cases r<;>rfl
   ·rintro r ⟨v,ds,H,rfl,hr⟩;have:=EvO.of_list hQ l os _ hl.2 hr;refine this.imp fun N=>?_
    rintro ⟨r,h1,h2⟩;refine⟨r,fun n hn=>?_,h2⟩;rw[←h1 n hn];cases o.dst<;>rfl
theorem z5q (ops:Array Oper):(Zj ops.size).map (fun i=>ops[i]?)=ops.toList.map some:=by
 apply ZD;intro i;simp only[Zr,List.getElem?_range];by_cases h:i < ops.size
 ·simp [h]
 ·simp [h]
theorem EvC.ops {id:Nat}{ops:Array Oper}(h:EvL P ok x ops ops.toList st (Q .normal)):EvC P ok x (.region id ops false) st Q :=
 Upon.go (fun n=>by rw[dcode]) (EvO.of_list (K:=Q .normal) (fun _ h=>h) _ _ st (z5q ops) h)
theorem z5r {ops:Array Oper}{tm:Tr Value}{o:Oper}(h:o.guard=none):dwanted ops tm o=some true:=by unfold dwanted;rw[h]
theorem Ev1.val {o:Oper}{ρ:Operand→Value}{ds:List Deferred}{H H':Heap}{v:Value}{K:Value→List Deferred→Heap→Prop}(h:dop P o ρ H=some (.val v H')) (hk:K v ds H'):Ev1 P ok x o ρ ds H K :=
 Upon.now (r:=.val v ds H') (fun n=>by rw[dop1,h]) ⟨v,ds,H',rfl,hk⟩
theorem Ev1.call {o:Oper}{ρ:Operand→Value}{ds:List Deferred}{H:Heap}{f:FuncId}{args:List Value}{K:Value→List Deferred→Heap→Prop}(h:dop P o ρ H=some (.call f args))
  (hk:EvF P ok f args H fun v H'=>K v ds H'):Ev1 P ok x o ρ ds H K:=by
 refine Upon.step (fun n (r:En × Heap)=>match r with|(.ret v,H')=>some (.val v ds H')|(.panic ch,H')=>some (.panic ch H')) (fun n r hr=>?_) hk ?_
 ·rw[dop1,h];simp only[hr];obtain⟨e,H'⟩:=r;cases e<;>rfl
 ·rintro ⟨e,H'⟩ ⟨v,rfl,hv⟩;exact⟨0,_,fun n _=>rfl,v,ds,H',rfl,hv⟩
theorem Ev1.yield {o:Oper}{ρ:Operand→Value}{ds:List Deferred}{H:Heap}{l:Nat}{args:List Value}{K:Value→List Deferred→Heap→Prop}(h:dop P o ρ H=some (.yield l args))
  (hk:EvR P ok l args H fun v H'=>K v ds H'):Ev1 P ok x o ρ ds H K:=by
 refine Upon.step (fun n (r:Value × Heap)=>some (.val r.1 ds r.2)) (fun n r hr=>?_) hk ?_
 ·rw[dop1,h];simp only[hr]
 ·rintro ⟨v,H'⟩ hv;exact⟨0,_,fun n _=>rfl,v,ds,H',rfl,hv⟩
section
variable {ops:Array Oper}{os:List Oper}{tm:Tr Value}{ds:List Deferred}{H:Heap}{K:St→Prop}{op:Op}{ty:TypeId}{pos:String}{af:Array Edge}
theorem EvL.val {d:Tmp}{v:Value}{H':Heap}(h:dop P ⟨some d,op,ty,pos,af,none⟩ (ev tm) H=some (.val v H')) (hk:EvL P ok x ops os ⟨tm.put d (some v),ds,H'⟩ K) :
  EvL P ok x ops (⟨some d,op,ty,pos,af,none⟩ :: os) ⟨tm,ds,H⟩ K:=.inr ⟨rfl,Ev1.val h hk⟩
theorem EvL.call {d:Tmp}{f:FuncId}{args:List Value}(h:dop P ⟨some d,op,ty,pos,af,none⟩ (ev tm) H=some (.call f args))
  (hk:EvF P ok f args H fun v H'=>EvL P ok x ops os ⟨tm.put d (some v),ds,H'⟩ K):EvL P ok x ops (⟨some d,op,ty,pos,af,none⟩ :: os) ⟨tm,ds,H⟩ K:=.inr ⟨rfl,Ev1.call h hk⟩
end
theorem EvF.enter {f:FuncId}{fn:Func}{c:Code}{args:List Value}{H:Heap}{K:Value→Heap→Prop}(hK:ok.K f args H=none) (hf:P.funcs[f]?=some fn) (hm:ok.testBit f=true) (hb:fn.body=some c)
  (h:EvC P ok ⟨f,none⟩ c ⟨initTm 0 args .nil,[],H⟩ (Ex.leave P ok fn K)):EvF P ok f args H K:=by
 refine Upon.step (fun n (r:Ex × St)=>match r with|(.normal,st)|(.ret,st)=>dleave P ok n fn st.tm st.ds none st.H|(.panic ch,st)=>dleave P ok n fn st.tm st.ds (some ch) st.H|_=>none) (fun n r hr=>?_) h ?_
 ·rw[dcall,hK];simp only[hf,hm,hb,hr];obtain⟨e,s⟩:=r;cases e<;>rfl
 ·rintro ⟨e,s⟩ hq;cases e with
  |normal=>exact hq
  |ret=>exact hq
  |exit _=>exact hq.elim
  |panic _=>exact hq.elim
theorem EvF.know {f:FuncId}{args:List Value}{H H':Heap}{v:Value}{K:Value→Heap→Prop}(hK:ok.K f args H=some (.ret v,H')) (h:K v H'):EvF P ok f args H K :=
 Upon.now (r:=(.ret v,H')) (fun n=>by rw[dcall,hK]) ⟨v,rfl,h⟩
theorem EvV.now {fn:Func}{tm:Tr Value}{H:Heap}{v:Value}{K:Value→Heap→Prop}(hr:dres P fn tm H=some v) (h:K v H):EvV P ok fn tm [] H K :=
 Upon.now (r:=(.ret v,H)) (fun n=>by rw[dleave,hr]) ⟨v,rfl,h⟩
theorem EvV.mark {fn:Func}{tm:Tr Value}{ds:List Deferred}{l:Nat}{args:Array Value}{H:Heap}{K:Value→Heap→Prop}(hg:H.get l=some .dfr) (h:EvV P ok fn tm ds (H.put l none) K) :
  EvV P ok fn tm (⟨.collected l,args⟩ :: ds) H K :=
 Upon.go (fun n=>by rw[dleave];simp only[hg]) h
end
end Go.Hb
end

section
namespace Go.Hb
open Go Go.RowKit
def deadAt (P:Program) (W:World):Nat:=max P.globals.size W.heap.size
def ab (P:Program) (W:World):Value→Value
 |.pointer (some a)=>if a.spot=none∧a.block < W.heap.size then .pointer (some a) else .pointer (some ⟨deadAt P W,0,none⟩)
 |.slice (some a) n c=>if n≤c∧c≤maxLen then (if a.spot=none∧a.block < W.heap.size then .slice (some a) n c else .slice (some ⟨deadAt P W,0,none⟩) n c) else junk
 |.map (some _)=>.map (some (deadAt P W))
 |v=>if flat v then v else junk
def abV (P:Program) (W:World):Value→Value
 |.agg ⟨cs⟩=>.agg ⟨cs.map (ab P W)⟩
 |v=>ab P W v
def mkTr (f:Nat→Option Blk):Nat→Tr Blk
 |0=>.nil
 |n+1=>(mkTr f n).put n (f n)
theorem zet (f:Nat→Option Blk):∀n i,(mkTr f n).get i=if i < n then f i else none
 |0,i=>by simp [mkTr,Tr.get]
 |n+1,i=>by
  rw[mkTr,Tr.get_put,zet f n i];by_cases h:i=n
  ·rw[if_pos h,if_pos (by omega),h]
  ·rw[if_neg h];by_cases h2:i < n
   ·rw[if_pos h2,if_pos (by omega)]
   ·rw[if_neg h2,if_neg (by omega)]
def blkW (P:Program) (W:World) (i:Nat):Option Blk :=
 match W.heap[i]? with
 |some (.cells cs t _)=>some (.ro (cs.toList.map (ab P W)) t)
 |_=>none
def heapW (P:Program) (W:World):Heap:=⟨deadAt P W+1,mkTr (blkW P W) W.heap.size⟩
def sigW (P:Program) (W:World):Nat→Loc:=fun i=>if i < W.heap.size then .live i 0 0 else if i < deadAt P W+1 then .dead else .none
def tauW:Nat→Value:=fun _=>.bool true
section
variable {P:Program}{W:World}
theorem z8g (i:Nat):(heapW P W).get i=if i < W.heap.size then blkW P W i else none:=zet _ _ _
theorem z8h:sigW P W (deadAt P W)=.dead:=by
 unfold sigW;rw[if_neg (by unfold deadAt;omega),if_pos (by omega)]
theorem zb3 {b:Nat}(h:b < W.heap.size):sigW P W b=.live b 0 0:=by unfold sigW;rw[if_pos h]
theorem zms (v:Value):VR (sigW P W) tauW (ab P W v) v:=by
 have dead:∀a:Addr,AR (sigW P W) ⟨deadAt P W,0,none⟩ a:=fun a=>by unfold AR;simp only[z8h]
 have live:∀a:Addr,a.spot=none∧a.block < W.heap.size→AR (sigW P W) a a:=fun a h=>by
  unfold AR;rw[h.1];simp only[zb3 h.2];obtain⟨b,o,s⟩:=a;obtain rfl:s=none:=h.1;exact⟨rfl,rfl⟩
 have rest:∀v:Value,VR (sigW P W) tauW (if flat v then v else junk) v:=fun v=>by
  split
  ·rename_i h;exact .flat _ h
  ·exact .junk _
 unfold ab;split
 ·split
  ·rename_i h;exact .ptr _ _ (live _ h)
  ·exact .ptr _ _ (dead _)
 ·split
  ·rename_i h;split
   ·rename_i h2;refine .slice _ _ _ _ _ (live _ h2) h.1 (Ze _) ⟨h.2,fun _ b S es hb=>?_⟩;rw[zb3 h2.2] at hb;cases hb;exact fun e=>absurd rfl e
   ·refine .slice _ _ _ _ _ (dead _) h.1 (Ze _) ⟨h.2,fun _ b S es hb=>?_⟩;simp only[z8h] at hb;cases hb
  ·exact .junk _
 ·refine .map _ _ ?_;unfold BR;rw[z8h];trivial
 ·exact rest _
theorem zij (l:List Value):LR (sigW P W) tauW (l.map (ab P W)) l :=
 ⟨by simp,fun i v v' h h'=>by
  rw[Zr,h'] at h;simp only[Zo,Option.some.injEq] at h;subst h;exact zms v'⟩
theorem znz (v:Value):VR (sigW P W) tauW (abV P W v) v:=by
 unfold abV;split
 ·rename_i cs;exact RA.mk_agg (x:=⟨cs.map (ab P W)⟩) (x':=⟨cs⟩) (zij cs)
 ·exact zms _
theorem zlc (l:List Value):LR (sigW P W) tauW (l.map (abV P W)) l :=
 ⟨by simp,fun i v v' h h'=>by
  rw[Zr,h'] at h;simp only[Zo,Option.some.injEq] at h;subst h;exact znz v'⟩
theorem HR.world:HR P W.heap.size W tauW (sigW P W) (heapW P W) W:=by
 refine⟨Below.refl _ _,Ze _,fun i hi=>?_,fun i B hB=>?_,fun i j b S es S' es' hi hj=>?_,fun i b S es hi=>?_⟩
 ·have hi':deadAt P W+1≤i:=hi;unfold sigW;have:W.heap.size≤deadAt P W:=by unfold deadAt;omega
  rw[if_neg (by omega),if_neg (by omega)]
 ·rw[z8g] at hB;split at hB
  ·rename_i hlt;unfold blkW at hB;split at hB
   ·rename_i cs t fr hw;cases hB;rw[zb3 hlt];refine .ro i 0 _ t cs fr hlt hw ?_;unfold PR;rw[Zv,List.take_length];exact zij _
   ·cases hB
  ·cases hB
 ·unfold sigW at hi hj;split at hi
  ·split at hj
   ·cases hi;cases hj;rfl
   ·split at hj<;>cases hj
  ·split at hi<;>cases hi
 ·unfold sigW at hi;split at hi
  ·cases hi;assumption
  ·split at hi<;>cases hi
theorem GR.world:GR P (sigW P W):=fun g hg=>by
 by_cases h:g < W.heap.size
 ·exact .inr ⟨0,0,zb3 h⟩
 ·refine .inl ?_;unfold sigW;rw[if_neg h,if_pos (by unfold deadAt;omega)]
theorem zhb {b o n:Nat}{l:List Value}(hn:0 < n) (hl:l.length=n) (h:∀j v,l[j]?=some v→W.cell? ⟨b,o+j,none⟩=some v):(heapW P W).load ⟨b,o,none⟩ n=some (l.map (ab P W)):=by
 have hcell:∀j (hj:j < n),∃cs t fr,W.heap[b]?=some (.cells cs t fr)∧cs[o+j]?=l[j]?:=fun j hj=>by
  have h0:=h j l[j] (Zd (by omega));unfold World.cell? at h0;simp only at h0;split at h0
  ·rename_i cs t fr hw;refine⟨cs,t,fr,hw,?_⟩;rw[Zd (by omega)];simpa using h0
  ·cases h0
 obtain⟨cs,t,fr,hw,_⟩:=hcell 0 hn;have hlt:b < W.heap.size:=(Array.getElem?_eq_some_iff.1 hw).1;have hcells:(heapW P W).cells b=some (cs.toList.map (ab P W)):=by
  unfold Heap.cells;rw[z8g,if_pos hlt];unfold blkW;rw[hw]
 have hget:∀j,j < n→cs[o+j]?=l[j]?:=fun j hj=>by
  obtain⟨cs',t',fr',hw',he⟩:=hcell j hj;rw[hw] at hw';cases hw';exact he
 have hlist:((cs.toList.map (ab P W)).drop o).take n=l.map (ab P W):=by
  apply ZD;intro j;rw[List.getElem?_take];by_cases hj:j < n
  ·rw[if_pos hj,List.getElem?_drop,Zr,Zr];have:=hget j hj;simp only[ZC];rw[this]
  ·rw[if_neg hj,Zw (by simp;omega)]
 unfold Heap.load;rw[hcells];simp only[hlist];rw[if_pos (by rw[Zp];simp [hl])]
theorem ze0 {ok:Ok}{f:FuncId}{args:Array Value}(hm:P.follows .mixedOrders=true) (hOK:OkFns P W.heap.size W ok)
  (h:EvF P ok f (args.toList.map (abV P W)) (heapW P W) fun v _=>v=.bool true):Calls P f args W fun e W'=>e=.returned (.bool true)∧Below W.heap.size W W':=by
 obtain⟨N,⟨en,H'⟩,hr,v,he,hv⟩:=h;simp only at he;subst he hv;refine(z7d (τ:=tauW) (fun _=>rfl) hm hOK (hr N (Ze _)) (zlc args.toList) HR.world GR.world).mono fun e w' he=>?_
 obtain⟨σ',hen,hH,_⟩:=he;cases e with
 |returned v'=>exact⟨by rw[show v'=.bool true from VR.flat_eq hen rfl],hH.below⟩
 |panicked _=>exact hen.elim
 |outgrown=>exact hen.elim
end
end Go.Hb
end

section
namespace Go.Hb
open Go Go.RowKit
def schedGo (n:Nat) (b:Array Nat) (effs:List Nat):List Nat→Nat→List (List Nat × Option Nat)
  |[],done=>[((Zj n).filter fun i=>!done.testBit i && !effs.contains i,none)]
  |e :: es,done=>(pending (Zj n) effs (b.getD e 0) done,some e) :: schedGo n b effs es (done ||| b.getD e 0 ||| 2 ^ e)
def effsOf (ops:Array Oper):List Nat:=(Zj ops.size).filter fun i=>match ops[i]? with|some o=>isEff o|none=>false
def noTwin (b:Array Nat):List Nat→Bool
  |[]=>true
  |e :: es=>(twin b (e :: es)).isNone && noTwin b es
def sched (ops:Array Oper):List (List (Nat × Nat) × Option Nat) :=
  if noTwin (Region.before ops) (effsOf ops)=false then [] else (schedGo ops.size (Region.before ops) (effsOf ops) (effsOf ops) 0).map fun p=>(p.1.map fun i=>(i,effsIn (effsOf ops) ((Region.before ops).getD i 0)),p.2)
section
variable (P:Program) (ok:Ok) (x:Ctx) (ops:Array Oper) (base:Nat)
def EvN (hs:List Heap):List (Nat × Nat)→Tr Value→Heap→(Tr Value→Heap→Prop)→Prop
  |[],tm,H,K=>K tm H
  |(i,k) :: L,tm,H,K=>∃o,ops.toList[i]?=some o ∧
    ((dwanted ops tm o=some false∧EvN hs L (putD tm o.dst undef) H K) ∨
     (dwanted ops tm o=some true∧isAlloc o=true∧∃B mk,dalloc P o (ev tm)=some (B,mk)∧EvN hs L (putD tm o.dst (mk (base+i))) (H.put (base+i) (some B)) K) ∨
     (dwanted ops tm o=some true∧isAlloc o=false∧∃v G gs G',hs=G :: gs∧dop P o (ev tm) G=some (.val v G') ∧
       (isRead o=false∨(G'.next=G.next∧sameOn P o (ev tm) v (gs.take (gs.length - k))=true))∧EvN hs L (putD tm o.dst v) H K))
def EvS:List (List (Nat × Nat) × Option Nat)→List Heap→Tr Value→List Deferred→(St→Prop)→Prop
  |[],_,_,_,_=>False
  |(L,none) :: _,hs,tm,ds,K=>∃G gs,hs=G :: gs∧EvN P ops base hs L tm G fun tm1 H1=>K ⟨tm1,ds,H1⟩
  |(L,some e) :: S,hs,tm,ds,K=>∃G gs o,hs=G :: gs∧ops.toList[e]?=some o∧EvN P ops base hs L tm G fun tm1 H1 =>
    (dwanted ops tm1 o=some false∧EvS S (H1 :: hs) (putD tm1 o.dst undef) ds K) ∨
    (dwanted ops tm1 o=some true∧Ev1 P ok x o (ev tm1) ds H1 fun v ds1 H2=>EvS S (H2 :: hs) (putD tm1 o.dst v) ds1 K)
end
section
variable {P:Program}{ok:Ok}{x:Ctx}{ops:Array Oper}{base:Nat}
theorem zik (tm:Tr Value) (d:Option Tmp) (v:Value):(match d with|some d=>tm.put d (some v)|none=>tm)=putD tm d v:=by cases d<;>rfl
theorem z8i {effs:List Nat}{b:Array Nat}{hs:List Heap}{K:Tr Value→Heap→Prop}:∀(L:List Nat) (tm:Tr Value) (H:Heap),
    EvN P ops base hs (L.map fun i=>(i,effsIn effs (b.getD i 0))) tm H K→∃tm1 H1,dnon P ops b effs base hs L tm H=some (tm1,H1)∧K tm1 H1
  |[],tm,H,h=>⟨tm,H,by rw[dnon],h⟩
  |i :: L,tm,H,h=>by
    obtain⟨o,ho,h⟩:=h;have ho':ops[i]?=some o:=by simpa using ho
    rcases h with ⟨hw,h⟩|⟨hw,ha,B,mk,hd,h⟩|⟨hw,ha,v,G,gs,G',rfl,hd,hr,h⟩
    · obtain⟨tm1,H1,e,hk⟩:=z8i L _ _ h;refine⟨tm1,H1,?_,hk⟩;rw[dnon,ho'];simp only[hw,zik];exact e
    · obtain⟨tm1,H1,e,hk⟩:=z8i L _ _ h;refine⟨tm1,H1,?_,hk⟩;rw[dnon,ho'];simp only[hw,ha,hd,zik];exact e
    · obtain⟨tm1,H1,e,hk⟩:=z8i L _ _ h;refine⟨tm1,H1,?_,hk⟩;rw[dnon,ho'];simp only[hw,ha,hd,zik];have hc:(!isRead o || (Zk G'.next G.next && sameOn P o (ev tm) v (gs.take (gs.length - effsIn effs (b.getD i 0)))))=true:=by
        rcases hr with hr|⟨h1,h2⟩
        · rw[hr];rfl
        · rw[h1,h2];simp
      simp only[hc];exact e
def EvDr (P:Program) (ok:Ok) (x:Ctx) (ops:Array Oper) (b:Array Nat) (effs:List Nat) (base:Nat) (es:List Nat) (done:Nat) (hs:List Heap) (tm:Tr Value) (ds:List Deferred) (K:St→Prop):Prop :=
  Upon (fun n=>ddraw P ok n x ops b effs base es done hs tm ds) K
theorem zb4 {K:St→Prop}{b:Array Nat}{effs:List Nat}:∀(es:List Nat) (done:Nat) (hs:List Heap) (tm:Tr Value) (ds:List Deferred),noTwin b es=true →
    EvS P ok x ops base ((schedGo ops.size b effs es done).map fun p=>(p.1.map fun i=>(i,effsIn effs (b.getD i 0)),p.2)) hs tm ds K →
    EvDr P ok x ops b effs base es done hs tm ds K
  |[],done,hs,tm,ds,_,h=>by
    obtain⟨G,gs,rfl,h⟩:=h;obtain⟨tm1,H1,e,hk⟩:=z8i _ _ _ h;refine Upon.go (f:=fun n=>dstage P ok n x ops b effs base [] done (G :: gs) tm ds) (fun n=>by rw[ddraw];rfl) (Upon.now (fun n=>?_) hk);rw[dstage];simp only[e]
  |e :: es,done,hs,tm,ds,ht,h=>by
    unfold noTwin at ht;rw[Zi,Option.isNone_iff_eq_none] at ht;refine Upon.go (f:=fun n=>dstage P ok n x ops b effs base (e :: es) done hs tm ds) (fun n=>by rw[ddraw,ht.1]) ?_;obtain⟨G,gs,o,rfl,ho,h⟩:=h;have ho':ops[e]?=some o:=by simpa using ho
    obtain⟨tm1,H1,en,hk⟩:=z8i _ _ _ h;rcases hk with ⟨hw,hk⟩|⟨hw,hk⟩
    · refine Upon.go (fun n=>?_) (zb4 es _ _ _ ds ht.2 hk);rw[dstage];simp only at en;simp only[en,ho',hw];cases o.dst<;>rfl
    · refine Upon.step (fun n r=>match r with|.val v ds1 H2=>ddraw P ok n x ops b effs base es (done ||| b.getD e 0 ||| 2 ^ e) (H2 :: G :: gs) (putD tm1 o.dst v) ds1|_=>none) (fun n r hr=>?_) hk ?_
      · rw[dstage];simp only at en;simp only[en,ho',hw,hr];cases r<;>cases o.dst<;>rfl
      · rintro r ⟨v,ds1,H2,rfl,hk⟩;exact zb4 es _ _ _ ds1 ht.2 hk
theorem EvC.draw {id:Nat}{st:St}{Q:Ex→St→Prop}{S:List (List (Nat × Nat) × Option Nat)}(hS:sched ops=S)
    (h:EvS P ok x ops st.H.next S [⟨st.H.next+ops.size,st.H.t⟩] st.tm st.ds (Q .normal)):EvC P ok x (.region id ops true) st Q:=by
  subst hS;unfold sched at h;split at h
  · exact h.elim
  rename_i hnt;rw[Bool.not_eq_false] at hnt;refine Upon.step (fun n st1=>some (.normal,st1)) (fun n r hr=>?_) (zb4 (b:=Region.before ops) (effs:=effsOf ops) (effsOf ops) 0 [⟨st.H.next+ops.size,st.H.t⟩] st.tm st.ds hnt h) ?_
  · have e:dcode P ok (n+1) x (.region id ops true) st=(match ddraw P ok n x ops (Region.before ops) (effsOf ops) st.H.next (effsOf ops) 0 [⟨st.H.next+ops.size,st.H.t⟩] st.tm st.ds with
        |some st1=>some (.normal,st1)
        |none=>match dpan P (dcall P ok n) (fun es done hs tm=>ddraw P ok n x ops (Region.before ops) (effsOf ops) st.H.next es done hs tm st.ds) ops (Region.before ops) (effsOf ops) st.H.next ⟨st.H.next+ops.size,st.H.t⟩ st.tm with
          |some (ch,H')=>some (.panic ch,⟨clr ops st.tm,st.ds,H'⟩)
          |none=>none):=by
      rw[dcode];rfl
    rw[e,hr]
  · intro r hq;exact⟨0,_,fun n _=>rfl,hq⟩
end
end Go.Hb
end

section
namespace Go.Hb
open Go Go.RowKit
section
variable (P:Program) (ok:Ok) (x:Ctx) (ops:Array Oper)
def LK (d:Option Tmp) (tm:Tr Value) (ds:List Deferred) (H:Heap) (K:Tr Value→List Deferred→Heap→Prop):Option Dr→Prop
  |some (.val v H')=>K (putD tm d v) ds H'
  |some (.call f args)=>EvF P ok f args H fun v H'=>K (putD tm d v) ds H'
  |some (.yield l args)=>EvR P ok l args H fun v H'=>K (putD tm d v) ds H'
  |some (.dfr dd)=>x.round=none∧K (putD tm d undef) (dd :: ds) H
  |_=>False
def GK (d:Option Tmp) (tm:Tr Value) (K L:Prop) (want:Bool):Option Value→Prop
  |some (.bool b)=>if b=want then K else L
  |some (.tuple _)=>L
  |_=>False
def guardOf (ops:Array Oper) (tm:Tr Value) (j:Nat):Option Value :=
  match ops.toList[j]? with
  |some o=>match o.dst with
    |some d=>tm.get d
    |none=>some (.tuple #[])
  |none=>some (.tuple #[])
def EL:List Oper→Tr Value→List Deferred→Heap→(Tr Value→List Deferred→Heap→Prop)→Prop
  |[],tm,ds,H,K=>K tm ds H
  |o :: os,tm,ds,H,K=>match o.guard with
    |none=>LK P ok x o.dst tm ds H (fun tm ds H=>EL os tm ds H K) (dop P o (ev tm) H)
    |some (j,w)=>GK o.dst tm (LK P ok x o.dst tm ds H (fun tm ds H=>EL os tm ds H K) (dop P o (ev tm) H)) (EL os (putD tm o.dst undef) ds H K) w (guardOf ops tm j)
end
section
variable {P:Program}{ok:Ok}{x:Ctx}{ops:Array Oper}
theorem z5s {tm:Tr Value}{o:Oper}{j:Nat}{w:Bool}(hg:o.guard=some (j,w)) :
    (∀b,guardOf ops tm j=some (.bool b)→dwanted ops tm o=some (b == w))∧(∀l,guardOf ops tm j=some (.tuple l)→dwanted ops tm o=some false):=by
  unfold guardOf dwanted;rw[hg];simp only[ZC];cases ops[j]? with
  |none=>simp
  |some oj =>
    simp only[Zq];cases oj.dst with
    |none=>simp
    |some d =>
      simp only;constructor
      · intro b h;rw[h]
      · intro l h;rw[h]
theorem Ev1.of_LK {o:Oper}{d:Option Tmp}{tm:Tr Value}{ds:List Deferred}{H:Heap}{K:Tr Value→List Deferred→Heap→Prop}(h:LK P ok x d tm ds H K (dop P o (ev tm) H)) :
    Ev1 P ok x o (ev tm) ds H fun v ds H=>K (putD tm d v) ds H:=by
  unfold LK at h;split at h
  · rename_i v H' hd;exact Ev1.val hd h
  · rename_i f args hd;exact Ev1.call hd h
  · rename_i l args hd;exact Ev1.yield hd h
  · rename_i dd hd;exact Upon.now (r:=.val undef (dd :: ds) H) (fun n=>by rw[dop1,hd,h.1]) ⟨undef,dd :: ds,H,rfl,h.2⟩
  · exact h.elim
theorem EvL.of_EL {K:Tr Value→List Deferred→Heap→Prop}:∀(os:List Oper) (tm:Tr Value) (ds:List Deferred) (H:Heap),EL P ok x ops os tm ds H K→EvL P ok x ops os ⟨tm,ds,H⟩ fun st=>K st.tm st.ds st.H
  |[],tm,ds,H,h=>h
  |o :: os,tm,ds,H,h=>by
    unfold EL at h;split at h
    · rename_i hg;exact .inr ⟨z5r hg,(Ev1.of_LK h).mono fun v ds H h=>EvL.of_EL os _ _ _ h⟩
    · rename_i j w hg;obtain⟨g1,g2⟩:=z5s (ops:=ops) (tm:=tm) hg;unfold GK at h;split at h
      · rename_i b hb;have:=g1 b hb;by_cases hbw:b=w
        · rw[if_pos hbw] at h;refine .inr ⟨by rw[this,hbw];simp,(Ev1.of_LK h).mono fun v ds H h=>EvL.of_EL os _ _ _ h⟩
        · rw[if_neg hbw] at h;refine .inl ⟨by rw[this];simp [hbw],EvL.of_EL os _ _ _ h⟩
      · rename_i l hl;exact .inl ⟨g2 l hl,EvL.of_EL os _ _ _ h⟩
      · exact h.elim
theorem EvC.reg {id:Nat}{ops:Array Oper}{tm:Tr Value}{ds:List Deferred}{H:Heap}{Q:Ex→St→Prop}(h:EL P ok x ops ops.toList tm ds H fun tm ds H=>Q .normal ⟨tm,ds,H⟩):EvC P ok x (.region id ops false) ⟨tm,ds,H⟩ Q :=
  EvC.ops (EvL.of_EL (K:=fun tm ds H=>Q .normal ⟨tm,ds,H⟩) _ _ _ _ h)
section
variable (P ok x ops) (base:Nat)
def NK (k:Nat) (o:Oper) (tm:Tr Value) (gs:List Heap) (K:Tr Value→Prop) (d:Option Tmp) (nx:Nat):Option Dr→Prop
  |some (.val v G')=>(isRead o=false∨(G'.next=nx∧sameOn P o (ev tm) v (gs.take (gs.length - k))=true))∧K (putD tm d v)
  |_=>False
def AK (i:Nat) (tm:Tr Value) (H:Heap) (K:Tr Value→Heap→Prop) (d:Option Tmp):Option (Blk × (Nat→Value))→Prop
  |some (B,mk)=>K (putD tm d (mk (base+i))) (H.put (base+i) (some B))
  |none=>False
def EN1 (G:Heap) (gs:List Heap) (i k:Nat) (tm:Tr Value) (H:Heap) (K:Tr Value→Heap→Prop):Option Oper→Prop
  |none=>False
  |some o =>
    let go:Prop:=match isAlloc o with
      |true=>AK base i tm H K o.dst (dalloc P o (ev tm))
      |false=>NK P k o tm gs (fun tm=>K tm H) o.dst G.next (dop P o (ev tm) G)
    match o.guard with
    |none=>go
    |some (j,w)=>GK o.dst tm go (K (putD tm o.dst undef) H) w (guardOf ops tm j)
def EN (G:Heap) (gs:List Heap):List (Nat × Nat)→Tr Value→Heap→(Tr Value→Heap→Prop)→Prop
  |[],tm,H,K=>K tm H
  |(i,k) :: L,tm,H,K=>EN1 P ops base G gs i k tm H (fun tm H=>EN G gs L tm H K) ops.toList[i]?
def ES1 (tm:Tr Value) (ds:List Deferred) (H:Heap) (K:Tr Value→List Deferred→Heap→Prop):Option Oper→Prop
  |none=>False
  |some o=>match o.guard with
    |none=>LK P ok x o.dst tm ds H K (dop P o (ev tm) H)
    |some (j,w)=>GK o.dst tm (LK P ok x o.dst tm ds H K (dop P o (ev tm) H)) (K (putD tm o.dst undef) ds H) w (guardOf ops tm j)
def ES:List (List (Nat × Nat) × Option Nat)→Heap→List Heap→Tr Value→List Deferred→(Tr Value→List Deferred→Heap→Prop)→Prop
  |[],_,_,_,_,_=>False
  |(L,none) :: _,G,gs,tm,ds,K=>EN P ops base G gs L tm G fun tm H=>K tm ds H
  |(L,some e) :: S,G,gs,tm,ds,K=>EN P ops base G gs L tm G fun tm H=>ES1 P ok x ops tm ds H (fun tm ds H=>ES S H (G :: gs) tm ds K) ops.toList[e]?
end
theorem EvN.mono {base:Nat}{hs:List Heap}{K K':Tr Value→Heap→Prop}(hk:∀tm H,K tm H→K' tm H):∀(L:List (Nat × Nat)) (tm:Tr Value) (H:Heap),EvN P ops base hs L tm H K→EvN P ops base hs L tm H K'
  |[],tm,H,h=>hk _ _ h
  |(i,k) :: L,tm,H,h=>by
    obtain⟨o,ho,h⟩:=h;refine⟨o,ho,?_⟩;rcases h with ⟨hw,h⟩|⟨hw,ha,B,mk,hd,h⟩|⟨hw,ha,v,G,gs,G',rfl,hd,hr,h⟩
    · exact .inl ⟨hw,EvN.mono hk L _ _ h⟩
    · exact .inr (.inl ⟨hw,ha,B,mk,hd,EvN.mono hk L _ _ h⟩)
    · exact .inr (.inr ⟨hw,ha,v,G,gs,G',rfl,hd,hr,EvN.mono hk L _ _ h⟩)
theorem EvN.of_EN {base:Nat}{G:Heap}{gs:List Heap}{K:Tr Value→Heap→Prop}:∀(L:List (Nat × Nat)) (tm:Tr Value) (H:Heap),EN P ops base G gs L tm H K→EvN P ops base (G :: gs) L tm H K
  |[],tm,H,h=>h
  |(i,k) :: L,tm,H,h=>by
    unfold EN EN1 at h;split at h
    · exact h.elim
    · rename_i o ho;refine⟨o,ho,?_⟩;have go:dwanted ops tm o=some true→(match isAlloc o with
          |true=>AK base i tm H (fun tm H=>EN P ops base G gs L tm H K) o.dst (dalloc P o (ev tm))
          |false=>NK P k o tm gs (fun tm=>EN P ops base G gs L tm H K) o.dst G.next (dop P o (ev tm) G)) →
          ((dwanted ops tm o=some true∧isAlloc o=true∧∃B mk,dalloc P o (ev tm)=some (B,mk)∧EvN P ops base (G :: gs) L (putD tm o.dst (mk (base+i))) (H.put (base+i) (some B)) K) ∨
           (dwanted ops tm o=some true∧isAlloc o=false∧∃v G1 gs1 G',G :: gs=G1 :: gs1∧dop P o (ev tm) G1=some (.val v G') ∧
             (isRead o=false∨(G'.next=G1.next∧sameOn P o (ev tm) v (gs1.take (gs1.length - k))=true))∧EvN P ops base (G :: gs) L (putD tm o.dst v) H K)):=fun hw h=>by
        cases ha:isAlloc o with
        |true =>
          rw[ha] at h;simp only at h;unfold AK at h;split at h
          · rename_i B mk hd;exact .inl ⟨hw,rfl,B,mk,hd,EvN.of_EN L _ _ h⟩
          · exact h.elim
        |false =>
          rw[ha] at h;simp only at h;unfold NK at h;split at h
          · rename_i v G' hd;exact .inr ⟨hw,rfl,v,G,gs,G',rfl,hd,h.1,EvN.of_EN L _ _ h.2⟩
          · exact h.elim
      simp only at h;split at h
      · rename_i hg;exact .inr (go (z5r hg) h)
      · rename_i j w hg;obtain⟨g1,g2⟩:=z5s (ops:=ops) (tm:=tm) hg;unfold GK at h;split at h
        · rename_i b hb;have hw:=g1 b hb;by_cases hbw:b=w
          · rw[if_pos hbw] at h;exact .inr (go (by rw[hw,hbw];simp) h)
          · rw[if_neg hbw] at h;refine .inl ⟨by rw[hw];simp [hbw],EvN.of_EN L _ _ h⟩
        · rename_i l hl;exact .inl ⟨g2 l hl,EvN.of_EN L _ _ h⟩
        · exact h.elim
theorem EvS.of_ES {base:Nat}{K:Tr Value→List Deferred→Heap→Prop}:∀(S:List (List (Nat × Nat) × Option Nat)) (G:Heap) (gs:List Heap) (tm:Tr Value) (ds:List Deferred),ES P ok x ops base S G gs tm ds K→EvS P ok x ops base S (G :: gs) tm ds fun st=>K st.tm st.ds st.H
  |[],_,_,_,_,h=>h
  |(L,none) :: S,G,gs,tm,ds,h=>⟨G,gs,rfl,EvN.of_EN L _ _ h⟩
  |(L,some e) :: S,G,gs,tm,ds,h=>by
    unfold ES at h;cases ho:ops.toList[e]? with
    |none =>
      rw[ho] at h;have hno:∀(L:List (Nat × Nat)) tm H,EN P ops base G gs L tm H (fun _ _=>False)→False:=by
        intro L
        induction L with
        |nil=>intro tm H h;exact h
        |cons p L ih =>
          intro tm H h;obtain⟨i,k⟩:=p;have h2:=EvN.of_EN _ _ _ h;obtain⟨o,_,h3⟩:=h2;unfold EN EN1 at h;split at h
          · exact h
          · rename_i o' ho';simp only at h;have key:∀d,(match isAlloc o' with
                |true=>AK base i tm H (fun tm H=>EN P ops base G gs L tm H fun _ _=>False) d (dalloc P o' (ev tm))
                |false=>NK P k o' tm gs (fun tm=>EN P ops base G gs L tm H fun _ _=>False) d G.next (dop P o' (ev tm) G))→False:=by
              intro d hh;split at hh
              · unfold AK at hh;split at hh
                · exact ih _ _ hh
                · exact hh
              · unfold NK at hh;split at hh
                · exact ih _ _ hh.2
                · exact hh
            split at h
            · exact key _ h
            · unfold GK at h;split at h
              · split at h
                · exact key _ h
                · exact ih _ _ h
              · exact ih _ _ h
              · exact h
      exact(hno L tm G (by simpa [ES1] using h)).elim
    |some o =>
      rw[ho] at h;refine⟨G,gs,o,rfl,ho,EvN.mono (fun tm1 H1 h=>?_) _ _ _ (EvN.of_EN L _ _ h)⟩;unfold ES1 at h;simp only at h;split at h
      · rename_i hg;exact .inr ⟨z5r hg,(Ev1.of_LK h).mono fun v ds H h=>EvS.of_ES S _ _ _ _ h⟩
      · rename_i j w hg;obtain⟨g1,g2⟩:=z5s (ops:=ops) (tm:=tm1) hg;unfold GK at h;split at h
        · rename_i b hb;have hw:=g1 b hb;by_cases hbw:b=w
          · rw[if_pos hbw] at h;exact .inr ⟨by rw[hw,hbw];simp,(Ev1.of_LK h).mono fun v ds H h=>EvS.of_ES S _ _ _ _ h⟩
          · rw[if_neg hbw] at h;exact .inl ⟨by rw[hw];simp [hbw],EvS.of_ES S _ _ _ _ h⟩
        · rename_i l hl;exact .inl ⟨g2 l hl,EvS.of_ES S _ _ _ _ h⟩
        · exact h.elim
theorem EvC.drw {id:Nat}{ops:Array Oper}{tm:Tr Value}{ds:List Deferred}{H:Heap}{Q:Ex→St→Prop}(S:List (List (Nat × Nat) × Option Nat)) (hS:sched ops=S)
    (h:ES P ok x ops H.next S ⟨H.next+ops.size,H.t⟩ [] tm ds fun tm ds H=>Q .normal ⟨tm,ds,H⟩):EvC P ok x (.region id ops true) ⟨tm,ds,H⟩ Q :=
  EvC.draw hS (EvS.of_ES (K:=fun tm ds H=>Q .normal ⟨tm,ds,H⟩) _ _ _ _ _ h)
end
end Go.Hb
end

section
namespace Go.Hb
open Go Go.RowKit
def Heap.wf (H:Heap):Prop:=∀i B,H.get i=some B→i < H.next
structure HX (H H':Heap):Prop where
 next:H.next≤H'.next
 keep:∀i,i < H.next→H'.get i=H.get i
 wf:H'.wf
theorem HX.refl {H:Heap}(h:H.wf):HX H H:=⟨Ze _,fun _ _=>rfl,h⟩
theorem HX.trans {A B C:Heap}(h:HX A B) (k:HX B C):HX A C :=
 ⟨ZA h.next k.next,fun i hi=>by rw[k.keep i (Zt hi h.next),h.keep i hi],k.wf⟩
theorem HX.new {A H:Heap}(h:HX A H) (B:Option Blk):HX A (H.new B):=by
 refine⟨Nat.le_succ_of_le h.next,fun i hi=>?_,fun i C hC=>?_⟩
 ·rw[Heap.get_new,if_neg (by have:=h.next;omega)];exact h.keep i hi
 ·rw[Heap.get_new] at hC;show i < H.next+1;by_cases hi:i=H.next
  ·omega
  ·rw[if_neg hi] at hC;have:=h.wf i C hC;omega
theorem HX.put {A H:Heap}(h:HX A H) {i:Nat}(hi:A.next≤i) (hl:i < H.next) (B:Option Blk):HX A (H.put i B):=by
 refine⟨h.next,fun j hj=>?_,fun j C hC=>?_⟩
 ·rw[Heap.get_put,if_neg (by omega)];exact h.keep j hj
 ·rw[Heap.get_put] at hC;show j < H.next;by_cases hj:j=i
  ·omega
  ·rw[if_neg hj] at hC;exact h.wf j C hC
theorem HX.bump {A H:Heap}(h:HX A H) (k:Nat):HX A ⟨H.next+k,H.t⟩ :=
 ⟨ZA h.next (Nat.le_add_right _ _),h.keep,fun i B hB=>Zt (h.wf i B hB) (Nat.le_add_right _ _)⟩
theorem HX.cells {H H':Heap}(h:HX H H') {i:Nat}{cs:List Value}(hw:H.wf) (hc:H.cells i=some cs):H'.cells i=some cs:=by
 have hlt:i < H.next:=by
  unfold Heap.cells at hc;cases hg:H.get i with
  |none=>rw[hg] at hc;cases hc
  |some B=>exact hw i B hg
 unfold Heap.cells at hc ⊢;rw[h.keep i hlt];exact hc
theorem HX.load {H H':Heap}(h:HX H H') {a:Addr}{n:Nat}{l:List Value}(hw:H.wf) (hl:H.load a n=some l):H'.load a n=some l:=by
 unfold Heap.load at hl ⊢;split at hl
 ·rename_i cs hs hc;rw[hs,h.cells hw hc];exact hl
 ·cases hl
theorem zld {P:Program}{W:World}:(heapW P W).wf:=by
 intro i B hB;rw[z8g] at hB;split at hB
 ·show i < deadAt P W+1;unfold deadAt;omega
 ·cases hB
inductive Tm where
 |mk (kind:Int) (name num:ByteArray) (bits var:Int) (args:List Tm)
def Tm.args:Tm→List Tm|.mk _ _ _ _ _ l=>l
def Tm.kind:Tm→Int|.mk k _ _ _ _ _=>k
def Tm.name:Tm→ByteArray|.mk _ s _ _ _ _=>s
def Tm.num:Tm→ByteArray|.mk _ _ s _ _ _=>s
def Tm.bits:Tm→Int|.mk _ _ _ b _ _=>b
def Tm.var:Tm→Int|.mk _ _ _ _ v _=>v
def i64 (n:Int):Prop:=-9223372036854775808≤n∧n≤9223372036854775807
def u64 (n:Int):Prop:=0≤n∧n≤18446744073709551615
inductive RepT (H:Heap):Tm→List Value→Prop
 |mk (k:Int) (s u:ByteArray) (b v:Int) (l:List Tm) (a:Option Addr) (c:Nat) (cells:Nat→List Value):i64 k→s.size≤maxLen→u.size≤maxLen→u64 b→i64 v→l.length≤maxLen →
   l.length≤c→c≤maxLen→(a=none→l=[]∧c=0) →
   (∀i ad,i < l.length→a=some ad→ad.spot=none∧H.load ⟨ad.block,ad.off+i*6,none⟩ 6=some (cells i))→(∀i t,l[i]?=some t→RepT H t (cells i)) →
   RepT H (.mk k s u b v l) [.int .i64 k,.string s,.string u,.int .u64 b,.int .i64 v,.slice a l.length c]
theorem RepT.mono {H H':Heap}(h:HX H H') (hw:H.wf):∀{t:Tm}{cs:List Value},RepT H t cs→RepT H' t cs:=by
 intro t cs r
 induction r with
 |mk k s u b v l a c cells h1 h2 h3 h4 h5 h6 h7 h8 h9 h10 h11 ih =>
  exact .mk k s u b v l a c cells h1 h2 h3 h4 h5 h6 h7 h8 h9 (fun i ad hi ha=>⟨(h10 i ad hi ha).1,h.load hw (h10 i ad hi ha).2⟩) ih
structure RepL (H:Heap) (l:List Tm) (a:Option Addr) (c:Nat) (cells:Nat→List Value):Prop where
 len:l.length≤c
 cap:c≤maxLen
 nil:a=none→l=[]∧c=0
 load:∀i ad,i < l.length→a=some ad→ad.spot=none∧H.load ⟨ad.block,ad.off+i*6,none⟩ 6=some (cells i)
 rep:∀i t,l[i]?=some t→RepT H t (cells i)
theorem RepL.mono {H H':Heap}(h:HX H H') (hw:H.wf) {l:List Tm}{a:Option Addr}{c:Nat}{cells:Nat→List Value}(r:RepL H l a c cells):RepL H' l a c cells :=
 ⟨r.len,r.cap,r.nil,fun i ad hi ha=>⟨(r.load i ad hi ha).1,h.load hw (r.load i ad hi ha).2⟩,fun i t ht=>(r.rep i t ht).mono h hw⟩
theorem RepT.inv {H:Heap}{t:Tm}{cs:List Value}(r:RepT H t cs):∃a c cells,cs=[.int .i64 t.kind,.string t.name,.string t.num,.int .u64 t.bits,.int .i64 t.var,.slice a t.args.length c] ∧
  i64 t.kind∧t.name.size≤maxLen∧t.num.size≤maxLen∧u64 t.bits∧i64 t.var∧RepL H t.args a c cells:=by
 cases r with
 |mk k s u b v l a c cells h1 h2 h3 h4 h5 h6 h7 h8 h9 h10 h11=>exact⟨a,c,cells,rfl,h1,h2,h3,h4,h5,h7,h8,h9,h10,h11⟩
theorem RepL.at {H:Heap}{l:List Tm}{a:Option Addr}{c:Nat}{cells:Nat→List Value}(r:RepL H l a c cells) {i:Nat}{t:Tm}(h:l[i]?=some t) :
  ∃b o,a=some ⟨b,o,none⟩∧H.load ⟨b,o+i*6,none⟩ 6=some (cells i)∧RepT H t (cells i):=by
 have hi:i < l.length:=(List.getElem?_eq_some_iff.1 h).1;cases a with
 |none=>obtain⟨rfl,_⟩:=r.nil rfl;simp at hi
 |some ad =>
  obtain⟨h1,h2⟩:=r.load i ad hi rfl;obtain⟨b,o,s⟩:=ad;obtain rfl:s=none:=h1;exact⟨b,o,rfl,h2,r.rep i t h⟩
end Go.Hb
end

section
namespace Go.Hb
open Go Go.RowKit
theorem z00 {k:St→Prop}{Q:Ex→St→Prop}{st:St}:Ex.thenC k Q .normal st=k st:=_root_.id rfl
theorem z9t {k:St→Prop}{Q:Ex→St→Prop}{st:St}{i:Nat}:Ex.thenC k Q (.exit i) st=Q (.exit i) st:=_root_.id rfl
theorem z05 {k:St→Prop}{Q:Ex→St→Prop}{st:St}:Ex.thenC k Q .ret st=Q .ret st:=_root_.id rfl
theorem z7e {id j:Nat}{Q:Ex→St→Prop}{st:St}:Ex.inBlock id Q (.exit j) st=if j=id then Q .normal st else Q (.exit j) st:=_root_.id rfl
theorem z0h {id:Nat}{Q:Ex→St→Prop}{st:St}:Ex.inBlock id Q .normal st=Q .normal st:=_root_.id rfl
theorem z03 {id:Nat}{Q:Ex→St→Prop}{st:St}:Ex.inBlock id Q .ret st=Q .ret st:=_root_.id rfl
theorem zle {P:Program}{fn:Func}{tm:Tr Value}{H:Heap}{r:Tmp}(h:fn.results.toList=[.tmp r]):dres P fn tm H=some ((tm.get r).getD junk):=by
 simp only[dres,h,dresL,dres1]
theorem zlf {P:Program}{fn:Func}{tm:Tr Value}{H:Heap}{r q:Tmp}(h:fn.results.toList=[.tmp r,.tmp q]):dres P fn tm H=some (.tuple ⟨[(tm.get r).getD junk,(tm.get q).getD junk]⟩):=by
 simp only[dres,h,dresL,dres1]
theorem zhc {P:Program}{fn:Func}{tm:Tr Value}{H:Heap}{r q p:Tmp}(h:fn.results.toList=[.tmp r,.tmp q,.tmp p]) :
  dres P fn tm H=some (.tuple ⟨[(tm.get r).getD junk,(tm.get q).getD junk,(tm.get p).getD junk]⟩):=by
 simp only[dres,h,dresL,dres1]
theorem z06 {P:Program}{ok:Ok}{fn:Func}{tm:Tr Value}{H:Heap}{r:Tmp}{v:Value}{K:Value→Heap→Prop}(h:fn.results.toList=[.tmp r]) (hv:tm.get r=some v) (hk:K v H):Ex.leave P ok fn K .ret ⟨tm,[],H⟩ :=
 EvV.now (v:=v) (by rw[zle h,hv];rfl) hk
def guardGet (tm:Tr Value):Option Oper→Option Value
 |some ⟨some d,_,_,_,_,_⟩=>tm.get d
 |_=>some (.tuple #[])
theorem z9u {ops:Array Oper}{tm:Tr Value}{j:Nat}:guardOf ops tm j=guardGet tm ops.toList[j]?:=by
 unfold guardOf guardGet;cases ops.toList[j]? with
 |none=>rfl
 |some o =>
  obtain⟨d,op,ty,pos,af,g⟩:=o;cases d<;>rfl
theorem z6a {tm:Tr Value}{d:Tmp}{op:Op}{ty:TypeId}{pos:String}{af:Array Edge}{g:Option (Nat × Bool)}:guardGet tm (some ⟨some d,op,ty,pos,af,g⟩)=tm.get d:=_root_.id rfl
theorem EvC.cut {P:Program}{ok:Ok}{x:Ctx}{a b:Code}{st:St}{Q:Ex→St→Prop}(R:St→Prop) (h1:EvC P ok x a st (fun e st1=>e=.normal∧R st1)) (h2:∀st1,R st1→EvC P ok x b st1 Q):EvC P ok x (.seq a b) st Q:=by
 refine EvC.seq (h1.mono fun e st1 ⟨he,hr⟩=>?_);subst he;exact h2 st1 hr
theorem EvC.join {P:Program}{ok:Ok}{x:Ctx}{c:Code}{st:St}{Q:Ex→St→Prop}(R:St→Prop) (h1:EvC P ok x c st (Ex.thenC R Q)) (h2:∀st1,R st1→Q .normal st1):EvC P ok x c st Q :=
 h1.mono fun e st1 h=>by
  cases e with
  |normal=>exact h2 st1 h
  |_=>exact h
theorem EvC.frame {P:Program}{ok:Ok}{x:Ctx}{c:Code}{tm:Tr Value}{ds:List Deferred}{H:Heap}{Q:Ex→St→Prop}(R:Tr Value→Prop) (h1:R tm) (h2:∀tm,R tm→EvC P ok x c ⟨tm,ds,H⟩ Q):EvC P ok x c ⟨tm,ds,H⟩ Q:=h2 tm h1
theorem LK.mono {P:Program}{ok:Ok}{x:Ctx}{d:Option Tmp}{tm:Tr Value}{ds:List Deferred}{H:Heap}{K L:Tr Value→List Deferred→Heap→Prop}{r:Option Dr}(h:LK P ok x d tm ds H K r) (k:∀tm ds H,K tm ds H→L tm ds H):LK P ok x d tm ds H L r:=by
 unfold LK at h ⊢;split at h
 ·exact k _ _ _ h
 ·exact h.mono fun v H' hk=>k _ _ _ hk
 ·exact Upon.mono h fun _ hk=>k _ _ _ hk
 ·exact⟨h.1,k _ _ _ h.2⟩
 ·exact h
theorem EL.mono {P:Program}{ok:Ok}{x:Ctx}{ops:Array Oper}{K L:Tr Value→List Deferred→Heap→Prop}(k:∀tm ds H,K tm ds H→L tm ds H):∀(os:List Oper) (tm:Tr Value) (ds:List Deferred) (H:Heap),EL P ok x ops os tm ds H K→EL P ok x ops os tm ds H L
 |[],tm,ds,H,h=>k _ _ _ h
 |o :: os,tm,ds,H,h=>by
  unfold EL at h ⊢;split at h
  ·exact h.mono fun tm ds H h=>EL.mono k os tm ds H h
  ·unfold GK at h ⊢;split at h
   ·split at h
    ·rename_i hb;simp only[hb,if_true];exact h.mono fun tm ds H h=>EL.mono k os tm ds H h
    ·rename_i hb;simp only[hb,if_false];exact EL.mono k os _ _ _ h
   ·exact EL.mono k os _ _ _ h
   ·exact h
theorem EL.append {P:Program}{ok:Ok}{x:Ctx}{ops:Array Oper}{K:Tr Value→List Deferred→Heap→Prop}{b:List Oper}:∀(a:List Oper) (tm:Tr Value) (ds:List Deferred) (H:Heap),EL P ok x ops a tm ds H (fun tm ds H=>EL P ok x ops b tm ds H K)→EL P ok x ops (a++b) tm ds H K
 |[],tm,ds,H,h=>h
 |o :: os,tm,ds,H,h=>by
  rw[List.cons_append];unfold EL at h ⊢;split at h
  ·exact h.mono fun tm ds H h=>EL.append os tm ds H h
  ·unfold GK at h ⊢;split at h
   ·split at h
    ·rename_i hb;simp only[hb,if_true];exact h.mono fun tm ds H h=>EL.append os tm ds H h
    ·rename_i hb;simp only[hb,if_false];exact EL.append os _ _ _ h
   ·exact EL.append os _ _ _ h
   ·exact h
theorem EL.join {P:Program}{ok:Ok}{x:Ctx}{ops:Array Oper}{K:Tr Value→List Deferred→Heap→Prop}{os:List Oper}{tm:Tr Value}{ds:List Deferred}{H:Heap}(n:Nat) (R:Tr Value→Prop)
  (h1:EL P ok x ops (os.take n) tm ds H fun tm' ds' H'=>ds'=ds∧H'=H∧R tm') (h2:∀tm',R tm'→EL P ok x ops (os.drop n) tm' ds H K):EL P ok x ops os tm ds H K:=by
 rw[←List.take_append_drop n os];refine EL.append _ _ _ _ (h1.mono ?_ _ _ _ _);rintro tm' ds' H' ⟨rfl,rfl,hr⟩;exact h2 tm' hr
theorem zmt (tm:Tr Value) (t:Tmp):ev tm (.tmp t)=(tm.get t).getD junk:=_root_.id rfl
theorem zeu (tm:Tr Value) (v:Value):ev tm (.const v)=v:=_root_.id rfl
theorem zc9 (tm:Tr Value) (g:Nat):ev tm (.global g)=.pointer (some ⟨g,0,none⟩):=_root_.id rfl
theorem zil (tm:Tr Value) (f:FuncId):ev tm (.func f)=.func (.func f) #[] #[]:=_root_.id rfl
theorem zev (tm:Tr Value) (d:Tmp) (v:Value):putD tm (some d) v=tm.put d (some v):=_root_.id rfl
theorem zew (tm:Tr Value) (v:Value):putD tm none v=tm:=_root_.id rfl
theorem zmu {P:Program}{ok:Ok}{x:Ctx}{ops:Array Oper}{tm:Tr Value}{ds:List Deferred}{H:Heap}{K:Tr Value→List Deferred→Heap→Prop}:EL P ok x ops [] tm ds H K=K tm ds H:=_root_.id rfl
def LX (P:Program) (ok:Ok) (x:Ctx) (ops:Array Oper) (d:Option Tmp) (os:List Oper) (tm:Tr Value) (ds:List Deferred) (H:Heap) (K:Tr Value→List Deferred→Heap→Prop) (r:Option Dr):Prop :=
 LK P ok x d tm ds H (fun tm ds H=>EL P ok x ops os tm ds H K) r
def LG (P:Program) (ok:Ok) (x:Ctx) (ops:Array Oper) (o:Oper) (os:List Oper) (tm:Tr Value) (ds:List Deferred) (H:Heap) (K:Tr Value→List Deferred→Heap→Prop) (w:Bool) (g:Option Value):Prop :=
 GK o.dst tm (LX P ok x ops o.dst os tm ds H K (dop P o (ev tm) H)) (EL P ok x ops os (putD tm o.dst undef) ds H K) w g
section
variable {P:Program}{ok:Ok}{x:Ctx}{ops:Array Oper}{os:List Oper}{tm:Tr Value}{ds:List Deferred}{H H':Heap}{K:Tr Value→List Deferred→Heap→Prop}{d:Option Tmp}{op:Op}{ty:TypeId}{pos:String}{af:Array Edge}{j:Nat}{w:Bool}
theorem zim:EL P ok x ops (⟨d,op,ty,pos,af,none⟩ :: os) tm ds H K=LX P ok x ops d os tm ds H K (dop P ⟨d,op,ty,pos,af,none⟩ (ev tm) H):=_root_.id rfl
theorem zex:EL P ok x ops (⟨d,op,ty,pos,af,some (j,w)⟩ :: os) tm ds H K=LG P ok x ops ⟨d,op,ty,pos,af,some (j,w)⟩ os tm ds H K w (guardOf ops tm j):=_root_.id rfl
theorem zmv {v:Value}:LX P ok x ops d os tm ds H K (some (.val v H'))=EL P ok x ops os (putD tm d v) ds H' K:=_root_.id rfl
theorem zin {f:FuncId}{args:List Value}:LX P ok x ops d os tm ds H K (some (.call f args))=EvF P ok f args H fun v H'=>EL P ok x ops os (putD tm d v) ds H' K:=_root_.id rfl
theorem zey {l:Nat}{args:List Value}:LX P ok x ops d os tm ds H K (some (.yield l args))=EvR P ok l args H fun v H'=>EL P ok x ops os (putD tm d v) ds H' K:=_root_.id rfl
theorem zp7 {g:Option (Nat × Bool)}:LG P ok x ops ⟨d,op,ty,pos,af,g⟩ os tm ds H K true (some (.bool true))=LX P ok x ops d os tm ds H K (dop P ⟨d,op,ty,pos,af,g⟩ (ev tm) H):=_root_.id rfl
theorem zp8 {g:Option (Nat × Bool)}:LG P ok x ops ⟨d,op,ty,pos,af,g⟩ os tm ds H K false (some (.bool false))=LX P ok x ops d os tm ds H K (dop P ⟨d,op,ty,pos,af,g⟩ (ev tm) H):=_root_.id rfl
theorem zp9 {g:Option (Nat × Bool)}:LG P ok x ops ⟨d,op,ty,pos,af,g⟩ os tm ds H K true (some (.bool false))=EL P ok x ops os (putD tm d undef) ds H K:=_root_.id rfl
theorem zpa {g:Option (Nat × Bool)}:LG P ok x ops ⟨d,op,ty,pos,af,g⟩ os tm ds H K false (some (.bool true))=EL P ok x ops os (putD tm d undef) ds H K:=_root_.id rfl
theorem zez {g:Option (Nat × Bool)}:LG P ok x ops ⟨d,op,ty,pos,af,g⟩ os tm ds H K w (some undef)=EL P ok x ops os (putD tm d undef) ds H K:=_root_.id rfl
end
section
variable (P:Program)
def dPick (c a b:Value) (H:Heap):Option Dr:=match c with|.bool true=>some (.val a H)|.bool false=>some (.val b H)|_=>none
def dBin (op:BinOp) (t:TypeId) (x y:Operand) (a b:Value) (H:Heap):Option Dr :=
 match dnil P op t a b with
 |some v=>some (.val v H)
 |none=>match (flat a && (flat b && true)),pureRun P (do let r ←(do eqGuard op t x y a b;binOp op t a b);pure (Next.value r)) with
  |true,some (.value v)=>match flat v with
   |true=>some (.val v H)
   |false=>none
  |_,_=>none
def dLoad (t:TypeId) (a:Value) (H:Heap):Option Dr:=match a with|.pointer (some ad)=>(dload P t ad H).map (.val · H)|_=>none
def dStore (t:TypeId) (a v:Value) (H:Heap):Option Dr :=
 match a with
 |.pointer (some ad)=>if Zk v.cells.size (P.cellsOf t) && (P.info? t).isSome then (H.store ad v.cells.toList).map (.val undef ·) else none
 |_=>none
def fldOf (t:TypeId) (f:Nat):Option (Nat × TypeId):=match P.underlying t with|some (.struct fs)=>(fs.toList[f]?).map fun fd=>(fd.offset,fd.type)|_=>none
def dField (t:TypeId) (x:Value) (f:Nat) (H:Heap):Option Dr :=
 match P.underlying t,x with
 |some (.struct fs),.agg cs=>match fs.toList[f]? with
  |some fd=>(dpart P fd.type cs fd.offset).map (.val · H)
  |none=>none
 |_,_=>none
def dFieldAddr (t:TypeId) (x:Value) (f:Nat) (H:Heap):Option Dr :=
 match P.underlying t,x with
 |some (.struct fs),.pointer (some a)=>match fs.toList[f]? with
  |some fd=>if a.spot.isNone && !(Zk (P.cellsOf fd.type) 0) then some (.val (.pointer (some ⟨a.block,a.off+fd.offset,none⟩)) H) else none
  |none=>none
 |_,_=>none
def dIndexAddr (t:TypeId) (x ix:Value) (H:Heap):Option Dr :=
 match P.underlying t,x with
 |some (.slice e),.slice (some a) n _=>match intBetween ix (n - 1),Zk n 0,a.spot,(P.info? e).isSome with
  |some i,false,none,true=>some (.val (.pointer (some ⟨a.block,a.off+i*P.cellsOf e,none⟩)) H)
  |_,_,_,_=>none
 |some (.array n e),.pointer (some a)=>match intBetween ix (n - 1),Zk n 0,a.spot,(P.info? e).isSome with
  |some i,false,none,true=>some (.val (.pointer (some ⟨a.block,a.off+i*P.cellsOf e,none⟩)) H)
  |_,_,_,_=>none
 |_,_=>none
def dLen (ts:Option TypeId) (x:Value) (H:Heap):Option Dr :=
 match x with
 |.slice _ n _=>match ts.bind P.underlying with
  |some (.slice _)=>some (.val (goInt n) H)
  |_=>none
 |.map (some r)=>match ts.bind P.underlying,H.get r with
  |some (.map _ _),some (.map es _)=>some (.val (goInt es.length) H)
  |_,_=>none
 |_=>none
def callable (f:FuncId):Bool:=match P.funcs[f]? with|some fn=>fn.body.isSome && !(fn.name == "runtime.NumGoroutine")|none=>false
end
section
variable {P:Program}{d:Option Tmp}{ty:TypeId}{pos:String}{af:Array Edge}{g:Option (Nat × Bool)}{ρ:Operand→Value}{H:Heap}
theorem zf0 {a:Operand}:dop P ⟨d,.move a,ty,pos,af,g⟩ ρ H=some (.val (ρ a) H):=_root_.id rfl
theorem z9v {a:Operand}:dop P ⟨d,.assign a,ty,pos,af,g⟩ ρ H=some (.val (ρ a) H):=_root_.id rfl
theorem zf1 {c a b:Operand}:dop P ⟨d,.pick c a b,ty,pos,af,g⟩ ρ H=dPick (ρ c) (ρ a) (ρ b) H:=_root_.id rfl
theorem z9w {b:Bool}{v w:Value}:dPick (.bool b) v w H=some (.val (if b=true then v else w) H):=by cases b<;>rfl
theorem zf2 {t:TypeId}{a:Operand}:dop P ⟨d,.load t a,ty,pos,af,g⟩ ρ H=dLoad P t (ρ a) H:=_root_.id rfl
theorem zca {t:TypeId}{a v:Operand}:dop P ⟨d,.store t a v,ty,pos,af,g⟩ ρ H=dStore P t (ρ a) (ρ v) H:=_root_.id rfl
theorem zcb {t:TypeId}{a:Operand}{f:Nat}:dop P ⟨d,.field t a f,ty,pos,af,g⟩ ρ H=dField P t (ρ a) f H:=_root_.id rfl
theorem z6b {t:TypeId}{a:Operand}{f:Nat}:dop P ⟨d,.fieldAddr t a f,ty,pos,af,g⟩ ρ H=dFieldAddr P t (ρ a) f H:=_root_.id rfl
theorem z6c {t:TypeId}{a i:Operand}:dop P ⟨d,.indexAddr t a i,ty,pos,af,g⟩ ρ H=dIndexAddr P t (ρ a) (ρ i) H:=_root_.id rfl
theorem zio {op:BinOp}{t u:TypeId}{a b:Operand}:dop P ⟨d,.binOp op t a b u,ty,pos,af,g⟩ ρ H=dBin P op t a b (ρ a) (ρ b) H:=_root_.id rfl
theorem z0c {f:FuncId}{args:Array Operand}{ats:Array TypeId}{tm:Tr Value}(h:callable P f=true) :
  dop P ⟨d,.call ⟨.value (.func f),args,ats⟩,ty,pos,af,g⟩ (ev tm) H=some (.call f (args.toList.map (ev tm))):=by
 unfold callable at h;simp only[dop,ev];cases hf:P.funcs[f]? with
 |none=>rw[hf] at h;cases h
 |some fn =>
  rw[hf] at h;simp only at h;simp [dcall1,hf,h]
theorem zf3 {t:TypeId}{x y:Operand}{k:IntKind}{a b:Int}:dBin P .add t x y (.int k a) (.int k b) H=some (.val (.int k (k.wrap (a+b))) H):=by
 simp [dBin,dnil,flat,eqGuard,binOp,Op.intArith,Sem.bind];rfl
theorem zf4 {t:TypeId}{x y:Operand}{k:IntKind}{a b:Int}:dBin P .lss t x y (.int k a) (.int k b) H=some (.val (.bool (decide (a < b))) H):=by
 simp [dBin,dnil,flat,eqGuard,binOp,Op.intCmp,Sem.bind];rfl
def cutC (cs:List Value) (o n:Nat):Option (List Value):=let l:=(cs.drop o).take n;if Zk l.length n then some l else none
def dloadA (n:Nat) (l:Option (List Value)) (H:Heap):Option Dr:=(l.map fun l=>Value.agg ⟨l⟩).map (.val · H)
def dload1 (l:Option (List Value)) (H:Heap):Option Dr:=match l with|some [v]=>some (.val v H)|_=>none
theorem ziq {t:TypeId}{ad:Addr}(h:isAgg? P t=some true):dLoad P t (.pointer (some ad)) H=dloadA (P.cellsOf t) (H.load ad (P.cellsOf t)) H:=by
 simp only[dLoad,dload,h,dloadA]
theorem z1o {t:TypeId}{ad:Addr}(h:isAgg? P t=some false):dLoad P t (.pointer (some ad)) H=dload1 (H.load ad 1) H:=by
 simp only[dLoad,dload,h,dload1];split
 ·rename_i v hv;rw[hv];rfl
 ·rename_i hv;split
  ·rename_i v hv2;exact absurd hv2 (hv v)
  ·rfl
theorem z8j {n:Nat}{l:List Value}:dloadA n (some l) H=some (.val (.agg ⟨l⟩) H):=_root_.id rfl
theorem z8k {v:Value}:dload1 (some [v]) H=some (.val v H):=_root_.id rfl
theorem zb5 {b o n:Nat}{B:Option Blk}:(H.new B).load ⟨b,o,none⟩ n=if b=H.next then (match B with|some (.ro cs _)|some (.row cs _)=>cutC cs o n|_=>none) else H.load ⟨b,o,none⟩ n:=by
 unfold Heap.load Heap.cells;rw[Heap.get_new];by_cases h:b=H.next
 ·rw[if_pos h,if_pos h];cases B with
  |none=>rfl
  |some B=>cases B<;>rfl
 ·rw[if_neg h,if_neg h]
theorem z0b {b o n i:Nat}{B:Option Blk}:(H.put i B).load ⟨b,o,none⟩ n=if b=i then (match B with|some (.ro cs _)|some (.row cs _)=>cutC cs o n|_=>none) else H.load ⟨b,o,none⟩ n:=by
 unfold Heap.load Heap.cells;rw[Heap.get_put];by_cases h:b=i
 ·rw[if_pos h,if_pos h];cases B with
  |none=>rfl
  |some B=>cases B<;>rfl
 ·rw[if_neg h,if_neg h]
theorem zb6 {B:Option Blk}:(H.new B).next=H.next+1:=_root_.id rfl
theorem z1b {i:Nat}{B:Option Blk}:(H.put i B).next=H.next:=_root_.id rfl
theorem get_new {B:Option Blk}{j:Nat}:(H.new B).get j=if j=H.next then B else H.get j:=Heap.get_new _ _ _
theorem get_put {B:Option Blk}{i j:Nat}:(H.put i B).get j=if j=i then B else H.get j:=Heap.get_put _ _ _ _
def dStoreB (ad:Addr) (vs:List Value) (H:Heap):Option Blk→Option Dr
 |some (.row cs e)=>if ad.off+vs.length≤cs.length∧vs.all one=true then some (.val undef (H.put ad.block (some (.row (splice cs ad.off vs) e)))) else none
 |_=>none
theorem zhd {t:TypeId}{b o:Nat}{v:Value}(h:(P.info? t).isSome=true) (hc:v.cells.size=P.cellsOf t):dStore P t (.pointer (some ⟨b,o,none⟩)) v H=dStoreB ⟨b,o,none⟩ v.cells.toList H (H.get b):=by
 simp only[dStore,h,hc,Zy,Bool.and_self,if_true];unfold Heap.store dStoreB;simp only;cases H.get b with
 |none=>rfl
 |some B =>
  cases B with
  |row cs e =>
   simp only;split<;>rfl
  |_=>rfl
def dStoreIf (c:Bool) (ad:Addr) (vs:List Value) (H:Heap) (B:Option Blk):Option Dr:=if c=true then dStoreB ad vs H B else none
theorem z4m {ad:Addr}{vs:List Value}{B:Option Blk}:dStoreIf true ad vs H B=dStoreB ad vs H B:=_root_.id rfl
theorem z9x {t:TypeId}{b o:Nat}{v:Value}(h:(P.info? t).isSome=true):dStore P t (.pointer (some ⟨b,o,none⟩)) v H=dStoreIf (Zk v.cells.size (P.cellsOf t)) ⟨b,o,none⟩ v.cells.toList H (H.get b):=by
 cases hc:Zk v.cells.size (P.cellsOf t) with
 |true=>rw[z4m];exact zhd h (Nat.beq_eq.mp hc)
 |false=>simp only[dStore,hc,Bool.false_and];rfl
theorem zhe {t:TypeId}{b o:Nat}{cs:List Value}(h:(P.info? t).isSome=true):dStore P t (.pointer (some ⟨b,o,none⟩)) (.agg ⟨cs⟩) H=dStoreIf (Zk cs.length (P.cellsOf t)) ⟨b,o,none⟩ cs H (H.get b):=z9x h
theorem z6t {t:TypeId}{b o:Nat}{v:Value}(h:(P.info? t).isSome=true) (h1:P.cellsOf t=1) (hv:v.cells=#[v]):dStore P t (.pointer (some ⟨b,o,none⟩)) v H=dStoreB ⟨b,o,none⟩ [v] H (H.get b):=by
 rw[z9x h,hv,h1];rfl
theorem z9y {t:TypeId}{b o:Nat}{k:IntKind}{n:Int}(h:(P.info? t).isSome=true) (h1:P.cellsOf t=1):dStore P t (.pointer (some ⟨b,o,none⟩)) (.int k n) H=dStoreB ⟨b,o,none⟩ [.int k n] H (H.get b):=z6t h h1 rfl
theorem zb7 {t:TypeId}{b o:Nat}{s:ByteArray}(h:(P.info? t).isSome=true) (h1:P.cellsOf t=1):dStore P t (.pointer (some ⟨b,o,none⟩)) (.string s) H=dStoreB ⟨b,o,none⟩ [.string s] H (H.get b):=z6t h h1 rfl
theorem z4w {t:TypeId}{b o n c:Nat}{a:Option Addr}(h:(P.info? t).isSome=true) (h1:P.cellsOf t=1):dStore P t (.pointer (some ⟨b,o,none⟩)) (.slice a n c) H=dStoreB ⟨b,o,none⟩ [.slice a n c] H (H.get b):=z6t h h1 rfl
theorem z8l {b o:Nat}{vs cs:List Value}{e:TypeId}:dStoreB ⟨b,o,none⟩ vs H (some (.row cs e))=if o+vs.length≤cs.length∧vs.all one=true then some (.val undef (H.put b (some (.row (splice cs o vs) e)))) else none:=_root_.id rfl
theorem z5t {cs vs:List Value}:splice cs 0 vs=vs++cs.drop vs.length:=by cases cs<;>rfl
theorem z3s {c:Value}{cs vs:List Value}{n:Nat}:splice (c :: cs) (n+1) vs=c :: splice cs n vs:=_root_.id rfl
def dBox (e:TypeId) (v:Value) (H:Heap):Option Dr:=if v.cells.toList.all one then some (.val (.pointer (some ⟨H.next,0,none⟩)) (H.new (some (.row v.cells.toList e)))) else none
theorem zir {e:TypeId}{a:Operand}:dop P ⟨d,.box e a,ty,pos,af,g⟩ ρ H=dBox e (ρ a) H:=_root_.id rfl
def zerosOf (P:Program) (e:TypeId):Option (List Value):=match pureRun P (zeroValue e) with|some z=>if flat z && z.cells.toList.all one then some z.cells.toList else none|none=>none
def dAlloc (e:TypeId) (H:Heap):Option (List Value)→Option Dr
 |some cs=>some (.val (.pointer (some ⟨H.next,0,none⟩)) (H.new (some (.row cs e))))
 |none=>none
theorem zcc {e:TypeId}:dop P ⟨d,.alloc e,ty,pos,af,g⟩ ρ H=dAlloc e H (zerosOf P e):=by
 simp only[dop,zerosOf];cases pureRun P (zeroValue e) with
 |none=>rfl
 |some z =>
  simp only;split<;>rfl
theorem z07 {t:TypeId}{f b o off:Nat}{u:TypeId}(h:fldOf P t f=some (off,u)) (hn:Zk (P.cellsOf u) 0=false):dFieldAddr P t (.pointer (some ⟨b,o,none⟩)) f H=some (.val (.pointer (some ⟨b,o+off,none⟩)) H):=by
 unfold fldOf at h;unfold dFieldAddr;split at h
 ·rename_i fs hu;rw[hu];simp only;cases hf:fs.toList[f]? with
  |none=>rw[hf] at h;cases h
  |some fd =>
   rw[hf] at h;simp only[Zo,Option.some.injEq,Prod.mk.injEq] at h;obtain⟨rfl,rfl⟩:=h;simp [hn]
 ·cases h
theorem z7n {t e:TypeId}{b o n c:Nat}{k:IntKind}{i:Nat}(hu:P.underlying t=some (.slice e)) (hi:(P.info? e).isSome=true) (h:i < n) :
  dIndexAddr P t (.slice (some ⟨b,o,none⟩) n c) (.int k (i:Int)) H=some (.val (.pointer (some ⟨b,o+i*P.cellsOf e,none⟩)) H):=by
 have h1:intBetween (.int k (i:Int)) (n - 1)=some i:=by
  unfold intBetween;simp only;rw[if_pos ⟨by omega,by omega⟩];simp
 have h2:Zk n 0=false:=by rw[←ZB,Zp];omega
 simp only[dIndexAddr,hu,h1,h2,hi]
theorem z3d {α:Type}(a:α):pureRun P (pure a:Sem α)=some a:=rfl
theorem z0n {t:TypeId}{d:TypeDesc}(h:P.underlying t=some d):pureRun P (underlying t)=some d:=by
 unfold underlying;rw[z0a];show (pureRun P (match P.underlying t with|some d=>pure d|none=>stuck "no such type"))=_;rw[h];rfl
def dOut (fl:Bool) (r:Option Next) (H:Heap):Option Dr :=
 match fl,r with
 |true,some (.value v)=>match flat v with
  |true=>some (.val v H)
  |false=>none
 |_,_=>none
theorem z8m {o:Oper}:dflat P o ρ H=dOut (allFlat ρ o) (pureRun P (execOp ρ o)) H:=rfl
def dLn (P:Program) (t ty:TypeId) (v:Value) (H:Heap):Option Dr :=
 match v with
 |.slice _ n _=>match P.underlying t with
  |some (.slice _)=>some (.val (goInt n) H)
  |_=>none
 |.map (some r)=>match P.underlying t,H.get r with
  |some (.map _ _),some (.map es _)=>some (.val (goInt es.length) H)
  |_,_=>none
 |v=>dOut (flat v && true) (pureRun P (do let r ←Builtin.len_ #[t] ty #[v];pure (Next.value r))) H
theorem zis {x:Operand}{t:TypeId}:dop P ⟨d,.call ⟨.builtin .len,#[x],#[t]⟩,ty,pos,af,g⟩ ρ H=dLn P t ty (ρ x) H:=by
 have e:dflat P ⟨d,.call ⟨.builtin .len,#[x],#[t]⟩,ty,pos,af,g⟩ ρ H=dOut (flat (ρ x) && true) (pureRun P (do let r ←Builtin.len_ #[t] ty #[ρ x];pure (Next.value r))) H:=by
  rw[z8m,BigFrame.execOp_builtin,BigFrame.builtin_len];simp [allFlat,Op.operands,Call.operands]
 simp only[dop,e];unfold dLn;cases h:ρ x with
 |slice a n c=>rfl
 |map r=>cases r<;>rfl
 |_=>rfl
theorem z3e {t ty e:TypeId}{a:Option Addr}{n c:Nat}(hu:P.underlying t=some (.slice e)):dLn P t ty (.slice a n c) H=some (.val (.int .i64 n) H):=by
 simp only[dLn,hu,goInt]
theorem zhf {t ty:TypeId}{s:ByteArray}(hu:P.underlying t=some .string):dLn P t ty (.string s) H=some (.val (.int .i64 s.size) H):=by
 simp only[dLn,z0a,Builtin.len_];simp [z0a,z0n hu,z3d,dOut,flat,goInt]
theorem zf5 {t:TypeId}{x y:Operand}{k:IntKind}{a b:Int}:dBin P .gtr t x y (.int k a) (.int k b) H=some (.val (.bool (decide (a > b))) H):=by
 simp [dBin,dnil,flat,eqGuard,binOp,Op.intCmp,Sem.bind];rfl
theorem zf6 {t:TypeId}{x y:Operand}{k:IntKind}{a b:Int}:dBin P .sub t x y (.int k a) (.int k b) H=some (.val (.int k (k.wrap (a - b))) H):=by
 simp [dBin,dnil,flat,eqGuard,binOp,Op.intArith,Sem.bind];rfl
theorem zf7 {t:TypeId}{x y:Operand}{k:IntKind}{a b:Int}:dBin P .mul t x y (.int k a) (.int k b) H=some (.val (.int k (k.wrap (a*b))) H):=by
 simp [dBin,dnil,flat,eqGuard,binOp,Op.intArith,Sem.bind];rfl
theorem zf8 {t:TypeId}{x y:Operand}{k:IntKind}{a b:Int}:dBin P .leq t x y (.int k a) (.int k b) H=some (.val (.bool (decide (a≤b))) H):=by
 simp [dBin,dnil,flat,eqGuard,binOp,Op.intCmp,Sem.bind];rfl
theorem zf9 {t:TypeId}{x y:Operand}{k:IntKind}{a b:Int}:dBin P .geq t x y (.int k a) (.int k b) H=some (.val (.bool (decide (a ≥ b))) H):=by
 simp [dBin,dnil,flat,eqGuard,binOp,Op.intCmp,Sem.bind];rfl
theorem zfa {t:TypeId}{x y:Operand}{k:IntKind}{a b:Int}:dBin P .eql t x y (.int k a) (.int k b) H=some (.val (.bool (a == b)) H):=by
 simp [dBin,dnil,flat,eqGuard,binOp,Op.intCmp,Sem.bind];rfl
theorem zfb {t:TypeId}{x y:Operand}{k:IntKind}{a b:Int}:dBin P .neq t x y (.int k a) (.int k b) H=some (.val (.bool (a != b)) H):=by
 simp [dBin,dnil,flat,eqGuard,binOp,Op.intCmp,Sem.bind];rfl
theorem z6d {t:TypeId}{x y:Operand}{a b:ByteArray}:dBin P .eql t x y (.string a) (.string b) H=some (.val (.bool (a.toList == b.toList)) H):=by
 simp [dBin,dnil,flat,eqGuard,binOp,Op.stringOp,Sem.bind];rfl
theorem z2s {t:TypeId}{x y:Operand}{a b:ByteArray}:dBin P .neq t x y (.string a) (.string b) H=some (.val (.bool (!(a.toList == b.toList))) H):=by
 simp [dBin,dnil,flat,eqGuard,binOp,Op.stringOp,Sem.bind];rfl
def dUn (P:Program) (op:UnOp) (v:Value) (H:Heap):Option Dr:=dOut (flat v && true) (pureRun P (do let r ←Op.unary op v;pure (Next.value r))) H
theorem zmw {op:UnOp}{t:TypeId}{a:Operand}:dop P ⟨d,.unOp op t a,ty,pos,af,g⟩ ρ H=dUn P op (ρ a) H:=_root_.id rfl
theorem zmx {b:Bool}:dUn P .not (.bool b) H=some (.val (.bool (!b)) H):=_root_.id rfl
def dExt (t:Value) (i:Nat) (H:Heap):Option Dr:=match t with|.tuple vs=>(vs.toList[i]?).map (.val · H)|_=>none
theorem z8n {a:Operand}{i:Nat}:dop P ⟨d,.extract a i,ty,pos,af,g⟩ ρ H=dExt (ρ a) i H:=_root_.id rfl
theorem zmy {a:Value}{l:List Value}:dExt (.tuple ⟨a :: l⟩) 0 H=some (.val a H):=_root_.id rfl
theorem zmz {a b:Value}{l:List Value}:dExt (.tuple ⟨a :: b :: l⟩) 1 H=some (.val b H):=_root_.id rfl
theorem zn0 {a b c:Value}{l:List Value}:dExt (.tuple ⟨a :: b :: c :: l⟩) 2 H=some (.val c H):=_root_.id rfl
def dMin (P:Program) (ats:Array TypeId) (ty:TypeId) (v w:Value) (H:Heap):Option Dr:=dOut (flat v && (flat w && true)) (pureRun P (do let r ←Builtin.min_ ats ty #[v,w];pure (Next.value r))) H
theorem z0e {n:Int}(h1:-9223372036854775808≤n) (h2:n≤9223372036854775807):IntKind.i64.wrap n=n:=by
 exact IntWalk.i64_in _ ⟨h1,h2⟩
end
end Go.Hb
end
