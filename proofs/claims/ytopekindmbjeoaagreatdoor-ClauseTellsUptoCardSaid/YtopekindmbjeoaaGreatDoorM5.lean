import Derived.Test.YtopekindmbjeoaaGreatDoorM3
import Derived.Test.YtopekindmbjeoaaGreatDoorM4
import Derived.Test.YtopekindmbjeoaaGreatDoorM2
/- Lemmas on the program's own code, towards the laws of this folder, part 5. Conditions: as each lemma says. -/
open Bool renaming and_eq_true → Zm, false_eq_true → Zd
open ByteArray renaming empty → Ze
open Int renaming reduceToNat → Zv
open List renaming cons_append → ZK, drop_eq_getElem_cons → ZB, getElem?_eq_getElem → Zc, getElem?_eq_none → Zy, getElem_mem → Zx, length_append → Zw, length_map → Zq, length_take → Zl, map_append → ZD, map_cons → ZC, mem_cons_of_mem → Zn, range → Zj, take_append_getElem → ZA, take_of_length_le → Zi
open Nat renaming beq_eq → Zr, le_refl → Zg, le_trans → Zo, lt_of_lt_of_le → Zh, lt_succ_self → Zf, one_mul → ZL, reduceAdd → Zb, reduceEqDiff → Za, reduceLeDiff → Zk, zero_le → Zs, zero_mul → Zu
section
namespace Go.Proofs.hq
open Go Go.RowKit Go.Hb
variable {ok:Ok}
set_option maxRecDepth 10000
attribute [local irreducible] LX LG EL STG SOP SGO SGD SAL SRD SEF SEG SLK SCK ES
mutual
def subO (σ:Int→Option Tm):Tm→Tm
 |.mk k s u b v l=>if k=1 then (σ v).getD (.mk k s u b v l) else .mk k s u b v (subOL σ l)
def subOL (σ:Int→Option Tm):List Tm→List Tm
 |[]=>[]
 |t :: l=>subO σ t :: subOL σ l
end
theorem zeg (σ:Int→Option Tm):∀l:List Tm,subOL σ l=l.map (subO σ)
 |[]=>by rw[subOL];rfl
 |t :: l=>by rw[subOL,zeg σ l];rfl
theorem z71 {σ:Int→Option Tm}{t:Tm}(h:t.kind=1):subO σ t=(σ t.var).getD t:=by
 obtain⟨k,s,u,b,v,l⟩:=t;rw[subO,if_pos (show k=1 from h)];rfl
theorem zlt {σ:Int→Option Tm}{t:Tm}(h:t.kind≠1):subO σ t=.mk t.kind t.name t.num t.bits t.var (t.args.map (subO σ)):=by
 obtain⟨k,s,u,b,v,l⟩:=t;rw[subO,if_neg (show ¬k=1 from h),zeg];rfl
structure ByOpt (g:FuncId) (cap:Array Value) (σ:Int→Option Tm) (J:Heap→Prop):Prop where
 step:∀n H,i64 n→J H→H.wf→EvF Tryz.prog okT g ([.int .i64 n]++cap.toList) H fun v H'=>HX H H'∧((∃u cs,σ n=some u∧v=.tuple #[.agg ⟨cs⟩,.bool true]∧RepT H' u cs)∨(σ n=none∧v=.tuple #[.agg ⟨zero6⟩,.bool false]))
 stay:∀H H',J H→HX H H'→J H'
 fine:∀n u,σ n=some u→Fine u
theorem RepT.made {H:Heap}{t u:Tm}{a:Option Addr}{c:Nat}{cells:Nat→List Value}(hb:Bd t) (e:u=.mk t.kind t.name t.num t.bits t.var u.args) (rl:RepL H u.args a c cells):RepT H u (six u a c):=by
 obtain⟨k,s,w,b,v,l⟩:=u;have e':(Tm.mk k s w b v l)=.mk t.kind t.name t.num t.bits t.var l:=e;injection e' with e1 e2 e3 e4 e5;subst e1 e2 e3 e4 e5;exact .mk _ _ _ _ _ l a c cells hb.kind hb.name hb.num hb.bits hb.var (Zo rl.len rl.cap) rl.len rl.cap rl.nil rl.load rl.rep
def RepS (H:Heap) (S:Nat→Prop) (t:Tm) (cs:List Value):Prop:=∀G:Heap,(∀n,S n→n < H.next→G.get n=H.get n)→RepT G t cs
theorem RepS.rep {H:Heap}{S:Nat→Prop}{t:Tm}{cs:List Value}(h:RepS H S t cs):RepT H t cs:=h H fun _ _ _=>rfl
theorem RepS.to {H H2:Heap}{S S2:Nat→Prop}{t:Tm}{cs:List Value}(h:RepS H S t cs) (hk:∀n,S n→n < H.next→H2.get n=H.get n∧S2 n∧n < H2.next):RepS H2 S2 t cs:=fun G hG=>h G fun n hn hl=>by
 obtain⟨a,b,c⟩:=hk n hn hl;rw[hG n b c,a]
theorem RepF.toS {H:Heap}{T:TypeId}{S:Nat→Prop}{t:Tm}{cs:List Value}(h:RepF H T S t cs) (hw:H.wf):RepS H S t cs:=fun G hG=>by
 obtain⟨a,c,rfl,hb,hf⟩:=h;exact RepF.rep (T:=T) (S:=S) ⟨a,c,rfl,hb,hf.heap hG hw⟩
theorem RepS.leaf {H:Heap}{S:Nat→Prop}{t:Tm}{a:Option Addr}{c:Nat}(hb:Bd t) (he:t.args=[]) (hc:c≤maxLen) (hn:a=none→c=0):RepS H S t (six t a c):=fun G _ =>
 RepT.made (cells:=fun _=>[]) hb (by obtain⟨k,s,u,b,v,l⟩:=t;rfl) (by rw[he];exact⟨Zs _,hc,fun h=>⟨rfl,hn h⟩,fun i ad hi=>by simp at hi,fun i t h=>by simp at h⟩)
theorem RepS.row {H:Heap}{S:Nat→Prop}{T:TypeId}{t u:Tm}{b c:Nat}{cells:List Value}(hb:Bd t) (e:u=.mk t.kind t.name t.num t.bits t.var u.args) (hg:H.get b=some (.row cells T)) (hS:S b) (hbl:b < H.next) (hl:u.args.length*6≤cells.length) (hc:u.args.length≤c) (hm:c≤maxLen)
  (hch:∀(j:Nat) (hj:j < u.args.length),RepS H S u.args[j] ((cells.drop (j*6)).take 6)):RepS H S u (six u (some ⟨b,0,none⟩) c):=fun G hG =>
 RepT.made hb e (RepL.of_row (by rw[hG b hS hbl];exact hg) (fun i hi=>rfl) (fun i t ht=>by
  obtain⟨hj,rfl⟩:=List.getElem?_eq_some_iff.1 ht;exact hch i hj G hG) hc hm)
def TopR (H:Heap) (T:TypeId) (S:Nat→Prop) (t:Tm) (cs:List Value):Prop :=
 t.args=[]∨∃b c cells,cs=six t (some ⟨b,0,none⟩) c∧H.get b=some (.row cells T)∧S b∧b < H.next∧t.args.length*6≤cells.length∧∀j,j < t.args.length→((cells.drop (j*6)).take 6).all one=true
theorem TopR.heap {H H':Heap}{T:TypeId}{S S':Nat→Prop}{t:Tm}{cs:List Value}(h:TopR H T S t cs) (hk:∀n,S n→n < H.next→H'.get n=H.get n∧S' n∧n < H'.next):TopR H' T S' t cs:=by
 rcases h with h|⟨b,c,cells,h1,h2,h3,h4,h5⟩
 ·exact .inl h
 ·obtain⟨k1,k2,k3⟩:=hk b h3 h4;exact .inr ⟨b,c,cells,h1,k1.trans h2,k2,k3,h5⟩
theorem zlu {t:Tm}{a:Option Addr}{c:Nat}:(six t a c).all one=true:=rfl
theorem RepT.all {H:Heap}{t:Tm}{cs:List Value}(r:RepT H t cs):cs.all one=true:=by obtain⟨a,c,cells,rfl,-⟩:=r.six;exact zlu
theorem RepF.top {H:Heap}{T:TypeId}{S:Nat→Prop}{t:Tm}{cs:List Value}(h:RepF H T S t cs) (hw:H.wf):TopR H T S t cs:=by
 obtain⟨a,c,rfl,hb,hf⟩:=h;generalize hl:t.args=l at hf;cases hf with
 |nil=>exact .inl hl
 |row _ _ b c cells Si ai ci h1 h2 h3 h4 h5 h6 h7 h8 h9 h10 h11 =>
  refine .inr ⟨b,c,cells,rfl,h3,h7,hw _ _ h3,by rw[hl];exact h4,fun j hj=>?_⟩;rw[hl] at hj;rw[h5 j _ (Zc hj)];exact zlu
set_option maxHeartbeats 4000000 in
theorem zje {g:FuncId}{cap:Array Value}{σ:Int→Option Tm}{J:Heap→Prop}(hg:callable Tryz.prog g=true) (B:ByOpt g cap σ J) {m:Nat}:∀{t:Tm}{cs:List Value}{H:Heap},SizeOf.sizeOf t < m→RepT H t cs→Fine t→J H→H.wf →
  EvF Tryz.prog okT 68 [.agg ⟨cs⟩,.func (.func g) #[] cap] H fun v H'=>∃cs',v=.agg ⟨cs'⟩∧RepS H' (Rg H.next H'.next) (subO σ t) cs'∧TopR H' 25 (Rg H.next H'.next) (subO σ t) cs'∧HX H H':=by
 induction m with
 |zero=>intro t cs H h;omega
 |succ m ih =>
 intro t cs H hsz r hf hj hw;have r0:=r;have hbd:=r.bd;have hfew:=z4g hf;have hvar:=(z22 hf.node).2.2.2.1;obtain⟨a,c,cells,rfl,-,-,-,-,-,rl⟩:=r.six;refine EvF.enter rfl Tryz.func68 (by decide) rfl ?_;(repeat refine EvC.seq ?_);refine EvC.reg ?_;simp (disch:=first|omega|rfl) only[sB,initTm,dBox,dAlloc,Value.cells,one,reduceCtorEq,zr25];obtain⟨H2,e2,hx2,gp,gq,hn2,hw2⟩:=new2 hw (.row (six t a c) 25) (.row zero6 25);simp only[e2];have q1:=row6 gp;clear e2;have hmost:t.args.length≤most:=by unfold most;omega
 have ne1:(H.next+1=H.next)=False:=by simp
 have ne2:(H.next=H.next+1)=False:=by simp
 by_cases k1:t.kind=1
 ·repeat' (first|refine EvC.seq ?_|(refine EvC.reg ?_;simp (disch:=first|omega|rfl) only[sB,Za,reduceCtorEq,z0g,ld3,z4m,q1,z0k k1,z97,z62 hg])|(refine EvC.condT ?_ ?_;simp (disch:=first|omega|rfl) only[sB,Za,reduceCtorEq];refine z07 ?_))
  refine(B.step t.var H2 hbd.var (B.stay _ _ hj hx2) hw2).mono ?_;rintro v H3 ⟨hx3,h3⟩;have gq3:=hx3.get hw2 gq;have gp3:=hx3.get hw2 gp;rcases h3 with ⟨u,cs,hσ,rfl,r3⟩|⟨hσ,rfl⟩
  ·obtain⟨a3,c3,z9f,rfl,-⟩:=r3.six
   repeat' (first|refine EvC.seq ?_|(refine EvC.reg ?_;simp (disch:=first|omega|rfl) only[sB,Za,Zb,reduceCtorEq,cutC,ld25,cl85])|(refine z0i ?_;simp (disch:=first|omega|rfl) only[sB,dAlloc,Za,Zb,one,reduceCtorEq,zr25,st25])|(refine EvC.condT ?_ ?_;simp (disch:=first|omega|rfl) only[sB,Za,reduceCtorEq];refine z07 ?_))
   obtain⟨H4,e4,hx4,g4,hn4,hw4⟩:=z0l hx3.wf (.row zero6 25) (.row (six u a3 c3) 25);simp only[e4];have hx34:=hx3.trans hx4;have q4:=row6 g4;refine(zlk (Zf _) (r3.mono hx4 hx3.wf) (B.fine _ _ hσ) hw4).mono ?_;rintro v H5 ⟨c5,rfl,⟨a5,k5,rfl,hb5,hf5⟩,hx5⟩;have gq5:=hx5.get hw4 (hx4.get hx3.wf gq3);have hx25:=hx34.trans hx5;have n24:=hx34.next;have n25:=hx25.next
   repeat' (first|(refine EvC.ret ?_;try simp only[z04,z02])|(refine z0i ?_;simp (disch:=first|omega|rfl) only[sB,Zb,one,st25,gq5]))
   refine z0a rfl (by simp only[sB,Za,reduceCtorEq];rfl) (by simp only[sB,Zb,cutC,ld25];rfl) ⟨_,rfl,?_,?_,(hx2.trans hx25).pt (by omega) gq5 _⟩;rotate_left
   ·rw[z71 k1,hσ];refine TopR.heap (RepF.top (T:=25) ⟨a5,k5,rfl,hb5,hf5⟩ hx5.wf) fun n hn hl=>?_
    have:=hn.1;exact⟨by rw[get_put,if_neg (by omega)],⟨by omega,hl⟩,hl⟩
   rw[z71 k1,hσ];refine RepS.to (RepF.toS (T:=25) ⟨a5,k5,rfl,hb5,hf5⟩ hx5.wf) fun n hn hl=>?_
   have:=hn.1;exact⟨by rw[get_put,if_neg (by omega)],⟨by omega,hl⟩,hl⟩
  ·have q3:=row6 gp3;try simp (disch:=first|omega|rfl) only[sB,dAlloc,Za,Zb,one,reduceCtorEq,zr25,st25]
   obtain⟨H4,e4,hx4,g4,hn4,hw4⟩:=z0l hx3.wf (.row zero6 25) (.row zero6 25);simp only[e4];have gq4:=hx4.get hx3.wf gq3;have gp4:=hx4.get hx3.wf gp3;have q4:=row6 gp4
   repeat' (first|refine EvC.seq ?_|(refine EvC.skip ?_;try simp only[z00])|(refine EvC.ret ?_;try simp only[z04,z02])|(refine EvC.reg ?_;simp (disch:=first|omega|rfl) only[sB,Za,Zb,one,reduceCtorEq,st25,ld25,q4,gq4])|(refine EvC.condF ?_ ?_;simp (disch:=first|omega|rfl) only[sB,Za,reduceCtorEq];refine z07 ?_))
   have hx5:=((hx2.trans hx3).trans hx4).pt (i:=H.next+1) (Nat.le_succ _) gq4 (some (.row (six t a c) 25));refine z0a rfl (by simp only[sB,Za,reduceCtorEq];rfl) (by simp only[sB,Zb,cutC,ld25];rfl) ⟨_,rfl,?_,.inl (by rw[z71 k1,hσ];exact z70 hf k1),hx5⟩;rw[z71 k1,hσ];exact .leaf hbd (z70 hf k1) rl.cap fun h=>(rl.nil h).2
 have hsub:=zlt (σ:=σ) k1;have hsa:(subO σ t).args=t.args.map (subO σ):=by rw[hsub];rfl
 have hbd':Bd (subO σ t):=by rw[hsub];exact⟨hbd.kind,hbd.name,hbd.num,hbd.bits,hbd.var⟩
 have hsix:∀a c,six (subO σ t) a c=[.int .i64 t.kind,.string t.name,.string t.num,.int .u64 t.bits,.int .i64 t.var,.slice a t.args.length c]:=fun a c=>by rw[hsub];simp [six,Tm.kind,Tm.name,Tm.num,Tm.bits,Tm.var,Tm.args]
 have hmk:subO σ t=.mk t.kind t.name t.num t.bits t.var (subO σ t).args:=by rw[hsa];exact hsub
 by_cases h0:t.args.length=0
 ·have h0':(t.args.length:Int)=0:=by omega
  have he:t.args=[]:=List.length_eq_zero_iff.1 h0
  repeat' (first|refine EvC.seq ?_|(refine EvC.skip ?_;try simp only[z00])|(refine EvC.ret ?_;try simp only[z04,z02])|(refine EvC.reg ?_;simp (disch:=first|omega|rfl) only[sB,Za,Zb,one,reduceCtorEq,cutC,z0g,ld3,st25,ld25,z0j,ld23,ln23,st23,q1,gp,gq,z0m k1,z0k h0',ne1])|(refine EvC.condT ?_ ?_;simp (disch:=first|omega|rfl) only[sB,Za,reduceCtorEq];refine z07 ?_)|(refine EvC.condF ?_ ?_;simp (disch:=first|omega|rfl) only[sB,Za,reduceCtorEq];refine z07 ?_))
  have hx3:=(hx2.pt (Zg _) gp (some (.row [.int .i64 t.kind,.string t.name,.string t.num,.int .u64 t.bits,.int .i64 t.var,.slice none 0 0] 25))).pt (i:=H.next+1) (Nat.le_succ _) (by rw[get_put,if_neg (by omega)];exact gq)
   (some (.row [.int .i64 t.kind,.string t.name,.string t.num,.int .u64 t.bits,.int .i64 t.var,.slice none 0 0] 25))
  refine z0a rfl (by simp only[sB,Za,reduceCtorEq];rfl) (by simp only[sB,Zb,cutC,ld25];rfl) ⟨_,rfl,?_,.inl (by rw[hsa,he];rfl),hx3⟩;have:=RepS.leaf (H:=((H2.put H.next (some (.row [.int .i64 t.kind,.string t.name,.string t.num,.int .u64 t.bits,.int .i64 t.var,.slice none 0 0] 25))).put (H.next+1) (some (.row [.int .i64 t.kind,.string t.name,.string t.num,.int .u64 t.bits,.int .i64 t.var,.slice none 0 0] 25)))) (S:=Rg H.next H2.next) (t:=subO σ t) (a:=none) (c:=0) hbd' (by rw[hsa,he];rfl) (Zs _) (fun _=>rfl);rw[hsix,h0] at this;exact this
 ·have h0':(t.args.length:Int)≠0:=by omega
  have ne3:(H.next=H2.next)=False:=by simp;omega
  repeat' (first|refine EvC.seq ?_|refine EvC.block ?_|(refine EvC.skip ?_;try simp only[z00])|(refine EvC.reg ?_;simp (disch:=first|omega|rfl) only[sB,Za,reduceCtorEq,cutC,z0g,ld3,z0j,ld23,ln23,q1,z0m k1,z0m h0',z61 mk23,ne3])|(refine EvC.condF ?_ ?_;simp (disch:=first|omega|rfl) only[sB,Za,reduceCtorEq];refine z07 ?_))
  obtain⟨H3,e3,hx3,gr,hn3,hw3⟩:=new1 hw2 (.row (repL t.args.length zero6) 25);simp only[e3];clear e3;have gp3:=hx3.get hw2 gp;have gq3:=hx3.get hw2 gq;have hx23:=hx2.trans hx3;have hmax:=rl.max;rw[hn2] at gr hn3;refine EvC.loop (fun k st=>∃tm H' i cells',st=⟨tm,[],H'⟩∧k=t.args.length - i∧i≤t.args.length∧tm.get 1=some (.func (.func g) #[] cap) ∧
   tm.get 2=some (.pointer (some ⟨H.next,0,none⟩))∧tm.get 4=some (.pointer (some ⟨H.next+1,0,none⟩))∧tm.get 7=some (.slice (some ⟨H.next+2,0,none⟩) t.args.length t.args.length) ∧
   tm.get 35=some (.slice a t.args.length c)∧tm.get 36=some (.int .i64 t.args.length)∧tm.get 37=some (.int .i64 (i:Nat)) ∧
   H'.get H.next=some (.row (six t a c) 25)∧H'.get (H.next+1)=some (.row zero6 25)∧H'.get (H.next+2)=some (.row cells' 25)∧cells'.length=t.args.length*6 ∧
   (∀(j:Nat) (hj:j < t.args.length),j < i→RepS H' (Rg (H.next+3) H'.next) (subO σ t.args[j]) ((cells'.drop (j*6)).take 6))∧HX H H') ?_ t.args.length _ ?_
  ·rintro k st ⟨tm,H',i,cells',rfl,rfl,hi,t0,t1,t2,t3,t17,t18,t19,gp',gq',gr',hlen,hfl,hx'⟩;have q1:=row6 gp';by_cases hlt:i < t.args.length
   ·obtain⟨b,o,a1,c1,rfl,hld,hr1⟩:=rl.el hlt;have hld1:=hx'.load hw hld
    repeat' (first|refine EvC.seq ?_|refine EvC.block ?_|(refine EvC.skip ?_;try simp only[z00])|(refine EvC.reg ?_;simp (disch:=first|omega|rfl) only[sB,dAlloc,Za,Zb,one,cutC,zr25,st25,ld25,ia23,cl68,t0,t3,t17,t18,t19,decl hlt,hld1])|(refine EvC.condT ?_ ?_;simp (disch:=first|omega|rfl) only[sB];refine z07 ?_))
    obtain⟨H4,e4,hx4,g4,hn4,hw4⟩:=z0l hx'.wf (.row zero6 25) (.row (six t.args[i] a1 c1) 25);simp only[e4];clear e4;have hs:=z15 (Zc hlt);refine(ih (t:=t.args[i]) (by omega) (hr1.mono (hx'.trans hx4) hw) (hf.args _ (Zx _)) (B.stay _ _ hj (hx'.trans hx4)) hw4).mono ?_;rintro v H5 ⟨cs',rfl,r5,-,hx5⟩;obtain⟨a2,c2,cells2,rfl,-⟩:=r5.rep.six;have hx45:=hx4.trans hx5;have gr5:=hx45.get hx'.wf gr';have gp5:=hx45.get hx'.wf gp';have gq5:=hx45.get hx'.wf gq';have hle:i*6+6≤cells'.length:=by rw[hlen];exact mul6 hlt
    have hln:=hx45.next;have hln2:=hx5.next;have hlt3:=hx'.wf _ _ gq';have hlt4:=hx'.wf _ _ gr'
    repeat' (first|(refine EvC.reg ?_;simp (disch:=first|omega|rfl) only[sB,Za,t19,z0b])|(refine z0i ?_;simp (disch:=first|omega|rfl) only[sB,Zb,one,st25,gr5,hle]))
    have hx6:=(hx'.trans hx45).pt (i:=H.next+2) (by omega) gr5 (some (.row (Hb.splice cells' (i*6) (six (subO σ t.args[i]) a2 c2)) 25));have hch:∀(j:Nat) (hj:j < t.args.length),j < i+1→RepS (H5.put (H.next+2) (some (.row (Hb.splice cells' (i*6) (six (subO σ t.args[i]) a2 c2)) 25))) (Rg (H.next+3) H5.next) (subO σ t.args[j]) (((Hb.splice cells' (i*6) (six (subO σ t.args[i]) a2 c2)).drop (j*6)).take 6):=fun j hj hji=>by
     by_cases e:j=i
     ·subst e;rw[z2t hle rfl];refine r5.to fun n hn hl=>?_
      have:=hn.1;exact⟨by rw[get_put,if_neg (by omega)],⟨by omega,hl⟩,hl⟩
     ·rw[z2c hle rfl (.inl (mul6 (by omega)))];refine(hfl j hj (by omega)).to fun n hn hl=>?_
      have:=hn.1;exact⟨by rw[get_put,if_neg (by omega)];exact hx45.keep n hl,⟨hn.1,Zh hl hln⟩,Zh hl hln⟩
    exact⟨t.args.length - (i+1),by omega,_,_,i+1,Hb.splice cells' (i*6) (six (subO σ t.args[i]) a2 c2),rfl,rfl,by omega,(by simp only[sG,Za,t0]),(by simp only[sG,Za,t1]),(by simp only[sG,Za,t2]),(by simp only[sG,Za,t3]),(by simp only[sG,Za,t17]),(by simp only[sG,Za,t18]),(by simp only[sB,Za];rfl),
     by rw[get_put,if_neg (by omega)];exact gp5,by rw[get_put,if_neg (by omega)];exact gq5,by rw[get_put,if_pos rfl],by rw[z1x hle];exact hlen,hch,hx6⟩
   ·repeat' (first|refine EvC.seq ?_|(refine EvC.exit ?_;try simp only[sB])|(refine EvC.ret ?_)|(refine EvC.reg ?_;simp (disch:=first|omega|rfl) only[sB,Za,Zb,one,cutC,st25,ld25,z0j,st23,t1,t2,t3,t18,t19,q1,gp',gq',decn hlt,ne1])|(refine EvC.condF ?_ ?_;simp (disch:=first|omega|rfl) only[sB];refine z07 ?_))
    have hi':i=t.args.length:=by omega
    have hlt3:=hx'.wf _ _ gr';have hx7:=(hx'.pt (Zg _) gp' (some (.row (six t (some ⟨H.next+2,0,none⟩) t.args.length) 25))).pt (i:=H.next+1) (Nat.le_succ _) (by rw[get_put,if_neg (by omega)];exact gq')
     (some (.row (six t (some ⟨H.next+2,0,none⟩) t.args.length) 25))
    have hsl:(subO σ t).args.length=t.args.length:=by rw[hsa,Zq]
    refine z0a rfl (by simp only[sB,Za,t2];rfl) (by simp only[sB,Zb,cutC,ld25];rfl) ⟨_,rfl,?_,?_,hx7⟩;rotate_left
    ·refine .inr ⟨H.next+2,t.args.length,cells',(hsix _ _).symm,by rw[get_put,if_neg (by omega),get_put,if_neg (by omega)];exact gr',⟨by omega,hlt3⟩,hlt3,by omega,fun j hj=>RepT.all (hfl j (by omega) (by omega)).rep⟩
    have:=RepS.row (H:=((H'.put H.next (some (.row (six t (some ⟨H.next+2,0,none⟩) t.args.length) 25))).put (H.next+1) (some (.row (six t (some ⟨H.next+2,0,none⟩) t.args.length) 25)))) (S:=Rg H.next H'.next) (b:=H.next+2) (c:=t.args.length) (cells:=cells') (T:=25) hbd hmk
     (by rw[get_put,if_neg (by omega),get_put,if_neg (by omega)];exact gr') ⟨by omega,hlt3⟩ hlt3 (by omega) (by omega) (Zo hfew (by simp [maxLen])) (fun j hj=>by
      have hj':j < t.args.length:=by omega
      have ej:(subO σ t).args[j]=subO σ t.args[j]:=by simp only[hsa,List.getElem_map]
      rw[ej];refine(hfl j hj' (by omega)).to fun n hn hl=>?_
      have:=hn.1;exact⟨by rw[get_put,if_neg (by omega),get_put,if_neg (by omega)],⟨by omega,hn.2⟩,hl⟩)
    rw[hsix] at this;exact this
  ·refine⟨_,_,0,repL t.args.length zero6,rfl,rfl,by omega,(by simp only[sG,Za,reduceCtorEq]),(by simp only[sG,Za,reduceCtorEq]),(by simp only[sG,Za,reduceCtorEq]),by rw[hn2];first|(simp only[sG,Za,reduceCtorEq];rfl)|simp only[sG,Za,reduceCtorEq],(by simp only[sG,Za,reduceCtorEq]),(by simp only[sG,Za,reduceCtorEq]),(by simp only[sB,Za,reduceCtorEq];rfl),gp3,gq3,gr,by rw[z4d];rfl,fun j hj h=>by omega,hx23⟩
def varT (i:Int):Tm:=.mk 1 Ze Ze 0 i []
def plcZ (L:List Int) (n:Int):Int:=((L.idxOf? n).getD 0:Nat)
theorem zlv {H:Heap}{i:Int}(h:i64 i):RepT H (varT i) [.int .i64 1,.string Ze,.string Ze,.int .u64 0,.int .i64 i,.slice none 0 0] :=
 .mk 1 Ze Ze 0 i [] none 0 (fun _=>[]) (by simp [i64]) (by simp [maxLen]) (by simp [maxLen]) (by simp [u64]) h (Zs _) (Zg _) (Zs _) (fun _=>⟨rfl,rfl⟩) (fun i ad hi=>by simp at hi) (fun i t h=>by simp at h)
theorem zch {i:Int}(h:0≤i):Fine (varT i):=by
 unfold Fine;rw[z4w];have hn:nodeS (varT i)=0:=by
  have hv:¬i < 0:=by omega
  have hb:blankB (varT i)=true:=by
   have he:isE Ze=true:=by unfold isE;rw[show ByteArray.empty.toList=[] from z19];rfl
   simp [blankB,varT,Tm.kind,Tm.name,Tm.num,Tm.bits,Tm.var,Tm.args,he]
  have hu:utfS Ze=true:=by decide +kernel
  unfold nodeS nodeE;rw[hb];simp [varT,Tm.kind,Tm.name,Tm.num,Tm.bits,Tm.var,Tm.args,hv,hu]
 rw[if_pos hn];simp [varT,Tm.args,allL]
theorem z3i (L:List Int) (n:Int):0≤plcZ L n∧plcZ L n≤L.length:=by
 unfold plcZ;cases h:L.idxOf? n with
 |none=>simp
 |some i =>
  have:i < L.length:=by
   rw[List.idxOf?,List.findIdx?_eq_some_iff_getElem] at h;exact h.1
  simp;omega
theorem zoc {L:List Int}{n m:Int}(h:n∉L):(L++[n]).idxOf? m=if m=n then some L.length else L.idxOf? m:=by
 unfold List.idxOf?;rw[List.findIdx?_append];by_cases hm:m=n
 ·subst hm;have:L.findIdx? (fun x=>x == m)=none:=by
   rw[List.findIdx?_eq_none_iff];intro x hx;simp;intro e;exact h (e ▸ hx)
  rw[if_pos rfl,this];simp [List.findIdx?_cons]
 ·rw[if_neg hm];have:(n == m)=false:=by simp;omega
  simp [List.findIdx?_cons,this]
def PlJ (L:List Int) (pm r:Nat) (H:Heap):Prop:=H.wf∧H.get pm=some (.row [.map (some r)] 103)∧∃M,MapR H r M∧∀m,mGet M m=(L.idxOf? m).map fun i:Nat=>Value.int .i64 (i:Int)
theorem zrm {L:List Int}{pm r:Nat}(hL:L.length≤most):ByAll 69 #[.pointer (some ⟨pm,0,none⟩)] (fun n=>varT (plcZ L n)) (PlJ L pm r):=by
 have hms:most≤9223372036854775807:=by simp [most]
 refine⟨?_,?_,fun n _=>zch (z3i L n).1⟩
 ·rintro n H hn ⟨hw,gm,M,hm,hk⟩ -;have hb:=z3i L n;have lm:H.load ⟨pm,0,none⟩ 1=some [.map (some r)]:=by unfold Heap.load Heap.cells;simp only[gm];rfl
  have lpm:=hw _ _ gm;have ne:(pm=H.next)=False:=by simp;omega
  have el:dLk Tryz.prog 103 (.map (some r)) (.int .i64 n) false (H.new (some (.row zero6 25)))=some (.val (.int .i64 (plcZ L n)) (H.new (some (.row zero6 25)))):=by
   have hm':MapR (H.new (some (.row zero6 25))) r M:=hm.heap (by rw[get_new,if_neg (by have:=hm.lt hw;omega)]);have hkn:=hk n;unfold plcZ;cases h:L.idxOf? n with
   |none=>rw[h] at hkn;exact z6y mapI hm' hkn
   |some i=>rw[h] at hkn;exact z6x mapI hm' hkn
  refine EvF.enter rfl Tryz.func69 (by decide) rfl ?_
  repeat' (first|refine EvC.seq ?_|(refine EvC.ret ?_)|(refine EvC.reg ?_;simp only[sB,initTm,dAlloc,Za,Zb,Value.cells,one,reduceCtorEq,cutC,Zk,layC,zr25,znn,bd25,st25,lm,ne,z1y,el]))
  have hx:HX H (H.new (some (.row zero6 25))):=(HX.refl hw).new _;refine z09 rfl (by simp only[sB,Za,reduceCtorEq];rfl) (by simp only[sB,Zb,cutC,ld25]) (by simp only[sG,Za,reduceCtorEq]) ⟨⟨_,rfl,zlv ⟨by omega,by omega⟩⟩,hx.put (Zg _) (Zf _) _⟩
 ·rintro H H' ⟨hw,gm,M,hm,hk⟩ hx;exact⟨hx.wf,hx.get hw gm,M,hm.heap (hx.keep _ (hm.lt hw)),hk⟩
def plainL (l:List Tm):List Tm:=l.map (sub fun n=>varT (plcZ (uniq (occL l)) n))
set_option maxHeartbeats 8000000 in
theorem zod {l:List Tm}{a:Option Addr}{c:Nat}{cells:Nat→List Value}{H:Heap}(rl:RepL H l a c cells) (hlen:(occL l).length≤most) (hl:l.length≤most) (hw:H.wf) :
  EvF Tryz.prog okT 38 [.slice a l.length c] H fun v H'=>∃a' c',v=.tuple #[.slice a' (if chkL l=0 then plainL l else []).length c',.int .i64 (chkL l)]∧FL H' 25 (Rg H.next H'.next) (if chkL l=0 then plainL l else []) a' c'∧HX H H':=by
 have hmx:=rl.max;have hms:most≤9223372036854775807:=by simp [most]
 refine EvF.enter rfl Tryz.func38 (by decide) rfl ?_
 repeat' (first|refine EvC.seq ?_|(refine EvC.reg ?_;simp (disch:=first|omega|rfl) only[sB,initTm,Za,reduceCtorEq,cl66]))
 refine(zef rl hw).mono ?_;rintro v H1 ⟨rfl,hx1⟩;have nn1:=hx1.next;by_cases h0:chkL l=0;rotate_left
 ·repeat' (first|refine EvC.seq ?_|(refine EvC.ret ?_;try simp only[z04,z02])|(refine EvC.reg ?_;simp (disch:=first|omega|rfl) only[sB,Za,reduceCtorEq,z1j h0])|(refine EvC.condT ?_ ?_;simp (disch:=first|omega|rfl) only[sB,Za,reduceCtorEq];refine z07 ?_))
  exact z3g rfl (by simp only[sB,Za,reduceCtorEq];rfl) (by simp only[sB,Za,reduceCtorEq];rfl) ⟨none,0,by rw[if_neg h0];rfl,by rw[if_neg h0];exact .nil _,hx1⟩
 rw[if_pos h0]
 repeat' (first|refine EvC.seq ?_|(refine EvC.skip ?_;try simp only[z00])|(refine EvC.reg ?_;simp (disch:=first|omega|rfl) only[sB,dAlloc,Za,one,reduceCtorEq,zsd,zse,cl67,z0z h0,z66])|(refine EvC.condF ?_ ?_;simp (disch:=first|omega|rfl) only[sB,Za,reduceCtorEq];refine z07 ?_))
 obtain⟨H2,e2,hx2,gr,n2,w2⟩:=new1 hx1.wf (.map [] 0);obtain⟨H3,e3,hx3,gm,n3,w3⟩:=z0l w2 (.row [.map none] 103) (.row [.map (some H1.next)] 103);rw[n2] at e3 gm n3;simp only[e2,e3];have hx23:=(hx1.trans hx2).trans hx3;refine(z85 (rl.mono hx23 hw) hlen w3).mono ?_;rintro v H4 ⟨hi4,hx4⟩;obtain⟨av,cv,rfl,hcv1,hcv2⟩:=hi4.slice;have hLl:(uniq (occL l)).length≤most:=Zo (z5h _) hlen;have hnd:=zjc (occL l);have nn4:=hx4.next;have hxh4:=hx23.trans hx4;have hm4:MapR H4 H1.next []:=⟨[],0,hx4.get w3 (hx3.get w2 gr),rfl⟩
 have gm4:=hx4.get w3 gm;try simp (disch:=first|omega|rfl) only[sA,ln77]
 unfold plainL;generalize hLdef:uniq (occL l)=L at *;refine EvC.meet (fun st=>∃tm H',st=⟨tm,[],H'⟩∧tm.get 0=some (.slice a l.length c)∧tm.get 5=some (.pointer (some ⟨H1.next+1,0,none⟩))∧PlJ L (H1.next+1) H1.next H'∧HX H H') ?_ ?_
 ·refine EvC.block (EvC.loop (fun k st=>∃tm H' i M,st=⟨tm,[],H'⟩∧k=L.length - i∧i≤L.length∧tm.get 0=some (.slice a l.length c)∧tm.get 5=some (.pointer (some ⟨H1.next+1,0,none⟩))∧tm.get 18=some (.slice av L.length cv)∧tm.get 19=some (.int .i64 L.length)∧tm.get 20=some (.int .i64 (i:Nat)) ∧
   H'.get (H1.next+1)=some (.row [.map (some H1.next)] 103)∧MapR H' H1.next M∧(∀m,mGet M m=((L.take i).idxOf? m).map fun i:Nat=>Value.int .i64 (i:Int))∧IntL H' 3 (Rg H3.next H4.next) L (.slice av L.length cv)∧HX H H') ?_ L.length _ ?_)
  ·rintro k st ⟨tm,H',i,M,rfl,rfl,hi,t0,t5,t18,t19,t20,gm',hm',hk',hil,hx'⟩;by_cases hlt:i < L.length
   ·obtain⟨b,rfl,-,hld,hbS⟩:=hil.at hlt;have lm:H'.load ⟨H1.next+1,0,none⟩ 1=some [.map (some H1.next)]:=by unfold Heap.load Heap.cells;simp only[gm'];rfl
    have hnot:L[i]∉L.take i:=by
     intro hmem;obtain⟨j,hj,e⟩:=List.getElem_of_mem hmem;rw[List.getElem_take] at e;have hj':j < i:=by rw[Zl] at hj;omega
     exact List.pairwise_iff_getElem.1 hnd j i (by omega) hlt hj' e
    have hg:mGet M L[i]=none:=by
     rw[hk'];have:(L.take i).idxOf? L[i]=none:=by
      unfold List.idxOf?;rw[List.findIdx?_eq_none_iff];intro x hx;simp;intro e;exact hnot (e ▸ hx)
     rw[this];rfl
    obtain⟨B,eu,hm2⟩:=zg2 (v:=.int .i64 (i:Nat)) mapI hm' hg;have lr:=hm'.lt hx'.wf
    repeat' (first|refine EvC.seq ?_|refine EvC.block ?_|(refine EvC.skip ?_;try simp only[z00])|(refine EvC.reg ?_;simp (disch:=first|omega|rfl) only[sB,Za,ia77,ld3,znn,t5,t18,t19,t20,decl hlt,hld,lm,z4i,eu,z0b])|(refine EvC.condT ?_ ?_;simp (disch:=first|omega|rfl) only[sB];refine z07 ?_))
    refine⟨L.length - (i+1),by omega,_,_,i+1,M++[(L[i],.int .i64 (i:Nat))],rfl,rfl,by omega,(by simp only[sG,reduceCtorEq,t0]),(by simp only[sG,Za,t5]),(by simp only[sG,Za,t18]),(by simp only[sG,Za,t19]),(by simp only[sB,Za];rfl),by rw[get_put,if_neg (by omega)];exact gm',hm2,fun m=>?_,hil.heap (fun n hn _=>by have:=hn.1;rw[get_put,if_neg (by omega)]) hx'.wf,hx'.put (by omega) lr _⟩;rw[z9n hg,←ZA hlt,zoc hnot];by_cases hm:m=L[i]
    ·rw[if_pos hm,if_pos hm];have:(L.take i).length=i:=by rw[Zl];omega
     rw[this];rfl
    ·rw[if_neg hm,if_neg hm];exact hk' m
   ·repeat' (first|refine EvC.seq ?_|(refine EvC.exit ?_;try simp only[sB,reduceCtorEq])|(refine EvC.reg ?_;simp (disch:=first|omega|rfl) only[sA,t19,t20,decn hlt])|(refine EvC.condF ?_ ?_;simp (disch:=first|omega|rfl) only[sB];refine z07 ?_))
    have hiL:i=L.length:=by omega
    rw[hiL,Zi (Zg _)] at hk';exact⟨_,_,rfl,(by simp only[sG,reduceCtorEq,t0]),(by simp only[sG,Za,t5]),⟨hx'.wf,gm',M,hm',hk'⟩,hx'⟩
  ·exact⟨_,_,0,[],rfl,rfl,by omega,(by simp only[sG,reduceCtorEq]),(by simp only[sG,Za,reduceCtorEq]),(by simp only[sG,Za,reduceCtorEq]),(by simp only[sG,Za,reduceCtorEq]),(by simp only[sB,Za,reduceCtorEq];rfl),gm4,hm4,fun m=>by simp [mGet],hi4,hxh4⟩
 rintro st ⟨tm,H5,rfl,t0,t5,hj5,hx5⟩
 repeat' (first|refine EvC.seq ?_|refine EvC.block ?_|(refine EvC.reg ?_;simp (disch:=first|omega|rfl) only[sB,Za,reduceCtorEq,ln23,t0,z61 mk23]))
 obtain⟨H6,e6,hx6,g6,n6,w6⟩:=new1 hx5.wf (.row (repL l.length zero6) 25);simp only[e6];have hxh6:=hx5.trans hx6;have nn5:=hx5.next;have lpm5:=hj5.1 _ _ hj5.2.1;have B:=zrm (pm:=H1.next+1) (r:=H1.next) hLl;refine EvC.loop (fun k st=>∃tm H' i cells' Si ai ci,st=⟨tm,[],H'⟩∧k=l.length - i∧i≤l.length∧tm.get 5=some (.pointer (some ⟨H1.next+1,0,none⟩))∧tm.get 8=some (.slice (some ⟨H5.next,0,none⟩) l.length l.length)∧tm.get 32=some (.slice a l.length c)∧tm.get 33=some (.int .i64 l.length)∧tm.get 34=some (.int .i64 (i:Nat)) ∧
   H'.get H5.next=some (.row cells' 25)∧cells'.length=l.length*6∧FLs H' 25 (Rg (H5.next+1) H'.next) ((l.take i).map (sub fun n=>varT (plcZ L n))) cells' Si ai ci∧PlJ L (H1.next+1) H1.next H'∧HX H H') ?_ l.length _ ?_
 ·rintro k st ⟨tm,H',i,cells',Si,ai,ci,rfl,rfl,hi,t5,t8,t32,t33,t34,gr',hlen',hfl,hj',hx'⟩;by_cases hlt:i < l.length
  ·obtain⟨b,o,a1,c1,rfl,hld,hr1⟩:=rl.el hlt;have hld1:=hx'.load hw hld
   repeat' (first|refine EvC.seq ?_|refine EvC.block ?_|(refine EvC.skip ?_;try simp only[z00])|(refine EvC.reg ?_;simp (disch:=first|omega|rfl) only[sB,dAlloc,Za,Zb,one,cutC,ia23,ld25,zr25,st25,cl68,t5,t8,t32,t33,t34,decl hlt,hld1,List.map_toArray])|(refine EvC.condT ?_ ?_;simp (disch:=first|omega|rfl) only[sB];refine z07 ?_))
   obtain⟨H7,e7,hx7,g7,n7,w7⟩:=z0l hx'.wf (.row zero6 25) (.row (six l[i] a1 c1) 25);simp only[e7];have hfine:Fine l[i]:=(z0e.1 (z6w h0 _ (Zx _))).2;refine(zlr (by kernel_rfl) B (Zf _) (hr1.mono (hx'.trans hx7) hw) hfine (B.stay _ _ hj' hx7) w7).mono ?_;rintro v H8 ⟨cs',rfl,⟨a2,c2,rfl,hb2,hf2⟩,hx8⟩;have hx78:=hx7.trans hx8;have gr8:=hx78.get hx'.wf gr';have hle:i*6+6≤cells'.length:=by rw[hlen'];exact mul6 hlt
   have nn7:=hx78.next;have nn8:=hx8.next;have lt5:=hx'.wf _ _ gr'
   repeat' (first|(refine EvC.reg ?_;simp (disch:=first|omega|rfl) only[sB,Za,t34,z0b])|(refine z0i ?_;simp (disch:=first|omega|rfl) only[sB,Zb,one,st25,gr8,hle]))
   have et:(l.take (i+1)).map (sub fun n=>varT (plcZ L n))=(l.take i).map (sub fun n=>varT (plcZ L n))++[sub (fun n=>varT (plcZ L n)) l[i]]:=by rw[←ZA hlt,ZD];rfl
   have etl:((l.take i).map (sub fun n=>varT (plcZ L n))).length=i:=by rw[Zq,Zl];omega
   obtain⟨Si',ai',ci',hsn⟩:∃Si ai ci,FLs (H8.put H5.next (some (.row (Hb.splice cells' (i*6) (six (sub (fun n=>varT (plcZ L n)) l[i]) a2 c2)) 25))) 25 (Rg (H5.next+1) H8.next) ((l.take (i+1)).map (sub fun n=>varT (plcZ L n))) (Hb.splice cells' (i*6) (six (sub (fun n=>varT (plcZ L n)) l[i]) a2 c2)) Si ai ci:=by
    rw[et];refine⟨_,_,_,hfl.snoc (S':=Rg (H5.next+1) H8.next) (N:=Rg H7.next H8.next) (fun n hn hl=>?_) hx'.wf (hf2.heap (fun n hn hl=>?_) hx8.wf) hb2 (fun n hn hs=>?_) (fun n hn=>?_) (fun n hn=>?_) (fun j hj=>?_) ?_⟩
    ·have:=hn.1;rw[get_put,if_neg (by omega)];exact hx78.keep n hl
    ·have:=hn.1;rw[get_put,if_neg (by omega)]
    ·have:=hn.1;have:=hs.2;omega
    ·exact⟨hn.1,by have:=hn.2;omega⟩
    ·exact⟨by have:=hn.1;omega,hn.2⟩
    ·rw[etl] at hj;exact z2c hle rfl (.inl (mul6 hj))
    ·rw[etl];exact z2t hle rfl
   have hj8:PlJ L (H1.next+1) H1.next (H8.put H5.next (some (.row (Hb.splice cells' (i*6) (six (sub (fun n=>varT (plcZ L n)) l[i]) a2 c2)) 25))):=by
    obtain⟨w8,gm8,M,hm8,hk8⟩:=B.stay _ _ hj' hx78;exact⟨((HK.refl (S:=fun _=>True) w8).put (.inl trivial) (by omega) _).wf,by rw[get_put,if_neg (by omega)];exact gm8,M,hm8.heap (by rw[get_put,if_neg (by omega)]),hk8⟩
   exact⟨l.length - (i+1),by omega,_,_,i+1,Hb.splice cells' (i*6) (six (sub (fun n=>varT (plcZ L n)) l[i]) a2 c2),Si',ai',ci',rfl,rfl,by omega,(by simp only[sG,Za,t5]),(by simp only[sG,Za,t8]),(by simp only[sG,Za,t32]),(by simp only[sG,Za,t33]),(by simp only[sB,Za];rfl),
    by rw[get_put,if_pos rfl],by rw[z1x hle];exact hlen',hsn,hj8,(hx'.trans hx78).pt (by omega) gr8 _⟩
  ·repeat' (first|refine EvC.seq ?_|(refine EvC.exit ?_;try simp only[sB])|(refine EvC.ret ?_)|(refine EvC.reg ?_;simp (disch:=first|omega|rfl) only[sB,Za,t8,t33,t34,decn hlt])|(refine EvC.condF ?_ ?_;simp (disch:=first|omega|rfl) only[sB];refine z07 ?_))
   have hi':i=l.length:=by omega
   rw[hi',Zi (Zg _)] at hfl;refine z3g rfl (by simp only[sB,Za];rfl) (by simp only[sB,Za];rfl) ⟨some ⟨H5.next,0,none⟩,l.length,by rw[h0,Zq],?_,hx'⟩;refine hfl.row (by rw[Zq];exact Zg _) (Zo hl (by simp [most,maxLen])) gr' (by rw[Zq];omega) ⟨by omega,hx'.wf _ _ gr'⟩ (fun h=>by have:=h.1;omega) (fun n hn=>⟨by have:=hn.1;omega,hn.2⟩)
 ·exact⟨_,_,0,repL l.length zero6,fun _ _=>False,fun _=>none,fun _=>0,rfl,rfl,by omega,(by simp only[sG,Za,t5]),(by simp only[sG,Za]),(by simp only[sG,Za]),(by simp only[sG,Za]),(by simp only[sB,Za];rfl),g6,by rw[z4d];rfl,FLs.nil,B.stay _ _ hj5 hx6,hxh6⟩
def cmpZ (a b:Int):Int:=if a < b then -1 else if b < a then 1 else 0
def lessS (a b:ByteArray):Bool:=Op.bytesLess a.toList b.toList
def cmpS (a b:ByteArray):Int:=if lessS a b then -1 else if lessS b a then 1 else 0
def rankZ (k:Int):Int:=if k=1 then 0 else if k=4 then 1 else if k=3 then 2 else if k=2 then 3 else 4
def numZ (a b:ByteArray):Int :=
 if negS (bl a) && !negS (bl b) then -1 else if negS (bl b) && !negS (bl a) then 1
 else if negS (bl a) then -(orZ (cmpZ a.size b.size) (cmpS a b)) else orZ (cmpZ a.size b.size) (cmpS a b)
theorem z41 (a b:Int):-1≤cmpZ a b∧cmpZ a b≤1:=by
 unfold cmpZ;split
 ·omega
 ·split<;>omega
theorem zb0 (a b:ByteArray):-1≤cmpS a b∧cmpS a b≤1:=by
 unfold cmpS;split
 ·omega
 ·split<;>omega
theorem zeh {x y:Int}(h:-1≤x∧x≤1) (h':-1≤y∧y≤1):-1≤orZ x y∧orZ x y≤1:=by
 unfold orZ;split<;>assumption
def iOr (k:IntKind) (a b:Int):Int:=k.wrap (BitVec.ofInt k.bits a ||| BitVec.ofInt k.bits b).toNat
def iNot (a:Int):Int:=IntKind.u64.wrap (BitVec.ofInt IntKind.u64.bits IntKind.u64.max ^^^ BitVec.ofInt IntKind.u64.bits a).toNat
def keyF (n:Int):Int:=if 9223372036854775808≤n then 18446744073709551615 - n else n+9223372036854775808
def fltZ (a b:Int):Int:=cmpZ (keyF a) (keyF b)
def ordF (a b:Nat):Option Ordering:=FloatKind.f64.format.order a b
def fltO (a b:Nat):Int:=if ordF a b == some .lt then -1 else if ordF a b == some .gt then 1 else 0
end Go.Proofs.hq
end

section
namespace Go.Proofs.hq
open Go Go.RowKit Go.Hb
def expF (g:Nat):Nat:=g / 4503599627370496 - 1
def manF (g:Nat):Nat:=if g < 4503599627370496 then g else 4503599627370496+g % 4503599627370496
def valF (g:Nat):Nat:=manF g*2 ^ expF g
def svF (s:Bool) (x:Nat):Int:=if s then -(x:Int) else x
def sgnF (v:Nat):Int:=svF (v / 9223372036854775808 % 2 == 1) (valF (v % 9223372036854775808))
end Go.Proofs.hq
end

section
namespace Go.Proofs.hq
open Go Go.RowKit Go.Hb
mutual
def ordT:Tm→Tm→Int
 |.mk k s u b v l,.mk k' s' u' b' v' l' =>
  if k≠k' then cmpZ (rankZ k) (rankZ k')
  else if k=1 then cmpZ v v'
  else if k=3 then numZ u u'
  else if k=4 then fltZ b b'
  else if orZ (cmpZ l.length l'.length) (cmpS s s')=0 then ordL l l' else orZ (cmpZ l.length l'.length) (cmpS s s')
def ordL:List Tm→List Tm→Int
 |[],_=>0
 |_ :: _,[]=>0
 |t :: l,t' :: l'=>if ordT t t'=0 then ordL l l' else ordT t t'
end
def headZ (t t':Tm):Int:=orZ (cmpZ t.args.length t'.args.length) (cmpS t.name t'.name)
end Go.Proofs.hq
end

section
namespace Go.Proofs.hq
open Go Go.RowKit Go.Hb
def TT (x y z:Int):Prop:=(x≤0→y≤0→z≤0)∧(0≤x→0≤y→0≤z)∧(x < 0→y≤0→z < 0)∧(x≤0→y < 0→z < 0)∧(0 < x→0≤y→0 < z)∧(0≤x→0 < y→0 < z)
theorem TT.or {x1 y1 z1 x2 y2 z2:Int}(h1:TT x1 y1 z1) (h2:x1=0→y1=0→TT x2 y2 z2):TT (orZ x1 x2) (orZ y1 y2) (orZ z1 z2):=by
 unfold orZ TT at *;by_cases a:x1=0<;>by_cases b:y1=0
 ·have c:z1=0:=by omega
  simp only[a,b,c,if_true];exact h2 a b
 ·have c:z1≠0:=by omega
  simp only[a,b,c,if_true,if_false];omega
 ·have c:z1≠0:=by omega
  simp only[a,b,c,if_true,if_false];omega
 ·by_cases c:z1=0
  ·simp only[a,b,c,if_true,if_false];omega
  ·simp only[a,b,c,if_false];omega
theorem TT.neg {x y z:Int}(h:TT x y z):TT (-x) (-y) (-z):=by unfold TT at *;omega
theorem TT.cmp (a b c:Int):TT (cmpZ a b) (cmpZ b c) (cmpZ a c):=by
 unfold TT cmpZ;by_cases h1:a < b<;>by_cases h2:b < a<;>by_cases h3:b < c<;>by_cases h4:c < b<;>by_cases h5:a < c<;>by_cases h6:c < a<;>simp only[h1,h2,h3,h4,h5,h6,if_true,if_false]<;>(refine⟨?_,?_,?_,?_,?_,?_⟩<;>intros<;>omega)
theorem TT.zero:TT 0 0 0:=by unfold TT;omega
theorem z42 (a b:Int):cmpZ b a=-(cmpZ a b):=by
 unfold cmpZ;by_cases h1:a < b<;>by_cases h2:b < a<;>simp only[h1,h2,if_true,if_false]<;>omega
theorem z43 {a b:Int}:cmpZ a b=0↔a=b:=by
 unfold cmpZ;constructor
 ·intro h;split at h
  ·omega
  ·split at h<;>omega
 ·rintro rfl;simp
def cmpB (a b:List UInt8):Int:=if Op.bytesLess a b then -1 else if Op.bytesLess b a then 1 else 0
theorem z5k:cmpB [] []=0:=by simp [cmpB,Op.bytesLess]
theorem z50 {y:UInt8}{b:List UInt8}:cmpB [] (y :: b)=-1:=by simp [cmpB,Op.bytesLess]
theorem z51 {y:UInt8}{b:List UInt8}:cmpB (y :: b) []=1:=by simp [cmpB,Op.bytesLess]
theorem z44 {x y:UInt8}{a b:List UInt8}:cmpB (x :: a) (y :: b)=orZ (cmpZ x.toNat y.toNat) (cmpB a b):=by
 unfold cmpB;simp only[Op.bytesLess];rcases Nat.lt_trichotomy x.toNat y.toNat with h|h|h
 ·have h1:x < y:=UInt8.lt_iff_toNat_lt.2 h;have hc:cmpZ (x.toNat:Int) y.toNat=-1:=by unfold cmpZ;rw[if_pos (by omega)]
  rw[hc];simp [h1,orZ]
 ·obtain rfl:x=y:=UInt8.toNat_inj.1 h;have hc:cmpZ (x.toNat:Int) x.toNat=0:=z43.2 rfl;rw[hc];simp [orZ]
 ·have h1:y < x:=UInt8.lt_iff_toNat_lt.2 h;have h2:¬x < y:=fun q=>by have:=UInt8.lt_iff_toNat_lt.1 q;omega
  have h3:x≠y:=fun q=>by rw[q] at h;omega
  have hc:cmpZ (x.toNat:Int) y.toNat=1:=by unfold cmpZ;rw[if_neg (by omega),if_pos (by omega)]
  rw[hc];simp [h1,h2,h3,orZ]
theorem TT.bytes:∀(a b c:List UInt8),TT (cmpB a b) (cmpB b c) (cmpB a c)
 |[],[],[]=>by rw[z5k];exact TT.zero
 |[],[],_ :: _=>by rw[z5k,z50];unfold TT;omega
 |[],_ :: _,[]=>by rw[z5k,z50,z51];unfold TT;omega
 |_ :: _,[],[]=>by rw[z5k,z51];unfold TT;omega
 |_ :: _,[],_ :: _=>by rw[z50,z51];unfold TT;omega
 |[],_ :: _,_ :: _=>by rw[z50,z50];unfold TT;omega
 |_ :: _,_ :: _,[]=>by rw[z51,z51];unfold TT;omega
 |x :: a,y :: b,z :: c=>by
  rw[z44,z44,z44];exact TT.or (TT.cmp _ _ _) fun _ _=>TT.bytes a b c
theorem zei:∀(a b:List UInt8),cmpB b a=-(cmpB a b)
 |[],[]=>by rw[z5k];rfl
 |[],_ :: _=>by rw[z50,z51];rfl
 |_ :: _,[]=>by rw[z50,z51]
 |x :: a,y :: b=>by rw[z44,z44,z42 x.toNat y.toNat,zei a b,zg1]
theorem z9o:∀{a b:List UInt8},cmpB a b=0↔a=b
 |[],[]=>by rw[z5k];simp
 |[],_ :: _=>by rw[z50];simp
 |_ :: _,[]=>by rw[z51];simp
 |x :: a,y :: b=>by
  rw[z44,z8g,z43,z9o (a:=a) (b:=b),List.cons.injEq];constructor
  ·rintro ⟨h1,h2⟩;exact⟨UInt8.toNat_inj.1 (by omega),h2⟩
  ·rintro ⟨h1,h2⟩;exact⟨by rw[h1],h2⟩
theorem zej (a b:ByteArray):cmpS b a=-(cmpS a b):=zei a.toList b.toList
theorem z9p {a b:ByteArray}:cmpS a b=0↔a=b :=
 ⟨fun h=>z5g (z9o.1 h),fun h=>by subst h;exact z9o.2 rfl⟩
theorem zlw (a b:ByteArray):numZ b a=-(numZ a b):=by
 have h:orZ (cmpZ (b.size:Int) a.size) (cmpS b a)=-(orZ (cmpZ (a.size:Int) b.size) (cmpS a b)):=by rw[z42 (a.size:Int),zej a b,zg1]
 unfold numZ;rw[h];cases negS (bl a)<;>cases negS (bl b)<;>simp
theorem zlx {a b:ByteArray}:numZ a b=0↔a=b:=by
 constructor
 ·intro h;have key:orZ (cmpZ (a.size:Int) b.size) (cmpS a b)=0:=by
   revert h;unfold numZ;cases negS (bl a)<;>cases negS (bl b)<;>simp
  exact z9p.1 (z8g.1 key).2
 ·rintro rfl;unfold numZ;have h:orZ (cmpZ (a.size:Int) a.size) (cmpS a a)=0:=z8g.2 ⟨z43.2 rfl,z9p.2 rfl⟩;rw[h];cases negS (bl a)<;>simp
theorem zly (a b:Int):fltZ b a=-(fltZ a b):=z42 _ _
def restZ (t t':Tm):Int:=if t.kind=1 then cmpZ t.var t'.var else if t.kind=3 then numZ t.num t'.num else if t.kind=4 then fltZ t.bits t'.bits else orZ (headZ t t') (ordL t.args t'.args)
mutual
theorem zlz:∀(t t':Tm),ordT t' t=-(ordT t t')
 |.mk k s u b v l,.mk k' s' u' b' v' l'=>by
  rw[ordT,ordT];by_cases hk:k=k'
  ·subst hk;simp only[ne_eq,not_true_eq_false,if_false];split
   ·exact z42 _ _
   split
   ·exact zlw _ _
   split
   ·exact zly _ _
   have h:orZ (cmpZ (l'.length:Int) l.length) (cmpS s' s)=-(orZ (cmpZ (l.length:Int) l'.length) (cmpS s s')):=by rw[z42 (l.length:Int),zej s s',zg1]
   rw[h,zek l l'];by_cases h0:orZ (cmpZ (l.length:Int) l'.length) (cmpS s s')=0
   ·rw[if_pos (by omega),if_pos h0]
   ·rw[if_neg (by omega),if_neg h0]
  ·rw[if_pos (fun h=>hk h.symm),if_pos hk];exact z42 _ _
theorem zek:∀(l l':List Tm),ordL l' l=-(ordL l l')
 |[],[]=>by simp [ordL]
 |[],_ :: _=>by simp [ordL]
 |_ :: _,[]=>by simp [ordL]
 |t :: l,t' :: l'=>by
  rw[ordL,ordL,zlz t t',zek l l'];by_cases h0:ordT t t'=0
  ·rw[if_pos (by omega),if_pos h0]
  ·rw[if_neg (by omega),if_neg h0]
end
mutual
theorem zm0:∀(t:Tm),ordT t t=0
 |.mk k s u b v l=>by
  rw[ordT,if_neg (fun h=>h rfl)];split
  ·exact z43.2 rfl
  split
  ·exact zlx.2 rfl
  split
  ·exact z43.2 rfl
  rw[if_pos (z8g.2 ⟨z43.2 rfl,z9p.2 rfl⟩)];exact zel l
theorem zel:∀(l:List Tm),ordL l l=0
 |[]=>by rw[ordL]
 |t :: l=>by rw[ordL,if_pos (zm0 t)];exact zel l
end
inductive U64s:Tm→Prop
 |mk {t:Tm}:u64 t.bits→(∀u∈t.args,U64s u)→U64s t
theorem U64s.bits {t:Tm}(h:U64s t):u64 t.bits:=by cases h;assumption
theorem U64s.args {t:Tm}(h:U64s t):∀u∈t.args,U64s u:=by cases h;assumption
theorem zjf (a b:ByteArray):-1≤numZ a b∧numZ a b≤1:=by
 have:=zeh (z41 a.size b.size) (zb0 a b);unfold numZ;split
 ·omega
 split
 ·omega
 split<;>omega
mutual
theorem zjg:∀(t t':Tm),-1≤ordT t t'∧ordT t t'≤1
 |.mk k s u b v l,.mk k' s' u' b' v' l'=>by
  rw[ordT];split
  ·exact z41 _ _
  split
  ·exact z41 _ _
  split
  ·exact zjf _ _
  split
  ·exact z41 _ _
  split
  ·exact zb1 l l'
  ·exact zeh (z41 _ _) (zb0 _ _)
theorem zb1:∀(l l':List Tm),-1≤ordL l l'∧ordL l l'≤1
 |[],_=>by rw[ordL];omega
 |_ :: _,[]=>by rw[ordL];omega
 |t :: l,t' :: l'=>by
  rw[ordL];split
  ·exact zb1 l l'
  ·exact zjg t t'
end
end Go.Proofs.hq
end

section
namespace Go.Proofs.hq
open Go Go.RowKit Go.Hb
variable {ok:Ok}
set_option maxRecDepth 10000
attribute [local irreducible] LX LG EL STG SOP SGO SGD SAL SRD SEF SEG SLK SCK ES
theorem zpz:∀(m:Nat) (t:Tm),SizeOf.sizeOf t < m→(occ t).length≤nd t
 |0,_,h=>by omega
 |m+1,t,h=>by
  have hl:∀l:List Tm,(∀u∈l,(occ u).length≤nd u)→(occL l).length≤nd.ndL l:=by
   intro l
   induction l with
   |nil=>intro _;rw[occL,nd.ndL];exact Zg _
   |cons u l ih=>intro hu;rw[occL,nd.ndL,Zw];have:=hu u (by simp);have:=ih fun v hv=>hu v (Zn _ hv);omega
  have:=hl t.args fun u hu=>zpz m u (by have:=z0d hu;omega)
  rw[z2d,z1p,Zw];split<;>simp<;>omega
theorem zci {t:Tm}(h:checkS t=0):(occ t).length≤4000:=by
 have h1:=(z0e.1 h).1;have h2:=zaz _ t (Zf _) 0 h1;have h3:=zpz _ t (Zf _);omega
theorem z9q {k b v:Int}{s u:ByteArray}{l l':List Tm}(h:l'.length=l.length):nodeS (.mk k s u b v l')=nodeS (.mk k s u b v l):=by
 have hb:blankB (.mk k s u b v l')=blankB (.mk k s u b v l):=by simp only[blankB,Tm.kind,Tm.name,Tm.num,Tm.bits,Tm.var,Tm.args,h]
 have ha:(Tm.mk k s u b v l').args.length=(Tm.mk k s u b v l).args.length:=h;unfold nodeS nodeE;rw[hb,ha];rfl
theorem RepL.one {H:Heap}{t:Tm}{cs:List Value}{b:Nat}{T:TypeId}(r:RepT H t cs) (g:H.get b=some (.row cs T)):RepL H [t] (some ⟨b,0,none⟩) 1 (fun _=>cs):=by
 have h1:=r.len;refine RepL.of_row g (fun i hi=>?_) (fun i u hu=>?_) (Zg _) (by simp [maxLen])
 ·match i,hi with
  |0,_=>simp;exact Zi (by omega)
 ·match i,hu with
  |0,hu=>cases hu;exact r
theorem zhx {σ:Int→Tm}(hσ:∀n,0≤n→Fine (σ n)):∀(m:Nat) (t:Tm),SizeOf.sizeOf t < m→Fine t→Fine (sub σ t)
 |0,_,h,_=>by omega
 |m+1,t,h,f=>by
  by_cases k1:t.kind=1
  ·rw[z4z k1];exact hσ _ (z22 f.node).2.2.2.1
  ·rw[zhu k1];unfold Fine;rw[z4w];have hn:nodeS (.mk t.kind t.name t.num t.bits t.var (t.args.map (sub σ)))=0:=by
    rw[z9q (l:=t.args) (by simp)];have:=f.node;obtain⟨k,s,u,b,v,l⟩:=t;exact this
   rw[if_pos hn];have hl:∀l:List Tm,(∀u∈l,Fine (sub σ u))→allL nodeS (l.map (sub σ))=0:=by
    intro l
    induction l with
    |nil=>intro _;rfl
    |cons u l ih =>
     intro hu;rw[ZC,allL,if_pos (show allE nodeS (sub σ u)=0 from hu u (by simp))];exact ih fun v hv=>hu v (Zn _ hv)
   exact hl t.args fun u hu=>zhx hσ m u (by have:=z0d hu;omega) (f.args u hu)
def plain1 (t:Tm):Tm:=sub (fun n=>varT (plcZ (uniq (occ t)) n)) t
def addN (σ:Int→Option Tm) (m:Nat) (n:Int):Nat:=match σ n with
 |some u=>if m≤4000 then m+cnt u 0 - 1 else m
 |none=>m
def allS (σ:Int→Option Tm) (m:Nat) (l:List Int):Nat:=l.foldl (addN σ) m
theorem zrn {σ:Int→Option Tm}{m:Nat}{n:Int}(h:m≤8001):addN σ m n≤8001:=by
 unfold addN;split
 ·rename_i u _;have:=z2i u;split<;>omega
 ·exact h
theorem zm1 {σ:Int→Option Tm}:∀{l:List Int}{m:Nat},m≤8001→allS σ m l≤8001
 |[],_,h=>h
 |n :: l,m,h=>by unfold allS;rw[List.foldl_cons];exact zm1 (l:=l) (zrn h)
theorem z9r {σ:Int→Option Tm}{l:List Int}{m:Nat}{n:Int}:allS σ m (l++[n])=addN σ (allS σ m l) n:=by unfold allS;rw[List.foldl_append];rfl
def PutOk (t:Tm) (B:List (Int × Tm)):Prop :=
 checkS t=0∧(∀(i:Nat) (hi:i < B.length),0≤B[i].1∧lookT (B.take i) B[i].1=none∧checkS B[i].2=0)∧allS (lookT B) (cnt t 0) (occ t)≤4000
set_option maxHeartbeats 2000000 in
theorem zoe {H0 H:Heap}{B:List (Int × Tm)}{p r:Nat}{n:Int}(gp:H.get p=some (.row [.map (some r)] 122)) (hm:MapT H0 H r B) (hx0:HX H0 H) (hw0:H0.wf) :
  EvF Tryz.prog okT 92 [.int .i64 n,.pointer (some ⟨p,0,none⟩)] H fun v H'=>HX H H'∧((∃u cs,lookT B n=some u∧v=.tuple #[.agg ⟨cs⟩,.bool true]∧RepT H' u cs)∨(lookT B n=none∧v=.tuple #[.agg ⟨zero6⟩,.bool false])):=by
 have hw:=hx0.wf;refine EvF.enter rfl Tryz.func92 (by decide) rfl ?_;have lp:=hw _ _ gp;(repeat refine EvC.seq ?_);refine EvC.reg ?_;simp only[sA,initTm,dAlloc,zr25];obtain⟨H2,e2,hx2,g2,hn2,hw2⟩:=new1 hw (.row zero6 25);simp only[e2];clear e2;have l2:=row1 (hx2.get hw gp);obtain⟨M,hM,hMn⟩:=hm.keep hx2 hw;rcases zcg (lookT B n) with ⟨u,hl⟩|hl
 ·skip
  obtain⟨cs,hg,hr⟩:=(hMn n).1 u hl;obtain⟨a1,c1,cells1,rfl,-⟩:=hr.six;(repeat refine EvC.seq ?_);refine EvC.reg ?_;simp only[sB,dAlloc,Za,Zb,one,reduceCtorEq,zr25,zfu,st25,l2,z1y,z6x zg3 hM hg];obtain⟨H3,e3,hx3,g3,hn3,hw3⟩:=z0l hw2 (.row zero6 25) (.row (six u a1 c1) 25);simp only[e3];clear e3;have g23:=hx3.get hw2 g2;have q3:=row6 g3
  repeat' (first|refine EvC.seq ?_|(refine EvC.ret ?_)|(refine EvC.reg ?_;simp only[sB,Za,Zb,one,reduceCtorEq,st25,ld25,q3,g23]))
  have hx4:=(hx2.trans hx3).pt (Zg _) g23 (some (.row (six u a1 c1) 25));exact z09 rfl (by simp only[sB,Za,reduceCtorEq];rfl) (by simp only[sB,Zb,cutC,ld25]) (by simp only[sG,Za,reduceCtorEq]) ⟨hx4,.inl ⟨u,_,hl,rfl,hr.mono (hx0.trans hx4) hw0⟩⟩
 ·skip
  have hg:=(hMn n).2 hl;(repeat refine EvC.seq ?_);refine EvC.reg ?_;simp only[sB,dAlloc,Za,Zb,one,reduceCtorEq,zr25,zfu,st25,l2,z1y,z6y zg3 hM hg];obtain⟨H3,e3,hx3,g3,hn3,hw3⟩:=z0l hw2 (.row zero6 25) (.row zero6 25);simp only[e3];clear e3;have g23:=hx3.get hw2 g2;have q3:=row6 g3
  repeat' (first|refine EvC.seq ?_|(refine EvC.ret ?_)|(refine EvC.reg ?_;simp only[sB,Za,Zb,one,reduceCtorEq,st25,ld25,q3,g23]))
  have hx4:=(hx2.trans hx3).pt (Zg _) g23 (some (.row zero6 25));exact z09 rfl (by simp only[sB,Za,reduceCtorEq];rfl) (by simp only[sB,Zb,cutC,ld25]) (by simp only[sG,Za,reduceCtorEq]) ⟨hx4,.inr ⟨hl,rfl⟩⟩
set_option maxHeartbeats 4000000 in
theorem zro {H0 H1:Heap}{B:List (Int × Tm)}{p r q m:Nat}{tot:List Int}(gp:H1.get p=some (.row [.map (some r)] 122)) (hm:MapT H0 H1 r B) (hx0:HX H0 H1) (hw0:H0.wf) (hq:H1.next≤q) (hm8:m≤8001) :
  Each 91 #[.pointer (some ⟨p,0,none⟩),.pointer (some ⟨q,0,none⟩)] H1 tot fun S pre G=>HX H1 G∧(∀n,S n↔n=q)∧G.get q=some (.row [.int .i64 ((allS (lookT B) m pre:Nat):Int)] 3):=by
 have hw1:=hx0.wf;refine⟨fun S pre H h=>h.1,fun S pre H h n hn=>?_,fun S pre n H h _=>?_,fun S pre H H' h hx=>⟨h.1.trans hx,h.2.1,hx.get h.1.wf h.2.2⟩⟩
 ·rw[(h.2.1 n).1 hn];exact h.1.wf _ _ h.2.2
 obtain⟨hx,hS,gq⟩:=h;have hw:=hx.wf;have lq:=hw _ _ gq;have hall:=zm1 (σ:=lookT B) (l:=pre) hm8;refine EvF.enter rfl Tryz.func91 (by decide) rfl ?_;have l2:=row1 (hx.get hw1 gp);obtain⟨M,hM,hMn⟩:=hm.keep hx hw1;rcases zcg (lookT B n) with ⟨u,hl⟩|hl
 ·skip
  obtain⟨cs,hg,hr⟩:=(hMn n).1 u hl;obtain⟨a1,c1,cells1,rfl,-⟩:=hr.six;(repeat refine EvC.seq ?_);refine EvC.reg ?_;simp only[sB,initTm,dAlloc,Za,Zb,one,reduceCtorEq,zfu,zr25,st25,l2,z1y,z6x zg3 hM hg];obtain⟨H3,e3,hx3,g3,hn3,hw3⟩:=z0l hw (.row zero6 25) (.row (six u a1 c1) 25);simp only[e3];clear e3;have gq3:=hx3.get hw gq;have lq3:=row1 gq3;have q3:=row6 g3;by_cases h4:allS (lookT B) m pre≤4000
  ·have hd:decide (((allS (lookT B) m pre:Nat):Int)≤4000)=true:=decide_eq_true (by omega);(repeat refine EvC.seq ?_);refine EvC.reg ?_;simp only[sB,Za,reduceCtorEq,ld3,lq3,hd];refine EvC.condT (by simp only[sB,Za,reduceCtorEq]) ?_;(try refine EvC.skip ?_);(try simp only[z00,z01])
   repeat' (first|(refine EvC.drw [([(1,0)],some 2),([(0,0),(3,1),(4,1)],some 5),([],none)] ?_ ?_;kernel_rfl;simp only[sD,sB,Za,Zb,reduceCtorEq,ld25,cl35,q3,isAlloc,isRead]))
   have hb3:=hx3.bump 6;refine(z1h u _ _ (hr.mono ((hx0.trans hx).trans hb3) hw0) hb3.wf).mono ?_;rintro v H5 ⟨rfl,hx5⟩;have gq5:=hx5.get hb3.wf (show Heap.get ⟨H3.next+6,H3.t⟩ q=_ from gq3);have lq5:=row1 gq5;have hc1:=zrj u;have hc2:=z2i u;have hw2:IntKind.i64.wrap (((cnt u 0:Nat):Int) - 1)=((cnt u 0 - 1:Nat):Int):=by rw[z0b (by omega) (by omega)];omega
   have hw3:IntKind.i64.wrap (((allS (lookT B) m pre:Nat):Int)+((cnt u 0 - 1:Nat):Int))=((addN (lookT B) (allS (lookT B) m pre) n:Nat):Int):=by
    unfold addN;simp only[hl,if_pos h4];rw[z0b (by omega) (by omega)];omega
   repeat' (first|(refine z0h ?_;simp only[sD,sB,Za,one,reduceCtorEq,ld3,st3,lq3,lq5,gq5,hw2,hw3,isAlloc,isRead,zhe]))
   have hxx:=hb3.trans hx5;refine z2r rfl ⟨fun n=>n=q,⟨(hx.trans hxx).then ((HK.refl (S:=fun n=>n=q) hxx.wf).put (.inl rfl) (Zh lq hxx.next) _) (by intro k hk e;have e':k=q:=e;omega),fun n=>Iff.rfl,by rw[get_put,if_pos rfl,z9r]⟩,?_,fun k hk=>.inl ((hS k).2 hk)⟩;exact((hxx.hk S)).put (.inl ((hS q).2 rfl)) (Zh lq hxx.next) _
  ·have hd:decide (((allS (lookT B) m pre:Nat):Int)≤4000)=false:=decide_eq_false (by omega)
   repeat' (first|refine EvC.seq ?_|(refine EvC.skip ?_)|(refine EvC.reg ?_;simp only[sB,Za,reduceCtorEq,ld3,lq3,hd])|(refine EvC.condF ?_ ?_;simp only[sB,Za,reduceCtorEq];refine z07 ?_))
   refine z2r rfl ⟨S,⟨hx.trans hx3,hS,?_⟩,hx3.hk _,fun n hn=>.inl hn⟩;rw[z9r];unfold addN;simp only[hl,if_neg h4];exact gq3
 ·skip
  have hg:=(hMn n).2 hl;(repeat refine EvC.seq ?_);refine EvC.reg ?_;simp only[sB,initTm,dAlloc,Za,Zb,one,reduceCtorEq,zfu,zr25,st25,l2,z1y,z6y zg3 hM hg];obtain⟨H3,e3,hx3,g3,hn3,hw3⟩:=z0l hw (.row zero6 25) (.row zero6 25);simp only[e3];clear e3;have gq3:=hx3.get hw gq
  repeat' (first|refine EvC.seq ?_|(refine EvC.skip ?_)|(refine EvC.reg ?_;simp only[sB,Za,reduceCtorEq,Zd])|(refine EvC.condF ?_ ?_;simp only[sB,Za,reduceCtorEq];refine z07 ?_))
  refine z2r rfl ⟨S,⟨hx.trans hx3,hS,?_⟩,hx3.hk _,fun n hn=>.inl hn⟩;rw[z9r];unfold addN;simp only[hl];exact gq3
theorem zt6 {H0 H1:Heap}{B:List (Int × Tm)}{p r:Nat}(gp:H1.get p=some (.row [.map (some r)] 122)) (hm:MapT H0 H1 r B) (hx0:HX H0 H1) (hw0:H0.wf) (hf:∀n u,lookT B n=some u→Fine u) :
  ByOpt 92 #[.pointer (some ⟨p,0,none⟩)] (lookT B) fun G=>HX H1 G :=
 ⟨fun n G _ hj hw=>zoe (hj.get hx0.wf gp) (hm.keep hj hx0.wf) (hx0.trans hj) hw0,fun G G' hj hx=>hj.trans hx,hf⟩
abbrev zero7:List Value:=.int .i64 0 :: zero6
theorem row7 {H:Heap}{p:Nat}{T:TypeId}{x0 x1 x2 x3 x4 x5 x6:Value}(h:H.get p=some (Blk.row [x0,x1,x2,x3,x4,x5,x6] T)) :
  H.load ⟨p,0,none⟩ 1=some [x0]∧H.load ⟨p,1,none⟩ 6=some [x1,x2,x3,x4,x5,x6]∧H.load ⟨p,0,none⟩ 7=some [x0,x1,x2,x3,x4,x5,x6]:=by
 refine⟨?_,?_,?_⟩<;>simp only[Heap.load,Heap.cells,h]<;>rfl
theorem zrp {B:List (Int × Tm)}{i:Nat}(h:i < B.length):B.take (i+1)=B.take i++[(B[i].1,B[i].2)]:=by rw[←ZA h]
set_option maxHeartbeats 16000000 in
theorem zt7 {t:Tm}{cs:List Value}{B:List (Int × Tm)}{a:Option Addr}{c:Nat}{H:Heap}(r0:RepT H t cs) (rb:RepB7 H B a c) (hw:H.wf) :
  EvF Tryz.prog okT 77 [.agg ⟨cs⟩,.slice a B.length c] H fun v H'=>HX H H' ∧
   ((PutOk t B∧∃out,v=.tuple ⟨[.agg ⟨out⟩,.int .i64 0]⟩∧RepS H' (Rg H.next H'.next) (subO (lookT B) t) out∧TopR H' 25 (Rg H.next H'.next) (subO (lookT B) t) out)∨(¬PutOk t B∧∃e:Int,v=.tuple ⟨[.agg ⟨zero6⟩,.int .i64 e]⟩∧e≠0)):=by
 have hmx:B.length≤9223372036854775807:=Zo rb.len rb.cap;obtain⟨at_,ct,cellst,rfl,-,-,-,-,-,rlt⟩:=r0.six;refine EvF.enter rfl Tryz.func77 (by decide) rfl ?_;(repeat refine EvC.seq ?_);refine EvC.reg ?_;simp (disch:=first|omega|rfl) only[sB,initTm,dBox,dAlloc,Value.cells,one,reduceCtorEq,zr25];obtain⟨A2,e2,hx2,gt,g4,hn2,hw2⟩:=new2 hw (.row (six t at_ ct) 25) (.row zero6 25);simp only[e2];clear e2;(repeat refine EvC.seq ?_);refine EvC.reg ?_;simp only[sA,dAlloc,zr25];obtain⟨A3,e3,hx3,g6,hn3,hw3⟩:=new1 hw2 (.row zero6 25);simp only[e3];clear e3;have gt:=hx3.get hw2 gt;have g4:=hx3.get hw2 g4;have hx:=hx2.trans hx3;rw[hn2] at g6 hn3;have qt:=row6 gt
 repeat' (first|refine EvC.seq ?_|(refine EvC.reg ?_;simp only[sB,Za,reduceCtorEq,ld25,cl29,qt]))
 refine(z2s t _ _ (r0.mono hx hw) hx.wf).mono ?_;rintro v A4 ⟨rfl,k4⟩;have gt:=k4.get hx.wf gt;have g4:=k4.get hx.wf g4;have g6:=k4.get hx.wf g6;have hx:=hx.trans k4;have n4:=k4.next;have q6:=row6 g6;have ne46:(H.next+1=H.next+2)=False:=by simp
 by_cases h0:checkS t=0;rotate_left
 ·rw[hn2] at *
  repeat' (first|refine EvC.seq ?_|(refine EvC.ret ?_;try simp only[z04,z02])|(refine EvC.reg ?_;simp (disch:=first|omega|rfl) only[sB,Za,Zb,one,reduceCtorEq,ld25,st25,z1j h0,q6,g4])|(refine EvC.condT ?_ ?_;simp only[sB,Za,reduceCtorEq];refine z07 ?_))
  refine z09 rfl (by simp only[sB,Za,reduceCtorEq];rfl) (by simp only[sB,Zb,cutC,ld25]) (by simp only[sG,Za,reduceCtorEq]) ⟨hx.pt (by omega) g4 _,.inr ⟨fun h=>h0 h.1,_,rfl,h0⟩⟩
 rw[hn2] at *
 repeat' (first|refine EvC.seq ?_|refine EvC.block ?_|(refine EvC.skip ?_;try simp only[z00])|(refine EvC.reg ?_;simp (disch:=first|omega|rfl) only[sB,dAlloc,Za,one,reduceCtorEq,ztp,ztq,zno,z0z h0,z66])|(refine EvC.condF ?_ ?_;simp only[sB,Za,reduceCtorEq];refine z07 ?_))
 obtain⟨A5,e5,k5,gr,n5,w5⟩:=new1 hx.wf (.map [] 0);obtain⟨A6,e6,k6,gp,n6,w6⟩:=z0l w5 (.row [.map none] 122) (.row [.map (some A4.next)] 122);rw[n5] at e6 gp;simp only[e5,e6];have gr:=k6.get w5 gr;have k56:=k5.trans k6;have gt:=k56.get hx.wf gt;have g4:=k56.get hx.wf g4;have g6:=k56.get hx.wf g6;have hr4:=hx.next;have hx:=hx.trans k56;clear e5 e6 k5 k6 k56;have hpr:A4.next+1≠A4.next:=by omega
 have hm0:MapT H A6 A4.next (B.take 0):=⟨[],⟨[],0,gr,rfl⟩,fun n=>⟨fun u hu=>by simp [lookT] at hu,fun _=>rfl⟩⟩
 have hr5:H.next+3≤A4.next:=by omega
 have hp5:H.next+3≤A4.next+1:=by omega
 generalize A4.next+1=p at *;generalize A4.next=r at *;clear n4 n5 n6 gr hr4 hn3 hn2 k4 qt q6 hx2 hx3 hw2 hw3 w5;refine EvC.loop (fun k st=>∃tm H' i,st=⟨tm,[],H'⟩∧k=B.length - i∧i≤B.length∧tm.get 2=some (.pointer (some ⟨H.next,0,none⟩))∧tm.get 4=some (.pointer (some ⟨H.next+1,0,none⟩))∧tm.get 6=some (.pointer (some ⟨H.next+2,0,none⟩))∧tm.get 8=some (.pointer (some ⟨p,0,none⟩)) ∧
  tm.get 22=some (.slice a B.length c)∧tm.get 23=some (.int .i64 B.length)∧tm.get 24=some (.int .i64 (i:Nat))∧H'.get H.next=some (.row (six t at_ ct) 25)∧H'.get (H.next+1)=some (.row zero6 25)∧H'.get (H.next+2)=some (.row zero6 25) ∧
  H'.get p=some (.row [.map (some r)] 122)∧MapT H H' r (B.take i)∧(∀(j:Nat) (hj:j < B.length),j < i→0≤B[j].1∧lookT (B.take j) B[j].1=none∧checkS B[j].2=0)∧HX H H') ?_ B.length _ ?_
 rotate_left
 ·exact⟨_,_,0,rfl,rfl,Zs _,(by simp only[sG,Za,reduceCtorEq]),(by simp only[sG,Za,reduceCtorEq]),(by simp only[sG,Za,reduceCtorEq]),(by simp only[sG,Za,reduceCtorEq]),(by simp only[sG,Za,reduceCtorEq]),(by simp only[sG,Za,reduceCtorEq]),(by simp only[sB,Za,reduceCtorEq];rfl),gt,g4,g6,gp,hm0,fun j hj h=>by omega,hx⟩
 clear gt g4 g6 gp hm0 hx w6;rintro k st ⟨tm,A,i,rfl,rfl,hi,t2,t4,t6,t8,t22,t23,t24,gt,g4,g6,gp,hm,hok,hx⟩;have hwA:=hx.wf;have q6:=row6 g6;have qt:=row6 gt;by_cases hlt:i < B.length
 ·obtain⟨b,o,a1,c1,rfl,hld,hrb⟩:=rb.el i hlt;have hld:=hx.load hw hld;(repeat refine EvC.seq ?_);refine EvC.reg ?_;simp only[sA,t23,t24,decl hlt];(repeat refine EvC.seq ?_);refine EvC.condT (by simp only[sB]) ?_;(try refine EvC.skip ?_);(try simp only[z00,z01]);refine EvC.seq ?_;refine EvC.block ?_;(repeat refine EvC.seq ?_);refine EvC.reg ?_;simp (disch:=first|omega|rfl) only[sB,dAlloc,Za,Zb,one,zqr,ztr,zts,ztt,t22,t24,hld];obtain⟨A1,e1,k1,g10,n1,w1⟩:=z0l hwA (.row zero7 109) (.row (seven B[i].1 B[i].2 a1 c1) 109);simp only[e1];clear e1;have q10:=row7 g10;have lp:=row1 (k1.get hwA gp);obtain⟨M,hM,hMn⟩:=hm.keep k1 hwA;have gt1:=k1.get hwA gt;have g41:=k1.get hwA g4;have g61:=k1.get hwA g6;have gp1:=k1.get hwA gp;rcases zcg (lookT (B.take i) B[i].1) with ⟨u,hl⟩|hl
  ·skip
   obtain⟨csu,hg,hru⟩:=(hMn B[i].1).1 u hl;obtain⟨a2,c2,cells2,rfl,-⟩:=hru.six;(repeat refine EvC.seq ?_);refine EvC.reg ?_;simp (disch:=first|omega|rfl) only[sB,dAlloc,Za,Zb,one,zr25,st25,zfu,z63,ld3,t8,lp,q10,z1y,z6x zg3 hM hg];obtain⟨A3,e3,k3,g3,n3,w3⟩:=z0l w1 (.row zero6 25) (.row (six u a2 c2) 25);simp only[e3];clear e3;have g43:=k3.get w1 g41;have q63:=row6 (k3.get w1 g61)
   repeat' (first|refine EvC.seq ?_|(refine EvC.ret ?_;try simp only[z04,z02])|(refine EvC.reg ?_;simp (disch:=first|omega|rfl) only[sB,Za,Zb,one,ld25,st25,t4,t6,q63,g43])|(refine EvC.condT ?_ ?_;simp only[sB,Za];refine z07 ?_))
   refine z09 rfl (by simp only[sB,Za,t4];rfl) (by simp only[sB,Zb,cutC,ld25]) (by simp only[sB,Za];rfl) ⟨((hx.trans k1).trans k3).pt (by omega) g43 _,.inr ⟨fun h=>?_,_,rfl,by decide⟩⟩;have:=(h.2.1 i hlt).2.1;rw[hl] at this;cases this
  ·skip
   have hg:=(hMn B[i].1).2 hl;(repeat refine EvC.seq ?_);refine EvC.reg ?_;simp (disch:=first|omega|rfl) only[sB,dAlloc,Za,Zb,one,zr25,st25,zfu,z63,ld3,t8,lp,q10,z1y,z6y zg3 hM hg];obtain⟨A3,e3,k3,g3,n3,w3⟩:=z0l w1 (.row zero6 25) (.row zero6 25);simp only[e3];clear e3;have g103:=k3.get w1 g10;have q103:=row7 g103;have g43:=k3.get w1 g41;have g63:=k3.get w1 g61;have q63:=row6 g63;have hx3:=(hx.trans k1).trans k3;by_cases hneg:B[i].1 < 0
   ·repeat' (first|refine EvC.seq ?_|(refine EvC.ret ?_;try simp only[z04,z02])|(refine EvC.reg ?_;simp (disch:=first|omega|rfl) only[sB,Za,Zb,one,ld25,st25,z63,ld3,t4,t6,q103,decide_eq_true hneg,q63,g43,Zd])|(refine EvC.condT ?_ ?_;simp only[sB,Za];refine z07 ?_))
    refine z09 rfl (by simp only[sB,Za,t4];rfl) (by simp only[sB,Zb,cutC,ld25]) (by simp only[sB,Za];rfl) ⟨hx3.pt (by omega) g43 _,.inr ⟨fun h=>?_,_,rfl,by decide⟩⟩;have:=(h.2.1 i hlt).1;omega
   repeat' (first|refine EvC.seq ?_|(refine EvC.skip ?_;try simp only[z00])|(refine EvC.reg ?_;simp only[sB,Za,ld25,cl29,z63,ld3,zfv,q103,decide_eq_false hneg,Zd])|(refine EvC.condF ?_ ?_;simp only[sB,Za];refine z07 ?_))
   refine(z2s _ _ _ (hrb.mono hx3 hw) hx3.wf).mono ?_;rintro v A5 ⟨rfl,k5⟩;have g105:=k5.get hx3.wf g103;have q105:=row7 g105;have g45:=k5.get hx3.wf g43;have g65:=k5.get hx3.wf g63;have q65:=row6 g65;have hx5:=hx3.trans k5;have k15:=(k1.trans k3).trans k5;by_cases hc:checkS B[i].2=0;rotate_left
   ·repeat' (first|refine EvC.seq ?_|(refine EvC.ret ?_;try simp only[z04,z02])|(refine EvC.reg ?_;simp (disch:=first|omega|rfl) only[sB,Za,Zb,one,ld25,st25,t4,t6,z1j hc,q65,g45])|(refine EvC.condT ?_ ?_;simp only[sB,Za];refine z07 ?_))
    refine z09 rfl (by simp only[sB,Za,t4];rfl) (by simp only[sB,Zb,cutC,ld25]) (by simp only[sG,Za]) ⟨hx5.pt (by omega) g45 _,.inr ⟨fun h=>hc (h.2.1 i hlt).2.2,_,rfl,hc⟩⟩
   have gp5:=k15.get hwA gp;have lp5:=row1 gp5;obtain⟨K,hup,hm6⟩:=(hm.keep k15 hwA).push zg3 hl hrb;have hrl:=hm.lt hwA;have hrl5:r < A5.next:=Zh hrl k15.next
   repeat' (first|refine EvC.seq ?_|(refine EvC.skip ?_;try simp only[z00])|(refine EvC.reg ?_;simp (disch:=first|omega|rfl) only[sB,Za,ld25,zfu,z63,ld3,zfv,t8,t24,z0z hc,lp5,q105,z4i,hup,z0b])|(refine EvC.condF ?_ ?_;simp only[sB,Za];refine z07 ?_))
   have gt5:=k15.get hwA gt;exact⟨B.length - (i+1),by omega,_,_,i+1,rfl,rfl,by omega,(by simp only[sG,Za,t2]),(by simp only[sG,Za,t4]),(by simp only[sG,Za,t6]),(by simp only[sG,Za,t8]),(by simp only[sG,Za,t22]),(by simp only[sG,Za,t23]),(by simp only[sB,Za];rfl),by rw[get_put,if_neg (by omega)];exact gt5,by rw[get_put,if_neg (by omega)];exact g45,by rw[get_put,if_neg (by omega)];exact g65,
    by rw[get_put,if_neg hpr];exact gp5,by rw[zrp hlt];exact hm6,fun j hj hji=>by
     by_cases e:j=i
     ·subst e;exact⟨by omega,hl,hc⟩
     ·exact hok j hj (by omega),hx5.put (by omega) hrl5 _⟩
 ·obtain rfl:i=B.length:=by omega
  rw[List.take_length] at hm;have hfine:∀n u,lookT B n=some u→Fine u:=fun n u hu=>by
   obtain⟨j,hj,e⟩:=List.getElem_of_mem (zls hu);have:=(hok j hj hj).2.2;rw[e] at this;exact(z0e.1 this).2
  have hft:=(z0e.1 h0)
  repeat' (first|refine EvC.seq ?_|(refine EvC.exit ?_;try simp only[sB])|(refine EvC.reg ?_;simp only[sB,dAlloc,Za,ld25,cl35,zr3,t2,t23,t24,decn hlt,qt])|(refine EvC.condF ?_ ?_;simp only[sB];refine z07 ?_))
  refine(z1h t _ _ (r0.mono hx hw) hx.wf).mono ?_;rintro v A1 ⟨rfl,k1⟩;have gt1:=k1.get hwA gt;have g41:=k1.get hwA g4;have g61:=k1.get hwA g6;have gp1:=k1.get hwA gp;have hm1:=hm.keep k1 hwA;have hx1:=hx.trans k1;try simp (disch:=first|omega|rfl) only[sB,one,st3]
  obtain⟨A2,e2,k2,gq,n2,w2⟩:=z0l hx1.wf (.row [.int .i64 0] 3) (.row [.int .i64 ((cnt t 0:Nat):Int)] 3);simp only[e2];clear e2;have qt2:=row6 (k2.get hx1.wf gt1);(repeat refine EvC.seq ?_);refine EvC.reg ?_;simp only[sB,Za,ld25,cl83,t2,t8,qt2,List.map_toArray];have E:=zro (tot:=occ t) (m:=cnt t 0) gp1 hm1 hx1 hw (Zg _) (by omega);refine(zlp hx1.wf (by kernel_rfl) E _ (Zf _) (r0.mono hx1 hw) (S:=fun n=>n=A1.next) (pre:=[]) ⟨k2,fun n=>Iff.rfl,gq⟩ (by rw[List.nil_append];exact List.prefix_refl _)).mono ?_;rintro v A3 ⟨S3,⟨k3,hS3,gq3⟩,-,-⟩;rw[List.nil_append] at gq3;have gt3:=k3.get hx1.wf gt1;have g43:=k3.get hx1.wf g41;have g63:=k3.get hx1.wf g61;have q63:=row6 g63;have qt3:=row6 gt3;have lq3:=row1 gq3;have hx3:=hx1.trans k3;by_cases h4:4000 < allS (lookT B) (cnt t 0) (occ t)
  ·have hd:decide (((allS (lookT B) (cnt t 0) (occ t):Nat):Int) > 4000)=true:=decide_eq_true (by omega)
   repeat' (first|refine EvC.seq ?_|(refine EvC.ret ?_;try simp only[z04,z02])|(refine EvC.reg ?_;simp (disch:=first|omega|rfl) only[sB,Za,Zb,one,ld25,st25,ld3,t4,t6,lq3,hd,q63,g43])|(refine EvC.condT ?_ ?_;simp only[sB,Za];refine z07 ?_))
   refine z09 rfl (by simp only[sB,Za,t4];rfl) (by simp only[sB,Zb,cutC,ld25]) (by simp only[sB,Za];rfl) ⟨hx3.pt (by omega) g43 _,.inr ⟨fun h=>?_,_,rfl,by decide⟩⟩;have:=h.2.2;omega
  ·have hd:decide (((allS (lookT B) (cnt t 0) (occ t):Nat):Int) > 4000)=false:=decide_eq_false (by omega)
   repeat' (first|refine EvC.seq ?_|(refine EvC.skip ?_;try simp only[z00])|(refine EvC.reg ?_;simp only[sB,Za,ld25,ld3,cl68,t2,t8,lq3,hd,qt3,List.map_toArray])|(refine EvC.condF ?_ ?_;simp only[sB,Za];refine z07 ?_))
   refine(zje (by kernel_rfl) (zt6 gp1 hm1 hx1 hw hfine) (Zf _) (r0.mono hx3 hw) hft.2 k3 hx3.wf).mono ?_;rintro v A5 ⟨out,rfl,hrep,htop,k5⟩;have g45:=k5.get hx3.wf g43;obtain⟨a5,c5,cells5,rfl,-⟩:=hrep.rep.six
   repeat' (first|(refine EvC.ret ?_)|(refine z0i ?_;simp (disch:=first|omega|rfl) only[sB,Zb,one,st25,t4,g45]))
   refine z09 rfl (by simp only[sB,Za,t4];rfl) (by simp only[sB,Zb,cutC,ld25];rfl) (by simp only[sG,Za]) ⟨(hx3.trans k5).pt (by omega) g45 _,.inl ⟨⟨h0,fun j hj=>hok j hj hj,by omega⟩,_,rfl,?_,?_⟩⟩
   ·have n3:=hx3.next;have l4:=hx3.wf _ _ g43;refine hrep.to fun n hn hl=>?_
    have:=hn.1;exact⟨by rw[get_put,if_neg (by omega)],⟨by omega,hl⟩,hl⟩
   ·have n3:=hx3.next;have l4:=hx3.wf _ _ g43;refine htop.heap fun n hn hl=>?_
    have:=hn.1;exact⟨by rw[get_put,if_neg (by omega)],⟨by omega,hl⟩,hl⟩
end Go.Proofs.hq
end

section
namespace Go.Hb
open Go Go.RowKit
section
variable (P:Program) (ok:Ok)
def EvP (f:FuncId) (args:List Value) (H:Heap) (K:List PanicEntry→Heap→Prop):Prop:=Upon (fun n=>dcall P ok n f args H) fun p=>∃ch,p.1=.panic ch∧K ch p.2
def EvM (fn:Func) (tm:Tr Value) (ds:List Deferred) (m:Option (List PanicEntry)) (H:Heap) (K:Value→Heap→Prop):Prop:=Upon (fun n=>dleave P ok n fn tm ds m H) fun p=>∃v,p.1=.ret v∧K v p.2
def EvSq (x:Ctx) (cs:List Code) (st:St) (Q:Ex→St→Prop):Prop:=Upon (fun n=>dseq P ok n x cs st) fun p=>Q p.1 p.2
end
def Ex.leaveP (K:List PanicEntry→Heap→Prop):Ex→St→Prop
 |.panic ch,st=>st.ds=[]∧K ch st.H
 |_,_=>False
def Ex.leaveM (P:Program) (ok:Ok) (fn:Func) (K:Value→Heap→Prop):Ex→St→Prop
 |.normal,st|.ret,st=>EvM P ok fn st.tm st.ds none st.H K
 |.panic ch,st=>EvM P ok fn st.tm st.ds (some ch) st.H K
 |_,_=>False
section
variable {P:Program}{ok:Ok}{x:Ctx}{ops:Array Oper}
theorem EvP.mono {f:FuncId}{args:List Value}{H:Heap}{K L:List PanicEntry→Heap→Prop}(h:EvP P ok f args H K) (k:∀v H',K v H'→L v H'):EvP P ok f args H L :=
 Upon.mono h fun _ ⟨v,e,hq⟩=>⟨v,e,k _ _ hq⟩
theorem EvP.enter {f:FuncId}{fn:Func}{c:Code}{args:List Value}{H:Heap}{K:List PanicEntry→Heap→Prop}(hK:ok.K f args H=none) (hf:P.funcs[f]?=some fn) (hm:ok.testBit f=true) (hb:fn.body=some c)
  (h:EvC P ok ⟨f,none⟩ c ⟨initTm 0 args .nil,[],H⟩ (Ex.leaveP K)):EvP P ok f args H K:=by
 refine Upon.step (fun n (r:Ex × St)=>match r with|(.normal,st)|(.ret,st)=>dleave P ok n fn st.tm st.ds none st.H|(.panic ch,st)=>dleave P ok n fn st.tm st.ds (some ch) st.H|_=>none) (fun n r hr=>?_) h ?_
 ·rw[dcall,hK];simp only[hf,hm,hb,hr];obtain⟨e,s⟩:=r;cases e<;>rfl
 ·rintro ⟨e,s⟩ hq;cases e with
  |panic ch =>
   obtain⟨h1,h2⟩:=hq;exact Upon.now (r:=(.panic ch,s.H)) (fun n=>by show dleave P ok (n+1) fn s.tm s.ds (some ch) s.H=_;rw[h1,dleave]) ⟨ch,rfl,h2⟩
  |_=>exact hq.elim
theorem EvF.enterM {f:FuncId}{fn:Func}{c:Code}{args:List Value}{H:Heap}{K:Value→Heap→Prop}(hK:ok.K f args H=none) (hf:P.funcs[f]?=some fn) (hm:ok.testBit f=true) (hb:fn.body=some c)
  (h:EvC P ok ⟨f,none⟩ c ⟨initTm 0 args .nil,[],H⟩ (Ex.leaveM P ok fn K)):EvF P ok f args H K:=by
 refine Upon.step (fun n (r:Ex × St)=>match r with|(.normal,st)|(.ret,st)=>dleave P ok n fn st.tm st.ds none st.H|(.panic ch,st)=>dleave P ok n fn st.tm st.ds (some ch) st.H|_=>none) (fun n r hr=>?_) h ?_
 ·rw[dcall,hK];simp only[hf,hm,hb,hr];obtain⟨e,s⟩:=r;cases e<;>rfl
 ·rintro ⟨e,s⟩ hq;cases e with
  |exit _=>exact hq.elim
  |_=>exact hq
def EvG (P:Program) (ok:Ok) (f:FuncId) (args:List Value) (H:Heap) (K:En→Heap→Prop):Prop:=Upon (fun n=>dcall P ok n f args H) fun p=>K p.1 p.2
def Ex.leaveG (P:Program) (ok:Ok) (fn:Func) (K:En→Heap→Prop):Ex→St→Prop
 |.normal,st|.ret,st=>EvV P ok fn st.tm st.ds st.H fun v H=>K (.ret v) H
 |.panic ch,st=>st.ds=[]∧K (.panic ch) st.H
 |_,_=>False
theorem EvG.mono {f:FuncId}{args:List Value}{H:Heap}{K L:En→Heap→Prop}(h:EvG P ok f args H K) (k:∀v H',K v H'→L v H'):EvG P ok f args H L:=Upon.mono h fun _ hq=>k _ _ hq
theorem EvG.toF {f:FuncId}{args:List Value}{H:Heap}{K:En→Heap→Prop}{L:Value→Heap→Prop}(h:EvG P ok f args H K) (k:∀e H',K e H'→∃v,e=.ret v∧L v H'):EvF P ok f args H L:=Upon.mono h fun _ hq=>k _ _ hq
theorem EvG.toP {f:FuncId}{args:List Value}{H:Heap}{K:En→Heap→Prop}{L:List PanicEntry→Heap→Prop}(h:EvG P ok f args H K) (k:∀e H',K e H'→∃ch,e=.panic ch∧L ch H'):EvP P ok f args H L:=Upon.mono h fun _ hq=>k _ _ hq
theorem z17 {fn:Func}{K:En→Heap→Prop}{st:St}(h:Ex.leave P ok fn (fun v H=>K (.ret v) H) .ret st):Ex.leaveG P ok fn K .ret st:=h
theorem EvG.enter {f:FuncId}{fn:Func}{c:Code}{args:List Value}{H:Heap}{K:En→Heap→Prop}(hK:ok.K f args H=none) (hf:P.funcs[f]?=some fn) (hm:ok.testBit f=true) (hb:fn.body=some c)
  (h:EvC P ok ⟨f,none⟩ c ⟨initTm 0 args .nil,[],H⟩ (Ex.leaveG P ok fn K)):EvG P ok f args H K:=by
 refine Upon.step (fun n (r:Ex × St)=>match r with|(.normal,st)|(.ret,st)=>dleave P ok n fn st.tm st.ds none st.H|(.panic ch,st)=>dleave P ok n fn st.tm st.ds (some ch) st.H|_=>none) (fun n r hr=>?_) h ?_
 ·rw[dcall,hK];simp only[hf,hm,hb,hr];obtain⟨e,s⟩:=r;cases e<;>rfl
 ·have key:∀{s:St},EvV P ok fn s.tm s.ds s.H (fun v H=>K (.ret v) H)→Upon (fun n=>dleave P ok n fn s.tm s.ds none s.H) fun p=>K p.1 p.2:=fun h=>Upon.mono h fun r ⟨v,e,hq⟩=>by rw[e];exact hq
  rintro ⟨e,s⟩ hq;cases e with
  |normal=>exact key hq
  |ret=>exact key hq
  |panic ch =>
   obtain⟨h1,h2⟩:=hq;exact Upon.now (r:=(.panic ch,s.H)) (fun n=>by show dleave P ok (n+1) fn s.tm s.ds (some ch) s.H=_;rw[h1,dleave]) h2
  |exit _=>exact hq.elim
theorem EvM.now {fn:Func}{tm:Tr Value}{H:Heap}{v:Value}{K:Value→Heap→Prop}(hr:dres P fn tm H=some v) (h:K v H):EvM P ok fn tm [] none H K :=
 Upon.now (r:=(.ret v,H)) (fun n=>by rw[dleave,hr]) ⟨v,rfl,h⟩
theorem EvSq.nil {st:St}{Q:Ex→St→Prop}(h:Q .normal st):EvSq P ok x [] st Q:=Upon.now (fun n=>by rw[dseq]) h
theorem EvSq.cons {c:Code}{cs:List Code}{st:St}{Q:Ex→St→Prop}(h:EvC P ok x c st (Ex.thenC (fun st1=>EvSq P ok x cs st1 Q) Q)):EvSq P ok x (c :: cs) st Q:=by
 refine Upon.step (fun n (r:Ex × St)=>match r with|(.normal,st1)=>dseq P ok n x cs st1|r=>some r) (fun n r hr=>?_) h ?_
 ·rw[dseq,hr];obtain⟨e,s⟩:=r;cases e<;>rfl
 ·rintro ⟨e,s⟩ hq;cases e with
  |normal=>exact hq
  |_=>exact⟨0,_,fun n _=>rfl,hq⟩
def EPl (P:Program):List Oper→Tr Value→Heap→(Tr Value→Heap→Prop)→Prop
 |[],tm,H,K=>K tm H
 |o :: os,tm,H,K=>o.guard=none∧∃v H',dop P o (ev tm) H=some (.val v H')∧EPl P os (putD tm o.dst v) H' K
theorem zem {K:Tr Value→Heap→Prop}:∀(l:List Nat) (os:List Oper) (tm:Tr Value) (H:Heap),l.map (fun i=>ops[i]?)=os.map some→EPl P os tm H K→∃tm1 H1,dplain P ops l tm H=some (tm1,H1)∧K tm1 H1
 |[],[],tm,H,_,h=>⟨tm,H,by rw[dplain],h⟩
 |[],_ :: _,_,_,h,_=>by simp at h
 |_ :: _,[],_,_,h,_=>by simp at h
 |i :: l,o :: os,tm,H,hl,h=>by
  simp only[ZC,List.cons.injEq] at hl;obtain⟨hg,v,H',hd,h⟩:=h;obtain⟨tm1,H1,e,hk⟩:=zem l os _ _ hl.2 h;refine⟨tm1,H1,?_,hk⟩;rw[dplain,hl.1];simp only[hg,hd];rw[←e];cases o.dst<;>rfl
theorem zjh {o:Oper}{os:List Oper}(h:ops.toList=o :: os):((Zj ops.size).drop 1).map (fun i=>ops[i]?)=os.map some:=by
 have:=z5z ops;rw[h] at this;rw[←List.map_drop.symm] at *;rw[this];rfl
theorem EvM.recov {fn gn:Func}{tm:Tr Value}{ds:List Deferred}{m:Option (List PanicEntry)}{H:Heap}{K:Value→Heap→Prop}{g:FuncId}{captured args:Array Value}{c:Code}{rest:List Code}{o:Oper}{os:List Oper}
  (hg:P.funcs[g]?=some gn) (hm:ok.testBit g=true) (hc:callable P g=true) (hb:gn.body=some c) (hh:headRegion c=some (ops,rest)) (ho:ops.toList=o :: os) (hr:isRecover o=true) (hn:gn.results.isEmpty=true)
  (h:EPl P os (putD (initTm 0 (args.toList++captured.toList) .nil) o.dst (drecov m).1) H fun tm1 H1 =>
   EvSq P ok ⟨g,none⟩ rest ⟨tm1,[],H1⟩ fun e st=>(e=.normal∨e=.ret)∧st.ds=[]∧EvM P ok fn tm ds (dsettle (drecov m).2) st.H K) :
  EvM P ok fn tm (⟨.fn (.func g) captured,args⟩ :: ds) m H K:=by
 have hd1:(dcall1 P g []).isSome=true:=by
  unfold callable at hc;rw[hg] at hc;unfold dcall1;rw[hg];simp only at hc ⊢;rw[if_pos hc];rfl
 have ho0:ops[0]?=some o:=by
  have:ops.toList[0]?=some o:=by rw[ho];rfl
  simpa using this
 obtain⟨tm1,H1,hpl,hsq⟩:=zem _ _ _ _ (zjh ho) h;have hst0:(St.put ⟨initTm 0 (args.toList++captured.toList) .nil,[],H⟩ o.dst (drecov m).1 H).tm=putD (initTm 0 (args.toList++captured.toList) .nil) o.dst (drecov m).1:=by cases o.dst<;>rfl
 refine Upon.step (fun n (r:Ex × St)=>match r with|(.normal,st2)|(.ret,st2)=>if st2.ds.isEmpty && gn.results.isEmpty then dleave P ok n fn tm ds (dsettle (drecov m).2) st2.H else none|_=>none) (fun n r hr2=>?_) hsq ?_
 ·rw[dleave];simp only[hg,hm,hd1,Bool.and_self,hb,hh,ho0,hr,if_true,hst0,hpl,hr2];obtain⟨e,s⟩:=r;cases e<;>rfl
 ·rintro ⟨e,s⟩ ⟨he,hds,hq⟩;simp only at he hds hq;rcases he with rfl|rfl
  ·simp only[hds,hn,List.isEmpty_nil,Bool.and_self,if_true];exact hq
  ·simp only[hds,hn,List.isEmpty_nil,Bool.and_self,if_true];exact hq
theorem EvO.of_pre {K:St→Prop}{l2:List Nat}{Q:Ex→St→Prop}(hQ:∀st,K st→EvO P ok x ops l2 st Q):∀(l:List Nat) (os:List Oper) (st:St),l.map (fun i=>ops[i]?)=os.map some→EvL P ok x ops os st K→EvO P ok x ops (l++l2) st Q
 |[],[],st,_,h=>hQ _ h
 |[],_ :: _,_,h,_=>by simp at h
 |_ :: _,[],_,h,_=>by simp at h
 |i :: l,o :: os,st,hl,h=>by
  simp only[ZC,List.cons.injEq] at hl;rcases h with ⟨hw,h⟩|⟨hw,h⟩
  ·refine Upon.go (fun n=>?_) (EvO.of_pre hQ l os _ hl.2 h);rw[ZK,dops,hl.1];simp only[hw];cases o.dst<;>rfl
  ·refine Upon.step (fun n r=>match r with|.val v ds H=>dops P ok n x ops (l++l2) (St.put ⟨st.tm,ds,st.H⟩ o.dst v H)|.panic ch H=>some (.panic ch,⟨st.tm,st.ds,H⟩)) (fun n r hr=>?_) h ?_
   ·rw[ZK,dops,hl.1];simp only[hw,hr];cases r<;>rfl
   ·rintro r ⟨v,ds,H,rfl,hr⟩;have:=EvO.of_pre hQ l os _ hl.2 hr;refine this.imp fun N=>?_
    rintro ⟨r,h1,h2⟩;refine⟨r,fun n hn=>?_,h2⟩;rw[←h1 n hn];cases o.dst<;>rfl
def PL (P:Program) (ok:Ok) (tm:Tr Value) (ds:List Deferred) (H:Heap) (Q:Ex→St→Prop):Option Dr→Prop
 |some (.call f args)=>EvP P ok f args H fun ch H2=>Q (.panic ch) ⟨tm,ds,H2⟩
 |some (.panic v)=>Q (.panic [{ v,recovered:=false }]) ⟨tm,ds,H⟩
 |_=>False
theorem z7o {tm:Tr Value}{ds:List Deferred}{H:Heap}{Q:Ex→St→Prop}{f:FuncId}{args:List Value}:PL P ok tm ds H Q (some (.call f args))=EvP P ok f args H fun ch H2=>Q (.panic ch) ⟨tm,ds,H2⟩:=_root_.id rfl
theorem zhy {tm:Tr Value}{ds:List Deferred}{H:Heap}{Q:Ex→St→Prop}{v:Value}:PL P ok tm ds H Q (some (.panic v))=Q (.panic [{ v,recovered:=false }]) ⟨tm,ds,H⟩:=_root_.id rfl
theorem zm2 {tm:Tr Value}{ds:List Deferred}{H:Heap}{Q:Ex→St→Prop}{o:Oper}{ρ:Operand→Value}(h:PL P ok tm ds H Q (dop P o ρ H)) :
  Upon (fun n=>dop1 P ok n x o ρ ds H) fun r=>∃ch H2,r=.panic ch H2∧Q (.panic ch) ⟨tm,ds,H2⟩:=by
 unfold PL at h;split at h
 ·rename_i f args hd;refine Upon.step (fun n (r:En × Heap)=>match r with|(.ret v,H')=>some (.val v ds H')|(.panic ch,H')=>some (.panic ch H')) (fun n r hr=>?_) h ?_
  ·rw[dop1,hd];simp only[hr];obtain⟨e,H'⟩:=r;cases e<;>rfl
  ·rintro ⟨e,H'⟩ ⟨ch,rfl,hv⟩;exact⟨0,_,fun n _=>rfl,ch,H',rfl,hv⟩
 ·rename_i v hd;exact Upon.now (r:=.panic [{ v,recovered:=false }] H) (fun n=>by rw[dop1,hd]) ⟨_,_,rfl,h⟩
 ·exact h.elim
theorem EvC.regP {id:Nat}{tm:Tr Value}{ds:List Deferred}{H:Heap}{Q:Ex→St→Prop}(k:Nat) (o:Oper) (ho:ops.toList[k]?=some o) (hg:o.guard=none)
  (h:EL P ok x ops (ops.toList.take k) tm ds H fun tm ds H=>PL P ok tm ds H Q (dop P o (ev tm) H)):EvC P ok x (.region id ops false) ⟨tm,ds,H⟩ Q:=by
 refine Upon.go (fun n=>by rw[dcode]) ?_;have hk:k < ops.size:=by
  by_cases h:k < ops.size
  ·exact h
  ·rw[Zy (by simp;omega)] at ho;cases ho
 have ho':ops[k]?=some o:=by simpa using ho
 have hr:Zj ops.size=Zj k++(Zj ops.size).drop k:=by
  have:=List.take_append_drop k (Zj ops.size);rw[List.take_range,Nat.min_eq_left (by omega)] at this;exact this.symm
 have hd:(Zj ops.size).drop k=k :: (Zj ops.size).drop (k+1):=by
  rw[ZB (by simpa using hk)];simp
 show EvO P ok x ops (Zj ops.size) ⟨tm,ds,H⟩ Q;rw[hr,hd];refine EvO.of_pre (K:=fun st=>PL P ok st.tm st.ds st.H Q (dop P o (ev st.tm) st.H)) ?_ _ _ _ ?_ (EvL.of_EL (K:=fun tm ds H=>PL P ok tm ds H Q (dop P o (ev tm) H)) _ _ _ _ h)
 ·rintro ⟨tm,ds,H⟩ hp;simp only at hp;obtain⟨N,r,h1,ch,H2,rfl,hq⟩:=zm2 (x:=x) hp;refine⟨N+1,(.panic ch,⟨tm,ds,H2⟩),fun n hn=>?_,hq⟩;obtain⟨m,rfl⟩:∃m,n=m+1:=⟨n - 1,by omega⟩
  show dops P ok (m+1) x ops (k :: (Zj ops.size).drop (k+1)) ⟨tm,ds,H⟩=_;rw[dops,ho'];simp only[z2q hg,h1 m (by omega)]
 ·have:=z5z ops;have h2:=congrArg (List.take k) this;rw[←List.map_take,←List.map_take,List.take_range,Nat.min_eq_left (by omega)] at h2;exact h2
def PC (P:Program) (ok:Ok) (x:Ctx) (ops:Array Oper) (base:Nat) (S:List (List (Nat × Nat) × Option Nat)) (G:Heap) (d:Option Tmp) (tm1:Tr Value) (ds:List Deferred) (H1:Heap) (K:List PanicEntry→Heap→Prop):Option Dr→Prop
 |some (.call f args)=>EvP P ok f args H1 K∧ES P ok x ops base S H1 [G] (putD tm1 d (dmight P f)) ds fun _ _ _=>True
 |_=>False
theorem zm3 {base:Nat}{S:List (List (Nat × Nat) × Option Nat)}{G:Heap}{d:Option Tmp}{tm1:Tr Value}{ds:List Deferred}{H1:Heap}{K:List PanicEntry→Heap→Prop}{f:FuncId}{args:List Value} :
  PC P ok x ops base S G d tm1 ds H1 K (some (.call f args))=(EvP P ok f args H1 K∧ES P ok x ops base S H1 [G] (putD tm1 d (dmight P f)) ds fun _ _ _=>True):=_root_.id rfl
theorem zrq {call:FuncId→List Value→Heap→Option (En × Heap)}{draw:List Nat→Nat→List Heap→Tr Value→Option St}{b:Array Nat}{effs:List Nat}{base:Nat}{G:Heap}{tm:Tr Value}{ch:List PanicEntry}{H1 H2:Heap}
  {e:Nat}{es:List Nat}{tm1:Tr Value}{o:Oper}{f:FuncId}{args:List Value}{st1:St}(he:effs=e :: es) (hdn:dnon P ops b effs base [G] (pending (Zj ops.size) effs (b.getD e 0) 0) tm G=some (tm1,H1)) (ho:ops[e]?=some o)
  (hw:dwanted ops tm1 o=some true) (hd:dop P o (ev tm1) H1=some (.call f args)) (hm:es.all (mild ops)=true) (hc:call f args H1=some (.panic ch,H2)) (hr:draw es (0 ||| b.getD e 0 ||| 2 ^ e) [H1,G] (putD tm1 o.dst (dmight P f))=some st1) :
  dpan P call draw ops b effs base G tm=some (ch,H2):=by
 subst he;unfold dpan;simp only[hdn,ho,hw,hd,hm,hc];cases hdst:o.dst with
 |none =>
  have hr2:draw es (0 ||| b.getD e 0 ||| 2 ^ e) [H1,G] tm1=some st1:=by rw[hdst] at hr;exact hr
  simp only[hr2]
 |some d =>
  have hr2:draw es (0 ||| b.getD e 0 ||| 2 ^ e) [H1,G] (tm1.put d (some (dmight P f)))=some st1:=by rw[hdst] at hr;exact hr
  simp only[hr2]
theorem EvC.drwP {id:Nat}{tm:Tr Value}{ds:List Deferred}{H:Heap}{Q:Ex→St→Prop}(e:Nat) (o:Oper) (L0:List (Nat × Nat)) (S:List (List (Nat × Nat) × Option Nat)) (hS:sched ops=(L0,some e) :: S)
  (hm:((effsOf ops).drop 1).all (mild ops)=true) (ho:ops.toList[e]?=some o) (hg:o.guard=none)
  (h:ES P ok x ops H.next [(L0,none)] ⟨H.next+ops.size,H.t⟩ [] tm ds fun tm1 ds1 H1=>PC P ok x ops H.next S ⟨H.next+ops.size,H.t⟩ o.dst tm1 ds1 H1 (fun ch H2=>Q (.panic ch) ⟨clr ops tm,ds,H2⟩) (dop P o (ev tm1) H1)) :
  EvC P ok x (.region id ops true) ⟨tm,ds,H⟩ Q:=by
 unfold sched at hS;split at hS
 ·cases hS
 rename_i hnt;rw[Bool.not_eq_false] at hnt;have hes:∃es,effsOf ops=e :: es:=by
  cases he:effsOf ops with
  |nil=>rw[he] at hS;simp [schedGo] at hS
  |cons e' es=>rw[he] at hS;simp only[schedGo,ZC,List.cons.injEq,Prod.mk.injEq,Option.some.injEq] at hS;exact⟨es,by rw[hS.1.2]⟩
 obtain⟨es,hes⟩:=hes;rw[hes] at hnt hm;unfold noTwin at hnt;rw[Zm,Option.isNone_iff_eq_none] at hnt;have hS2:=hS;rw[show schedGo ops.size (Region.before ops) (effsOf ops) (effsOf ops) 0=schedGo ops.size (Region.before ops) (effsOf ops) (e :: es) 0 by rw[hes]] at hS2;simp only[schedGo,ZC,List.cons.injEq,Prod.mk.injEq] at hS2;obtain⟨⟨hL,_⟩,hS'⟩:=hS2;have ho':ops[e]?=some o:=by simpa using ho
 have h1:EvN P ops H.next [⟨H.next+ops.size,H.t⟩] L0 tm ⟨H.next+ops.size,H.t⟩ fun tm1 H1=>PC P ok x ops H.next S ⟨H.next+ops.size,H.t⟩ o.dst tm1 ds H1 (fun ch H2=>Q (.panic ch) ⟨clr ops tm,ds,H2⟩) (dop P o (ev tm1) H1):=EvN.of_EN _ _ _ h
 rw[←hL] at h1;obtain⟨tm1,H1,en,hk⟩:=z7h _ _ _ h1;unfold PC at hk;split at hk
 case h_2=>exact hk.elim
 rename_i f args hd;obtain⟨hp,hst⟩:=hk;have hst2:=z8c (b:=Region.before ops) (effs:=effsOf ops) es (0 ||| (Region.before ops).getD e 0 ||| 2 ^ e) _ _ _ hnt.2 (by rw[hS'];exact EvS.of_ES (K:=fun _ _ _=>True) _ _ _ _ _ hst);obtain⟨N1,r1,k1,_⟩:=hst2;obtain⟨N2,r2,k2,ch,k3,k4⟩:=hp;obtain⟨en2,H2⟩:=r2;simp only at k3 k4;subst k3;refine⟨max N1 N2+4,(.panic ch,⟨clr ops tm,ds,H2⟩),fun n hn=>?_,k4⟩;obtain⟨m,rfl⟩:∃m,n=m+4:=⟨n - 4,by omega⟩
 have hdr:ddraw P ok (m+3) x ops (Region.before ops) (effsOf ops) H.next (effsOf ops) 0 [⟨H.next+ops.size,H.t⟩] tm ds=none:=by
  rw[hes,ddraw,hnt.1];simp only;rw[dstage];rw[hes] at en;simp only[en,ho',z2q hg];rw[dop1,hd];simp only[k2 m (by omega)]
 have hpan:dpan P (dcall P ok (m+3)) (fun es done hs tm=>ddraw P ok (m+3) x ops (Region.before ops) (effsOf ops) H.next es done hs tm ds) ops (Region.before ops) (effsOf ops) H.next ⟨H.next+ops.size,H.t⟩ tm=some (ch,H2):=by
  exact zrq (st1:=r1) hes en ho' (z2q hg) hd (by simpa using hm) (k2 _ (by omega)) (k1 _ (by omega))
 show dcode P ok (m+4) x (.region id ops true) ⟨tm,ds,H⟩=_;have e1:dcode P ok (m+3+1) x (.region id ops true) ⟨tm,ds,H⟩=(match ddraw P ok (m+3) x ops (Region.before ops) (effsOf ops) H.next (effsOf ops) 0 [⟨H.next+ops.size,H.t⟩] tm ds with
    |some st1=>some (.normal,st1)
    |none=>match dpan P (dcall P ok (m+3)) (fun es done hs tm=>ddraw P ok (m+3) x ops (Region.before ops) (effsOf ops) H.next es done hs tm ds) ops (Region.before ops) (effsOf ops) H.next ⟨H.next+ops.size,H.t⟩ tm with
     |some (ch,H')=>some (.panic ch,⟨clr ops tm,ds,H'⟩)
     |none=>none):=by
   rw[dcode];rfl
 rw[e1,hdr,hpan]
end
end Go.Hb
end

section
namespace Go.Hb
open Go Go.RowKit
section
variable {P:Program}{ok:Ok}{x:Ctx}{ops:Array Oper}{os:List Oper}{tm:Tr Value}{ds:List Deferred}{H:Heap}{K:Tr Value→List Deferred→Heap→Prop}{d:Option Tmp}{ty:TypeId}{pos:String}{af:Array Edge}{g:Option (Nat × Bool)}{ρ:Operand→Value}
def mkiOk (P:Program) (t:TypeId):Bool:=match P.underlying t with|some (.interface _)=>false|some _=>true|none=>false
def dMkI (P:Program) (t:TypeId) (v:Value) (H:Heap):Option Dr:=match P.underlying t with|some (.interface _)=>none|some _=>some (.val (.iface t v) H)|none=>none
theorem z1c {t:TypeId}{a:Operand}:dop P ⟨d,.makeInterface t a,ty,pos,af,g⟩ ρ H=dMkI P t (ρ a) H:=_root_.id rfl
theorem z9s {t:TypeId}{v:Value}(h:mkiOk P t=true):dMkI P t v H=some (.val (.iface t v) H):=by
 unfold mkiOk at h;unfold dMkI;cases hu:P.underlying t with
 |none=>rw[hu] at h;cases h
 |some u =>
  rw[hu] at h;cases u<;>first|rfl|cases h
def dTa (P:Program) (xt at_:TypeId) (ok:Bool) (v:Value) (H:Heap):Option Dr :=
 match v with
 |.iface t u=>(dassert P t u at_ ok).map (.val · H)
 |v=>dOut (flat v && true) (pureRun P (do let r ←Instr.typeAssert v xt at_ ok;pure (Next.value r))) H
theorem z24 {a:Operand}{xt at_:TypeId}{o:Bool}:dop P ⟨d,.typeAssert a xt at_ o,ty,pos,af,g⟩ ρ H=dTa P xt at_ o (ρ a) H:=by
 cases h:ρ a with
 |iface t v=>simp only[dop,h,dTa]
 |_ =>
  have e:dop P ⟨d,.typeAssert a xt at_ o,ty,pos,af,g⟩ ρ H=dflat P ⟨d,.typeAssert a xt at_ o,ty,pos,af,g⟩ ρ H:=by simp only[dop,h]
  rw[e,z6n];have e1:allFlat ρ ⟨d,.typeAssert a xt at_ o,ty,pos,af,g⟩=(flat (ρ a) && true):=rfl;have e2:execOp ρ ⟨d,.typeAssert a xt at_ o,ty,pos,af,g⟩=(do let r ←Instr.typeAssert (ρ a) xt at_ o;pure (Next.value r)):=rfl;rw[e1,e2,h];rfl
def taZ (P:Program) (at_:TypeId):Option Value:=match P.underlying at_ with
 |some (.interface _)=>none
 |some _=>match pureRun P (zeroValue at_) with
  |some z=>if flat z then some z else none
  |none=>none
 |none=>none
theorem zm4 {at_:TypeId}{z:Value}(h:taZ P at_=some z):∃u,P.underlying at_=some u∧(∀w,u≠.interface w)∧pureRun P (zeroValue at_)=some z∧flat z=true:=by
 unfold taZ at h;cases hu:P.underlying at_ with
 |none=>rw[hu] at h;cases h
 |some u =>
  rw[hu] at h;have h':(∀w,u≠.interface w)∧(match pureRun P (zeroValue at_) with|some z=>if flat z then some z else none|none=>none)=some z:=by
   cases u<;>first|exact⟨fun w hw=>(by cases hw),h⟩|cases h
  obtain⟨hne,h'⟩:=h';cases hz:pureRun P (zeroValue at_) with
  |none=>rw[hz] at h';cases h'
  |some z' =>
   rw[hz] at h';simp only at h';split at h'
   ·rename_i hf;cases h';exact⟨u,rfl,hne,rfl,hf⟩
   ·cases h'
theorem zg4 {xt at_:TypeId}{v z:Value}(h:taZ P at_=some z):dTa P xt at_ true (.iface at_ v) H=some (.val (.tuple #[v,.bool true]) H):=by
 obtain⟨u,hu,hne,hz,hf⟩:=zm4 h;simp only[dTa,dassert,hu,Nat.beq_refl,if_true];rfl
theorem zm5 {xt at_:TypeId}{z:Value}(h:taZ P at_=some z):dTa P xt at_ true .nilIface H=some (.val (.tuple #[z,.bool false]) H):=by
 obtain⟨u,hu,hne,hz,hf⟩:=zm4 h;simp only[dTa,flat,Bool.and_self,Instr.typeAssert,z0n,z0s hu,Option.bind_some];cases u with
 |interface w=>exact absurd rfl (hne w)
 |_ =>
  simp only[if_true,z0n,hz,z2z,Option.bind_some,dOut];have hfl:flat (.tuple #[z,.bool false])=true:=by
   show (flat z && (flat (.bool false) && true))=true;rw[hf];rfl
  rw[hfl]
def ifO (P:Program) (t:TypeId):Prop:=∃m,P.underlying t=some (.interface m)
theorem zt8 {dd:Deferred}(hx:x.round=none):LX P ok x ops d os tm ds H K (some (.dfr dd))=EL P ok x ops os (putD tm d undef) (dd :: ds) H K:=by
 unfold LX LK;simp [hx]
def dDef (v:Value) (ags:Array Value):Option Dr:=match v with|.func (.func f) x y=>some (.dfr { target:=.fn (.func f) y,args:=x++ags })|_=>none
theorem zji {c:Operand}{ags:Array Operand}{ats:Array TypeId}:dop P ⟨d,.defer ⟨.value c,ags,ats⟩,ty,pos,af,g⟩ ρ H=dDef (ρ c) (ags.map ρ):=by
 cases h:ρ c<;>simp only[dop,h,dDef]
 rename_i f x y;cases f<;>rfl
theorem zm6 {f:FuncId}{x y ags:Array Value}:dDef (.func (.func f) x y) ags=some (.dfr { target:=.fn (.func f) y,args:=x++ags }):=_root_.id rfl
def dPan (v:Value):Option Dr:=match v with|.iface t u=>some (.panic (.iface t u))|_=>none
theorem zen {a:Operand}:dop P ⟨d,.panic a,ty,pos,af,g⟩ ρ H=dPan (ρ a):=by
 cases h:ρ a<;>simp only[dop,h,dPan]
theorem zb2 {t:TypeId}{v:Value}:dPan (.iface t v)=some (.panic (.iface t v)):=_root_.id rfl
end
end Go.Hb
end

section
namespace Go.Hb
open Go Go.RowKit
instance (n:Int):Decidable (i64 n):=by unfold i64;infer_instance
instance (n:Int):Decidable (u64 n):=by unfold u64;infer_instance
theorem z86 {s u:ByteArray}(h:s=u):(s.data.toList == u.data.toList)=true:=by rw[h];exact beq_self_eq_true _
end Go.Hb
namespace Go.Proofs.hq
open Go Go.RowKit Go.Hb
theorem zb3 {s u:ByteArray}(h:s≠u):(s.data.toList == u.data.toList)=false:=by
 rw[beq_eq_false_iff_ne];intro q;exact h (z5g (by rw[z1t,z1t];exact q))
inductive Bdy where
 |mk (kind:Int) (term:Tm) (sub:List Bdy)
def Bdy.kind:Bdy→Int|.mk k _ _=>k
def Bdy.term:Bdy→Tm|.mk _ t _=>t
def Bdy.sub:Bdy→List Bdy|.mk _ _ l=>l
def zeroB:Bdy:=.mk 0 zeroT []
abbrev sCma:ByteArray:=⟨#[44]⟩
abbrev sSem:ByteArray:=⟨#[59]⟩
abbrev sArr:ByteArray:=⟨#[45,62]⟩
abbrev sCol:ByteArray:=⟨#[58]⟩
abbrev sNck:ByteArray:=⟨#[58,45]⟩
abbrev sExc:ByteArray:=⟨#[33]⟩
abbrev sTrue:ByteArray:=⟨#[116,114,117,101]⟩
abbrev sCall:ByteArray:=⟨#[99,97,108,108]⟩
abbrev sTypeE:ByteArray:=⟨#[116,121,112,101,95,101,114,114,111,114]⟩
abbrev sResE:ByteArray:=⟨#[114,101,115,111,117,114,99,101,95,101,114,114,111,114]⟩
abbrev sCallable:ByteArray:=⟨#[99,97,108,108,97,98,108,101]⟩
abbrev sNodes:ByteArray:=⟨#[110,111,100,101,115]⟩
def cmpT (s:ByteArray) (l:List Tm):Tm:=.mk 5 s Ze 0 0 l
def atmT (s:ByteArray):Tm:=.mk 2 s Ze 0 0 []
def isF (t:Tm) (s:ByteArray):Prop:=t.kind=5∧t.name=s∧t.args.length=2
instance (t:Tm) (s:ByteArray):Decidable (isF t s):=by unfold isF;infer_instance
def _root_.Go.Hb.Tm.at (t:Tm) (i:Nat):Tm:=t.args.getD i zeroT
def isNum (t:Tm):Prop:=t.kind=3∨t.kind=4
instance (t:Tm):Decidable (isNum t):=by unfold isNum;infer_instance
def callB (t:Tm):Bdy:=.mk 3 (cmpT sCall [t]) []
def subBL (f:Tm→Option Bdy):List Tm→Option (List Bdy)
 |[]=>some []
 |t :: l=>match f t,subBL f l with
  |some b,some bs=>some (b :: bs)
  |_,_=>none
def subBF (f:Tm→Option Bdy) (k:Int) (l:List Tm):Option Bdy:=(subBL f l).map (.mk k zeroT ·)
def withinF (f:Tm→Option Bdy) (t:Tm):Option Bdy :=
 if isNum (t.at 1)∨((t.at 0).kind≠2∧(t.at 0).kind≠1) then none
 else if (t.at 0).kind=1∨(t.at 1).kind=1 then some (callB t)
 else (f (t.at 1)).map fun b=>.mk 7 (t.at 0) [b]
def bodyF:Nat→Tm→Option Bdy
 |0,_=>none
 |m+1,t =>
  if isNum t then none
  else if t.kind=1 then some (callB t)
  else if t.kind=2∧t.name=sTrue then some (.mk 1 zeroT [])
  else if t.kind=2∧t.name=sExc then some (.mk 2 zeroT [])
  else if isF t sCol then withinF (bodyF m) t
  else if isF t sCma then subBF (bodyF m) 4 t.args
  else if isF t sArr then subBF (bodyF m) 6 t.args
  else if isF t sSem∧isF (t.at 0) sArr then subBF (bodyF m) 6 [(t.at 0).at 0,(t.at 0).at 1,t.at 1]
  else if isF t sSem then subBF (bodyF m) 5 t.args
  else some (.mk 3 t [])
def tellB (k:Int) (t:Tm) (l:List Tm):Tm :=
 if k=2 then atmT sExc
 else if k=3 then t
 else if k=4∧l.length=2 then cmpT sCma l
 else if k=5∧l.length=2 then cmpT sSem l
 else if k=6∧l.length=2 then cmpT sArr l
 else if k=6∧l.length=3 then cmpT sSem [cmpT sArr (l.take 2),l.getD 2 zeroT]
 else if k=7∧l.length=1 then cmpT sCol [t,l.getD 0 zeroT]
 else atmT sTrue
mutual
def toldB:Bdy→Tm
 |.mk k t l=>tellB k t (toldBL l)
def toldBL:List Bdy→List Tm
 |[]=>[]
 |b :: l=>toldB b :: toldBL l
end
theorem zb4:∀l,toldBL l=l.map toldB
 |[]=>by rw[toldBL];rfl
 |b :: l=>by rw[toldBL,zb4 l];rfl
theorem z2j (b:Bdy):toldB b=tellB b.kind b.term (b.sub.map toldB):=by obtain⟨k,t,l⟩:=b;rw[toldB,zb4];rfl
inductive Er where
 |ok
 |num (e:Int)
 |ball (t:Tm)
def typeT (w:ByteArray) (t:Tm):Tm:=cmpT sTypeE [atmT w,t]
def resT (w:ByteArray):Tm:=cmpT sResE [atmT w]
noncomputable def readyS (t:Tm):Bdy × Er :=
 if checkS t≠0 then (zeroB,.num (checkS t))
 else match bodyF (SizeOf.sizeOf t+1) t with
  |none=>(zeroB,.ball (typeT sCallable t))
  |some b=>if 4000 < cnt (toldB b) 0 then (zeroB,.ball (resT sNodes)) else (b,.ok)
theorem Bdy.size (b:Bdy):∀u∈b.sub,SizeOf.sizeOf u < SizeOf.sizeOf b:=by
 obtain⟨k,t,l⟩:=b;intro u hu;have:=List.sizeOf_lt_of_mem (show u∈l from hu);rw[Bdy.mk.sizeOf_spec];omega
abbrev eight (k:Int) (cs:List Value) (a:Option Addr) (n c:Nat):List Value:=.int .i64 k :: (cs++[.slice a n c])
abbrev zero8:List Value:=[.int .i64 0,.int .i64 0,.string Ze,.string Ze,.int .u64 0,.int .i64 0,.slice none 0 0,.slice none 0 0]
abbrev eightT (k:Int) (t:Tm) (ta:Option Addr) (tc:Nat) (a:Option Addr) (n c:Nat):List Value:=[.int .i64 k,.int .i64 t.kind,.string t.name,.string t.num,.int .u64 t.bits,.int .i64 t.var,.slice ta t.args.length tc,.slice a n c]
theorem row8 {H:Heap}{p:Nat}{T:TypeId}{x0 x1 x2 x3 x4 x5 x6 x7:Value}(h:H.get p=some (Blk.row [x0,x1,x2,x3,x4,x5,x6,x7] T)) :
  H.load ⟨p,0,none⟩ 1=some [x0]∧H.load ⟨p,1,none⟩ 6=some [x1,x2,x3,x4,x5,x6]∧H.load ⟨p,6,none⟩ 1=some [x6]∧H.load ⟨p,7,none⟩ 1=some [x7]∧H.load ⟨p,0,none⟩ 8=some [x0,x1,x2,x3,x4,x5,x6,x7]:=by
 refine⟨?_,?_,?_,?_,?_⟩<;>simp only[Heap.load,Heap.cells,h]<;>rfl
inductive RepB (H:Heap):Bdy→List Value→Prop
 |mk (k:Int) (t:Tm) (l:List Bdy) (cs:List Value) (a:Option Addr) (c:Nat) (cells:Nat→List Value):i64 k→RepT H t cs→l.length≤c→c≤maxLen→(a=none→l=[]∧c=0) →
   (∀i ad,i < l.length→a=some ad→ad.spot=none∧H.load ⟨ad.block,ad.off+i*8,none⟩ 8=some (cells i))→(∀i u,l[i]?=some u→RepB H u (cells i)) →
   RepB H (.mk k t l) (eight k cs a l.length c)
structure RepBL (H:Heap) (l:List Bdy) (a:Option Addr) (c:Nat) (cells:Nat→List Value):Prop where
 len:l.length≤c
 cap:c≤maxLen
 nil:a=none→l=[]∧c=0
 load:∀i ad,i < l.length→a=some ad→ad.spot=none∧H.load ⟨ad.block,ad.off+i*8,none⟩ 8=some (cells i)
 rep:∀i u,l[i]?=some u→RepB H u (cells i)
theorem RepB.inv {H:Heap}{b:Bdy}{cs:List Value}(r:RepB H b cs):∃ts a c cells,cs=eight b.kind ts a b.sub.length c∧i64 b.kind∧RepT H b.term ts∧RepBL H b.sub a c cells:=by
 cases r with
 |mk k t l ts a c cells h1 h2 h3 h4 h5 h6 h7=>exact⟨ts,a,c,cells,rfl,h1,h2,h3,h4,h5,h6,h7⟩
theorem RepB.eight {H:Heap}{b:Bdy}{cs:List Value}(r:RepB H b cs):∃ta tc a c,cs=eightT b.kind b.term ta tc a b.sub.length c:=by
 obtain⟨ts,a,c,cells,rfl,-,h,-⟩:=r.inv;obtain⟨ta,tc,cellst,rfl,-⟩:=h.inv;exact⟨ta,tc,a,c,rfl⟩
theorem RepBL.el {H:Heap}{l:List Bdy}{a:Option Addr}{c:Nat}{cells:Nat→List Value}(r:RepBL H l a c cells) {i:Nat}(hi:i < l.length) :
  ∃b o,a=some ⟨b,o,none⟩∧H.load ⟨b,o+i*8,none⟩ 8=some (cells i)∧RepB H l[i] (cells i):=by
 cases a with
 |none=>obtain⟨rfl,_⟩:=r.nil rfl;simp at hi
 |some ad =>
  obtain⟨h1,h2⟩:=r.load i ad hi rfl;obtain⟨b,o,s⟩:=ad;obtain rfl:s=none:=h1;exact⟨b,o,rfl,h2,r.rep i _ (Zc hi)⟩
theorem RepB.mono {H H':Heap}(h:HX H H') (hw:H.wf) {b:Bdy}{cs:List Value}(r:RepB H b cs):RepB H' b cs:=by
 induction r with
 |mk k t l ts a c cells h1 h2 h3 h4 h5 h6 h7 ih =>
  exact .mk k t l ts a c cells h1 (h2.mono h hw) h3 h4 h5 (fun i ad hi ha=>⟨(h6 i ad hi ha).1,h.load hw (h6 i ad hi ha).2⟩) ih
theorem RepBL.mono {H H':Heap}(h:HX H H') (hw:H.wf) {l:List Bdy}{a:Option Addr}{c:Nat}{cells:Nat→List Value}(r:RepBL H l a c cells):RepBL H' l a c cells :=
 ⟨r.len,r.cap,r.nil,fun i ad hi ha=>⟨(r.load i ad hi ha).1,h.load hw (r.load i ad hi ha).2⟩,fun i u hu=>(r.rep i u hu).mono h hw⟩
inductive OB (H:Heap) (TB TT:TypeId):(Nat→Prop)→Bdy→List Value→Prop
 |leaf (S:Nat→Prop) (k:Int) (t:Tm) (cs:List Value):i64 k→RepS H S t cs→TopR H TT S t cs→OB H TB TT S (.mk k t []) (eight k cs none 0 0)
 |node (S:Nat→Prop) (k:Int) (t:Tm) (cs:List Value) (l:List Bdy) (b c:Nat) (cells:List Value) (Si:Nat→Nat→Prop):i64 k→RepS H S t cs→t.args=[]→l.length≤c→c≤maxLen→H.get b=some (.row cells TB)→S b→b < H.next→l.length*8≤cells.length →
   (∀i u,l[i]?=some u→OB H TB TT (Si i) u ((cells.drop (i*8)).take 8))→(∀i,i < l.length→¬Si i b)→(∀i n,i < l.length→Si i n→S n)→(∀i j n,i < l.length→j < l.length→Si i n→Si j n→i=j) →
   OB H TB TT S (.mk k t l) (eight k cs (some ⟨b,0,none⟩) l.length c)
def OBL (H:Heap) (TB TT:TypeId) (S:Nat→Prop) (l:List Bdy) (a:Option Addr) (c:Nat):Prop :=
 (l=[]∧a=none∧c=0)∨∃(b:Nat) (cells:List Value) (Si:Nat→Nat→Prop),a=some ⟨b,0,none⟩∧l.length≤c∧c≤maxLen∧H.get b=some (.row cells TB)∧S b∧b < H.next∧l.length*8≤cells.length ∧
   (∀i u,l[i]?=some u→OB H TB TT (Si i) u ((cells.drop (i*8)).take 8))∧(∀i,i < l.length→¬Si i b)∧(∀i n,i < l.length→Si i n→S n)∧(∀i j n,i < l.length→j < l.length→Si i n→Si j n→i=j)
section
variable {H H':Heap}{TB TT:TypeId}{S S':Nat→Prop}{u:Bdy}{cs:List Value}{l:List Bdy}{a:Option Addr}{c:Nat}
theorem OB.to (h:OB H TB TT S u cs):(∀n,S n→n < H.next→H'.get n=H.get n∧n < H'.next)→(∀n,S n→S' n)→OB H' TB TT S' u cs:=by
 induction h generalizing S' with
 |leaf S k t cs h1 h2 h3=>exact fun hk hs=>.leaf S' k t cs h1 (h2.to fun n hn hl=>⟨(hk n hn hl).1,hs n hn,(hk n hn hl).2⟩) (h3.heap fun n hn hl=>⟨(hk n hn hl).1,hs n hn,(hk n hn hl).2⟩)
 |node S k t cs l b c cells Si h1 h2 h3 h4 h5 h6 h7 h8 h9 h10 h11 h12 h13 ih =>
  intro hk hs;refine .node S' k t cs l b c cells Si h1 (h2.to fun n hn hl=>⟨(hk n hn hl).1,hs n hn,(hk n hn hl).2⟩) h3 h4 h5 ((hk b h7 h8).1.trans h6) (hs b h7) (hk b h7 h8).2 h9 (fun i u hu=>?_) h11 (fun i n hi hn=>hs n (h12 i n hi hn)) h13;have hi:=(List.getElem?_eq_some_iff.1 hu).1;exact ih i u hu (fun n hn hl=>hk n (h12 i n hi hn) hl) (fun n hn=>hn)
theorem OB.sub (h:OB H TB TT S u cs) (hs:∀n,S n→S' n):OB H TB TT S' u cs:=h.to (fun _ _ hl=>⟨rfl,hl⟩) hs
theorem OB.keep (h:OB H TB TT S u cs) (hx:HX H H'):OB H' TB TT S u cs:=h.to (fun n _ hl=>⟨hx.keep n hl,Zh hl hx.next⟩) fun _ hn=>hn
theorem OB.rep (h:OB H TB TT S u cs):RepB H u cs:=by
 induction h with
 |leaf S k t cs h1 h2 h3=>exact .mk k t [] cs none 0 (fun _=>[]) h1 h2.rep (Zg _) (Zs _) (fun _=>⟨rfl,rfl⟩) (fun i ad hi=>by simp at hi) (fun i u hu=>by simp at hu)
 |node S k t cs l b c cells Si h1 h2 h3 h4 h5 h6 h7 h8 h9 h10 h11 h12 h13 ih =>
  refine .mk k t l cs (some ⟨b,0,none⟩) c (fun i=>(cells.drop (i*8)).take 8) h1 h2.rep h4 h5 (fun h=>by cases h) (fun i ad hi ha=>?_) ih;cases ha;refine⟨rfl,?_⟩;have hle:i*8+8≤l.length*8:=by omega
  unfold Heap.load Heap.cells;simp only[h6,Nat.zero_add];rw[if_pos (by rw[Zr,Zl,List.length_drop];omega)]
theorem z52:Bd zeroT:=⟨by show i64 0;unfold i64;omega,by show ByteArray.empty.size≤_;exact Zs _,by show ByteArray.empty.size≤_;exact Zs _,by show u64 0;unfold u64;omega,by show i64 0;unfold i64;omega⟩
theorem OB.nil {k:Int}(hk:i64 k):OB H TB TT S (.mk k zeroT []) (eightT k zeroT none 0 none 0 0) :=
 .leaf S k zeroT zero6 hk (RepS.leaf (H:=H) (S:=S) (t:=zeroT) (a:=none) (c:=0) z52 rfl (Zs _) (fun _=>rfl)) (.inl rfl)
theorem OBL.nil:OBL H TB TT S [] none 0:=.inl ⟨rfl,rfl,rfl⟩
theorem OBL.mk {k:Int}{t:Tm}{ts:List Value}(h:OBL H TB TT S l a c) (hk:i64 k) (ht:RepS H S t ts) (he:t.args=[]):OB H TB TT S (.mk k t l) (eight k ts a l.length c):=by
 rcases h with ⟨rfl,rfl,rfl⟩|⟨b,cells,Si,rfl,h1,h2,h3,h4,h5,h6,h7,h8,h9,h10⟩
 ·exact .leaf S k t ts hk ht (.inl he)
 ·exact .node S k t ts l b c cells Si hk ht he h1 h2 h3 h4 h5 h6 h7 h8 h9 h10
theorem OB.parts {k:Int}{t:Tm}(h:OB H TB TT S (.mk k t l) cs):∃ts a c,cs=eight k ts a l.length c∧RepT H t ts∧OBL H TB TT S l a c:=by
 cases h with
 |leaf _ _ _ ts h1 h2 h3=>exact⟨ts,none,0,rfl,h2.rep,.inl ⟨rfl,rfl,rfl⟩⟩
 |node _ _ _ ts _ b c cells Si h1 h2 h3 h4 h5 h6 h7 h8 h9 h10 h11 h12 h13=>exact⟨ts,some ⟨b,0,none⟩,c,rfl,h2.rep,.inr ⟨b,cells,Si,rfl,h4,h5,h6,h7,h8,h9,h10,h11,h12,h13⟩⟩
theorem OBL.to (h:OBL H TB TT S l a c) (hk:∀n,S n→n < H.next→H'.get n=H.get n∧n < H'.next) (hs:∀n,S n→S' n):OBL H' TB TT S' l a c:=by
 rcases h with ⟨rfl,rfl,rfl⟩|⟨b,cells,Si,rfl,h1,h2,h3,h4,h5,h6,h7,h8,h9,h10⟩
 ·exact .nil
 ·refine .inr ⟨b,cells,Si,rfl,h1,h2,(hk b h4 h5).1.trans h3,hs b h4,(hk b h4 h5).2,h6,fun i u hu=>?_,h8,fun i n hi hn=>hs n (h9 i n hi hn),h10⟩;have hi:=(List.getElem?_eq_some_iff.1 hu).1;exact(h7 i u hu).to (fun n hn hl=>hk n (h9 i n hi hn) hl) fun _ hn=>hn
theorem OBL.keep (h:OBL H TB TT S l a c) (hx:HX H H'):OBL H' TB TT S l a c:=h.to (fun n _ hl=>⟨hx.keep n hl,Zh hl hx.next⟩) fun _ hn=>hn
theorem OBL.rep (h:OBL H TB TT S l a c):∃cells,RepBL H l a c cells:=by
 rcases h with ⟨rfl,rfl,rfl⟩|⟨b,cells,Si,rfl,h1,h2,h3,h4,h5,h6,h7,h8,h9,h10⟩
 ·exact⟨fun _=>[],Zg _,Zs _,fun _=>⟨rfl,rfl⟩,(fun i ad hi=>by simp at hi),(fun i u hu=>by simp at hu)⟩
 ·refine⟨fun i=>(cells.drop (i*8)).take 8,h1,h2,(fun h=>by cases h),fun i ad hi ha=>?_,fun i u hu=>(h7 i u hu).rep⟩;cases ha;refine⟨rfl,?_⟩;have hle:i*8+8≤l.length*8:=by omega
  unfold Heap.load Heap.cells;simp only[h3,Nat.zero_add];rw[if_pos (by rw[Zr,Zl,List.length_drop];omega)]
theorem z67 {t:Tm}{ts:List Value}(r:RepT H t ts):ts.all one=true∧ts.length=6:=by
 obtain⟨a,c,cells,rfl,-⟩:=r.inv;exact⟨rfl,rfl⟩
theorem RepB.ones (r:RepB H u cs):cs.all one=true∧cs.length=8:=by
 obtain⟨ts,a,c,cells,rfl,-,h,-⟩:=r.inv;obtain⟨h1,h2⟩:=z67 h;refine⟨?_,by simp [h2]⟩;simp only[List.all_cons,List.all_append,h1,List.all_nil,Bool.and_true,Bool.true_and];rfl
theorem zrr {cells:List Value}:∀n,n*8≤cells.length→(∀i,i < n→((cells.drop (i*8)).take 8).all one=true)→(cells.take (n*8)).all one=true
 |0,_,_=>by simp
 |n+1,h,hc=>by
  rw[Nat.succ_mul,List.take_add,List.all_append,zrr n (by omega) fun i hi=>hc i (by omega),hc n (by omega)];rfl
theorem zq0 {cells:List Value}{i n:Nat}(h:i < n) (vs:List Value) (hn:n*8≤cells.length):((cells.take (n*8)++vs).drop (i*8)).take 8=(cells.drop (i*8)).take 8:=by
 have h1:(cells.take (n*8)).length=n*8:=by rw[Zl];omega
 rw[List.drop_append_of_le_length (by omega),List.take_append_of_le_length (by rw[List.length_drop];omega),List.drop_take,List.take_take];congr 1;omega
theorem OBL.push {P:Program}{t:TypeId}(hp:apOk P t TB 8) {N S2:Nat→Prop}{c1:Nat}{ad:Addr}(h:OBL H TB TT S l a c) (hw:H.wf)
  (hl:H.load ad (1*8)=some cs) (hu:OB H TB TT N u cs) (hN:∀n,N n→¬S n) (hNl:∀n,N n→n < H.next) (hS:∀n,S n→n < H.next) (hm:l.length+1≤most) (h2:∀n,S n∨N n∨n=H.next→S2 n) :
  ∃H2,dAp P #[t,t] (.slice a l.length c) (.slice (some ad) 1 c1) H=some (.val (.slice (some ⟨H.next,0,none⟩) (l.length+1) (l.length+1)) H2)∧OBL H2 TB TT S2 (l++[u]) (some ⟨H.next,0,none⟩) (l.length+1)∧HK S H H2∧H2.next=H.next+1:=by
 have hmax:l.length+1≤maxLen:=Zo hm (by simp [most,maxLen]);obtain⟨hone,hlen⟩:=hu.rep.ones;rcases h with ⟨rfl,rfl,rfl⟩|⟨b,cells,Si,rfl,h1,h2',h3,h4,h5,h6,h7,h8,h9,h10⟩
 ·have hx:=(HX.refl hw).new (some (.row cs TB));refine⟨_,z4r hp (by omega) hm hl hone,?_,hx.hk _,rfl⟩;refine .inr ⟨H.next,cs,fun _=>N,rfl,Zg _,hmax,z0o,h2 _ (.inr (.inr rfl)),Zf _,by simp [hlen],fun i v hv=>?_,fun i _ hn=>by have:=hNl _ hn;omega,fun i n _ hn=>h2 n (.inr (.inl hn)),fun i j n hi hj _ _=>by simp at hi hj;omega⟩
  match i,hv with
  |0,hv =>
   cases hv;rw[Zu,List.drop_zero,Zi (by omega)];exact hu.keep hx
 ·have hcells:(cells.take (l.length*8)).all one=true:=zrr _ h6 fun i hi=>(h7 i _ (Zc hi)).rep.ones.1
  have hk:HK S H ((H.put b none).new (some (.row (cells.take (l.length*8)++cs) TB))):=((HK.refl hw).put (.inl h4) h5 none).new _;have hkeep:∀n,n < H.next→n≠b→((H.put b none).new (some (.row (cells.take (l.length*8)++cs) TB))).get n=H.get n:=fun n hn hne=>by
   rw[z1s (by rw[z06];exact hn),z30 hne]
  refine⟨_,z4c hp (by omega) hm hl hone h3 h6 hcells,?_,hk,rfl⟩;have htl:(cells.take (l.length*8)).length=l.length*8:=by rw[Zl];omega
  refine .inr ⟨H.next,cells.take (l.length*8)++cs,fun i=>if i < l.length then Si i else N,rfl,by simp,hmax,z0o,h2 _ (.inr (.inr rfl)),Zf _,by simp [hlen,htl];omega,fun i v hv=>?_,fun i hi hn=>?_,fun i n hi hn=>?_,fun i j n hi hj hn hm=>?_⟩
  ·by_cases hi:i < l.length
   ·rw[List.getElem?_append_left hi] at hv;rw[zq0 hi _ h6];simp only[hi,if_true];exact(h7 i v hv).to (fun n hn hl=>⟨hkeep n hl fun e=>h8 i hi (e ▸ hn),Nat.lt_succ_of_lt hl⟩) fun _ hn=>hn
   ·have hil:i=l.length:=by
     have:=(List.getElem?_eq_some_iff.1 hv).1;simp at this;omega
    subst hil;simp at hv;subst hv;have e8:((cells.take (l.length*8)++cs).drop (l.length*8)).take 8=cs:=by
     rw[List.drop_left' htl,Zi (by omega)]
    rw[e8];simp only[hi,if_false];exact hu.to (fun n hn hl=>⟨hkeep n hl fun e=>hN n hn (e ▸ h4),Nat.lt_succ_of_lt hl⟩) fun _ hn=>hn
  ·simp only at hn;split at hn
   ·rename_i hi';have:=hS _ (h9 i _ hi' hn);simp at this
   ·have:=hNl _ hn;simp at this
  ·simp only at hn;split at hn
   ·rename_i hi';exact h2 n (.inl (h9 i n hi' hn))
   ·exact h2 n (.inr (.inl hn))
  ·simp only at hn hm;have hi':i≤l.length:=by simp at hi;omega
   have hj':j≤l.length:=by simp at hj;omega
   split at hn<;>split at hm
   ·rename_i k1 k2;exact h10 i j n k1 k2 hn hm
   ·rename_i k1 k2;exact absurd (h9 i n k1 hn) (hN n hm)
   ·rename_i k1 k2;exact absurd (h9 j n k2 hm) (hN n hn)
   ·omega
end
end Go.Proofs.hq
end

section
namespace Go.Proofs.hq
open Go Go.RowKit Go.Hb
variable {ok:Ok}
set_option maxRecDepth 10000
attribute [local irreducible] LX LG EL STG SOP SGO SGD SAL SRD SEF SEG SLK SCK ES
theorem zm7 (n:Int):lookT [] n=none:=rfl
theorem zhz:∀(m:Nat) (t:Tm),SizeOf.sizeOf t < m→subO (lookT []) t=t
 |0,_,h=>by omega
 |m+1,t,h=>by
  by_cases k1:t.kind=1
  ·rw[z71 k1,zm7];rfl
  ·rw[zlt k1];have:t.args.map (subO (lookT []))=t.args:=by
    conv=>rhs;rw[←List.map_id t.args]
    exact List.map_congr_left fun u hu=>zhz m u (by have:=z0d hu;omega)
   rw[this];obtain⟨k,s,u,b,v,l⟩:=t;rfl
theorem zi0 {m:Nat}:∀l:List Int,allS (lookT []) m l=m
 |[]=>rfl
 |n :: l=>by unfold allS;rw[List.foldl_cons];exact zi0 l
theorem zm8 {t:Tm}(h:checkS t=0):PutOk t []:=⟨h,fun i hi=>by simp at hi,by rw[zi0];exact(z0e.1 h).1⟩
def OT (H:Heap) (S:Nat→Prop) (t:Tm) (cs:List Value):Prop:=RepS H S t cs∧TopR H 25 S t cs
theorem OT.to {H H':Heap}{S S':Nat→Prop}{t:Tm}{cs:List Value}(h:OT H S t cs) (hk:∀n,S n→n < H.next→H'.get n=H.get n∧S' n∧n < H'.next):OT H' S' t cs:=⟨h.1.to hk,h.2.heap hk⟩
theorem OT.rep {H:Heap}{S:Nat→Prop}{t:Tm}{cs:List Value}(h:OT H S t cs):RepT H t cs:=h.1.rep
set_option maxHeartbeats 2000000 in
theorem z9t {t:Tm}{cs:List Value}{H:Heap}(r0:RepT H t cs) (hc:checkS t=0) (hw:H.wf) :
  EvF Tryz.prog okT 56 [.agg ⟨cs⟩] H fun v H'=>HX H H'∧∃out,v=.agg ⟨out⟩∧OT H' (Rg H.next H'.next) t out:=by
 obtain⟨a,c,cells,rfl,-⟩:=r0.six;refine EvF.enter rfl Tryz.func56 (by decide) rfl ?_;(repeat refine EvC.seq ?_);refine EvC.reg ?_;simp only[sB,initTm,dBox,dAlloc,Value.cells,one,zr25];obtain⟨H2,e2,hx2,gt,gq,hn2,hw2⟩:=new2 hw (.row (six t a c) 25) (.row zero6 25);simp only[e2];clear e2;have qt:=row6 gt;(repeat refine EvC.seq ?_);refine EvC.reg ?_;simp only[sB,Za,reduceCtorEq,ld25,cl77,qt];have rb:RepB7 H2 [] none 0:=⟨Zg _,Zs _,fun i hi=>by simp at hi⟩
 refine(zt7 (r0.mono hx2 hw) rb hw2).mono ?_;rintro v H3 ⟨hx3,⟨-,out,rfl,hrep,htop⟩|⟨hn,-⟩⟩;rotate_left
 ·exact absurd (zm8 hc) hn
 rw[zhz _ t (Zf _)] at hrep htop;obtain⟨a3,c3,z9f,rfl,-⟩:=hrep.rep.six;have gq3:=hx3.get hw2 gq;try simp only[sB,dAlloc,Za,Zb,one,reduceCtorEq,zr25,st25]
 obtain⟨H4,e4,hx4,g4,hn4,hw4⟩:=z0l hx3.wf (.row zero6 25) (.row (six t a3 c3) 25);simp only[e4];have q4:=row6 g4;have gq4:=hx4.get hx3.wf gq3;have n3:=hx3.next
 repeat' (first|refine EvC.seq ?_|(refine EvC.ret ?_)|(refine EvC.reg ?_;simp only[sB,Za,Zb,one,reduceCtorEq,ld25,st25,q4,gq4]))
 refine z0a rfl (by simp only[sB,Za,reduceCtorEq];rfl) (by simp only[sB,Zb,cutC,ld25]) ⟨((hx2.trans hx3).trans hx4).pt (by omega) gq4 _,_,rfl,OT.to ⟨hrep,htop⟩ fun n hn hl=>?_⟩;have:=hn.1;exact⟨by rw[get_put,if_neg (by omega)];exact hx4.keep n hl,⟨by omega,by rw[z06];omega⟩,by rw[z06];omega⟩
theorem z4k {s:ByteArray}{H:Heap}(hw:H.wf):EvF Tryz.prog okT 31 [.string s] H fun v H'=>v=.agg ⟨six (atmT s) none 0⟩∧HX H H':=by
 refine EvF.enter rfl Tryz.func31 (by decide) rfl ?_
 repeat' (first|refine EvC.seq ?_|(refine EvC.ret ?_)|(refine EvC.reg ?_;simp only[sB,initTm,dAlloc,Za,Zb,Value.cells,one,reduceCtorEq,Zk,layC,zr25,bd25,st25]))
 exact z0a rfl (by simp only[sB,Za,reduceCtorEq];rfl) (by simp only[sB,Zb,cutC,ld25];rfl) ⟨rfl,((HX.refl hw).new _).put (Zg _) (Zf _) _⟩
theorem z2k {s:ByteArray}{a:Option Addr}{n c:Nat}{H:Heap}(hw:H.wf) :
  EvF Tryz.prog okT 59 [.string s,.slice a n c] H fun v H'=>v=.agg ⟨[.int .i64 5,.string s,.string Ze,.int .u64 0,.int .i64 0,.slice a n c]⟩∧HX H H':=by
 refine EvF.enter rfl Tryz.func59 (by decide) rfl ?_
 repeat' (first|refine EvC.seq ?_|(refine EvC.ret ?_)|(refine EvC.reg ?_;simp only[sB,initTm,dAlloc,Za,Zb,Value.cells,one,reduceCtorEq,Zk,layC,zr25,bd25,st25]))
 exact z0a rfl (by simp only[sB,Za,reduceCtorEq];rfl) (by simp only[sB,Zb,cutC,ld25]) ⟨rfl,((HX.refl hw).new _).put (Zg _) (Zf _) _⟩
theorem z87 {t:Tm}{cs:List Value}{s:ByteArray}{H:Heap}(r:RepT H t cs) (hw:H.wf) :
  EvF Tryz.prog okT 32 [.agg ⟨cs⟩,.string s] H fun v H'=>v=.bool (decide (isF t s))∧HX H H':=by
 obtain⟨a,c,cells,rfl,-⟩:=r.six;refine EvF.enter rfl Tryz.func32 (by decide) rfl ?_;(repeat refine EvC.seq ?_);refine EvC.reg ?_;simp only[sB,initTm,dBox,Value.cells,one,reduceCtorEq];obtain⟨H2,e2,hx2,gt,hn2,hw2⟩:=new1 hw (.row (six t a c) 25);simp only[e2];have qt:=row6 gt;by_cases k5:t.kind=5;rotate_left
 ·have hd:decide (isF t s)=false:=decide_eq_false fun h=>k5 h.1
  repeat' (first|refine EvC.seq ?_|(refine EvC.ret ?_)|(refine EvC.reg ?_;simp only[sB,Za,reduceCtorEq,z0g,ld3,qt,z0m k5,Zd]))
  exact z03 rfl (by simp only[sB,Za,reduceCtorEq];rfl) ⟨by rw[hd],hx2⟩
 by_cases kn:t.name=s;rotate_left
 ·have hd:decide (isF t s)=false:=decide_eq_false fun h=>kn h.2.1
  repeat' (first|refine EvC.seq ?_|(refine EvC.ret ?_)|(refine EvC.reg ?_;simp only[sB,Za,reduceCtorEq,z0g,ld3,z16,ld9,qt,z0k k5,z13,zb3 kn,Zd]))
  exact z03 rfl (by simp only[sB,Za,reduceCtorEq];rfl) ⟨by rw[hd],hx2⟩
 by_cases k2:t.args.length=2
 ·have hd:decide (isF t s)=true:=decide_eq_true ⟨k5,kn,k2⟩;have k2':(t.args.length:Int)=2:=by omega
  repeat' (first|refine EvC.seq ?_|(refine EvC.ret ?_)|(refine EvC.reg ?_;simp only[sB,Za,reduceCtorEq,z0g,ld3,z16,ld9,z0j,ld23,ln23,qt,z0k k5,z13,z86 kn,z0k k2']))
  exact z03 rfl (by simp only[sB,Za,reduceCtorEq];rfl) ⟨by rw[hd],hx2⟩
 ·have hd:decide (isF t s)=false:=decide_eq_false fun h=>k2 h.2.2
  have k2':(t.args.length:Int)≠2:=by omega
  repeat' (first|refine EvC.seq ?_|(refine EvC.ret ?_)|(refine EvC.reg ?_;simp only[sB,Za,reduceCtorEq,z0g,ld3,z16,ld9,z0j,ld23,ln23,qt,z0k k5,z13,z86 kn,z0m k2']))
  exact z03 rfl (by simp only[sB,Za,reduceCtorEq];rfl) ⟨by rw[hd],hx2⟩
theorem ld1 {H:Heap}{p n:Nat}{cs:List Value}{T:TypeId}(h:H.get p=some (.row cs T)) (hn:cs.length=n):H.load ⟨p,0,none⟩ n=some cs:=by
 unfold Heap.load Heap.cells;simp only[h,List.drop_zero];rw[if_pos (by rw[Zr,Zl];omega),Zi (by omega)]
theorem z5t {s:ByteArray}{l:List Tm}(h:s.size≤maxLen):Bd (cmpT s l):=⟨by show i64 5;decide,h,by show ByteArray.empty.size≤_;decide,by show u64 0;decide,by show i64 0;decide⟩
theorem OT.comp {H:Heap}{S:Nat→Prop}{s:ByteArray}{l:List Tm}{b c:Nat}{cells:List Value}(hs:s.size≤maxLen) (hg:H.get b=some (.row cells 25)) (hS:S b) (hl:l.length*6≤cells.length) (hc:l.length≤c) (hm:c≤maxLen) (hw:H.wf)
  (hch:∀(j:Nat) (hj:j < l.length),RepS H S l[j] ((cells.drop (j*6)).take 6)):OT H S (cmpT s l) (six (cmpT s l) (some ⟨b,0,none⟩) c) :=
 ⟨RepS.row (t:=cmpT s l) (z5t hs) rfl hg hS (hw _ _ hg) hl hc hm hch,.inr ⟨b,c,cells,rfl,hg,hS,hw _ _ hg,hl,fun j hj=>RepT.all (hch j hj).rep⟩⟩
set_option maxHeartbeats 2000000 in
theorem zeo {t:Tm}{cs:List Value}{H:Heap}(r0:RepT H t cs) (hc:checkS t=0) (hw:H.wf) :
  EvF Tryz.prog okT 79 [.agg ⟨cs⟩] H fun v H'=>HX H H'∧∃out,v=.agg ⟨out⟩∧OB H' 30 25 (Rg H.next H'.next) (callB t) out:=by
 obtain⟨a,c,cells,rfl,-⟩:=r0.six;refine EvF.enter rfl Tryz.func79 (by decide) rfl ?_;(repeat refine EvC.seq ?_);refine EvC.reg ?_;simp only[sB,initTm,dBox,dAlloc,Value.cells,one,zr30];obtain⟨H2,e2,hx2,gt,gq,hn2,hw2⟩:=new2 hw (.row (six t a c) 25) (.row zero8 30);simp only[e2];clear e2;have qt:=row6 gt;(repeat refine EvC.seq ?_);refine EvC.reg ?_;simp only[sB,Za,Zb,Value.cells,reduceCtorEq,layC,ld25,cl56,z4s,qt];refine(z9t (r0.mono hx2 hw) hc hw2).mono ?_;rintro v H3 ⟨hx3,out,rfl,hot⟩;obtain⟨a3,c3,z9f,rfl,-⟩:=hot.rep.six;have gq3:=hx3.get hw2 gq
 repeat' (first|(refine z0i ?_;simp only[sB,Za,Zb,Value.cells,one,reduceCtorEq,Zk,layC,cl59,bd30]))
 obtain⟨H4,e4,hx4,g4,hn4,hw4⟩:=new1 hx3.wf (.row (six t a3 c3) 25);simp only[e4];refine(z2k hw4).mono ?_;rintro v H5 ⟨rfl,hx5⟩;have gq5:=hx5.get hw4 (hx4.get hx3.wf gq3);have g5:=hx5.get hw4 g4;have n3:=hx3.next;have n5:=hx5.next;have hx35:=hx4.trans hx5
 repeat' (first|(refine EvC.ret ?_)|(refine z0i ?_;simp only[sB,Za,Zb,one,reduceCtorEq,Zk,st30,gq5]))
 refine z0a rfl (by simp only[sB,Za,reduceCtorEq];rfl) (by simp only[sB,Zb,cutC,ld30];rfl) ⟨((hx2.trans hx3).trans hx35).pt (by omega) gq5 _,_,rfl,?_⟩;have hr5:RepS H5 (Rg H.next H5.next) t (six t a3 c3):=hot.1.to fun n hn hl=>⟨hx35.keep n hl,⟨by have:=hn.1;omega,by omega⟩,by omega⟩
 have ho:OT H5 (fun n=>Rg H.next H5.next n∧n≠H.next+1) (cmpT sCall [t]) (six (cmpT sCall [t]) (some ⟨H3.next,0,none⟩) 1):=by
  refine OT.comp (by decide) g5 ⟨⟨by omega,by omega⟩,by omega⟩ (Zg _) (Zg _) (by decide) hx5.wf fun j hj=>?_
  match j,hj with
  |0,_=>exact hot.1.to fun n hn hl=>⟨hx35.keep n hl,⟨⟨by have:=hn.1;omega,by omega⟩,by have:=hn.1;omega⟩,by omega⟩
 refine OB.to (S:=fun n=>Rg H.next H5.next n∧n≠H.next+1) (.leaf _ 3 _ _ (by decide) ho.1 ho.2) (fun n hn hl=>⟨by rw[get_put,if_neg hn.2],by rw[z06];exact hl⟩) fun n hn=>⟨hn.1.1,by rw[z06];exact hn.1.2⟩
def RepE (H:Heap):Er→Value→Prop
 |.ok,v=>v=.nilIface
 |.num e,v=>v=.iface 37 (.int .i64 e)
 |.ball t,v=>∃p a c,v=.iface 68 (.pointer (some ⟨p,0,none⟩))∧H.get p=some (.row (six t a c) 71)∧RepT H t (six t a c)
theorem RepE.mono {H H':Heap}{e:Er}{v:Value}(h:RepE H e v) (hx:HX H H') (hw:H.wf):RepE H' e v:=by
 cases e with
 |ok=>exact h
 |num e=>exact h
 |ball t =>
  obtain⟨p,a,c,h1,h2,h3⟩:=h;exact⟨p,a,c,h1,hx.get hw h2,h3.mono hx hw⟩
def RepES (H:Heap) (S:Nat→Prop) (e:Er) (v:Value):Prop:=∀G:Heap,(∀n,S n→n < H.next→G.get n=H.get n)→RepE G e v
theorem RepES.rep {H:Heap}{S:Nat→Prop}{e:Er}{v:Value}(h:RepES H S e v):RepE H e v:=h H fun _ _ _=>rfl
theorem RepES.to {H H2:Heap}{S S2:Nat→Prop}{e:Er}{v:Value}(h:RepES H S e v) (hk:∀n,S n→n < H.next→H2.get n=H.get n∧S2 n∧n < H2.next):RepES H2 S2 e v:=fun G hG=>h G fun n hn hl=>by
 obtain⟨a,b,c⟩:=hk n hn hl;rw[hG n b c,a]
theorem RepES.fine {H:Heap}{S:Nat→Prop}:RepES H S .ok .nilIface:=fun _ _=>rfl
theorem RepES.num {H:Heap}{S:Nat→Prop}{e:Int}:RepES H S (.num e) (.iface 37 (.int .i64 e)):=fun _ _=>rfl
theorem RepES.ball {H:Heap}{S:Nat→Prop}{t:Tm}{p:Nat}{a:Option Addr}{c:Nat}(hg:H.get p=some (.row (six t a c) 71)) (hS:S p) (hw:H.wf) (hr:RepS H S t (six t a c)) :
  RepES H S (.ball t) (.iface 68 (.pointer (some ⟨p,0,none⟩))):=fun G hG=>⟨p,a,c,rfl,by rw[hG p hS (hw _ _ hg)];exact hg,hr G hG⟩
theorem zt9:mkiOk Tryz.prog 68=true:=by kernel_rfl
theorem zm9:mkiOk Tryz.prog 37=true:=by kernel_rfl
set_option maxHeartbeats 2000000 in
theorem z8i {t:Tm}{cs:List Value}{S:Nat→Prop}{H:Heap}(r0:RepS H S t cs) (hw:H.wf) (hS:∀n,S n→n < H.next) :
  EvF Tryz.prog okT 33 [.agg ⟨cs⟩] H fun v H'=>HX H H'∧RepES H' (fun n=>S n∨(H.next≤n∧n < H'.next)) (.ball t) v:=by
 obtain⟨a,c,cells,rfl,-⟩:=r0.rep.six;refine EvF.enter rfl Tryz.func33 (by decide) rfl ?_;(repeat refine EvC.seq ?_);refine EvC.reg ?_;simp only[sB,initTm,dBox,Value.cells,one];obtain⟨H2,e2,hx2,gt,hn2,hw2⟩:=new1 hw (.row (six t a c) 25);simp only[e2];clear e2;have qt:=row6 gt
 repeat' (first|refine EvC.seq ?_|(refine EvC.ret ?_)|(refine EvC.reg ?_;simp only[sB,dBox,Za,Zb,Value.cells,one,reduceCtorEq,layC,ld25,bd71,qt,z1c,z9s zt9]))
 obtain⟨H3,e3,hx3,g3,hn3,hw3⟩:=new1 hw2 (.row (six t a c) 71);simp only[e3];refine z03 rfl (by simp only[sG,Za,reduceCtorEq]) ⟨hx2.trans hx3,RepES.ball g3 (.inr ⟨by omega,by omega⟩) hw3 (r0.to fun n hn hl=>⟨by rw[hx3.keep n (by omega),hx2.keep n hl],.inl hn,by omega⟩)⟩
def stopCh:List PanicEntry:=[{ v:=.iface 97 (.agg #[]),recovered:=false }]
theorem zof:dmight Tryz.prog 62=.agg ⟨zero8⟩:=by kernel_rfl
theorem zrs:dmight Tryz.prog 81=.agg ⟨zero8⟩:=by kernel_rfl
def BodyEnd (H:Heap) (o:Option Bdy) (e:En) (H':Heap):Prop:=HX H H'∧match o with
 |some b=>∃out,e=.ret (.agg ⟨out⟩)∧OB H' 30 25 (Rg H.next H'.next) b out
 |none=>e=.panic stopCh
def BodyP (m:Nat):Prop:=∀{t:Tm}{cs:List Value}{H:Heap},SizeOf.sizeOf t < m→RepT H t cs→checkS t=0→H.wf→EvG Tryz.prog okT 62 [.agg ⟨cs⟩] H (BodyEnd H (bodyF m t))
theorem z68 {f:Tm→Option Bdy}:∀{l:List Tm}{bs:List Bdy}{t:Tm}{b:Bdy},subBL f l=some bs→f t=some b→subBL f (l++[t])=some (bs++[b])
 |[],bs,t,b,h,hb=>by
  cases h;simp [subBL,hb]
 |u :: l,bs,t,b,h,hb=>by
  rw[subBL] at h;split at h
  ·rename_i c cs h1 h2;cases h;rw[ZK,subBL,h1,z68 h2 hb];rfl
  ·cases h
theorem z72 {f:Tm→Option Bdy}:∀{l:List Tm}{t:Tm},t∈l→f t=none→subBL f l=none
 |u :: l,t,h,hn=>by
  rw[subBL];rcases List.mem_cons.1 h with rfl|h
  ·rw[hn]
  ·rw[z72 h hn];cases f u<;>rfl
theorem zi1 {f:Tm→Option Bdy}:∀{l:List Tm}{bs:List Bdy},subBL f l=some bs→bs.length=l.length
 |[],bs,h=>by cases h;rfl
 |u :: l,bs,h=>by
  rw[subBL] at h;split at h
  ·rename_i c cs h1 h2;cases h;simp [zi1 h2]
  ·cases h
set_option maxHeartbeats 8000000 in
theorem z9u {m:Nat}(hb:BodyP m) {k:Int}{l:List Tm}{a:Option Addr}{c:Nat}{cells:Nat→List Value}{H:Heap}(hk:i64 k) (rl:RepL H l a c cells) (hl:l.length≤64) (hs:∀t∈l,SizeOf.sizeOf t < m∧checkS t=0) (hw:H.wf) :
  EvG Tryz.prog okT 81 [.int .i64 k,.slice a l.length c] H (BodyEnd H (subBF (bodyF m) k l)):=by
 have apB:apOk Tryz.prog 28 30 8:=ap28;refine EvG.enter rfl Tryz.func81 (by decide) rfl ?_;(repeat refine EvC.seq ?_);refine EvC.reg ?_;simp only[sA,initTm,dAlloc,zr30];obtain⟨H2,e2,hx2,g4,hn2,hw2⟩:=new1 hw (.row zero8 30);simp only[e2];clear e2;(repeat refine EvC.seq ?_);refine EvC.reg ?_;simp (disch:=first|omega|rfl) only[sB,dAlloc,Za,Zb,Value.cells,one,reduceCtorEq,Zk,layC,zr30,bd30,st30];obtain⟨H3,e3,hx3,g5,hn3,hw3⟩:=z0l hw2 (.row zero8 30) (.row [.int .i64 k,.int .i64 0,.string Ze,.string Ze,.int .u64 0,.int .i64 0,.slice none 0 0,.slice none 0 0] 30);simp only[e3];clear e3;rw[hn2] at g5 hn3;have g5:H3.get (H.next+1)=some (.row (eightT k zeroT none 0 none 0 0) 30):=g5;have g4:=hx3.get hw2 g4;have hx:=hx2.trans hx3;have hmax:=rl.max;(repeat refine EvC.seq ?_);refine EvC.reg ?_;simp only[sB,Za,reduceCtorEq,ln23];refine EvC.join (fun st=>∃tm G bs ao co,st=⟨tm,[],G⟩∧tm.get 4=some (.pointer (some ⟨H.next,0,none⟩))∧tm.get 5=some (.pointer (some ⟨H.next+1,0,none⟩))∧G.get H.next=some (.row zero8 30) ∧
  G.get (H.next+1)=some (.row (eightT k zeroT none 0 ao bs.length co) 30)∧subBL (bodyF m) l=some bs∧OBL G 30 25 (fun n=>H.next+2≤n∧n < G.next) bs ao co∧HX H G) ?_ ?_
 ·refine EvC.block (EvC.loop (fun k' st=>∃tm G i bs ao co,st=⟨tm,[],G⟩∧k'=l.length - i∧i≤l.length∧bs.length=i∧tm.get 4=some (.pointer (some ⟨H.next,0,none⟩))∧tm.get 5=some (.pointer (some ⟨H.next+1,0,none⟩)) ∧
   tm.get 10=some (.slice a l.length c)∧tm.get 11=some (.int .i64 l.length)∧tm.get 12=some (.int .i64 (i:Nat))∧G.get H.next=some (.row zero8 30)∧G.get (H.next+1)=some (.row (eightT k zeroT none 0 ao i co) 30) ∧
   subBL (bodyF m) (l.take i)=some bs∧OBL G 30 25 (fun n=>H.next+2≤n∧n < G.next) bs ao co∧HX H G) ?_ l.length _ ?_)
  rotate_left
  ·exact⟨_,_,0,[],none,0,rfl,rfl,Zs _,rfl,(by simp only[sG,Za,reduceCtorEq]),by rw[←hn2];first|(simp only[sG,Za,reduceCtorEq];rfl)|simp only[sG,Za,reduceCtorEq],(by simp only[sG,Za,reduceCtorEq]),(by simp only[sG,Za,reduceCtorEq]),(by simp only[sB,Za,reduceCtorEq];rfl),g4,g5,rfl,.nil,hx⟩
  rintro k' st ⟨tm,G,i,bs,ao,co,rfl,rfl,hi,hbl,t4,t5,t10,t11,t12,g4G,g5G,hsub,hobl,hxG⟩;have hwG:=hxG.wf;by_cases hlt:i < l.length;rotate_left
  ·repeat' (first|refine EvC.seq ?_|(refine EvC.exit ?_;try simp only[sB])|(refine EvC.reg ?_;simp only[sA,t11,t12,decn hlt])|(refine EvC.condF ?_ ?_;simp only[sB];refine z07 ?_))
   obtain rfl:i=l.length:=by omega
   rw[List.take_length] at hsub;exact⟨_,_,bs,ao,co,rfl,(by simp only[sG,Za,t4]),(by simp only[sG,Za,t5]),g4G,by rw[hbl];exact g5G,hsub,hobl,hxG⟩
  obtain⟨b,o,a1,c1,rfl,hld,hr1⟩:=rl.el hlt;have hld1:=hxG.load hw hld;(repeat refine EvC.seq ?_);refine EvC.reg ?_;simp only[sA,t11,t12,decl hlt];(repeat refine EvC.seq ?_);refine EvC.condT (by simp only[sB]) ?_;(try refine EvC.skip ?_);(try simp only[z00,z01]);refine EvC.seq ?_;refine EvC.block ?_;(repeat refine EvC.seq ?_);refine EvC.reg ?_;simp (disch:=first|omega|rfl) only[sB,dAlloc,Za,Zb,one,ia23,ld25,zr25,st25,t10,t12,hld1];obtain⟨H4,e4,hx4,g7,hn4,hw4⟩:=z0l hwG (.row zero6 25) (.row (six l[i] a1 c1) 25);simp only[e4];clear e4;have q7:=row6 g7;have hxb:HX G ⟨H4.next+8,H4.t⟩:=hx4.bump 8;have hG4:=hx4.next;have g54:=hx4.get hwG g5G;have q54:=row8 g54;have hsi:=hs l[i] (Zx _);have hlg:=hwG _ _ g5G;subst hbl;have hsg:∀n,(H.next+2≤n∧n < G.next)→n < G.next:=fun n hn=>hn.2
  cases hbi:bodyF m l[bs.length] with
  |some bd =>
   refine EvC.drw [([(2,0)],some 3),([(0,0),(1,0),(4,1)],some 5),([(6,2)],some 7),([],none)] (by kernel_rfl) ?_;simp only[sD,sB,Za,Zb,reduceCtorEq,ld25,cl62,isAlloc,isRead,q7];refine EvG.toF (hb hsi.1 (hr1.mono (hxG.trans hxb) hw) hsi.2 hxb.wf) ?_;rintro e H5 ⟨hx5,he⟩;rw[hbi] at he;obtain⟨out,rfl,hob⟩:=he;refine⟨_,rfl,?_⟩;obtain⟨ta,tc,sa,sc,rfl⟩:=hob.rep.eight;have n5:H4.next+8≤H5.next:=hx5.next;have hx45:HX G H5:=hxb.trans hx5;obtain⟨H6,e6⟩:∃H6,H5.put (H4.next+4) (some (.row (eightT bd.kind bd.term ta tc sa bd.sub.length sc) 30))=H6:=⟨_,rfl⟩
   have hx6:HX G H6:=by rw[←e6];exact hx45.put (by omega) (by omega) _
   have hn6:H6.next=H5.next:=by rw[←e6,z06]
   have g6:H6.get (H4.next+4)=some (.row (eightT bd.kind bd.term ta tc sa bd.sub.length sc) 30):=by rw[←e6,get_put,if_pos rfl]
   have hob6:OB H6 30 25 (Rg (H4.next+8) H5.next) bd (eightT bd.kind bd.term ta tc sa bd.sub.length sc):=hob.to (fun n hn hl=>⟨by have:H4.next+8≤n:=hn.1;rw[←e6,get_put,if_neg (by omega)],by omega⟩) fun _ hn=>hn
   obtain⟨H7,e7,hobl7,hk7,hn7⟩:=OBL.push (N:=Rg (H4.next+8) H5.next) (S2:=fun n=>H.next+2≤n∧n < H6.next+1) (c1:=1) apB (hobl.keep hx6) hx6.wf (ld1 g6 rfl) hob6 (fun n hn hs=>by have:H4.next+8≤n:=hn.1;have:=hs.2;omega) (fun n hn=>by have:=hn.2;omega)
    (fun n hn=>by have:=hn.2;omega) (by unfold most;omega) (fun n hn=>by
     rcases hn with hn|hn|hn
     ·exact⟨hn.1,by omega⟩
     ·exact⟨by have:H4.next+8≤n:=hn.1;omega,by have:=hn.2;omega⟩
     ·exact⟨by omega,by omega⟩)
   have g55:=hx5.get hxb.wf (show (⟨H4.next+8,H4.t⟩:Heap).get (H.next+1)=_ from g54);have q55:=row8 g55;have g57:=hk7.get hx6.wf (hx6.get hwG g5G) (fun hs=>by have:=hs.1;omega);have g47:=hk7.get hx6.wf (hx6.get hwG g4G) (fun hs=>by have:=hs.1;omega);have hx7:HX H H7:=(hxG.trans hx6).then hk7 fun n hn hs=>by have:=hs.1;omega
   repeat' (first|(refine EvC.reg ?_;simp (disch:=first|omega|rfl) only[sB,Za,t12,z0b])|(refine z0h ?_;simp (disch:=first|omega|rfl) only[sV,sD,sB,Za,Zb,Value.cells,one,reduceCtorEq,layC,z1k,ld28,zdx,st28,t5,q54,q55,e6,e7,g57,isAlloc,isRead,dalloc]))
   refine⟨l.length - (bs.length+1),by omega,_,_,bs.length+1,bs++[bd],some ⟨H6.next,0,none⟩,bs.length+1,rfl,rfl,by omega,by simp,(by simp only[sG,Za,t4]),(by simp only[sG,Za,t5]),(by simp only[sG,Za,t10]),(by simp only[sG,Za,t11]),(by simp only[sB,Za];rfl),by rw[get_put,if_neg (by omega)];exact g47,by rw[get_put,if_pos rfl],
    by rw[←ZA hlt];exact z68 hsub hbi,hobl7.to (fun n hn hl=>⟨by rw[get_put,if_neg (by omega)],by rw[z06];exact hl⟩) fun n hn=>⟨hn.1,by rw[z06,hn7];exact hn.2⟩,hx7.pt (by omega) g57 _⟩
  |none =>
   obtain⟨Hq,eq⟩:∃Hq,(⟨H4.next+8,H4.t⟩:Heap).put (H4.next+4) (some (.row zero8 30))=Hq:=⟨_,rfl⟩
   have hxq:HX G Hq:=by rw[←eq];exact hxb.put (by omega) (by show _ < H4.next+8;omega) _
   have gq:Hq.get (H4.next+4)=some (.row zero8 30):=by rw[←eq,get_put,if_pos rfl]
   obtain⟨H7,e7,-,hk7,-⟩:=OBL.push (N:=fun _=>False) (S2:=fun _=>True) (u:=zeroB) (c1:=1) apB (hobl.keep hxq) hxq.wf (ld1 gq rfl) (OB.nil (by decide)) (fun _ h=>h.elim) (fun _ h=>h.elim) (fun n hn=>by have:=hn.2;have:=hxq.next;omega) (by unfold most;omega) (fun _ _=>trivial);have g57:=hk7.get hxq.wf (hxq.get hwG g5G) (fun hs=>by have:=hs.1;omega);refine EvC.drwP 3 _ [(2,0)] [([(0,0),(1,0),(4,1)],some 5),([(6,2)],some 7),([],none)] (by kernel_rfl) (by kernel_rfl) rfl rfl ?_;simp (disch:=first|omega|rfl) only[sV,sD,sB,Za,Zb,Value.cells,one,reduceCtorEq,layC,ld25,z1k,ld28,cl62,zdx,st28,isAlloc,isRead,dalloc,zm3,t5,q7,q54,zof,eq,e7,g57];refine EvG.toP (hb hsi.1 (hr1.mono (hxG.trans hxb) hw) hsi.2 hxb.wf) ?_;rintro e H5 ⟨hx5,he⟩;rw[hbi] at he;refine⟨_,he,And.intro rfl ⟨(hxG.trans hxb).trans hx5,?_⟩⟩;rw[show subBF (bodyF m) k l=none from by unfold subBF;rw[z72 (Zx _) hbi];rfl]
 ·rintro st ⟨tm,G,bs,ao,co,rfl,t4,t5,g4G,g5G,hsub,hobl,hxG⟩;have q5:=row8 g5G
  repeat' (first|refine EvC.seq ?_|(refine EvC.ret ?_)|(refine EvC.reg ?_;simp (disch:=first|omega|rfl) only[sB,Za,Zb,one,st30,ld30,t4,t5,q5,g4G]))
  refine z17 (z0a rfl (by simp only[sB,Za,t4];rfl) (by simp only[sB,Zb,cutC,ld30];rfl) ⟨hxG.pt (Zg _) g4G _,?_⟩);rw[show subBF (bodyF m) k l=some (.mk k zeroT bs) from by unfold subBF;rw[hsub];rfl];refine⟨_,rfl,OBL.mk (ts:=six zeroT none 0) (hobl.to (fun n hn hl=>⟨by rw[get_put,if_neg (by omega)],by rw[z06];exact hl⟩) fun n hn=>⟨by omega,by rw[z06];exact hn.2⟩) hk (RepS.leaf z52 rfl (Zs _) (fun _=>rfl)) rfl⟩
theorem zma:∀(l:List Tm),(∀t∈l,∀n,n+nd t≤4000→cnt t n=n+nd t)→∀n,n+nd.ndL l≤4000→cntL l n=n+nd.ndL l
 |[],_,n,_=>by rw[cntL,nd.ndL];rfl
 |t :: l,h,n,hn=>by
  rw[nd.ndL] at hn ⊢;rw[cntL,if_neg (by omega),h t (by simp) n (by omega),zma l (fun u hu=>h u (Zn _ hu)) _ (by omega)];omega
theorem z45:∀(m:Nat) (t:Tm),SizeOf.sizeOf t < m→∀n,n+nd t≤4000→cnt t n=n+nd t
 |0,_,h,_,_=>by omega
 |m+1,t,h,n,hn=>by
  rw[z1p] at hn ⊢;rw[z4e,zma _ (fun u hu k=>z45 m u (by have:=z0d hu;omega) k) _ (by omega)];omega
theorem zmb:∀{l:List Tm}{u:Tm},u∈l→nd u≤nd.ndL l
 |t :: l,u,h=>by
  rw[nd.ndL];rcases List.mem_cons.1 h with rfl|h
  ·omega
  ·have:=zmb h;omega
theorem z0p {t u:Tm}(h:checkS t=0) (hu:u∈t.args):checkS u=0:=by
 have h1:=z0e.1 h;have h2:=zaz _ t (Zf _) 0 h1.1;have h3:=zmb hu;have h4:=z1p t;have h5:=z45 _ u (Zf _) 0 (by omega);exact z0e.2 ⟨by omega,h1.2.args u hu⟩
theorem zcj {H:Heap}{b o n:Nat}{l:List Value}(hw:H.wf) (h:H.load ⟨b,o,none⟩ n=some l):b < H.next:=by
 unfold Heap.load Heap.cells at h;simp only at h;cases hg:H.get b with
 |none=>rw[hg] at h;cases h
 |some B=>exact hw b B hg
theorem neu (n:Nat):(n=n+1)=False:=by simp
theorem neu' (n:Nat):(n+1=n)=False:=by simp
theorem zq1:mkiOk Tryz.prog 97=true:=by kernel_rfl
set_option maxHeartbeats 8000000 in
theorem zjj {m:Nat}(hb:BodyP m) {t:Tm}{cs:List Value}{H:Heap}(hs:SizeOf.sizeOf t < m+1) (r:RepT H t cs) (h2:t.args.length=2) (hc:checkS t=0) (hw:H.wf) :
  EvG Tryz.prog okT 80 [.agg ⟨cs⟩] H (BodyEnd H (withinF (bodyF m) t)):=by
 have r0:=r;obtain⟨a,c,cells,rfl,-,-,-,-,-,rl⟩:=r.six;obtain⟨x,y,hxy⟩:∃x y,t.args=[x,y]:=by
  match hl:t.args,h2 with
  |[x,y],_=>exact⟨x,y,rfl⟩
 have ex:t.at 0=x:=by unfold Tm.at;rw[hxy];rfl
 have ey:t.at 1=y:=by unfold Tm.at;rw[hxy];rfl
 have g0:t.args[0]'(by omega)=x:=by simp [hxy]
 have g1:t.args[1]'(by omega)=y:=by simp [hxy]
 obtain⟨b,o,a1,c1,rfl,hld0,hr0⟩:=rl.el (i:=0) (by omega);obtain⟨b',o',a2,c2,e2,hld1,hr1⟩:=rl.el (i:=1) (by omega);cases e2;rw[g0] at hld0 hr0;rw[g1] at hld1 hr1;simp only[Zu,Nat.add_zero,ZL] at hld0 hld1;have hcx:=z0p hc (u:=x) (by rw[hxy];simp);have hcy:=z0p hc (u:=y) (by rw[hxy];simp);have hsy:SizeOf.sizeOf y < SizeOf.sizeOf t:=z0d (by rw[hxy];simp);refine EvG.enter rfl Tryz.func80 (by decide) rfl ?_;(repeat refine EvC.seq ?_);refine EvC.reg ?_;simp (disch:=first|omega|rfl) only[sB,initTm,dBox,dAlloc,Value.cells,one,zr30];obtain⟨H2,e2,hx2,gt,gq,hn2,hw2⟩:=new2 hw (.row (six t (some ⟨b,o,none⟩) c) 25) (.row zero8 30);simp only[e2];clear e2;have qt:=row6 gt;have l0:=hx2.load hw hld0;have l1:=hx2.load hw hld1;have hbl:=zcj hw2 l0;have b8:(b=H2.next+8)=False:=by simp;omega
 have b9:(b=H2.next+9)=False:=by simp;omega
 have h8:(H.next=H2.next+8)=False:=by simp;omega
 have h9:(H.next=H2.next+9)=False:=by simp;omega
 (repeat refine EvC.seq ?_);refine EvC.meet (fun st=>∃tm G,st=⟨tm,[],G⟩∧tm.get 1=some (.pointer (some ⟨H.next,0,none⟩))∧tm.get 2=some (.pointer (some ⟨H.next+1,0,none⟩))∧tm.get 3=some (.pointer (some ⟨H2.next+8,0,none⟩))∧tm.get 4=some (.pointer (some ⟨H2.next+9,0,none⟩)) ∧
  G.get (H2.next+8)=some (.row (six x a1 c1) 25)∧G.get (H2.next+9)=some (.row (six y a2 c2) 25)∧HX H2 G) ?_ ?_
 ·refine EvC.drw [([(0,0),(1,0),(2,0),(3,0),(8,0),(9,0)],some 10),([(4,0),(5,0),(6,0),(7,0)],some 11),([],none)] (by kernel_rfl) ?_;simp (disch:=first|omega|rfl) only[sV,sD,sB,dAlloc,Za,Zb,one,reduceCtorEq,cutC,Zv,z0j,ld23,ld25,zr25,st25,isAlloc,isRead,dalloc,qt,l0,l1,iz23,Zu,ZL,neu,neu',b8,b9,h8,h9];have hxb:=(HX.refl hw2).bump 12;refine⟨_,_,rfl,(by simp only[sG,Za,reduceCtorEq]),(by simp only[sG,Za,reduceCtorEq]),(by simp only[sG,Za,reduceCtorEq]),(by simp only[sG,Za,reduceCtorEq]),by rw[get_put,if_neg (by omega),get_put,if_pos rfl],by rw[get_put,if_pos rfl],
   (((hxb.put (i:=H2.next+8) (by omega) (by show _ < H2.next+12;omega) _).put (i:=H2.next+9) (by omega) (by show _ < H2.next+12;omega) _).put (i:=H2.next+8) (by omega) (by show _ < H2.next+12;omega) _).put (i:=H2.next+9) (by omega) (by show _ < H2.next+12;omega) _⟩
 rintro st ⟨tm,G,rfl,t1,t2,t3,t4,gx,gy,hx3⟩;have qx:=row6 gx;have qy:=row6 gy;have gt3:=hx3.get hw2 gt;have gq3:=hx3.get hw2 gq;have n3:=hx3.next;have hxG:=hx2.trans hx3;have hwG:=hxG.wf;have lx:=hwG _ _ gx;have lyy:=hwG _ _ gy;have qt3:=row6 gt3;simp only[z00];(repeat refine EvC.seq ?_);refine EvC.join (fun st=>∃tm',st=⟨tm',[],G⟩∧tm'.get 1=some (.pointer (some ⟨H.next,0,none⟩))∧tm'.get 2=some (.pointer (some ⟨H.next+1,0,none⟩))∧tm'.get 3=some (.pointer (some ⟨H2.next+8,0,none⟩))∧tm'.get 4=some (.pointer (some ⟨H2.next+9,0,none⟩)) ∧
  ¬(isNum (t.at 1)∨((t.at 0).kind≠2∧(t.at 0).kind≠1))∧¬((t.at 0).kind=1∨(t.at 1).kind=1)) ?_ ?_
 ·rw[ex,ey];refine EvC.block ?_;obtain⟨bb,hbb⟩:∃bb:Bool,(bb=true↔(isNum y∨(x.kind≠2∧x.kind≠1))):=⟨decide (isNum y∨(x.kind≠2∧x.kind≠1)),decide_eq_true_iff⟩
  (repeat refine EvC.seq ?_);refine EvC.meet (fun st=>∃tm',st=⟨tm',[],G⟩∧tm'.get 1=some (.pointer (some ⟨H.next,0,none⟩))∧tm'.get 2=some (.pointer (some ⟨H.next+1,0,none⟩))∧tm'.get 3=some (.pointer (some ⟨H2.next+8,0,none⟩))∧tm'.get 4=some (.pointer (some ⟨H2.next+9,0,none⟩))∧tm'.get 14=some (.bool bb)) ?_ ?_
  ·by_cases y3:y.kind=3
   ·have hb':bb=true:=hbb.2 (.inl (.inl y3));refine EvC.reg ?_;simp only[sB,Za,z0g,ld3,t4,qy,z0k y3];exact⟨_,rfl,(by simp only[sG,Za,t1]),(by simp only[sG,Za,t2]),(by simp only[sG,Za,t3]),(by simp only[sG,Za,t4]),by rw[hb'];first|(simp only[sG,Za];rfl)|simp only[sG,Za]⟩
   by_cases y4:y.kind=4
   ·have hb':bb=true:=hbb.2 (.inl (.inr y4));refine EvC.reg ?_;simp only[sB,Za,z0g,ld3,t4,qy,z0m y3,z0k y4,Zd];exact⟨_,rfl,(by simp only[sG,Za,t1]),(by simp only[sG,Za,t2]),(by simp only[sG,Za,t3]),(by simp only[sG,Za,t4]),by rw[hb'];first|(simp only[sG,Za];rfl)|simp only[sG,Za]⟩
   have hn:¬isNum y:=fun h=>by rcases h with h|h;exact y3 h;exact y4 h
   by_cases x2:x.kind=2
   ·have hb':bb=false:=by
     cases hq:bb with
     |false=>rfl
     |true=>rcases hbb.1 hq with h|h;exact absurd h hn;exact absurd x2 h.1
    refine EvC.reg ?_;simp only[sB,Za,z0g,ld3,t3,t4,qx,qy,z0m y3,z0m y4,z0z x2,Zd];exact⟨_,rfl,(by simp only[sG,Za,t1]),(by simp only[sG,Za,t2]),(by simp only[sG,Za,t3]),(by simp only[sG,Za,t4]),by rw[hb'];first|(simp only[sG,Za];rfl)|simp only[sG,Za]⟩
   by_cases x1:x.kind=1
   ·have hb':bb=false:=by
     cases hq:bb with
     |false=>rfl
     |true=>rcases hbb.1 hq with h|h;exact absurd h hn;exact absurd x1 h.2
    refine EvC.reg ?_;simp only[sB,Za,z0g,ld3,t3,t4,qx,qy,z0m y3,z0m y4,z1j x2,z0z x1,Zd];exact⟨_,rfl,(by simp only[sG,Za,t1]),(by simp only[sG,Za,t2]),(by simp only[sG,Za,t3]),(by simp only[sG,Za,t4]),by rw[hb'];first|(simp only[sG,Za];rfl)|simp only[sG,Za]⟩
   ·have hb':bb=true:=hbb.2 (.inr ⟨x2,x1⟩);refine EvC.reg ?_;simp only[sB,Za,z0g,ld3,t3,t4,qx,qy,z0m y3,z0m y4,z1j x2,z1j x1,Zd];exact⟨_,rfl,(by simp only[sG,Za,t1]),(by simp only[sG,Za,t2]),(by simp only[sG,Za,t3]),(by simp only[sG,Za,t4]),by rw[hb'];first|(simp only[sG,Za];rfl)|simp only[sG,Za]⟩
  rintro st ⟨tm,rfl,t1,t2,t3,t4,t14⟩;simp only[z00];cases bb with
  |true =>
   have hw':withinF (bodyF m) t=none:=by unfold withinF;rw[ex,ey,if_pos (hbb.1 rfl)]
   refine EvC.condT (by simp only[sA,t14]) ?_;refine EvC.regP 2 _ rfl rfl ?_;simp (disch:=first|omega|rfl) only[sB,Za,Value.cells,layC,bd97,zhy,z1c,z9s zq1,zen,zb2];refine And.intro rfl ⟨hxG,?_⟩;rw[hw'];rfl
  |false =>
   have hnb:¬(isNum y∨(x.kind≠2∧x.kind≠1)):=fun h=>by have:=hbb.2 h;cases this
   refine EvC.condF (by simp only[sA,t14]) ?_;by_cases hcl:x.kind=1∨y.kind=1
   ·have hw':withinF (bodyF m) t=some (callB t):=by unfold withinF;rw[ex,ey,if_neg hnb,if_pos hcl]
    (repeat refine EvC.seq ?_);refine EvC.meet (fun st=>∃tm',st=⟨tm',[],G⟩∧tm'.get 1=some (.pointer (some ⟨H.next,0,none⟩))∧tm'.get 2=some (.pointer (some ⟨H.next+1,0,none⟩))∧tm'.get 35=some (.bool true)) ?_ ?_
    ·by_cases x1:x.kind=1
     ·refine EvC.reg ?_;simp only[sB,Za,z0g,ld3,t3,qx,z0k x1];exact⟨_,rfl,(by simp only[sG,Za,t1]),(by simp only[sG,Za,t2]),by first|(simp only[sG,Za];rfl)|simp only[sG,Za]⟩
     ·have y1:=hcl.resolve_left x1;refine EvC.reg ?_;simp only[sB,Za,z0g,ld3,t3,t4,qx,qy,z0m x1,z0k y1,Zd];exact⟨_,rfl,(by simp only[sG,Za,t1]),(by simp only[sG,Za,t2]),by first|(simp only[sG,Za];rfl)|simp only[sG,Za]⟩
    rintro st ⟨tm,rfl,t1,t2,t35⟩;simp only[z00];refine EvC.condT (by simp only[sA,t35]) ?_;(repeat refine EvC.seq ?_);refine EvC.reg ?_;simp only[sB,Za,ld25,cl79,t1,qt3];refine(zeo (r0.mono hxG hw) hc hwG).mono ?_;rintro v H5 ⟨hx5,out,rfl,hob⟩;obtain⟨ta,tc,sa,sc,rfl⟩:=hob.rep.eight;have gq5:=hx5.get hwG gq3;have n5:=hx5.next;have nG:=hxG.next
    repeat' (first|(refine EvC.ret ?_;try simp only[z04,z02])|(refine z0i ?_;simp (disch:=first|omega|rfl) only[sB,Zb,one,st30,t2,gq5]))
    refine z17 (z0a rfl (by simp only[sB,Za,t2];rfl) (by simp only[sB,Zb,cutC,ld30];rfl) ⟨(hxG.trans hx5).pt (by omega) gq5 _,?_⟩);rw[hw'];exact⟨_,rfl,hob.to (fun n hn hl=>⟨by have:=hn.1;rw[get_put,if_neg (by omega)],by rw[z06];exact hl⟩) fun n hn=>⟨by have:=hn.1;omega,by rw[z06];exact hn.2⟩⟩
   have x1:¬x.kind=1:=fun h=>hcl (.inl h)
   have y1:¬y.kind=1:=fun h=>hcl (.inr h)
   repeat' (first|refine EvC.seq ?_|(refine EvC.skip ?_;try simp only[sA])|(refine EvC.reg ?_;simp only[sB,Za,z0g,ld3,t3,t4,qx,qy,z0m x1,z0m y1,Zd])|(refine EvC.condF ?_ ?_;simp only[sB,Za];refine z07 ?_))
   exact⟨_,rfl,(by simp only[sG,Za,t1]),(by simp only[sG,Za,t2]),(by simp only[sG,Za,t3]),(by simp only[sG,Za,t4]),hnb,fun h=>by rcases h with h|h;exact x1 h;exact y1 h⟩
 rw[ex,ey];rintro st ⟨tm,rfl,t1,t2,t3,t4,hnb,hnc⟩;have hwi:withinF (bodyF m) t=(bodyF m y).map fun b=>.mk 7 x [b]:=by unfold withinF;rw[ex,ey,if_neg hnb,if_neg hnc]
 rw[hwi];have hx2k:x.kind=2:=by
  by_cases h:x.kind=2
  ·exact h
  ·exact absurd (.inr ⟨h,fun h'=>hnc (.inl h')⟩) hnb
 have hxa:x.args=[]:=by
  have k:=z22 (z0e.1 hcx).2.node;exact(z1v k.2.2.1).2.2.2.2 (by omega)
 obtain⟨H4,e4,hx4,g4,hn4,hw4⟩:=new1 hwG (.row (six y a2 c2) 25);have hyG:=(hr1.mono hxG hw).mono hx4 hwG;have rly:RepL H4 [y] (some ⟨G.next,0,none⟩) 1 (fun _=>six y a2 c2):=RepL.of_row g4 (fun i hi=>by
   match i,hi with
   |0,_=>rfl) (fun i u hu=>by
   match i,hu with
   |0,hu=>cases hu;exact hyG) (Zg _) (by decide)
 have hsub:=z9u hb (k:=7) (by decide) rly (by show 1≤64;decide) (fun u hu=>by
  rw[List.mem_singleton] at hu;subst hu;exact⟨by omega,hcy⟩) hw4
 have es:subBF (bodyF m) 7 [y]=(bodyF m y).map fun b=>.mk 7 zeroT [b]:=by
  unfold subBF;rw[subBL];cases bodyF m y<;>rfl
 cases hby:bodyF m y with
 |none =>
  rw[es,hby] at hsub;(repeat refine EvC.seq ?_);refine EvC.regP 2 _ rfl rfl ?_;simp (disch:=first|omega|rfl) only[sB,Za,Zb,Value.cells,one,layC,ld25,z4s,cl81,z7o,t4,qy];simp only[e4];refine EvG.toP hsub ?_;rintro e H5 ⟨hx5,he⟩;exact⟨_,he,And.intro rfl ⟨(hxG.trans hx4).trans hx5,rfl⟩⟩
 |some bd =>
  rw[es,hby] at hsub;(repeat refine EvC.seq ?_);refine EvC.reg ?_;simp (disch:=first|omega|rfl) only[sB,dAlloc,Za,Zb,Value.cells,one,layC,zr30,ld25,z4s,cl81,t4,qy];simp only[e4];refine EvG.toF hsub ?_;rintro e H5 ⟨hx5,out,he,hob⟩;obtain⟨ts,sa,sc,rfl,hts,hobl⟩:=hob.parts;obtain⟨a5,c5,cells5,rfl,-⟩:=hts.six;have he:e=.ret (.agg ⟨eightT 7 zeroT a5 c5 sa 1 sc⟩):=he;refine⟨_,he,?_⟩;try simp (disch:=first|omega|rfl) only[sB,Zb,one,st30]
  obtain⟨H6,e6,hx6,g6,hn6,hw6⟩:=z0l hx5.wf (.row zero8 30) (.row (eightT 7 zeroT a5 c5 sa 1 sc) 30);simp only[e6];clear e6;have q6:=row8 g6;have n5:=hx5.next;have hx46:=hx5.trans hx6;have gx6:=hx46.get hw4 (hx4.get hwG gx);have qx6:=row6 gx6;have gq6:=hx46.get hw4 (hx4.get hwG gq3);have nG:=hxG.next;have ne5:(H.next+1=H5.next)=False:=by simp;omega
  repeat' (first|refine EvC.seq ?_|(refine EvC.ret ?_)|(refine EvC.reg ?_;simp (disch:=first|omega|rfl) only[sB,Za,Zb,one,cutC,Zk,ld25,st25,st30,z5r,ld30,t2,t3,qx6,q6,g6,gq6,ne5]))
  have hxf:=((hxG.trans hx4).trans hx46)
  refine z17 (z0a rfl (by simp only[sB,Za,t2];rfl) (by simp only[sB,Zb,cutC,ld30];rfl) ⟨(hxf.pt (i:=H5.next) (by omega) g6 _).pt (by omega) (by rw[get_put,if_neg (by omega)];exact gq6) _,?_⟩);obtain⟨ax,cx,cellsx,ee,-,-,-,-,-,rlx⟩:=hr0.six;obtain⟨-,-,-,-,-,rfl,rfl⟩:=z4h ee;refine⟨_,rfl,OBL.mk (k:=7) (t:=x) (ts:=six x a1 c1) (hobl.to (fun n hn hl=>?_) fun n hn=>?_) (by decide) (RepS.leaf hr0.bd hxa rlx.cap fun h=>(rlx.nil h).2) hxa⟩
  ·have:H4.next≤n:=hn.1;rw[get_put,if_neg (by omega),get_put,if_neg (by omega)];exact⟨hx6.keep n hl,by rw[z06,z06];omega⟩
  ·have:H4.next≤n:=hn.1;exact⟨by omega,by rw[z06,z06];have:=hn.2;omega⟩
theorem ldA5 {H:Heap}{b o:Nat}{x0 x1 x2 x3 x4 x5:Value}(h:H.load ⟨b,o,none⟩ 6=some [x0,x1,x2,x3,x4,x5]):H.load ⟨b,o+5,none⟩ 1=some [x5]:=by
 unfold Heap.load at h ⊢;simp only at h ⊢;cases hc:H.cells b with
 |none=>rw[hc] at h;cases h
 |some cs =>
  rw[hc] at h;simp only at h ⊢;split at h
  ·rename_i hb;simp only[Option.some.injEq] at h;have e:(cs.drop (o+5)).take 1=[x5]:=by
    have:((cs.drop o).take 6).drop 5=[x5]:=by rw[h];rfl
    rw[List.drop_take,List.drop_drop] at this;exact this
   rw[e];rfl
  ·cases h
theorem zep {m:Nat}{t:Tm}(h:isNum t):bodyF (m+1) t=none:=by rw[bodyF,if_pos h]
set_option maxHeartbeats 16000000 in
theorem zmc {m:Nat}(hb:BodyP m) {t:Tm}{cs:List Value}{H:Heap}(hs:SizeOf.sizeOf t < m+1) (r:RepT H t cs) (hc:checkS t=0) (hw:H.wf) :
  EvG Tryz.prog okT 62 [.agg ⟨cs⟩] H (BodyEnd H (bodyF (m+1) t)):=by
  have r0:=r;have hf:=(z0e.1 hc).2;have hfew:=z4g hf;have hlf:∀{u:Tm},u∈t.args→SizeOf.sizeOf u < m∧checkS u=0:=fun hu=>⟨by have:=z0d hu;omega,z0p hc hu⟩
  obtain⟨a,c,cells,rfl,-,-,-,-,-,rl⟩:=r.six;refine EvG.enter rfl Tryz.func62 (by decide) rfl ?_;(repeat refine EvC.seq ?_);refine EvC.reg ?_;simp (disch:=first|omega|rfl) only[sB,initTm,dBox,dAlloc,Value.cells,one,zr30];obtain⟨H2,e2,hx,gt,gq,hn2,hw2⟩:=new2 hw (.row (six t a c) 25) (.row zero8 30);simp only[e2];clear e2;have qt:=row6 gt;have lt:=hw2 _ _ gq;(repeat refine EvC.seq ?_);refine EvC.join (fun st=>∃tm G,st=⟨tm,[],G⟩∧tm.get 1=some (.pointer (some ⟨H.next,0,none⟩))∧tm.get 2=some (.pointer (some ⟨H.next+1,0,none⟩))∧G.get H.next=some (.row (six t a c) 25)∧G.get (H.next+1)=some (.row zero8 30)∧HX H G ∧
   bodyF (m+1) t=some (.mk 3 t [])) ?_ ?_
  rotate_left
  ·rintro st ⟨tm,G,rfl,t1,t2,gt,gq,hx,hbd⟩;have qt:=row6 gt;(repeat refine EvC.seq ?_);refine EvC.reg ?_;simp (disch:=first|omega|rfl) only[sB,Za,Zb,Value.cells,one,Zk,layC,ld25,bd30,cl56,t1,qt];refine(z9t (r0.mono hx hw) hc hx.wf).mono ?_;rintro v H5 ⟨hx5,out,rfl,hot⟩;obtain⟨ta,tc,cellst,rfl,-⟩:=hot.rep.six;have gq5:=hx5.get hx.wf gq;have n5:=hx5.next;have nx:=hx.next;have lq:=hx.wf _ _ gq
   repeat' (first|(refine EvC.ret ?_)|(refine z0i ?_;simp (disch:=first|omega|rfl) only[sB,Za,Zb,one,Zk,st30,t2,gq5]))
   refine z17 (z0a rfl (by simp only[sB,Za,t2];rfl) (by simp only[sB,Zb,cutC,ld30];rfl) ⟨(hx.trans hx5).pt (by omega) gq5 _,?_⟩);rw[hbd];have hot':OT (H5.put (H.next+1) (some (.row (eightT 3 t ta tc none 0 0) 30))) (Rg H.next H5.next) t (six t ta tc):=hot.to fun n hn hl=>⟨by have:=hn.1;rw[get_put,if_neg (by omega)],⟨by have:=hn.1;omega,hl⟩,by rw[z06];exact hl⟩
   exact⟨_,rfl,.leaf _ 3 t (six t ta tc) (by decide) hot'.1 hot'.2⟩
  refine EvC.block ?_;(repeat refine EvC.seq ?_);refine EvC.meet (fun st=>∃tm',st=⟨tm',[],H2⟩∧tm'.get 1=some (.pointer (some ⟨H.next,0,none⟩))∧tm'.get 2=some (.pointer (some ⟨H.next+1,0,none⟩))∧tm'.get 3=some (.bool (decide (isNum t)))) ?_ ?_
  ·by_cases n3:t.kind=3
   ·have hd:decide (isNum t)=true:=decide_eq_true (.inl n3);refine EvC.reg ?_;simp only[sB,Za,reduceCtorEq,z0g,ld3,qt,z0k n3];exact⟨_,rfl,(by simp only[sG,Za,reduceCtorEq]),(by simp only[sG,Za,reduceCtorEq]),by rw[hd];first|(simp only[sG,Za,reduceCtorEq];rfl)|simp only[sG,Za,reduceCtorEq]⟩
   by_cases n4:t.kind=4
   ·have hd:decide (isNum t)=true:=decide_eq_true (.inr n4);refine EvC.reg ?_;simp only[sB,Za,reduceCtorEq,z0g,ld3,qt,z0m n3,z0k n4,Zd];exact⟨_,rfl,(by simp only[sG,Za,reduceCtorEq]),(by simp only[sG,Za,reduceCtorEq]),by rw[hd];first|(simp only[sG,Za,reduceCtorEq];rfl)|simp only[sG,Za,reduceCtorEq]⟩
   ·have hd:decide (isNum t)=false:=decide_eq_false fun h=>by rcases h with h|h;exact n3 h;exact n4 h
    refine EvC.reg ?_;simp only[sB,Za,reduceCtorEq,z0g,ld3,qt,z0m n3,z0m n4,Zd];exact⟨_,rfl,(by simp only[sG,Za,reduceCtorEq]),(by simp only[sG,Za,reduceCtorEq]),by rw[hd];first|(simp only[sG,Za,reduceCtorEq];rfl)|simp only[sG,Za,reduceCtorEq]⟩
  rintro st ⟨tm,rfl,t1,t2,t3⟩;simp only[z00];by_cases hn:isNum t
  ·have hd:decide (isNum t)=true:=decide_eq_true hn;refine EvC.condT (by simp only[sA,t3,hd]) ?_;refine EvC.regP 2 _ rfl rfl ?_;simp (disch:=first|omega|rfl) only[sB,Za,Value.cells,layC,bd97,zhy,z1c,z9s zq1,zen,zb2];exact And.intro rfl ⟨hx,by rw[zep hn];rfl⟩
  have hd:decide (isNum t)=false:=decide_eq_false hn;refine EvC.condF (by simp only[sA,t3,hd]) ?_;refine EvC.frame (fun tm=>tm.get 1=some (.pointer (some ⟨H.next,0,none⟩))∧tm.get 2=some (.pointer (some ⟨H.next+1,0,none⟩))) ⟨t1,t2⟩ ?_;clear t1 t2 t3 hd tm;rintro tm ⟨t1,t2⟩;by_cases k1:t.kind=1
  ·have hbd:bodyF (m+1) t=some (callB t):=by rw[bodyF,if_neg hn,if_pos k1]
   (repeat refine EvC.seq ?_);refine EvC.reg ?_;simp only[sB,Za,z0g,ld3,t1,qt,z0k k1];refine EvC.condT (by simp only[sB,Za]) ?_;(try refine EvC.skip ?_);(try simp only[z00,z01]);(repeat refine EvC.seq ?_);refine EvC.reg ?_;simp only[sB,Za,ld25,cl79,t1,qt];refine(zeo (r0.mono hx hw) hc hx.wf).mono ?_;rintro v H5 ⟨hx5,out,rfl,hob⟩;obtain⟨ta,tc,sa,sc,rfl⟩:=hob.rep.eight;have gq5:=hx5.get hx.wf gq;have n5:=hx5.next;have nx:=hx.next;have lq:=hx.wf _ _ gq
   repeat' (first|(refine EvC.ret ?_;try simp only[z04,z02])|(refine z0i ?_;simp (disch:=first|omega|rfl) only[sB,Zb,one,st30,t2,gq5]))
   refine z17 (z0a rfl (by simp only[sB,Za,t2];rfl) (by simp only[sB,Zb,cutC,ld30];rfl) ⟨(hx.trans hx5).pt (by omega) gq5 _,?_⟩);rw[hbd];exact⟨_,rfl,hob.to (fun n hn hl=>⟨by have:=hn.1;rw[get_put,if_neg (by omega)],by rw[z06];exact hl⟩) fun n hn=>⟨by have:=hn.1;omega,by rw[z06];exact hn.2⟩⟩
  (repeat refine EvC.seq ?_);refine EvC.reg ?_;simp only[sB,Za,z0g,ld3,t1,qt,z0m k1];refine EvC.condF (by simp only[sB,Za]) ?_;(try refine EvC.skip ?_);(try simp only[z00,z01]);refine EvC.frame (fun tm=>tm.get 1=some (.pointer (some ⟨H.next,0,none⟩))∧tm.get 2=some (.pointer (some ⟨H.next+1,0,none⟩))) ⟨(by simp only[sG,Za,t1]),(by simp only[sG,Za,t2])⟩ ?_;clear t1 t2 tm;rintro tm ⟨t1,t2⟩;by_cases ktrue:t.kind=2∧t.name=sTrue
  ·have hbd:bodyF (m+1) t=some (.mk 1 zeroT []):=by rw[bodyF,if_neg hn,if_neg k1,if_pos ktrue]
   (repeat refine EvC.seq ?_);refine EvC.reg ?_;simp only[sB,Za,z0g,ld3,z16,ld9,t1,qt,z0k ktrue.1,z13,z86 ktrue.2];refine EvC.condT (by simp only[sB,Za]) ?_;(try refine EvC.skip ?_);(try simp only[z00,z01]);have lq:=hx.wf _ _ gq
   repeat' (first|refine EvC.seq ?_|(refine EvC.ret ?_;try simp only[z04,z02])|(refine EvC.reg ?_;simp (disch:=first|omega|rfl) only[sB,Za,Zb,Value.cells,one,Zk,layC,st30,bd30,t2,gq]))
   refine z17 (z0a rfl (by simp only[sB,Za,t2];rfl) (by simp only[sB,Zb,cutC,ld30];rfl) ⟨hx.pt (by omega) gq _,?_⟩);rw[hbd];exact⟨_,rfl,OB.nil (by decide)⟩
  refine EvC.cut (fun st=>∃tm',st=⟨tm',[],H2⟩∧tm'.get 1=some (.pointer (some ⟨H.next,0,none⟩))∧tm'.get 2=some (.pointer (some ⟨H.next+1,0,none⟩))∧tm'.get 20=some (.bool false)) ?_ ?_
  ·by_cases k2:t.kind=2
   ·have kn:t.name≠sTrue:=fun h=>ktrue ⟨k2,h⟩
    refine EvC.reg ?_;simp only[sB,Za,z0g,ld3,z16,ld9,t1,qt,z0k k2,z13,zb3 kn];exact⟨_,rfl,(by simp only[sG,Za,t1]),(by simp only[sG,Za,t2]),by first|(simp only[sG,Za];rfl)|simp only[sG,Za]⟩
   ·refine EvC.reg ?_;simp only[sB,Za,z0g,ld3,t1,qt,z0m k2,Zd];exact⟨_,rfl,(by simp only[sG,Za,t1]),(by simp only[sG,Za,t2]),by first|(simp only[sG,Za];rfl)|simp only[sG,Za]⟩
  clear t1 t2 tm;rintro st ⟨tm,rfl,t1,t2,tc⟩;refine EvC.condF (by simp only[sA,tc]) ?_;(try refine EvC.skip ?_);(try simp only[z00,z01]);clear tc;by_cases kexc:t.kind=2∧t.name=sExc
  ·have hbd:bodyF (m+1) t=some (.mk 2 zeroT []):=by rw[bodyF,if_neg hn,if_neg k1,if_neg ktrue,if_pos kexc]
   (repeat refine EvC.seq ?_);refine EvC.reg ?_;simp only[sB,Za,z0g,ld3,z16,ld9,t1,qt,z0k kexc.1,z13,z86 kexc.2];refine EvC.condT (by simp only[sB,Za]) ?_;(try refine EvC.skip ?_);(try simp only[z00,z01]);have lq:=hx.wf _ _ gq
   repeat' (first|refine EvC.seq ?_|(refine EvC.ret ?_;try simp only[z04,z02])|(refine EvC.reg ?_;simp (disch:=first|omega|rfl) only[sB,Za,Zb,Value.cells,one,Zk,layC,st30,bd30,t2,gq]))
   refine z17 (z0a rfl (by simp only[sB,Za,t2];rfl) (by simp only[sB,Zb,cutC,ld30];rfl) ⟨hx.pt (by omega) gq _,?_⟩);rw[hbd];exact⟨_,rfl,OB.nil (by decide)⟩
  refine EvC.cut (fun st=>∃tm',st=⟨tm',[],H2⟩∧tm'.get 1=some (.pointer (some ⟨H.next,0,none⟩))∧tm'.get 2=some (.pointer (some ⟨H.next+1,0,none⟩))∧tm'.get 30=some (.bool false)) ?_ ?_
  ·by_cases k2:t.kind=2
   ·have kn:t.name≠sExc:=fun h=>kexc ⟨k2,h⟩
    refine EvC.reg ?_;simp only[sB,Za,z0g,ld3,z16,ld9,t1,qt,z0k k2,z13,zb3 kn];exact⟨_,rfl,(by simp only[sG,Za,t1]),(by simp only[sG,Za,t2]),by first|(simp only[sG,Za];rfl)|simp only[sG,Za]⟩
   ·refine EvC.reg ?_;simp only[sB,Za,z0g,ld3,t1,qt,z0m k2,Zd];exact⟨_,rfl,(by simp only[sG,Za,t1]),(by simp only[sG,Za,t2]),by first|(simp only[sG,Za];rfl)|simp only[sG,Za]⟩
  clear t1 t2 tm;rintro st ⟨tm,rfl,t1,t2,tc⟩;refine EvC.condF (by simp only[sA,tc]) ?_;(try refine EvC.skip ?_);(try simp only[z00,z01]);clear tc;(repeat refine EvC.seq ?_);refine EvC.reg ?_;simp only[sB,Za,ld25,cl32,t1,qt];refine(z87 (s:=sCol) (r0.mono hx hw) hx.wf).mono ?_;clear qt;rintro v H3 ⟨rfl,hx3⟩;replace gt:=hx3.get hx.wf gt;replace gq:=hx3.get hx.wf gq;replace hx:=hx.trans hx3;clear hx3;have qt:=row6 gt;by_cases hF:isF t sCol
  ·have hd:decide (isF t sCol)=true:=decide_eq_true hF;try simp only[]
   refine EvC.condT (by simp only[sB,Za,hd]) ?_;(try refine EvC.skip ?_);(try simp only[z00,z01]);have hbd:bodyF (m+1) t=withinF (bodyF m) t:=by rw[bodyF,if_neg hn,if_neg k1,if_neg ktrue,if_neg kexc,if_pos hF]
   have hcon:=zjj hb hs (r0.mono hx hw) hF.2.2 hc hx.wf;cases ho:withinF (bodyF m) t with
   |none =>
    (repeat refine EvC.seq ?_);refine EvC.regP 1 _ rfl rfl ?_;simp only[sB,Za,ld25,cl80,z7o,t1,qt];refine EvG.toP hcon ?_;rintro e H5 ⟨hx5,he⟩;rw[ho] at he;exact⟨_,he,And.intro rfl ⟨hx.trans hx5,by rw[hbd,ho]⟩⟩
   |some bd =>
    (repeat refine EvC.seq ?_);refine EvC.reg ?_;simp only[sB,Za,ld25,cl80,t1,qt];refine EvG.toF hcon ?_;rintro e H5 ⟨hx5,he⟩;rw[ho] at he;obtain⟨out,rfl,hob⟩:=he;refine⟨_,rfl,?_⟩;obtain⟨ta,tc,sa,sc,rfl⟩:=hob.rep.eight;have gq5:=hx5.get hx.wf gq;have n5:=hx5.next;have nx:=hx.next;have lq:=hx.wf _ _ gq
    repeat' (first|(refine EvC.ret ?_;try simp only[z04,z02])|(refine z0i ?_;simp (disch:=first|omega|rfl) only[sB,Zb,one,st30,t2,gq5]))
    refine z17 (z0a rfl (by simp only[sB,Za,t2];rfl) (by simp only[sB,Zb,cutC,ld30];rfl) ⟨(hx.trans hx5).pt (by omega) gq5 _,?_⟩);rw[hbd,ho];exact⟨_,rfl,hob.to (fun n hn hl=>⟨by have:=hn.1;rw[get_put,if_neg (by omega)],by rw[z06];exact hl⟩) fun n hn=>⟨by have:=hn.1;omega,by rw[z06];exact hn.2⟩⟩
  have fcol:=hF;clear hF;have hd:decide (isF t sCol)=false:=decide_eq_false fcol;try simp only[]
  refine EvC.condF (by simp only[sB,Za,hd]) ?_;(try refine EvC.skip ?_);(try simp only[z00,z01]);clear hd;refine EvC.frame (fun tm=>tm.get 1=some (.pointer (some ⟨H.next,0,none⟩))∧tm.get 2=some (.pointer (some ⟨H.next+1,0,none⟩))) ⟨(by simp only[sG,Za,t1]),(by simp only[sG,Za,t2])⟩ ?_;clear t1 t2 tm;rintro tm ⟨t1,t2⟩;(repeat refine EvC.seq ?_);refine EvC.reg ?_;simp only[sB,Za,ld25,cl32,t1,qt];refine(z87 (s:=sCma) (r0.mono hx hw) hx.wf).mono ?_;clear qt;rintro v H3 ⟨rfl,hx3⟩;replace gt:=hx3.get hx.wf gt;replace gq:=hx3.get hx.wf gq;replace hx:=hx.trans hx3;clear hx3;have qt:=row6 gt;by_cases hF:isF t sCma
  ·have hd:decide (isF t sCma)=true:=decide_eq_true hF;try simp only[]
   refine EvC.condT (by simp only[sB,Za,hd]) ?_;(try refine EvC.skip ?_);(try simp only[z00,z01]);have hbd:bodyF (m+1) t=subBF (bodyF m) 4 t.args:=by rw[bodyF,if_neg hn,if_neg k1,if_neg ktrue,if_neg kexc,if_neg fcol,if_pos hF]
   have hcon:=z9u hb (k:=4) (by decide) (rl.mono hx hw) hfew (fun u hu=>hlf hu) hx.wf;cases ho:subBF (bodyF m) 4 t.args with
   |none =>
    (repeat refine EvC.seq ?_);refine EvC.regP 2 _ rfl rfl ?_;simp only[sB,Za,z0j,ld23,cl81,z7o,t1,qt];refine EvG.toP hcon ?_;rintro e H5 ⟨hx5,he⟩;rw[ho] at he;exact⟨_,he,And.intro rfl ⟨hx.trans hx5,by rw[hbd,ho]⟩⟩
   |some bd =>
    (repeat refine EvC.seq ?_);refine EvC.reg ?_;simp only[sB,Za,z0j,ld23,cl81,t1,qt];refine EvG.toF hcon ?_;rintro e H5 ⟨hx5,he⟩;rw[ho] at he;obtain⟨out,rfl,hob⟩:=he;refine⟨_,rfl,?_⟩;obtain⟨ta,tc,sa,sc,rfl⟩:=hob.rep.eight;have gq5:=hx5.get hx.wf gq;have n5:=hx5.next;have nx:=hx.next;have lq:=hx.wf _ _ gq
    repeat' (first|(refine EvC.ret ?_;try simp only[z04,z02])|(refine z0i ?_;simp (disch:=first|omega|rfl) only[sB,Zb,one,st30,t2,gq5]))
    refine z17 (z0a rfl (by simp only[sB,Za,t2];rfl) (by simp only[sB,Zb,cutC,ld30];rfl) ⟨(hx.trans hx5).pt (by omega) gq5 _,?_⟩);rw[hbd,ho];exact⟨_,rfl,hob.to (fun n hn hl=>⟨by have:=hn.1;rw[get_put,if_neg (by omega)],by rw[z06];exact hl⟩) fun n hn=>⟨by have:=hn.1;omega,by rw[z06];exact hn.2⟩⟩
  have fcma:=hF;clear hF;have hd:decide (isF t sCma)=false:=decide_eq_false fcma;try simp only[]
  refine EvC.condF (by simp only[sB,Za,hd]) ?_;(try refine EvC.skip ?_);(try simp only[z00,z01]);clear hd;refine EvC.frame (fun tm=>tm.get 1=some (.pointer (some ⟨H.next,0,none⟩))∧tm.get 2=some (.pointer (some ⟨H.next+1,0,none⟩))) ⟨(by simp only[sG,Za,t1]),(by simp only[sG,Za,t2])⟩ ?_;clear t1 t2 tm;rintro tm ⟨t1,t2⟩;(repeat refine EvC.seq ?_);refine EvC.reg ?_;simp only[sB,Za,ld25,cl32,t1,qt];refine(z87 (s:=sArr) (r0.mono hx hw) hx.wf).mono ?_;clear qt;rintro v H3 ⟨rfl,hx3⟩;replace gt:=hx3.get hx.wf gt;replace gq:=hx3.get hx.wf gq;replace hx:=hx.trans hx3;clear hx3;have qt:=row6 gt;by_cases hF:isF t sArr
  ·have hd:decide (isF t sArr)=true:=decide_eq_true hF;try simp only[]
   refine EvC.condT (by simp only[sB,Za,hd]) ?_;(try refine EvC.skip ?_);(try simp only[z00,z01]);have hbd:bodyF (m+1) t=subBF (bodyF m) 6 t.args:=by rw[bodyF,if_neg hn,if_neg k1,if_neg ktrue,if_neg kexc,if_neg fcol,if_neg fcma,if_pos hF]
   have hcon:=z9u hb (k:=6) (by decide) (rl.mono hx hw) hfew (fun u hu=>hlf hu) hx.wf;cases ho:subBF (bodyF m) 6 t.args with
   |none =>
    (repeat refine EvC.seq ?_);refine EvC.regP 2 _ rfl rfl ?_;simp only[sB,Za,z0j,ld23,cl81,z7o,t1,qt];refine EvG.toP hcon ?_;rintro e H5 ⟨hx5,he⟩;rw[ho] at he;exact⟨_,he,And.intro rfl ⟨hx.trans hx5,by rw[hbd,ho]⟩⟩
   |some bd =>
    (repeat refine EvC.seq ?_);refine EvC.reg ?_;simp only[sB,Za,z0j,ld23,cl81,t1,qt];refine EvG.toF hcon ?_;rintro e H5 ⟨hx5,he⟩;rw[ho] at he;obtain⟨out,rfl,hob⟩:=he;refine⟨_,rfl,?_⟩;obtain⟨ta,tc,sa,sc,rfl⟩:=hob.rep.eight;have gq5:=hx5.get hx.wf gq;have n5:=hx5.next;have nx:=hx.next;have lq:=hx.wf _ _ gq
    repeat' (first|(refine EvC.ret ?_;try simp only[z04,z02])|(refine z0i ?_;simp (disch:=first|omega|rfl) only[sB,Zb,one,st30,t2,gq5]))
    refine z17 (z0a rfl (by simp only[sB,Za,t2];rfl) (by simp only[sB,Zb,cutC,ld30];rfl) ⟨(hx.trans hx5).pt (by omega) gq5 _,?_⟩);rw[hbd,ho];exact⟨_,rfl,hob.to (fun n hn hl=>⟨by have:=hn.1;rw[get_put,if_neg (by omega)],by rw[z06];exact hl⟩) fun n hn=>⟨by have:=hn.1;omega,by rw[z06];exact hn.2⟩⟩
  have farr:=hF;clear hF;have hd:decide (isF t sArr)=false:=decide_eq_false farr;try simp only[]
  refine EvC.condF (by simp only[sB,Za,hd]) ?_;(try refine EvC.skip ?_);(try simp only[z00,z01]);clear hd;refine EvC.frame (fun tm=>tm.get 1=some (.pointer (some ⟨H.next,0,none⟩))∧tm.get 2=some (.pointer (some ⟨H.next+1,0,none⟩))) ⟨(by simp only[sG,Za,t1]),(by simp only[sG,Za,t2])⟩ ?_;clear t1 t2 tm;rintro tm ⟨t1,t2⟩;refine EvC.cut (fun st=>∃tm' G',st=⟨tm',[],G'⟩∧tm'.get 1=some (.pointer (some ⟨H.next,0,none⟩))∧tm'.get 2=some (.pointer (some ⟨H.next+1,0,none⟩))∧tm'.get 57=some (.bool (decide (isF t sSem∧isF (t.at 0) sArr)))∧G'.get H.next=some (.row (six t a c) 25)∧G'.get (H.next+1)=some (.row zero8 30)∧HX H G') ?_ ?_
  ·refine EvC.reg ?_;simp only[sB,Za,ld25,cl32,t1,qt];refine(z87 (s:=sSem) (r0.mono hx hw) hx.wf).mono ?_;clear qt;rintro v H3 ⟨rfl,hx3⟩;replace gt:=hx3.get hx.wf gt;replace gq:=hx3.get hx.wf gq;replace hx:=hx.trans hx3;clear hx3;have qt:=row6 gt;by_cases hse:isF t sSem;rotate_left
   ·have fsa:decide (isF t sSem∧isF (t.at 0) sArr)=false:=decide_eq_false fun h=>hse h.1
    have hd:decide (isF t sSem)=false:=decide_eq_false hse;try simp only[sB,Za,hd,Zd]
    exact⟨_,_,rfl,(by simp only[sG,Za,t1]),(by simp only[sG,Za,t2]),by rw[fsa];first|(simp only[sG,Za];rfl)|simp only[sG,Za],gt,gq,hx⟩
   have hd:decide (isF t sSem)=true:=decide_eq_true hse;obtain⟨x,y,hxy⟩:∃x y,t.args=[x,y]:=by
    match hl:t.args,hse.2.2 with
    |[x,y],_=>exact⟨x,y,rfl⟩
   have ex:t.at 0=x:=by unfold Tm.at;rw[hxy];rfl
   have hl2:t.args.length=2:=hse.2.2;have i0:t.args[0]'(by omega)=x:=by simp [hxy]
   obtain⟨b,o,a1,c1,rfl,hld0,hr0⟩:=rl.el (i:=0) (by omega);rw[i0] at hld0 hr0;simp only[Zu,Nat.add_zero,ZL] at hld0;have l0:=hx.load hw hld0;try simp (disch:=first|omega|rfl) only[sB,Za,Zv,ld25,cl32,z0j,ld23,hd,t1,qt,l0,iz23,Zu]
   refine(z87 (s:=sArr) (hr0.mono hx hw) hx.wf).mono ?_;clear qt;rintro v H4 ⟨rfl,hx3⟩;have hde:decide (isF t sSem∧isF (t.at 0) sArr)=decide (isF x sArr):=by rw[ex];simp [hse]
   try simp only[]
   exact⟨_,_,rfl,(by simp only[sG,Za,t1]),(by simp only[sG,Za,t2]),by rw[hde];first|(simp only[sG,Za];rfl)|simp only[sG,Za],hx3.get hx.wf gt,hx3.get hx.wf gq,hx.trans hx3⟩
  clear t1 t2 tm gt gq hx qt;rintro st ⟨tm,G,rfl,t1,t2,tc,gt,gq,hx⟩;have qt:=row6 gt;by_cases fsa:isF t sSem∧isF (t.at 0) sArr
  ·have hd:decide (isF t sSem∧isF (t.at 0) sArr)=true:=decide_eq_true fsa;obtain⟨x,y,hxy⟩:∃x y,t.args=[x,y]:=by
    match hl:t.args,fsa.1.2.2 with
    |[x,y],_=>exact⟨x,y,rfl⟩
   have ex:t.at 0=x:=by unfold Tm.at;rw[hxy];rfl
   have ey:t.at 1=y:=by unfold Tm.at;rw[hxy];rfl
   have hl2:t.args.length=2:=fsa.1.2.2;have fx:isF x sArr:=ex ▸ fsa.2;obtain⟨p,q,hpq⟩:∃p q,x.args=[p,q]:=by
    match hl:x.args,fx.2.2 with
    |[p,q],_=>exact⟨p,q,rfl⟩
   have ep:(t.at 0).at 0=p:=by rw[ex];unfold Tm.at;rw[hpq];rfl
   have eq:(t.at 0).at 1=q:=by rw[ex];unfold Tm.at;rw[hpq];rfl
   have hx2:x.args.length=2:=fx.2.2;have i0:t.args[0]'(by omega)=x:=by simp [hxy]
   have i1:t.args[1]'(by omega)=y:=by simp [hxy]
   have j0:x.args[0]'(by omega)=p:=by simp [hpq]
   have j1:x.args[1]'(by omega)=q:=by simp [hpq]
   obtain⟨b,o,a1,c1,rfl,hld0,hr0⟩:=rl.el (i:=0) (by omega);obtain⟨b',o',a2,c2,e2,hld1,hr1⟩:=rl.el (i:=1) (by omega);cases e2;rw[i0] at hld0 hr0;rw[i1] at hld1 hr1;obtain⟨ax,cx,cellsx,ee,-,-,-,-,-,rlx⟩:=hr0.six;obtain⟨-,-,-,-,-,rfl,rfl⟩:=z4h ee;obtain⟨bx,ox,a3,c3,rfl,hld2,hr2⟩:=rlx.el (i:=0) (by omega);obtain⟨b'',o'',a4,c4,e4,hld3,hr3⟩:=rlx.el (i:=1) (by omega);cases e4;rw[j0] at hld2 hr2;rw[j1] at hld3 hr3;simp only[Zu,Nat.add_zero,ZL] at hld0 hld1 hld2 hld3;have l0:=ldA5 (hx.load hw hld0);have l1:=hx.load hw hld1;have l2:=hx.load hw hld2;have l3:=hx.load hw hld3;obtain⟨L,eL⟩:∃L,six p a3 c3++six q a4 c4++six y a2 c2=L:=⟨_,rfl⟩
   obtain⟨Hq,e5⟩:∃Hq,(⟨G.next+21,G.t⟩:Heap).put (G.next+18) (some (.row L 25))=Hq:=⟨_,rfl⟩
   have hxq:HX G Hq:=by rw[←e5];exact(((HX.refl hx.wf).bump 21).put (by omega) (by show _ < G.next+21;omega) _)
   have gL:Hq.get (G.next+18)=some (.row L 25):=by rw[←e5,get_put,if_pos rfl]
   have gq5:=hxq.get hx.wf gq;have gt5:=hxq.get hx.wf gt;have hxf:=hx.trans hxq;have rl3:RepL Hq [p,q,y] (some ⟨G.next+18,0,none⟩) 3 (fun i=>(L.drop (i*6)).take 6):=RepL.of_row gL (fun i hi=>rfl) (fun i u hu=>by
     match i,hu with
     |0,hu=>cases hu;rw[←eL];exact hr2.mono hxf hw
     |1,hu=>cases hu;rw[←eL];exact hr3.mono hxf hw
     |2,hu=>cases hu;rw[←eL];exact hr1.mono hxf hw) (Zg _) (by decide)
   have hmx:x∈t.args:=by rw[hxy];simp
   have hmy:y∈t.args:=by rw[hxy];simp
   have hcx:=z0p hc hmx;have hxl:=z0d hmx;have hcon:=z9u hb (k:=6) (by decide) rl3 (by show 3≤64;decide) (fun u hu=>by
     have hux:u∈x.args∨u=y:=by
      rw[hpq];simp only[List.mem_cons,List.not_mem_nil,or_false] at hu ⊢;rcases hu with h|h|h
      ·exact .inl (.inl h)
      ·exact .inl (.inr h)
      ·exact .inr h
     rcases hux with hu|rfl
     ·exact⟨by have:=z0d hu;omega,z0p hcx hu⟩
     ·exact hlf hmy) hxq.wf
   have hbd:bodyF (m+1) t=subBF (bodyF m) 6 [p,q,y]:=by rw[bodyF,if_neg hn,if_neg k1,if_neg ktrue,if_neg kexc,if_neg fcol,if_neg fcma,if_neg farr,if_pos fsa,ep,eq,ey]
   have nx:=hx.next;have lq:=hx.wf _ _ gq;have eL':=eL;simp only[six,ZK,List.nil_append] at eL';have neq:(H.next+1=G.next+18)=False:=by simp;omega
   refine EvC.condT (by simp only[sA,tc,hd]) ?_;(try refine EvC.skip ?_);(try simp only[z00,z01]);cases ho:subBF (bodyF m) 6 [p,q,y] with
   |none =>
    (repeat refine EvC.seq ?_);refine EvC.drwP 19 _ [(0,0),(1,0),(2,0),(3,0),(4,0),(5,0),(6,0),(7,0),(8,0),(9,0),(10,0),(11,0),(12,0),(13,0),(14,0),(15,0),(16,0),(17,0),(18,0)] [([],some 20),([],none)] (by kernel_rfl) (by kernel_rfl) rfl rfl ?_;simp (disch:=first|omega|rfl) only[sD,sB,Za,Zb,Value.cells,one,reduceCtorEq,Zk,layC,Zv,ld25,st30,z0j,ld23,cl81,zkt,isAlloc,isRead,dalloc,zm3,t1,t2,qt,l0,l1,l2,l3,iz23,Zu,ZL,zrs,eL',e5,gq5];refine EvG.toP hcon ?_;rintro e H5 ⟨hx5,he⟩;rw[ho] at he;exact⟨_,he,And.intro rfl ⟨hxf.trans hx5,by rw[hbd,ho]⟩⟩
   |some bd =>
    (repeat refine EvC.seq ?_);refine EvC.drw [([(0,0),(1,0),(2,0),(3,0),(4,0),(5,0),(6,0),(7,0),(8,0),(9,0),(10,0),(11,0),(12,0),(13,0),(14,0),(15,0),(16,0),(17,0),(18,0)],some 19),([],some 20),([],none)] (by kernel_rfl) ?_;simp (disch:=first|omega|rfl) only[sD,sB,Za,Zb,Value.cells,one,reduceCtorEq,Zk,layC,Zv,ld25,z0j,ld23,cl81,zkt,isAlloc,isRead,dalloc,t1,qt,l0,l1,l2,l3,iz23,Zu,ZL,eL',e5];refine EvG.toF hcon ?_;rintro e H5 ⟨hx5,he⟩;rw[ho] at he;obtain⟨out,rfl,hob⟩:=he;refine⟨_,rfl,?_⟩;obtain⟨ta,tc,sa,sc,rfl⟩:=hob.rep.eight;have gq6:=hx5.get hxq.wf gq5;have n5:=hx5.next;have nq:=hxq.next
    repeat' (first|(refine EvC.ret ?_;try simp only[z04,z02])|(refine z0h ?_;simp (disch:=first|omega|rfl) only[sD,sB,Za,Zb,one,st30,t2,gq6]))
    refine z17 (z0a rfl (by simp only[sB,Za,t2];rfl) (by simp only[sB,Zb,cutC,ld30];rfl) ⟨(hxf.trans hx5).pt (by omega) gq6 _,?_⟩);rw[hbd,ho];exact⟨_,rfl,hob.to (fun n hn hl=>⟨by have:=hn.1;rw[get_put,if_neg (by omega)],by rw[z06];exact hl⟩) fun n hn=>⟨by have:=hn.1;omega,by rw[z06];exact hn.2⟩⟩
  have hd:decide (isF t sSem∧isF (t.at 0) sArr)=false:=decide_eq_false fsa;refine EvC.condF (by simp only[sA,tc,hd]) ?_;(try refine EvC.skip ?_);(try simp only[z00,z01]);clear tc hd;(repeat refine EvC.seq ?_);refine EvC.reg ?_;simp only[sB,Za,ld25,cl32,t1,qt];refine(z87 (s:=sSem) (r0.mono hx hw) hx.wf).mono ?_;clear qt;rintro v H3 ⟨rfl,hx3⟩;replace gt:=hx3.get hx.wf gt;replace gq:=hx3.get hx.wf gq;replace hx:=hx.trans hx3;clear hx3;have qt:=row6 gt;by_cases hF:isF t sSem
  ·have hd:decide (isF t sSem)=true:=decide_eq_true hF;try simp only[]
   refine EvC.condT (by simp only[sB,Za,hd]) ?_;(try refine EvC.skip ?_);(try simp only[z00,z01]);have hbd:bodyF (m+1) t=subBF (bodyF m) 5 t.args:=by rw[bodyF,if_neg hn,if_neg k1,if_neg ktrue,if_neg kexc,if_neg fcol,if_neg fcma,if_neg farr,if_neg fsa,if_pos hF]
   have hcon:=z9u hb (k:=5) (by decide) (rl.mono hx hw) hfew (fun u hu=>hlf hu) hx.wf;cases ho:subBF (bodyF m) 5 t.args with
   |none =>
    (repeat refine EvC.seq ?_);refine EvC.regP 2 _ rfl rfl ?_;simp only[sB,Za,z0j,ld23,cl81,z7o,t1,qt];refine EvG.toP hcon ?_;rintro e H5 ⟨hx5,he⟩;rw[ho] at he;exact⟨_,he,And.intro rfl ⟨hx.trans hx5,by rw[hbd,ho]⟩⟩
   |some bd =>
    (repeat refine EvC.seq ?_);refine EvC.reg ?_;simp only[sB,Za,z0j,ld23,cl81,t1,qt];refine EvG.toF hcon ?_;rintro e H5 ⟨hx5,he⟩;rw[ho] at he;obtain⟨out,rfl,hob⟩:=he;refine⟨_,rfl,?_⟩;obtain⟨ta,tc,sa,sc,rfl⟩:=hob.rep.eight;have gq5:=hx5.get hx.wf gq;have n5:=hx5.next;have nx:=hx.next;have lq:=hx.wf _ _ gq
    repeat' (first|(refine EvC.ret ?_;try simp only[z04,z02])|(refine z0i ?_;simp (disch:=first|omega|rfl) only[sB,Zb,one,st30,t2,gq5]))
    refine z17 (z0a rfl (by simp only[sB,Za,t2];rfl) (by simp only[sB,Zb,cutC,ld30];rfl) ⟨(hx.trans hx5).pt (by omega) gq5 _,?_⟩);rw[hbd,ho];exact⟨_,rfl,hob.to (fun n hn hl=>⟨by have:=hn.1;rw[get_put,if_neg (by omega)],by rw[z06];exact hl⟩) fun n hn=>⟨by have:=hn.1;omega,by rw[z06];exact hn.2⟩⟩
  have fsem:=hF;clear hF;have hd:decide (isF t sSem)=false:=decide_eq_false fsem;try simp only[]
  refine EvC.condF (by simp only[sB,Za,hd]) ?_;(try refine EvC.skip ?_);(try simp only[z00,z01]);clear hd;have hbd:bodyF (m+1) t=some (.mk 3 t []):=by rw[bodyF,if_neg hn,if_neg k1,if_neg ktrue,if_neg kexc,if_neg fcol,if_neg fcma,if_neg farr,if_neg fsa,if_neg fsem]
  exact⟨_,_,rfl,(by simp only[sG,Za,t1]),(by simp only[sG,Za,t2]),gt,gq,hx,hbd⟩
theorem zck:∀m:Nat,BodyP m
 |0=>fun h=>absurd h (Nat.not_lt_zero _)
 |m+1=>fun hs r hc hw=>zmc (zck m) hs r hc hw
end Go.Proofs.hq
end

section
namespace Go.Proofs.hq
open Go Go.RowKit Go.Hb
inductive RepBI (H:Heap) (S:Nat→Prop):Bdy→List Value→Prop
 |mk (k:Int) (t:Tm) (l:List Bdy) (cs:List Value) (a:Option Addr) (c:Nat) (cells:Nat→List Value):i64 k→RepS H S t cs→l.length≤c→c≤maxLen→(a=none→l=[]∧c=0) →
   (∀i ad,i < l.length→a=some ad→ad.spot=none∧S ad.block∧ad.block < H.next∧H.load ⟨ad.block,ad.off+i*8,none⟩ 8=some (cells i))→(∀i u,l[i]?=some u→RepBI H S u (cells i)) →
   RepBI H S (.mk k t l) (eight k cs a l.length c)
theorem zeq {H G:Heap}{b o n:Nat}(h:G.get b=H.get b):G.load ⟨b,o,none⟩ n=H.load ⟨b,o,none⟩ n:=by
 unfold Heap.load Heap.cells;simp only[h]
section
variable {H H':Heap}{S S':Nat→Prop}{u:Bdy}{cs:List Value}
theorem RepBI.rep (h:RepBI H S u cs):RepB H u cs:=by
 induction h with
 |mk k t l ts a c cells h1 h2 h3 h4 h5 h6 h7 ih=>exact .mk k t l ts a c cells h1 h2.rep h3 h4 h5 (fun i ad hi ha=>⟨(h6 i ad hi ha).1,(h6 i ad hi ha).2.2.2⟩) ih
theorem RepBI.to (h:RepBI H S u cs) (hk:∀n,S n→n < H.next→H'.get n=H.get n∧S' n∧n < H'.next):RepBI H' S' u cs:=by
 induction h with
 |mk k t l ts a c cells h1 h2 h3 h4 h5 h6 h7 ih =>
  refine .mk k t l ts a c cells h1 (h2.to hk) h3 h4 h5 (fun i ad hi ha=>?_) ih;obtain⟨p1,p2,p3,p4⟩:=h6 i ad hi ha;obtain⟨k1,k2,k3⟩:=hk _ p2 p3;exact⟨p1,k2,k3,by rw[zeq k1];exact p4⟩
theorem RepBI.inv (h:RepBI H S u cs):∃(ta:Option Addr) (tc:Nat) (a:Option Addr) (c:Nat) (cells:Nat→List Value),cs=eightT u.kind u.term ta tc a u.sub.length c∧i64 u.kind∧RepS H S u.term (six u.term ta tc)∧u.sub.length≤c∧c≤maxLen ∧
  ∀i (hi:i < u.sub.length),∃b o,a=some ⟨b,o,none⟩∧S b∧b < H.next∧H.load ⟨b,o+i*8,none⟩ 8=some (cells i)∧RepBI H S u.sub[i] (cells i):=by
 cases h with
 |mk k t l ts a c cells h1 h2 h3 h4 h5 h6 h7 =>
  obtain⟨ta,tc,cellst,rfl,-⟩:=h2.rep.inv;refine⟨ta,tc,a,c,cells,rfl,h1,h2,h3,h4,fun i hi=>?_⟩;cases a with
  |none=>obtain⟨rfl,_⟩:=h5 rfl;exact absurd hi (Nat.not_lt_zero _)
  |some ad =>
   obtain⟨p1,p2,p3,p4⟩:=h6 i ad hi rfl;obtain⟨b,o,s⟩:=ad;obtain rfl:s=none:=p1;exact⟨b,o,rfl,p2,p3,p4,h7 i _ (Zc hi)⟩
theorem OB.bi {TB TT:TypeId}(h:OB H TB TT S u cs):RepBI H S u cs:=by
 induction h with
 |leaf S k t cs h1 h2 h3=>exact .mk k t [] cs none 0 (fun _=>[]) h1 h2 (Zg _) (Zs _) (fun _=>⟨rfl,rfl⟩) (fun i ad hi=>by simp at hi) (fun i u hu=>by simp at hu)
 |node S k t cs l b c cells Si h1 h2 h3 h4 h5 h6 h7 h8 h9 h10 h11 h12 h13 ih =>
  refine .mk k t l cs (some ⟨b,0,none⟩) c (fun i=>(cells.drop (i*8)).take 8) h1 h2 h4 h5 (fun h=>by cases h) (fun i ad hi ha=>?_) (fun i u hu=>(ih i u hu).to fun n hn hl=>⟨rfl,h12 i n (List.getElem?_eq_some_iff.1 hu).1 hn,hl⟩);cases ha;refine⟨rfl,h7,h8,?_⟩;have hle:i*8+8≤l.length*8:=by omega
  unfold Heap.load Heap.cells;simp only[h6,Nat.zero_add];rw[if_pos (by rw[Zr,Zl,List.length_drop];omega)]
end
theorem RepT.toS {H:Heap}{t:Tm}{cs:List Value}(hw:H.wf) (r:RepT H t cs):RepS H (fun n=>n < H.next) t cs:=by
 intro G hG
 induction r with
 |mk k s u b v l a c cells h1 h2 h3 h4 h5 h6 h7 h8 h9 h10 h11 ih =>
  refine .mk k s u b v l a c cells h1 h2 h3 h4 h5 h6 h7 h8 h9 (fun i ad hi ha=>⟨(h10 i ad hi ha).1,?_⟩) ih;have h:=(h10 i ad hi ha).2;have hl:=zcj hw h;rw[zeq (hG _ hl hl)];exact h
theorem RepB.bi {H:Heap}{u:Bdy}{cs:List Value}(hw:H.wf) (r:RepB H u cs):RepBI H (fun n=>n < H.next) u cs:=by
 induction r with
 |mk k t l ts a c cells h1 h2 h3 h4 h5 h6 h7 ih =>
  refine .mk k t l ts a c cells h1 (RepT.toS hw h2) h3 h4 h5 (fun i ad hi ha=>?_) ih;obtain⟨p1,p2⟩:=h6 i ad hi ha;have hl:=zcj hw p2;exact⟨p1,hl,hl,p2⟩
inductive FewB (n:Nat):Bdy→Prop
 |mk {b:Bdy}:b.sub.length≤n→Few n b.term→(∀u∈b.sub,FewB n u)→FewB n b
theorem FewB.len {n:Nat}{b:Bdy}(h:FewB n b):b.sub.length≤n:=by cases h;assumption
theorem FewB.term {n:Nat}{b:Bdy}(h:FewB n b):Few n b.term:=by cases h;assumption
theorem FewB.sub {n:Nat}{b:Bdy}(h:FewB n b):∀u∈b.sub,FewB n u:=by cases h;assumption
def LT (H:Heap) (T:TypeId) (E:Nat→Prop) (l:List Tm) (a:Option Addr) (c:Nat):Prop :=
 (l=[]∧a=none∧c=0)∨∃(b:Nat) (cells:List Value),a=some ⟨b,0,none⟩∧l.length≤c∧c≤maxLen∧H.get b=some (.row cells T)∧¬E b∧b < H.next∧l.length*6≤cells.length∧∀i u,l[i]?=some u→RepS H E u ((cells.drop (i*6)).take 6)
section
variable {H H':Heap}{T:TypeId}{E E':Nat→Prop}{l:List Tm}{a:Option Addr}{c:Nat}
theorem LT.nil:LT H T E [] none 0:=.inl ⟨rfl,rfl,rfl⟩
theorem LT.to (h:LT H T E l a c) (hk:∀n,E n∨a=some ⟨n,0,none⟩→n < H.next→H'.get n=H.get n) (hn:H.next≤H'.next) (hs:∀n,E n→E' n) (hne:∀n,a=some ⟨n,0,none⟩→¬E' n):LT H' T E' l a c:=by
 rcases h with h|⟨b,cells,rfl,h1,h2,h3,h4,h5,h6,h7⟩
 ·exact .inl h
 ·exact .inr ⟨b,cells,rfl,h1,h2,(hk b (.inr rfl) h5).trans h3,hne b rfl,Zh h5 hn,h6,fun i u hu=>(h7 i u hu).to fun n hn' hl=>⟨hk n (.inl hn') hl,hs n hn',Zh hl hn⟩⟩
theorem zta {cells:List Value}{i n:Nat}(h:i < n) (vs:List Value) (hn:n*6≤cells.length):((cells.take (n*6)++vs).drop (i*6)).take 6=(cells.drop (i*6)).take 6:=by
 have h1:(cells.take (n*6)).length=n*6:=by rw[Zl];omega
 rw[List.drop_append_of_le_length (by omega),List.take_append_of_le_length (by rw[List.length_drop];omega),List.drop_take,List.take_take];congr 1;omega
theorem LT.push {P:Program}{t:TypeId}(hp:apOk P t T 6) {E2:Nat→Prop}{u:Tm}{cs:List Value}{c1:Nat}{ad:Addr}(h:LT H T E l a c) (hw:H.wf) (hl:H.load ad (1*6)=some cs) (hu:RepS H E2 u cs) (hE:∀n,E2 n→a≠some ⟨n,0,none⟩)
  (hEl:∀n,E n→n < H.next) (hE2l:∀n,E2 n→n < H.next) (hm:l.length+1≤most) (h2:∀n,E n∨E2 n→E' n) (hnew:¬E' H.next) :
  ∃H2,dAp P #[t,t] (.slice a l.length c) (.slice (some ad) 1 c1) H=some (.val (.slice (some ⟨H.next,0,none⟩) (l.length+1) (l.length+1)) H2)∧LT H2 T E' (l++[u]) (some ⟨H.next,0,none⟩) (l.length+1)∧HK (fun n=>a=some ⟨n,0,none⟩) H H2∧H2.next=H.next+1:=by
 have hmax:l.length+1≤maxLen:=Zo hm (by simp [most,maxLen]);obtain⟨hone,hlen⟩:=z67 hu.rep;rcases h with ⟨rfl,rfl,rfl⟩|⟨b,cells,rfl,h1,h2',h3,h4,h5,h6,h7⟩
 ·have hx:=(HX.refl hw).new (some (.row cs T));refine⟨_,z4r hp (by omega) hm hl hone,?_,hx.hk _,rfl⟩;refine .inr ⟨H.next,cs,rfl,Zg _,hmax,z0o,hnew,Zf _,by simp [hlen],fun i v hv=>?_⟩
  match i,hv with
  |0,hv =>
   cases hv;rw[Zu,List.drop_zero,Zi (by omega)];exact hu.to fun n hn hl=>⟨hx.keep n hl,h2 n (.inr hn),Nat.lt_succ_of_lt hl⟩
 ·have hcells:(cells.take (l.length*6)).all one=true:=z29 _ h6 fun i hi=>(z67 (h7 i _ (Zc hi)).rep).1
  have hk:HK (fun n=>some (⟨b,0,none⟩:Addr)=some ⟨n,0,none⟩) H ((H.put b none).new (some (.row (cells.take (l.length*6)++cs) T))):=((HK.refl (S:=fun n=>some (⟨b,0,none⟩:Addr)=some ⟨n,0,none⟩) hw).put (.inl rfl) h5 none).new _;have hkeep:∀n,n < H.next→n≠b→((H.put b none).new (some (.row (cells.take (l.length*6)++cs) T))).get n=H.get n:=fun n hn hne=>by
   rw[z1s (by rw[z06];exact hn),z30 hne]
  refine⟨_,z4c hp (by omega) hm hl hone h3 h6 hcells,?_,hk,rfl⟩;have htl:(cells.take (l.length*6)).length=l.length*6:=by rw[Zl];omega
  refine .inr ⟨H.next,cells.take (l.length*6)++cs,rfl,by simp,hmax,z0o,hnew,Zf _,by simp [hlen,htl];omega,fun i v hv=>?_⟩;by_cases hi:i < l.length
  ·rw[List.getElem?_append_left hi] at hv;rw[zta hi _ h6];exact(h7 i v hv).to fun n hn hl=>⟨hkeep n hl fun e=>h4 (e ▸ hn),h2 n (.inl hn),Nat.lt_succ_of_lt hl⟩
  ·have hil:i=l.length:=by
    have:=(List.getElem?_eq_some_iff.1 hv).1;simp at this;omega
   subst hil;simp at hv;subst hv;have e8:((cells.take (l.length*6)++cs).drop (l.length*6)).take 6=cs:=by rw[List.drop_left' htl,Zi (by omega)]
   rw[e8];exact hu.to fun n hn hl=>⟨hkeep n hl fun e=>hE n hn (by rw[e]),h2 n (.inr hn),Nat.lt_succ_of_lt hl⟩
theorem LT.repL (h:LT H T E l a c):∃cells,RepL H l a c cells∧∀i u,l[i]?=some u→RepS H E u (cells i):=by
 rcases h with ⟨rfl,rfl,rfl⟩|⟨b,cells,rfl,h1,h2,h3,h4,h5,h6,h7⟩
 ·exact⟨fun _=>[],⟨Zg _,Zs _,fun _=>⟨rfl,rfl⟩,(fun i ad hi=>by simp at hi),(fun i u hu=>by simp at hu)⟩,(fun i u hu=>by simp at hu)⟩
 ·exact⟨fun i=>(cells.drop (i*6)).take 6,RepL.of_row h3 (fun i hi=>rfl) (fun i u hu=>(h7 i u hu).rep) h1 h2,h7⟩
theorem LT.comp {s:ByteArray}(h:LT H T E l a c) (hs:s.size≤maxLen) (he:∀n,E n→E' n) (hb:∀n,a=some ⟨n,0,none⟩→E' n) (hm:c≤maxLen):RepS H E' (cmpT s l) (six (cmpT s l) a c):=by
 rcases h with ⟨rfl,rfl,rfl⟩|⟨b,cells,rfl,h1,h2,h3,h4,h5,h6,h7⟩
 ·exact RepS.leaf (z5t hs) rfl (Zs _) fun _=>rfl
 ·exact RepS.row (t:=cmpT s l) (z5t hs) rfl h3 (hb b rfl) h5 h6 h1 h2 fun j hj=>(h7 j _ (Zc hj)).to fun n hn hl=>⟨rfl,he n hn,hl⟩
end
end Go.Proofs.hq
end

section
namespace Go.Proofs.hq
open Go Go.RowKit Go.Hb
variable {ok:Ok}
set_option maxRecDepth 10000
attribute [local irreducible] LX LG EL STG SOP SGO SGD SAL SRD SEF SEG SLK SCK ES
theorem z3a {k:Int}{t:Tm}{l:List Tm}(h2:k≠2) (h3:k≠3) (h4:¬(k=4∧l.length=2)) (h5:¬(k=5∧l.length=2)) (h6:¬(k=6∧l.length=2)) (h6':¬(k=6∧l.length=3)) (h7:¬(k=7∧l.length=1)):tellB k t l=atmT sTrue:=by
 unfold tellB;rw[if_neg h2,if_neg h3,if_neg h4,if_neg h5,if_neg h6,if_neg h6',if_neg h7]
theorem z1z {H:Heap}{S:Nat→Prop}{s:ByteArray}(h:s.size≤maxLen):RepS H S (atmT s) (six (atmT s) none 0) :=
 RepS.leaf ⟨by show i64 2;decide,h,by show ByteArray.empty.size≤_;decide,by show u64 0;decide,by show i64 0;decide⟩ rfl (Zs _) fun _=>rfl
theorem z2y {H:Heap}{S:Nat→Prop}{s:ByteArray}{x y:Tm}{a a':Option Addr}{c c' b:Nat}(hs:s.size≤maxLen) (hg:H.get b=some (.row (six x a c++six y a' c') 25)) (hS:S b) (hw:H.wf) (hx:RepS H S x (six x a c)) (hy:RepS H S y (six y a' c')) :
  RepS H S (cmpT s [x,y]) (six (cmpT s [x,y]) (some ⟨b,0,none⟩) 2) :=
 RepS.row (t:=cmpT s [x,y]) (z5t hs) rfl hg hS (hw _ _ hg) (Zg _) (Zg _) (by decide) fun j hj=>by
  match j,hj with
  |0,_=>exact hx
  |1,_=>exact hy
theorem LT.el {H:Heap}{T:TypeId}{E:Nat→Prop}{l:List Tm}{a:Option Addr}{c:Nat}(h:LT H T E l a c) {i:Nat}(hi:i < l.length) :
  ∃b a' c',a=some ⟨b,0,none⟩∧H.load ⟨b,i*6,none⟩ 6=some (six l[i] a' c')∧RepS H E l[i] (six l[i] a' c')∧b < H.next:=by
 rcases h with ⟨rfl,-,-⟩|⟨b,cells,rfl,h1,h2,h3,h4,h5,h6,h7⟩
 ·exact absurd hi (Nat.not_lt_zero _)
 ·have hr:=h7 i _ (Zc hi);obtain⟨a',c',cells',e,-⟩:=hr.rep.six;refine⟨b,a',c',rfl,?_,e ▸ hr,h5⟩;unfold Heap.load Heap.cells;simp only[h3,e];rfl
set_option maxHeartbeats 16000000 in
theorem zcl {m:Nat}:∀{u:Bdy}{cs:List Value}{S:Nat→Prop}{H:Heap},SizeOf.sizeOf u < m→RepBI H S u cs→FewB 1000000 u→(∀n,S n→n < H.next)→H.wf →
  EvF Tryz.prog okT 36 [.agg ⟨cs⟩] H fun v H'=>HX H H'∧∃out,v=.agg ⟨out⟩∧RepS H' (fun n=>S n∨(H.next≤n∧n < H'.next)) (toldB u) out:=by
 induction m with
 |zero=>intro u cs S H h;omega
 |succ m ih =>
 intro u cs S H hsz r hfew hS hw;have hlen:=hfew.len;have ean:apOk Tryz.prog 23 25 6:=ap23;obtain⟨ta,tc,a,c,cells,rfl,hk,hr,hlc,hcm,hel⟩:=r.inv;refine EvF.enter rfl Tryz.func36 (by decide) rfl ?_;(repeat refine EvC.seq ?_);refine EvC.reg ?_;simp (disch:=first|omega|rfl) only[sB,initTm,dBox,dAlloc,Value.cells,one,zr25];obtain⟨H2,e2,hx2,gb,gq,hn2,hw2⟩:=new2 hw (.row (eightT u.kind u.term ta tc a u.sub.length c) 30) (.row zero6 25);simp only[e2];clear e2;have qb:=row8 gb;have hmx:u.sub.length≤9223372036854775807:=by omega
 (repeat refine EvC.seq ?_);refine EvC.reg ?_;simp only[sA];(repeat refine EvC.seq ?_);refine EvC.reg ?_;simp only[sB,Za,reduceCtorEq,z1k,ld28,ln28,qb];refine EvC.join (fun st=>∃tm G ao co,st=⟨tm,[],G⟩∧tm.get 1=some (.pointer (some ⟨H.next,0,none⟩))∧tm.get 2=some (.pointer (some ⟨H.next+1,0,none⟩))∧tm.get 3=some (.slice ao u.sub.length co) ∧
  G.get H.next=some (.row (eightT u.kind u.term ta tc a u.sub.length c) 30)∧G.get (H.next+1)=some (.row zero6 25) ∧
  LT G 25 (fun n=>(S n∨(H.next+2≤n∧n < G.next))∧ao≠some ⟨n,0,none⟩) (u.sub.map toldB) ao co∧(∀n,ao=some ⟨n,0,none⟩→H.next+2≤n∧n < G.next)∧HX H G) ?_ ?_
 ·refine EvC.block (EvC.loop (fun k' st=>∃tm G i ao co,st=⟨tm,[],G⟩∧k'=u.sub.length - i∧i≤u.sub.length∧tm.get 1=some (.pointer (some ⟨H.next,0,none⟩))∧tm.get 2=some (.pointer (some ⟨H.next+1,0,none⟩))∧tm.get 3=some (.slice ao i co) ∧
   tm.get 7=some (.slice a u.sub.length c)∧tm.get 8=some (.int .i64 u.sub.length)∧tm.get 9=some (.int .i64 (i:Nat)) ∧
   G.get H.next=some (.row (eightT u.kind u.term ta tc a u.sub.length c) 30)∧G.get (H.next+1)=some (.row zero6 25) ∧
   LT G 25 (fun n=>(S n∨(H.next+2≤n∧n < G.next))∧ao≠some ⟨n,0,none⟩) ((u.sub.take i).map toldB) ao co∧(∀n,ao=some ⟨n,0,none⟩→H.next+2≤n∧n < G.next)∧HX H G) ?_ u.sub.length _ ?_)
  rotate_left
  ·exact⟨_,_,0,none,0,rfl,rfl,Zs _,(by simp only[sG,Za,reduceCtorEq]),(by simp only[sG,Za,reduceCtorEq]),(by simp only[sG,Za,reduceCtorEq]),(by simp only[sG,Za,reduceCtorEq]),(by simp only[sG,Za,reduceCtorEq]),(by simp only[sB,Za,reduceCtorEq];rfl),gb,gq,.nil,fun n h=>(by cases h),hx2⟩
  rintro k' st ⟨tm,G,i,ao,co,rfl,rfl,hi,t1,t2,t3,t7,t8,t9,gbG,gqG,hlt',hao,hxG⟩;have hwG:=hxG.wf;by_cases hlt:i < u.sub.length;rotate_left
  ·repeat' (first|refine EvC.seq ?_|(refine EvC.exit ?_;try simp only[sB])|(refine EvC.reg ?_;simp only[sA,t8,t9,decn hlt])|(refine EvC.condF ?_ ?_;simp only[sB];refine z07 ?_))
   obtain rfl:i=u.sub.length:=by omega
   rw[List.take_length] at hlt';exact⟨_,_,ao,co,rfl,(by simp only[sG,Za,t1]),(by simp only[sG,Za,t2]),(by simp only[sG,Za,t3]),gbG,gqG,hlt',hao,hxG⟩
  obtain⟨b,o,rfl,hSb,hbl,hld,hri⟩:=hel i hlt;obtain⟨ta1,tc1,a1,c1,cells1,e1,-⟩:=hri.inv;rw[e1] at hld hri;have hld1:=hxG.load hw hld;(repeat refine EvC.seq ?_);refine EvC.reg ?_;simp only[sA,t8,t9,decl hlt];(repeat refine EvC.seq ?_);refine EvC.condT (by simp only[sB]) ?_;(try refine EvC.skip ?_);(try simp only[z00,z01]);refine EvC.seq ?_;refine EvC.block ?_;(repeat refine EvC.seq ?_);refine EvC.reg ?_;simp (disch:=first|omega|rfl) only[sB,dAlloc,Za,Zb,one,ia28,ld30,zr30,st30,t7,t9,hld1];obtain⟨H4,e4,hx4,g5,hn4,hw4⟩:=z0l hwG (.row zero8 30) (.row (eightT u.sub[i].kind u.sub[i].term ta1 tc1 a1 u.sub[i].sub.length c1) 30);simp only[e4];clear e4;have q5:=row8 g5;have hxf:=hxG.trans hx4;refine EvC.reg ?_;simp (disch:=first|omega|rfl) only[sB,Za,Zb,Value.cells,layC,ld30,cl36,z4s,t3,q5];have hsz1:=Bdy.size u u.sub[i] (Zx _);refine(ih (u:=u.sub[i]) (by omega) (hri.to fun n hn hl=>⟨hxf.keep n hl,hn,Zh hl hxf.next⟩) (hfew.sub _ (Zx _)) (fun n hn=>Zh (hS n hn) hxf.next) hw4).mono ?_;rintro v H5 ⟨hx5,out,rfl,hrep⟩;obtain⟨t6,k6,cells6,rfl,-⟩:=hrep.rep.six
  try simp (disch:=first|omega|rfl) only[sB,Za,Zb,one]
  obtain⟨H6,e6,hx6,g6,hn6,hw6⟩:=new1 hx5.wf (.row (six (toldB u.sub[i]) t6 k6) 25);simp only[e6];clear e6;have hx46:=hx4.trans (hx5.trans hx6);have n4:=hx4.next;have n5:=hx5.next;have nG:=hxG.next;have lqG:=hwG _ _ gqG;have etl:((u.sub.take i).map toldB).length=i:=by rw[Zq,Zl];omega
  obtain⟨H7,e7,hlt7,hk7,hn7⟩:=LT.push (P:=Tryz.prog) (t:=23) (E':=fun n=>(S n∨(H.next+2≤n∧n < H6.next+1))∧(some ⟨H6.next,0,none⟩:Option Addr)≠some ⟨n,0,none⟩) (E2:=fun n=>S n∨(H4.next≤n∧n < H5.next)) (u:=toldB u.sub[i]) (c1:=1) ean
   (hlt'.to (H':=H6) (E':=fun n=>(S n∨(H.next+2≤n∧n < G.next))∧ao≠some ⟨n,0,none⟩) (fun n _ hl=>hx46.keep n hl) hx46.next (fun n hn=>hn) fun n hn h=>h.2 hn) hw6 (ld1 g6 rfl) (hrep.to fun n hn hl=>⟨hx6.keep n hl,hn,by omega⟩)
   (fun n hn ha=>by
    have h1:=hao n ha;rcases hn with hn|hn
    ·have:=hS n hn;omega
    ·omega) (fun n hn=>by
    rcases hn.1 with h|h
    ·have:=hS n h;omega
    ·omega) (fun n hn=>by
    rcases hn with h|h
    ·have:=hS n h;omega
    ·omega) (by rw[etl];unfold most;omega) (fun n hn=>by
    rcases hn with ⟨h,_⟩|h
    ·refine⟨h.imp_right fun h=>⟨h.1,by omega⟩,fun e=>?_⟩;injection e with e;injection e with e;rcases h with h|h
     ·have:=hS n h;omega
     ·omega
    ·refine⟨h.imp_right fun h=>⟨by omega,by omega⟩,fun e=>?_⟩;injection e with e;injection e with e;rcases h with h|h
     ·have:=hS n h;omega
     ·omega) (fun h=>h.2 rfl)
  rw[etl] at e7 hlt7;have ha1:ao≠some ⟨H.next,0,none⟩:=fun h=>by have:=hao _ h;omega
  have ha2:ao≠some ⟨H.next+1,0,none⟩:=fun h=>by have:=hao _ h;omega
  have gb7:=hk7.get hw6 (hx46.get hwG gbG) ha1;have gq7:=hk7.get hw6 (hx46.get hwG gqG) ha2;have hx7:HX H H7:=(hxG.trans hx46).then hk7 fun n hn h=>by have:=hao _ h;omega
  repeat' (first|(refine EvC.reg ?_;simp (disch:=first|omega|rfl) only[sB,Za,t9,z0b])|(refine z0i ?_;simp only[sB,Za,e7]))
  refine⟨u.sub.length - (i+1),by omega,_,_,i+1,some ⟨H6.next,0,none⟩,i+1,rfl,rfl,by omega,(by simp only[sG,Za,t1]),(by simp only[sG,Za,t2]),(by simp only[sG,Za]),(by simp only[sG,Za,t7]),(by simp only[sG,Za,t8]),(by simp only[sB,Za];rfl),gb7,gq7,?_,fun n h=>by injection h with h;injection h with h;omega,hx7⟩;rw[←ZA hlt,ZD,hn7];exact hlt7
 rintro st ⟨tm,G,ao,co,rfl,t1,t2,t3,gb,gq,hlt',hao,hxG⟩;have qb:=row8 gb;have htold:=z2j u;have hll:(u.sub.map toldB).length=u.sub.length:=Zq _;have hww:=hxG.wf;have lq:=hww _ _ gq;have hcm':co≤maxLen:=by
  rcases hlt' with ⟨-,-,rfl⟩|⟨b,cells,-,-,h,-⟩
  ·exact Zs _
  ·exact h
 have hrG:RepS G S u.term (six u.term ta tc):=hr.to fun n hn hl=>⟨hxG.keep n hl,hn,Zh hl hxG.next⟩
 simp only[z00];(repeat refine EvC.seq ?_);refine EvC.block ?_;generalize hL:u.sub.map toldB=L at htold hll hlt';by_cases k2:u.kind=2
 ·(repeat refine EvC.seq ?_);refine EvC.reg ?_;simp only[sB,Za,z1f,ld3,t1,qb,z0k k2];refine EvC.condT (by simp only[sB,Za]) ?_;(try refine EvC.skip ?_);(try simp only[z00,z01]);(repeat refine EvC.seq ?_);refine EvC.reg ?_;simp only[sB,Za,cl31];refine(z4k hww).mono ?_;rintro v H5 ⟨rfl,hx5⟩;have n5:=hx5.next;have nG:=hxG.next;have gq5:=hx5.get hww gq
  repeat' (first|(refine EvC.ret ?_;try simp only[z04,z02])|(refine z0i ?_;simp (disch:=first|omega|rfl) only[sB,Zb,one,st25,t2,gq5]))
  refine z0a rfl (by simp only[sB,Za,t2];rfl) (by simp only[sB,Zb,cutC,ld25];rfl) ⟨(hxG.trans hx5).pt (by omega) gq5 _,_,rfl,?_⟩;rw[htold,tellB,if_pos k2];exact z1z (by decide)
 (repeat refine EvC.seq ?_);refine EvC.reg ?_;simp only[sB,Za,z1f,ld3,t1,qb,z0m k2];refine EvC.condF (by simp only[sB,Za]) ?_;(try refine EvC.skip ?_);(try simp only[z00,z01]);refine EvC.frame (fun tm=>tm.get 1=some (.pointer (some ⟨H.next,0,none⟩))∧tm.get 2=some (.pointer (some ⟨H.next+1,0,none⟩))∧tm.get 3=some (.slice ao u.sub.length co)) ⟨(by simp only[sG,Za,t1]),(by simp only[sG,Za,t2]),(by simp only[sG,Za,t3])⟩ ?_;clear t1 t2 t3 tm;rintro tm ⟨t1,t2,t3⟩;by_cases k3:u.kind=3
 ·(repeat refine EvC.seq ?_);refine EvC.reg ?_;simp only[sB,Za,z1f,ld3,t1,qb,z0k k3];refine EvC.condT (by simp only[sB,Za]) ?_;(try refine EvC.skip ?_);(try simp only[z00,z01]);have nG:=hxG.next
  repeat' (first|refine EvC.seq ?_|(refine EvC.ret ?_;try simp only[z04,z02])|(refine EvC.reg ?_;simp (disch:=first|omega|rfl) only[sB,Za,Zb,one,st25,z5r,ld25,t1,t2,qb,gq]))
  refine z0a rfl (by simp only[sB,Za,t2];rfl) (by simp only[sB,Zb,cutC,ld25];rfl) ⟨hxG.pt (by omega) gq _,_,rfl,?_⟩;rw[htold,tellB,if_neg k2,if_pos k3];refine hrG.to fun n hn hl=>?_
  have:=hS n hn;exact⟨by rw[get_put,if_neg (by omega)],.inl hn,by rw[z06];exact hl⟩
 (repeat refine EvC.seq ?_);refine EvC.reg ?_;simp only[sB,Za,z1f,ld3,t1,qb,z0m k3];refine EvC.condF (by simp only[sB,Za]) ?_;(try refine EvC.skip ?_);(try simp only[z00,z01]);refine EvC.frame (fun tm=>tm.get 1=some (.pointer (some ⟨H.next,0,none⟩))∧tm.get 2=some (.pointer (some ⟨H.next+1,0,none⟩))∧tm.get 3=some (.slice ao u.sub.length co)) ⟨(by simp only[sG,Za,t1]),(by simp only[sG,Za,t2]),(by simp only[sG,Za,t3])⟩ ?_;clear t1 t2 t3 tm;rintro tm ⟨t1,t2,t3⟩;by_cases k4:u.kind=4∧L.length=2
 ·have hl':(u.sub.length:Int)=2:=by omega
  (repeat refine EvC.seq ?_);refine EvC.reg ?_;simp only[sB,Za,z1f,ld3,ln23,t1,t3,qb,z0k k4.1,z0k hl'];refine EvC.condT (by simp only[sB,Za]) ?_;(try refine EvC.skip ?_);(try simp only[z00,z01]);(repeat refine EvC.seq ?_);refine EvC.reg ?_;simp only[sB,Za,cl59,t3];refine(z2k hww).mono ?_;rintro v H5 ⟨rfl,hx5⟩;have n5:=hx5.next;have nG:=hxG.next;have gq5:=hx5.get hww gq
  repeat' (first|(refine EvC.ret ?_;try simp only[z04,z02])|(refine z0i ?_;simp (disch:=first|omega|rfl) only[sB,Zb,one,st25,t2,gq5]))
  refine z0a rfl (by simp only[sB,Za,t2];rfl) (by simp only[sB,Zb,cutC,ld25];rfl) ⟨(hxG.trans hx5).pt (by omega) gq5 _,_,rfl,?_⟩;rw[htold,tellB,if_neg k2,if_neg k3,if_pos k4];have hcmp:RepS G (fun n=>S n∨(H.next+2≤n∧n < G.next)) (cmpT sCma L) (six (cmpT sCma L) ao co):=hlt'.comp (by decide) (fun n hn=>hn.1) (fun n hn=>.inr (hao n hn)) hcm';have e6:six (cmpT sCma L) ao co=[.int .i64 5,.string sCma,.string Ze,.int .u64 0,.int .i64 0,.slice ao u.sub.length co]:=by show [_,_,_,_,_,Value.slice ao L.length co]=_;rw[hll];rfl
  rw[e6] at hcmp;refine hcmp.to fun n hn hl=>?_
  have hne:n≠H.next+1:=by
   rcases hn with h|h
   ·have:=hS n h;omega
   ·omega
  exact⟨by rw[get_put,if_neg hne];exact hx5.keep n hl,hn.imp_right fun h=>⟨by omega,by rw[z06];omega⟩,by rw[z06];omega⟩
 refine EvC.cut (fun st=>∃tm',st=⟨tm',[],G⟩∧tm'.get 1=some (.pointer (some ⟨H.next,0,none⟩))∧tm'.get 2=some (.pointer (some ⟨H.next+1,0,none⟩))∧tm'.get 3=some (.slice ao u.sub.length co)∧tm'.get 30=some (.bool false)) ?_ ?_
 ·by_cases kk:u.kind=4
  ·have hl':(u.sub.length:Int)≠2:=fun h=>k4 ⟨kk,by omega⟩
   refine EvC.reg ?_;simp only[sB,Za,z1f,ld3,ln23,t1,t3,qb,z0k kk,z0m hl'];exact⟨_,rfl,(by simp only[sG,Za,t1]),(by simp only[sG,Za,t2]),(by simp only[sG,Za,t3]),by first|(simp only[sG,Za];rfl)|simp only[sG,Za]⟩
  ·refine EvC.reg ?_;simp only[sB,Za,z1f,ld3,t1,qb,z0m kk,Zd];exact⟨_,rfl,(by simp only[sG,Za,t1]),(by simp only[sG,Za,t2]),(by simp only[sG,Za,t3]),by first|(simp only[sG,Za];rfl)|simp only[sG,Za]⟩
 clear t1 t2 t3 tm;rintro st ⟨tm,rfl,t1,t2,t3,tc⟩;refine EvC.condF (by simp only[sA,tc]) ?_;(try refine EvC.skip ?_);(try simp only[z00,z01]);clear tc;by_cases k5:u.kind=5∧L.length=2
 ·have hl':(u.sub.length:Int)=2:=by omega
  (repeat refine EvC.seq ?_);refine EvC.reg ?_;simp only[sB,Za,z1f,ld3,ln23,t1,t3,qb,z0k k5.1,z0k hl'];refine EvC.condT (by simp only[sB,Za]) ?_;(try refine EvC.skip ?_);(try simp only[z00,z01]);(repeat refine EvC.seq ?_);refine EvC.reg ?_;simp only[sB,Za,cl59,t3];refine(z2k hww).mono ?_;rintro v H5 ⟨rfl,hx5⟩;have n5:=hx5.next;have nG:=hxG.next;have gq5:=hx5.get hww gq
  repeat' (first|(refine EvC.ret ?_;try simp only[z04,z02])|(refine z0i ?_;simp (disch:=first|omega|rfl) only[sB,Zb,one,st25,t2,gq5]))
  refine z0a rfl (by simp only[sB,Za,t2];rfl) (by simp only[sB,Zb,cutC,ld25];rfl) ⟨(hxG.trans hx5).pt (by omega) gq5 _,_,rfl,?_⟩;rw[htold,tellB,if_neg k2,if_neg k3,if_neg k4,if_pos k5];have hcmp:RepS G (fun n=>S n∨(H.next+2≤n∧n < G.next)) (cmpT sSem L) (six (cmpT sSem L) ao co):=hlt'.comp (by decide) (fun n hn=>hn.1) (fun n hn=>.inr (hao n hn)) hcm';have e6:six (cmpT sSem L) ao co=[.int .i64 5,.string sSem,.string Ze,.int .u64 0,.int .i64 0,.slice ao u.sub.length co]:=by show [_,_,_,_,_,Value.slice ao L.length co]=_;rw[hll];rfl
  rw[e6] at hcmp;refine hcmp.to fun n hn hl=>?_
  have hne:n≠H.next+1:=by
   rcases hn with h|h
   ·have:=hS n h;omega
   ·omega
  exact⟨by rw[get_put,if_neg hne];exact hx5.keep n hl,hn.imp_right fun h=>⟨by omega,by rw[z06];omega⟩,by rw[z06];omega⟩
 refine EvC.cut (fun st=>∃tm',st=⟨tm',[],G⟩∧tm'.get 1=some (.pointer (some ⟨H.next,0,none⟩))∧tm'.get 2=some (.pointer (some ⟨H.next+1,0,none⟩))∧tm'.get 3=some (.slice ao u.sub.length co)∧tm'.get 41=some (.bool false)) ?_ ?_
 ·by_cases kk:u.kind=5
  ·have hl':(u.sub.length:Int)≠2:=fun h=>k5 ⟨kk,by omega⟩
   refine EvC.reg ?_;simp only[sB,Za,z1f,ld3,ln23,t1,t3,qb,z0k kk,z0m hl'];exact⟨_,rfl,(by simp only[sG,Za,t1]),(by simp only[sG,Za,t2]),(by simp only[sG,Za,t3]),by first|(simp only[sG,Za];rfl)|simp only[sG,Za]⟩
  ·refine EvC.reg ?_;simp only[sB,Za,z1f,ld3,t1,qb,z0m kk,Zd];exact⟨_,rfl,(by simp only[sG,Za,t1]),(by simp only[sG,Za,t2]),(by simp only[sG,Za,t3]),by first|(simp only[sG,Za];rfl)|simp only[sG,Za]⟩
 clear t1 t2 t3 tm;rintro st ⟨tm,rfl,t1,t2,t3,tc⟩;refine EvC.condF (by simp only[sA,tc]) ?_;(try refine EvC.skip ?_);(try simp only[z00,z01]);clear tc;by_cases k6:u.kind=6∧L.length=2
 ·have hl':(u.sub.length:Int)=2:=by omega
  (repeat refine EvC.seq ?_);refine EvC.reg ?_;simp only[sB,Za,z1f,ld3,ln23,t1,t3,qb,z0k k6.1,z0k hl'];refine EvC.condT (by simp only[sB,Za]) ?_;(try refine EvC.skip ?_);(try simp only[z00,z01]);(repeat refine EvC.seq ?_);refine EvC.reg ?_;simp only[sB,Za,cl59,t3];refine(z2k hww).mono ?_;rintro v H5 ⟨rfl,hx5⟩;have n5:=hx5.next;have nG:=hxG.next;have gq5:=hx5.get hww gq
  repeat' (first|(refine EvC.ret ?_;try simp only[z04,z02])|(refine z0i ?_;simp (disch:=first|omega|rfl) only[sB,Zb,one,st25,t2,gq5]))
  refine z0a rfl (by simp only[sB,Za,t2];rfl) (by simp only[sB,Zb,cutC,ld25];rfl) ⟨(hxG.trans hx5).pt (by omega) gq5 _,_,rfl,?_⟩;rw[htold,tellB,if_neg k2,if_neg k3,if_neg k4,if_neg k5,if_pos k6];have hcmp:RepS G (fun n=>S n∨(H.next+2≤n∧n < G.next)) (cmpT sArr L) (six (cmpT sArr L) ao co):=hlt'.comp (by decide) (fun n hn=>hn.1) (fun n hn=>.inr (hao n hn)) hcm';have e6:six (cmpT sArr L) ao co=[.int .i64 5,.string sArr,.string Ze,.int .u64 0,.int .i64 0,.slice ao u.sub.length co]:=by show [_,_,_,_,_,Value.slice ao L.length co]=_;rw[hll];rfl
  rw[e6] at hcmp;refine hcmp.to fun n hn hl=>?_
  have hne:n≠H.next+1:=by
   rcases hn with h|h
   ·have:=hS n h;omega
   ·omega
  exact⟨by rw[get_put,if_neg hne];exact hx5.keep n hl,hn.imp_right fun h=>⟨by omega,by rw[z06];omega⟩,by rw[z06];omega⟩
 refine EvC.cut (fun st=>∃tm',st=⟨tm',[],G⟩∧tm'.get 1=some (.pointer (some ⟨H.next,0,none⟩))∧tm'.get 2=some (.pointer (some ⟨H.next+1,0,none⟩))∧tm'.get 3=some (.slice ao u.sub.length co)∧tm'.get 52=some (.bool false)) ?_ ?_
 ·by_cases kk:u.kind=6
  ·have hl':(u.sub.length:Int)≠2:=fun h=>k6 ⟨kk,by omega⟩
   refine EvC.reg ?_;simp only[sB,Za,z1f,ld3,ln23,t1,t3,qb,z0k kk,z0m hl'];exact⟨_,rfl,(by simp only[sG,Za,t1]),(by simp only[sG,Za,t2]),(by simp only[sG,Za,t3]),by first|(simp only[sG,Za];rfl)|simp only[sG,Za]⟩
  ·refine EvC.reg ?_;simp only[sB,Za,z1f,ld3,t1,qb,z0m kk,Zd];exact⟨_,rfl,(by simp only[sG,Za,t1]),(by simp only[sG,Za,t2]),(by simp only[sG,Za,t3]),by first|(simp only[sG,Za];rfl)|simp only[sG,Za]⟩
 clear t1 t2 t3 tm;rintro st ⟨tm,rfl,t1,t2,t3,tc⟩;refine EvC.condF (by simp only[sA,tc]) ?_;(try refine EvC.skip ?_);(try simp only[z00,z01]);clear tc;by_cases k6t:u.kind=6∧L.length=3
 ·have hl':(u.sub.length:Int)=3:=by omega
  obtain⟨x,y,z,hxy⟩:∃x y z,L=[x,y,z]:=by
   match L,k6t.2 with
   |[x,y,z],_=>exact⟨x,y,z,rfl⟩
  subst hxy;obtain⟨b,a1,c1,rfl,l0,r1,hbl⟩:=hlt'.el (i:=0) (by show 0 < 3;decide);obtain⟨b',a2,c2,e2,l1,r2,-⟩:=hlt'.el (i:=1) (by show 1 < 3;decide);cases e2;obtain⟨b'',a3,c3,e3,l2,r3,-⟩:=hlt'.el (i:=2) (by show 2 < 3;decide);cases e3;simp only[List.getElem_cons_zero,List.getElem_cons_succ,Zu,ZL] at l0 l1 l2 r1 r2 r3;have nG:=hxG.next;obtain⟨L4,eL4⟩:∃L4,six x a1 c1++six y a2 c2=L4:=⟨_,rfl⟩
  have eL4':=eL4;simp only[six,ZK,List.nil_append] at eL4';obtain⟨H4,e4⟩:∃H4,(⟨G.next+14,G.t⟩:Heap).put (G.next+6) (some (.row L4 25))=H4:=⟨_,rfl⟩
  have hx4:HX G H4:=by rw[←e4];exact(((HX.refl hww).bump 14).put (by omega) (by show _ < G.next+14;omega) _)
  have n4:H4.next=G.next+14:=by rw[←e4];rfl
  have g4:H4.get (G.next+6)=some (.row L4 25):=by rw[←e4,get_put,if_pos rfl]
  have nb6:(b=G.next+6)=False:=by simp;omega
  (repeat refine EvC.seq ?_);refine EvC.reg ?_;simp only[sB,Za,z1f,ld3,ln23,t1,t3,qb,z0k k6t.1,z0k hl'];refine EvC.condT (by simp only[sB,Za]) ?_;(try refine EvC.skip ?_);(try simp only[z00,z01]);(repeat refine EvC.seq ?_);refine EvC.drw [([(0,0),(1,0),(2,0),(3,0),(4,0),(5,0),(6,0)],some 7),([(8,0),(9,0),(10,0),(11,1)],some 12),([],some 13),([],none)] (by kernel_rfl) ?_;simp (disch:=first|omega|rfl) only[sD,sB,Za,Zb,Value.cells,one,reduceCtorEq,Zk,layC,Zv,ld25,cl59,z6r,isAlloc,isRead,dalloc,t3,l0,l1,iz23,Zu,ZL,eL4',e4];refine(z2k hx4.wf).mono ?_;rintro v H5 ⟨rfl,hx5⟩;have n5:=hx5.next;have l2':=hx5.load hx4.wf (hx4.load hww l2);obtain⟨L6,eL6⟩:∃L6,six (cmpT sArr [x,y]) (some ⟨G.next+6,0,none⟩) 2++six z a3 c3=L6:=⟨_,rfl⟩
  have eL6':[.int .i64 5,.string sArr,.string Ze,.int .u64 0,.int .i64 0,.slice (some ⟨G.next+6,0,none⟩) 2 2,.int .i64 z.kind,.string z.name,.string z.num,.int .u64 z.bits,.int .i64 z.var,.slice a3 z.args.length c3]=L6:=eL6;obtain⟨H6,e6⟩:∃H6,H5.put (G.next+11) (some (.row L6 25))=H6:=⟨_,rfl⟩
  have hx6:HX G H6:=by rw[←e6];exact(hx4.trans hx5).put (by omega) (by omega) _
  have n6:H6.next=H5.next:=by rw[←e6];rfl
  have g6:H6.get (G.next+11)=some (.row L6 25):=by rw[←e6,get_put,if_pos rfl]
  have g46:H6.get (G.next+6)=some (.row L4 25):=by rw[←e6,get_put,if_neg (by omega)];exact hx5.get hx4.wf g4
  have l24:=hx4.load hww l2
  repeat' (first|(refine z0h ?_;simp (disch:=first|omega|rfl) only[sV,sD,sB,Za,Zb,Value.cells,one,reduceCtorEq,Zk,layC,Zv,ld25,cl59,z6r,t3,l2,l2',iz23,Nat.reduceMul,eL6',e6,isAlloc,isRead,dalloc]))
  refine(z2k hx6.wf).mono ?_;rintro v H7 ⟨rfl,hx7⟩;have n7:=hx7.next;have hx67:=hx6.trans hx7;have gq7:=hx67.get hww gq
  repeat' (first|(refine EvC.ret ?_;try simp only[z04,z02])|(refine z0h ?_;simp (disch:=first|omega|rfl) only[sD,sB,Za,Zb,one,st25,t2,gq7]))
  refine z0a rfl (by simp only[sB,Za,t2];rfl) (by simp only[sB,Zb,cutC,ld25];rfl) ⟨(hxG.trans hx67).pt (by omega) gq7 _,_,rfl,?_⟩;have k4':¬(u.kind=4∧[x,y,z].length=2):=k4;rw[htold,tellB,if_neg k2,if_neg k3,if_neg k4,if_neg k5,if_neg k6,if_pos k6t];have rr:∀{w:Tm}{cs:List Value},RepS G (fun n=>(S n∨(H.next+2≤n∧n < G.next))∧(some ⟨b,0,none⟩:Option Addr)≠some ⟨n,0,none⟩) w cs→RepS H7 (fun n=>(S n∨(H.next+2≤n∧n < H7.next))) w cs:=fun h=>h.to fun n hn hl=>⟨hx67.keep n hl,hn.1.imp_right fun h=>⟨h.1,by omega⟩,by omega⟩
  subst eL4 eL6;have ho:RepS H7 (fun n=>(S n∨(H.next+2≤n∧n < H7.next))) (cmpT sSem [cmpT sArr [x,y],z]) (six (cmpT sSem [cmpT sArr [x,y],z]) (some ⟨G.next+11,0,none⟩) 2) :=
   z2y (by decide) (hx7.get hx6.wf g6) (.inr ⟨by omega,by omega⟩) hx7.wf (z2y (by decide) (hx7.get hx6.wf g46) (.inr ⟨by omega,by omega⟩) hx7.wf (rr r1) (rr r2)) (rr r3)
  refine ho.to fun n hn hl=>?_
  have hne:n≠H.next+1:=by
   rcases hn with h|h
   ·have:=hS n h;omega
   ·omega
  exact⟨by rw[get_put,if_neg hne],hn.imp_right fun h=>⟨by omega,by rw[z06];omega⟩,by rw[z06];omega⟩
 refine EvC.cut (fun st=>∃tm',st=⟨tm',[],G⟩∧tm'.get 1=some (.pointer (some ⟨H.next,0,none⟩))∧tm'.get 2=some (.pointer (some ⟨H.next+1,0,none⟩))∧tm'.get 3=some (.slice ao u.sub.length co)∧tm'.get 63=some (.bool false)) ?_ ?_
 ·by_cases kk:u.kind=6
  ·have hl':(u.sub.length:Int)≠3:=fun h=>k6t ⟨kk,by omega⟩
   refine EvC.reg ?_;simp only[sB,Za,z1f,ld3,ln23,t1,t3,qb,z0k kk,z0m hl'];exact⟨_,rfl,(by simp only[sG,Za,t1]),(by simp only[sG,Za,t2]),(by simp only[sG,Za,t3]),by first|(simp only[sG,Za];rfl)|simp only[sG,Za]⟩
  ·refine EvC.reg ?_;simp only[sB,Za,z1f,ld3,t1,qb,z0m kk,Zd];exact⟨_,rfl,(by simp only[sG,Za,t1]),(by simp only[sG,Za,t2]),(by simp only[sG,Za,t3]),by first|(simp only[sG,Za];rfl)|simp only[sG,Za]⟩
 clear t1 t2 t3 tm;rintro st ⟨tm,rfl,t1,t2,t3,tc⟩;refine EvC.condF (by simp only[sA,tc]) ?_;(try refine EvC.skip ?_);(try simp only[z00,z01]);clear tc;by_cases k7:u.kind=7∧L.length=1
 ·have hl':(u.sub.length:Int)=1:=by omega
  obtain⟨x,hxy⟩:∃x,L=[x]:=by
   match L,k7.2 with
   |[x],_=>exact⟨x,rfl⟩
  subst hxy;obtain⟨b,a1,c1,rfl,l0,r1,hbl⟩:=hlt'.el (i:=0) (by show 0 < 1;decide);simp only[List.getElem_cons_zero,Zu] at l0 r1;have nG:=hxG.next;obtain⟨L4,eL4⟩:∃L4,six u.term ta tc++six x a1 c1=L4:=⟨_,rfl⟩
  have eL4':=eL4;simp only[six,ZK,List.nil_append] at eL4';obtain⟨H4,e4⟩:∃H4,(⟨G.next+8,G.t⟩:Heap).put (G.next+5) (some (.row L4 25))=H4:=⟨_,rfl⟩
  have hx4:HX G H4:=by rw[←e4];exact(((HX.refl hww).bump 8).put (by omega) (by show _ < G.next+8;omega) _)
  have n4:H4.next=G.next+8:=by rw[←e4];rfl
  have g4:H4.get (G.next+5)=some (.row L4 25):=by rw[←e4,get_put,if_pos rfl]
  (repeat refine EvC.seq ?_);refine EvC.reg ?_;simp only[sB,Za,z1f,ld3,ln23,t1,t3,qb,z0k k7.1,z0k hl'];refine EvC.condT (by simp only[sB,Za]) ?_;(try refine EvC.skip ?_);(try simp only[z00,z01]);(repeat refine EvC.seq ?_);refine EvC.drw [([(0,0),(1,0),(2,0),(3,0),(4,0),(5,0)],some 6),([],some 7),([],none)] (by kernel_rfl) ?_;simp (disch:=first|omega|rfl) only[sD,sB,Za,Zb,Value.cells,one,reduceCtorEq,Zk,layC,Zv,z5r,ld25,cl59,z6r,isAlloc,isRead,dalloc,t1,t3,qb,l0,iz23,Zu,eL4',e4];refine(z2k hx4.wf).mono ?_;rintro v H5 ⟨rfl,hx5⟩;have n5:=hx5.next;have hx45:=hx4.trans hx5;have gq5:=hx45.get hww gq
  repeat' (first|(refine EvC.ret ?_;try simp only[z04,z02])|(refine z0h ?_;simp (disch:=first|omega|rfl) only[sD,sB,Za,Zb,one,st25,t2,gq5]))
  refine z0a rfl (by simp only[sB,Za,t2];rfl) (by simp only[sB,Zb,cutC,ld25];rfl) ⟨(hxG.trans hx45).pt (by omega) gq5 _,_,rfl,?_⟩;rw[htold,tellB,if_neg k2,if_neg k3,if_neg k4,if_neg k5,if_neg k6,if_neg k6t,if_pos k7];subst eL4;have ho:RepS H5 (fun n=>(S n∨(H.next+2≤n∧n < H5.next))) (cmpT sCol [u.term,x]) (six (cmpT sCol [u.term,x]) (some ⟨G.next+5,0,none⟩) 2) :=
   z2y (by decide) (hx5.get hx4.wf g4) (.inr ⟨by omega,by omega⟩) hx5.wf (hrG.to fun n hn hl=>⟨hx45.keep n hl,.inl hn,by omega⟩) (r1.to fun n hn hl=>⟨hx45.keep n hl,hn.1.imp_right fun h=>⟨h.1,by omega⟩,by omega⟩)
  refine ho.to fun n hn hl=>?_
  have hne:n≠H.next+1:=by
   rcases hn with h|h
   ·have:=hS n h;omega
   ·omega
  exact⟨by rw[get_put,if_neg hne],hn.imp_right fun h=>⟨by omega,by rw[z06];omega⟩,by rw[z06];omega⟩
 refine EvC.join (fun st=>∃tm',st=⟨tm',[],G⟩∧tm'.get 2=some (.pointer (some ⟨H.next+1,0,none⟩))) ?_ ?_
 ·by_cases kk:u.kind=7
  ·have hl':(u.sub.length:Int)≠1:=fun h=>k7 ⟨kk,by omega⟩
   repeat' (first|refine EvC.seq ?_|(refine EvC.skip ?_;try simp only[z00])|(refine EvC.reg ?_;simp only[sB,Za,z1f,ld3,ln23,t1,t3,qb,z0k kk,z0m hl'])|(refine EvC.condF ?_ ?_;simp only[sB,Za];refine z07 ?_))
   exact⟨_,rfl,(by simp only[sG,Za,t2])⟩
  ·repeat' (first|refine EvC.seq ?_|(refine EvC.skip ?_;try simp only[z00])|(refine EvC.reg ?_;simp only[sB,Za,z1f,ld3,t1,qb,z0m kk,Zd])|(refine EvC.condF ?_ ?_;simp only[sB,Za];refine z07 ?_))
   exact⟨_,rfl,(by simp only[sG,Za,t2])⟩
 rintro st ⟨tm,rfl,t2⟩;(repeat refine EvC.seq ?_);refine EvC.reg ?_;simp only[sB,Za,cl31];refine(z4k hww).mono ?_;rintro v H5 ⟨rfl,hx5⟩;have n5:=hx5.next;have nG:=hxG.next;have gq5:=hx5.get hww gq
 repeat' (first|(refine EvC.ret ?_)|(refine z0i ?_;simp (disch:=first|omega|rfl) only[sB,Zb,one,st25,t2,gq5]))
 refine z0a rfl (by simp only[sB,Za,t2];rfl) (by simp only[sB,Zb,cutC,ld25];rfl) ⟨(hxG.trans hx5).pt (by omega) gq5 _,_,rfl,?_⟩;rw[htold,z3a k2 k3 k4 k5 k6 k6t k7];exact z1z (by decide)
set_option maxHeartbeats 2000000 in
theorem zcm {s:ByteArray}{H:Heap}(hs:s.size≤maxLen) (hw:H.wf) :
  EvF Tryz.prog okT 37 [.string s] H fun v H'=>HX H H'∧RepES H' (Rg H.next H'.next) (.ball (resT s)) v:=by
 refine EvF.enter rfl Tryz.func37 (by decide) rfl ?_;(repeat refine EvC.seq ?_);refine EvC.reg ?_;simp only[sA,initTm];(repeat refine EvC.seq ?_);refine EvC.reg ?_;simp only[sB,Za,Zb,Value.cells,reduceCtorEq,layC,cl31,z4s];refine(z4k hw).mono ?_;rintro v H3 ⟨rfl,hx3⟩;have n3:=hx3.next
 repeat' (first|(refine z0i ?_;simp only[sB,Za,Zb,one,reduceCtorEq,cl59,cl33]))
 obtain⟨H4,e4,hx4,g4,hn4,hw4⟩:=new1 hx3.wf (.row (six (atmT s) none 0) 25);simp only[e4];refine(z2k hw4).mono ?_;rintro v H5 ⟨rfl,hx5⟩;have n5:=hx5.next;have g5:=hx5.get hw4 g4;have hr:RepS H5 (fun n=>n=H3.next) (resT s) (six (resT s) (some ⟨H3.next,0,none⟩) 1):=RepS.row (t:=resT s) (z5t (by decide)) rfl g5 rfl (hx5.wf _ _ g5) (Zg _) (Zg _) (by decide) fun j hj=>by
  match j,hj with
  |0,_=>exact z1z hs
 skip
 refine(z8i hr hx5.wf (fun n hn=>by omega)).mono ?_;rintro v H6 ⟨hx6,he⟩;have n6:=hx6.next
 repeat' (first|(refine EvC.ret ?_))
 refine z03 rfl (by simp only[sG,Za,reduceCtorEq]) ⟨((hx3.trans hx4).trans hx5).trans hx6,he.to fun n hn hl=>⟨rfl,?_,hl⟩⟩;rcases hn with rfl|hn
 ·exact⟨by omega,by omega⟩
 ·exact⟨by omega,by omega⟩
set_option maxHeartbeats 4000000 in
theorem z73 {s:ByteArray}{t:Tm}{cs:List Value}{H:Heap}(hs:s.size≤maxLen) (r0:RepT H t cs) (hc:checkS t=0) (hw:H.wf) :
  EvF Tryz.prog okT 34 [.string s,.agg ⟨cs⟩] H fun v H'=>HX H H'∧RepES H' (Rg H.next H'.next) (.ball (typeT s t)) v:=by
 obtain⟨a,c,cells,rfl,-⟩:=r0.six;refine EvF.enter rfl Tryz.func34 (by decide) rfl ?_;(repeat refine EvC.seq ?_);refine EvC.reg ?_;simp only[sB,initTm,dBox,Value.cells,one,reduceCtorEq];obtain⟨H2,e2,hx2,gt,hn2,hw2⟩:=new1 hw (.row (six t a c) 25);simp only[e2];clear e2;have qt:=row6 gt;(repeat refine EvC.seq ?_);refine EvC.drw [([(0,0)],some 1),([(2,0)],some 3),([(4,2)],some 5),([],some 6),([(7,4)],none)] (by kernel_rfl) ?_;simp only[sD,sB,Za,Zb,reduceCtorEq,cl31,isAlloc,isRead];have hxb:HX H2 ⟨H2.next+8,H2.t⟩:=(HX.refl hw2).bump 8;refine(z4k hxb.wf).mono ?_;rintro v H3 ⟨rfl,hx3⟩;have n3:H2.next+8≤H3.next:=hx3.next;have qt3:=row6 (hx3.get hxb.wf (show (⟨H2.next+8,H2.t⟩:Heap).get H.next=_ from gt));have hx23:=hxb.trans hx3;have hxh3:=hx2.trans hx23
 repeat' (first|(refine z0h ?_;simp only[sV,sD,sB,Za,reduceCtorEq,ld25,cl56,qt,qt3,isAlloc,isRead]))
 refine(z9t (r0.mono hxh3 hw) hc hx3.wf).mono ?_;rintro v H4 ⟨hx4,out,rfl,hot⟩;obtain⟨a4,c4,cells4,rfl,-⟩:=hot.rep.six;have n4:=hx4.next;obtain⟨L,eL⟩:∃L,six (atmT s) none 0++six t a4 c4=L:=⟨_,rfl⟩
 have eL':=eL;simp only[six,ZK,List.nil_append] at eL';obtain⟨H5,e5⟩:∃H5,H4.put (H2.next+4) (some (.row L 25))=H5:=⟨_,rfl⟩
 have hx5:HX H H5:=by rw[←e5];exact(hxh3.trans hx4).put (by omega) (by omega) _
 have n5:H5.next=H4.next:=by rw[←e5];rfl
 have g5:H5.get (H2.next+4)=some (.row L 25):=by rw[←e5,get_put,if_pos rfl]
 repeat' (first|(refine z0h ?_;simp only[sD,sB,Za,Zb,Value.cells,one,reduceCtorEq,Zk,layC,z6r,cl59,eL',e5,isAlloc,dalloc]))
 refine(z2k hx5.wf).mono ?_;rintro v H6 ⟨rfl,hx6⟩;have n6:=hx6.next;have g6:=hx6.get hx5.wf g5;subst eL;have hr:RepS H6 (fun n=>n=H2.next+4∨(H3.next≤n∧n < H4.next)) (typeT s t) (six (typeT s t) (some ⟨H2.next+4,0,none⟩) 2):=z2y (by decide) g6 (.inl rfl) hx6.wf (z1z hs) (hot.1.to fun n hn hl=>by
  have h1:H3.next≤n:=hn.1;have h2:n < H4.next:=hn.2;exact⟨by rw[hx6.keep n (by omega),←e5,get_put,if_neg (by omega)],.inr ⟨h1,h2⟩,by omega⟩)
 repeat' (first|(refine z0h ?_;simp only[sD,sB,Za,reduceCtorEq,cl33]))
 refine(z8i hr hx6.wf (fun n hn=>by rcases hn with hn|hn<;>omega)).mono ?_;rintro v H7 ⟨hx7,he⟩;have n7:=hx7.next
 repeat' (first|(refine EvC.ret ?_)|(refine z0h ?_;simp only[sD,sB,Za,Zb,reduceCtorEq,isAlloc,isRead]))
 refine z03 rfl (by simp only[sG,Za,reduceCtorEq]) ⟨(hx5.trans hx6).trans hx7,he.to fun n hn hl=>⟨rfl,?_,hl⟩⟩;rcases hn with (rfl|hn)|hn
 ·exact⟨by omega,by omega⟩
 ·exact⟨by omega,by omega⟩
 ·exact⟨by omega,by omega⟩
theorem zmd {P:Program}{tm:Tr Value}{H:Heap}{K:Tr Value→Heap→Prop}(h:K tm H):EPl P [] tm H K:=h
theorem zud {x y:Operand}{H:Heap}:dBin Tryz.prog .neq 20 x y .nilIface .nilIface H=some (.val (.bool false) H):=by
 cases x<;>cases y<;>kernel_rfl
theorem zq2:taZ Tryz.prog 97=some (.agg ⟨[]⟩):=by kernel_rfl
theorem z3m {n:Nat}:decide (((n:Nat):Int) > 4000)=decide (4000 < n):=by
 by_cases h:4000 < n
 ·rw[decide_eq_true h,decide_eq_true (by omega)]
 ·rw[decide_eq_false h,decide_eq_false (by omega)]
set_option maxHeartbeats 8000000 in
theorem zer {fn:Func}{tm:Tr Value}{K:Value→Heap→Prop}{p1 p2 p3:Nat}{H:Heap}(hK:∀H',HX H H'→EvM Tryz.prog okT fn tm [] none H' K) (hw:H.wf) :
  EvM Tryz.prog okT fn tm [⟨.fn (.func 61) #[.pointer (some ⟨p1,0,none⟩),.pointer (some ⟨p2,0,none⟩),.pointer (some ⟨p3,0,none⟩)],#[]⟩] none H K:=by
 refine EvM.recov Tryz.func61 (by decide) (by kernel_rfl) rfl rfl rfl rfl rfl ?_;refine⟨rfl,_,_,z5d,zmd ?_⟩;refine EvSq.cons ?_;(repeat refine EvC.seq ?_);refine EvC.reg ?_;simp only[sB,initTm,dAlloc,Za,Zb,reduceCtorEq,zr97,st97,drecov,z24,zm5 zq2];(repeat refine EvC.seq ?_);refine EvC.reg ?_;simp only[sB,Za,reduceCtorEq];refine EvC.condF (by simp only[sB,Za,reduceCtorEq]) ?_;(try refine EvC.skip ?_);(try simp only[z00,z01]);(repeat refine EvC.seq ?_);refine EvC.reg ?_;simp only[sB,Za,reduceCtorEq,zud];refine EvC.condF (by simp only[sB,Za,reduceCtorEq]) ?_;(try refine EvC.skip ?_);(try simp only[z00,z01]);refine EvSq.nil ⟨.inl rfl,rfl,?_⟩;exact hK _ (((HX.refl hw).new _).put (Zg _) (Zf _) _)
theorem zog:(drecov (some stopCh)).1=.iface 97 (.agg #[]):=rfl
theorem zoh:dsettle (drecov (some stopCh)).2=none:=rfl
set_option maxHeartbeats 8000000 in
theorem zme {fn:Func}{tm:Tr Value}{K:Value→Heap→Prop}{p1 p2 p3:Nat}{t:Tm}{a:Option Addr}{c:Nat}{cs8:List Value}{v3:Value}{H:Heap}(hl8:cs8.length=8) (r:RepT H t (six t a c)) (hc:checkS t=0) (g1:H.get p1=some (.row (six t a c) 25)) (g2:H.get p2=some (.row cs8 30)) (g3:H.get p3=some (.row [v3] 34)) (h23:p2≠p3)
  (hK:∀H' ev,HX H H'→RepES H' (Rg H.next H'.next) (.ball (typeT sCallable t)) ev→EvM Tryz.prog okT fn tm [] none ((H'.put p2 (some (.row zero8 30))).put p3 (some (.row [ev] 34))) K) (hw:H.wf) :
  EvM Tryz.prog okT fn tm [⟨.fn (.func 61) #[.pointer (some ⟨p1,0,none⟩),.pointer (some ⟨p2,0,none⟩),.pointer (some ⟨p3,0,none⟩)],#[]⟩] (some stopCh) H K:=by
 refine EvM.recov Tryz.func61 (by decide) (by kernel_rfl) rfl rfl rfl rfl rfl ?_;rw[zog,zoh];refine⟨rfl,_,_,z5d,zmd ?_⟩;refine EvSq.cons ?_;(repeat refine EvC.seq ?_);refine EvC.reg ?_;simp only[sB,initTm,dAlloc,Za,Zb,reduceCtorEq,zr97,st97,z24,zg4 zq2];obtain⟨H2,e2,hx2,-,hn2,hw2⟩:=z0l hw (.row [] 97) (.row [] 97);simp only[e2];clear e2;have g12:=hx2.get hw g1;have q1:=row6 g12;(repeat refine EvC.seq ?_);refine EvC.reg ?_;simp only[sB,Za,reduceCtorEq];refine EvC.condT (by simp only[sB,Za,reduceCtorEq]) ?_;(try refine EvC.skip ?_);(try simp only[z00,z01]);refine EvC.reg ?_;simp only[sB,Za,Zb,Value.cells,reduceCtorEq,layC,bd30,ld25,cl34,st30,q1];refine(z73 (s:=sCallable) (by decide) (r.mono hx2 hw) hc hw2).mono ?_;rintro v H3 ⟨hx3,he⟩;have hx23:=hx2.trans hx3;have n2:=hx2.next;have n3:=hx3.next;have g23:=hx23.get hw g2;have g33:=hx23.get hw g3;have hl2:=hx23.wf _ _ g23;obtain⟨pb,ab,cb,rfl,-,-⟩:=he.rep;have e32:(p3=p2)=False:=by simp;exact fun h=>h23 h.symm
 have d8:List.drop 8 cs8=[]:=List.drop_eq_nil_of_le (by omega);have d81:(8≤cs8.length)=True:=by simp;omega
 repeat' (first|(refine z0i ?_;simp only[sB,Za,Zb,one,reduceCtorEq,st34,g23,g33,e32,d8,d81]))
 refine EvSq.nil ⟨.inl rfl,rfl,?_⟩;refine hK H3 _ hx23 (he.to fun n hn hl=>⟨rfl,⟨by have:=hn.1;omega,hn.2⟩,hl⟩)
end Go.Proofs.hq
end
