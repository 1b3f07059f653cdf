import Derived.Test.YtfalgpiidlhhjaaGreatDoorM3
/- Lemmas on the program's own code, towards the laws of this folder, part 4. Conditions: as each lemma says. -/
open Bool renaming false_eq_true -> Zd, not_eq_true -> ZE, not_false -> Zw, not_true -> Zn
open ByteArray renaming empty -> Zh
open Int renaming eq_ofNat_of_zero_le -> Zk, toNat_natCast -> Zv
open List renaming append_assoc -> ZF, drop_eq_getElem_cons -> ZB, foldl_cons -> ZP, getElem?_eq_getElem -> Zc, getElem?_eq_none -> ZM, getElem?_map -> Zj, getElem?_take -> ZJ, getElem_mem -> ZD, length_append -> Zm, length_map -> Zp, length_set -> Zy, length_singleton -> ZN, length_take -> ZH, map_append -> ZK, mem_cons_of_mem -> Zl, mem_of_getElem? -> ZG, mem_singleton -> Zx, range -> Zg, take_append_getElem -> ZL, take_of_length_le -> Zq
open Nat renaming beq -> Zt, le_refl -> Ze, le_trans -> ZC, lt_of_lt_of_le -> Zo, lt_succ_self -> Zf, reduceAdd -> Zb, reduceEqDiff -> Za, reduceLeDiff -> Zr, zero_le -> ZA
open Option renaming bind_some -> Zs
section
namespace Go.Hb
open Go Go.RowKit
theorem zd5 {cs vs:List Value}{o k:Nat}(h:o+vs.length<=cs.length):(splice cs o vs)[k]?=if o<=k/\k < o+vs.length then vs[k - o]? else cs[k]?:=by
 rw[z1r _ _ _ (by omega)];simp only[List.getElem?_append,ZJ,List.getElem?_drop,ZH,Zm]
 grind
theorem z49 {cs vs:List Value}{o s:Nat}(h:o+s<=cs.length) (hv:vs.length=s):((splice cs o vs).drop o).take s=vs:=by
 apply List.ext_getElem?;intro k;rw[ZJ,List.getElem?_drop,zd5 (by omega)];by_cases hk:k < s
 ·rw[if_pos hk,if_pos (by omega),show o+k - o=k by omega]
 ·rw[if_neg hk,ZM (by omega)]
theorem z3c {cs vs:List Value}{o j s:Nat}(h:o+s<=cs.length) (hv:vs.length=s) (hd:j+s<=o\/o+s<=j):((splice cs o vs).drop j).take s=(cs.drop j).take s:=by
 apply List.ext_getElem?;intro k;rw[ZJ,List.getElem?_drop,zd5 (by omega),ZJ,List.getElem?_drop];by_cases hk:k < s
 ·rw[if_pos hk,if_neg (by omega),if_pos hk]
 ·rw[if_neg hk,if_neg hk]
theorem mul6 {i j:Nat}(h:i < j):i*6+6<=j*6:=by omega
theorem HX.pt {A H:Heap}(h:HX A H) {i:Nat}{B0:Blk}(hi:A.next<=i) (hg:H.get i=some B0) (B:Option Blk):HX A (H.put i B):=h.put hi (h.wf i _ hg) B
theorem z0o {H:Heap}(hw:H.wf) (A B:Blk):∃H2,(H.new (some A)).put H.next (some B)=H2/\HX H H2/\H2.get H.next=some B/\H2.next=H.next+1/\H2.wf:=by
 have hx:=((HX.refl hw).new (some A)).put (i:=H.next) (Ze _) (Zf _) (some B);exact⟨_,rfl,hx,by rw[get_put,if_pos rfl],rfl,hx.wf⟩
end Go.Hb
namespace Go.Proofs.hq
open Go Go.RowKit Go.Hb
variable {ok:Ok}
set_option maxRecDepth 10000
attribute [local irreducible] LX LG EL STG SOP SGO SGD SAL SRD SEF SEG SLK SCK ES
theorem z4y {t:Tm}(h:Fine t):t.args.length<=64:=by
 have k:=z1b h.node;by_cases h5:t.kind=5
 ·exact(k.2.2.2.2.1 h5).2
 ·rw[(z1h k.2.2.1).2.2.2.2 h5];exact ZA _
abbrev zero6:List Value:=[.int .i64 0,.string Zh,.string Zh,.int .u64 0,.int .i64 0,.slice none 0 0]
set_option maxHeartbeats 4000000 in
theorem zlg {m:Nat}:∀{t:Tm}{cs:List Value}{H:Heap},SizeOf.sizeOf t < m->RepT H t cs->Fine t->H.wf ->
  EvF Tryz.prog okT 56 [.agg ⟨cs⟩] H fun v H'=>∃cs',v=.agg ⟨cs'⟩/\RepF H' 40 (Rg H.next H'.next) t cs'/\HX H H':=by
 induction m with
 |zero=>intro t cs H h;omega
 |succ m ih =>
 intro t cs H hsz r hf hw;have hbd:=r.bd;have hfew:=z4y hf;obtain⟨a,c,cells,rfl,-,-,-,-,-,rl⟩:=r.six;refine EvF.enter rfl Tryz.func56 (by decide) rfl ?_;(repeat refine qZa ?_);refine qZb ?_;simp (disch:=first|omega|rfl) only[sB,initTm,dBox,dAlloc,Value.cells,one,zr40];obtain⟨H2,e2,hx2,gp,gq,hn2,hw2⟩:=new2 hw (.row (six t a c) 40) (.row zero6 40);simp only[e2];have q1:=row6 gp;clear e2;have hmost:t.args.length<=most:=by unfold most;omega
 have ne1:(H.next+1=H.next)=False:=by simp
 have ne2:(H.next=H.next+1)=False:=by simp
 by_cases h0:t.args.length=0
 ·have h0':(t.args.length:Int)=0:=by omega
  have he:t.args=[]:=List.length_eq_zero_iff.1 h0
  repeat' (first|refine qZa ?_|(refine qZf ?_;try simp only[z04,z02])|(refine qZb ?_;simp (disch:=first|omega|rfl) only[sB,Za,Zb,one,reduceCtorEq,cutC,z1k,ld32,ln32,st32,ld40,st40,q1,gp,gq,z0v h0',ne1])|(refine qZd ?_ ?_;simp (disch:=first|omega|rfl) only[sB,Za,reduceCtorEq];refine z01 ?_))
  have hx3:=(hx2.pt (Ze _) gp (some (.row [.int .i64 t.kind,.string t.name,.string t.num,.int .u64 t.bits,.int .i64 t.var,.slice none 0 0] 40))).pt (i:=H.next+1) (Nat.le_succ _) (by rw[get_put,if_neg (by omega)];exact gq)
   (some (.row [.int .i64 t.kind,.string t.name,.string t.num,.int .u64 t.bits,.int .i64 t.var,.slice none 0 0] 40))
  refine z0s rfl (by simp only[sB,Za,reduceCtorEq];rfl) (by simp only[sB,Zb,cutC,ld40];rfl) ⟨_,rfl,⟨none,0,?_,hbd,?_⟩,hx3⟩
  ·simp only[six,h0]
  ·rw[he];exact .nil _
 ·have h0':(t.args.length:Int)≠0:=by omega
  have ne3:(H.next=H2.next)=False:=by simp;omega
  repeat' (first|refine qZa ?_|refine qZg ?_|(refine qZe ?_;try simp only[z00])|(refine qZb ?_;simp (disch:=first|omega|rfl) only[sB,Za,reduceCtorEq,cutC,z1k,ld32,ln32,q1,z0h h0',z8b mk32,ne3])|(refine qZm ?_ ?_;simp (disch:=first|omega|rfl) only[sB,Za,reduceCtorEq];refine z01 ?_))
  obtain⟨H3,e3,hx3,gr,hn3,hw3⟩:=new1 hw2 (.row (repL t.args.length zero6) 40);simp only[e3];clear e3;have gp3:=hx3.get hw2 gp;have gq3:=hx3.get hw2 gq;have hx23:=hx2.trans hx3;have hmax:=rl.max;rw[hn2] at gr hn3;refine qZk (fun k st=>∃tm H' i cells' Si ai ci,st=⟨tm,[],H'⟩/\k=t.args.length - i/\i<=t.args.length /\
   tm.get 1=some (.pointer (some ⟨H.next,0,none⟩))/\tm.get 2=some (.pointer (some ⟨H.next+1,0,none⟩))/\tm.get 3=some (.slice (some ⟨H.next+2,0,none⟩) t.args.length t.args.length) /\
   tm.get 17=some (.slice a t.args.length c)/\tm.get 18=some (.int .i64 t.args.length)/\tm.get 19=some (.int .i64 (i:Nat)) /\
   H'.get H.next=some (.row (six t a c) 40)/\H'.get (H.next+1)=some (.row zero6 40)/\H'.get (H.next+2)=some (.row cells' 40)/\cells'.length=t.args.length*6 /\
   FLs H' 40 (Rg (H.next+3) H'.next) (t.args.take i) cells' Si ai ci/\HX H H') ?_ t.args.length _ ?_
  ·rintro k st ⟨tm,H',i,cells',Si,ai,ci,rfl,rfl,hi,t1,t2,t3,t17,t18,t19,gp',gq',gr',hlen,hfl,hx'⟩;have q1:=row6 gp';by_cases hlt:i < t.args.length
   ·obtain⟨b,o,a1,c1,rfl,hld,hr1⟩:=rl.el hlt;have hld1:=hx'.load hw hld
    repeat' (first|refine qZa ?_|refine qZg ?_|(refine qZe ?_;try simp only[z00])|(refine qZb ?_;simp (disch:=first|omega|rfl) only[sB,dAlloc,Za,Zb,one,cutC,zr40,ld40,st40,ia32,cl56,t3,t17,t18,t19,decl hlt,hld1])|(refine qZd ?_ ?_;simp (disch:=first|omega|rfl) only[sB];refine z01 ?_))
    obtain⟨H4,e4,hx4,g4,hn4,hw4⟩:=z0o hx'.wf (.row zero6 40) (.row (six t.args[i] a1 c1) 40);simp only[e4];clear e4;have hs:=z1t (Zc hlt);refine(ih (t:=t.args[i]) (by omega) (hr1.mono (hx'.trans hx4) hw) (hf.args _ (ZD _)) hw4).mono ?_;rintro v H5 ⟨cs',rfl,⟨a2,c2,rfl,hb2,hf2⟩,hx5⟩;have hx45:=hx4.trans hx5;have gr5:=hx45.get hx'.wf gr';have gp5:=hx45.get hx'.wf gp';have gq5:=hx45.get hx'.wf gq';have hle:i*6+6<=cells'.length:=by rw[hlen];exact mul6 hlt
    have hln:=hx45.next;have hln2:=hx5.next;have hlt3:=hx'.wf _ _ gq';have hlt4:=hx'.wf _ _ gr'
    repeat' (first|(refine qZb ?_;simp (disch:=first|omega|rfl) only[sB,Za,t19,z05])|(refine z0f ?_;simp (disch:=first|omega|rfl) only[sB,Zb,one,st40,gr5,hle]))
    have hx6:=(hx'.trans hx45).pt (i:=H.next+2) (by omega) gr5 (some (.row (Hb.splice cells' (i*6) (six t.args[i] a2 c2)) 40));have et:t.args.take (i+1)=t.args.take i++[t.args[i]]:=(ZL hlt).symm;have etl:(t.args.take i).length=i:=by rw[ZH];omega
    obtain⟨Si',ai',ci',hsn⟩:∃Si ai ci,FLs (H5.put (H.next+2) (some (.row (Hb.splice cells' (i*6) (six t.args[i] a2 c2)) 40))) 40 (Rg (H.next+3) H5.next) (t.args.take (i+1)) (Hb.splice cells' (i*6) (six t.args[i] a2 c2)) Si ai ci:=by
     rw[et];refine⟨_,_,_,hfl.snoc (S':=Rg (H.next+3) H5.next) (N:=Rg H4.next H5.next) (fun n hn hl=>?_) hx'.wf (hf2.heap (fun n hn hl=>?_) hx5.wf) hb2 (fun n hn hs=>?_) (fun n hn=>?_) (fun n hn=>?_) (fun j hj=>?_) ?_⟩
     ·have:=hn.1;rw[get_put,if_neg (by omega)];exact hx45.keep n hl
     ·have:=hn.1;rw[get_put,if_neg (by omega)]
     ·have:=hn.1;have:=hs.2;omega
     ·exact⟨hn.1,by have:=hn.2;omega⟩
     ·exact⟨by have:=hn.1;omega,hn.2⟩
     ·rw[etl] at hj;exact z3c hle rfl (.inl (mul6 hj))
     ·rw[etl];exact z49 hle rfl
    exact⟨t.args.length - (i+1),by omega,_,_,i+1,Hb.splice cells' (i*6) (six t.args[i] a2 c2),Si',ai',ci',rfl,rfl,by omega,(by simp only[sG,Za,t1]),(by simp only[sG,Za,t2]),(by simp only[sG,Za,t3]),(by simp only[sG,Za,t17]),(by simp only[sG,Za,t18]),(by simp only[sB,Za];rfl),
     by rw[get_put,if_neg (by omega)];exact gp5,by rw[get_put,if_neg (by omega)];exact gq5,by rw[get_put,if_pos rfl],by rw[z0k hle];exact hlen,hsn,hx6⟩
   ·repeat' (first|refine qZa ?_|(refine qZi ?_;try simp only[sB])|(refine qZf ?_)|(refine qZb ?_;simp (disch:=first|omega|rfl) only[sB,Za,Zb,one,cutC,z1k,st32,ld40,st40,t1,t2,t3,t18,t19,q1,gp',gq',decn hlt,ne1])|(refine qZm ?_ ?_;simp (disch:=first|omega|rfl) only[sB];refine z01 ?_))
    have hi':i=t.args.length:=by omega
    have hlt3:=hx'.wf _ _ gr';have hx7:=(hx'.pt (Ze _) gp' (some (.row (six t (some ⟨H.next+2,0,none⟩) t.args.length) 40))).pt (i:=H.next+1) (Nat.le_succ _) (by rw[get_put,if_neg (by omega)];exact gq')
     (some (.row (six t (some ⟨H.next+2,0,none⟩) t.args.length) 40))
    refine z0s rfl (by simp only[sB,Za,t2];rfl) (by simp only[sB,Zb,cutC,ld40]) ⟨_,rfl,⟨some ⟨H.next+2,0,none⟩,t.args.length,rfl,hbd,?_⟩,hx7⟩;rw[hi',Zq (Ze _)] at hfl;refine(hfl.heap (fun n hn _=>?_) hx'.wf).row (Ze _) (ZC hfew (by simp [maxLen])) (cells:=cells') ?_ (by omega) ⟨by omega,hlt3⟩ (fun h=>?_) (fun n hn=>⟨by have:=hn.1;omega,hn.2⟩)
    ·have:=hn.1;rw[get_put,if_neg (by omega),get_put,if_neg (by omega)]
    ·rw[get_put,if_neg (by omega),get_put,if_neg (by omega)];exact gr'
    ·have:=h.1;omega
  ·refine⟨_,_,0,repL t.args.length zero6,fun _ _=>False,fun _=>none,fun _=>0,rfl,rfl,by omega,(by simp only[sG,Za,reduceCtorEq]),(by simp only[sG,Za,reduceCtorEq]),by rw[hn2];first|(simp only[sG,Za,reduceCtorEq];rfl)|simp only[sG,Za,reduceCtorEq],(by simp only[sG,Za,reduceCtorEq]),(by simp only[sG,Za,reduceCtorEq]),(by simp only[sB,Za,reduceCtorEq];rfl),gp3,gq3,gr,by rw[z8c];rfl,FLs.nil,hx23⟩
end Go.Proofs.hq
end

section
namespace Go.Hb
open Go Go.RowKit
theorem six_ones {t:Tm}{a:Option Addr}{c:Nat}:(six t a c).all one=true:=rfl
theorem z8r {cells:List Value}:∀n,n*6<=cells.length->(∀i,i < n->((cells.drop (i*6)).take 6).all one=true)->(cells.take (n*6)).all one=true
 |0,_,_=>by simp
 |n+1,h,hc=>by
  rw[Nat.succ_mul,List.take_add,List.all_append,z8r n (by omega) fun i hi=>hc i (by omega),hc n (by omega)];rfl
theorem ziv {cells:List Value}{i n:Nat}(h:i < n) (vs:List Value) (hn:n*6<=cells.length):((cells.take (n*6)++vs).drop (i*6)).take 6=(cells.drop (i*6)).take 6:=by
 have h1:(cells.take (n*6)).length=n*6:=by rw[ZH];omega
 rw[List.drop_append_of_le_length (by omega),List.take_append_of_le_length (by rw[List.length_drop];omega),List.drop_take,List.take_take];congr 1;omega
theorem FL.push {P:Program}{T t:TypeId}(hp:apOk P t T 6) {H:Heap}{S N S2:Nat->Prop}{l:List Tm}{u:Tm}{a a':Option Addr}{c c' c1:Nat}{ad:Addr}(h:FL H T S l a c) (hw:H.wf)
  (hl:H.load ad (1*6)=some (six u a' c')) (hu:FL H T N u.args a' c') (hb:Bd u) (hN:∀n,N n->¬S n) (hS:∀n,S n->n < H.next) (hNl:∀n,N n->n < H.next) (hm:l.length+1<=most) (h2:∀n,S n\/N n\/n=H.next->S2 n) :
  ∃H2,dAp P #[t,t] (.slice a l.length c) (.slice (some ad) 1 c1) H=some (.val (.slice (some ⟨H.next,0,none⟩) (l.length+1) (l.length+1)) H2)/\FL H2 T S2 (l++[u]) (some ⟨H.next,0,none⟩) (l.length+1)/\HK S H H2/\H2.next=H.next+1:=by
 have hmax:l.length+1<=maxLen:=ZC hm (by simp [most,maxLen]);cases h with
 |nil =>
  have hx:=(HX.refl hw).new (some (.row (six u a' c') T));refine⟨_,z6m hp (by omega) hm hl six_ones,?_,hx.hk _,rfl⟩;refine .row S2 [u] H.next 1 (six u a' c') (fun _=>N) (fun _=>a') (fun _=>c') (Ze _) hmax z0z (Ze _) ?_ ?_ (h2 _ (.inr (.inr rfl))) ?_ ?_ ?_ ?_
  ·intro i v hv
   match i,hv with
   |0,hv=>cases hv;rfl
  ·intro i v hv
   match i,hv with
   |0,hv=>cases hv;exact hb
  ·intro i _ hn;have:=hNl _ hn;omega
  ·intro i n _ hn;exact h2 n (.inr (.inl hn))
  ·intro i j n hi hj _ _;simp at hi hj;omega
  ·intro i v hv
   match i,hv with
   |0,hv=>cases hv;exact hu.keep hx hw
 |row _ _ b c cells Si ai ci h1 h2' h3 h4 h5 h6 h7 h8 h9 h10 h11 =>
  have hcells:(cells.take (l.length*6)).all one=true:=z8r _ h4 fun i hi=>by rw[h5 i l[i] (Zc hi)];exact six_ones
  have hbn:b < H.next:=hw _ _ h3;have hk:HK S H ((H.put b none).new (some (.row (cells.take (l.length*6)++six u a' c') T))):=((HK.refl hw).put (.inl h7) hbn none).new _;have hkeep:∀n,n < H.next->n≠b->((H.put b none).new (some (.row (cells.take (l.length*6)++six u a' c') T))).get n=H.get n:=fun n hn hne=>by
   rw[z1f (by rw[z14];exact hn),z3q hne]
  refine⟨_,z5g hp (by omega) hm hl six_ones h3 h4 hcells,?_,hk,rfl⟩;have hfs:FLs H T (fun n=>∃i,i < l.length/\Si i n) l cells Si ai ci:=⟨h5,h6,fun i n hi hn=>⟨i,hi,hn⟩,h10,h11⟩
  have hSb:¬ ∃i,i < l.length/\Si i b:=fun ⟨i,hi,hn⟩=>h8 i hi hn
  have hsub:∀n,(∃i,i < l.length/\Si i n)->S n:=fun n ⟨i,hi,hn⟩=>h9 i n hi hn
  have hlen:(cells.take (l.length*6)).length=l.length*6:=by rw[ZH];omega
  have hs:=hfs.snoc (H':=(H.put b none).new (some (.row (cells.take (l.length*6)++six u a' c') T))) (S':=fun n=>(∃i,i < l.length/\Si i n)\/N n) (N:=N) (cells':=cells.take (l.length*6)++six u a' c') (t:=u) (a:=a') (c:=c')
   (fun n hn hl=>hkeep n hl (fun e=>hSb (e ▸ hn))) hw (hu.heap (fun n hn hl=>hkeep n hl fun e=>hN n hn (e ▸ h7)) hw) hb (fun n hn hq=>hN n hn (hsub n hq)) (fun n hn=>.inl hn) (fun n hn=>.inr hn)
   (fun i hi=>ziv hi _ h4) (by
    rw[List.drop_append_of_le_length (by omega),List.drop_eq_nil_of_le (by omega)];rfl)
  refine hs.row (S':=S2) (by simp) hmax z0z (by simp;omega) (h2 _ (.inr (.inr rfl))) (fun hq=>?_) (fun n hn=>?_)
  ·rcases hq with hq|hq
   ·have:=hS _ (hsub _ hq);simp at this
   ·have:=hNl _ hq;simp at this
  ·rcases hn with hn|hn
   ·exact h2 n (.inl (hsub n hn))
   ·exact h2 n (.inr (.inl hn))
end Go.Hb
namespace Go.Proofs.hq
open Go Go.RowKit Go.Hb
variable {ok:Ok}
set_option maxRecDepth 10000
attribute [local irreducible] LX LG EL STG SOP SGO SGD SAL SRD SEF SEG SLK SCK ES
inductive Few (n:Nat):Tm->Prop
 |mk {t:Tm}:t.args.length<=n->(∀u∈t.args,Few n u)->Few n t
theorem Few.len {n:Nat}{t:Tm}(h:Few n t):t.args.length<=n:=by cases h;assumption
theorem Few.args {n:Nat}{t:Tm}(h:Few n t):∀u∈t.args,Few n u:=by cases h;assumption
theorem Few.up {n m:Nat}{t:Tm}(f:Few n t) (h:n<=m):Few m t:=by
 induction f with
 |mk h1 _ ih=>exact .mk (ZC h1 h) ih
theorem Fine.few:∀(m:Nat) {t:Tm},SizeOf.sizeOf t < m->Fine t->Few 64 t
 |0,_,h,_=>by omega
 |m+1,t,h,f=>.mk (z4y f) fun u hu=>Fine.few m (by have:=z0g hu;omega) (f.args u hu)
end Go.Proofs.hq
end

section
namespace Go.Hb
open Go Go.RowKit
theorem HK.step {S S':Nat->Prop}{A B C:Heap}(h:HK S A B) (k:HK S' B C) (hs:∀n,n < A.next->S' n->S n):HK S A C :=
 ⟨ZC h.next k.next,fun i hi hn=>by rw[k.keep i (Zo hi h.next) (fun q=>hn (hs i hi q)),h.keep i hi hn],k.wf⟩
end Go.Hb
namespace Go.Proofs.hq
open Go Go.RowKit Go.Hb
variable {ok:Ok}
set_option maxRecDepth 10000
attribute [local irreducible] LX LG EL STG SOP SGO SGD SAL SRD SEF SEG SLK SCK ES
mutual
def occ:Tm->List Int
 |.mk k _ _ _ v l=>(if k=1 then [v] else [])++occL l
def occL:List Tm->List Int
 |[]=>[]
 |t :: l=>occ t++occL l
end
theorem z3d (t:Tm):occ t=(if t.kind=1 then [t.var] else [])++occL t.args:=by obtain⟨k,s,u,b,v,l⟩:=t;rw[occ];rfl
theorem z34 {l:List Tm}{i:Nat}(h:i < l.length):occL (l.take (i+1))=occL (l.take i)++occ l[i]:=by
 have app:∀(a b:List Tm),occL (a++b)=occL a++occL b:=fun a b=>by
  induction a with
  |nil=>rw[occL];rfl
  |cons t a ih=>rw[List.cons_append,occL,occL,ih,ZF]
 rw[<-ZL h,app,occL,occL,List.append_nil]
theorem zo5 (a b:List Tm):occL (a++b)=occL a++occL b:=by
 induction a with
 |nil=>rw[occL];rfl
 |cons t a ih=>rw[List.cons_append,occL,occL,ih,ZF]
theorem z7e (l:List Tm) (i:Nat):occL (l.take i) <+: occL l:=by
 have:=zo5 (l.take i) (l.drop i);rw[List.take_append_drop] at this;rw[this];exact List.prefix_append _ _
structure Each (g:FuncId) (cap:Array Value) (H0:Heap) (tot:List Int) (J:(Nat->Prop)->List Int->Heap->Prop):Prop where
 base:∀S pre H,J S pre H->HX H0 H
 low:∀S pre H,J S pre H->∀n,S n->n < H.next
 step:∀S pre n H,J S pre H->(pre++[n]) <+: tot->EvF Tryz.prog okT g ([.int .i64 n]++cap.toList) H fun _ H'=>∃S',J S' (pre++[n]) H'/\HK S H H'/\∀n,S' n->S n\/H.next<=n
 stay:∀S pre H H',J S pre H->HX H H'->J S pre H'
set_option maxHeartbeats 4000000 in
theorem zlh {g:FuncId}{cap:Array Value}{J:(Nat->Prop)->List Int->Heap->Prop}{H0:Heap}{tot:List Int}(hw0:H0.wf) (hg:callable Tryz.prog g=true) (E:Each g cap H0 tot J) :
  ∀(m:Nat) {t:Tm}{cs:List Value}{H:Heap}{S:Nat->Prop}{pre:List Int},SizeOf.sizeOf t < m->RepT H0 t cs->J S pre H->(pre++occ t) <+: tot ->
  EvF Tryz.prog okT 44 [.agg ⟨cs⟩,.func (.func g) #[] cap] H fun _ H'=>∃S',J S' (pre++occ t) H'/\HK S H H'/\∀n,S' n->S n\/H.next<=n:=by
 intro m
 induction m with
 |zero=>intro t cs H S pre h;omega
 |succ m ih =>
 intro t cs H S pre hsz r hj htot;have hw:=(E.base _ _ _ hj).wf;have hlow:=E.low _ _ _ hj;obtain⟨a,c,cells,rfl,-,-,-,-,-,rl⟩:=r.six;have hm:=rl.max;refine EvF.enter rfl Tryz.func44 (by decide) rfl ?_;(repeat refine qZa ?_);refine qZb ?_;simp (disch:=first|omega|rfl) only[sB,initTm,dBox,Value.cells,one,reduceCtorEq];obtain⟨H2,e2,hx2,gp,hn2,hw2⟩:=new1 hw (.row (six t a c) 40);simp only[e2];clear e2;have q1:=row6 gp;have hj2:=E.stay _ _ _ _ hj hx2;(repeat refine qZa ?_);refine qZb ?_;simp only[sB,Za,reduceCtorEq,z1c,ld3,q1];refine EvC.join (fun st=>∃tm H' S',st=⟨tm,[],H'⟩/\tm.get 1=some (.func (.func g) #[] cap)/\tm.get 2=some (.pointer (some ⟨H.next,0,none⟩))/\H'.get H.next=some (.row (six t a c) 40) /\
   J S' (pre++(if t.kind=1 then [t.var] else [])) H'/\HK S H H'/\(∀n,S' n->S n\/H.next < n)) ?_ ?_
 ·by_cases k1:t.kind=1
  ·repeat' (first|(refine qZb ?_;simp only[sB,Za,reduceCtorEq,ld3,z4d,z0v k1,q1,z10,z0m hg])|(refine qZd ?_ ?_;simp only[sB,Za,reduceCtorEq,z0v k1];refine z01 ?_))
   refine(E.step S pre t.var H2 hj2 (by refine List.IsPrefix.trans ?_ htot;rw[z3d,if_pos k1,<-ZF];exact List.prefix_append _ _)).mono ?_;rintro v H3 ⟨S',hj3,hk3,hS3⟩
   skip
   exact⟨_,_,S',rfl,(by simp only[sG,Za,reduceCtorEq]),(by simp only[sG,Za,reduceCtorEq]),hk3.get hw2 gp (fun hs=>by have:=hlow _ hs;omega),by rw[if_pos k1];exact hj3,(hx2.hk S).trans hk3,fun n hn=>by rcases hS3 n hn with h|h;exact .inl h;exact .inr (by omega)⟩
  ·repeat' (first|(refine qZe ?_;try simp only[z00,z0h k1])|(refine qZm ?_ ?_;simp only[sB,Za,reduceCtorEq,z0h k1];refine z01 ?_))
   exact⟨_,_,S,rfl,(by simp only[sG,Za,reduceCtorEq]),(by simp only[sG,Za,reduceCtorEq]),gp,by rw[if_neg k1,List.append_nil];exact hj2,hx2.hk S,fun n hn=>.inl hn⟩
 rintro st ⟨tm,H3,S3,rfl,t1,t2,gp3,hj3,hk3,hS3⟩;have q1:=row6 gp3
 repeat' (first|refine qZa ?_|refine qZg ?_|(refine qZb ?_;simp only[sB,Za,z1k,ld32,ln32,t2,q1]))
 refine qZk (fun k st=>∃tm H' i S',st=⟨tm,[],H'⟩/\k=t.args.length - i/\i<=t.args.length/\tm.get 1=some (.func (.func g) #[] cap)/\tm.get 14=some (.slice a t.args.length c)/\tm.get 15=some (.int .i64 t.args.length)/\tm.get 16=some (.int .i64 (i:Nat)) /\
   J S' (pre++(if t.kind=1 then [t.var] else [])++occL (t.args.take i)) H'/\HK S H H'/\(∀n,S' n->S n\/H.next < n)) ?_ t.args.length _ ?_
 ·rintro k st ⟨tm,H',i,S',rfl,rfl,hi,t1,t14,t15,t16,hj',hk',hS'⟩;have hx':=E.base _ _ _ hj';by_cases hlt:i < t.args.length
  ·obtain⟨b,o,a1,c1,rfl,hld,hr1⟩:=rl.el hlt;have hld1:=hx'.load hw0 hld
   repeat' (first|refine qZa ?_|refine qZg ?_|(refine qZe ?_;try simp only[z00])|(refine qZb ?_;simp (disch:=first|omega|rfl) only[sB,dAlloc,Za,Zb,one,cutC,ia32,ld40,zr40,st40,cl44,t1,t14,t15,t16,decl hlt,hld1])|(refine qZd ?_ ?_;simp only[sB];refine z01 ?_))
   obtain⟨H4,e4,hx4,g4,hn4,hw4⟩:=z0o hx'.wf (.row zero6 40) (.row (six t.args[i] a1 c1) 40);simp only[e4];have hs:=z1t (Zc hlt);refine(ih (by omega) hr1 (E.stay _ _ _ _ hj' hx4) (by refine List.IsPrefix.trans ?_ htot;rw[ZF,<-z34 hlt,ZF,z3d];exact(List.prefix_append_right_inj _).2 ((List.prefix_append_right_inj _).2 (z7e _ _)))).mono ?_;rintro v H5 ⟨S5,hj5,hk5,hS5⟩
   repeat' (first|(refine qZb ?_;simp (disch:=first|omega|rfl) only[sB,Za,t16,z05]))
   have hk45:HK S H H5:=(hk'.trans (hx4.hk S)).step hk5 fun n hn hq=>by rcases hS' n hq with h|h;exact h;omega
   refine⟨t.args.length - (i+1),by omega,_,_,i+1,S5,rfl,rfl,by omega,(by simp only[sG,Za,t1]),(by simp only[sG,Za,t14]),(by simp only[sG,Za,t15]),(by simp only[sB,Za];rfl),?_,hk45,?_⟩
   ·rw[z34 hlt,<-ZF];exact hj5
   ·intro n hn;have h1:=hk'.next;rcases hS5 n hn with h|h
    ·exact hS' n h
    ·exact .inr (by omega)
  ·repeat' (first|refine qZa ?_|(refine qZi ?_;try simp only[sB])|(refine qZb ?_;simp only[sA,t15,t16,decn hlt])|(refine qZm ?_ ?_;simp only[sB];refine z01 ?_))
   refine z0r rfl ⟨S',?_,hk',fun n hn=>by rcases hS' n hn with h|h;exact .inl h;exact .inr (by omega)⟩;rw[Zq (by omega),ZF,<-z3d] at hj';exact hj'
 ·exact⟨_,_,0,S3,rfl,rfl,by omega,(by simp only[sG,Za,t1]),(by simp only[sG,Za]),(by simp only[sG,Za]),(by simp only[sB,Za];rfl),by rw[List.take_zero,occL,List.append_nil];exact hj3,hk3,hS3⟩
def IntL (H:Heap) (T:TypeId) (S:Nat->Prop) (L:List Int) (v:Value):Prop :=
 (L=[]/\v=.slice none 0 0)\/∃b c,v=.slice (some ⟨b,0,none⟩) L.length c/\L.length<=c/\c<=maxLen/\H.get b=some (.row (L.map fun n=>Value.int .i64 n) T)/\S b
theorem zli (L:List Int):(L.map fun n=>Value.int .i64 n).all one=true:=by
 rw[List.all_eq_true];intro v hv;obtain⟨n,-,rfl⟩:=List.mem_map.1 hv;rfl
theorem IntL.push {P:Program}{T t:TypeId}(hp:apOk P t T 1) {H:Heap}{S S2:Nat->Prop}{L:List Int}{n:Int}{v:Value}{ad:Addr}{c1:Nat}(h:IntL H T S L v) (hw:H.wf) (hl:H.load ad (1*1)=some [.int .i64 n]) (hm:L.length+1<=most)
  (h2:S2 H.next):∃H2 v2,dAp P #[t,t] v (.slice (some ad) 1 c1) H=some (.val v2 H2)/\IntL H2 T S2 (L++[n]) v2/\HK S H H2/\H2.next=H.next+1:=by
 have hmax:L.length+1<=maxLen:=ZC hm (by simp [most,maxLen]);rcases h with ⟨rfl,rfl⟩|⟨b,c,rfl,hlc,hcm,hg,hs⟩
 ·exact⟨_,_,z6m hp (by omega) hm hl rfl,.inr ⟨H.next,1,rfl,Ze _,hmax,z0z,h2⟩,((HX.refl hw).new _).hk _,rfl⟩
 ·refine⟨_,_,z5g hp (by omega) hm hl rfl hg (by simp) (by rw[Zq (by simp)];exact zli L),.inr ⟨H.next,L.length+1,by simp,by simp,hmax,?_,h2⟩,((HK.refl hw).put (.inl hs) (hw _ _ hg) none).new _,rfl⟩;show ((H.put b none).new _).get (H.put b none).next=_;rw[z0z,Zq (by simp),ZK];rfl
theorem IntL.heap {H H':Heap}{T:TypeId}{S:Nat->Prop}{L:List Int}{v:Value}(h:IntL H T S L v) (hk:∀n,S n->n < H.next->H'.get n=H.get n) (hw:H.wf):IntL H' T S L v:=by
 rcases h with h|⟨b,c,h1,h2,h3,h4,h5⟩
 ·exact .inl h
 ·exact .inr ⟨b,c,h1,h2,h3,(hk b h5 (hw _ _ h4)).trans h4,h5⟩
theorem IntL.slice {H:Heap}{T:TypeId}{S:Nat->Prop}{L:List Int}{v:Value}(h:IntL H T S L v):∃a c,v=.slice a L.length c/\L.length<=c/\c<=maxLen:=by
 rcases h with ⟨rfl,rfl⟩|⟨b,c,rfl,h2,h3,-⟩
 ·exact⟨none,0,rfl,Ze _,ZA _⟩
 ·exact⟨_,c,rfl,h2,h3⟩
def addU (L:List Int) (n:Int):List Int:=if n∈L then L else L++[n]
def uniq (l:List Int):List Int:=l.foldl addU []
theorem z3s (l:List Int) (n:Int):uniq (l++[n])=addU (uniq l) n:=by simp [uniq]
theorem zo6 (L:List Int) (n:Int):(addU L n).length<=L.length+1:=by unfold addU;split<;>simp
theorem z7f (l:List Int):(uniq l).length<=l.length:=by
 have h:∀(l L:List Int),(l.foldl addU L).length<=L.length+l.length:=by
  intro l
  induction l with
  |nil=>intro L;simp
  |cons n l ih=>intro L;rw[ZP];have:=ih (addU L n);have:=zo6 L n;rw[List.length_cons];omega
 have:=h l [];simpa [uniq] using this
theorem ziw (l:List Int):(uniq l).Nodup:=by
 have h:∀(l L:List Int),L.Nodup->(l.foldl addU L).Nodup:=by
  intro l
  induction l with
  |nil=>intro L h;exact h
  |cons n l ih =>
   intro L h;refine ih _ ?_;unfold addU;split
   ·exact h
   ·rename_i hn;rw[List.nodup_append];exact⟨h,by simp,fun a ha b hb=>by simp at hb;subst hb;exact fun e=>hn (e ▸ ha)⟩
 exact h l [] List.nodup_nil
theorem IntL.at {H:Heap}{T:TypeId}{S:Nat->Prop}{L:List Int}{a:Option Addr}{n c:Nat}(h:IntL H T S L (.slice a n c)) {i:Nat}(hi:i < L.length):∃b,a=some ⟨b,0,none⟩/\n=L.length/\H.load ⟨b,i,none⟩ 1=some [.int .i64 L[i]]/\S b:=by
 rcases h with ⟨rfl,-⟩|⟨b,c',h1,-,-,h2,h3⟩
 ·simp at hi
 ·cases h1;refine⟨b,rfl,rfl,?_,h3⟩;unfold Heap.load Heap.cells;simp only[h2];have:(List.drop i (L.map fun n=>Value.int .i64 n)).take 1=[.int .i64 L[i]]:=by
   rw[ZB (by simpa using hi)];simp
  rw[this];rfl
end Go.Proofs.hq
end

section
namespace Go.Proofs.hq
open Go Go.RowKit Go.Hb
variable {ok:Ok}
set_option maxRecDepth 10000
attribute [local irreducible] LX LG EL STG SOP SGO SGD SAL SRD SEF SEG SLK SCK ES
def chkL:List Tm->Int
 |[]=>0
 |t :: l=>if checkS t=0 then chkL l else checkS t
theorem zd6 {l:List Tm}{i:Nat}(h:i < l.length):chkL (l.drop i)=if checkS l[i]=0 then chkL (l.drop (i+1)) else checkS l[i]:=by
 rw[ZB h,chkL]
theorem z8s:∀{l:List Tm},chkL l=0->∀t∈l,checkS t=0
 |[],_,t,h=>by simp at h
 |u :: l,h,t,ht=>by
  rw[chkL] at h;split at h
  ·rename_i h0;rcases List.mem_cons.1 ht with rfl|ht
   ·exact h0
   ·exact z8s h t ht
  ·rename_i h0;exact absurd h h0
theorem zd7 {l:List Tm}{a:Option Addr}{c:Nat}{cells:Nat->List Value}{H:Heap}(rl:RepL H l a c cells) (hw:H.wf) :
  EvF Tryz.prog okT 52 [.slice a l.length c] H fun v H'=>v=.int .i64 (chkL l)/\HX H H':=by
 have hm:=rl.max;refine EvF.enter rfl Tryz.func52 (by decide) rfl ?_
 repeat' (first|refine qZa ?_|refine qZg ?_|(refine qZb ?_;simp (config:=qZc) only[sB,initTm,Za,reduceCtorEq,ln32]))
 refine qZk (fun k st=>∃tm H' i,st=⟨tm,[],H'⟩/\k=l.length - i/\i<=l.length/\chkL (l.drop i)=chkL l/\tm.get 6=some (.slice a l.length c)/\tm.get 7=some (.int .i64 l.length)/\tm.get 8=some (.int .i64 (i:Nat))/\HX H H') ?_ l.length _ ?_
 ·rintro k st ⟨tm,H',i,rfl,rfl,hi,hc,g6,g7,g8,hx⟩;by_cases hlt:i < l.length
  ·obtain⟨b,o,a1,c1,rfl,hld,hr⟩:=rl.el hlt;have hld1:=hx.load hw hld
   repeat' (first|refine qZa ?_|refine qZg ?_|(refine qZe ?_;try simp only[z00])|(refine qZb ?_;simp (config:=qZc) (disch:=first|omega|rfl) only[sB,dAlloc,Za,Zb,one,cutC,ia32,ld40,zr40,st40,cl42,g6,g7,g8,decl hlt,hld1])|(refine qZd ?_ ?_;simp (config:=qZc) only[sB];refine z01 ?_))
   have hx2:=(hx.new (some (.row [.int .i64 0,.string Zh,.string Zh,.int .u64 0,.int .i64 0,.slice none 0 0] 40))).put (i:=H'.next) hx.next (Zf _) (some (.row (six l[i] a1 c1) 40));refine(z5k _ _ _ (hr.mono hx2 hw) hx2.wf).mono ?_;rintro v H3 ⟨rfl,hx3⟩;by_cases h0:checkS l[i]=0
   ·repeat' (first|refine qZa ?_|(refine qZe ?_;try simp only[sA])|(refine qZb ?_;simp (config:=qZc) (disch:=first|omega|rfl) only[sB,Za,g8,z13 h0,z05])|(refine qZm ?_ ?_;simp (config:=qZc) only[sB,Za];refine z01 ?_))
    exact⟨l.length - (i+1),by omega,_,_,i+1,rfl,rfl,by omega,by rw[<-hc,zd6 hlt,if_pos h0],(by simp only[sG,Za,g6]),(by simp only[sG,Za,g7]),(by simp only[sB,Za];rfl),hx2.trans hx3⟩
   ·repeat' (first|refine qZa ?_|(refine qZf ?_;try simp only[z04,z02])|(refine qZb ?_;simp (config:=qZc) only[sB,Za,z29 h0])|(refine qZd ?_ ?_;simp (config:=qZc) only[sB,Za];refine z01 ?_))
    exact z03 rfl (by simp only[sB,Za];rfl) ⟨by rw[<-hc,zd6 hlt,if_neg h0],hx2.trans hx3⟩
  ·repeat' (first|refine qZa ?_|(refine qZi ?_;try simp only[sB])|(refine qZf ?_)|(refine qZb ?_;simp (config:=qZc) only[sA,g7,g8,decn hlt])|(refine qZm ?_ ?_;simp (config:=qZc) only[sB];refine z01 ?_))
   exact z03 rfl (by simp only[sB,Za];rfl) ⟨by rw[<-hc,List.drop_of_length_le (by omega),chkL],hx⟩
 ·exact⟨_,_,0,rfl,rfl,by omega,rfl,(by simp only[sG,Za,reduceCtorEq]),(by simp only[sG,Za,reduceCtorEq]),(by simp only[sB,Za,reduceCtorEq];rfl),HX.refl hw⟩
theorem mapI:mpOk Tryz.prog 146 3 3 (.int .i64 0):=⟨Tryz.underlying146,Tryz.underlying3,by kernel_rfl,rfl⟩
def VarJ (H0:Heap) (pm po r:Nat) (S:Nat->Prop) (pre:List Int) (H:Heap):Prop :=
 HX H0 H/\H.get pm=some (.row [.map (some r)] 146)/\∃v M Sb,H.get po=some (.row [v] 28)/\MapR H r M/\(∀n,mGet M n=none↔n∉uniq pre)/\IntL H 3 Sb (uniq pre) v /\
  (∀n,S n↔(n=r\/n=po\/Sb n))/\(∀n,Sb n->n≠pm/\n≠po/\n≠r/\H0.next<=n/\n < H.next)
set_option maxHeartbeats 4000000 in
theorem zri {H0:Heap}{pm po r:Nat}{tot:List Int}(h1:H0.next<=pm) (h2:H0.next<=po) (h3:H0.next<=r) (h12:pm≠po) (h13:pm≠r) (h23:po≠r) (hlen:tot.length<=most) :
  Each 98 #[.pointer (some ⟨pm,0,none⟩),.pointer (some ⟨po,0,none⟩)] H0 tot (VarJ H0 pm po r):=by
 have ean:apOk Tryz.prog 28 3 1:=ap28;refine⟨fun S pre H h=>h.1,?_,?_,?_⟩
 ·rintro S pre H ⟨hx,gm,v,M,Sb,go,hm,hk,hi,hS,hSb⟩ n hn;rcases (hS n).1 hn with rfl|rfl|h
  ·exact hm.lt hx.wf
  ·exact hx.wf _ _ go
  ·exact(hSb n h).2.2.2.2
 ·rintro S pre n H ⟨hx,gm,v,M,Sb,go,hm,hk,hi,hS,hSb⟩ hpre;have hw:=hx.wf;have lm:H.load ⟨pm,0,none⟩ 1=some [.map (some r)]:=by unfold Heap.load Heap.cells;simp only[gm];rfl
  have lo:H.load ⟨po,0,none⟩ 1=some [v]:=by unfold Heap.load Heap.cells;simp only[go];rfl
  refine EvF.enter rfl Tryz.func98 (by decide) rfl ?_;by_cases hn:n∈uniq pre
  ·have hg:mGet M n≠none:=fun h=>(hk n).1 h hn
   obtain⟨u,hu⟩:=Option.ne_none_iff_exists'.1 hg
   repeat' (first|refine qZa ?_|(refine qZe ?_)|(refine qZb ?_;simp (config:=qZc) only[sB,initTm,Za,Zb,reduceCtorEq,zt6,lm,z15,z4w mapI hm hu,Zn])|(refine qZm ?_ ?_;simp (config:=qZc) only[sB,Za,reduceCtorEq];refine z01 ?_))
   refine z0r rfl ⟨S,⟨hx,gm,v,M,Sb,go,hm,?_,?_,hS,hSb⟩,HK.refl hw,fun n h=>.inl h⟩
   ·rw[z3s,addU,if_pos hn];exact hk
   ·rw[z3s,addU,if_pos hn];exact hi
  ·have hg:mGet M n=none:=(hk n).2 hn;obtain⟨a,c,rfl,hc1,hc2⟩:=hi.slice;obtain⟨B,eu,hm2⟩:=zkk (v:=.int .i64 (uniq pre).length) mapI hm hg;have lr:=hm.lt hw;have h23':(po=r)=False:=eq_false h23
   repeat' (first|refine qZa ?_|(refine qZb ?_;simp (config:=qZc) (disch:=first|omega|rfl) only[sB,initTm,Za,Zb,Value.cells,one,reduceCtorEq,cutC,layC,zt6,ld28,ln28,zgt,lm,lo,z15,z24,z63 mapI hm hg,eu,Zw,h23'])|(refine qZd ?_ ?_;simp (config:=qZc) only[sB,Za,reduceCtorEq];refine z01 ?_))
   have hk1:HK S H (H.put r (some B)):=(HK.refl hw).put (.inl ((hS r).2 (.inl rfl))) lr _;have go1:(H.put r (some B)).get po=some (.row [.slice a (uniq pre).length c] 28):=by rw[get_put,if_neg h23];exact go
   have gm1:(H.put r (some B)).get pm=some (.row [.map (some r)] 146):=by rw[get_put,if_neg h13];exact gm
   have hi1:IntL (H.put r (some B)) 3 Sb (uniq pre) (.slice a (uniq pre).length c):=hi.heap (fun n hn _=>by rw[get_put,if_neg (hSb n hn).2.2.1]) hw;have hn1:(H.put r (some B)).next=H.next:=z14;have hx1:HX H0 (H.put r (some B)):=hx.put h3 lr _;generalize H.put r (some B)=H1 at *;obtain⟨H6,e6,hx6,g6,hn6,hw6⟩:=new1 hk1.wf (.row [.int .i64 n] 3);simp only[e6];rw[hn1] at g6;have l6:H6.load ⟨H.next,0,none⟩ (1*1)=some [.int .i64 n]:=by unfold Heap.load Heap.cells;simp only[g6];rfl
   have hul:=z7f pre;have hpl:=hpre.length_le;rw[Zm,ZN] at hpl;obtain⟨H7,v7,e7,hi7,hk7,hn7⟩:=IntL.push (S2:=fun n=>n=H6.next) (c1:=1) ean (hi1.heap (fun n _ hl=>hx6.keep n hl) hk1.wf) hw6 l6 (by omega) rfl;have go7:H7.get po=some (.row [.slice a (uniq pre).length c] 28):=hk7.get hw6 (hx6.get hk1.wf go1) (fun h=>(hSb _ h).2.1 rfl);have gm7:H7.get pm=some (.row [.map (some r)] 146):=hk7.get hw6 (hx6.get hk1.wf gm1) (fun h=>(hSb _ h).1 rfl);have lpo:=hk1.wf _ _ go1;have lpm:=hk1.wf _ _ gm1;have hm7:MapR H7 r (M++[(n,.int .i64 (uniq pre).length)]):=(hm2.heap (hx6.keep r (by omega))).heap (hk7.keep r (by omega) (fun h=>(hSb _ h).2.2.1 rfl));obtain⟨a7,c7,rfl,-⟩:=hi7.slice
   repeat' (first|(refine z0f ?_;simp (config:=qZc) (disch:=first|omega|rfl) only[sB,Za,one,reduceCtorEq,st28,e7,go7]))
   have hS7:HK S H (H7.put po (some (.row [.slice a7 (uniq pre++[n]).length c7] 28))):=((hk1.trans (hx6.hk S)).step hk7 fun m _ hm=>(hS m).2 (.inr (.inr hm))).put (.inl ((hS po).2 (.inr (.inl rfl)))) (hk7.wf _ _ go7) _;refine z0r rfl ⟨fun m=>m=r\/m=po\/m=H6.next,⟨hx.then hS7 fun m hm hs=>?_,by rw[get_put,if_neg h12];exact gm7,.slice a7 (uniq pre++[n]).length c7,M++[(n,.int .i64 (uniq pre).length)],fun m=>m=H6.next,by rw[get_put,if_pos rfl],?_,?_,?_,fun m=>Iff.rfl,?_⟩,hS7,?_⟩
   ·rcases (hS m).1 hs with rfl|rfl|h
    ·omega
    ·omega
    ·have:=hSb m h;omega
   ·exact hm7.heap (by rw[get_put,if_neg (fun h=>h23 h.symm)])
   ·intro m;rw[zcr hg,z3s,addU,if_neg hn];by_cases hmn:m=n
    ·rw[if_pos hmn];simp [hmn]
    ·rw[if_neg hmn,hk m];simp [hmn]
   ·rw[z3s,addU,if_neg hn];exact hi7.heap (fun m hm _=>by have hm:m=H6.next:=hm;rw[get_put,if_neg (by omega)]) hk7.wf
   ·rintro m rfl;rw[z14];exact⟨by omega,by omega,by omega,by have:=hx.next;omega,by omega⟩
   ·rintro m (rfl|rfl|rfl)
    ·exact .inl ((hS _).2 (.inl rfl))
    ·exact .inl ((hS _).2 (.inr (.inl rfl)))
    ·exact .inr (by omega)
 ·rintro S pre H H' ⟨hx,gm,v,M,Sb,go,hm,hk,hi,hS,hSb⟩ hx';exact⟨hx.trans hx',hx'.get hx.wf gm,v,M,Sb,hx'.get hx.wf go,hm.heap (hx'.keep _ (hm.lt hx.wf)),hk,hi.heap (fun n _ hl=>hx'.keep n hl) hx.wf,hS,fun n hn=>by have:=hSb n hn;have:=hx'.next;exact⟨by omega,by omega,by omega,by omega,by omega⟩⟩
set_option maxHeartbeats 4000000 in
theorem z78 {l:List Tm}{a:Option Addr}{c:Nat}{cells:Nat->List Value}{H:Heap}(rl:RepL H l a c cells) (hlen:(occL l).length<=most) (hw:H.wf) :
  EvF Tryz.prog okT 55 [.slice a l.length c] H fun v H'=>IntL H' 3 (Rg H.next H'.next) (uniq (occL l)) v/\HX H H':=by
 have hm:=rl.max;refine EvF.enter rfl Tryz.func55 (by decide) rfl ?_
 repeat' (first|refine qZa ?_|refine qZg ?_|(refine qZb ?_;simp (config:=qZc) (disch:=first|omega|rfl) only[sB,initTm,dAlloc,Za,one,reduceCtorEq,zr28,zub,zuc,ln32,z47]))
 have E:=zri (H0:=H) (pm:=H.next+1+1) (po:=H.next) (r:=H.next+1) (tot:=occL l) (by omega) (by omega) (by omega) (by omega) (by omega) (by omega) hlen;refine qZk (fun k st=>∃tm H' i S,st=⟨tm,[],H'⟩/\k=l.length - i/\i<=l.length/\tm.get 3=some (.pointer (some ⟨H.next,0,none⟩))/\tm.get 4=some (.pointer (some ⟨H.next+1+1,0,none⟩))/\tm.get 8=some (.slice a l.length c)/\tm.get 9=some (.int .i64 l.length)/\tm.get 10=some (.int .i64 (i:Nat)) /\
   VarJ H (H.next+1+1) H.next (H.next+1) S (occL (l.take i)) H') ?_ l.length _ ?_
 ·rintro k st ⟨tm,H',i,S,rfl,rfl,hi,t3,t4,t8,t9,t10,hj⟩;have hx':=E.base _ _ _ hj;by_cases hlt:i < l.length
  ·obtain⟨b,o,a1,c1,rfl,hld,hr1⟩:=rl.el hlt;have hld1:=hx'.load hw hld
   repeat' (first|refine qZa ?_|refine qZg ?_|(refine qZe ?_;try simp only[z00])|(refine qZb ?_;simp (config:=qZc) (disch:=first|omega|rfl) only[sB,dAlloc,Za,Zb,one,cutC,ia32,ld40,zr40,st40,cl44,t3,t4,t8,t9,t10,decl hlt,hld1,List.map_toArray])|(refine qZd ?_ ?_;simp (config:=qZc) only[sB];refine z01 ?_))
   obtain⟨H4,e4,hx4,g4,hn4,hw4⟩:=z0o hx'.wf (.row zero6 40) (.row (six l[i] a1 c1) 40);simp only[e4];have htake:=z34 hlt;refine(zlh hw (by kernel_rfl) E _ (Zf _) hr1 (E.stay _ _ _ _ hj hx4) (by rw[<-htake];exact z7e _ _)).mono ?_;rintro v H5 ⟨S5,hj5,-⟩
   repeat' (first|(refine qZb ?_;simp (config:=qZc) (disch:=first|omega|rfl) only[sB,Za,t10,z05]))
   exact⟨l.length - (i+1),by omega,_,_,i+1,S5,rfl,rfl,by omega,(by simp only[sG,Za,t3]),(by simp only[sG,Za,t4]),(by simp only[sG,Za,t8]),(by simp only[sG,Za,t9]),(by simp only[sB,Za];rfl),by rw[htake];exact hj5⟩
  ·obtain⟨-,gm,v,M,Sb,go,-,-,hi,-,hSb⟩:=hj;have lo:H'.load ⟨H.next,0,none⟩ 1=some [v]:=by unfold Heap.load Heap.cells;simp only[go];rfl
   rw[Zq (by omega)] at hi
   repeat' (first|refine qZa ?_|(refine qZi ?_;try simp only[sB])|(refine qZf ?_)|(refine qZb ?_;simp (config:=qZc) (disch:=first|omega|rfl) only[sB,Za,ld28,t3,t9,t10,decn hlt,lo])|(refine qZm ?_ ?_;simp (config:=qZc) only[sB];refine z01 ?_))
   refine z03 rfl (by simp only[sB,Za];rfl) ⟨?_,hx'⟩;rcases hi with h|⟨b,c',h1,h2,h3,h4,h5⟩
   ·exact .inl h
   ·exact .inr ⟨b,c',h1,h2,h3,h4,by have:=hSb _ h5;exact⟨by omega,by omega⟩⟩
 ·obtain⟨H1,e1,hx1,g1,n1,w1⟩:=new1 hw (.row [.slice none 0 0] 28);obtain⟨H2,e2,hx2,g2,n2,w2⟩:=new1 w1 (.map [] 0);obtain⟨H3,e3,hx3,g3,n3,w3⟩:=z0o w2 (.row [.map none] 146) (.row [.map (some (H.next+1))] 146);have n2':H2.next=H.next+1+1:=by omega
  rw[n2'] at e3 g3;simp only[e1,e2,e3];have hx:=(hx1.trans hx2).trans hx3;refine⟨_,_,0,fun n=>n=H.next+1\/n=H.next\/False,rfl,rfl,by omega,(by simp only[sG,Za,reduceCtorEq]),(by simp only[sG,Za,reduceCtorEq]),(by simp only[sG,Za,reduceCtorEq]),(by simp only[sG,Za,reduceCtorEq]),(by simp only[sB,Za,reduceCtorEq];rfl),hx,g3,.slice none 0 0,[],fun _=>False,hx3.get w2 (hx2.get w1 g1),⟨[],0,?_,rfl⟩,fun n=>?_,?_,fun n=>Iff.rfl,fun n h=>h.elim⟩
  ·rw[n1] at g2;exact hx3.get w2 g2
  ·rw[List.take_zero,occL];simp [uniq,mGet]
  ·rw[List.take_zero,occL];exact .inl ⟨rfl,rfl⟩
end Go.Proofs.hq
end

section
namespace Go.Hb
open Go Go.RowKit
inductive Fld where
 |sl (e:TypeId) (w:Nat) (L:List (List Value))
 |mp (M:List (Value × Value))
 |vl (x:Value)
def blkOf:Value->Option Nat
 |.slice (some a) _ _=>some a.block
 |.map (some r)=>some r
 |_=>none
def FR (H:Heap) (B:Nat):Fld->Value->Prop
 |.sl e w L,v=>RepO H e w B L v
 |.mp M,v=>∃r es clock,v=.map (some r)/\B<=r/\r < H.next/\H.get r=some (.map es clock)/\es.map (fun e=>(e.key,e.val))=M
 |.vl x,v=>v=x/\blkOf v=none
structure StR (H:Heap) (B s:Nat) (T:TypeId) (F:List Fld) (V:List Value):Prop where
 obj:H.get s=some (.row V T)
 ge:B<=s
 len:F.length=V.length
 fld:∀(i:Nat) f v,F[i]?=some f->V[i]?=some v->FR H B f v
 apart:∀(i j:Nat) v u n,V[i]?=some v->V[j]?=some u->blkOf v=some n->blkOf u=some n->i=j
 off:∀(i:Nat) v,V[i]?=some v->blkOf v≠some s
 ones:V.all one=true
def Mut (H:Heap) (s n:Nat):Prop:=n=s\/∃V T,H.get s=some (.row V T)/\∃v∈V,blkOf v=some n
structure SX (s:Nat) (H H':Heap):Prop where
 hk:HK (Mut H s) H H'
 mt:∀n,Mut H' s n->Mut H s n\/H.next<=n
theorem SX.wf {s:Nat}{H H':Heap}(h:SX s H H'):H'.wf:=h.hk.wf
theorem SX.next {s:Nat}{H H':Heap}(h:SX s H H'):H.next<=H'.next:=h.hk.next
theorem SX.refl {s:Nat}{H:Heap}(hw:H.wf):SX s H H:=⟨HK.refl hw,fun _ h=>.inl h⟩
theorem SX.trans {s:Nat}{A B C:Heap}(h:SX s A B) (k:SX s B C):SX s A C :=
 ⟨h.hk.step k.hk fun n hn q=>by rcases h.mt n q with q|q;exact q;omega,fun n q=>by
  rcases k.mt n q with q|q
  ·exact h.mt n q
  ·exact .inr (ZC h.next q)⟩
theorem HX.sx {s:Nat}{H H':Heap}(h:HX H H') (hs:s < H.next):SX s H H' :=
 ⟨h.hk _,fun n q=>by
  rcases q with q|⟨V,T,hg,q⟩
  ·exact .inl (.inl q)
  ·exact .inl (.inr ⟨V,T,(h.keep s hs).symm.trans hg,q⟩)⟩
theorem SX.get {s n:Nat}{H H':Heap}(h:SX s H H') (hn:n < H.next) (hm:¬Mut H s n):H'.get n=H.get n:=h.hk.keep n hn hm
section
variable {H:Heap}{B s:Nat}{T:TypeId}{F:List Fld}{V:List Value}
theorem FR.lo {f:Fld}{v:Value}{n:Nat}(h:FR H B f v) (hn:blkOf v=some n):B<=n/\n < H.next:=by
 cases f with
 |sl e w L =>
  rcases h with ⟨rfl,rfl⟩|⟨b,c,h,rfl⟩
  ·cases hn
  ·cases hn;exact⟨h.lo,h.hi⟩
 |mp M =>
  obtain⟨r,es,clock,rfl,h1,h2,-⟩:=h;cases hn;exact⟨h1,h2⟩
 |vl x=>rw[h.2] at hn;cases hn
theorem FR.heap {f:Fld}{v:Value}(h:FR H B f v) {H':Heap}(hk:∀n,blkOf v=some n->H'.get n=H.get n) (hn:H.next<=H'.next):FR H' B f v:=by
 cases f with
 |sl e w L =>
  rcases h with h|⟨b,c,h,rfl⟩
  ·exact .inl h
  ·exact .inr ⟨b,c,h.heap (hk b rfl) hn,rfl⟩
 |mp M =>
  obtain⟨r,es,clock,rfl,h1,h2,h3,h4⟩:=h;exact⟨r,es,clock,rfl,h1,Zo h2 hn,(hk r rfl).trans h3,h4⟩
 |vl x=>exact h
theorem StR.has (h:StR H B s T F V) {i:Nat}{v:Value}(hv:V[i]?=some v):∃f,F[i]?=some f/\FR H B f v:=by
 have hi:i < F.length:=by rw[h.len];exact(List.getElem?_eq_some_iff.1 hv).1
 exact⟨F[i],Zc hi,h.fld i _ _ (Zc hi) hv⟩
theorem StR.mlo (h:StR H B s T F V) {n:Nat}(hn:Mut H s n):B<=n:=by
 rcases hn with rfl|⟨V',T',hg,v,hv,hb⟩
 ·exact h.ge
 ·rw[h.obj] at hg;cases hg;obtain⟨i,hi,rfl⟩:=List.getElem_of_mem hv;obtain⟨f,-,hf⟩:=h.has (Zc hi);exact(hf.lo hb).1
theorem StR.mhi (h:StR H B s T F V) (hw:H.wf) {n:Nat}(hn:Mut H s n):n < H.next:=by
 rcases hn with rfl|⟨V',T',hg,v,hv,hb⟩
 ·exact hw _ _ h.obj
 ·rw[h.obj] at hg;cases hg;obtain⟨i,hi,rfl⟩:=List.getElem_of_mem hv;obtain⟨f,-,hf⟩:=h.has (Zc hi);exact(hf.lo hb).2
theorem StR.lt (h:StR H B s T F V) (hw:H.wf):s < H.next:=hw _ _ h.obj
theorem StR.hx (h:StR H B s T F V) {H0 H':Heap}(h0:HX H0 H) (hb:H0.next<=B) (hx:SX s H H'):HX H0 H':=h0.then hx.hk fun n hn q=>by have:=h.mlo q;omega
theorem StR.keep (h:StR H B s T F V) (hw:H.wf) {H':Heap}(hx:HX H H'):StR H' B s T F V :=
 ⟨hx.get hw h.obj,h.ge,h.len,fun i f v hf hv=>by
  have q:=h.fld i f v hf hv;exact q.heap (fun n hn=>hx.keep n (q.lo hn).2) hx.next,h.apart,h.off,h.ones⟩
theorem StR.put (h:StR H B s T F V) (hw:H.wf) {H2:Heap}(hw2:H2.wf) (hn:H.next<=H2.next) {i:Nat}{v v':Value}{f':Fld}(hV:V[i]?=some v) (hk:∀n,n < H.next->blkOf v≠some n->H2.get n=H.get n)
  (hf:FR H2 B f' v') (hb:∀n,blkOf v'=some n->blkOf v=some n\/H.next<=n) (ho:one v'=true) :
  StR (H2.put s (some (.row (V.set i v') T))) B s T (F.set i f') (V.set i v')/\SX s H (H2.put s (some (.row (V.set i v') T))):=by
 have hs:=h.lt hw;have hi:i < V.length:=(List.getElem?_eq_some_iff.1 hV).1;have hmem:v∈V:=ZG hV;obtain⟨f,hF,hfv⟩:=h.has hV;have hvs:=h.off i v hV;have hb's:blkOf v'≠some s:=fun q=>by
  rcases hb s q with q|q
  ·exact hvs q
  ·omega
 have hset:∀(j:Nat) u,(V.set i v')[j]?=some u->(j=i/\u=v')\/(j≠i/\V[j]?=some u):=fun j u q=>by
  rw[List.getElem?_set] at q;by_cases hij:i=j
  ·rw[if_pos hij,if_pos hi] at q;cases q;exact .inl ⟨hij.symm,rfl⟩
  ·rw[if_neg hij] at q;exact .inr ⟨fun e=>hij e.symm,q⟩
 have hw':(H2.put s (some (.row (V.set i v') T))).wf:=by
  intro n D hD;rw[get_put] at hD;rw[z14];split at hD
  ·subst n;omega
  ·exact hw2 _ _ hD
 refine⟨⟨by rw[get_put,if_pos rfl],h.ge,by rw[Zy,Zy];exact h.len,fun j g u hg hu=>?_,fun j k u u' n h1 h2 h3 h4=>?_,fun j u hu=>?_,?_⟩,⟨⟨by rw[z14];exact hn,fun n hn' hm=>?_,hw'⟩,fun n hm=>?_⟩⟩
 ·rcases hset j u hu with ⟨rfl,rfl⟩|⟨hj,hu'⟩
  ·rw[List.getElem?_set,if_pos rfl,if_pos (by rw[h.len];exact hi)] at hg;cases hg;refine hf.heap (fun n hn=>?_) (by rw[z14];exact Ze _);rw[get_put,if_neg (fun e:n=s=>hb's (e ▸ hn))]
  ·rw[List.getElem?_set,if_neg (fun e=>hj e.symm)] at hg;have q:=h.fld j g u hg hu';refine q.heap (fun n hn=>?_) (by rw[z14];exact hn);rw[get_put,if_neg (fun e:n=s=>h.off j u hu' (e ▸ hn))];exact hk n (q.lo hn).2 fun e=>hj (h.apart j i u v n hu' hV hn e)
 ·rcases hset j u h1 with ⟨rfl,rfl⟩|⟨hj,hu⟩
  ·rcases hset k u' h2 with ⟨rfl,rfl⟩|⟨hk',hu'⟩
   ·rfl
   ·rcases hb n h3 with q|q
    ·exact h.apart _ _ _ _ n hV hu' q h4
    ·obtain⟨f2,-,q2⟩:=h.has hu';have:=(q2.lo h4).2;omega
  ·rcases hset k u' h2 with ⟨rfl,rfl⟩|⟨hk',hu'⟩
   ·rcases hb n h4 with q|q
    ·exact h.apart _ _ _ _ n hu hV h3 q
    ·obtain⟨f2,-,q2⟩:=h.has hu;have:=(q2.lo h3).2;omega
   ·exact h.apart _ _ _ _ n hu hu' h3 h4
 ·rcases hset j u hu with ⟨rfl,rfl⟩|⟨hj,hu'⟩
  ·exact hb's
  ·exact h.off j u hu'
 ·rw[List.all_eq_true];intro u hu;rcases List.mem_or_eq_of_mem_set hu with q|q
  ·exact List.all_eq_true.1 h.ones u q
  ·rw[q];exact ho
 ·rw[get_put,if_neg (fun e=>hm (.inl e))];exact hk n hn' fun e=>hm (.inr ⟨V,T,h.obj,v,hmem,e⟩)
 ·rcases hm with q|⟨V',T',hg,u,hu,hub⟩
  ·exact .inl (.inl q)
  ·rw[get_put,if_pos rfl] at hg;cases hg;rcases List.mem_or_eq_of_mem_set hu with q|q
   ·exact .inl (.inr ⟨V,T,h.obj,u,q,hub⟩)
   ·rw[q] at hub;rcases hb n hub with e|e
    ·exact .inl (.inr ⟨V,T,h.obj,v,hmem,e⟩)
    ·exact .inr e
theorem zbd {α:Type}{l:List α}{i:Nat}{v:α}(h:l[i]?=some v):l.set i v=l:=by
 apply List.ext_getElem?;intro j;rw[List.getElem?_set];by_cases hj:i=j
 ·subst hj;rw[if_pos rfl,if_pos (List.getElem?_eq_some_iff.1 h).1,h]
 ·rw[if_neg hj]
theorem StR.alter (h:StR H B s T F V) (hw:H.wf) {H2:Heap}(hw2:H2.wf) (hn:H.next<=H2.next) {i:Nat}{v:Value}{f':Fld}(hV:V[i]?=some v) (hk:∀n,n < H.next->blkOf v≠some n->H2.get n=H.get n)
  (hf:FR H2 B f' v):StR H2 B s T (F.set i f') V/\SX s H H2:=by
 have hs:=h.lt hw;have hi:i < V.length:=(List.getElem?_eq_some_iff.1 hV).1;have hmem:v∈V:=ZG hV;have hvs:=h.off i v hV;have hobj:H2.get s=some (.row V T):=(hk s hs hvs).trans h.obj;refine⟨⟨hobj,h.ge,by rw[Zy];exact h.len,fun j g u hg hu=>?_,h.apart,h.off,h.ones⟩,⟨⟨hn,fun n hn' hm=>?_,hw2⟩,fun n hm=>?_⟩⟩
 ·by_cases hj:i=j
  ·subst hj;rw[List.getElem?_set,if_pos rfl,if_pos (by rw[h.len];exact hi)] at hg;cases hg;rw[hV] at hu;cases hu;exact hf
  ·rw[List.getElem?_set,if_neg hj] at hg;have q:=h.fld j g u hg hu;exact q.heap (fun n hn=>hk n (q.lo hn).2 fun e=>hj (h.apart j i u v n hu hV hn e).symm) hn
 ·exact hk n hn' fun e=>hm (.inr ⟨V,T,h.obj,v,hmem,e⟩)
 ·rcases hm with q|⟨V',T',hg,u,hu,hub⟩
  ·exact .inl (.inl q)
  ·rw[hobj] at hg;cases hg;exact .inl (.inr ⟨V,T,h.obj,u,hu,hub⟩)
theorem StR.vl (h:StR H B s T F V) {i:Nat}{x:Value}(hF:F[i]?=some (.vl x)) {v:Value}(hV:V[i]?=some v):v=x:=(h.fld i _ _ hF hV).1
theorem StR.load (h:StR H B s T F V) {i:Nat}{v:Value}(hv:V[i]?=some v):H.load ⟨s,i,none⟩ 1=some [v]:=by
 unfold Heap.load Heap.cells;simp only[h.obj];have hi:=List.getElem?_eq_some_iff.1 hv;have e:(V.drop i).take 1=[v]:=by
  rw[ZB hi.1,List.take_succ_cons,List.take_zero,hi.2]
 rw[e];rfl
theorem StR.sl (h:StR H B s T F V) {i:Nat}{v:Value}{e:TypeId}{w:Nat}{L:List (List Value)}(hF:F[i]?=some (.sl e w L)) (hV:V[i]?=some v):∃a c,v=.slice a L.length c/\L.length<=c/\c<=maxLen :=
 RepO.slice (h.fld i _ _ hF hV)
theorem StR.el (h:StR H B s T F V) {i n c k:Nat}{a:Option Addr}{e:TypeId}{w:Nat}{L:List (List Value)}{x:List Value}(hF:F[i]?=some (.sl e w L)) (hV:V[i]?=some (.slice a n c)) (hx:L[k]?=some x) :
  ∃b,a=some ⟨b,0,none⟩/\OwnS H e w B L b c/\H.load ⟨b,k*w,none⟩ w=some x:=by
 rcases h.fld i _ _ hF hV with ⟨rfl,q⟩|⟨b,c',q,e⟩
 ·simp at hx
 ·cases e;exact⟨b,rfl,q,q.load hx⟩
theorem FR.push {P:Program}{t e:TypeId}{w:Nat}{L:List (List Value)}{v:Value}(h:FR H B (.sl e w L) v) (hw:H.wf) (hp:apOk P t e w) {y:List Value}{ad:Addr}{c1:Nat}(hl:H.load ad (1*w)=some y) (hy:y.length=w) (ha:y.all one=true) (hm:L.length+1<=most) (hB:B<=H.next) :
  ∃H2 c,dAp P #[t,t] v (.slice (some ad) 1 c1) H=some (.val (.slice (some ⟨H.next,0,none⟩) (L.length+1) c) H2)/\OwnS H2 e w B (L++[y]) H.next c/\H2.next=H.next+1/\H2.wf/\(∀n,n < H.next->blkOf v≠some n->H2.get n=H.get n)/\H2.get H.next=some (.row (L++[y]).flatten e):=by
 have hmax:L.length+1<=maxLen:=ZC hm (by simp [most,maxLen]);rcases h with ⟨rfl,rfl⟩|⟨b,c,h,rfl⟩
 ·refine⟨_,1,z6m hp (by omega) hm hl ha,OwnS.first hy ha hB,rfl,((HX.refl hw).new _).wf,fun n hn _=>z1f hn,by rw[z0z];simp⟩
 ·obtain⟨cs,hg,hle,ht⟩:=h.row;have hbn:b < H.next:=h.hi;have hone:(cs.take (L.length*w)).all one=true:=by
   rw[ht,List.all_eq_true];intro z hz;obtain⟨l,hl1,hl2⟩:=List.mem_flatten.1 hz;exact List.all_eq_true.1 (h.all l hl1) z hl2
  refine⟨_,_,z5g hp (by omega) hm hl ha hg hle hone,h.push hg hy ha hmax hB,rfl,(((HK.refl (S:=fun n=>n=b) hw).put (.inl rfl) hbn none).new _).wf,fun n hn hne=>?_,?_⟩
  ·rw[z1f (by rw[z14];exact hn),z3q (fun e=>hne (by rw[e];rfl))]
  ·show ((H.put b none).new _).get (H.put b none).next=_;rw[z0z,ht,List.flatten_append];simp
theorem StR.pushed {P:Program}{t e:TypeId}{w i c1:Nat}{L:List (List Value)}{v:Value}{y:List Value}{ad:Addr}(h:StR H B s T F V) (hw:H.wf) (hp:apOk P t e w) (hF:F[i]?=some (.sl e w L)) (hV:V[i]?=some v) (hl:H.load ad (1*w)=some y)
  (hy:y.length=w) (ha:y.all one=true) (hm:L.length+1<=most) :
  ∃H2 c,dAp P #[t,t] v (.slice (some ad) 1 c1) H=some (.val (.slice (some ⟨H.next,0,none⟩) (L.length+1) c) H2)/\H2.get s=some (.row V T)/\H2.wf/\(∀n,n < H.next->blkOf v≠some n->H2.get n=H.get n)/\∃H3,H2.put s (some (.row (V.set i (.slice (some ⟨H.next,0,none⟩) (L.length+1) c)) T))=H3 /\
   StR H3 B s T (F.set i (.sl e w (L++[y]))) (V.set i (.slice (some ⟨H.next,0,none⟩) (L.length+1) c))/\SX s H H3:=by
 have hB:B<=H.next:=ZC h.ge (Nat.le_of_lt (h.lt hw));obtain⟨H2,c,e2,o2,n2,w2,k2,-⟩:=(h.fld i _ _ hF hV).push (c1:=c1) hw hp hl hy ha hm hB;have p:=h.put hw w2 (by omega) hV k2 (f':=.sl e w (L++[y])) (v':=.slice (some ⟨H.next,0,none⟩) (L.length+1) c) (.inr ⟨_,c,o2,by simp⟩) (fun n hn=>.inr (by cases hn;exact Ze _)) rfl;exact⟨H2,c,e2,(k2 s (h.lt hw) (h.off i v hV)).trans h.obj,w2,k2,_,rfl,p.1,p.2⟩
end
end Go.Hb
end

section
namespace Go.Proofs.hq
open Go Go.RowKit Go.Hb
variable {ok:Ok}
set_option maxRecDepth 10000
attribute [local irreducible] LX LG EL STG SOP SGO SGD SAL SRD SEF SEG SLK SCK ES
theorem z1j {P:Program}{α:Type}{a:α}:pureRun P (pure a)=some a:=rfl
theorem z3t {P:Program}:pureRun P program=some P:=rfl
theorem zvd:Tryz.prog.stoodInHeld 116=false:=by kernel_rfl
theorem un49:pureRun Tryz.prog (underlying 116)=some (.struct #[{ name := "Name", type:=9,offset:=0,embedded:=false,tag := "", pkgPath := "", byteOffset:=0 },{ name := "Arity", type:=3,offset:=1,embedded:=false,tag := "", pkgPath := "", byteOffset:=16 }]):=by kernel_rfl
theorem z8t {n:Nat}{cs:Array Value}{v:Value}(h:cs[n]?=some v):pureRun Tryz.prog (part 3 cs n)=some v:=by
 have h1:pureRun Tryz.prog (isAgg 3)=some false:=by kernel_rfl
 unfold part;rw[z09,h1,Zs,h];rfl
theorem zh2 {n:Nat}{cs:Array Value}{v:Value}(h:cs[n]?=some v):pureRun Tryz.prog (part 9 cs n)=some v:=by
 have h1:pureRun Tryz.prog (isAgg 9)=some false:=by kernel_rfl
 unfold part;rw[z09,h1,Zs,h];rfl
theorem zbe {d:Nat}{a b:Int}:pureRun Tryz.prog (Op.equalIn (d+1) 3 (.int .i64 a) (.int .i64 b))=some (a == b):=by
 have hu:pureRun Tryz.prog (underlying 3)=some (.int .i64):=by kernel_rfl
 unfold Op.equalIn;rw[z09,hu,Zs];rfl
theorem zf2 {d:Nat}{a b:ByteArray}:pureRun Tryz.prog (Op.equalIn (d+1) 9 (.string a) (.string b))=some (a == b):=by
 have hu:pureRun Tryz.prog (underlying 9)=some .string:=by kernel_rfl
 unfold Op.equalIn;rw[z09,hu,Zs];rfl
theorem zts {a b:ByteArray}{n m:Int}:pureRun Tryz.prog (Op.equal 116 (.agg #[.string a,.int .i64 n]) (.agg #[.string b,.int .i64 m]))=some (a == b && n == m):=by
 show pureRun Tryz.prog (Op.equalIn (9999+1) _ _ _)=_;unfold Op.equalIn;rw[z09,un49,Zs];simp only[];rw[z09,z3t,Zs,zvd];simp only[Zd,if_false];have p1:pureRun Tryz.prog (part 9 #[Value.string a,Value.int IntKind.i64 n] 0)=some (.string a):=zh2 rfl;have p2:pureRun Tryz.prog (part 9 #[Value.string b,Value.int IntKind.i64 m] 0)=some (.string b):=zh2 rfl;have p3:pureRun Tryz.prog (part 3 #[Value.string a,Value.int IntKind.i64 n] 1)=some (.int .i64 n):=z8t rfl;have p4:pureRun Tryz.prog (part 3 #[Value.string b,Value.int IntKind.i64 m] 1)=some (.int .i64 m):=z8t rfl;have e1:pureRun Tryz.prog (Op.equalIn 9999 9 (.string a) (.string b))=some (a == b):=zf2;have e2:pureRun Tryz.prog (Op.equalIn 9999 3 (.int .i64 n) (.int .i64 m))=some (n == m):=zbe;have nn:(("Name" : String) ≠ "_")=True:=by simp
 have na:(("Arity" : String) ≠ "_")=True:=by simp
 simp only[<-Array.forIn_toList,List.forIn_cons,List.forIn_nil,z09,nn,na,if_true,p1,p2,e1,Zs];cases hab:a == b with
 |false=>simp [z09,z1j]
 |true =>
  simp only[Zn,Zd,if_false,z09,z1j,Zs,p3,p4,e2];cases hnm:n == m<;>simp [z09,z1j]
end Go.Proofs.hq
end

section
namespace Go.Hb
open Go Go.RowKit
structure SS where
  cells:List (Int × Int)
  own:List Int
  vars:List Int
  flags:List Bool
  consts:List Tm
  funs:List (ByteArray × Int)
  trail:List (Int × Int)
  marks:List (Int × Int × Int)
abbrev two (p:Int × Int):List Value:=[.int .i64 p.1,.int .i64 p.2]
abbrev int1 (n:Int):List Value:=[.int .i64 n]
abbrev flg1 (b:Bool):List Value:=[.bool b]
abbrev six0 (t:Tm):List Value:=six t none 0
abbrev keyC (k:ByteArray × Int):List Value:=[.string k.1,.int .i64 k.2]
abbrev three (p:Int × Int × Int):List Value:=[.int .i64 p.1,.int .i64 p.2.1,.int .i64 p.2.2]
abbrev ckey (t:Tm):Value:=.agg ⟨[.int .i64 t.kind,.string t.name,.string t.num,.int .u64 t.bits]⟩
abbrev fkey (k:ByteArray × Int):Value:=.agg ⟨[.string k.1,.int .i64 k.2]⟩
def dNilC (v:Value) (H:Heap):Option Dr:=match v with
  |.pointer (some a)=>some (.val (.pointer (some a)) H)
  |.func (.func f) a b=>some (.val (.func (.func f) a b) H)
  |_=>none
theorem z07 {P:Program}{H:Heap}{d:Option Tmp}{x:Operand}{ty:TypeId}{pos:String}{af:Array Edge}{g:Option (Nat × Bool)}{ρ:Operand->Value}:dop P ⟨d,.nilCheck x,ty,pos,af,g⟩ ρ H=dNilC (ρ x) H:=_root_.id rfl
theorem z0a {H:Heap}{a:Addr}:dNilC (.pointer (some a)) H=some (.val (.pointer (some a)) H):=_root_.id rfl
theorem z0l {H:Heap}{p:Nat}{T:TypeId}{x y:Value}(h:H.get p=some (.row [x,y] T)):H.load ⟨p,0,none⟩ 2=some [x,y]/\H.load ⟨p,0,none⟩ 1=some [x]/\H.load ⟨p,1,none⟩ 1=some [y]:=by
  simp only[Heap.load,Heap.cells,h];exact⟨rfl,rfl,rfl⟩
theorem zd8 {H:Heap}{p:Nat}{T:TypeId}{x y z:Value}(h:H.get p=some (.row [x,y,z] T)):H.load ⟨p,0,none⟩ 3=some [x,y,z]/\H.load ⟨p,0,none⟩ 1=some [x]/\H.load ⟨p,1,none⟩ 1=some [y]/\H.load ⟨p,2,none⟩ 1=some [z]:=by
  simp only[Heap.load,Heap.cells,h];exact⟨rfl,rfl,rfl,rfl⟩
theorem z3u {H:Heap}{p:Nat}{T:TypeId}{x:Value}(h:H.get p=some (.row [x] T)):H.load ⟨p,0,none⟩ 1=some [x]:=by
  simp only[Heap.load,Heap.cells,h];rfl
def mapOf {α:Type}(key:α->Value) (l:List α):List (Value × Value):=l.zipIdx.map fun p=>(key p.1,.int .i64 (p.2:Nat))
end Go.Hb
namespace Go.Proofs.hq
open Go Go.RowKit Go.Hb
variable {ok:Ok}
set_option maxRecDepth 10000
attribute [local irreducible] LX LG EL STG SOP SGO SGD SAL SRD SEF SEG SLK SCK ES
def flds (σ:SS):List Fld :=
  [.sl 42 2 (σ.cells.map two),.sl 3 1 (σ.own.map int1),.sl 3 1 (σ.vars.map int1),.sl 4 1 (σ.flags.map flg1),.sl 40 6 (σ.consts.map six0),.sl 116 2 (σ.funs.map keyC),
   .mp (mapOf ckey σ.consts),.mp (mapOf fkey σ.funs),.sl 121 2 (σ.trail.map two),.sl 83 3 (σ.marks.map three)]
def St (H:Heap) (B s:Nat) (σ:SS):Prop:=∃V,StR H B s 76 (flds σ) V
abbrev Bk (n c:Nat):Prop:=n<=c/\c<=maxLen
theorem isP:isPtr Tryz.prog 24=true:=by kernel_rfl
theorem bEqP {H:Heap}{x y:Operand}{a:Addr}:dBin Tryz.prog .eql 24 x y (.pointer (some a)) (.pointer none) H=some (.val (.bool false) H):=by
  simp only[dBin,dnil,isP,nilEq,if_true]
theorem St.open {H:Heap}{B s:Nat}{σ:SS}(hs:St H B s σ):∃a0 c0 a1 c1 a2 c2 a3 c3 a4 c4 a5 c5 r6 r7 a8 c8 a9 c9,
    StR H B s 76 (flds σ) [.slice a0 σ.cells.length c0,.slice a1 σ.own.length c1,.slice a2 σ.vars.length c2,.slice a3 σ.flags.length c3,.slice a4 σ.consts.length c4,.slice a5 σ.funs.length c5,.map (some r6),.map (some r7),.slice a8 σ.trail.length c8,.slice a9 σ.marks.length c9] /\
    H.load ⟨s,0,none⟩ 1=some [.slice a0 σ.cells.length c0]/\H.load ⟨s,1,none⟩ 1=some [.slice a1 σ.own.length c1]/\H.load ⟨s,2,none⟩ 1=some [.slice a2 σ.vars.length c2]/\H.load ⟨s,3,none⟩ 1=some [.slice a3 σ.flags.length c3]/\H.load ⟨s,4,none⟩ 1=some [.slice a4 σ.consts.length c4] /\
    H.load ⟨s,5,none⟩ 1=some [.slice a5 σ.funs.length c5]/\H.load ⟨s,6,none⟩ 1=some [.map (some r6)]/\H.load ⟨s,7,none⟩ 1=some [.map (some r7)]/\H.load ⟨s,8,none⟩ 1=some [.slice a8 σ.trail.length c8]/\H.load ⟨s,9,none⟩ 1=some [.slice a9 σ.marks.length c9] /\
    Bk σ.cells.length c0/\Bk σ.own.length c1/\Bk σ.vars.length c2/\Bk σ.flags.length c3/\Bk σ.consts.length c4/\Bk σ.funs.length c5/\Bk σ.trail.length c8/\Bk σ.marks.length c9:=by
  obtain⟨V,h⟩:=hs;have hl:=h.len
  match V,h,hl with
  |[v0,v1,v2,v3,v4,v5,v6,v7,v8,v9],h,_ =>
    obtain⟨a0,c0,rfl,q0⟩:=h.sl (i:=0) rfl rfl;obtain⟨a1,c1,rfl,q1⟩:=h.sl (i:=1) rfl rfl;obtain⟨a2,c2,rfl,q2⟩:=h.sl (i:=2) rfl rfl;obtain⟨a3,c3,rfl,q3⟩:=h.sl (i:=3) rfl rfl;obtain⟨a4,c4,rfl,q4⟩:=h.sl (i:=4) rfl rfl;obtain⟨a5,c5,rfl,q5⟩:=h.sl (i:=5) rfl rfl;obtain⟨r6,-,-,rfl,-⟩:=h.fld 6 _ _ rfl rfl;obtain⟨r7,-,-,rfl,-⟩:=h.fld 7 _ _ rfl rfl;obtain⟨a8,c8,rfl,q8⟩:=h.sl (i:=8) rfl rfl;obtain⟨a9,c9,rfl,q9⟩:=h.sl (i:=9) rfl rfl;simp only[Zp] at *;exact⟨a0,c0,a1,c1,a2,c2,a3,c3,a4,c4,a5,c5,r6,r7,a8,c8,a9,c9,h,h.load rfl,h.load rfl,h.load rfl,h.load rfl,h.load rfl,h.load rfl,h.load rfl,h.load rfl,h.load rfl,h.load rfl,q0,q1,q2,q3,q4,q5,q8,q9⟩
theorem St.keep {H H':Heap}{B s:Nat}{σ:SS}(hs:St H B s σ) (hw:H.wf) (hx:HX H H'):St H' B s σ:=hs.imp fun _ h=>h.keep hw hx
theorem St.lt {H:Heap}{B s:Nat}{σ:SS}(hs:St H B s σ) (hw:H.wf):s < H.next:=by obtain⟨V,h⟩:=hs;exact h.lt hw
theorem St.hx {H0 H H':Heap}{B s:Nat}{σ:SS}(hs:St H B s σ) (h0:HX H0 H) (hb:H0.next<=B) (hx:SX s H H'):HX H0 H':=by obtain⟨V,h⟩:=hs;exact h.hx h0 hb hx
theorem St.mlo {H:Heap}{B s n:Nat}{σ:SS}(hs:St H B s σ) (hn:Mut H s n):B<=n:=by obtain⟨V,h⟩:=hs;exact h.mlo hn
theorem St.mhi {H:Heap}{B s n:Nat}{σ:SS}(hs:St H B s σ) (hw:H.wf) (hn:Mut H s n):n < H.next:=by obtain⟨V,h⟩:=hs;exact h.mhi hw hn
theorem St.ge {H:Heap}{B s:Nat}{σ:SS}(hs:St H B s σ):B<=s:=by obtain⟨V,h⟩:=hs;exact h.ge
theorem zf3 {H:Heap}{B s:Nat}{σ:SS}{c:Int × Int}{o:Int}(hs:St H B s σ) (hw:H.wf) (hm:σ.cells.length+1<=most) (hm2:σ.own.length+1<=most) :
    EvF Tryz.prog okT 60 [.pointer (some ⟨s,0,none⟩),.agg ⟨two c⟩,.int .i64 o] H fun _ H'=>St H' B s { σ with cells:=σ.cells++[c],own:=σ.own++[o] }/\SX s H H':=by
  refine EvF.enter rfl Tryz.func60 (by decide) rfl ?_;(repeat refine qZa ?_);refine qZb ?_;simp only[sB,initTm,dBox,Za,Zb,Value.cells,one,reduceCtorEq];obtain⟨H1,e1,hx1,g1,n1,w1⟩:=new1 hw (.row (two c) 42);simp only[e1];have hs1:=hs.keep hw hx1;obtain⟨a0,c0,a1,c1,a2,c2,a3,c3,a4,c4,a5,c5,r6,r7,a8,c8,a9,c9,h,l0,l1,l2,l3,l4,l5,l6,l7,l8,l9,b0,b1,b2,b3,b4,b5,b8,b9⟩:=hs1.open;have q1:=z0l g1
  repeat' (first|refine qZa ?_|(refine qZj [([(1,0),(2,0),(3,0),(4,0),(5,0),(6,0)],some 7),([(0,0),(8,1),(9,1)],some 10),([],none)] ?_ ?_;kernel_rfl;simp only[sD,sB,Za,Zb,Value.cells,one,reduceCtorEq,layC,z1n,ld27,ld42,zks,z07,z0a,l0,q1,isAlloc,isRead,dalloc]))
  obtain⟨H2,e2,hx2,g2,w2⟩:=zii w1 11 6 (by omega) (.row (two c) 42);simp only[e2];obtain⟨H3,k3,e3,g3,-,-,H4,e4,s4,x4⟩:=(h.keep w1 hx2).pushed (P:=Tryz.prog) (i:=0) (c1:=1) w2 ap27 rfl rfl (z0l g2).1 rfl rfl (by simpa using hm);simp only[List.set_cons_zero,List.set_cons_succ,Zp] at e3 e4;have hs4:St H4 B s { σ with cells:=σ.cells++[c] }:=⟨_,by simpa [flds] using s4⟩
  clear s4;obtain⟨a0x,c0x,a1x,c1x,a2x,c2x,a3x,c3x,a4x,c4x,a5x,c5x,r6x,r7x,a8x,c8x,a9x,c9x,hx,l0x,l1x,l2x,l3x,l4x,l5x,l6x,l7x,l8x,l9x,b0x,b1x,b2x,b3x,b4x,b5x,b8x,b9x⟩:=hs4.open
  repeat' (first|(refine qZb ?_;simp only[sB,Za,Value.cells,one,reduceCtorEq,layC,z77,ld28,zgt,z07,z0a,l1x])|(refine zcq ?_;simp only[sD,sB,Za,Zb,one,reduceCtorEq,Zr,z1n,st27,z07,z0a,e3,g3,e4,isAlloc,isRead,z8j]))
  obtain⟨H5,e5,hx5,g5,n5,w5⟩:=new1 x4.wf (.row (int1 o) 3);simp only[e5];obtain⟨H6,k6,e6,g6,-,-,H7,e7,s7,x7⟩:=(hx.keep x4.wf hx5).pushed (P:=Tryz.prog) (i:=1) (c1:=1) w5 ap28 rfl rfl (z3u g5) rfl rfl (by simpa using hm2);simp only[List.set_cons_zero,List.set_cons_succ,Zp] at e6 e7;have hs7:St H7 B s { σ with cells:=σ.cells++[c],own:=σ.own++[o] }:=⟨_,by simpa [flds] using s7⟩
  repeat' (first|(refine z0f ?_;simp only[sB,Za,Zb,one,reduceCtorEq,Zr,z77,st28,z07,z0a,e6,g6,e7]))
  exact z0r rfl ⟨hs7,((hx1.sx (hs.lt hw)).trans (hx2.sx (hs1.lt w1))).trans (x4.trans ((hx5.sx (hs4.lt x4.wf)).trans x7))⟩
end Go.Proofs.hq
end

section
namespace Go.Hb
open Go Go.RowKit
def gi (l:List Int) (v:Int):Int:=(l[v.toNat]?).getD 0
theorem za2 {l:List Int}{n:Nat}(h:n < l.length):l[n]?=some (gi l n):=by
 unfold gi;rw[Zv,Zc h];rfl
def ci (l:List (Int × Int)) (v:Int):Int × Int:=(l[v.toNat]?).getD (0,0)
theorem z35 {l:List (Int × Int)}{n:Nat}(h:n < l.length):l[n]?=some (ci l n):=by
 unfold ci;rw[Zv,Zc h];rfl
theorem StR.el1 {H:Heap}{B s:Nat}{T:TypeId}{F:List Fld}{V:List Value}(h:StR H B s T F V) {i n c k:Nat}{a:Option Addr}{e:TypeId}{L:List (List Value)}{x:List Value}(hF:F[i]?=some (.sl e 1 L)) (hV:V[i]?=some (.slice a n c)) (hx:L[k]?=some x) :
  ∃b,a=some ⟨b,0,none⟩/\OwnS H e 1 B L b c/\H.load ⟨b,k,none⟩ 1=some x:=by
 have:=h.el hF hV hx;simpa only[Nat.mul_one] using this
theorem StR.row {H:Heap}{B s:Nat}{T:TypeId}{F:List Fld}{V:List Value}(h:StR H B s T F V) {i n c k:Nat}{a:Option Addr}{e:TypeId}{w:Nat}{L:List (List Value)}(hF:F[i]?=some (.sl e w L)) (hV:V[i]?=some (.slice a n c)) (hk:k < L.length) :
  ∃b cs,a=some ⟨b,0,none⟩/\OwnS H e w B L b c/\H.get b=some (.row cs e)/\L.length*w<=cs.length:=by
 obtain⟨b,rfl,o,ld⟩:=h.el hF hV (Zc hk);obtain⟨cs,h1,h2,h3⟩:=o.row;exact⟨b,cs,rfl,o,h1,h2⟩
theorem StR.write {H:Heap}{B s:Nat}{T:TypeId}{F:List Fld}{V:List Value}(h:StR H B s T F V) (hw:H.wf) {i n c k b:Nat}{e:TypeId}{w:Nat}{L:List (List Value)}{cs y:List Value}(hF:F[i]?=some (.sl e w L)) (hV:V[i]?=some (.slice (some ⟨b,0,none⟩) n c)) (hk:k < L.length)
  (hg:H.get b=some (.row cs e)) (hy:y.length=w) (ha:y.all one=true) :
  ∃H2,H.put b (some (.row (splice cs (k*w) y) e))=H2/\StR H2 B s T (F.set i (.sl e w (L.set k y))) V/\SX s H H2:=by
 obtain⟨b',e1,o,ld⟩:=h.el hF hV (Zc hk);cases e1;have hb:b < H.next:=hw _ _ hg;have hn:n=L.length:=by obtain⟨a',c',e2,-⟩:=h.sl hF hV;cases e2;rfl
 subst hn;have hk2:=(HK.refl (S:=fun n=>n=b) hw).put (.inl rfl) hb (some (.row (splice cs (k*w) y) e));have p:=h.alter hw (H2:=H.put b (some (.row (splice cs (k*w) y) e))) hk2.wf (Ze _) hV (fun n hn hne=>by rw[get_put,if_neg (fun e=>hne (by rw[e];rfl))]) (f':=.sl e w (L.set k y)) (.inr ⟨b,c,o.set hg hk hy ha,by rw[Zy]⟩);exact⟨_,rfl,p.1,p.2⟩
theorem StR.cut {H:Heap}{B s:Nat}{T:TypeId}{F:List Fld}{V:List Value}(h:StR H B s T F V) (hw:H.wf) {i n c m:Nat}{a:Option Addr}{e:TypeId}{w:Nat}{L:List (List Value)}(hF:F[i]?=some (.sl e w L)) (hV:V[i]?=some (.slice a n c)) (hm:m<=L.length) :
  ∃H2,H.put s (some (.row (V.set i (.slice a m c)) T))=H2/\StR H2 B s T (F.set i (.sl e w (L.take m))) (V.set i (.slice a m c))/\SX s H H2:=by
 have q:=h.fld i _ _ hF hV;have hb:∀n',blkOf (.slice a m c)=some n'->blkOf (.slice a n c)=some n'\/H.next<=n':=fun n' hn=>.inl (by cases a<;>exact hn)
 have p:=h.put hw (H2:=H) hw (Ze _) hV (fun _ _ _=>rfl) (f':=.sl e w (L.take m)) (v':=.slice a m c) (RepO.takeR q hm) hb rfl;exact⟨_,rfl,p.1,p.2⟩
end Go.Hb
namespace Go.Proofs.hq
open Go Go.RowKit Go.Hb
variable {ok:Ok}
set_option maxRecDepth 10000
attribute [local irreducible] LX LG EL STG SOP SGO SGD SAL SRD SEF SEG SLK SCK ES
def okV (σ:SS) (v:Int):Prop:=0<=v/\v < σ.vars.length/\0<=gi σ.vars v
instance {σ:SS}{v:Int}:Decidable (okV σ v):=inferInstanceAs (Decidable (_/\_/\_))
theorem zrj {H:Heap}{B s:Nat}{σ:SS}{v:Int}(hs:St H B s σ):EvF Tryz.prog okT 38 [.pointer (some ⟨s,0,none⟩),.int .i64 v] H fun r H' =>
  r=.tuple #[.int .i64 (if okV σ v then gi σ.vars v else 0),.int .i64 (if okV σ v then 0 else 133)]/\H'=H:=by
 obtain⟨a0,c0,a1,c1,a2,c2,a3,c3,a4,c4,a5,c5,r6,r7,a8,c8,a9,c9,h,l0,l1,l2,l3,l4,l5,l6,l7,l8,l9,b0,b1,b2,b3,b4,b5,b8,b9⟩:=hs.open;refine EvF.enter rfl Tryz.func38 (by decide) rfl ?_;by_cases h1:v < 0
 ·have d1:decide (v < 0)=true:=decide_eq_true h1
  repeat' (first|refine qZa ?_|refine qZg ?_|(refine qZf ?_;try simp only[z04,z02])|(refine qZb ?_;simp only[sB,initTm,Za,reduceCtorEq,bEqP,d1])|(refine qZd ?_ ?_;simp only[sB,Za,reduceCtorEq];refine z01 ?_)|(refine qZm ?_ ?_;simp only[sB,Za,reduceCtorEq];refine z01 ?_))
  refine z0j rfl (by simp only[sB,Za,reduceCtorEq];rfl) (by simp only[sB,Za,reduceCtorEq];rfl) ⟨?_,rfl⟩;rw[if_neg (fun q=>by have:=q.1;omega),if_neg (fun q=>by have:=q.1;omega)]
 ·have d1:decide (v < 0)=false:=decide_eq_false h1;obtain⟨n,rfl⟩:=Zk (Int.not_lt.1 h1);by_cases h2:(n:Int) >= σ.vars.length
  ·have d2:decide ((n:Int) >= σ.vars.length)=true:=decide_eq_true h2
   repeat' (first|refine qZa ?_|refine qZg ?_|(refine qZf ?_;try simp only[z04,z02])|(refine qZb ?_;simp only[sB,initTm,Za,reduceCtorEq,z3r,ld28,ln28,z07,z0a,bEqP,l2,d1,d2,Zd])|(refine qZd ?_ ?_;simp only[sB,Za,reduceCtorEq];refine z01 ?_)|(refine qZm ?_ ?_;simp only[sB,Za,reduceCtorEq];refine z01 ?_))
   refine z0j rfl (by simp only[sB,Za,reduceCtorEq];rfl) (by simp only[sB,Za,reduceCtorEq];rfl) ⟨?_,rfl⟩;rw[if_neg (fun q=>by have:=q.2.1;omega),if_neg (fun q=>by have:=q.2.1;omega)]
  ·have d2:decide ((n:Int) >= σ.vars.length)=false:=decide_eq_false h2;have hn:n < σ.vars.length:=by omega
   obtain⟨b,rfl,o,ld⟩:=h.el1 (i:=2) (k:=n) (x:=int1 (gi σ.vars n)) rfl rfl (by rw[Zj,za2 hn];rfl);by_cases h3:gi σ.vars n < 0
   ·have d3:decide (gi σ.vars n < 0)=true:=decide_eq_true h3
    repeat' (first|refine qZa ?_|refine qZg ?_|(refine qZf ?_;try simp only[z04,z02])|(refine qZb ?_;simp (disch:=first|omega|rfl) only[sB,initTm,Za,reduceCtorEq,z3r,ld28,ln28,ia28,ld3,z07,z0a,bEqP,l2,d1,d2,d3,ld,Zd])|(refine qZd ?_ ?_;simp only[sB,Za,reduceCtorEq];refine z01 ?_)|(refine qZm ?_ ?_;simp only[sB,Za,reduceCtorEq];refine z01 ?_))
    refine z0j rfl (by simp only[sB,Za,reduceCtorEq];rfl) (by simp only[sB,Za,reduceCtorEq];rfl) ⟨?_,rfl⟩;rw[if_neg (fun q=>by have:=q.2.2;omega),if_neg (fun q=>by have:=q.2.2;omega)]
   ·have d3:decide (gi σ.vars n < 0)=false:=decide_eq_false h3
    repeat' (first|refine qZa ?_|refine qZg ?_|(refine qZe ?_;try simp only[sA])|(refine qZf ?_)|(refine qZb ?_;simp (disch:=first|omega|rfl) only[sB,initTm,Za,reduceCtorEq,z3r,ld28,ln28,ia28,ld3,z07,z0a,bEqP,l2,d1,d2,d3,ld,Zd])|(refine qZm ?_ ?_;simp only[sB,Za,reduceCtorEq];refine z01 ?_))
    refine z0j rfl (by simp only[sB,Za,reduceCtorEq];rfl) (by simp only[sB,Za,reduceCtorEq];rfl) ⟨?_,rfl⟩;rw[if_pos ⟨by omega,by omega,by omega⟩,if_pos ⟨by omega,by omega,by omega⟩]
theorem zrk {H:Heap}{B s:Nat}{σ:SS}(hs:St H B s σ) (hw:H.wf) (hm:σ.cells.length+1<=most) (hm1:σ.own.length+1<=most) (hm2:σ.vars.length+1<=most) (hm3:σ.flags.length+1<=most) :
  EvF Tryz.prog okT 18 [.pointer (some ⟨s,0,none⟩)] H fun r H'=>r=.int .i64 σ.vars.length /\
   St H' B s { σ with vars:=σ.vars++[(σ.cells.length:Int)],flags:=σ.flags++[false],cells:=σ.cells++[(1,(σ.vars.length:Int))],own:=σ.own++[(σ.vars.length:Int)] }/\SX s H H':=by
 obtain⟨a0,c0,a1,c1,a2,c2,a3,c3,a4,c4,a5,c5,r6,r7,a8,c8,a9,c9,h,l0,l1,l2,l3,l4,l5,l6,l7,l8,l9,b0,b1,b2,b3,b4,b5,b8,b9⟩:=hs.open;refine EvF.enter rfl Tryz.func18 (by decide) rfl ?_
 repeat' (first|refine qZa ?_|(refine qZe ?_;try simp only[z00])|(refine qZb ?_;simp only[sB,initTm,Za,reduceCtorEq,z3r,ld28,ln28,z07,z0a,bEqP,l2])|(refine qZj [([(1,0),(2,0),(3,0),(4,0),(5,0),(6,0),(7,0),(8,0),(9,0),(10,0)],some 11),([(0,0),(12,1),(13,1)],some 14),([],none)] ?_ ?_;kernel_rfl;simp only[sD,sB,Za,Zb,Value.cells,one,reduceCtorEq,layC,z3r,ld28,z1n,ld27,ln27,zgt,z07,z0a,l2,l0,isAlloc,isRead,dalloc])|(refine qZm ?_ ?_;simp only[sB,Za,reduceCtorEq];refine z01 ?_))
 obtain⟨H2,e2,hx2,g2,w2⟩:=zii hw 15 10 (by omega) (.row (int1 σ.cells.length) 3);simp only[e2];obtain⟨H3,k3,e3,g3,-,-,H4,e4,s4,x4⟩:=(h.keep hw hx2).pushed (P:=Tryz.prog) (i:=2) (c1:=1) w2 ap28 rfl rfl (z3u g2) rfl rfl (by simpa using hm2);simp only[List.set_cons_zero,List.set_cons_succ,Zp] at e3 e4;have hs4:St H4 B s { σ with vars:=σ.vars++[(σ.cells.length:Int)] }:=⟨_,by simpa [flds] using s4⟩
 clear s4;obtain⟨a0x,c0x,a1x,c1x,a2x,c2x,a3x,c3x,a4x,c4x,a5x,c5x,r6x,r7x,a8x,c8x,a9x,c9x,hx,l0x,l1x,l2x,l3x,l4x,l5x,l6x,l7x,l8x,l9x,b0x,b1x,b2x,b3x,b4x,b5x,b8x,b9x⟩:=hs4.open
 repeat' (first|refine qZa ?_|(refine qZb ?_;simp only[sB,Za,Value.cells,one,reduceCtorEq,layC,zcu,ld29,zst,z07,z0a,l3x])|(refine zcq ?_;simp only[sD,sB,Za,Zb,one,reduceCtorEq,Zr,z3r,st28,z07,z0a,e3,g3,e4,isAlloc,isRead,z8j]))
 obtain⟨H5,e5,hx5,g5,n5,w5⟩:=new1 x4.wf (.row (flg1 false) 4);simp only[e5];obtain⟨H6,k6,e6,g6,-,-,H7,e7,s7,x7⟩:=(hx.keep x4.wf hx5).pushed (P:=Tryz.prog) (i:=3) (c1:=1) w5 ap29 rfl rfl (z3u g5) rfl rfl (by simpa using hm3);simp only[List.set_cons_zero,List.set_cons_succ,Zp] at e6 e7;have hs7:St H7 B s { σ with vars:=σ.vars++[(σ.cells.length:Int)],flags:=σ.flags++[false] }:=⟨_,by simpa [flds] using s7⟩
 clear s7
 repeat' (first|refine qZa ?_|(refine qZb ?_;simp only[sB,Za,Zb,Value.cells,one,reduceCtorEq,Zr,layC,bd42,cl60])|(refine z0f ?_;simp only[sB,Za,Zb,one,reduceCtorEq,Zr,zcu,st29,z07,z0a,e6,g6,e7]))
 refine(zf3 (c:=(1,(σ.vars.length:Int))) hs7 x7.wf hm hm1).mono ?_;rintro r H8 ⟨hs8,x8⟩
 repeat' (first|refine qZa ?_|(refine qZf ?_)|(refine qZb ?_;simp only[sB,Za,reduceCtorEq]))
 exact z03 rfl (by simp only[sG,Za,reduceCtorEq]) ⟨rfl,hs8,(hx2.sx (hs.lt hw)).trans (x4.trans ((hx5.sx (hs4.lt x4.wf)).trans (x7.trans x8)))⟩
theorem za3 {H:Heap}{B s:Nat}{σ:SS}{v:Int}(hs:St H B s σ) (hf:σ.flags.length=σ.vars.length):EvF Tryz.prog okT 40 [.pointer (some ⟨s,0,none⟩),.int .i64 v] H fun r H' =>
  r=.bool (if okV σ v then (σ.flags[v.toNat]?).getD false else false)/\H'=H:=by
 obtain⟨a0,c0,a1,c1,a2,c2,a3,c3,a4,c4,a5,c5,r6,r7,a8,c8,a9,c9,h,l0,l1,l2,l3,l4,l5,l6,l7,l8,l9,b0,b1,b2,b3,b4,b5,b8,b9⟩:=hs.open;refine EvF.enter rfl Tryz.func40 (by decide) rfl ?_
 repeat' (first|refine qZa ?_|(refine qZb ?_;simp only[sB,initTm,Za,reduceCtorEq,cl38]))
 refine(zrj hs).mono ?_;rintro r H' ⟨rfl,rfl⟩;by_cases hv:okV σ v
 ·obtain⟨n,rfl⟩:=Zk hv.1;have hn:n < σ.flags.length:=by have:=hv.2.1;omega
  obtain⟨b,rfl,o,ld⟩:=h.el1 (i:=3) (k:=n) (x:=flg1 (σ.flags[n])) rfl rfl (by rw[Zj,Zc hn];rfl);simp only[if_pos hv]
  repeat' (first|refine qZa ?_|(refine qZf ?_)|(refine qZb ?_;simp (disch:=first|omega|rfl) only[sB,Za,reduceCtorEq,zcu,ld29,ia29,ld4,z07,z0a,l3,ld,z0v rfl])|(refine z0f ?_;simp only[sB,Za,reduceCtorEq]))
  refine z03 rfl (by simp only[sB,Za,reduceCtorEq];rfl) ⟨?_,rfl⟩;rw[Zc hn];rfl
 ·simp only[if_neg hv];have d9:((133:Int) == 0)=false:=rfl
  repeat' (first|refine qZa ?_|(refine qZf ?_)|(refine qZb ?_;simp only[sB,Za,reduceCtorEq,d9,Zd])|(refine z0f ?_;simp only[sB,Za,reduceCtorEq]))
  exact z03 rfl (by simp only[sG,Za,reduceCtorEq]) ⟨rfl,rfl⟩
theorem za4 {H:Heap}{B s:Nat}{σ:SS}{v:Int}(hs:St H B s σ):EvF Tryz.prog okT 74 [.pointer (some ⟨s,0,none⟩),.int .i64 v] H fun r H' =>
  r=.int .i64 (if 0<=v/\v < σ.marks.length then 0 else 132)/\H'=H:=by
 obtain⟨a0,c0,a1,c1,a2,c2,a3,c3,a4,c4,a5,c5,r6,r7,a8,c8,a9,c9,h,l0,l1,l2,l3,l4,l5,l6,l7,l8,l9,b0,b1,b2,b3,b4,b5,b8,b9⟩:=hs.open;refine EvF.enter rfl Tryz.func74 (by decide) rfl ?_;by_cases h1:v < 0
 ·have d1:decide (v < 0)=true:=decide_eq_true h1
  repeat' (first|refine qZa ?_|refine qZg ?_|(refine qZf ?_;try simp only[z04,z02])|(refine qZb ?_;simp only[sB,initTm,Za,reduceCtorEq,bEqP,d1])|(refine qZd ?_ ?_;simp only[sB,Za,reduceCtorEq];refine z01 ?_)|(refine qZm ?_ ?_;simp only[sB,Za,reduceCtorEq];refine z01 ?_))
  refine z03 rfl (by simp only[sB,Za,reduceCtorEq];rfl) ⟨?_,rfl⟩;rw[if_neg (by omega)]
 ·have d1:decide (v < 0)=false:=decide_eq_false h1;by_cases h2:v >= σ.marks.length
  ·have d2:decide (v >= σ.marks.length)=true:=decide_eq_true h2
   repeat' (first|refine qZa ?_|refine qZg ?_|(refine qZf ?_;try simp only[z04,z02])|(refine qZb ?_;simp only[sB,initTm,Za,reduceCtorEq,z75,ld74,ln74,z07,z0a,bEqP,l9,d1,d2,Zd])|(refine qZd ?_ ?_;simp only[sB,Za,reduceCtorEq];refine z01 ?_)|(refine qZm ?_ ?_;simp only[sB,Za,reduceCtorEq];refine z01 ?_))
   refine z03 rfl (by simp only[sB,Za,reduceCtorEq];rfl) ⟨?_,rfl⟩;rw[if_neg (by omega)]
  ·have d2:decide (v >= σ.marks.length)=false:=decide_eq_false h2
   repeat' (first|refine qZa ?_|refine qZg ?_|(refine qZe ?_;try simp only[sA])|(refine qZf ?_)|(refine qZb ?_;simp only[sB,initTm,Za,reduceCtorEq,z75,ld74,ln74,z07,z0a,bEqP,l9,d1,d2,Zd])|(refine qZm ?_ ?_;simp only[sB,Za,reduceCtorEq];refine z01 ?_))
   refine z03 rfl (by simp only[sB,Za,reduceCtorEq];rfl) ⟨?_,rfl⟩;rw[if_pos (by omega)]
theorem zrl {H:Heap}{B s:Nat}{σ:SS}(hs:St H B s σ) (hw:H.wf) (hm:σ.marks.length+1<=most) :
  EvF Tryz.prog okT 9 [.pointer (some ⟨s,0,none⟩)] H fun r H'=>r=.int .i64 σ.marks.length /\
   St H' B s { σ with marks:=σ.marks++[((σ.trail.length:Int),(σ.cells.length:Int),(σ.vars.length:Int))] }/\SX s H H':=by
 obtain⟨a0,c0,a1,c1,a2,c2,a3,c3,a4,c4,a5,c5,r6,r7,a8,c8,a9,c9,h,l0,l1,l2,l3,l4,l5,l6,l7,l8,l9,b0,b1,b2,b3,b4,b5,b8,b9⟩:=hs.open;refine EvF.enter rfl Tryz.func9 (by decide) rfl ?_
 repeat' (first|refine qZa ?_|(refine qZe ?_;try simp only[z00])|(refine qZb ?_;simp only[sB,initTm,Za,reduceCtorEq,bEqP])|(refine qZj [([(1,0),(2,0),(3,0),(4,0),(5,0),(6,0),(7,0),(8,0),(9,0),(10,0),(11,0),(12,0),(13,0),(14,0),(15,0),(16,0),(17,0),(18,0),(19,0),(20,0),(21,0)],some 22),([(0,0),(23,1),(24,1)],some 25),([],none)] ?_ ?_;kernel_rfl;simp only[sD,sB,Za,Zb,Value.cells,one,reduceCtorEq,Zr,layC,z75,ld74,zct,ld73,ln73,z1n,ld27,ln27,z3r,ld28,ln28,bd83,zsr,z07,z0a,l8,l0,l2,l9,isAlloc,isRead,dalloc])|(refine qZm ?_ ?_;simp only[sB,Za,reduceCtorEq];refine z01 ?_))
 obtain⟨H2,e2,hx2,g2,w2⟩:=zii hw 26 21 (by omega) (.row (three ((σ.trail.length:Int),(σ.cells.length:Int),(σ.vars.length:Int))) 83);simp only[e2];obtain⟨H3,k3,e3,g3,-,-,H4,e4,s4,x4⟩:=(h.keep hw hx2).pushed (P:=Tryz.prog) (i:=9) (c1:=1) w2 ap74 rfl rfl (zd8 g2).1 rfl rfl (by simpa using hm);simp only[List.set_cons_zero,List.set_cons_succ,Zp] at e3 e4;have hs4:St H4 B s { σ with marks:=σ.marks++[((σ.trail.length:Int),(σ.cells.length:Int),(σ.vars.length:Int))] }:=⟨_,by simpa [flds] using s4⟩
 clear s4;obtain⟨a0x,c0x,a1x,c1x,a2x,c2x,a3x,c3x,a4x,c4x,a5x,c5x,r6x,r7x,a8x,c8x,a9x,c9x,hx,l0x,l1x,l2x,l3x,l4x,l5x,l6x,l7x,l8x,l9x,b0x,b1x,b2x,b3x,b4x,b5x,b8x,b9x⟩:=hs4.open;have em:IntKind.i64.wrap (((σ.marks.length+1:Nat):Int) - 1)=σ.marks.length:=by rw[z05]<;>simp only[most,maxLen] at*<;> omega
 simp only[Zm,ZN] at l9x
 repeat' (first|refine qZa ?_|(refine qZf ?_)|(refine qZb ?_;simp only[sB,Za,reduceCtorEq,z75,ld74,ln74,z07,z0a,l9x,em])|(refine zcq ?_;simp only[sD,sB,Za,Zb,one,reduceCtorEq,z75,st74,z07,z0a,e3,g3,e4,isAlloc,isRead,z8j]))
 exact z03 rfl (by simp only[sG,Za,reduceCtorEq]) ⟨rfl,hs4,(hx2.sx (hs.lt hw)).trans x4⟩
theorem zd9 {H:Heap}{B s:Nat}{σ:SS}{v:Int}(hs:St H B s σ) (hw:H.wf) :
  EvF Tryz.prog okT 90 [.pointer (some ⟨s,0,none⟩),.int .i64 v] H fun r H'=>r=.int .i64 (if 0<=v/\v < σ.marks.length then 0 else 132) /\
   St H' B s (if 0<=v/\v < σ.marks.length then { σ with marks:=σ.marks.take v.toNat } else σ)/\SX s H H':=by
 refine EvF.enter rfl Tryz.func90 (by decide) rfl ?_
 repeat' (first|refine qZa ?_|(refine qZb ?_;simp only[sB,initTm,Za,reduceCtorEq,cl74]))
 refine(za4 hs).mono ?_;rintro r H' ⟨rfl,rfl⟩;by_cases hv:0<=v/\v < σ.marks.length
 ·obtain⟨n,rfl⟩:=Zk hv.1;obtain⟨a0,c0,a1,c1,a2,c2,a3,c3,a4,c4,a5,c5,r6,r7,a8,c8,a9,c9,h,l0,l1,l2,l3,l4,l5,l6,l7,l8,l9,b0,b1,b2,b3,b4,b5,b8,b9⟩:=hs.open;simp only[if_pos hv];have hn:n<=σ.marks.length:=by omega
  obtain⟨H4,e4,s4,x4⟩:=h.cut (i:=9) (m:=n) hw rfl rfl (by simpa using hn);simp only[List.set_cons_zero,List.set_cons_succ] at e4;have esl:=z55 (P:=Tryz.prog) (H:=H') (t:=74) (e:=83) (s:=3) (a:=a9) (n:=σ.marks.length) (c:=c9) (m:=n) (k:=.i64) sl74 (by have:=b9.1;omega);have g0:=h.obj
  repeat' (first|refine qZa ?_|(refine qZe ?_;try simp only[z00])|(refine qZf ?_)|(refine qZb ?_;simp only[sB,Za,Zb,one,reduceCtorEq,z75,ld74,st74,z07,z0a,l9,esl,g0,e4,z13 rfl])|(refine qZm ?_ ?_;simp only[sB,Za,reduceCtorEq];refine z01 ?_))
  exact z03 rfl (by simp only[sG,Za,reduceCtorEq]) ⟨rfl,⟨_,by simpa [flds] using s4⟩,x4⟩
 ·simp only[if_neg hv];have d9:((132:Int) != 0)=true:=rfl
  repeat' (first|refine qZa ?_|(refine qZf ?_;try simp only[z04,z02])|(refine qZb ?_;simp only[sB,Za,reduceCtorEq,d9])|(refine qZd ?_ ?_;simp only[sB,Za,reduceCtorEq];refine z01 ?_))
  exact z03 rfl (by simp only[sG,Za,reduceCtorEq]) ⟨rfl,hs,SX.refl hw⟩
end Go.Proofs.hq
end

section
namespace Go.Hb
open Go Go.RowKit
section
variable {P:Program}{kt:TypeId}{α:Type}{key:α->Value}{eqb:α->α->Bool}
theorem za5 (h:∀x a,pureRun P (Op.equal kt (key x) (key a))=some (eqb x a)) (x:α):∀(es:List MapEntry) (l:List α) (i:Nat),es.map (·.key)=l.map key ->
  pureRun P (Instr.findAsking kt (key x) (keysOf es) i)=some ((l.findIdx? (eqb x)).map fun j=>(i+j,.bool false))
 |[],[],i,_=>rfl
 |[],_ :: _,_,hk=>by simp at hk
 |_ :: _,[],_,hk=>by simp at hk
 |e :: es,a :: l,i,hk=>by
  simp only[List.map_cons,List.cons.injEq] at hk;have ih:=za5 h x es l (i+1) hk.2;unfold keysOf at ih ⊢;rw[List.map_cons];unfold Instr.findAsking;simp only[hk.1];rw[z09,h,Zs,List.findIdx?_cons];cases hq:eqb x a with
  |true=>rfl
  |false =>
   simp only[Zd,if_false];rw[ih];cases l.findIdx? (eqb x) with
   |none=>rfl
   |some j=>simp only[Option.map_some,Option.some.injEq,Prod.mk.injEq,and_true];omega
structure KeyOf (P:Program) (kt:TypeId) (key:α->Value) (eqb:α->α->Bool):Prop where
 un:∃fs,P.underlying kt=some (.struct fs)
 eq:∀x a,pureRun P (Op.equal kt (key x) (key a))=some (eqb x a)
 chk:∀emp x,pureRun P (Instr.checkKey emp 10000 kt (key x))=some ()
 fl:∀x,flat (key x)=true
theorem zh3 (K:KeyOf P kt key eqb) {emp:Bool}{es:List MapEntry}{l:List α}{x:α}(hk:es.map (·.key)=l.map key):dfind P emp kt (key x) es=some (l.findIdx? (eqb x)):=by
 obtain⟨fs,hu⟩:=K.un;have hu':pureRun P (underlying kt)=some (.struct fs):=z0i hu;have h2:pureRun P (Instr.findKey kt (key x) (keysOf es))=some ((l.findIdx? (eqb x)).map fun j=>(j,.bool false)):=by
  unfold Instr.findKey;rw[z09,hu',Zs];have ha:=za5 K.eq x es l 0 hk
  match es,l,hk with
  |[],[],_=>rfl
  |[],_ :: _,hk=>simp at hk
  |_ :: _,[],hk=>simp at hk
  |e :: es,a :: l,hk =>
   have hn:Instr.findNow (.struct fs) (key x) (keysOf (e :: es)) 0=none:=by
    unfold keysOf;rw[List.map_cons];unfold Instr.findNow;rfl
   rw[hn];simp only[Nat.zero_add] at ha;exact ha
 unfold dfind;rw[K.chk,h2,K.fl];simp only[];cases l.findIdx? (eqb x)<;>rfl
theorem za6 {key:α->Value}:∀(l:List α) (k:Nat),(l.zipIdx k).map (fun p=>key p.1)=l.map key
 |[],_=>rfl
 |a :: l,k=>by rw[List.zipIdx_cons,List.map_cons,List.map_cons,za6 l (k+1)]
theorem zlj {es:List MapEntry}{l:List α}(h:es.map (fun e=>(e.key,e.val))=mapOf key l):es.map (·.key)=l.map key:=by
 have:=congrArg (List.map Prod.fst) h;rw[List.map_map] at this;unfold mapOf at this;rw[List.map_map] at this;have e2:=za6 (key:=key) l 0;exact this.trans e2
theorem ztt {es:List MapEntry}{l:List α}(h:es.map (fun e=>(e.key,e.val))=mapOf key l) {j:Nat}(hj:j < l.length):∃e,es[j]?=some e/\e.val=.int .i64 (j:Nat):=by
 have:=congrArg (·[j]?) h;unfold mapOf at this;simp only[Zj,List.getElem?_zipIdx,Zc hj,Option.map_some,Option.map_eq_some_iff,Prod.mk.injEq] at this;obtain⟨e,h1,h2,h3⟩:=this;exact⟨e,h1,by simpa using h3⟩
section
variable {t:TypeId}{et:TypeId}{H:Heap}{r clock:Nat}{es:List MapEntry}{l:List α}{x:α}
theorem zlk (K:KeyOf P kt key eqb) (ht:P.underlying t=some (.map kt et)) (hz:pureRun P (zeroValue et)=some (.int .i64 0)) (hg:H.get r=some (.map es clock)) (h:es.map (fun e=>(e.key,e.val))=mapOf key l) :
  dLk P t (.map (some r)) (key x) true H=some (.val (.tuple #[.int .i64 (((l.findIdx? (eqb x)).getD 0:Nat):Int),.bool (l.findIdx? (eqb x)).isSome]) H):=by
 have hf:∀emp,dfind P emp kt (key x) es=some (l.findIdx? (eqb x)):=fun emp=>zh3 K (zlj h)
 cases hi:l.findIdx? (eqb x) with
 |none =>
  simp only[dLk,dlookup,ht,hg,hf,hi,hz,flat,if_true];rfl
 |some j =>
  have hj:j < l.length:=(List.findIdx?_eq_some_iff_getElem.1 hi).1;obtain⟨e,h1,h2⟩:=ztt h hj;simp only[dLk,dlookup,ht,hg,hf,hi,h1,h2,if_true];rfl
theorem zll (K:KeyOf P kt key eqb) (ht:P.underlying t=some (.map kt et)) (hg:H.get r=some (.map es clock)) (h:es.map (fun e=>(e.key,e.val))=mapOf key l) (hn:l.findIdx? (eqb x)=none) :
  ∃es' clock',dUp P t (.map (some r)) (key x) (.int .i64 (l.length:Nat)) H=some (.val undef (H.put r (some (.map es' clock'))))/\es'.map (fun e=>(e.key,e.val))=mapOf key (l++[x]):=by
 have hf:dfind P false kt (key x) es=some none:=by rw[zh3 K (zlj h),hn]
 refine⟨es++[{ key:=key x,val:=.int .i64 (l.length:Nat),born:=clock }],clock+1,by simp only[dUp,dupdate,ht,hg,hf],?_⟩;rw[ZK,h];unfold mapOf;rw[List.zipIdx_append,ZK];simp
end
end
end Go.Hb
namespace Go.Proofs.hq
open Go Go.RowKit Go.Hb
variable {ok:Ok}
set_option maxRecDepth 10000
attribute [local irreducible] LX LG EL STG SOP SGO SGD SAL SRD SEF SEG SLK SCK ES
theorem zve:Tryz.prog.stoodInHeld 180=false:=by kernel_rfl
theorem un94:pureRun Tryz.prog (underlying 180)=some (.struct #[{ name := "kind", type:=3,offset:=0,embedded:=false,tag := "", pkgPath := "hornbeam/store", byteOffset:=0 },{ name := "name", type:=9,offset:=1,embedded:=false,tag := "", pkgPath := "hornbeam/store", byteOffset:=8 },
 { name := "num", type:=9,offset:=2,embedded:=false,tag := "", pkgPath := "hornbeam/store", byteOffset:=24 },{ name := "bits", type:=38,offset:=3,embedded:=false,tag := "", pkgPath := "hornbeam/store", byteOffset:=40 }]):=by kernel_rfl
theorem ztu {n:Nat}{cs:Array Value}{v:Value}(h:cs[n]?=some v):pureRun Tryz.prog (part 38 cs n)=some v:=by
 have h1:pureRun Tryz.prog (isAgg 38)=some false:=by kernel_rfl
 unfold part;rw[z09,h1,Zs,h];rfl
theorem zrm {d:Nat}{a b:Int}:pureRun Tryz.prog (Op.equalIn (d+1) 38 (.int .u64 a) (.int .u64 b))=some (a == b):=by
 have hu:pureRun Tryz.prog (underlying 38)=some (.int .u64):=by kernel_rfl
 unfold Op.equalIn;rw[z09,hu,Zs];rfl
def eqFun (x a:ByteArray × Int):Bool:=x.1 == a.1 && x.2 == a.2
def eqCst (x a:Tm):Bool:=x.kind == a.kind && (x.name == a.name && (x.num == a.num && x.bits == a.bits))
theorem zo7 (x a:Tm):pureRun Tryz.prog (Op.equal 180 (ckey x) (ckey a))=some (eqCst x a):=by
 show pureRun Tryz.prog (Op.equalIn (9999+1) _ _ _)=_;unfold Op.equalIn;rw[z09,un94,Zs];simp only[];rw[z09,z3t,Zs,zve];simp only[Zd,if_false];have p1:∀t:Tm,pureRun Tryz.prog (part 3 ⟨[Value.int .i64 t.kind,.string t.name,.string t.num,.int .u64 t.bits]⟩ 0)=some (.int .i64 t.kind):=fun t=>z8t rfl
 have p2:∀t:Tm,pureRun Tryz.prog (part 9 ⟨[Value.int .i64 t.kind,.string t.name,.string t.num,.int .u64 t.bits]⟩ 1)=some (.string t.name):=fun t=>zh2 rfl
 have p3:∀t:Tm,pureRun Tryz.prog (part 9 ⟨[Value.int .i64 t.kind,.string t.name,.string t.num,.int .u64 t.bits]⟩ 2)=some (.string t.num):=fun t=>zh2 rfl
 have p4:∀t:Tm,pureRun Tryz.prog (part 38 ⟨[Value.int .i64 t.kind,.string t.name,.string t.num,.int .u64 t.bits]⟩ 3)=some (.int .u64 t.bits):=fun t=>ztu rfl
 have e1:pureRun Tryz.prog (Op.equalIn 9999 3 (.int .i64 x.kind) (.int .i64 a.kind))=some (x.kind == a.kind):=zbe;have e2:pureRun Tryz.prog (Op.equalIn 9999 9 (.string x.name) (.string a.name))=some (x.name == a.name):=zf2;have e3:pureRun Tryz.prog (Op.equalIn 9999 9 (.string x.num) (.string a.num))=some (x.num == a.num):=zf2;have e4:pureRun Tryz.prog (Op.equalIn 9999 38 (.int .u64 x.bits) (.int .u64 a.bits))=some (x.bits == a.bits):=zrm;have n1:(("kind" : String) ≠ "_")=True:=by simp
 have n2:(("name" : String) ≠ "_")=True:=by simp
 have n3:(("num" : String) ≠ "_")=True:=by simp
 have n4:(("bits" : String) ≠ "_")=True:=by simp
 unfold eqCst;simp only[<-Array.forIn_toList,List.forIn_cons,List.forIn_nil,z09,n1,n2,n3,n4,if_true,p1,e1,Zs];cases h1:x.kind == a.kind with
 |false=>simp [z09,z1j]
 |true =>
  simp only[Zn,Zd,if_false,z09,z1j,Zs,p2,e2,Bool.true_and];cases h2:x.name == a.name with
  |false=>simp [z09,z1j]
  |true =>
   simp only[Zn,Zd,if_false,z09,z1j,Zs,p3,e3,Bool.true_and];cases h3:x.num == a.num with
   |false=>simp [z09,z1j]
   |true =>
    simp only[Zn,Zd,if_false,z09,z1j,Zs,p4,e4,Bool.true_and];cases h4:x.bits == a.bits<;>simp [z09,z1j]
theorem keyK:KeyOf Tryz.prog 116 fkey eqFun:=⟨⟨_,Tryz.underlying116⟩,fun _ _=>zts,fun emp x=>by kernel_rfl,fun x=>rfl⟩
theorem keyT:KeyOf Tryz.prog 180 ckey eqCst:=⟨⟨_,Tryz.underlying180⟩,zo7,fun emp x=>by kernel_rfl,fun x=>rfl⟩
end Go.Proofs.hq
end

section
namespace Go.Hb
open Go Go.RowKit
inductive Der (cells:List (Int × Int)):Nat->Int × Int->Int × Int->Prop
 |stop {c:Int × Int}:c.1≠2->Der cells 0 c c
 |var {c:Int × Int}:c.1=2->0<=c.2->c.2 < cells.length->(ci cells c.2).1=1->Der cells 0 c c
 |go {n:Nat}{c d:Int × Int}:c.1=2->0<=c.2->c.2 < cells.length->(ci cells c.2).1≠1->Der cells n (ci cells c.2) d->Der cells (n+1) c d
end Go.Hb
namespace Go.Proofs.hq
open Go Go.RowKit Go.Hb
variable {ok:Ok}
set_option maxRecDepth 10000
attribute [local irreducible] LX LG EL STG SOP SGO SGD SAL SRD SEF SEG SLK SCK ES
def mayS (σ:SS) (c:Int × Int):Bool :=
 if c.1=3 then decide (0<=c.2/\c.2 < σ.consts.length) else if c.1=2\/c.1=4 then decide ((0<=c.2/\c.2 < σ.cells.length)/\((c.1=2)↔(0<=gi σ.own c.2))/\gi σ.own c.2≠-2) else false
set_option maxHeartbeats 4000000 in
theorem zq1 {H:Heap}{B s:Nat}{σ:SS}{c:Int × Int}(hs:St H B s σ) (hw:H.wf) (ho:σ.own.length=σ.cells.length) :
  EvF Tryz.prog okT 50 [.pointer (some ⟨s,0,none⟩),.agg ⟨two c⟩] H fun r H'=>r=.bool (mayS σ c)/\HX H H':=by
 refine EvF.enter rfl Tryz.func50 (by decide) rfl ?_;(repeat refine qZa ?_);refine qZb ?_;simp only[sB,initTm,dBox,Value.cells,one,reduceCtorEq];obtain⟨H1,e1,hx1,g1,n1,w1⟩:=new1 hw (.row (two c) 42);simp only[e1];have hs1:=hs.keep hw hx1;have q1:=z0l g1;obtain⟨a0,c0,a1,c1,a2,c2,a3,c3,a4,c4,a5,c5,r6,r7,a8,c8,a9,c9,h,l0,l1,l2,l3,l4,l5,l6,l7,l8,l9,b0,b1,b2,b3,b4,b5,b8,b9⟩:=hs1.open;by_cases k3:c.1=3
 ·by_cases h1:c.2 >= 0
  ·have d1:decide (c.2 >= 0)=true:=decide_eq_true h1
   repeat' (first|refine qZa ?_|refine qZg ?_|(refine qZf ?_;try simp only[z04,z02])|(refine qZb ?_;simp only[sB,Za,reduceCtorEq,z0w,ld3,q1,z0v k3])|(refine qZj (id:=3) [([(0,0),(1,0),(2,0),(3,0),(4,0),(5,0),(6,0),(7,0),(8,0),(9,0),(10,0),(11,0),(12,0),(13,0)],none)] ?_ ?_;kernel_rfl;simp only[sD,sB,Za,Zb,reduceCtorEq,ld3,z21,zcv,ld32,ln32,z07,z0a,l4,q1,d1,isAlloc,isRead])|(refine qZd ?_ ?_;simp only[sB,Za,reduceCtorEq];refine z01 ?_))
   refine z03 rfl (by simp only[sB,Za,reduceCtorEq];rfl) ⟨?_,hx1.trans ((HX.refl w1).bump _)⟩;simp [mayS,k3,h1]
  ·have d1:decide (c.2 >= 0)=false:=decide_eq_false h1
   repeat' (first|refine qZa ?_|refine qZg ?_|(refine qZf ?_;try simp only[z04,z02])|(refine qZb ?_;simp only[sB,Za,reduceCtorEq,z0w,ld3,q1,z0v k3])|(refine qZj (id:=3) [([(0,0),(1,0),(2,0),(3,0),(4,0),(5,0),(6,0),(7,0),(8,0),(9,0),(10,0),(11,0),(12,0),(13,0)],none)] ?_ ?_;kernel_rfl;simp only[sD,sB,Za,Zb,reduceCtorEq,ld3,z21,q1,d1,isAlloc,isRead])|(refine qZd ?_ ?_;simp only[sB,Za,reduceCtorEq];refine z01 ?_))
   refine z03 rfl (by simp only[sB,Za,reduceCtorEq];rfl) ⟨?_,hx1.trans ((HX.refl w1).bump _)⟩;simp [mayS,k3,h1]
 by_cases k24:c.1=2\/c.1=4
 ·by_cases h1:c.2 >= 0
  ·have d1:decide (c.2 >= 0)=true:=decide_eq_true h1;by_cases h2:c.2 < σ.cells.length
   ·have d2:decide (c.2 < σ.cells.length)=true:=decide_eq_true h2;obtain⟨n,en⟩:=Zk h1;have hn:n < σ.own.length:=by omega
    obtain⟨b,rfl,o,ld⟩:=h.el1 (i:=1) (k:=n) (x:=int1 (gi σ.own n)) rfl rfl (by rw[Zj,za2 hn];rfl);have hm:mayS σ c=decide (((c.1=2)↔(0<=gi σ.own n))/\gi σ.own n≠-2):=by
     unfold mayS;rw[if_neg k3,if_pos k24,<-en];simp [h1,h2]
    rw[en] at q1 d1 d2;rcases k24 with k2|k4
    ·by_cases h3:gi σ.own n >= 0
     ·have d3:decide (gi σ.own n >= 0)=true:=decide_eq_true h3;have d4:(gi σ.own n != -2)=true:=by simp;omega
      repeat' (first|refine qZa ?_|refine qZg ?_|(refine qZe ?_;try simp only[z00])|(refine qZf ?_;try simp only[z04,z02])|(refine qZb ?_;simp (config:=qZc) only[sB,Za,reduceCtorEq,z0w,ld3,q1,z0h k3,z0v k2])|(refine qZj (id:=6) [([(0,0),(1,0),(2,0),(3,0),(4,0),(5,0),(6,0),(7,0),(8,0),(9,0),(10,0),(11,0),(12,0),(13,0),(14,0),(15,0),(16,0),(17,0),(18,0),(19,0),(20,0),(21,0),(22,0),(23,0),(24,0),(25,0),(26,0),(27,0),(28,0),(29,0),(30,0),(31,0),(32,0),(33,0),(34,0),(35,0),(36,0),(37,0),(38,0),(39,0)],none)] ?_ ?_;kernel_rfl;simp (config:=qZc) (disch:=first|omega|rfl) only[sD,sB,Za,Zb,reduceCtorEq,z0w,ld3,z21,z1n,ld27,ln27,z77,ld28,ia28,z07,z0a,l0,l1,q1,z0v k2,d1,d2,d3,d4,ld,bEqB Tryz.underlying4,beq_self_eq_true,isAlloc,isRead])|(refine qZd ?_ ?_;simp (config:=qZc) only[sB,Za,reduceCtorEq];refine z01 ?_)|(refine qZm ?_ ?_;simp (config:=qZc) only[sB,Za,reduceCtorEq];refine z01 ?_))
      refine z03 rfl (by simp only[sB,Za,reduceCtorEq];rfl) ⟨?_,hx1.trans ((HX.refl w1).bump _)⟩;rw[hm,decide_eq_true ⟨⟨fun _=>h3,fun _=>k2⟩,by omega⟩]
     ·have d3:decide (gi σ.own n >= 0)=false:=decide_eq_false h3;have d4:(true == false)=false:=rfl
      repeat' (first|refine qZa ?_|refine qZg ?_|(refine qZe ?_;try simp only[z00])|(refine qZf ?_;try simp only[z04,z02])|(refine qZb ?_;simp (config:=qZc) only[sB,Za,reduceCtorEq,z0w,ld3,q1,z0h k3,z0v k2])|(refine qZj (id:=6) [([(0,0),(1,0),(2,0),(3,0),(4,0),(5,0),(6,0),(7,0),(8,0),(9,0),(10,0),(11,0),(12,0),(13,0),(14,0),(15,0),(16,0),(17,0),(18,0),(19,0),(20,0),(21,0),(22,0),(23,0),(24,0),(25,0),(26,0),(27,0),(28,0),(29,0),(30,0),(31,0),(32,0),(33,0),(34,0),(35,0),(36,0),(37,0),(38,0),(39,0)],none)] ?_ ?_;kernel_rfl;simp (config:=qZc) (disch:=first|omega|rfl) only[sD,sB,Za,Zb,reduceCtorEq,z0w,ld3,z21,z1n,ld27,ln27,z77,ld28,ia28,z07,z0a,l0,l1,q1,z0v k2,d1,d2,d3,d4,ld,bEqB Tryz.underlying4,Zd,isAlloc,isRead])|(refine qZd ?_ ?_;simp (config:=qZc) only[sB,Za,reduceCtorEq];refine z01 ?_)|(refine qZm ?_ ?_;simp (config:=qZc) only[sB,Za,reduceCtorEq];refine z01 ?_))
      refine z03 rfl (by simp only[sB,Za,reduceCtorEq];rfl) ⟨?_,hx1.trans ((HX.refl w1).bump _)⟩;rw[hm,decide_eq_false (fun q=>h3 (q.1.1 k2))]
    ·have k2:¬c.1=2:=by omega
     by_cases h3:gi σ.own n >= 0
     ·have d3:decide (gi σ.own n >= 0)=true:=decide_eq_true h3;have d4:(false == true)=false:=rfl
      repeat' (first|refine qZa ?_|refine qZg ?_|(refine qZf ?_;try simp only[z04,z02])|(refine qZb ?_;simp (config:=qZc) only[sB,Za,reduceCtorEq,z0w,ld3,q1,z0h k3,z0h k2,z0v k4])|(refine qZj (id:=6) [([(0,0),(1,0),(2,0),(3,0),(4,0),(5,0),(6,0),(7,0),(8,0),(9,0),(10,0),(11,0),(12,0),(13,0),(14,0),(15,0),(16,0),(17,0),(18,0),(19,0),(20,0),(21,0),(22,0),(23,0),(24,0),(25,0),(26,0),(27,0),(28,0),(29,0),(30,0),(31,0),(32,0),(33,0),(34,0),(35,0),(36,0),(37,0),(38,0),(39,0)],none)] ?_ ?_;kernel_rfl;simp (config:=qZc) (disch:=first|omega|rfl) only[sD,sB,Za,Zb,reduceCtorEq,z0w,ld3,z21,z1n,ld27,ln27,z77,ld28,ia28,z07,z0a,l0,l1,q1,z0h k2,d1,d2,d3,d4,ld,bEqB Tryz.underlying4,Zd,isAlloc,isRead])|(refine qZd ?_ ?_;simp (config:=qZc) only[sB,Za,reduceCtorEq];refine z01 ?_)|(refine qZm ?_ ?_;simp (config:=qZc) only[sB,Za,reduceCtorEq];refine z01 ?_))
      refine z03 rfl (by simp only[sB,Za,reduceCtorEq];rfl) ⟨?_,hx1.trans ((HX.refl w1).bump _)⟩;rw[hm,decide_eq_false (fun q=>k2 (q.1.2 h3))]
     ·have d3:decide (gi σ.own n >= 0)=false:=decide_eq_false h3;have d4:(false == false)=true:=rfl;by_cases h4:gi σ.own n=-2
      ·have d5:(gi σ.own n != -2)=false:=by simp [h4]
       repeat' (first|refine qZa ?_|refine qZg ?_|(refine qZf ?_;try simp only[z04,z02])|(refine qZb ?_;simp (config:=qZc) only[sB,Za,reduceCtorEq,z0w,ld3,q1,z0h k3,z0h k2,z0v k4])|(refine qZj (id:=6) [([(0,0),(1,0),(2,0),(3,0),(4,0),(5,0),(6,0),(7,0),(8,0),(9,0),(10,0),(11,0),(12,0),(13,0),(14,0),(15,0),(16,0),(17,0),(18,0),(19,0),(20,0),(21,0),(22,0),(23,0),(24,0),(25,0),(26,0),(27,0),(28,0),(29,0),(30,0),(31,0),(32,0),(33,0),(34,0),(35,0),(36,0),(37,0),(38,0),(39,0)],none)] ?_ ?_;kernel_rfl;simp (config:=qZc) (disch:=first|omega|rfl) only[sD,sB,Za,Zb,reduceCtorEq,z0w,ld3,z21,z1n,ld27,ln27,z77,ld28,ia28,z07,z0a,l0,l1,q1,z0h k2,d1,d2,d3,d4,d5,ld,bEqB Tryz.underlying4,isAlloc,isRead])|(refine qZd ?_ ?_;simp (config:=qZc) only[sB,Za,reduceCtorEq];refine z01 ?_)|(refine qZm ?_ ?_;simp (config:=qZc) only[sB,Za,reduceCtorEq];refine z01 ?_))
       refine z03 rfl (by simp only[sB,Za,reduceCtorEq];rfl) ⟨?_,hx1.trans ((HX.refl w1).bump _)⟩;rw[hm,decide_eq_false (fun q=>q.2 h4)]
      ·have d5:(gi σ.own n != -2)=true:=by simp [h4]
       repeat' (first|refine qZa ?_|refine qZg ?_|(refine qZf ?_;try simp only[z04,z02])|(refine qZb ?_;simp (config:=qZc) only[sB,Za,reduceCtorEq,z0w,ld3,q1,z0h k3,z0h k2,z0v k4])|(refine qZj (id:=6) [([(0,0),(1,0),(2,0),(3,0),(4,0),(5,0),(6,0),(7,0),(8,0),(9,0),(10,0),(11,0),(12,0),(13,0),(14,0),(15,0),(16,0),(17,0),(18,0),(19,0),(20,0),(21,0),(22,0),(23,0),(24,0),(25,0),(26,0),(27,0),(28,0),(29,0),(30,0),(31,0),(32,0),(33,0),(34,0),(35,0),(36,0),(37,0),(38,0),(39,0)],none)] ?_ ?_;kernel_rfl;simp (config:=qZc) (disch:=first|omega|rfl) only[sD,sB,Za,Zb,reduceCtorEq,z0w,ld3,z21,z1n,ld27,ln27,z77,ld28,ia28,z07,z0a,l0,l1,q1,z0h k2,d1,d2,d3,d4,d5,ld,bEqB Tryz.underlying4,isAlloc,isRead])|(refine qZd ?_ ?_;simp (config:=qZc) only[sB,Za,reduceCtorEq];refine z01 ?_)|(refine qZm ?_ ?_;simp (config:=qZc) only[sB,Za,reduceCtorEq];refine z01 ?_))
       refine z03 rfl (by simp only[sB,Za,reduceCtorEq];rfl) ⟨?_,hx1.trans ((HX.refl w1).bump _)⟩;rw[hm,decide_eq_true ⟨⟨fun q=>absurd q k2,fun q=>absurd q h3⟩,h4⟩]
   ·have d2:decide (c.2 < σ.cells.length)=false:=decide_eq_false h2;have hm:mayS σ c=false:=by
     unfold mayS;rw[if_neg k3,if_pos k24];exact decide_eq_false fun q=>h2 q.1.2
    rcases k24 with k2|k4
    ·repeat' (first|refine qZa ?_|refine qZg ?_|(refine qZe ?_;try simp only[z00])|(refine qZf ?_;try simp only[z04,z02])|(refine qZb ?_;simp only[sB,Za,reduceCtorEq,z0w,ld3,q1,z0h k3,z0v k2])|(refine qZj (id:=6) [([(0,0),(1,0),(2,0),(3,0),(4,0),(5,0),(6,0),(7,0),(8,0),(9,0),(10,0),(11,0),(12,0),(13,0),(14,0),(15,0),(16,0),(17,0),(18,0),(19,0),(20,0),(21,0),(22,0),(23,0),(24,0),(25,0),(26,0),(27,0),(28,0),(29,0),(30,0),(31,0),(32,0),(33,0),(34,0),(35,0),(36,0),(37,0),(38,0),(39,0)],none)] ?_ ?_;kernel_rfl;simp only[sD,sB,Za,Zb,reduceCtorEq,ld3,z21,z1n,ld27,ln27,z07,z0a,l0,q1,d1,d2,Zd,isAlloc,isRead])|(refine qZd ?_ ?_;simp only[sB,Za,reduceCtorEq];refine z01 ?_)|(refine qZm ?_ ?_;simp only[sB,Za,reduceCtorEq];refine z01 ?_))
     exact z03 rfl (by simp only[sB,Za,reduceCtorEq];rfl) ⟨by rw[hm],hx1.trans ((HX.refl w1).bump _)⟩
    ·have k2:¬c.1=2:=by omega
     repeat' (first|refine qZa ?_|refine qZg ?_|(refine qZf ?_;try simp only[z04,z02])|(refine qZb ?_;simp only[sB,Za,reduceCtorEq,z0w,ld3,q1,z0h k3,z0h k2,z0v k4])|(refine qZj (id:=6) [([(0,0),(1,0),(2,0),(3,0),(4,0),(5,0),(6,0),(7,0),(8,0),(9,0),(10,0),(11,0),(12,0),(13,0),(14,0),(15,0),(16,0),(17,0),(18,0),(19,0),(20,0),(21,0),(22,0),(23,0),(24,0),(25,0),(26,0),(27,0),(28,0),(29,0),(30,0),(31,0),(32,0),(33,0),(34,0),(35,0),(36,0),(37,0),(38,0),(39,0)],none)] ?_ ?_;kernel_rfl;simp only[sD,sB,Za,Zb,reduceCtorEq,ld3,z21,z1n,ld27,ln27,z07,z0a,l0,q1,d1,d2,Zd,isAlloc,isRead])|(refine qZd ?_ ?_;simp only[sB,Za,reduceCtorEq];refine z01 ?_)|(refine qZm ?_ ?_;simp only[sB,Za,reduceCtorEq];refine z01 ?_))
     exact z03 rfl (by simp only[sB,Za,reduceCtorEq];rfl) ⟨by rw[hm],hx1.trans ((HX.refl w1).bump _)⟩
  ·have d1:decide (c.2 >= 0)=false:=decide_eq_false h1;have hm:mayS σ c=false:=by
    unfold mayS;rw[if_neg k3,if_pos k24];exact decide_eq_false fun q=>h1 q.1.1
   rcases k24 with k2|k4
   ·repeat' (first|refine qZa ?_|refine qZg ?_|(refine qZe ?_;try simp only[z00])|(refine qZf ?_;try simp only[z04,z02])|(refine qZb ?_;simp only[sB,Za,reduceCtorEq,z0w,ld3,q1,z0h k3,z0v k2])|(refine qZj (id:=6) [([(0,0),(1,0),(2,0),(3,0),(4,0),(5,0),(6,0),(7,0),(8,0),(9,0),(10,0),(11,0),(12,0),(13,0),(14,0),(15,0),(16,0),(17,0),(18,0),(19,0),(20,0),(21,0),(22,0),(23,0),(24,0),(25,0),(26,0),(27,0),(28,0),(29,0),(30,0),(31,0),(32,0),(33,0),(34,0),(35,0),(36,0),(37,0),(38,0),(39,0)],none)] ?_ ?_;kernel_rfl;simp only[sD,sB,Za,Zb,reduceCtorEq,ld3,z21,q1,d1,Zd,isAlloc,isRead])|(refine qZd ?_ ?_;simp only[sB,Za,reduceCtorEq];refine z01 ?_)|(refine qZm ?_ ?_;simp only[sB,Za,reduceCtorEq];refine z01 ?_))
    exact z03 rfl (by simp only[sB,Za,reduceCtorEq];rfl) ⟨by rw[hm],hx1.trans ((HX.refl w1).bump _)⟩
   ·have k2:¬c.1=2:=by omega
    repeat' (first|refine qZa ?_|refine qZg ?_|(refine qZf ?_;try simp only[z04,z02])|(refine qZb ?_;simp only[sB,Za,reduceCtorEq,z0w,ld3,q1,z0h k3,z0h k2,z0v k4])|(refine qZj (id:=6) [([(0,0),(1,0),(2,0),(3,0),(4,0),(5,0),(6,0),(7,0),(8,0),(9,0),(10,0),(11,0),(12,0),(13,0),(14,0),(15,0),(16,0),(17,0),(18,0),(19,0),(20,0),(21,0),(22,0),(23,0),(24,0),(25,0),(26,0),(27,0),(28,0),(29,0),(30,0),(31,0),(32,0),(33,0),(34,0),(35,0),(36,0),(37,0),(38,0),(39,0)],none)] ?_ ?_;kernel_rfl;simp only[sD,sB,Za,Zb,reduceCtorEq,ld3,z21,q1,d1,Zd,isAlloc,isRead])|(refine qZd ?_ ?_;simp only[sB,Za,reduceCtorEq];refine z01 ?_)|(refine qZm ?_ ?_;simp only[sB,Za,reduceCtorEq];refine z01 ?_))
    exact z03 rfl (by simp only[sB,Za,reduceCtorEq];rfl) ⟨by rw[hm],hx1.trans ((HX.refl w1).bump _)⟩
 ·have k2:¬c.1=2:=fun q=>k24 (.inl q)
  have k4:¬c.1=4:=fun q=>k24 (.inr q)
  have hm:mayS σ c=false:=by
   unfold mayS;rw[if_neg k3,if_neg k24]
  repeat' (first|refine qZa ?_|refine qZg ?_|(refine qZe ?_;try simp only[sA])|(refine qZf ?_)|(refine qZb ?_;simp only[sB,Za,reduceCtorEq,z0w,ld3,q1,z0h k3,z0h k2,z0h k4])|(refine qZm ?_ ?_;simp only[sB,Za,reduceCtorEq];refine z01 ?_))
  exact z03 rfl (by simp only[sB,Za,reduceCtorEq];rfl) ⟨by rw[hm],hx1⟩
end Go.Proofs.hq
end

section
namespace Go.Hb
open Go Go.RowKit
theorem zo8 {H:Heap}(hw:H.wf) (n i:Nat) (hi:i < n) (A D:Blk):∃H2,(Heap.put ⟨H.next+n,H.t⟩ (H.next+i) (some A)).put (H.next+i) (some D)=H2/\HX H H2/\H2.get (H.next+i)=some D/\H2.wf:=by
 have hx:=(((HX.refl hw).bump n).put (i:=H.next+i) (Nat.le_add_right _ _) (show H.next+i < H.next+n by omega) (some A)).put (i:=H.next+i) (Nat.le_add_right _ _) (show H.next+i < H.next+n by omega) (some D);exact⟨_,rfl,hx,by rw[get_put,if_pos rfl],hx.wf⟩
end Go.Hb
namespace Go.Proofs.hq
open Go Go.RowKit Go.Hb
variable {ok:Ok}
set_option maxRecDepth 10000
attribute [local irreducible] LX LG EL STG SOP SGO SGD SAL SRD SEF SEG SLK SCK ES
set_option maxHeartbeats 4000000 in
theorem zh4 {H:Heap}{B s:Nat}{σ:SS}{m:Nat}{c d:Int × Int}(hs:St H B s σ) (hw:H.wf) (hd:Der σ.cells m c d) :
  EvF Tryz.prog okT 91 [.pointer (some ⟨s,0,none⟩),.agg ⟨two c⟩] H fun r H'=>r=.agg ⟨two d⟩/\HX H H':=by
 refine EvF.enter rfl Tryz.func91 (by decide) rfl ?_;(repeat refine qZa ?_);refine qZb ?_;simp (disch:=first|omega|rfl) only[sB,initTm,dBox,dAlloc,Value.cells,one,reduceCtorEq,zr42];obtain⟨H1,e1,hx1,g1,g1',n1,w1⟩:=new2 hw (.row (two c) 42) (.row (two (0,0)) 42);simp only[e1];refine qZg ?_;refine qZk (fun k st=>∃tm H' e,st=⟨tm,[],H'⟩/\tm.get 0=some (.pointer (some ⟨s,0,none⟩))/\tm.get 3=some (.pointer (some ⟨H.next,0,none⟩))/\tm.get 4=some (.pointer (some ⟨H.next+1,0,none⟩)) /\
   Der σ.cells k e d/\HX H H'/\H'.get H.next=some (.row (two e) 42)/\H'.get (H.next+1)=some (.row (two (0,0)) 42)) ?_ m _ ?_
 ·rintro k st ⟨tm,H',e,rfl,t0,t3,t4,hd',hx',g3,g4⟩;have q3:=z0l g3;have hs':=hs.keep hw hx';obtain⟨a0,c0,a1,c1,a2,c2,a3,c3,a4,c4,a5,c5,r6,r7,a8,c8,a9,c9,h,l0,l1,l2,l3,l4,l5,l6,l7,l8,l9,b0,b1,b2,b3,b4,b5,b8,b9⟩:=hs'.open;cases hd' with
  |stop k2 =>
   repeat' (first|refine qZa ?_|refine qZg ?_|(refine qZe ?_;try simp only[z00])|(refine qZi ?_;try simp only[sB,Za,reduceCtorEq])|(refine qZf ?_;try simp only[z04,z02])|(refine qZb ?_;simp (disch:=first|omega|rfl) only[sB,Za,Zb,one,z0w,ld3,ld42,st42,t3,t4,q3,g4,z0h k2])|(refine qZm ?_ ?_;simp only[sB,Za];refine z01 ?_))
   exact z0s rfl (by simp only[sB,Za,t4];rfl) (by simp only[sB,Zb,cutC,ld42]) ⟨rfl,hx'.pt (by omega) g4 _⟩
  |var k2 h1 h2 h3 =>
   obtain⟨n,en⟩:=Zk h1;have hn:n < σ.cells.length:=by omega
   rw[en] at h3;obtain⟨b,rfl,o,ld⟩:=h.el (i:=0) (k:=n) (x:=two (ci σ.cells n)) rfl rfl (by rw[Zj,z35 hn];rfl);rw[en] at q3;obtain⟨H2,e2,hx2,g2,w2⟩:=zo8 hx'.wf 10 8 (by omega) (.row [.int .i64 0,.int .i64 0] 42) (.row (two (ci σ.cells n)) 42);have q2:=z0l g2;have g4':=hx2.get hx'.wf g4;have q3':=z0l (hx2.get hx'.wf g3);rw[en] at q3'
   repeat' (first|refine qZa ?_|refine qZg ?_|(refine qZe ?_;try simp only[sA])|(refine qZi ?_;try simp only[sB,Za,reduceCtorEq])|(refine qZf ?_;try simp only[z04,z02])|(refine qZb ?_;simp (disch:=first|omega|rfl) only[sB,Za,Zb,one,z0w,ld3,ld42,st42,t3,t4,q3,q3',g4',q2,z0v k2,z13 h3])|(refine qZj [([(0,0),(1,0),(2,0),(3,0),(4,0),(5,0),(6,0),(7,0),(8,0)],some 9),([],none)] ?_ ?_;kernel_rfl;simp (disch:=first|omega|rfl) only[sD,sB,dAlloc,Za,Zb,one,reduceCtorEq,zr42,ld3,z1n,ld27,z21,ia27,ld42,st42,z07,z0a,t0,t3,q3,l0,ld,e2,isAlloc,isRead,dalloc])|(refine qZd ?_ ?_;simp only[sB,Za];refine z01 ?_)|(refine qZm ?_ ?_;simp only[sB,Za];refine z01 ?_))
   refine z0s rfl (by simp only[sB,Za,t4];rfl) (by simp only[sB,Zb,cutC,ld42];rfl) ⟨?_,(hx'.trans hx2).pt (by omega) g4' _⟩;rw[<-en]
  |go k2 h1 h2 h3 hd2 =>
   obtain⟨n,en⟩:=Zk h1;have hn:n < σ.cells.length:=by omega
   rw[en] at h3 hd2;obtain⟨b,rfl,o,ld⟩:=h.el (i:=0) (k:=n) (x:=two (ci σ.cells n)) rfl rfl (by rw[Zj,z35 hn];rfl);rw[en] at q3;obtain⟨H2,e2,hx2,g2,w2⟩:=zo8 hx'.wf 10 8 (by omega) (.row [.int .i64 0,.int .i64 0] 42) (.row (two (ci σ.cells n)) 42);have q2:=z0l g2;have g4':=hx2.get hx'.wf g4;have g3':=hx2.get hx'.wf g3;have q3':=z0l g3';rw[en] at q3'
   repeat' (first|refine qZa ?_|refine qZg ?_|(refine qZi ?_;try simp only[sB,Za,reduceCtorEq])|(refine qZb ?_;simp (disch:=first|omega|rfl) only[sB,Za,Zb,one,z0w,ld3,ld42,st42,t3,q3,g3',q2,z0v k2,z29 h3])|(refine qZj [([(0,0),(1,0),(2,0),(3,0),(4,0),(5,0),(6,0),(7,0),(8,0)],some 9),([],none)] ?_ ?_;kernel_rfl;simp (disch:=first|omega|rfl) only[sD,sB,dAlloc,Za,Zb,one,reduceCtorEq,zr42,ld3,z1n,ld27,z21,ia27,ld42,st42,z07,z0a,t0,t3,q3,l0,ld,e2,isAlloc,isRead,dalloc])|(refine qZd ?_ ?_;simp only[sB,Za];refine z01 ?_))
   have hx3:=(hx'.trans hx2).pt (by omega) g3' (some (.row (two (ci σ.cells n)) 42));refine⟨_,Zf _,_,_,ci σ.cells n,rfl,(by simp only[sG,reduceCtorEq,t0]),(by simp only[sG,Za,t3]),(by simp only[sG,Za,t4]),hd2,hx3,by rw[get_put,if_pos rfl],by rw[get_put,if_neg (by omega)];exact g4'⟩
 ·exact⟨_,_,c,rfl,(by simp only[sG,reduceCtorEq]),(by simp only[sG,Za,reduceCtorEq]),(by simp only[sG,Za,reduceCtorEq]),hd,hx1,g1,g1'⟩
set_option maxHeartbeats 4000000 in
theorem z3v {H:Heap}{B s:Nat}{σ:SS}{c:Int × Int}(hs:St H B s σ) (hw:H.wf) (ho:σ.own.length=σ.cells.length) (hd:mayS σ c=true->∃m d,Der σ.cells m c d) :
  EvF Tryz.prog okT 64 [.pointer (some ⟨s,0,none⟩),.agg ⟨two c⟩] H fun r H'=>∃d e,r=.tuple ⟨[.agg ⟨two d⟩,.int .i64 e]⟩/\(if mayS σ c=true then e=0/\∃m,Der σ.cells m c d else e=130/\d=(0,0))/\HX H H':=by
 refine EvF.enter rfl Tryz.func64 (by decide) rfl ?_;(repeat refine qZa ?_);refine qZb ?_;simp only[sB,initTm,dBox,dAlloc,Value.cells,one,reduceCtorEq,zr42];obtain⟨H1,e1,hx1,g1,g1',n1,w1⟩:=new2 hw (.row (two c) 42) (.row (two (0,0)) 42);simp only[e1];have q1:=z0l g1
 repeat' (first|refine qZa ?_|refine qZg ?_|(refine qZb ?_;simp only[sB,Za,reduceCtorEq,ld42,cl50,bEqP,q1])|(refine qZm ?_ ?_;simp only[sB,Za,reduceCtorEq];refine z01 ?_))
 refine(zq1 (hs.keep hw hx1) w1 ho).mono ?_;rintro r H2 ⟨rfl,hx2⟩;have q2:=z0l (hx2.get w1 g1);have g2':=hx2.get w1 g1';by_cases hm:mayS σ c=true
 ·obtain⟨m,d,hd'⟩:=hd hm;rw[hm]
  repeat' (first|refine qZa ?_|(refine qZe ?_;try simp only[sA])|(refine qZb ?_;simp only[sB,Za,reduceCtorEq,ld42,cl91,q2])|(refine z0f ?_;simp only[sB,Za,reduceCtorEq,Zn])|(refine qZm ?_ ?_;simp only[sB,Za,reduceCtorEq];refine z01 ?_))
  refine(zh4 (hs.keep hw (hx1.trans hx2)) hx2.wf hd').mono ?_;rintro r H3 ⟨rfl,hx3⟩;have g3':=hx3.get hx2.wf g2'
  repeat' (first|(refine qZf ?_)|(refine z0f ?_;simp only[sB,Zb,one,st42,g3']))
  refine z0d rfl (by simp only[sB,Za,reduceCtorEq];rfl) (by simp only[sB,Zb,cutC,ld42]) (by simp only[sG,Za,reduceCtorEq]) ⟨d,0,rfl,⟨rfl,m,hd'⟩,((hx1.trans hx2).trans hx3).pt (by omega) g3' _⟩
 ·rw[ZE] at hm;rw[hm]
  repeat' (first|refine qZa ?_|(refine qZf ?_;try simp only[z04,z02])|(refine qZb ?_;simp only[sB,Za,Zb,Value.cells,one,reduceCtorEq,layC,bd42,st42,g2'])|(refine z0f ?_;simp only[sB,Za,reduceCtorEq,Zw])|(refine qZd ?_ ?_;simp only[sB,Za,reduceCtorEq];refine z01 ?_))
  refine z0d rfl (by simp only[sB,Za,reduceCtorEq];rfl) (by simp only[sB,Zb,cutC,ld42]) (by simp only[sG,Za,reduceCtorEq]) ⟨(0,0),130,rfl,⟨rfl,rfl⟩,(hx1.trans hx2).pt (by omega) g2' _⟩
def freeS (σ:SS) (v:Int):Int:=if okV σ v then (if (ci σ.cells (gi σ.vars v)).1=1 then 0 else 133) else 133
def VarB (σ:SS):Prop:=∀n:Nat,n < σ.vars.length->gi σ.vars n < σ.cells.length
set_option maxHeartbeats 4000000 in
theorem zrn {H:Heap}{B s:Nat}{σ:SS}{v:Int}(hs:St H B s σ) (hb:VarB σ):EvF Tryz.prog okT 71 [.pointer (some ⟨s,0,none⟩),.int .i64 v] H fun r H'=>r=.int .i64 (freeS σ v)/\H'=H:=by
 obtain⟨a0,c0,a1,c1,a2,c2,a3,c3,a4,c4,a5,c5,r6,r7,a8,c8,a9,c9,h,l0,l1,l2,l3,l4,l5,l6,l7,l8,l9,b0,b1,b2,b3,b4,b5,b8,b9⟩:=hs.open;refine EvF.enter rfl Tryz.func71 (by decide) rfl ?_
 repeat' (first|refine qZa ?_|(refine qZb ?_;simp only[sB,initTm,Za,reduceCtorEq,cl38]))
 refine(zrj hs).mono ?_;rintro r H' ⟨rfl,rfl⟩;by_cases hv:okV σ v
 ·obtain⟨n,en⟩:=Zk hv.1;have hn:n < σ.vars.length:=by have:=hv.2.1;omega
  obtain⟨k,ek⟩:=Zk hv.2.2;have hk:k < σ.cells.length:=by have:=hb n hn;rw[<-en,ek] at this;omega
  obtain⟨b,rfl,o,ld⟩:=h.el (i:=0) (k:=k) (x:=two (ci σ.cells k)) rfl rfl (by rw[Zj,z35 hk];rfl);have l1':H'.load ⟨b,k*2,none⟩ 1=some [.int .i64 (ci σ.cells k).1]:=o.part (i:=k) (j:=0) (n:=1) (x:=two (ci σ.cells k)) (by rw[Zj,z35 hk];rfl) (by omega);simp only[if_pos hv,ek];by_cases h1:(ci σ.cells k).1=1
  ·repeat' (first|refine qZa ?_|(refine qZe ?_;try simp only[z00])|(refine qZf ?_)|(refine qZb ?_;simp (disch:=first|omega|rfl) only[sB,Za,reduceCtorEq,z1n,ld27,ia27,z0w,ld3,z07,z0a,l0,l1',z0v rfl,z13 h1])|(refine z0f ?_;simp only[sB,Za,reduceCtorEq])|(refine qZm ?_ ?_;simp only[sB,Za,reduceCtorEq];refine z01 ?_))
   refine z03 rfl (by simp only[sB,Za,reduceCtorEq];rfl) ⟨?_,rfl⟩;rw[freeS,if_pos hv,ek,if_pos h1]
  ·repeat' (first|refine qZa ?_|(refine qZf ?_;try simp only[z04,z02])|(refine qZb ?_;simp (disch:=first|omega|rfl) only[sB,Za,reduceCtorEq,z1n,ld27,ia27,z0w,ld3,z07,z0a,l0,l1',z0v rfl,z29 h1])|(refine z0f ?_;simp only[sB,Za,reduceCtorEq])|(refine qZd ?_ ?_;simp only[sB,Za,reduceCtorEq];refine z01 ?_))
   refine z03 rfl (by simp only[sB,Za,reduceCtorEq];rfl) ⟨?_,rfl⟩;rw[freeS,if_pos hv,ek,if_neg h1]
 ·simp only[if_neg hv];have d9:((133:Int) == 0)=false:=rfl
  repeat' (first|refine qZa ?_|(refine qZe ?_;try simp only[z00])|(refine qZf ?_)|(refine qZb ?_;simp only[sB,Za,reduceCtorEq,d9,Zd])|(refine z0f ?_;simp only[sB,Za,reduceCtorEq])|(refine qZm ?_ ?_;simp only[sB,Za,reduceCtorEq];refine z01 ?_))
  refine z03 rfl (by simp only[sB,Za,reduceCtorEq];rfl) ⟨?_,rfl⟩;rw[freeS,if_neg hv]
end Go.Proofs.hq
end

section
namespace Go.Hb
open Go Go.RowKit
section
variable {P:Program}{ok:Ok}{x:Ctx}{ops:Array Oper}{base:Nat}
theorem EvS.mono {K K':St->Prop}(hk:∀st,K st->K' st):∀(S:List (List (Nat × Nat) × Option Nat)) (hs:List Heap) (tm:Tr Value) (ds:List Deferred),EvS P ok x ops base S hs tm ds K->EvS P ok x ops base S hs tm ds K'
 |[],_,_,_,h=>h
 |(L,none) :: _,hs,tm,ds,h=>by
  obtain⟨G,gs,e,h⟩:=h;exact⟨G,gs,e,h.mono (fun _ _ q=>hk _ q)⟩
 |(L,some e) :: S,hs,tm,ds,h=>by
  obtain⟨G,gs,o,e,ho,h⟩:=h;refine⟨G,gs,o,e,ho,h.mono (fun tm1 H1 q=>?_)⟩;rcases q with ⟨hw,q⟩|⟨hw,q⟩
  ·exact .inl ⟨hw,EvS.mono hk S _ _ _ q⟩
  ·exact .inr ⟨hw,q.mono fun v ds1 H2 q=>EvS.mono hk S _ _ _ q⟩
def stgs (ops:Array Oper) (es:List Nat) (done:Nat):List (List (Nat × Nat) × Option Nat) :=
 (schedGo ops.size (Region.before ops) (effsOf ops) es done).map fun p=>(p.1.map fun i=>(i,effsIn (effsOf ops) ((Region.before ops).getD i 0)),p.2)
theorem zda {K:St->Prop}{b:Array Nat}{effs:List Nat}{e:Nat}{es:List Nat}{done:Nat}{hs:List Heap}{tm:Tr Value}{ds:List Deferred}(ht:noTwin b es=true)
  (h:EvS P ok x ops base ((schedGo ops.size b effs (e :: es) done).map fun p=>(p.1.map fun i=>(i,effsIn effs (b.getD i 0)),p.2)) hs tm ds K) :
  Upon (fun n=>dstage P ok n x ops b effs base (e :: es) done hs tm ds) K:=by
 obtain⟨G,gs,o,rfl,ho,h⟩:=h;have ho':ops[e]?=some o:=by simpa using ho
 obtain⟨tm1,H1,en,hk⟩:=z42 _ _ _ h;rcases hk with ⟨hw,hk⟩|⟨hw,hk⟩
 ·refine Upon.go (fun n=>?_) (z5y es _ _ _ ds ht hk);rw[dstage];simp only at en;simp only[en,ho',hw];cases o.dst<;>rfl
 ·refine Upon.step (fun n r=>match r with|.val v ds1 H2=>ddraw P ok n x ops b effs base es (done ||| b.getD e 0 ||| 2 ^ e) (H2 :: G :: gs) (putD tm1 o.dst v) ds1|_=>none) (fun n r hr=>?_) hk ?_
  ·rw[dstage];simp only at en;simp only[en,ho',hw,hr];cases r<;>cases o.dst<;>rfl
  ·rintro r ⟨v,ds1,H2,rfl,hk⟩;exact z5y es _ _ _ ds1 ht hk
theorem z79:∀(L:List Value),(∀v∈L,cellEq v v=true)->cellsEq L L=true
 |[],_=>rfl
 |v :: L,h=>by rw[cellsEq,h v (by simp),z79 L fun u hu=>h u (by simp [hu])];rfl
theorem z8u {L:List Value}{e:TypeId}(h:∀v∈L,cellEq v v=true):blkEq (some (.row L e)) (some (.row L e))=true:=by
 show (Zt e e && cellsEq L L)=true;rw[z79 L h,Nat.beq_refl];rfl
theorem zo9 {p q:Nat}{st st':St}(ht:(ops.toList.all fun o=>match o.dst with|some d=>slotEq (st.tm.get d) (st'.tm.get d)|none=>true)=true) (hH:∀n,st'.H.get n=st.H.get n)
  (hp:blkEq (st.H.get p) (st.H.get p)=true) (hq:blkEq (st.H.get q) (st.H.get q)=true) (hb:∀i,i < ops.size->blkEq (st.H.get (base+i)) (st.H.get (base+i))=true):agree ops base p q st st'=true:=by
 unfold agree;simp only[hH];refine Bool.and_eq_true_iff.2 ⟨Bool.and_eq_true_iff.2 ⟨Bool.and_eq_true_iff.2 ⟨ht,hp⟩,hq⟩,?_⟩;rw[List.all_eq_true];intro i hi;exact hb i (List.mem_range.1 hi)
def stB (ops:Array Oper) (e:Nat) (tm:Tr Value):Option Nat:=match ops[e]? with
 |some o=>stBlk o (ev tm)
 |none=>none
theorem zro {K:St->Prop}{b:Array Nat}{effs:List Nat}{e f:Nat}{done p q:Nat}{G:Heap}{gs:List Heap}{tm:Tr Value}{ds:List Deferred}(ht:twin b [e,f]=some (e,f))
  (hp:EvN P ops base (G :: gs) ((pending (Zg ops.size) effs (b.getD e 0) done).map fun i=>(i,effsIn effs (b.getD i 0))) tm G fun t _=>stB ops e t=some p)
  (hq:EvN P ops base (G :: gs) ((pending (Zg ops.size) effs (b.getD f 0) done).map fun i=>(i,effsIn effs (b.getD i 0))) tm G fun t _=>stB ops f t=some q)
  (h:EvS P ok x ops base ((schedGo ops.size b effs [e,f] done).map fun p=>(p.1.map fun i=>(i,effsIn effs (b.getD i 0)),p.2)) (G :: gs) tm ds fun st =>
   EvS P ok x ops base ((schedGo ops.size b effs [f,e] done).map fun p=>(p.1.map fun i=>(i,effsIn effs (b.getD i 0)),p.2)) (G :: gs) tm ds fun st'=>agree ops base p q st st'=true/\K st) :
  EvDr P ok x ops b effs base [e,f] done (G :: gs) tm ds K:=by
 obtain⟨N,st,h1,h⟩:=zda (by rfl) h;obtain⟨N2,st',h2,hag,hk⟩:=zda (by rfl) h;obtain⟨t1,G1,e1,k1⟩:=z42 _ _ _ hp;obtain⟨t2,G2,e2,k2⟩:=z42 _ _ _ hq;have hd:dtwin P ops b effs base done (G :: gs) tm e f=some (p,q):=by
  unfold dtwin;unfold stB at k1 k2;simp only[e1,e2];cases ho:ops[e]? with
  |none=>rw[ho] at k1;cases k1
  |some o =>
   cases ho2:ops[f]? with
   |none=>rw[ho2] at k2;cases k2
   |some o2 =>
    rw[ho] at k1;rw[ho2] at k2;simp only at k1 k2;simp only[k1,k2]
 refine⟨max N N2+1,st,fun n hn=>?_,hk⟩;obtain⟨m,rfl⟩:∃m,n=m+1:=⟨n - 1,by omega⟩
 show ddraw P ok (m+1) x ops b effs base [e,f] done (G :: gs) tm ds=_;rw[ddraw];simp only[ht,h1 m (by omega),h2 m (by omega),hd,hag,if_true]
theorem EvC.drwT {id a e f:Nat}{tm:Tr Value}{ds:List Deferred}{H:Heap}{Q:Ex->St->Prop}(L0 Le Lf:List (Nat × Nat)) (S1 S2:List (List (Nat × Nat) × Option Nat)) (done:Nat) (hE:effsOf ops=[a,e,f]) (ht:twin (Region.before ops) [e,f]=some (e,f))
  (h0:(pending (Zg ops.size) (effsOf ops) ((Region.before ops).getD a 0) 0).map (fun i=>(i,effsIn (effsOf ops) ((Region.before ops).getD i 0)))=L0) (hdn:0 ||| (Region.before ops).getD a 0 ||| 2 ^ a=done)
  (h1:stgs ops [e,f] done=S1) (h2:stgs ops [f,e] done=S2)
  (he:(pending (Zg ops.size) (effsOf ops) ((Region.before ops).getD e 0) done).map (fun i=>(i,effsIn (effsOf ops) ((Region.before ops).getD i 0)))=Le)
  (hf:(pending (Zg ops.size) (effsOf ops) ((Region.before ops).getD f 0) done).map (fun i=>(i,effsIn (effsOf ops) ((Region.before ops).getD i 0)))=Lf)
  (h:ES P ok x ops H.next [(L0,some a),([],none)] ⟨H.next+ops.size,H.t⟩ [] tm ds fun tm1 ds1 H1=>∃p q,
   ES P ok x ops H.next [(Le,none)] H1 [⟨H.next+ops.size,H.t⟩] tm1 ds1 (fun t _ _=>stB ops e t=some p)/\ES P ok x ops H.next [(Lf,none)] H1 [⟨H.next+ops.size,H.t⟩] tm1 ds1 (fun t _ _=>stB ops f t=some q) /\
   ES P ok x ops H.next S1 H1 [⟨H.next+ops.size,H.t⟩] tm1 ds1 fun tm2 ds2 H2=>ES P ok x ops H.next S2 H1 [⟨H.next+ops.size,H.t⟩] tm1 ds1 fun tm3 ds3 H3=>agree ops H.next p q ⟨tm2,ds2,H2⟩ ⟨tm3,ds3,H3⟩=true/\Q .normal ⟨tm2,ds2,H2⟩) :
  EvC P ok x (.region id ops true) ⟨tm,ds,H⟩ Q:=by
 subst h0 h1 h2 he hf;have h':=EvS.of_ES _ _ _ _ _ h;have key:EvDr P ok x ops (Region.before ops) (effsOf ops) H.next [a,e,f] 0 [⟨H.next+ops.size,H.t⟩] tm ds (Q .normal):=by
  refine Upon.go (f:=fun n=>dstage P ok n x ops (Region.before ops) (effsOf ops) H.next [a,e,f] 0 [⟨H.next+ops.size,H.t⟩] tm ds) (fun n=>by rw[ddraw];rfl) ?_;obtain⟨G,gs,o,hG,ho,h'⟩:=h';cases hG;have ho':ops[a]?=some o:=by simpa using ho
  obtain⟨tm1,H1,en,hk⟩:=z42 _ _ _ h';have fin:∀(tm2:Tr Value) (ds2:List Deferred) (H2:Heap),EvS P ok x ops H.next [([],none)] [H2,⟨H.next+ops.size,H.t⟩] tm2 ds2 (fun st=>∃p q,
    ES P ok x ops H.next [((pending (Zg ops.size) (effsOf ops) ((Region.before ops).getD e 0) done).map (fun i=>(i,effsIn (effsOf ops) ((Region.before ops).getD i 0))),none)] st.H [⟨H.next+ops.size,H.t⟩] st.tm st.ds (fun t _ _=>stB ops e t=some p) /\
    ES P ok x ops H.next [((pending (Zg ops.size) (effsOf ops) ((Region.before ops).getD f 0) done).map (fun i=>(i,effsIn (effsOf ops) ((Region.before ops).getD i 0))),none)] st.H [⟨H.next+ops.size,H.t⟩] st.tm st.ds (fun t _ _=>stB ops f t=some q) /\
    ES P ok x ops H.next (stgs ops [e,f] done) st.H [⟨H.next+ops.size,H.t⟩] st.tm st.ds fun tm2 ds2 H2=>ES P ok x ops H.next (stgs ops [f,e] done) st.H [⟨H.next+ops.size,H.t⟩] st.tm st.ds fun tm3 ds3 H3=>agree ops H.next p q ⟨tm2,ds2,H2⟩ ⟨tm3,ds3,H3⟩=true/\Q .normal ⟨tm2,ds2,H2⟩) ->
    EvDr P ok x ops (Region.before ops) (effsOf ops) H.next [e,f] done [H2,⟨H.next+ops.size,H.t⟩] tm2 ds2 (Q .normal):=by
   rintro tm2 ds2 H2 ⟨G,gs,hG,p,q,hp,hq,hst⟩;cases hG;refine zro (p:=p) (q:=q) ht ?_ ?_ ?_
   ·obtain⟨G,gs,hG,r⟩:=EvS.of_ES _ _ _ _ _ hp;cases hG;exact r
   ·obtain⟨G,gs,hG,r⟩:=EvS.of_ES _ _ _ _ _ hq;cases hG;exact r
   ·refine EvS.mono ?_ _ _ _ _ (EvS.of_ES _ _ _ _ _ hst);intro st hst;exact EvS.of_ES _ _ _ _ _ hst
  rcases hk with ⟨hw,hk⟩|⟨hw,hk⟩
  ·refine Upon.go (fun n=>?_) (fin _ _ _ hk);rw[dstage];(try simp only at en);simp only[en,ho',hw,hdn];cases o.dst<;>rfl
  ·refine Upon.step (fun n r=>match r with|.val v ds1 H2=>ddraw P ok n x ops (Region.before ops) (effsOf ops) H.next [e,f] (0 ||| (Region.before ops).getD a 0 ||| 2 ^ a) (H2 :: [⟨H.next+ops.size,H.t⟩]) (putD tm1 o.dst v) ds1|_=>none) (fun n r hr=>?_) hk ?_
   ·rw[dstage];(try simp only at en);simp only[en,ho',hw,hr];cases r<;>cases o.dst<;>rfl
   ·rintro r ⟨v,ds1,H2,rfl,hk⟩;rw[hdn];exact fin _ _ _ hk
 refine Upon.step (fun n st1=>some (.normal,st1)) (fun n r hr=>?_) key ?_
 ·have e:dcode P ok (n+1) x (.region id ops true) ⟨tm,ds,H⟩=(match ddraw P ok n x ops (Region.before ops) (effsOf ops) H.next (effsOf ops) 0 [⟨H.next+ops.size,H.t⟩] tm ds with
    |some st1=>some (.normal,st1)
    |none=>match dpan P (dcall P ok n) (fun es done hs tm=>ddraw P ok n x ops (Region.before ops) (effsOf ops) H.next es done hs tm ds) ops (Region.before ops) (effsOf ops) H.next ⟨H.next+ops.size,H.t⟩ tm with
     |some (ch,H')=>some (.panic ch,⟨clr ops tm,ds,H'⟩)
     |none=>none):=by
   rw[dcode];rfl
  rw[hE] at hr;rw[e,hE,hr]
 ·intro r hq;exact⟨0,_,fun n _=>rfl,hq⟩
end
end Go.Hb
end

section
namespace Go.Proofs.hq
open Go Go.RowKit Go.Hb
variable {ok:Ok}
set_option maxRecDepth 10000
attribute [local irreducible] LX LG EL STG SOP SGO SGD SAL SRD SEF SEG SLK SCK ES
theorem _root_.Go.Hb.HX.mut {H H':Heap}{s n:Nat}(h:HX H H') (hs:s < H.next) (q:Mut H' s n):Mut H s n:=by
 rcases q with q|⟨V,T,hg,q⟩
 ·exact .inl q
 ·exact .inr ⟨V,T,(h.keep s hs).symm.trans hg,q⟩
theorem St.fresh {H H':Heap}{B s n:Nat}{σ:SS}(hs:St H B s σ) (hw:H.wf) (hx:HX H H') (hn:H.next<=n):¬Mut H' s n:=fun q=>by
 have:=hs.mhi hw (HX.mut hx (hs.lt hw) q);omega
theorem _root_.Go.Hb.SX.own {H H':Heap}{s n:Nat}{D:Blk}(hx:SX s H H') (hw:H.wf) (hm:¬Mut H s n) (hg:H.get n=some D):H'.get n=some D:=(hx.get (hw _ _ hg) hm).trans hg
theorem _root_.Go.Hb.StR.beside {H:Heap}{B s:Nat}{T:TypeId}{F:List Fld}{V:List Value}(h:StR H B s T F V) (hw:H.wf) {H':Heap}{S:Nat->Prop}(hk:HK S H H') (hd:∀n,S n->¬Mut H s n):StR H' B s T F V/\∀n,Mut H' s n->Mut H s n:=by
 have hg:∀n,Mut H s n->H'.get n=H.get n:=fun n hn=>hk.keep n (h.mhi hw hn) fun q=>hd n q hn
 have ho:H'.get s=some (.row V T):=(hg s (.inl rfl)).trans h.obj;refine⟨⟨ho,h.ge,h.len,fun i f v hf hv=>?_,h.apart,h.off,h.ones⟩,fun n hn=>?_⟩
 ·exact(h.fld i f v hf hv).heap (fun n hn=>hg n (.inr ⟨V,T,h.obj,v,ZG hv,hn⟩)) hk.next
 ·rcases hn with q|⟨V',T',hg',q⟩
  ·exact .inl q
  ·rw[ho] at hg';cases hg';exact .inr ⟨V,T,h.obj,q⟩
theorem St.beside {H H':Heap}{B s:Nat}{σ:SS}(hs:St H B s σ) (hw:H.wf) {S:Nat->Prop}(hk:HK S H H') (hd:∀n,S n->¬Mut H s n):St H' B s σ/\∀n,Mut H' s n->Mut H s n:=by
 obtain⟨V,h⟩:=hs;have:=h.beside hw hk hd;exact⟨⟨V,this.1⟩,this.2⟩
theorem _root_.Go.Hb.SX.box {A C:Heap}{s n:Nat}(h:SX s A C) (hn:A.next<=n) (hl:n < C.next) (hm:¬Mut C s n) (D:Option Blk):SX s A (C.put n D) :=
 ⟨h.hk.put (.inr hn) hl D,fun m q=>by
  refine h.mt m ?_;rcases q with q|⟨V,T,hg,q⟩
  ·exact .inl q
  ·rw[get_put,if_neg (fun e=>hm (.inl e.symm))] at hg;exact .inr ⟨V,T,hg,q⟩⟩
theorem _root_.Go.Hb.row4c {H:Heap}{p:Nat}{T:TypeId}{x y z u:Value}(h:H.get p=some (.row [x,y,z,u] T)):H.load ⟨p,0,none⟩ 4=some [x,y,z,u]:=by
 simp only[Heap.load,Heap.cells,h];rfl
abbrev zero6s:List Value:=[.int .i64 0,.string ⟨#[]⟩,.string ⟨#[]⟩,.int .u64 0,.int .i64 0,.slice none 0 0]
def atomicS (σ:SS) (t:Tm):SS × Nat:=match σ.consts.findIdx? (eqCst t) with
 |some j=>(σ,j)
 |none=>({ σ with consts:=σ.consts++[t] },σ.consts.length)
def functorS (σ:SS) (k:ByteArray × Int):SS × Nat:=match σ.funs.findIdx? (eqFun k) with
 |some j=>(σ,j)
 |none=>({ σ with funs:=σ.funs++[k] },σ.funs.length)
theorem mapK:Tryz.prog.underlying 72=some (.map 116 3):=Tryz.underlying72
theorem mapC:Tryz.prog.underlying 71=some (.map 180 3):=Tryz.underlying71
theorem zI:pureRun Tryz.prog (zeroValue 3)=some (.int .i64 0):=by kernel_rfl
set_option maxHeartbeats 4000000 in
theorem zix {H:Heap}{B s:Nat}{σ:SS}{k:ByteArray × Int}(hs:St H B s σ) (hw:H.wf) (hm:σ.funs.length+1<=most) :
  EvF Tryz.prog okT 103 [.pointer (some ⟨s,0,none⟩),.agg ⟨keyC k⟩] H fun r H'=>r=.int .i64 ((functorS σ k).2:Nat)/\St H' B s (functorS σ k).1/\SX s H H':=by
 have hs0:=hs.lt hw;refine EvF.enter rfl Tryz.func103 (by decide) rfl ?_;(repeat refine qZa ?_);refine qZb ?_;simp only[sB,initTm,dBox,Value.cells,one,reduceCtorEq];obtain⟨H1,e1,hx1,g1,n1,w1⟩:=new1 hw (.row (keyC k) 116);simp only[e1];have q1:=z0l g1;have hs1:=hs.keep hw hx1;obtain⟨H2,e2,hx2,w2⟩:=z3g w1 11;have hs2:=hs1.keep w1 hx2;obtain⟨a0,c0,a1,c1,a2,c2,a3,c3,a4,c4,a5,c5,r6,r7,a8,c8,a9,c9,h,l0,l1,l2,l3,l4,l5,l6,l7,l8,l9,b0,b1,b2,b3,b4,b5,b8,b9⟩:=hs2.open;have q2:=z0l (hx2.get w1 g1);obtain⟨r,es,clock,er,hr1,hr2,hg,hM⟩:=h.fld 7 _ _ rfl rfl;cases er;have elk:=zlk (x:=k) (H:=H2) keyK mapK zI hg hM;cases hf:σ.funs.findIdx? (eqFun k) with
 |some j =>
  have efs:functorS σ k=(σ,j):=by rw[functorS,hf]
  rw[hf] at elk;simp only[Option.getD_some,Option.isSome_some] at elk
  repeat' (first|refine qZa ?_|(refine qZe ?_;try simp only[z00])|(refine qZf ?_)|(refine qZb ?_;simp only[sB,Za,reduceCtorEq,Zn])|(refine qZj (id:=1) [([(0,0),(1,0),(2,0),(3,0),(4,0),(5,0),(6,0),(7,0),(8,0),(9,0),(10,0)],none)] ?_ ?_;kernel_rfl;simp only[sD,sB,Za,Zb,reduceCtorEq,zku,ld72,zb4,z07,z0a,e2,q2,l7,z15,elk,isAlloc,isRead])|(refine qZm ?_ ?_;simp only[sB,Za,reduceCtorEq];refine z01 ?_))
  refine z03 rfl (by simp only[sB,Za,reduceCtorEq];rfl) ?_;rw[efs];exact⟨rfl,hs2,(hx1.trans hx2).sx hs0⟩
 |none =>
  have efs:functorS σ k=({ σ with funs:=σ.funs++[k] },σ.funs.length):=by rw[functorS,hf]
  rw[hf] at elk;simp only[Option.getD_none,Option.isSome_none] at elk;obtain⟨H3,e3,hx3,w3⟩:=z3g w2 7;have h3:=h.keep w2 hx3;have q3:=z0l (hx3.get w2 (hx2.get w1 g1));have l7':=h3.load (i:=7) rfl;obtain⟨es',ck',eup,hM'⟩:=zll (x:=k) (H:=H3) keyK mapK (hx3.get w2 hg) hM hf;obtain⟨H4,e4⟩:∃H4,H3.put r7 (some (.map es' ck'))=H4:=⟨_,rfl⟩
  have n4:H4.next=H3.next:=by rw[<-e4];rfl
  have w4:H4.wf:=by rw[<-e4];exact((HK.refl (S:=fun n=>n=r7) w3).put (.inl rfl) (Zo hr2 hx3.next) _).wf
  have p4:=h3.alter w3 (H2:=H4) w4 (Nat.le_of_eq n4.symm) (i:=7) (v:=.map (some r7)) rfl (fun n hn hne=>by rw[<-e4,get_put,if_neg (fun e=>hne (by rw[e];rfl))]) (f':=.mp (mapOf fkey (σ.funs++[k])))
   ⟨r7,es',ck',rfl,hr1,Zo hr2 (ZC hx3.next (Nat.le_of_eq n4.symm)),by rw[<-e4,get_put,if_pos rfl],hM'⟩
  obtain⟨h4,x4⟩:=p4;obtain⟨H6,e6,hx6,g6,w6⟩:=zii w4 11 6 (by omega) (.row (keyC k) 116);have q5:=z0l ((x4.own w3 (hs.fresh hw (hx1.trans (hx2.trans hx3)) (Ze _)) (hx3.get w2 (hx2.get w1 g1))));have l5':=h4.load (i:=5) rfl;obtain⟨H7,k7,e7,g7,-,-,H8,e8,s8,x8⟩:=(h4.keep w4 hx6).pushed (P:=Tryz.prog) (i:=5) (c1:=1) w6 ap33 rfl rfl (z0l g6).1 rfl rfl (by simpa using hm);simp only[List.set_cons_zero,List.set_cons_succ,Zp] at e7 e8;have hs8:St H8 B s { σ with funs:=σ.funs++[k] }:=⟨_,by simpa [flds] using s8⟩
  repeat' (first|refine qZa ?_|(refine qZf ?_)|(refine qZb ?_;simp only[sB,Za,reduceCtorEq,zgu,ld33,ln33,z07,z0a,l5,Zw])|(refine qZj (id:=1) [([(0,0),(1,0),(2,0),(3,0),(4,0),(5,0),(6,0),(7,0),(8,0),(9,0),(10,0)],none)] ?_ ?_;kernel_rfl;simp only[sD,sB,Za,Zb,reduceCtorEq,zku,ld72,zb4,z07,z0a,e2,q2,l7,z15,elk,isAlloc,isRead])|(refine qZj (id:=4) [([(0,0),(1,0),(2,0),(3,0),(4,0),(5,0)],some 6),([],none)] ?_ ?_;kernel_rfl;simp only[sD,sB,Za,Zb,reduceCtorEq,zku,ld72,zb4,z07,z0a,e3,e4,q3,l7',z24,eup,isAlloc,isRead])|(refine qZj (id:=5) [([(1,0),(2,0),(3,0),(4,0),(5,0),(6,0)],some 7),([(0,0),(8,1),(9,1)],some 10),([],none)] ?_ ?_;kernel_rfl;simp only[sD,sB,Za,Zb,Value.cells,one,reduceCtorEq,Zr,layC,zb4,zgu,ld33,zt7,st33,z07,z0a,e6,q5,l5',e7,g7,e8,isAlloc,isRead,dalloc,z8j])|(refine qZd ?_ ?_;simp only[sB,Za,reduceCtorEq];refine z01 ?_))
  refine z03 rfl (by simp only[sB,Za,reduceCtorEq];rfl) ?_;rw[efs];exact⟨rfl,hs8,((hx1.trans (hx2.trans hx3)).sx hs0).trans (x4.trans ((hx6.sx (h4.lt w4)).trans x8))⟩
set_option maxHeartbeats 4000000 in
theorem zlm {H:Heap}{B s:Nat}{σ:SS}{t:Tm}{a:Option Addr}{c:Nat}(hs:St H B s σ) (hw:H.wf) (ht:t.args=[]) (hm:σ.consts.length+1<=most) :
  EvF Tryz.prog okT 102 [.pointer (some ⟨s,0,none⟩),.agg ⟨six t a c⟩] H fun r H'=>r=.int .i64 ((atomicS σ t).2:Nat)/\St H' B s (atomicS σ t).1/\SX s H H':=by
 have hs0:=hs.lt hw;refine EvF.enter rfl Tryz.func102 (by decide) rfl ?_;(repeat refine qZa ?_);refine qZb ?_;simp (config:=qZc) (disch:=first|omega|rfl) only[sB,initTm,dBox,Value.cells,one,reduceCtorEq];obtain⟨H1,e1,hx1,g1,n1,w1⟩:=new1 hw (.row (six t a c) 40);simp only[e1];have q1:=row6 g1;obtain⟨Ha,ea,hxa,ga,na,wa⟩:=z0o w1 (.row [.int .i64 0,.string Zh,.string Zh,.int .u64 0] 180) (.row [.int .i64 t.kind,.string t.name,.string t.num,.int .u64 t.bits] 180);(repeat refine qZa ?_);refine qZb ?_;simp (config:=qZc) (disch:=first|omega|rfl) only[sB,dAlloc,Za,Zb,Value.cells,one,reduceCtorEq,Zr,layC,z1c,ld3,z38,ld9,z4k,z56,ld38,zus,zut,zuu,q1,ea];have hsa:=hs.keep hw (hx1.trans hxa);obtain⟨H2,e2,hx2,w2⟩:=z3g wa 11;have hs2:=hsa.keep wa hx2;obtain⟨a0,c0,a1,c1,a2,c2,a3,c3,a4,c4,a5,c5,r6,r7,a8,c8,a9,c9,h,l0,l1,l2,l3,l4,l5,l6,l7,l8,l9,b0,b1,b2,b3,b4,b5,b8,b9⟩:=hs2.open;have q2:=row4c (hx2.get wa ga);obtain⟨r,es,clock,er,hr1,hr2,hg,hM⟩:=h.fld 6 _ _ rfl rfl;cases er;have elk:=zlk (x:=t) (H:=H2) keyT mapC zI hg hM;cases hf:σ.consts.findIdx? (eqCst t) with
 |some j =>
  have efs:atomicS σ t=(σ,j):=by rw[atomicS,hf]
  rw[hf] at elk;simp only[Option.getD_some,Option.isSome_some] at elk
  repeat' (first|refine qZa ?_|(refine qZe ?_;try simp only[z00])|(refine qZf ?_)|(refine qZb ?_;simp (config:=qZc) only[sB,Za,reduceCtorEq,Zn])|(refine qZj (id:=2) [([(0,0),(1,0),(2,0),(3,0),(4,0),(5,0),(6,0),(7,0),(8,0),(9,0),(10,0)],none)] ?_ ?_;kernel_rfl;simp (config:=qZc) only[sD,sB,Za,Zb,reduceCtorEq,zkt,ld71,zqq,z07,z0a,e2,q2,l6,z15,elk,isAlloc,isRead])|(refine qZm ?_ ?_;simp (config:=qZc) only[sB,Za,reduceCtorEq];refine z01 ?_))
  refine z03 rfl (by simp only[sB,Za,reduceCtorEq];rfl) ?_;rw[efs];exact⟨rfl,hs2,(hx1.trans (hxa.trans hx2)).sx hs0⟩
 |none =>
  have efs:atomicS σ t=({ σ with consts:=σ.consts++[t] },σ.consts.length):=by rw[atomicS,hf]
  rw[hf] at elk;simp only[Option.getD_none,Option.isSome_none] at elk;obtain⟨H3,e3,hx3,w3⟩:=z3g w2 7;have h3:=h.keep w2 hx3;have q3:=row4c (hx3.get w2 (hx2.get wa ga));have l6':=h3.load (i:=6) rfl;obtain⟨es',ck',eup,hM'⟩:=zll (x:=t) (H:=H3) keyT mapC (hx3.get w2 hg) hM hf;obtain⟨H4,e4⟩:∃H4,H3.put r6 (some (.map es' ck'))=H4:=⟨_,rfl⟩
  have n4:H4.next=H3.next:=by rw[<-e4];rfl
  have w4:H4.wf:=by rw[<-e4];exact((HK.refl (S:=fun n=>n=r6) w3).put (.inl rfl) (Zo hr2 hx3.next) _).wf
  have p4:=h3.alter w3 (H2:=H4) w4 (Nat.le_of_eq n4.symm) (i:=6) (v:=.map (some r6)) rfl (fun n hn hne=>by rw[<-e4,get_put,if_neg (fun e=>hne (by rw[e];rfl))]) (f':=.mp (mapOf ckey (σ.consts++[t])))
   ⟨r6,es',ck',rfl,hr1,Zo hr2 (ZC hx3.next (Nat.le_of_eq n4.symm)),by rw[<-e4,get_put,if_pos rfl],hM'⟩
  obtain⟨h4,x4⟩:=p4;have hx13:=hxa.trans (hx2.trans hx3);have nb:¬Mut H3 s H.next:=hs.fresh hw (hx1.trans hx13) (Ze _);have gb4:=x4.own w3 nb (hx13.get w1 g1);have nb4:¬Mut H4 s H.next:=fun q=>by rcases x4.mt _ q with q|q;exact nb q;(have:=hx13.lt w1 g1;omega)
  have hk5:=(HK.refl (S:=fun n=>n=H.next) w4).put (.inl rfl) (w4 _ _ gb4) (some (.row (six0 t) 40));obtain⟨h5,x5⟩:=h4.beside w4 hk5 (fun n q=>q ▸ nb4);have hR:six0 t=[.int .i64 t.kind,.string t.name,.string t.num,.int .u64 t.bits,.int .i64 t.var,.slice none 0 0]:=by show six t none 0=_;rw[six,ht];rfl
  obtain⟨H5,e5⟩:∃H5,H4.put H.next (some (.row (six0 t) 40))=H5:=⟨_,rfl⟩
  have g5:H5.get H.next=some (.row (six0 t) 40):=by rw[<-e5,get_put,if_pos rfl]
  rw[e5] at h5 hk5 x5;rw[hR] at e5 g5;have w5:=hk5.wf;have q5:=row6 g5;have l4':=h5.load (i:=4) rfl;obtain⟨H6,e6,hx6,g6,w6⟩:=zii w5 13 6 (by omega) (.row zero6s 40);have h6:=h5.keep w5 hx6;have hB6:B<=H6.next:=ZC h6.ge (Nat.le_of_lt (h6.lt w6));obtain⟨H7,c7,e7,o7,n7,w7,k7,r7'⟩:=(h6.fld 4 _ _ rfl rfl).push (P:=Tryz.prog) (t:=32) (c1:=1) w6 ap32 (row6 g6).2.2.2.2.2.2 rfl rfl (by simpa using hm) hB6;rw[Zp] at e7;obtain⟨cs,gc,hle,-⟩:=o7.row;have hlen:(σ.consts.map six0++[zero6s]).length=σ.consts.length+1:=by simp
  have o8:=o7.set gc (i:=σ.consts.length) (y:=six0 t) (by rw[hlen];omega) rfl rfl;have es:(σ.consts.map six0++[zero6s]).set σ.consts.length (six0 t)=σ.consts.map six0++[six0 t]:=by
   have:σ.consts.length=(σ.consts.map six0).length:=by simp
   rw[this,List.set_append_right _ _ (Ze _),Nat.sub_self];rfl
  rw[es] at o8;obtain⟨H8,e8⟩:∃H8,H7.put H6.next (some (.row (Hb.splice cs (σ.consts.length*6) (six0 t)) 40))=H8:=⟨_,rfl⟩
  have w8:H8.wf:=by rw[<-e8];exact((HK.refl (S:=fun n=>n=H6.next) w7).put (.inl rfl) (by omega) _).wf
  have n8:H8.next=H7.next:=by rw[<-e8];rfl
  have p8:=h6.put w6 (H2:=H8) w8 (by omega) (i:=4) rfl (fun n hn hne=>by rw[<-e8,get_put,if_neg (by omega)];exact k7 n hn hne) (f':=.sl 40 6 (σ.consts.map six0++[six0 t])) (v':=.slice (some ⟨H6.next,0,none⟩) (σ.consts.length+1) c7)
   (.inr ⟨H6.next,c7,e8 ▸ o8,by simp⟩) (fun n hn=>.inr (by cases hn;exact Ze _)) rfl
  obtain⟨s9,x9⟩:=p8;simp only[List.set_cons_zero,List.set_cons_succ] at s9 x9;obtain⟨H9,e9⟩:∃H9,H8.put s (some (.row [.slice a0 σ.cells.length c0,.slice a1 σ.own.length c1,.slice a2 σ.vars.length c2,.slice a3 σ.flags.length c3,.slice (some ⟨H6.next,0,none⟩) (σ.consts.length+1) c7,.slice a5 σ.funs.length c5,.map (some r6),.map (some r7),.slice a8 σ.trail.length c8,.slice a9 σ.marks.length c9] 76))=H9:=⟨_,rfl⟩
  rw[e9] at s9 x9;have hs9:St H9 B s { σ with consts:=σ.consts++[t] }:=⟨_,by simpa [flds] using s9⟩
  rw[hR] at e8;have hs6':=h6.lt w6;have hle':σ.consts.length*6+6<=cs.length:=by rw[hlen] at hle;omega
  have gs8:H8.get s=_:=(show H8.get s=H6.get s by rw[<-e8,get_put,if_neg (by omega)];exact k7 s hs6' (h6.off 4 _ rfl)).trans h6.obj
  repeat' (first|refine qZa ?_|(refine qZb ?_;simp (config:=qZc) (disch:=first|omega|rfl) only[sB,Za,Zb,one,reduceCtorEq,zcv,ld32,ln32,z1k,st32,z07,z0a,e5,l4,gb4,Zw])|(refine qZj (id:=2) [([(0,0),(1,0),(2,0),(3,0),(4,0),(5,0),(6,0),(7,0),(8,0),(9,0),(10,0)],none)] ?_ ?_;kernel_rfl;simp (config:=qZc) only[sD,sB,Za,Zb,reduceCtorEq,zkt,ld71,zqq,z07,z0a,e2,q2,l6,z15,elk,isAlloc,isRead])|(refine qZj (id:=5) [([(0,0),(1,0),(2,0),(3,0),(4,0),(5,0)],some 6),([],none)] ?_ ?_;kernel_rfl;simp (config:=qZc) only[sD,sB,Za,Zb,reduceCtorEq,zkt,ld71,zqq,z07,z0a,e3,e4,q3,l6',z24,eup,isAlloc,isRead])|(refine qZd ?_ ?_;simp (config:=qZc) only[sB,Za,reduceCtorEq];refine z01 ?_))
  refine EvC.drwT [(0,0),(1,0),(2,0),(3,0),(4,0),(5,0),(6,0)] [(8,1)] [(10,1),(11,1)] [([(8,1)],some 9),([(10,1),(11,1)],some 12),([],none)] [([(10,1),(11,1)],some 12),([(8,1)],some 9),([],none)] 255 (a:=7) (e:=9) (f:=12) (by kernel_rfl) (by kernel_rfl) (by kernel_rfl) (by kernel_rfl) (by kernel_rfl) (by kernel_rfl) (by kernel_rfl) (by kernel_rfl) ?_;simp (config:=qZc) (disch:=first|omega|rfl) only[sD,sB,Za,Zb,Value.cells,one,reduceCtorEq,layC,zcv,ld32,ln32,st32,ld40,zgs,ia32,st40,z07,z0a,q5,l4',e6,e7,isAlloc,isRead,dalloc];have ne1:(H6.next=s)=False:=eq_false (by omega);have ne2:(s=H6.next)=False:=eq_false (by omega);have gs7:H7.get s=_:=(k7 s hs6' (h6.off 4 _ rfl)).trans h6.obj;have hp:stB #[] 0 Tr.nil=none:=rfl;refine⟨H6.next,s,?_,?_,?_⟩
  ·simp only[sB,stB,List.getElem?_toArray,stBlk,Za,reduceCtorEq]
  ·simp only[sB,stB,List.getElem?_toArray,stBlk,Za,reduceCtorEq]
  simp (config:=qZc) (disch:=first|omega|rfl) only[sD,sB,Za,Zb,one,reduceCtorEq,Zr,zcv,st32,ia32,st40,z07,z0a,gc,hle',gs7,gs8,ne1,e8,e9,isAlloc,isRead,z8j];refine⟨?_,?_⟩
  ·refine zo9 ?_ (fun n=>?_) ?_ ?_ (fun i hi=>?_)
   ·simp only[sV,sB,slotEq,cellEq,Bool.true_or,Za,reduceCtorEq]
   ·show ((H7.put s _).put H6.next _).get n=H9.get n;rw[<-e9,<-e8];simp only[get_put];by_cases q1:n=s
    ·rw[if_neg (by omega),if_pos q1,if_pos q1]
    ·by_cases q2:n=H6.next
     ·rw[if_pos q2,if_neg q1,if_pos q2]
     ·rw[if_neg q2,if_neg q1,if_neg q1,if_neg q2]
   ·show blkEq (H9.get H6.next) (H9.get H6.next)=true;have:H9.get H6.next=some (.row (σ.consts.map six0++[six0 t]).flatten 40):=by
     rw[<-e9,get_put,if_neg (by omega),<-e8,get_put,if_pos rfl,<-hR];rw[r7'] at gc;cases gc;rw[zb2 (s:=6) (σ.consts.map six0++[zero6s]) σ.consts.length (six0 t) (fun x hx=>o7.sz x hx) rfl (by rw[hlen];omega),es]
    rw[this];refine z8u fun v hv=>?_
    obtain⟨l,h1,h2⟩:=List.mem_flatten.1 hv;obtain⟨u,rfl⟩:∃u:Tm,l=six0 u:=by
     rcases List.mem_append.1 h1 with h1|h1
     ·obtain⟨u,-,rfl⟩:=List.mem_map.1 h1;exact⟨u,rfl⟩
     ·rw[Zx] at h1;exact⟨t,h1⟩
    simp only[six0,List.mem_cons,List.not_mem_nil,or_false] at h2;rcases h2 with rfl|rfl|rfl|rfl|rfl|rfl<;>simp [cellEq,veq]
   ·show blkEq (H9.get s) (H9.get s)=true;rw[s9.obj];refine z8u fun v hv=>?_
    simp only[List.mem_cons,List.not_mem_nil,or_false] at hv;rcases hv with rfl|rfl|rfl|rfl|rfl|rfl|rfl|rfl|rfl|rfl<;>simp [cellEq,veq]
   ·show blkEq (H9.get (H5.next+i)) (H9.get (H5.next+i))=true;have n6:H6.next=H5.next+13:=by rw[<-e6];rfl
    have hi':i < 13:=hi;have hv5:blkOf (.slice a4 σ.consts.length c4)≠some (H5.next+i):=fun q=>by
     have:=((h5.fld 4 _ _ rfl rfl).lo q).2;omega
    have hs5:=h5.lt w5;have e:H9.get (H5.next+i)=H6.get (H5.next+i):=by
     rw[<-e9,get_put,if_neg (by omega),<-e8,get_put,if_neg (by omega)];exact k7 _ (by omega) hv5
    rw[e,<-e6,get_put];split
    ·refine z8u fun v hv=>?_
     simp only[List.mem_cons,List.not_mem_nil,or_false] at hv;rcases hv with rfl|rfl|rfl|rfl|rfl|rfl<;>simp [cellEq,veq]
    ·have:Heap.get ⟨H5.next+13,H5.t⟩ (H5.next+i)=none:=by
      cases hq:H5.get (H5.next+i) with
      |none=>exact hq
      |some D=>exact absurd (w5 _ _ hq) (by omega)
     rw[this];rfl
  ·repeat' (first|refine qZa ?_|(refine qZf ?_)|(refine qZb ?_;simp (config:=qZc) only[sB,Za,reduceCtorEq]))
   refine z03 rfl (by simp only[sB,Za,reduceCtorEq];rfl) ?_;rw[efs];have x5':=(((hx1.trans hx13).sx hs0).trans x4).box (Ze _) (w4 _ _ gb4) nb4 (some (.row (six0 t) 40));rw[hR,e5] at x5';exact⟨rfl,hs9,x5'.trans ((hx6.sx (h5.lt w5)).trans x9)⟩
end Go.Proofs.hq
end

section
namespace Go.Hb
open Go Go.RowKit
theorem Der.det {cells:List (Int × Int)}{n:Nat}{c d:Int × Int}(h:Der cells n c d):∀{m:Nat}{e:Int × Int},Der cells m c e->d=e:=by
 induction h with
 |stop h1=>intro m e k;cases k with
  |stop _=>rfl
  |var _ _ _ _=>rfl
  |go k1=>exact absurd k1 h1
 |var h1 h2 h3 h4=>intro m e k;cases k with
  |stop _=>rfl
  |var _ _ _ _=>rfl
  |go _ _ _ k4=>exact absurd h4 k4
 |go h1 h2 h3 h4 _ ih=>intro m e k;cases k with
  |stop k1=>exact absurd h1 k1
  |var _ _ _ k4=>exact absurd k4 h4
  |go _ _ _ _ k5=>exact ih k5
noncomputable def dr (cells:List (Int × Int)) (c:Int × Int):Int × Int:=open Classical in if h:∃p:Nat × (Int × Int),Der cells p.1 c p.2 then (Classical.choose h).2 else c
theorem z4f {cells:List (Int × Int)}{n:Nat}{c d:Int × Int}(h:Der cells n c d):dr cells c=d:=by
 have hx:∃p:Nat × (Int × Int),Der cells p.1 c p.2:=⟨(n,d),h⟩
 unfold dr;rw[dif_pos hx];exact(Classical.choose_spec hx).det h
end Go.Hb
namespace Go.Proofs.hq
open Go Go.RowKit Go.Hb
variable {ok:Ok}
set_option maxRecDepth 10000
attribute [local irreducible] LX LG EL STG SOP SGO SGD SAL SRD SEF SEG SLK SCK ES
def flagS (σ:SS) (v:Int):SS × Int:=if freeS σ v≠0 then (σ,freeS σ v) else if (σ.flags[v.toNat]?).getD false=true then (σ,0) else ({ σ with flags:=σ.flags.set v.toNat true,trail:=σ.trail++[(1,v)] },0)
noncomputable def bindS (σ:SS) (v:Int) (c:Int × Int):SS × Int:=if freeS σ v≠0 then (σ,freeS σ v) else if mayS σ c=false then (σ,130) else if dr σ.cells c=(2,gi σ.vars v) then (σ,1) else
 ({ σ with cells:=σ.cells.set (gi σ.vars v).toNat (dr σ.cells c),trail:=σ.trail++[(0,v)] },0)
theorem za7 {σ:SS}{v:Int}(h:freeS σ v=0):okV σ v/\(ci σ.cells (gi σ.vars v)).1=1:=by
 unfold freeS at h;split at h
 ·split at h
  ·exact⟨by assumption,by assumption⟩
  ·omega
 ·omega
theorem zh5 {a b n m:Int}:pureRun Tryz.prog (Op.equal 42 (.agg ⟨[.int .i64 a,.int .i64 n]⟩) (.agg ⟨[.int .i64 b,.int .i64 m]⟩))=some (a == b && n == m):=by
 have sih:Tryz.prog.stoodInHeld 42=false:=by kernel_rfl
 have un:pureRun Tryz.prog (underlying 42)=some (.struct #[{ name := "Tag", type:=3,offset:=0,embedded:=false,tag := "", pkgPath := "", byteOffset:=0 },{ name := "Val", type:=3,offset:=1,embedded:=false,tag := "", pkgPath := "", byteOffset:=8 }]):=by kernel_rfl
 show pureRun Tryz.prog (Op.equalIn (9999+1) _ _ _)=_;unfold Op.equalIn;rw[z09,un,Zs];simp only[];rw[z09,z3t,Zs,sih];simp only[Zd,if_false];have p1:pureRun Tryz.prog (part 3 ⟨[Value.int IntKind.i64 a,Value.int IntKind.i64 n]⟩ 0)=some (.int .i64 a):=z8t rfl;have p2:pureRun Tryz.prog (part 3 ⟨[Value.int IntKind.i64 b,Value.int IntKind.i64 m]⟩ 0)=some (.int .i64 b):=z8t rfl;have p3:pureRun Tryz.prog (part 3 ⟨[Value.int IntKind.i64 a,Value.int IntKind.i64 n]⟩ 1)=some (.int .i64 n):=z8t rfl;have p4:pureRun Tryz.prog (part 3 ⟨[Value.int IntKind.i64 b,Value.int IntKind.i64 m]⟩ 1)=some (.int .i64 m):=z8t rfl;have e1:pureRun Tryz.prog (Op.equalIn 9999 3 (.int .i64 a) (.int .i64 b))=some (a == b):=zbe;have e2:pureRun Tryz.prog (Op.equalIn 9999 3 (.int .i64 n) (.int .i64 m))=some (n == m):=zbe;have nn:(("Tag" : String) ≠ "_")=True:=by simp
 have na:(("Val" : String) ≠ "_")=True:=by simp
 simp only[<-Array.forIn_toList,List.forIn_cons,List.forIn_nil,z09,nn,na,if_true,p1,p2,e1,Zs];cases hab:a == b with
 |false=>simp [z09,z1j]
 |true =>
  simp only[Zn,Zd,if_false,z09,z1j,Zs,p3,p4,e2];cases hnm:n == m<;>simp [z09,z1j]
theorem zf4 {H:Heap}{x y:Operand}{a b n m:Int}:dBin Tryz.prog .eql 42 x y (.agg ⟨[.int .i64 a,.int .i64 n]⟩) (.agg ⟨[.int .i64 b,.int .i64 m]⟩) H=some (.val (.bool (a == b && n == m)) H):=by
 have g:(Tryz.prog.eqGuardType Tryz.prog.depth 42)=false:=by kernel_rfl
 simp only[dBin,dnil,flat,flatL,eqGuard,binOp];simp only[Bool.and_self,Zn,Zw,Zd,if_false,flat,z09,z3t,Zs,g,if_true,z1j,zh5]
set_option maxHeartbeats 8000000 in
theorem zrp {H:Heap}{B s:Nat}{σ:SS}{v:Int}{c:Int × Int}(hs:St H B s σ) (hw:H.wf) (hb:VarB σ) (ho:σ.own.length=σ.cells.length) (hd:mayS σ c=true->∃m d,Der σ.cells m c d) (hm:σ.trail.length+1<=most) :
  EvF Tryz.prog okT 32 [.pointer (some ⟨s,0,none⟩),.int .i64 v,.agg ⟨two c⟩] H fun r H'=>r=.int .i64 (bindS σ v c).2/\St H' B s (bindS σ v c).1/\SX s H H':=by
 have hs0:=hs.lt hw;refine EvF.enter rfl Tryz.func32 (by decide) rfl ?_;(repeat refine qZa ?_);refine qZb ?_;simp (disch:=first|omega|rfl) only[sB,initTm,dBox,Za,Zb,Value.cells,one,reduceCtorEq];obtain⟨H1,e1,hx1,g1,n1,w1⟩:=new1 hw (.row (two c) 42);simp only[e1];have q1:=z0l g1;have hs1:=hs.keep hw hx1
 repeat' (first|refine qZa ?_|(refine qZb ?_;simp only[sB,Za,reduceCtorEq,cl71]))
 refine(zrn hs1 hb).mono ?_;rintro r H' ⟨rfl,rfl⟩;by_cases h0:freeS σ v=0
 ·obtain⟨hv,-⟩:=za7 h0;obtain⟨n,rfl⟩:=Zk hv.1;have hn:n < σ.vars.length:=by have:=hv.2.1;omega
  obtain⟨k,ek⟩:=Zk hv.2.2;have hk:k < σ.cells.length:=by have:=hb n hn;rw[ek] at this;omega
  repeat' (first|refine qZa ?_|(refine qZe ?_;try simp only[z00])|(refine qZb ?_;simp only[sB,Za,reduceCtorEq,ld42,cl64,q1,z13 h0])|(refine qZm ?_ ?_;simp only[sB,Za,reduceCtorEq];refine z01 ?_))
  refine(z3v hs1 w1 ho hd).mono ?_;rintro r H2 ⟨d,e,rfl,hde,hx2⟩;have hs2:=hs1.keep w1 hx2;by_cases hmay:mayS σ c=true
  ·rw[if_pos hmay] at hde;obtain⟨rfl,m,hde⟩:=hde;have edr:=z4f hde;obtain⟨H3,e3,hx3,g3,n3,w3⟩:=z0o hx2.wf (.row [.int .i64 0,.int .i64 0] 42) (.row (two d) 42);have hs3:=hs2.keep hx2.wf hx3;obtain⟨H4,e4,hx4,w4⟩:=z3g w3 11;have hs4:=hs3.keep w3 hx4;have q3:=z0l g3;have q4:=z0l (hx4.get w3 g3);obtain⟨a0,c0,a1,c1,a2,c2,a3,c3,a4,c4,a5,c5,r6,r7,a8,c8,a9,c9,h,l0,l1,l2,l3,l4,l5,l6,l7,l8,l9,b0,b1,b2,b3,b4,b5,b8,b9⟩:=hs4.open;obtain⟨b,rfl,o,ld⟩:=h.el1 (i:=2) (k:=n) (x:=int1 (gi σ.vars n)) rfl rfl (by rw[Zj,za2 hn];rfl);rw[ek] at ld;by_cases heq:d=(2,(k:Int))
   ·have hfl':bindS σ n c=(σ,1):=by rw[bindS,if_neg (by omega),if_neg (by simp [hmay]),edr,ek,if_pos heq]
    have d8:(d.1 == 2 && d.2 == (k:Int))=true:=by rw[heq];simp
    repeat' (first|refine qZa ?_|refine qZg ?_|(refine qZf ?_;try simp only[z04,z02])|(refine qZb ?_;simp only[sB,Za,reduceCtorEq,z13 rfl])|(refine qZj (id:=7) [([(0,0),(1,0),(2,0),(3,0),(4,0),(5,0),(6,0),(7,0),(8,0),(9,0),(10,0)],none)] ?_ ?_;kernel_rfl;simp (disch:=first|omega|rfl) only[sD,sB,Za,Zb,Value.cells,one,reduceCtorEq,Zr,layC,ld42,z3r,ld28,ia28,ld3,bd42,z07,z0a,e4,q4,l2,ld,zf4,d8,isAlloc,isRead])|(refine z0f ?_;simp (disch:=first|omega|rfl) only[sB,dAlloc,Za,Zb,one,reduceCtorEq,zr42,st42,e3])|(refine qZd ?_ ?_;simp only[sB,Za,reduceCtorEq];refine z01 ?_)|(refine qZm ?_ ?_;simp only[sB,Za,reduceCtorEq];refine z01 ?_))
    refine z03 rfl (by simp only[sB,Za,reduceCtorEq];rfl) ?_;rw[hfl'];exact⟨rfl,hs4,(hx1.trans (hx2.trans (hx3.trans hx4))).sx hs0⟩
   ·have d8:(d.1 == 2 && d.2 == (k:Int))=false:=by
     rw[Bool.and_eq_false_iff,beq_eq_false_iff_ne,beq_eq_false_iff_ne];by_cases q:d.1=2
     ·exact .inr fun q2=>heq (Prod.ext q q2)
     ·exact .inl q
    have hfl':bindS σ n c=({ σ with cells:=σ.cells.set k d,trail:=σ.trail++[(0,(n:Int))] },0):=by rw[bindS,if_neg (by omega),if_neg (by simp [hmay]),edr,ek,if_neg heq];rfl
    obtain⟨H5,e5,hx5,w5⟩:=z3g w4 14;have h5:=h.keep w4 hx5;have q5:=z0l (hx5.get w4 (hx4.get w3 g3));have l0':=h5.load (i:=0) rfl;have l2':=h5.load (i:=2) rfl;obtain⟨b2,e1',o2,ld2⟩:=h5.el1 (i:=2) (k:=n) (x:=int1 (gi σ.vars n)) rfl rfl (by rw[Zj,za2 hn];rfl);cases e1';rw[ek] at ld2;obtain⟨b3,cs,rfl,o3,gb,hle⟩:=h5.row (i:=0) (k:=k) rfl rfl (by simpa using hk);obtain⟨H6,e6,s6,x6⟩:=h5.write (i:=0) (k:=k) (y:=two d) w5 rfl rfl (by simpa using hk) gb rfl rfl;have hs6:St H6 B s { σ with cells:=σ.cells.set k d }:=⟨_,by simpa [flds,List.map_set] using s6⟩
    clear s6;have hle':k*2+2<=cs.length:=by rw[Zp] at hle;omega
    obtain⟨a0z,c0z,a1z,c1z,a2z,c2z,a3z,c3z,a4z,c4z,a5z,c5z,r6z,r7z,a8z,c8z,a9z,c9z,hz,l0z,l1z,l2z,l3z,l4z,l5z,l6z,l7z,l8z,l9z,b0z,b1z,b2z,b3z,b4z,b5z,b8z,b9z⟩:=hs6.open
    repeat' (first|refine qZa ?_|refine qZg ?_|(refine qZe ?_;try simp only[sA])|(refine qZb ?_;simp (disch:=first|omega|rfl) only[sB,Za,Zb,Value.cells,one,reduceCtorEq,Zr,layC,zct,ld73,zu8,zsy,z07,z0a,z13 rfl,l8z])|(refine qZj (id:=7) [([(0,0),(1,0),(2,0),(3,0),(4,0),(5,0),(6,0),(7,0),(8,0),(9,0),(10,0)],none)] ?_ ?_;kernel_rfl;simp (disch:=first|omega|rfl) only[sD,sB,Za,Zb,Value.cells,one,reduceCtorEq,Zr,layC,ld42,z3r,ld28,ia28,ld3,bd42,z07,z0a,e4,q4,l2,ld,zf4,d8,isAlloc,isRead])|(refine qZj (id:=9) [([(0,0),(1,0),(2,0),(3,0),(4,0),(5,0),(6,0),(7,0),(8,0),(9,0),(10,0),(11,0),(12,0)],some 13),([],none)] ?_ ?_;kernel_rfl;simp (disch:=first|omega|rfl) only[sD,sB,Za,Zb,one,reduceCtorEq,ld42,st42,z3r,ld28,ia28,ld3,z1n,ld27,ia27,z07,z0a,e5,q5,l0',l2',ld2,gb,hle',e6,isAlloc,isRead])|(refine z0f ?_;simp (disch:=first|omega|rfl) only[sB,dAlloc,Za,Zb,one,reduceCtorEq,zr42,st42,e3])|(refine qZm ?_ ?_;simp only[sB,Za,reduceCtorEq];refine z01 ?_))
    obtain⟨H7,e7,hx7,g7,n7,w7⟩:=new1 x6.wf (.row (two (0,(n:Int))) 121);simp only[e7];obtain⟨H8,k8,e8,g8,-,-,H9,e9,s9,x9⟩:=(hz.keep x6.wf hx7).pushed (P:=Tryz.prog) (i:=8) (c1:=1) w7 ap73 rfl rfl (z0l g7).1 rfl rfl (by simpa using hm);simp only[List.set_cons_zero,List.set_cons_succ,Zp] at e8 e9;have hs9:St H9 B s { σ with cells:=σ.cells.set k d,trail:=σ.trail++[(0,(n:Int))] }:=⟨_,by simpa [flds,List.map_set] using s9⟩
    clear s9
    repeat' (first|refine qZa ?_|(refine qZf ?_)|(refine qZb ?_;simp only[sA])|(refine z0f ?_;simp (disch:=first|omega|rfl) only[sB,Za,Zb,one,reduceCtorEq,Zr,zct,st73,z07,z0a,e8,g8,e9]))
    refine z03 rfl (by simp only[sB,Za,reduceCtorEq];rfl) ?_;rw[hfl'];exact⟨rfl,hs9,((hx1.trans (hx2.trans (hx3.trans (hx4.trans hx5)))).sx hs0).trans (x6.trans ((hx7.sx (hs6.lt x6.wf)).trans x9))⟩
  ·rw[if_neg hmay] at hde;obtain⟨rfl,rfl⟩:=hde;have d9:((130:Int) != 0)=true:=rfl;have hfl':bindS σ n c=(σ,130):=by rw[bindS,if_neg (by omega),if_pos (by simpa using hmay)]
   repeat' (first|refine qZa ?_|refine qZg ?_|(refine qZf ?_;try simp only[z04,z02])|(refine qZb ?_;simp only[sB,Za,reduceCtorEq,d9])|(refine z0f ?_;simp (disch:=first|omega|rfl) only[sB,dAlloc,Za,Zb,one,reduceCtorEq,zr42,st42])|(refine qZd ?_ ?_;simp only[sB,Za,reduceCtorEq];refine z01 ?_))
   refine z03 rfl (by simp only[sB,Za,reduceCtorEq];rfl) ?_;rw[hfl'];have hx3:=((HX.refl hx2.wf).new (some (.row [.int .i64 0,.int .i64 0] 42))).put (Ze _) (Zf _) (some (.row (two (0,0)) 42));exact⟨rfl,hs2.keep hx2.wf hx3,(hx1.trans (hx2.trans hx3)).sx hs0⟩
 ·have hfl':bindS σ v c=(σ,freeS σ v):=by rw[bindS,if_pos h0]
  repeat' (first|refine qZa ?_|(refine qZf ?_;try simp only[z04,z02])|(refine qZb ?_;simp only[sB,Za,reduceCtorEq,z29 h0])|(refine qZd ?_ ?_;simp only[sB,Za,reduceCtorEq];refine z01 ?_))
  refine z03 rfl (by simp only[sB,Za,reduceCtorEq];rfl) ?_;rw[hfl'];exact⟨rfl,hs1,hx1.sx hs0⟩
end Go.Proofs.hq
end

section
namespace Go.Proofs.hq
open Go Go.RowKit Go.Hb
variable {ok:Ok}
set_option maxRecDepth 10000
attribute [local irreducible] LX LG EL STG SOP SGO SGD SAL SRD SEF SEG SLK SCK ES
abbrev e0:ByteArray:=Zh
def zeroTm:Tm:=.mk 0 e0 e0 0 0 []
def varTm (n:Int):Tm:=.mk 1 e0 e0 0 n []
def stepT (f:(Int × Int)->Nat->Tm × Nat) (g:Nat->Int × Int) (p:List Tm × Nat) (i:Nat):List Tm × Nat:=if p.2<=4000 then (p.1++[(f (g i) p.2).1],(f (g i) p.2).2) else p
noncomputable def toldF (σ:SS):Nat->(Int × Int)->Nat->Tm × Nat
  |0,_,n=>(zeroTm,n)
  |k+1,c,n=>if (dr σ.cells c).1=2 then (varTm (ci σ.cells (dr σ.cells c).2).2,n+1) else if (dr σ.cells c).1=3 then ((σ.consts[(dr σ.cells c).2.toNat]?).getD zeroTm,n+1) else
    (.mk 5 ((σ.funs[(ci σ.cells (dr σ.cells c).2).2.toNat]?).getD (e0,0)).1 e0 0 0 ((Zg ((σ.funs[(ci σ.cells (dr σ.cells c).2).2.toNat]?).getD (e0,0)).2.toNat).foldl (stepT (toldF σ k) fun i=>ci σ.cells ((dr σ.cells c).2+1+i)) ([],n+1)).1,
     ((Zg ((σ.funs[(ci σ.cells (dr σ.cells c).2).2.toNat]?).getD (e0,0)).2.toNat).foldl (stepT (toldF σ k) fun i=>ci σ.cells ((dr σ.cells c).2+1+i)) ([],n+1)).2)
theorem zrq {k:Int}{s u:ByteArray}{b v:Int}{l:List Tm}:(Tm.mk k s u b v l).args=l:=_root_.id rfl
inductive ShOk (σ:SS) (d:Int × Int):Prop
  |var:d.1=2->0<=d.2->d.2 < σ.cells.length->i64 (ci σ.cells d.2).2->ShOk σ d
  |con:d.1=3->0<=d.2->d.2 < σ.consts.length->ShOk σ d
  |str (f:Nat):d.1=4->0<=d.2->d.2 < σ.cells.length->(ci σ.cells d.2).2=(f:Int)->(hf:f < σ.funs.length)->0<=σ.funs[f].2->σ.funs[f].2<=1000->(∀i:Nat,(i:Int) < σ.funs[f].2->d.2+1+i < σ.cells.length/\mayS σ (ci σ.cells (d.2+1+i))=true)->ShOk σ d
structure TOk (σ:SS):Prop where
  go:∀c,mayS σ c=true->∃m d,Der σ.cells m c d/\ShOk σ d
  con:∀t∈σ.consts,Bd t/\t.args=[]
  fn:∀k∈σ.funs,k.1.size<=maxLen
  few:σ.cells.length<=most
theorem zdb {f:(Int × Int)->Nat->Tm × Nat}{g:Nat->Int × Int}{p:List Tm × Nat}(h:¬p.2<=4000):∀l:List Nat,l.foldl (stepT f g) p=p
  |[]=>rfl
  |i :: l=>by
    have e:stepT f g p i=p:=by unfold stepT;rw[if_neg h]
    rw[ZP,e,zdb h l]
theorem z8v {f:(Int × Int)->Nat->Tm × Nat}{g:Nat->Int × Int}{p:List Tm × Nat}{i n:Nat}(hi:i<=n) (h:¬((Zg i).foldl (stepT f g) p).2<=4000):(Zg n).foldl (stepT f g) p=(Zg i).foldl (stepT f g) p:=by
  obtain⟨k,rfl⟩:=Nat.exists_eq_add_of_le hi;rw[List.range_add,List.foldl_append,zdb h]
theorem z7g (σ:SS):∀(k:Nat) (c:Int × Int) (n:Nat),n<=4000->n<=(toldF σ k c n).2/\(toldF σ k c n).2<=4001
  |0,c,n,h=>by rw[toldF];simp only;omega
  |k+1,c,n,h=>by
    have key:∀(g:Nat->Int × Int) (l:List Nat) (p:List Tm × Nat),p.2<=4001->p.2<=(l.foldl (stepT (toldF σ k) g) p).2/\(l.foldl (stepT (toldF σ k) g) p).2<=4001:=by
      intro g l
      induction l with
      |nil=>intro p hp;exact⟨Ze _,hp⟩
      |cons i l ih =>
        intro p hp;rw[ZP];by_cases q:p.2<=4000
        · have e:stepT (toldF σ k) g p i=(p.1++[(toldF σ k (g i) p.2).1],(toldF σ k (g i) p.2).2):=by unfold stepT;rw[if_pos q]
          have h1:=z7g σ k (g i) p.2 q;have h2:=ih (stepT (toldF σ k) g p i) (by rw[e];exact h1.2);rw[e] at h2 ⊢;simp only at h2 ⊢;omega
        · have e:stepT (toldF σ k) g p i=p:=by unfold stepT;rw[if_neg q]
          rw[e];exact ih p hp
    rw[toldF];split
    · simp only;omega
    · split
      · simp only;omega
      · have:=key (fun i=>ci σ.cells ((dr σ.cells c).2+1+i)) (Zg ((σ.funs[(ci σ.cells (dr σ.cells c).2).2.toNat]?).getD (e0,0)).2.toNat) ([],n+1) (by simp only;omega);simp only at this ⊢;omega
theorem zh6 {f:(Int × Int)->Nat->Tm × Nat}{g:Nat->Int × Int}:∀(i:Nat) (n:Nat),(∀j,j < i->((Zg j).foldl (stepT f g) ([],n)).2<=4000)->((Zg i).foldl (stepT f g) ([],n)).1.length=i
  |0,_,_=>rfl
  |i+1,n,hj=>by
    have h1:=hj i (Zf _);have ih:=zh6 (f:=f) (g:=g) i n fun j hji=>hj j (Nat.lt_succ_of_lt hji)
    rw[List.range_succ,List.foldl_append,ZP,List.foldl_nil];generalize (Zg i).foldl (stepT f g) ([],n)=p at *;unfold stepT;rw[if_pos h1];simp only[Zm,ZN];rw[ih]
theorem z8w {f:(Int × Int)->Nat->Tm × Nat}{g:Nat->Int × Int}{i n:Nat}{acc:List Tm}{m:Nat}(h:(Zg i).foldl (stepT f g) ([],n)=(acc,m)) (hm:m<=4000) :
    (Zg (i+1)).foldl (stepT f g) ([],n)=(acc++[(f (g i) m).1],(f (g i) m).2):=by
  rw[List.range_succ,List.foldl_append,ZP,List.foldl_nil,h];unfold stepT;rw[if_pos hm]
set_option maxHeartbeats 8000000 in
theorem zrr {B s pn:Nat}{σ:SS}(hT:TOk σ):∀(k:Nat) {c:Int × Int}{n:Nat}{H:Heap},n<=4000->4001 - n<=k->mayS σ c=true->St H B s σ->H.wf->H.get pn=some (.row [.int .i64 (n:Nat)] 3)->¬Mut H s pn ->
    EvF Tryz.prog okT 51 [.pointer (some ⟨s,0,none⟩),.agg ⟨two c⟩,.pointer (some ⟨pn,0,none⟩)] H fun r H'=>∃cs,r=.agg ⟨cs⟩/\RepF H' 40 (Rg H.next H'.next) (toldF σ k c n).1 cs/\H'.get pn=some (.row [.int .i64 ((toldF σ k c n).2:Nat)] 3)/\HK (fun n=>n=pn) H H':=by
  intro k
  induction k with
  |zero=>intro c n H h1 h2;omega
  |succ k ih =>
  intro c n H hn hk hmay hs hw gn hmn;have hs0:=hs.lt hw;have ln:=hw _ _ gn;obtain⟨m,d,hd,hsh⟩:=hT.go c hmay;have ed:=z4f hd;refine EvF.enter rfl Tryz.func51 (by decide) rfl ?_;(repeat refine qZa ?_);refine qZb ?_;simp (disch:=first|omega|rfl) only[sB,initTm,dBox,dAlloc,Za,Zb,Value.cells,one,reduceCtorEq,zr40];obtain⟨H1,e1,hx1,g1,g1',n1,w1⟩:=new2 hw (.row (two c) 42) (.row zero6 40);simp only[e1];have q1:=z0l g1;have gn1:=hx1.get hw gn;have qn1:=z3u gn1;have ewn:IntKind.i64.wrap ((n:Int)+1)=((n+1:Nat):Int):=by rw[z05]<;>omega
  obtain⟨H2,e2⟩:∃H2,H1.put pn (some (.row [.int .i64 ((n+1:Nat):Int)] 3))=H2:=⟨_,rfl⟩
  have hk2:HK (fun n=>n=pn) H H2:=by rw[<-e2];exact HK.put (S:=fun n=>n=pn) (hx1.hk _) (.inl rfl) (hx1.lt hw gn) _
  have w2:=hk2.wf;have g2:H2.get H.next=some (.row (two c) 42):=by rw[<-e2,get_put,if_neg (by omega)];exact g1
  have g2':H2.get (H.next+1)=some (.row zero6 40):=by rw[<-e2,get_put,if_neg (by omega)];exact g1'
  have gn2:H2.get pn=some (.row [.int .i64 ((n+1:Nat):Int)] 3):=by rw[<-e2,get_put,if_pos rfl]
  obtain⟨hs2,-⟩:=hs.beside hw hk2 fun n e=>e ▸ hmn
  have q2:=z0l g2
  repeat' (first|refine qZa ?_|(refine qZb ?_;simp (disch:=first|omega|rfl) only[sB,dAlloc,Za,one,reduceCtorEq,ld3,st3,ld42,cl91,zr42,z07,z0a,qn1,gn1,ewn,e2,q2]))
  refine(zh4 hs2 w2 hd).mono ?_;rintro r H3 ⟨rfl,hx3⟩;obtain⟨H4,e4,hx4,g4,n4,w4⟩:=z0o hx3.wf (.row [.int .i64 0,.int .i64 0] 42) (.row (two d) 42);have q4:=z0l g4;have hx24:=hx3.trans hx4;have hs4:=hs2.keep w2 hx24;have g4':=hx24.get w2 g2';have gn4:=hx24.get w2 gn2;have hk4:=hk2.trans (hx24.hk _);cases hsh with
  |var d2 h1 h2 h3 =>
    obtain⟨v,ev⟩:=Zk h1;have hv:v < σ.cells.length:=by omega
    obtain⟨H5,e5,hx5,w5⟩:=z3g w4 11;have hs5:=hs4.keep w4 hx5;obtain⟨a0,c0,a1,c1,a2,c2,a3,c3,a4,c4,a5,c5,r6,r7,a8,c8,a9,c9,h,l0,l1,l2,l3,l4,l5,l6,l7,l8,l9,b0,b1,b2,b3,b4,b5,b8,b9⟩:=hs5.open;obtain⟨b,rfl,o,ld⟩:=h.el (i:=0) (k:=v) (x:=two (ci σ.cells v)) rfl rfl (by rw[Zj,z35 hv];rfl);have lp:=o.part (i:=v) (j:=1) (n:=1) (x:=two (ci σ.cells v)) (by rw[Zj,z35 hv];rfl) (by omega);have q5:=z0l (hx5.get w4 g4);rw[ev] at q5;have g5':=hx5.get w4 g4'
    repeat' (first|refine qZa ?_|refine qZg ?_|(refine qZf ?_;try simp only[z04,z02])|(refine qZb ?_;simp only[sB,Za,reduceCtorEq,ld3,z0w,q4,z0v d2])|(refine qZj (id:=5) [([(0,0),(1,0),(2,0),(3,0),(4,0),(5,0),(6,0),(7,0),(8,0),(9,0)],some 10),([],none)] ?_ ?_;kernel_rfl;simp (disch:=first|omega|rfl) only[sD,sB,Za,Zb,Value.cells,one,reduceCtorEq,Zr,layC,ld3,z1n,ld27,z21,ia27,bd40,st40,z07,z0a,e5,q5,l0,lp,g5',isAlloc,isRead])|(refine z0f ?_;simp (disch:=first|omega|rfl) only[sB,Zb,one,st42,e4])|(refine qZd ?_ ?_;simp only[sB,Za,reduceCtorEq];refine z01 ?_))
    refine z0s rfl (by simp only[sB,Za,reduceCtorEq];rfl) (by simp only[sB,Zb,cutC,ld40];rfl) ?_;have et:toldF σ (k+1) c n=(varTm (ci σ.cells v).2,n+1):=by rw[toldF,ed,if_pos d2,ev]
    rw[et];have hk5:=hk4.trans (hx5.hk (fun n=>n=pn));have hk6:=hk5.put (i:=H.next+1) (.inr (by omega)) (w5 _ _ g5') (some (.row (six (varTm (ci σ.cells v).2) none 0) 40));refine⟨_,rfl,⟨none,0,rfl,⟨by show i64 1;exact⟨by decide,by decide⟩,ZA _,ZA _,by show u64 0;exact⟨by decide,by decide⟩,by rw[ev] at h3;exact h3⟩,.nil _⟩,?_,hk6⟩;rw[get_put,if_neg (by omega)];exact hx5.get w4 gn4
  |con d3 h1 h2 =>
    have d2:¬d.1=2:=by omega
    obtain⟨v,ev⟩:=Zk h1;have hv:v < σ.consts.length:=by omega
    obtain⟨H5,e5,hx5,w5⟩:=z3g w4 9;have hs5:=hs4.keep w4 hx5;obtain⟨a0,c0,a1,c1,a2,c2,a3,c3,a4,c4,a5,c5,r6,r7,a8,c8,a9,c9,h,l0,l1,l2,l3,l4,l5,l6,l7,l8,l9,b0,b1,b2,b3,b4,b5,b8,b9⟩:=hs5.open;obtain⟨b,rfl,o,ld⟩:=h.el (i:=4) (k:=v) (x:=six0 σ.consts[v]) rfl rfl (by rw[Zj,Zc hv];rfl);have q5:=z0l (hx5.get w4 g4);rw[ev] at q5;have g5':=hx5.get w4 g4';have hcon:=hT.con _ (ZD hv)
    repeat' (first|refine qZa ?_|refine qZg ?_|(refine qZf ?_;try simp only[z04,z02])|(refine qZb ?_;simp only[sB,Za,reduceCtorEq,ld3,z0w,q4,z0h d2,z0v d3])|(refine qZj (id:=7) [([(0,0),(1,0),(2,0),(3,0),(4,0),(5,0),(6,0),(7,0)],some 8),([],none)] ?_ ?_;kernel_rfl;simp (disch:=first|omega|rfl) only[sD,sB,Za,Zb,one,reduceCtorEq,ld3,z21,st40,zcv,ld32,ia32,ld40,z07,z0a,e5,q5,l4,ld,g5',isAlloc,isRead])|(refine z0f ?_;simp (disch:=first|omega|rfl) only[sB,Zb,one,st42,e4])|(refine qZd ?_ ?_;simp only[sB,Za,reduceCtorEq];refine z01 ?_)|(refine qZm ?_ ?_;simp only[sB,Za,reduceCtorEq];refine z01 ?_))
    refine z0s rfl (by simp only[sB,Za,reduceCtorEq];rfl) (by simp only[sB,Zb,cutC,ld40];rfl) ?_;have et:toldF σ (k+1) c n=(σ.consts[v],n+1):=by rw[toldF,ed,if_neg d2,if_pos d3,ev,Zv,Zc hv];rfl
    rw[et];have hk5:=hk4.trans (hx5.hk (fun n=>n=pn));have hk6:=hk5.put (i:=H.next+1) (.inr (by omega)) (w5 _ _ g5') (some (.row (six0 σ.consts[v]) 40));refine⟨_,rfl,⟨none,0,rfl,hcon.1,by rw[hcon.2];exact .nil _⟩,?_,hk6⟩;rw[get_put,if_neg (by omega)];exact hx5.get w4 gn4
  |str f d4 h1 h2 h3 hf h5 h6 h7 =>
    have d2:¬d.1=2:=by omega
    have d3:¬d.1=3:=by omega
    obtain⟨v,ev⟩:=Zk h1;have hv:v < σ.cells.length:=by omega
    have hs4':=hs4.keep w4 ((HX.refl w4).bump 17);obtain⟨a0,c0,a1,c1,a2,c2,a3,c3,a4,c4,a5,c5,r6,r7,a8,c8,a9,c9,h,l0,l1,l2,l3,l4,l5,l6,l7,l8,l9,b0,b1,b2,b3,b4,b5,b8,b9⟩:=hs4'.open;obtain⟨b,rfl,o,ld⟩:=h.el (i:=0) (k:=v) (x:=two (ci σ.cells v)) rfl rfl (by rw[Zj,z35 hv];rfl);have lp:=o.part (i:=v) (j:=1) (n:=1) (x:=two (ci σ.cells v)) (by rw[Zj,z35 hv];rfl) (by omega);rw[ev] at h3;obtain⟨b5,rfl,o5,ld5⟩:=h.el (i:=5) (k:=f) (x:=keyC σ.funs[f]) rfl rfl (by rw[Zj,Zc hf];rfl);have q5:=q4;rw[ev] at q5;simp only[z4j] at l0 l5 ld ld5 lp;simp only[List.drop_succ_cons,List.drop_zero,List.take_succ_cons,List.take_zero,h3] at lp
    repeat' (first|refine qZa ?_|refine qZg ?_|(refine qZe ?_;try simp only[sA])|(refine qZb ?_;simp (disch:=first|omega|rfl) only[sB,dAlloc,Za,Zb,Value.cells,one,reduceCtorEq,cutC,Zr,layC,zr40,ld3,z0w,bd40,st40,zqm,ld9,q5,z0h d2,z0h d3])|(refine qZj (id:=8) [([(0,0),(1,0),(2,0),(3,0),(4,0),(5,0),(6,0),(7,0),(8,0),(9,0),(10,0),(11,0),(12,0),(13,0),(14,0),(15,0)],some 16),([],none)] ?_ ?_;kernel_rfl;simp (disch:=first|omega|rfl) only[sD,sB,dAlloc,Za,Zb,one,reduceCtorEq,ld3,z1n,ld27,z21,ia27,zgu,ld33,ia33,zb4,zik,zil,z07,z0a,q5,l0,l5,lp,ld5,isAlloc,isRead,dalloc])|(refine z0f ?_;simp (disch:=first|omega|rfl) only[sB,Zb,one,st42,e4])|(refine qZm ?_ ?_;simp only[sB,Za,reduceCtorEq];refine z01 ?_))
    obtain⟨H5,e5,hx5,g5,w5⟩:=zo8 w4 17 15 (by omega) (.row [.string e0,.int .i64 0] 116) (.row (keyC σ.funs[f]) 116);have n5:H5.next=H4.next+17:=by rw[<-e5];rfl
    obtain⟨H6,e6,hx6,g6,n6,w6⟩:=z0o w5 (.row zero6 40) (.row [.int .i64 5,.string σ.funs[f].1,.string e0,.int .u64 0,.int .i64 0,.slice none 0 0] 40);rw[n5] at e6 g6;obtain⟨N,eN⟩:=Zk h5;have hmm:most=34359738368:=rfl;have hfew:=hT.few;have hx46:=hx5.trans hx6;have hk6:=hk4.trans (hx46.hk (fun n=>n=pn));have hs6:=hs4.keep w4 hx46;have hl4:=hx4.next;have hl3:=hx3.next;have hln2:H2.next=H1.next:=by rw[<-e2];rfl
    generalize hg:(fun i:Nat=>ci σ.cells (d.2+1+i))=g;have hgi:∀i:Nat,g i=ci σ.cells (d.2+1+i):=fun i=>by rw[<-hg]
    have hmn6:∀{G:Heap},HK (fun n=>n=pn) H G->¬Mut G s pn:=fun hkG q=>hmn ((hs.beside hw hkG fun n e=>e ▸ hmn).2 _ q)
    refine qZk (fun j st=>∃tm H' i acc m a c,st=⟨tm,[],H'⟩/\j=N - i/\i<=N/\tm.get 0=some (.pointer (some ⟨s,0,none⟩))/\tm.get 2=some (.pointer (some ⟨pn,0,none⟩))/\tm.get 6=some (.pointer (some ⟨H.next+1,0,none⟩))/\tm.get 7=some (.pointer (some ⟨H3.next,0,none⟩)) /\
        tm.get 8=some (.pointer (some ⟨H4.next+15,0,none⟩))/\tm.get 9=some (.pointer (some ⟨H4.next+17,0,none⟩))/\tm.get 10=some (.int .i64 (i:Nat))/\(Zg i).foldl (stepT (toldF σ k) g) ([],n+1)=(acc,m)/\n+1<=m/\m<=4001/\(∀j,j < i->((Zg j).foldl (stepT (toldF σ k) g) ([],n+1)).2<=4000) /\
        H'.get pn=some (.row [.int .i64 (m:Nat)] 3)/\H'.get (H.next+1)=some (.row zero6 40)/\H'.get H3.next=some (.row (two d) 42)/\H'.get (H4.next+15)=some (.row (keyC σ.funs[f]) 116) /\
        H'.get (H4.next+17)=some (.row (six (.mk 5 σ.funs[f].1 e0 0 0 acc) a c) 40)/\FL H' 40 (Rg H6.next H'.next) acc a c/\HK (fun n=>n=pn) H H'/\H6.next<=H'.next) ?_ N _ ?_
    · rintro j st ⟨tm,H',i,acc,m,a,c',rfl,rfl,hi,t0,t2,t6,t7,t8,t9,t10,hP,hm1,hm2,hall,gnG,g6G,g7G,g8G,g9G,hfl,hkG,hnG⟩;have wG:=hkG.wf;have q8:=z0l g8G;rw[eN] at q8;have qn:=z3u gnG;have hcmp:toldF σ (k+1) c n=(.mk 5 σ.funs[f].1 e0 0 0 ((Zg N).foldl (stepT (toldF σ k) g) ([],n+1)).1,((Zg N).foldl (stepT (toldF σ k) g) ([],n+1)).2):=by
        rw[toldF,ed,if_neg d2,if_neg d3,ev,h3,Zv,Zc hf,Option.getD_some,eN,Zv,<-ev,hg]
      have hbd:Bd (.mk 5 σ.funs[f].1 e0 0 0 acc):=⟨by show i64 5;exact⟨by decide,by decide⟩,hT.fn _ (ZD hf),ZA _,by show u64 0;exact⟨by decide,by decide⟩,by show i64 0;exact⟨by decide,by decide⟩⟩
      have hfin:(Zg N).foldl (stepT (toldF σ k) g) ([],n+1)=(acc,m)->∃cs,Value.agg ⟨six (.mk 5 σ.funs[f].1 e0 0 0 acc) a c'⟩=.agg ⟨cs⟩/\RepF (H'.put (H.next+1) (some (.row (six (.mk 5 σ.funs[f].1 e0 0 0 acc) a c') 40))) 40 (Rg H.next (H'.put (H.next+1) (some (.row (six (.mk 5 σ.funs[f].1 e0 0 0 acc) a c') 40))).next) (toldF σ (k+1) c n).1 cs /\
          (H'.put (H.next+1) (some (.row (six (.mk 5 σ.funs[f].1 e0 0 0 acc) a c') 40))).get pn=some (.row [.int .i64 ((toldF σ (k+1) c n).2:Nat)] 3)/\HK (fun n=>n=pn) H (H'.put (H.next+1) (some (.row (six (.mk 5 σ.funs[f].1 e0 0 0 acc) a c') 40))):=fun he=>by
        rw[hcmp,he];refine⟨_,rfl,⟨a,c',rfl,hbd,?_⟩,?_,hkG.put (.inr (by omega)) (wG _ _ g6G) _⟩
        · refine(hfl.heap (fun x hx hl=>?_) wG).sub fun x hx=>?_
          · have:=hx.1;rw[get_put,if_neg (by omega)]
          · have:=hx.1;have:=hx.2;rw[z14];exact⟨by omega,by omega⟩
        · rw[get_put,if_neg (by omega)];exact gnG
      by_cases hlt:i < N
      · by_cases h4:m<=4000
        · have d5:decide ((m:Int)<=4000)=true:=decide_eq_true (by omega);have h7i:=h7 i (by omega);have hvi:v+1+i < σ.cells.length:=by have:=h7i.1;omega
          have hsG:=(hs.beside hw hkG fun n e=>e ▸ hmn).1;obtain⟨Hc,ec,hxc,wc⟩:=z3g wG 20;have hsc:=hsG.keep wG hxc;obtain⟨a0y,c0y,a1y,c1y,a2y,c2y,a3y,c3y,a4y,c4y,a5y,c5y,r6y,r7y,a8y,c8y,a9y,c9y,hy,l0y,l1y,l2y,l3y,l4y,l5y,l6y,l7y,l8y,l9y,b0y,b1y,b2y,b3y,b4y,b5y,b8y,b9y⟩:=hsc.open;have egi:g i=ci σ.cells ((v+1+i:Nat):Int):=by rw[hgi,ev];congr 1
          obtain⟨b9,rfl,o9,ld9⟩:=hy.el (i:=0) (k:=v+1+i) (x:=two (g i)) rfl rfl (by rw[Zj,z35 hvi,egi];rfl);have q7:=z0l (hxc.get wG g7G);rw[ev] at q7;have ew1:IntKind.i64.wrap ((v:Int)+1)=((v+1:Nat):Int):=by rw[z05]<;>omega
          have ew2:IntKind.i64.wrap (((v+1:Nat):Int)+(i:Int))=((v+1+i:Nat):Int):=by rw[z05]<;>omega
          have ew3:IntKind.i64.wrap ((i:Int)+1)=((i+1:Nat):Int):=by rw[z05]<;>omega
          repeat' (first|refine qZa ?_|refine qZg ?_|(refine qZe ?_;try simp only[z00])|(refine qZb ?_;simp only[sB,Za,ld3,zb5,z07,z0a,t2,t8,t10,q8,qn,decl hlt,d5])|(refine qZj (id:=13) [([(2,0),(3,0),(4,0),(5,0),(6,0),(7,0),(8,0),(9,0),(10,0),(11,0),(12,0),(13,0),(14,0)],some 15),([(0,0),(1,0),(16,1)],some 17),([(18,2)],some 19),([],none)] ?_ ?_;kernel_rfl;simp (disch:=first|omega|rfl) only[sD,sB,Za,Zb,reduceCtorEq,ld3,ld42,z1n,ld27,z21,ia27,cl51,z07,z0a,t0,t2,t7,t10,ec,l0y,q7,ew1,ew2,ld9,isAlloc,isRead])|(refine qZd ?_ ?_;simp only[sB,Za];refine z01 ?_))
          refine(ih (c:=g i) (n:=m) h4 (by omega) (by rw[hgi];exact h7i.2) hsc wc (hxc.get wG gnG) (hmn6 (hkG.trans (hxc.hk _)))).mono ?_;rintro r Hd ⟨cs,rfl,⟨a2,c2,rfl,hbd2,hfl2⟩,gnd,hkd⟩;have hnc:Hc.next=H'.next+20:=by rw[<-ec]
          have hnd:=hkd.next;have wd:=hkd.wf;have q9:=row6 g9G;have g9d:Hd.get (H4.next+17)=some (.row (six (.mk 5 σ.funs[f].1 e0 0 0 acc) a c') 40):=hkd.get wc (hxc.get wG g9G) (by omega);have q9d:=row6 g9d;obtain⟨He,ee⟩:∃He,Hd.put (H'.next+16) (some (.row (six (toldF σ k (g i) m).1 a2 c2) 40))=He:=⟨_,rfl⟩
          have hke:HK (fun n=>n=H'.next+16) Hd He:=by rw[<-ee];exact(HK.refl (S:=fun n=>n=H'.next+16) wd).put (.inl rfl) (by omega) _
          have we:=hke.wf;have ne:He.next=Hd.next:=by rw[<-ee];rfl
          have ge:He.get (H'.next+16)=some (.row (six (toldF σ k (g i) m).1 a2 c2) 40):=by rw[<-ee,get_put,if_pos rfl]
          have hle:=z7g σ k (g i) m h4;have hlen:acc.length=i:=by have:=zh6 (f:=toldF σ k) (g:=g) i (n+1) hall;rw[hP] at this;exact this
          have h64:i < 1000:=by omega
          have hflE:FL He 40 (Rg H6.next H'.next) acc a c':=hfl.heap (fun x hx hl=>by
            have:=hx.1;have:=hx.2;rw[hke.keep x (by omega) (by omega),hkd.keep x (by omega) (by omega),hxc.keep x (by omega)]) wG
          have hflU:FL He 40 (Rg Hc.next Hd.next) (toldF σ k (g i) m).1.args a2 c2:=hfl2.heap (fun x hx hl=>by
            have:=hx.1;have:=hx.2;rw[hke.keep x (by omega) (by omega)]) wd
          obtain⟨Hf,ef,hfl3,hkf,nf⟩:=FL.push (P:=Tryz.prog) (S2:=Rg H6.next (He.next+1)) (c1:=1) ap32 hflE we (row6 ge).2.2.2.2.2.2 hflU hbd2 (fun x h1 h2=>by have:=h1.1;have:=h2.2;omega) (fun x h=>by have:=h.2;omega) (fun x h=>by have:=h.2;omega) (by unfold most;omega)
            (fun x h=>by rcases h with h|h|h;exact⟨h.1,by have:=h.2;omega⟩;exact⟨by have:=h.1;omega,by have:=h.2;omega⟩;exact⟨by omega,by omega⟩)
          have g9f:Hf.get (H4.next+17)=some (.row (six (.mk 5 σ.funs[f].1 e0 0 0 acc) a c') 40):=hkf.get we (hke.get wd g9d (by omega)) (fun h=>by have:=h.1;omega);have q9c:=row6 (hxc.get wG g9G)
          repeat' (first|(refine qZb ?_;simp only[sB,Za,t10,ew3])|(refine z0p ?_;simp (disch:=first|omega|rfl) only[sV,sD,sB,Za,Zb,Value.cells,one,reduceCtorEq,layC,ld32,z1k,zgs,st32,t9,q9c,q9d,ee,ef,g9f,zrq,isAlloc,isRead,dalloc]))
          have wf:=hkf.wf;have lf9:=wf _ _ g9f;have hnf:=hkf.next;have hput:∀D,HK (fun n=>n=H4.next+17) Hf (Hf.put (H4.next+17) D):=fun D=>(HK.refl (S:=fun n=>n=H4.next+17) wf).put (.inl rfl) lf9 D
          have hold:∀x D,x < H6.next->x≠pn->x≠H4.next+17->(Hf.put (H4.next+17) D).get x=H'.get x:=fun x D h1 h2 h3=>by
            rw[(hput D).keep x (by omega) h3,hkf.keep x (by omega) (fun h=>by have:=h.1;omega),hke.keep x (by omega) (by omega),hkd.keep x (by omega) h2,hxc.keep x (by omega)]
          have hpn:∀D,(Hf.put (H4.next+17) D).get pn=Hd.get pn:=fun D=>by
            rw[(hput D).keep pn (by omega) (by omega),hkf.keep pn (by omega) (fun h=>by have:=h.1;omega),hke.keep pn (by omega) (by omega)]
          refine⟨_,by omega,_,_,i+1,acc++[(toldF σ k (g i) m).1],(toldF σ k (g i) m).2,some ⟨He.next,0,none⟩,acc.length+1,rfl,rfl,by omega,(by simp only[sG,reduceCtorEq,t0]),(by simp only[sG,Za,t2]),(by simp only[sG,Za,t6]),(by simp only[sG,Za,t7]),(by simp only[sG,Za,t8]),(by simp only[sG,Za,t9]),(by simp only[sG,Za]),z8w hP h4,by omega,hle.2,fun j hj=>?_,by rw[hpn];exact gnd,by rw[hold _ _ (by omega) (by omega) (by omega)];exact g6G,by rw[hold _ _ (by omega) (by omega) (by omega)];exact g7G,by rw[hold _ _ (by omega) (by omega) (by omega)];exact g8G,?_,?_,?_,?_⟩
          · by_cases hji:j < i
            · exact hall j hji
            · obtain rfl:j=i:=by omega
              rw[hP];exact h4
          · rw[get_put,if_pos rfl];show some (Blk.row [_,_,_,_,_,.slice (some ⟨He.next,0,none⟩) (acc.length+1) (acc.length+1)] _)=some (Blk.row [_,_,_,_,_,.slice (some ⟨He.next,0,none⟩) (acc++[(toldF σ k (g i) m).1]).length (acc.length+1)] _);rw[Zm];rfl
          · refine(hfl3.heap (fun x hx _=>?_) wf).sub fun x hx=>⟨hx.1,?_⟩
            · have:=hx.1;rw[get_put,if_neg (by omega)]
            · have:=hx.2;rw[z14];omega
          · refine⟨by rw[z14];omega,fun x h1 h2=>?_,(hput _).wf⟩;rw[hold x _ (by omega) h2 (by omega)];exact hkG.keep x h1 h2
          · rw[z14];omega
        · have d5:decide ((m:Int)<=4000)=false:=decide_eq_false (by omega);have q9:=row6 g9G
          repeat' (first|refine qZa ?_|(refine qZi ?_;try simp only[sB])|(refine qZf ?_)|(refine qZb ?_;simp (disch:=first|omega|rfl) only[sB,Za,Zb,one,ld3,st40,ld40,zb5,z07,z0a,t2,t6,t8,t9,t10,q8,qn,q9,g6G,decl hlt,d5])|(refine qZm ?_ ?_;simp only[sB,Za];refine z01 ?_))
          exact z0s rfl (by simp only[sB,Za,t6];rfl) (by simp only[sB,Zb,cutC,ld40]) (hfin (by rw[z8v hi (by rw[hP];exact h4),hP]))
      · obtain rfl:i=N:=by omega
        have q9:=row6 g9G
        repeat' (first|refine qZa ?_|(refine qZi ?_;try simp only[sB])|(refine qZf ?_)|(refine qZb ?_;simp (disch:=first|omega|rfl) only[sB,Za,Zb,one,ld3,st40,ld40,zb5,t6,t8,t9,t10,q8,q9,g6G,decn hlt,Zd])|(refine qZm ?_ ?_;simp only[sB,Za];refine z01 ?_))
        exact z0s rfl (by simp only[sB,Za,t6];rfl) (by simp only[sB,Zb,cutC,ld40]) (hfin hP)
    · have hc0:(0:Nat) < 1:=by omega
      simp only[e5,e6];have gn6:=hx46.get w4 gn4;refine⟨_,_,0,[],n+1,none,0,rfl,rfl,by omega,(by simp only[sG,reduceCtorEq]),(by simp only[sG,Za,reduceCtorEq]),(by simp only[sG,Za,reduceCtorEq]),(by simp only[sG,Za,reduceCtorEq]),(by simp only[sG,Za,reduceCtorEq]),(by simp only[sG,Za,reduceCtorEq]),(by simp only[sB,Za,reduceCtorEq];rfl),rfl,Ze _,by omega,fun j hj=>by omega,gn6,hx46.get w4 g4',hx46.get w4 g4,hx6.get w5 g5,g6,.nil _,hk6,Ze _⟩
noncomputable def termS (σ:SS) (c:Int × Int):Tm × Int:=if mayS σ c=false then (zeroTm,130) else if 4000 < (toldF σ 4001 c 0).2 then (zeroTm,131) else ((toldF σ 4001 c 0).1,0)
theorem z5l {H:Heap}{S:Nat->Prop}:RepF H 40 S zeroTm (six zeroTm none 0):=⟨none,0,rfl,⟨by show i64 0;exact⟨by decide,by decide⟩,ZA _,ZA _,by show u64 0;exact⟨by decide,by decide⟩,by show i64 0;exact⟨by decide,by decide⟩⟩,.nil _⟩
set_option maxHeartbeats 8000000 in
theorem zrs {H:Heap}{B s:Nat}{σ:SS}{c:Int × Int}(hT:TOk σ) (ho:σ.own.length=σ.cells.length) (hs:St H B s σ) (hw:H.wf) :
  EvF Tryz.prog okT 16 [.pointer (some ⟨s,0,none⟩),.agg ⟨two c⟩] H fun r H'=>∃cs,r=.tuple ⟨[.agg ⟨cs⟩,.int .i64 (termS σ c).2]⟩/\RepF H' 40 (Rg H.next H'.next) (termS σ c).1 cs/\HX H H':=by
 have hs0:=hs.lt hw;refine EvF.enter rfl Tryz.func16 (by decide) rfl ?_;(repeat refine qZa ?_);refine qZb ?_;simp (config:=qZc) (disch:=first|omega|rfl) only[sB,initTm,dBox,dAlloc,Value.cells,one,reduceCtorEq,zr40];obtain⟨H1,e1,hx1,g1,g1',n1,w1⟩:=new2 hw (.row (two c) 42) (.row zero6 40);simp only[e1];have q1:=z0l g1
 repeat' (first|refine qZa ?_|refine qZg ?_|(refine qZb ?_;simp (config:=qZc) only[sB,Za,reduceCtorEq,ld42,cl50,bEqP,q1])|(refine qZm ?_ ?_;simp (config:=qZc) only[sB,Za,reduceCtorEq];refine z01 ?_))
 refine(zq1 (hs.keep hw hx1) w1 ho).mono ?_;rintro r H2 ⟨rfl,hx2⟩;have q2:=z0l (hx2.get w1 g1);have g2':=hx2.get w1 g1';have hx12:=hx1.trans hx2;have hl2:=hx2.next;cases hm:mayS σ c with
 |false =>
  have et:termS σ c=(zeroTm,130):=by rw[termS,if_pos hm]
  repeat' (first|refine qZa ?_|(refine qZf ?_;try simp only[z04,z02])|(refine qZb ?_;simp (config:=qZc) (disch:=first|omega|rfl) only[sB,Za,Zb,Value.cells,one,reduceCtorEq,layC,bd40,st40,g2'])|(refine z0f ?_;simp (config:=qZc) only[sB,Za,reduceCtorEq,Zw])|(refine qZd ?_ ?_;simp (config:=qZc) only[sB,Za,reduceCtorEq];refine z01 ?_))
  rw[et];have hput:=hx12.pt (i:=H.next+1) (by omega) g2' (some (.row zero6 40));exact z0d rfl (by simp only[sB,Za,reduceCtorEq];rfl) (by simp only[sB,Zb,cutC,ld40];rfl) (by simp only[sG,Za,reduceCtorEq]) ⟨_,rfl,z5l,hput⟩
 |true =>
  have w2:=hx2.wf;obtain⟨H3,e3,hx3,g3,n3,w3⟩:=z0o w2 (.row [.int .i64 0] 3) (.row [.int .i64 0] 3);have hx13:=hx12.trans hx3;have hs3:=hs.keep hw hx13;have q3:=z0l (hx3.get w2 (hx2.get w1 g1));have g3':=hx3.get w2 g2';have nm3:=hs.fresh hw hx13 (n:=H2.next) (by omega)
  repeat' (first|refine qZa ?_|(refine qZe ?_;try simp only[sA])|(refine qZb ?_;simp (config:=qZc) (disch:=first|omega|rfl) only[sB,dAlloc,Za,one,reduceCtorEq,zr40,ld42,zr3,st3,cl51,e3,q3])|(refine z0f ?_;simp (config:=qZc) only[sB,Za,reduceCtorEq,Zn])|(refine qZm ?_ ?_;simp (config:=qZc) only[sB,Za,reduceCtorEq];refine z01 ?_))
  refine(zrr (n:=0) hT 4001 (by omega) (by omega) hm hs3 w3 g3 nm3).mono ?_;rintro r H4 ⟨cs,rfl,hrF,gn4,hk4⟩;obtain⟨a2,c2,rfl,hbd,hfl⟩:=hrF;have g4':=hk4.get w3 g3' (by omega);have hle:=z7g σ 4001 c 0 (by omega);have w4:=hk4.wf;have hn4:=hk4.next;obtain⟨H5,e5,hx5,g5,n5,w5⟩:=z0o w4 (.row zero6 40) (.row (six (toldF σ 4001 c 0).1 a2 c2) 40);have q5:=row6 g5;have qn5:=z3u (hx5.get w4 gn4);have g5':=hx5.get w4 g4';have hxk:HX H H4:=hx13.then hk4 fun n hn e=>by omega
  have hx5':=hxk.trans hx5;have hflF:∀D,FL (H5.put (H.next+1) D) 40 (Rg H.next (H5.put (H.next+1) D).next) (toldF σ 4001 c 0).1.args a2 c2:=fun D=>by
   refine((hfl.keep hx5 w4).heap (fun x hx _=>?_) w5).sub fun x hx=>?_
   ·have:=hx.1;rw[get_put,if_neg (by omega)]
   ·have h1:=hx.1;have h2:=hx.2;have:=hx5.next;rw[z14];exact⟨by omega,by omega⟩
  by_cases h4:4000 < (toldF σ 4001 c 0).2
  ·have d4:decide (((toldF σ 4001 c 0).2:Int) > 4000)=true:=decide_eq_true (by omega);have et:termS σ c=(zeroTm,131):=by rw[termS,if_neg (by rw[hm];simp),if_pos h4]
   repeat' (first|refine qZa ?_|(refine qZf ?_;try simp only[z04,z02])|(refine qZb ?_;simp (config:=qZc) (disch:=first|omega|rfl) only[sB,Za,Zb,Value.cells,one,reduceCtorEq,layC,bd40,st40,ld3,qn5,g5',d4])|(refine z0f ?_;simp (config:=qZc) (disch:=first|omega|rfl) only[sB,Zb,one,st40,e5])|(refine qZd ?_ ?_;simp (config:=qZc) only[sB,Za,reduceCtorEq];refine z01 ?_))
   rw[et];exact z0d rfl (by simp only[sB,Za,reduceCtorEq];rfl) (by simp only[sB,Zb,cutC,ld40];rfl) (by simp only[sG,Za,reduceCtorEq]) ⟨_,rfl,z5l,hx5'.pt (by omega) g5' _⟩
  ·have d4:decide (((toldF σ 4001 c 0).2:Int) > 4000)=false:=decide_eq_false (by omega);have et:termS σ c=((toldF σ 4001 c 0).1,0):=by rw[termS,if_neg (by rw[hm];simp),if_neg h4]
   repeat' (first|refine qZa ?_|(refine qZe ?_;try simp only[z00])|(refine qZf ?_)|(refine qZb ?_;simp (config:=qZc) (disch:=first|omega|rfl) only[sB,Za,Zb,one,reduceCtorEq,st40,ld3,ld40,q5,qn5,g5',d4])|(refine z0f ?_;simp (config:=qZc) (disch:=first|omega|rfl) only[sB,Zb,one,st40,e5])|(refine qZm ?_ ?_;simp (config:=qZc) only[sB,Za,reduceCtorEq];refine z01 ?_))
   rw[et];exact z0d rfl (by simp only[sB,Za,reduceCtorEq];rfl) (by simp only[sB,Zb,cutC,ld40]) (by simp only[sG,Za,reduceCtorEq]) ⟨_,rfl,⟨a2,c2,rfl,hbd,hflF _⟩,hx5'.pt (by omega) g5' _⟩
end Go.Proofs.hq
end

section
namespace Go.Proofs.hq
open Go Go.RowKit Go.Hb
def nd:Tm->Nat
 |.mk _ _ _ _ _ l=>1+ndL l
where ndL:List Tm->Nat
 |[]=>0
 |t :: l=>nd t+ndL l
theorem z25 (t:Tm):nd t=1+nd.ndL t.args:=by obtain⟨k,s,u,b,v,l⟩:=t;rw[nd];rfl
theorem z8x:∀(l:List Tm),(∀t∈l,∀n,n<=cnt t n)->∀n,n<=cntL l n
 |[],_,n=>by rw[cntL];exact Ze _
 |t :: l,h,n=>by
  rw[cntL];split
  ·exact Ze _
  ·exact ZC (h t (by simp) n) (z8x l (fun u hu=>h u (Zl _ hu)) _)
theorem zh7:∀(m:Nat) (t:Tm),SizeOf.sizeOf t < m->∀n,n+1<=cnt t n
 |0,_,h,_=>by omega
 |m+1,t,h,n=>by
  rw[z4x];exact z8x _ (fun u hu k=>by have:=zh7 m u (by have:=z0g hu;omega) k;omega) _
theorem zln:∀(l:List Tm),(∀t∈l,∀n,cnt t n<=4000->cnt t n=n+nd t)->∀n,cntL l n<=4000->cntL l n=n+nd.ndL l
 |[],_,n,_=>by rw[cntL,nd.ndL];rfl
 |t :: l,h,n,hn=>by
  rw[cntL] at hn ⊢;split at hn
  ·omega
  ·rename_i h4;rw[if_neg h4];have hm:cnt t n<=cntL l (cnt t n):=z8x l (fun u _ k=>by have:=zh7 _ u (Zf _) k;omega) _;rw[zln l (fun u hu=>h u (Zl _ hu)) _ hn,h t (by simp) n (by omega),nd.ndL];omega
theorem zdc:∀(m:Nat) (t:Tm),SizeOf.sizeOf t < m->∀n,cnt t n<=4000->cnt t n=n+nd t
 |0,_,h,_,_=>by omega
 |m+1,t,h,n,hn=>by
  rw[z4x] at hn ⊢;rw[zln _ (fun u hu k=>zdc m u (by have:=z0g hu;omega) k) _ hn,z25];omega
end Go.Proofs.hq
end

section
namespace Go.Proofs.hq
open Go Go.RowKit Go.Hb
variable {ok:Ok}
set_option maxRecDepth 10000
attribute [local irreducible] LX LG EL STG SOP SGO SGD SAL SRD SEF SEG SLK SCK ES
theorem _root_.Go.Hb.SX.nm {A C:Heap}{s n:Nat}(h:SX s A C) (hn:n < A.next) (hm:¬Mut A s n):¬Mut C s n:=fun q=>by
 rcases h.mt n q with q|q
 ·exact hm q
 ·omega
theorem St.box {H:Heap}{B s n:Nat}{σ:SS}(hs:St H B s σ) (hw:H.wf) (hl:n < H.next) (hm:¬Mut H s n) (D:Option Blk):St (H.put n D) B s σ/\∀k,Mut (H.put n D) s k->Mut H s k :=
 hs.beside hw ((HK.refl (S:=fun k=>k=n) hw).put (.inl rfl) hl D) fun k e=>e ▸ hm
mutual
def layS:SS->Tm->SS × (Int × Int)
 |σ,.mk k nm nu b v l=>if k=1 then (σ,(2,gi σ.vars v)) else if k=5 then
   (layA { (functorS σ (nm,(l.length:Int))).1 with cells:=σ.cells++[(5,((functorS σ (nm,(l.length:Int))).2:Int))]++List.replicate l.length (0,0),own:=σ.own++[-1]++List.replicate l.length (-2) } σ.cells.length 0 l,(4,(σ.cells.length:Int)))
  else ((atomicS σ (.mk k nm nu b v l)).1,(3,((atomicS σ (.mk k nm nu b v l)).2:Int)))
def layA:SS->Nat->Nat->List Tm->SS
 |σ,_,_,[]=>σ
 |σ,at',i,t :: l=>layA { (layS σ t).1 with cells:=(layS σ t).1.cells.set (at'+1+i) (layS σ t).2 } at' (i+1) l
end
theorem z68 {σ:SS}{t:Tm}(h:t.kind=1):layS σ t=(σ,(2,gi σ.vars t.var)):=by obtain⟨k,nm,nu,b,v,l⟩:=t;have h':k=1:=h;rw[layS,if_pos h'];rfl
theorem z4m {σ:SS}{t:Tm}(h:t.kind≠1) (h5:t.kind≠5):layS σ t=((atomicS σ t).1,(3,((atomicS σ t).2:Int))):=by obtain⟨k,nm,nu,b,v,l⟩:=t;have h':¬k=1:=h;have h5':¬k=5:=h5;rw[layS,if_neg h',if_neg h5']
def layH (σ:SS) (k:ByteArray × Int) (n:Nat):SS:={ (functorS σ k).1 with cells:=σ.cells++[(5,((functorS σ k).2:Int))]++List.replicate n (0,0),own:=σ.own++[-1]++List.replicate n (-2) }
theorem z4n {σ:SS}{t:Tm}(h5:t.kind=5):layS σ t=(layA (layH σ (t.name,(t.args.length:Int)) t.args.length) σ.cells.length 0 t.args,(4,(σ.cells.length:Int))):=by
 obtain⟨k,nm,nu,b,v,l⟩:=t;have h5':k=5:=h5;subst h5';rw[layS,if_neg (by omega),if_pos rfl];rfl
theorem zdd:∀(l:List Tm) (t:Tm) (σ:SS) (at' i:Nat),layA σ at' i (l++[t])={ (layS (layA σ at' i l) t).1 with cells:=(layS (layA σ at' i l) t).1.cells.set (at'+1+(i+l.length)) (layS (layA σ at' i l) t).2 }
 |[],t,σ,at',i=>by rw[List.nil_append,layA,layA,layA,List.length_nil];rfl
 |u :: l,t,σ,at',i=>by
  rw[List.cons_append,layA,zdd l t,layA,List.length_cons];have e:i+1+l.length=i+(l.length+1):=by omega
  rw[e]
theorem z69 {l:List Tm}{i:Nat}(h:i < l.length) (σ:SS) (at':Nat):layA σ at' 0 (l.take (i+1))={ (layS (layA σ at' 0 (l.take i)) l[i]).1 with cells:=(layS (layA σ at' 0 (l.take i)) l[i]).1.cells.set (at'+1+i) (layS (layA σ at' 0 (l.take i)) l[i]).2 }:=by
 rw[<-ZL h,zdd,ZH,Nat.min_eq_left (by omega),Nat.zero_add]
theorem z7a (σ:SS) (t:Tm):(atomicS σ t).1.vars=σ.vars/\(atomicS σ t).1.flags=σ.flags/\(atomicS σ t).1.cells=σ.cells/\(atomicS σ t).1.own=σ.own/\(atomicS σ t).1.funs=σ.funs/\(atomicS σ t).1.trail=σ.trail/\(atomicS σ t).1.marks=σ.marks /\
  (atomicS σ t).1.consts.length<=σ.consts.length+1:=by
 unfold atomicS;split
 ·exact⟨rfl,rfl,rfl,rfl,rfl,rfl,rfl,by simp⟩
 ·exact⟨rfl,rfl,rfl,rfl,rfl,rfl,rfl,by simp⟩
theorem z2s (σ:SS) (k:ByteArray × Int):(functorS σ k).1.vars=σ.vars/\(functorS σ k).1.flags=σ.flags/\(functorS σ k).1.cells=σ.cells/\(functorS σ k).1.own=σ.own/\(functorS σ k).1.consts=σ.consts/\(functorS σ k).1.trail=σ.trail/\(functorS σ k).1.marks=σ.marks /\
  (functorS σ k).1.funs.length<=σ.funs.length+1:=by
 unfold functorS;split
 ·exact⟨rfl,rfl,rfl,rfl,rfl,rfl,rfl,by simp⟩
 ·exact⟨rfl,rfl,rfl,rfl,rfl,rfl,rfl,by simp⟩
structure LayG (n j:Nat) (σ τ:SS):Prop where
 vars:τ.vars=σ.vars
 flags:τ.flags=σ.flags
 trail:τ.trail=σ.trail
 marks:τ.marks=σ.marks
 cells:σ.cells.length<=τ.cells.length/\τ.cells.length+j<=σ.cells.length+2*n
 own:τ.own.length+σ.cells.length=σ.own.length+τ.cells.length
 consts:τ.consts.length<=σ.consts.length+n
 funs:τ.funs.length<=σ.funs.length+n
theorem LayG.refl (σ:SS):LayG 0 0 σ σ:=⟨rfl,rfl,rfl,rfl,by omega,by omega,by omega,by omega⟩
theorem LayG.trans {n m j i:Nat}{a b c:SS}(h:LayG n j a b) (k:LayG m i b c):LayG (n+m) (j+i) a c :=
 ⟨k.vars.trans h.vars,k.flags.trans h.flags,k.trail.trans h.trail,k.marks.trans h.marks,by have:=h.cells;have:=k.cells;omega,by have:=h.cells;have:=k.cells;have:=h.own;have:=k.own;omega,by have:=h.consts;have:=k.consts;omega,by have:=h.funs;have:=k.funs;omega⟩
theorem zde {σ:SS}{at':Nat}{l:List Tm}(hl:∀t∈l,∀ σ,LayG (nd t) 1 σ (layS σ t).1):∀i,i<=l.length->LayG (nd.ndL (l.take i)) i σ (layA σ at' 0 (l.take i))
 |0,_=>by rw[List.take_zero,layA,nd.ndL];exact LayG.refl σ
 |i+1,hi=>by
  have ih:=zde (σ:=σ) (at':=at') hl i (by omega);have hlt:i < l.length:=by omega
  rw[z69 hlt];have h2:=ih.trans (hl l[i] (ZD hlt) (layA σ at' 0 (l.take i)));have en:nd.ndL (l.take (i+1))=nd.ndL (l.take i)+nd l[i]:=by
   rw[<-ZL hlt];have app:∀(a b:List Tm),nd.ndL (a++b)=nd.ndL a+nd.ndL b:=fun a b=>by
    induction a with
    |nil=>rw[nd.ndL];simp
    |cons t a ih=>rw[List.cons_append,nd.ndL,nd.ndL,ih];omega
   rw[app,nd.ndL,nd.ndL,Nat.add_zero]
  rw[en];exact⟨h2.vars,h2.flags,h2.trail,h2.marks,by rw[Zy];exact h2.cells,by rw[Zy];exact h2.own,h2.consts,h2.funs⟩
theorem z7h:∀l:List Tm,l.length<=nd.ndL l
 |[]=>ZA _
 |t :: l=>by have:=z7h l;have:=z25 t;rw[nd.ndL,List.length_cons];omega
theorem za8 (σ:SS) (k:ByteArray × Int) (n:Nat):(layH σ k n).vars=σ.vars/\(layH σ k n).flags=σ.flags/\(layH σ k n).trail=σ.trail/\(layH σ k n).marks=σ.marks/\(layH σ k n).cells.length=σ.cells.length+1+n/\(layH σ k n).own.length=σ.own.length+1+n /\
  (layH σ k n).consts=σ.consts/\(layH σ k n).funs.length<=σ.funs.length+1:=by
 have h:=z2s σ k;refine⟨h.1,h.2.1,h.2.2.2.2.2.1,h.2.2.2.2.2.2.1,by simp [layH];omega,by simp [layH];omega,h.2.2.2.2.1,h.2.2.2.2.2.2.2⟩
theorem z7b:∀(m:Nat) (t:Tm),SizeOf.sizeOf t < m->∀ σ,LayG (nd t) 1 σ (layS σ t).1
 |0,_,h,_=>by omega
 |m+1,t,h,σ=>by
  have hn:=z25 t;by_cases k1:t.kind=1
  ·rw[z68 k1];exact⟨rfl,rfl,rfl,rfl,by simp only;omega,rfl,by simp only;omega,by simp only;omega⟩
  ·by_cases k5:t.kind=5
   ·rw[z4n k5];have hH:=za8 σ (t.name,(t.args.length:Int)) t.args.length;have hA:=zde (σ:=layH σ (t.name,(t.args.length:Int)) t.args.length) (at':=σ.cells.length) (l:=t.args) (fun u hu σ=>z7b m u (by have:=z0g hu;omega) σ) t.args.length (Ze _);rw[List.take_length] at hA;have hl:=z7h t.args;have hc:=hH.2.2.2.2.1;have ho:=hH.2.2.2.2.2.1;refine⟨hA.vars.trans hH.1,hA.flags.trans hH.2.1,hA.trail.trans hH.2.2.1,hA.marks.trans hH.2.2.2.1,?_,?_,?_,?_⟩
    ·have:=hA.cells;rw[hc] at this;simp only;omega
    ·have h1:=hA.cells;have h2:=hA.own;simp only;rw[hc] at h1 h2;rw[ho] at h2;omega
    ·have:=hA.consts;rw[hH.2.2.2.2.2.2.1] at this;simp only;omega
    ·have:=hA.funs;have:=hH.2.2.2.2.2.2.2;simp only;omega
   ·rw[z4m k1 k5];have hA:=z7a σ t;refine⟨hA.1,hA.2.1,hA.2.2.2.2.2.1,hA.2.2.2.2.2.2.1,?_,?_,?_,?_⟩
    ·simp only[hA.2.2.1];omega
    ·simp only[hA.2.2.1,hA.2.2.2.1]
    ·have:=hA.2.2.2.2.2.2.2;simp only;omega
    ·simp only[hA.2.2.2.2.1];omega
theorem z7i {t u:Tm}(h:u∈t.args) {v:Int}(hv:v∈occ u):v∈occ t:=by
 rw[z3d];refine List.mem_append_right _ ?_;have:∀l:List Tm,u∈l->v∈occL l:=fun l=>by
  induction l with
  |nil=>intro h;simp at h
  |cons w l ih =>
   intro h;rw[occL];rcases List.mem_cons.1 h with rfl|h
   ·exact List.mem_append_left _ hv
   ·exact List.mem_append_right _ (ih h)
 exact this _ h
def cmpZ (a b:Int):Int:=if a < b then -1 else if b < a then 1 else 0
def lessS (a b:ByteArray):Bool:=Op.bytesLess a.toList b.toList
def cmpS (a b:ByteArray):Int:=if lessS a b then -1 else if lessS b a then 1 else 0
theorem za9:∀{a b:List UInt8},Op.bytesLess a b=false->(a == b)=false->Op.bytesLess b a=true
 |[],[],_,h=>by simp at h
 |[],_ :: _,h,_=>by simp [Op.bytesLess] at h
 |_ :: _,[],_,_=>by simp [Op.bytesLess]
 |x :: a,y :: b,h,e=>by
   simp only[Op.bytesLess] at h ⊢;rw[Bool.or_eq_false_iff] at h;have h1:¬x < y:=of_decide_eq_false h.1;by_cases hxy:x=y
   ·subst hxy;have h2:Op.bytesLess a b=false:=by simpa using h.2
    have e2:(a == b)=false:=by simpa using e
    rw[za9 h2 e2];simp
   ·have h3:y < x:=by
     rw[UInt8.lt_iff_toNat_lt] at h1 ⊢;have:x.toNat≠y.toNat:=fun q=>hxy (UInt8.toNat_inj.1 q)
     omega
    simp [h3]
theorem zf5 {a b:Int}(h:a < b):cmpZ a b=-1:=by simp [cmpZ,h]
theorem zf6 {a b:Int}(h:b < a):cmpZ a b=1:=by
 have:¬a < b:=by omega
 simp [cmpZ,h,this]
theorem zf7 {a b:Int}(h:a=b):cmpZ a b=0:=by subst h;simp [cmpZ]
theorem zrt {a b:ByteArray}(h:Op.bytesLess a.toList b.toList=true):cmpS a b=-1:=by simp [cmpS,lessS,h]
theorem zru {a b:ByteArray}(h:Op.bytesLess a.toList b.toList=false) (e:(a.toList == b.toList)=true):cmpS a b=0:=by
 have e':=beq_iff_eq.1 e;rw[<-e'] at h;unfold cmpS lessS;rw[<-e',h];rfl
theorem zrv {a b:ByteArray}(h:Op.bytesLess a.toList b.toList=false) (e:(a.toList == b.toList)=false):cmpS a b=1:=by
 have:=za9 h e;unfold cmpS lessS;rw[h,this];rfl
theorem zlo {a:Int}{H:Heap}:EvF Tryz.prog okT 101 [.int .i64 a] H fun v H'=>v=.bool false/\H'=H:=by
 refine EvF.enter rfl Tryz.func101 (by decide) rfl ?_
 repeat' (first|refine qZa ?_|(refine qZf ?_)|(refine qZb ?_;simp only[sB,initTm,Za,reduceCtorEq,z13]))
 exact z03 rfl (by simp only[sG,Za,reduceCtorEq]) ⟨rfl,rfl⟩
theorem z6q {a b:Int}{H:Heap}:EvF Tryz.prog okT 59 [.int .i64 a,.int .i64 b] H fun v H'=>v=.int .i64 (cmpZ a b)/\H'=H:=by
 refine EvF.enter rfl Tryz.func59 (by decide) rfl ?_
 repeat' (first|refine qZa ?_|(refine qZb ?_;simp only[sB,initTm,Za,reduceCtorEq,zt1]))
 refine zlo.mono ?_;rintro v H1 ⟨rfl,rfl⟩
 repeat' (first|refine qZa ?_|(refine qZb ?_;simp only[sB,Za,reduceCtorEq,zt1]))
 refine zlo.mono ?_;rintro v H2 ⟨rfl,rfl⟩;by_cases h1:a < b
 ·repeat' (first|refine qZa ?_|(refine qZe ?_;try simp only[z00])|(refine qZf ?_;try simp only[z04,z02])|(refine qZb ?_;simp (config:=qZc) (disch:=first|omega|rfl) only[sB,Za,reduceCtorEq,decide_eq_true])|(refine qZd ?_ ?_;simp (config:=qZc) (disch:=first|omega|rfl) only[sB,Za,reduceCtorEq];refine z01 ?_)|(refine qZm ?_ ?_;simp (config:=qZc) (disch:=first|omega|rfl) only[sB,Za,reduceCtorEq];refine z01 ?_))
  exact z03 rfl (by simp only[sB,Za,reduceCtorEq];rfl) ⟨by rw[zf5 h1],rfl⟩
 ·by_cases h2:b < a
  ·repeat' (first|refine qZa ?_|(refine qZe ?_;try simp only[z00])|(refine qZf ?_;try simp only[z04,z02])|(refine qZb ?_;simp (config:=qZc) (disch:=first|omega|rfl) only[sB,Za,reduceCtorEq,decide_eq_true,decide_eq_false])|(refine qZd ?_ ?_;simp (config:=qZc) (disch:=first|omega|rfl) only[sB,Za,reduceCtorEq];refine z01 ?_)|(refine qZm ?_ ?_;simp (config:=qZc) (disch:=first|omega|rfl) only[sB,Za,reduceCtorEq];refine z01 ?_))
   exact z03 rfl (by simp only[sB,Za,reduceCtorEq];rfl) ⟨by rw[zf6 h2],rfl⟩
  ·repeat' (first|refine qZa ?_|(refine qZe ?_;try simp only[z00])|(refine qZf ?_)|(refine qZb ?_;simp (config:=qZc) (disch:=first|omega|rfl) only[sB,Za,reduceCtorEq,decide_eq_false])|(refine qZm ?_ ?_;simp (config:=qZc) (disch:=first|omega|rfl) only[sB,Za,reduceCtorEq];refine z01 ?_))
   exact z03 rfl (by simp only[sB,Za,reduceCtorEq];rfl) ⟨by rw[zf7 (by omega)],rfl⟩
theorem zlp {a:ByteArray}{H:Heap}:EvF Tryz.prog okT 123 [.string a] H fun v H'=>v=.bool false/\H'=H:=by
 refine EvF.enter rfl Tryz.func123 (by decide) rfl ?_;have e:(a.toList == a.toList)=true:=beq_self_eq_true _
 repeat' (first|refine qZa ?_|(refine qZf ?_)|(refine qZb ?_;simp only[sB,initTm,Za,reduceCtorEq,z1p,e,Zn]))
 exact z03 rfl (by simp only[sG,Za,reduceCtorEq]) ⟨rfl,rfl⟩
theorem zf8 {a b:ByteArray}{H:Heap}:EvF Tryz.prog okT 97 [.string a,.string b] H fun v H'=>v=.int .i64 (cmpS a b)/\H'=H:=by
 refine EvF.enter rfl Tryz.func97 (by decide) rfl ?_
 repeat' (first|refine qZa ?_|(refine qZb ?_;simp only[sB,initTm,Za,reduceCtorEq,zt5]))
 refine zlp.mono ?_;rintro v H1 ⟨rfl,rfl⟩
 repeat' (first|refine qZa ?_|(refine qZb ?_;simp only[sB,Za,reduceCtorEq,zt5]))
 refine zlp.mono ?_;rintro v H2 ⟨rfl,rfl⟩;cases h1:Op.bytesLess a.toList b.toList
 ·cases h2:a.toList == b.toList
  ·repeat' (first|refine qZa ?_|(refine qZe ?_;try simp only[z00])|(refine qZf ?_;try simp only[z04,z02])|(refine qZb ?_;simp only[sB,Za,reduceCtorEq,zqh,zsq,h1,h2,Bool.or_self,Zw])|(refine qZd ?_ ?_;simp only[sB,Za,reduceCtorEq];refine z01 ?_)|(refine qZm ?_ ?_;simp only[sB,Za,reduceCtorEq];refine z01 ?_))
   exact z03 rfl (by simp only[sB,Za,reduceCtorEq];rfl) ⟨by rw[zrv h1 h2],rfl⟩
  ·repeat' (first|refine qZa ?_|(refine qZe ?_;try simp only[z00])|(refine qZf ?_)|(refine qZb ?_;simp only[sB,Za,reduceCtorEq,zqh,zsq,h1,h2,Bool.false_or,Zn])|(refine qZm ?_ ?_;simp only[sB,Za,reduceCtorEq];refine z01 ?_))
   exact z03 rfl (by simp only[sB,Za,reduceCtorEq];rfl) ⟨by rw[zru h1 h2],rfl⟩
 ·repeat' (first|refine qZa ?_|(refine qZe ?_;try simp only[z00])|(refine qZf ?_;try simp only[z04,z02])|(refine qZb ?_;simp only[sB,Za,reduceCtorEq,zqh,h1])|(refine qZd ?_ ?_;simp only[sB,Za,reduceCtorEq];refine z01 ?_)|(refine qZm ?_ ?_;simp only[sB,Za,reduceCtorEq];refine z01 ?_))
  exact z03 rfl (by simp only[sB,Za,reduceCtorEq];rfl) ⟨by rw[zrt h1],rfl⟩
set_option maxHeartbeats 2000000 in
theorem zrw {x y:Int}{c p:Nat}{H:Heap}(h0:H.load ⟨p,0,none⟩ 1=some [.int .i64 x]) (h1:H.load ⟨p,1,none⟩ 1=some [.int .i64 y]) :
  EvF Tryz.prog okT 96 [.slice (some ⟨p,0,none⟩) 2 c] H fun v H'=>v=.int .i64 (orZ x y)/\H'=H:=by
 refine EvF.enter rfl Tryz.func96 (by decide) rfl ?_
 repeat' (first|refine qZa ?_|refine qZg ?_|(refine qZb ?_;simp (disch:=first|omega|rfl) only[sB,initTm,Za,reduceCtorEq,ln28]))
 refine qZk (fun k st=>∃tm i,st=⟨tm,[],H⟩/\k=2 - i/\i<=2/\(0 < i->x=0)/\(1 < i->y=0)/\tm.get 3=some (.int .i64 0)/\tm.get 6=some (.slice (some ⟨p,0,none⟩) 2 c)/\tm.get 7=some (.int .i64 (2:Nat))/\tm.get 8=some (.int .i64 (i:Nat))) ?_ 2 _ ?_
 ·rintro k st ⟨tm,i,rfl,rfl,hi,hx,hy,g3,g6,g7,g8⟩;by_cases h2:i=2
  ·subst h2
   repeat' (first|refine qZa ?_|(refine qZi ?_;try simp only[sB])|(refine qZf ?_)|(refine qZb ?_;simp (disch:=first|omega|rfl) only[sB,Za,g3,g7,g8,decide_eq_false])|(refine qZm ?_ ?_;simp (disch:=first|omega|rfl) only[sB];refine z01 ?_))
   exact z03 rfl (by simp only[sB,Za];rfl) ⟨by simp [orZ,hx,hy],rfl⟩
  ·have hl:∃z,H.load ⟨p,i,none⟩ 1=some [.int .i64 z]/\z=if i=0 then x else y:=by
    by_cases h0':i=0
    ·subst h0';exact⟨x,h0,rfl⟩
    ·have:i=1:=by omega
     subst this;exact⟨y,h1,rfl⟩
   obtain⟨z,hl,hz⟩:=hl;by_cases hz0:z=0
   ·repeat' (first|refine qZa ?_|refine qZg ?_|(refine qZe ?_;try simp only[sA])|(refine qZb ?_;simp (disch:=first|omega|rfl) only[sB,Za,ia28,ld3,g3,g6,g7,g8,hl,z13 hz0,decide_eq_true,z05])|(refine qZd ?_ ?_;simp (disch:=first|omega|rfl) only[sB,Za];refine z01 ?_)|(refine qZm ?_ ?_;simp (disch:=first|omega|rfl) only[sB,Za];refine z01 ?_))
    exact⟨2 - (i+1),by omega,_,i+1,rfl,rfl,by omega,fun _=>by
     by_cases h0':i=0
     ·rw[hz,if_pos h0'] at hz0;exact hz0
     ·exact hx (by omega),fun h=>by
     rw[hz,if_neg (by omega)] at hz0;exact hz0,(by simp only[sG,Za,g3]),(by simp only[sG,Za,g6]),(by simp only[sG,Za,g7]),(by simp only[sB,Za];rfl)⟩
   ·repeat' (first|refine qZa ?_|refine qZg ?_|(refine qZe ?_;try simp only[z00])|(refine qZf ?_;try simp only[z04,z02])|(refine qZb ?_;simp (disch:=first|omega|rfl) only[sB,Za,ia28,ld3,g3,g6,g7,g8,hl,z29 hz0,decide_eq_true])|(refine qZd ?_ ?_;simp (disch:=first|omega|rfl) only[sB,Za];refine z01 ?_))
    refine z03 rfl (by simp only[sB,Za];rfl) ⟨?_,rfl⟩;by_cases h0':i=0
    ·rw[if_pos h0'] at hz;subst hz;simp [orZ,hz0]
    ·rw[if_neg h0'] at hz;subst hz;simp [orZ,hx (by omega)]
 ·exact⟨_,0,rfl,rfl,by omega,by omega,by omega,(by simp only[sG,Za,reduceCtorEq]),(by simp only[sG,Za,reduceCtorEq]),(by simp only[sG,Za,reduceCtorEq]),(by simp only[sB,Za,reduceCtorEq];rfl)⟩
def rankZ (k:Int):Int:=if k=1 then 0 else if k=4 then 1 else if k=3 then 2 else if k=2 then 3 else 4
theorem zlq {k:Int}{H:Heap}:EvF Tryz.prog okT 92 [.int .i64 k] H fun v H'=>v=.int .i64 (rankZ k)/\H'=H:=by
 refine EvF.enter rfl Tryz.func92 (by decide) rfl ?_;by_cases h1:k=1
 ·repeat' (first|refine qZa ?_|refine qZg ?_|(refine qZf ?_;try simp only[z04,z02])|(refine qZb ?_;simp only[sB,initTm,Za,reduceCtorEq,z0v h1])|(refine qZd ?_ ?_;simp only[sB,Za,reduceCtorEq];refine z01 ?_))
  exact z03 rfl (by simp only[sB,Za,reduceCtorEq];rfl) ⟨by simp [rankZ,h1],rfl⟩
 by_cases h2:k=4
 ·repeat' (first|refine qZa ?_|refine qZg ?_|(refine qZf ?_;try simp only[z04,z02])|(refine qZb ?_;simp only[sB,initTm,Za,reduceCtorEq,z0h h1,z0v h2])|(refine qZd ?_ ?_;simp only[sB,Za,reduceCtorEq];refine z01 ?_)|(refine qZm ?_ ?_;simp only[sB,Za,reduceCtorEq];refine z01 ?_))
  exact z03 rfl (by simp only[sB,Za,reduceCtorEq];rfl) ⟨by simp [rankZ,h2],rfl⟩
 by_cases h3:k=3
 ·repeat' (first|refine qZa ?_|refine qZg ?_|(refine qZf ?_;try simp only[z04,z02])|(refine qZb ?_;simp only[sB,initTm,Za,reduceCtorEq,z0h h1,z0h h2,z0v h3])|(refine qZd ?_ ?_;simp only[sB,Za,reduceCtorEq];refine z01 ?_)|(refine qZm ?_ ?_;simp only[sB,Za,reduceCtorEq];refine z01 ?_))
  exact z03 rfl (by simp only[sB,Za,reduceCtorEq];rfl) ⟨by simp [rankZ,h3],rfl⟩
 by_cases h4:k=2
 ·repeat' (first|refine qZa ?_|refine qZg ?_|(refine qZf ?_;try simp only[z04,z02])|(refine qZb ?_;simp only[sB,initTm,Za,reduceCtorEq,z0h h1,z0h h2,z0h h3,z0v h4])|(refine qZd ?_ ?_;simp only[sB,Za,reduceCtorEq];refine z01 ?_)|(refine qZm ?_ ?_;simp only[sB,Za,reduceCtorEq];refine z01 ?_))
  exact z03 rfl (by simp only[sB,Za,reduceCtorEq];rfl) ⟨by simp [rankZ,h4],rfl⟩
 repeat' (first|refine qZa ?_|refine qZg ?_|(refine qZe ?_;try simp only[sA])|(refine qZf ?_)|(refine qZb ?_;simp only[sB,initTm,Za,reduceCtorEq,z0h h1,z0h h2,z0h h3,z0h h4])|(refine qZm ?_ ?_;simp only[sB,Za,reduceCtorEq];refine z01 ?_))
 exact z03 rfl (by simp only[sB,Za,reduceCtorEq];rfl) ⟨by simp [rankZ,h1,h2,h3,h4],rfl⟩
def numZ (a b:ByteArray):Int :=
 if negS (bl a) && !negS (bl b) then -1 else if negS (bl b) && !negS (bl a) then 1
 else if negS (bl a) then -(orZ (cmpZ a.size b.size) (cmpS a b)) else orZ (cmpZ a.size b.size) (cmpS a b)
theorem z2e (a b:Int):-1<=cmpZ a b/\cmpZ a b<=1:=by
 unfold cmpZ;split
 ·omega
 ·split<;>omega
theorem z6r (a b:ByteArray):-1<=cmpS a b/\cmpS a b<=1:=by
 unfold cmpS;split
 ·omega
 ·split<;>omega
theorem z8y {x y:Int}(h:-1<=x/\x<=1) (h':-1<=y/\y<=1):-1<=orZ x y/\orZ x y<=1:=by
 unfold orZ;split<;>assumption
theorem zrx {s:ByteArray}(h:1<=s.size):((s.extract 0 1).data.toList == (⟨#[45]⟩:ByteArray).data.toList)=negS (bl s):=by
 rw[ByteArray.data_extract,Array.toList_extract,List.extract_eq_take_drop];unfold negS bl;have hs:1<=s.data.toList.length:=by simpa using h
 cases hh:s.data.toList with
 |nil=>rw[hh] at hs;simp at hs
 |cons u l =>
  simp only[List.drop_zero,Nat.sub_zero,List.take_succ_cons,List.take_zero,List.map_cons,List.head?_cons];by_cases hu:u=45
  ·subst hu;rfl
  ·have h1:([u] == ([45]:List UInt8))=false:=by simp [hu]
   have h2:(some u.toNat == some 45)=false:=by
    simp only[Option.some_beq_some];exact beq_eq_false_iff_ne.2 fun q=>hu (UInt8.toNat_inj.1 q)
   exact h1.trans h2.symm
theorem zoa {s:ByteArray}(h:s.size=0):negS (bl s)=false:=by
 have:s.data.toList=[]:=List.length_eq_zero_iff.1 (by simpa using h);unfold negS bl;rw[this];rfl
theorem ziy {s:ByteArray}{H:Heap}(hs:s.size<=maxLen):EvF Tryz.prog okT 150 [.string s,.string ⟨#[45]⟩] H fun v H'=>v=.bool (negS (bl s))/\H'=H:=by
 have one:(⟨#[45]⟩:ByteArray).size=1:=rfl;refine EvF.enter rfl Tryz.func150 (by decide) rfl ?_;by_cases h:1<=s.size
 ·have hsl:dSl Tryz.prog 9 (.string s) none (some (.int .i64 (1:Nat))) none H=some (.val (.string (s.extract 0 1)) H):=zid (m:=1) us9 h
  repeat' (first|refine qZa ?_|(refine qZf ?_)|(refine qZb ?_;simp (disch:=first|omega|rfl) only[sB,initTm,Za,reduceCtorEq,ln9,one,decide_eq_true,hsl,zck,zrx h]))
  exact z03 rfl (by simp only[sG,Za,reduceCtorEq]) ⟨rfl,rfl⟩
 ·repeat' (first|refine qZa ?_|(refine qZf ?_)|(refine qZb ?_;simp (disch:=first|omega|rfl) only[sB,initTm,Za,reduceCtorEq,ln9,one,decide_eq_false]))
  exact z03 rfl (by simp only[sB,Za,reduceCtorEq];rfl) ⟨by rw[zoa (by omega)],rfl⟩
theorem zdf {s:ByteArray}{H:Heap}(hs:s.size<=maxLen):EvF Tryz.prog okT 121 [.string s,.string ⟨#[45]⟩] H fun v H'=>v=.bool (negS (bl s))/\H'=H:=by
 refine EvF.enter rfl Tryz.func121 (by decide) rfl ?_
 repeat' (first|refine qZa ?_|(refine qZb ?_;simp only[sB,initTm,Za,reduceCtorEq,zux]))
 refine(ziy hs).mono ?_;rintro v H1 ⟨rfl,rfl⟩
 repeat' (first|(refine qZf ?_))
 exact z03 rfl (by simp only[sG,Za,reduceCtorEq]) ⟨rfl,rfl⟩
theorem z6a {x y:Value}{ty:TypeId}{H:Heap}:(H.new (some (Blk.row [x,y] ty))).load ⟨H.next,0,none⟩ 1=some [x]/\(H.new (some (Blk.row [x,y] ty))).load ⟨H.next,1,none⟩ 1=some [y]:=by
 constructor<;>simp only[Heap.load,Heap.cells,Heap.get_new,if_pos]<;>rfl
set_option maxHeartbeats 2000000 in
theorem ziz {a b:ByteArray}{H:Heap}(ha:a.size<=maxLen) (hb:b.size<=maxLen) (hw:H.wf):EvF Tryz.prog okT 93 [.string a,.string b] H fun v H'=>v=.int .i64 (numZ a b)/\HX H H':=by
 refine EvF.enter rfl Tryz.func93 (by decide) rfl ?_
 repeat' (first|refine qZa ?_|(refine qZb ?_;simp only[sB,initTm,Za,reduceCtorEq,zui]))
 refine(zdf ha).mono ?_;rintro v H1 ⟨rfl,rfl⟩
 skip
 refine(zdf hb).mono ?_;rintro v H2 ⟨rfl,rfl⟩;have hr:=z8y (z2e a.size b.size) (z6r a b);cases hx:negS (bl a)<;>cases hy:negS (bl b)
 ·repeat' (first|refine qZa ?_|refine qZg ?_|(refine qZe ?_;try simp only[sA])|(refine qZb ?_;simp only[sB,Za,Zb,Value.cells,reduceCtorEq,layC,ln9,cl59,cl97,zkr,Zd])|(refine qZm ?_ ?_;simp only[sB,Za,reduceCtorEq];refine z01 ?_))
  refine z6q.mono ?_;rintro v H1 ⟨rfl,rfl⟩
  skip
  refine zf8.mono ?_;rintro v H1 ⟨rfl,rfl⟩
  repeat' (first|(refine z0f ?_;simp only[sB,Za,Zb,one,reduceCtorEq,Zr,cl96]))
  refine(zrw z6a.1 z6a.2).mono ?_;rintro v H3 ⟨rfl,rfl⟩
  repeat' (first|refine qZa ?_|(refine qZe ?_;try simp only[z00])|(refine qZf ?_)|(refine qZb ?_;simp only[sB,Za,reduceCtorEq])|(refine qZm ?_ ?_;simp only[sB,Za,reduceCtorEq];refine z01 ?_))
  exact z03 rfl (by simp only[sB,Za,reduceCtorEq];rfl) ⟨by simp [numZ,hx,hy],(HX.refl hw).new _⟩
 ·repeat' (first|refine qZa ?_|refine qZg ?_|(refine qZf ?_;try simp only[z04,z02])|(refine qZb ?_;simp only[sB,Za,reduceCtorEq,Zw,Zd])|(refine qZd ?_ ?_;simp only[sB,Za,reduceCtorEq];refine z01 ?_)|(refine qZm ?_ ?_;simp only[sB,Za,reduceCtorEq];refine z01 ?_))
  exact z03 rfl (by simp only[sB,Za,reduceCtorEq];rfl) ⟨by simp [numZ,hx,hy],HX.refl hw⟩
 ·repeat' (first|refine qZa ?_|refine qZg ?_|(refine qZf ?_;try simp only[z04,z02])|(refine qZb ?_;simp only[sB,Za,reduceCtorEq,Zw])|(refine qZd ?_ ?_;simp only[sB,Za,reduceCtorEq];refine z01 ?_))
  exact z03 rfl (by simp only[sB,Za,reduceCtorEq];rfl) ⟨by simp [numZ,hx,hy],HX.refl hw⟩
 ·repeat' (first|refine qZa ?_|refine qZg ?_|(refine qZe ?_;try simp only[sA])|(refine qZb ?_;simp only[sB,Za,Zb,Value.cells,reduceCtorEq,layC,ln9,cl59,cl97,zkr,Zn])|(refine qZm ?_ ?_;simp only[sB,Za,reduceCtorEq];refine z01 ?_))
  refine z6q.mono ?_;rintro v H1 ⟨rfl,rfl⟩
  skip
  refine zf8.mono ?_;rintro v H1 ⟨rfl,rfl⟩
  repeat' (first|(refine z0f ?_;simp only[sB,Za,Zb,one,reduceCtorEq,Zr,cl96]))
  refine(zrw z6a.1 z6a.2).mono ?_;rintro v H3 ⟨rfl,rfl⟩
  repeat' (first|refine qZa ?_|(refine qZf ?_;try simp only[z04,z02])|(refine qZb ?_;simp (disch:=first|omega|rfl) only[sB,Za,reduceCtorEq,zu4,z05])|(refine qZd ?_ ?_;simp (disch:=first|omega|rfl) only[sB,Za,reduceCtorEq];refine z01 ?_))
  exact z03 rfl (by simp only[sB,Za,reduceCtorEq];rfl) ⟨by simp [numZ,hx,hy],(HX.refl hw).new _⟩
def iOr (k:IntKind) (a b:Int):Int:=k.wrap (BitVec.ofInt k.bits a ||| BitVec.ofInt k.bits b).toNat
def iNot (a:Int):Int:=IntKind.u64.wrap (BitVec.ofInt IntKind.u64.bits IntKind.u64.max ^^^ BitVec.ofInt IntKind.u64.bits a).toNat
def keyF (n:Int):Int:=if 9223372036854775808<=n then 18446744073709551615 - n else n+9223372036854775808
def fltZ (a b:Int):Int:=cmpZ (keyF a) (keyF b)
theorem z8z {P:Program}{H:Heap}{t:TypeId}{x y:Operand}{k:FloatKind}{a b:Nat}:dBin P .lss t x y (.float k a) (.float k b) H=some (.val (.bool (k.format.order a b == some .lt)) H):=by
 simp [dBin,dnil,flat,eqGuard,binOp,Op.floatCmp,Sem.bind];rfl
def ordF (a b:Nat):Option Ordering:=FloatKind.f64.format.order a b
def fltO (a b:Nat):Int:=if ordF a b == some .lt then -1 else if ordF a b == some .gt then 1 else 0
theorem zlr {a:Nat}{H:Heap}(h:(FloatKind.f64.format.order a a != some .eq)=false):EvF Tryz.prog okT 122 [.float .f64 a] H fun v H'=>v=.bool false/\H'=H:=by
 refine EvF.enter rfl Tryz.func122 (by decide) rfl ?_
 repeat' (first|refine qZa ?_|(refine qZf ?_)|(refine qZb ?_;simp (config:=qZc) only[sB,initTm,Za,reduceCtorEq,zd3,h]))
 exact z03 rfl (by simp only[sG,Za,reduceCtorEq]) ⟨rfl,rfl⟩
theorem zry {a b:Nat}{H:Heap}(ha:(FloatKind.f64.format.order a a != some .eq)=false) (hb:(FloatKind.f64.format.order b b != some .eq)=false):EvF Tryz.prog okT 94 [.float .f64 a,.float .f64 b] H fun v H'=>v=.int .i64 (fltO a b)/\H'=H:=by
 refine EvF.enter rfl Tryz.func94 (by decide) rfl ?_
 repeat' (first|refine qZa ?_|(refine qZb ?_;simp (config:=qZc) only[sB,initTm,Za,reduceCtorEq,zt4]))
 refine(zlr ha).mono ?_;rintro v H1 ⟨rfl,rfl⟩
 repeat' (first|refine qZa ?_|(refine qZb ?_;simp (config:=qZc) only[sB,Za,reduceCtorEq,zt4]))
 refine(zlr hb).mono ?_;rintro v H2 ⟨rfl,rfl⟩;have hl:FloatKind.f64.format.order a b=ordF a b:=rfl;cases h1:(ordF a b == some .lt)
 ·cases h2:(ordF a b == some .gt)
  ·repeat' (first|refine qZa ?_|(refine qZe ?_;try simp only[z00])|(refine qZf ?_)|(refine qZb ?_;simp (config:=qZc) only[sB,Za,reduceCtorEq,z8z,z8q,hl,h1,h2])|(refine qZm ?_ ?_;simp (config:=qZc) only[sB,Za,reduceCtorEq];refine z01 ?_))
   exact z03 rfl (by simp only[sB,Za,reduceCtorEq];rfl) ⟨by simp [fltO,h1,h2],rfl⟩
  ·repeat' (first|refine qZa ?_|(refine qZe ?_;try simp only[z00])|(refine qZf ?_;try simp only[z04,z02])|(refine qZb ?_;simp (config:=qZc) only[sB,Za,reduceCtorEq,z8z,z8q,hl,h1,h2])|(refine qZd ?_ ?_;simp (config:=qZc) only[sB,Za,reduceCtorEq];refine z01 ?_)|(refine qZm ?_ ?_;simp (config:=qZc) only[sB,Za,reduceCtorEq];refine z01 ?_))
   exact z03 rfl (by simp only[sB,Za,reduceCtorEq];rfl) ⟨by simp [fltO,h1,h2],rfl⟩
 ·repeat' (first|refine qZa ?_|(refine qZe ?_;try simp only[z00])|(refine qZf ?_;try simp only[z04,z02])|(refine qZb ?_;simp (config:=qZc) only[sB,Za,reduceCtorEq,z8z,hl,h1])|(refine qZd ?_ ?_;simp (config:=qZc) only[sB,Za,reduceCtorEq];refine z01 ?_)|(refine qZm ?_ ?_;simp (config:=qZc) only[sB,Za,reduceCtorEq];refine z01 ?_))
  exact z03 rfl (by simp only[sB,Za,reduceCtorEq];rfl) ⟨by simp [fltO,h1],rfl⟩
end Go.Proofs.hq
end

section
namespace Go.Proofs.hq
open Go Go.RowKit Go.Hb
def expF (g:Nat):Nat:=g / 4503599627370496 - 1
def manF (g:Nat):Nat:=if g < 4503599627370496 then g else 4503599627370496+g % 4503599627370496
def valF (g:Nat):Nat:=manF g*2 ^ expF g
theorem zf9 {g h:Nat}(l:g < h):valF g < valF h:=by
 unfold valF;by_cases e:expF g=expF h
 ·rw[e];refine Nat.mul_lt_mul_of_pos_right ?_ (Nat.two_pow_pos _);unfold manF expF at *;split<;>split<;>omega
 ·have e':expF g < expF h:=by unfold expF at *;omega
  have h1:manF g < 9007199254740992:=by unfold manF;split<;>omega
  have h2:4503599627370496<=manF h:=by unfold manF expF at *;split<;>omega
  have h3:2 ^ (expF g+1)<=2 ^ expF h:=Nat.pow_le_pow_right (by omega) e';have h4:manF g*2 ^ expF g < 9007199254740992*2 ^ expF g:=Nat.mul_lt_mul_of_pos_right h1 (Nat.two_pow_pos _);have h5:4503599627370496*2 ^ expF h<=manF h*2 ^ expF h:=Nat.mul_le_mul_right _ h2;have h6:4503599627370496*2 ^ (expF g+1)<=4503599627370496*2 ^ expF h:=Nat.mul_le_mul_left _ h3;rw[Nat.pow_succ] at h6;omega
theorem z90 {g h:Nat}:valF g < valF h↔g < h:=by
 constructor
 ·intro e;rcases Nat.lt_trichotomy g h with l|l|l
  ·exact l
  ·subst l;omega
  ·have:=zf9 l;omega
 ·exact zf9
theorem zh8 {w:Nat}(h:w % 9223372036854775808 < 9218868437227405312) :
  Ieee.double.read w=.number (w / 9223372036854775808 % 2 == 1) (manF (w % 9223372036854775808)) ((expF (w % 9223372036854775808):Int) - 1074):=by
 rw[zbc];generalize w % 9223372036854775808=g at h;split
 ·rename_i h1;have e1:manF g=g:=by unfold manF;rw[if_pos h1]
  have e2:expF g=0:=by unfold expF;omega
  rw[e1,e2];rfl
 ·rename_i h1;have e1:manF g=4503599627370496+g % 4503599627370496:=by unfold manF;rw[if_neg h1]
  rw[e1];congr 1
  first|done|(unfold expF;omega)
theorem zfa {x y:Int}{c:Nat}(hc:0 < c):compare (x*c) (y*c)=compare x y:=by
 have hc':(0:Int) < c:=by omega
 rcases Int.lt_trichotomy x y with h|h|h
 ·rw[Int.compare_eq_lt.2 h,Int.compare_eq_lt.2 (Int.mul_lt_mul_of_pos_right h hc')]
 ·subst h;rw[Int.compare_eq_eq.2 rfl,Int.compare_eq_eq.2 rfl]
 ·rw[Int.compare_eq_gt.2 h,Int.compare_eq_gt.2 (Int.mul_lt_mul_of_pos_right h hc')]
def svF (s:Bool) (x:Nat):Int:=if s then -(x:Int) else x
theorem zdg (s:Bool) (m k:Nat):Ieee.signed s m k=svF s (m*2 ^ k):=by
 unfold Ieee.signed svF;rw[Nat.shiftLeft_eq]
theorem zls (s:Bool) (x c:Nat):svF s (x*c)=svF s x*c:=by
 unfold svF;cases s
 ·simp
 ·simp [Int.neg_mul]
theorem zlt (s t:Bool) (m n i j:Nat):Ieee.Datum.order (.number s m ((i:Int) - 1074)) (.number t n ((j:Int) - 1074))=some (compare (svF s (m*2 ^ i)) (svF t (n*2 ^ j))):=by
 show some (compare (Ieee.signed s m (((i:Int) - 1074) - min ((i:Int) - 1074) ((j:Int) - 1074)).toNat) (Ieee.signed t n (((j:Int) - 1074) - min ((i:Int) - 1074) ((j:Int) - 1074)).toNat))=_;have e1:(((i:Int) - 1074) - min ((i:Int) - 1074) ((j:Int) - 1074)).toNat=i - min i j:=by omega
 have e2:(((j:Int) - 1074) - min ((i:Int) - 1074) ((j:Int) - 1074)).toNat=j - min i j:=by omega
 rw[e1,e2,zdg,zdg];have f1:m*2 ^ i=m*2 ^ (i - min i j)*2 ^ min i j:=by rw[Nat.mul_assoc,<-Nat.pow_add];congr 2;omega
 have f2:n*2 ^ j=n*2 ^ (j - min i j)*2 ^ min i j:=by rw[Nat.mul_assoc,<-Nat.pow_add];congr 2;omega
 rw[f1,f2,zls s (m*2 ^ (i - min i j)),zls t (n*2 ^ (j - min i j)),zfa (Nat.two_pow_pos _)]
theorem zob {v w:Nat}(hv:v % 9223372036854775808 < 9218868437227405312) (hw:w % 9223372036854775808 < 9218868437227405312) :
  ordF v w=some (compare (svF (v / 9223372036854775808 % 2 == 1) (valF (v % 9223372036854775808))) (svF (w / 9223372036854775808 % 2 == 1) (valF (w % 9223372036854775808)))):=by
 show Ieee.Datum.order (Ieee.double.read v) (Ieee.double.read w)=_;rw[zh8 hv,zh8 hw,zlt];rfl
def sgnF (v:Nat):Int:=svF (v / 9223372036854775808 % 2 == 1) (valF (v % 9223372036854775808))
theorem zbf {v:Nat}(h:v < 9223372036854775808):sgnF v=valF v:=by
 have e1:(v / 9223372036854775808 % 2 == 1)=false:=beq_eq_false_iff_ne.2 (by omega);have e2:v % 9223372036854775808=v:=by omega
 unfold sgnF;rw[e1,e2,svF,if_neg Bool.false_ne_true]
theorem zbg {v:Nat}(h:9223372036854775808<=v) (h':v < 18446744073709551616):sgnF v=-(valF (v - 9223372036854775808):Int):=by
 have e1:(v / 9223372036854775808 % 2 == 1)=true:=beq_iff_eq.2 (by omega);have e2:v % 9223372036854775808=v - 9223372036854775808:=by omega
 unfold sgnF;rw[e1,e2,svF,if_pos rfl]
theorem zlu {v w:Nat}(hv:v < 18446744073709551616) (hw:w < 18446744073709551616) (nv:v≠9223372036854775808) (nw:w≠9223372036854775808):sgnF v < sgnF w↔keyF v < keyF w:=by
 have z:∀g,0 < g->0 < valF g:=fun g h=>by have:=zf9 h;omega
 unfold keyF;by_cases h1:v < 9223372036854775808<;>by_cases h2:w < 9223372036854775808
 ·rw[zbf h1,zbf h2,if_neg (by omega),if_neg (by omega)];have:=@z90 v w;omega
 ·rw[zbf h1,zbg (by omega) hw,if_neg (by omega),if_pos (by omega)];have:=z (w - 9223372036854775808) (by omega);omega
 ·rw[zbg (by omega) hv,zbf h2,if_pos (by omega),if_neg (by omega)];have:=z (v - 9223372036854775808) (by omega);omega
 ·rw[zbg (by omega) hv,zbg (by omega) hw,if_pos (by omega),if_pos (by omega)];have:=@z90 (w - 9223372036854775808) (v - 9223372036854775808);omega
theorem zrz {v w:Nat}(hv:v < 18446744073709551616) (hw:w < 18446744073709551616) (nv:v≠9223372036854775808) (nw:w≠9223372036854775808)
  (fv:v % 9223372036854775808 < 9218868437227405312) (fw:w % 9223372036854775808 < 9218868437227405312):fltO v w=fltZ v w:=by
 have e:ordF v w=some (compare (sgnF v) (sgnF w)):=zob fv fw;have a:=zlu hv hw nv nw;have b:=zlu hw hv nw nv;unfold fltO fltZ;rw[e];rcases Int.lt_trichotomy (sgnF v) (sgnF w) with h|h|h
 ·rw[Int.compare_eq_lt.2 h,zf5 (a.1 h)];rfl
 ·rw[Int.compare_eq_eq.2 h,zf7 (by omega)];rfl
 ·rw[Int.compare_eq_gt.2 h,zf6 (b.1 h)];rfl
end Go.Proofs.hq
end

section
namespace Go.Proofs.hq
open Go Go.RowKit Go.Hb
mutual
def ordT:Tm->Tm->Int
 |.mk k s u b v l,.mk k' s' u' b' v' l' =>
  if k≠k' then cmpZ (rankZ k) (rankZ k')
  else if k=1 then cmpZ v v'
  else if k=3 then numZ u u'
  else if k=4 then fltZ b b'
  else if orZ (cmpZ l.length l'.length) (cmpS s s')=0 then ordL l l' else orZ (cmpZ l.length l'.length) (cmpS s s')
def ordL:List Tm->List Tm->Int
 |[],_=>0
 |_ :: _,[]=>0
 |t :: l,t' :: l'=>if ordT t t'=0 then ordL l l' else ordT t t'
end
def headZ (t t':Tm):Int:=orZ (cmpZ t.args.length t'.args.length) (cmpS t.name t'.name)
theorem z6s (t t':Tm):ordT t t'=if t.kind≠t'.kind then cmpZ (rankZ t.kind) (rankZ t'.kind)
  else if t.kind=1 then cmpZ t.var t'.var
  else if t.kind=3 then numZ t.num t'.num
  else if t.kind=4 then fltZ t.bits t'.bits
  else if headZ t t'=0 then ordL t.args t'.args else headZ t t':=by
 obtain⟨k,s,u,b,v,l⟩:=t;obtain⟨k',s',u',b',v',l'⟩:=t';rw[ordT];rfl
theorem zlv {l l':List Tm}{i:Nat}{t t':Tm}(h:l[i]?=some t) (h':l'[i]?=some t') :
  ordL (l.drop i) (l'.drop i)=if ordT t t'=0 then ordL (l.drop (i+1)) (l'.drop (i+1)) else ordT t t':=by
 have hlt:=(List.getElem?_eq_some_iff.1 h).1;have he:l[i]=t:=(List.getElem?_eq_some_iff.1 h).2;have hlt':=(List.getElem?_eq_some_iff.1 h').1;have he':l'[i]=t':=(List.getElem?_eq_some_iff.1 h').2;rw[ZB hlt,ZB hlt',ordL,he,he']
theorem zh9 {t t':Tm}(h:headZ t t'=0):t.args.length=t'.args.length:=by
 unfold headZ orZ at h;have:=z2e (t.args.length:Int) t'.args.length;by_cases e:cmpZ (t.args.length:Int) t'.args.length=0
 ·unfold cmpZ at e;split at e
  ·omega
  ·split at e<;>omega
 ·rw[if_neg e] at h;exact absurd h e
end Go.Proofs.hq
end
