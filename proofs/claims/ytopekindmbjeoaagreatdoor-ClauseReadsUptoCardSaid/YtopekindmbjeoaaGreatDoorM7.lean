import Derived.Test.YtopekindmbjeoaaGreatDoorM3
import Derived.Test.YtopekindmbjeoaaGreatDoorM4
import Derived.Test.YtopekindmbjeoaaGreatDoorM5
import Derived.Test.YtopekindmbjeoaaGreatDoorM6
/- Lemmas on the program's own code, towards the laws of this folder, part 7. Conditions: as each lemma says. -/
section
namespace Go.Hb
open Go Go.RowKit
structure RdI (H:Heap) (L:List Int) (a:Option Addr) (c:Nat):Prop where
 len:L.length≤c
 cap:c≤maxLen
 get:∀(i:Nat) (h:i < L.length),∃b o,a=some ⟨b,o,none⟩∧H.load ⟨b,o+i,none⟩ 1=some [.int .i64 L[i]]
theorem RdI.max {H:Heap}{L:List Int}{a:Option Addr}{c:Nat}(h:RdI H L a c):L.length≤9223372036854775807:=Nat.le_trans h.len h.cap
end Go.Hb
namespace Go.Proofs.hq
open Go Go.RowKit Go.Hb
variable {ok:Ok}
set_option maxRecDepth 10000
attribute [local irreducible] LX LG EL STG SOP SGO SGD SAL SRD SEF SEG SLK SCK ES
theorem IntL.rd {H:Heap}{T:TypeId}{S:Nat→Prop}{L:List Int}{v:Value}(h:IntL H T S L v):∃a c,v=.slice a L.length c∧RdI H L a c∧(∀b o,a=some ⟨b,o,none⟩→S b):=by
 rcases h with ⟨rfl,rfl⟩|⟨b,c,rfl,h2,h3,h4,h5⟩
 ·exact⟨none,0,rfl,⟨Nat.le_refl _,Nat.zero_le _,fun i h=>by simp at h⟩,fun b o h=>by cases h⟩
 ·refine⟨_,c,rfl,⟨h2,h3,fun i hi=>⟨b,0,rfl,?_⟩⟩,fun b' o h=>by cases h;exact h5⟩
  unfold Heap.load Heap.cells
  simp only[h4,Nat.zero_add]
  have:(List.drop i (L.map fun n=>Value.int .i64 n)).take 1=[.int .i64 L[i]]:=by
   rw[List.drop_eq_getElem_cons (by simpa using hi)];simp
  rw[this];rfl
theorem zsw {L:List Int}{n:Int}{a:Option Addr}{c:Nat}{H:Heap}(h:RdI H L a c):EvF Tryz.prog okT 87 [.slice a L.length c,.int .i64 n] H fun v H'=>v=.bool (decide (n∈L))∧H'=H:=by
 have hm:=h.max
 refine EvF.enter rfl Tryz.func87 (by decide) rfl ?_
 repeat' (first|refine EvC.seq ?_|refine EvC.block ?_|(refine EvC.reg ?_;simp (disch:=first|omega|rfl) only[sA,initTm]))
 refine EvC.loop (fun k st=>∃tm i,st=⟨tm,[],H⟩∧k=L.length - i∧i≤L.length∧n∉L.take i∧tm.get 0=some (.slice a L.length c)∧tm.get 1=some (.int .i64 n)∧tm.get 5=some (.int .i64 (i:Nat))) ?_ L.length _ ?_
 ·rintro k st ⟨tm,i,rfl,rfl,hi,hn,t0,t1,t5⟩
  by_cases hlt:i < L.length
  ·obtain⟨b,o,rfl,hl⟩:=h.get i hlt
   by_cases he:L[i]=n
   ·repeat' (first|refine EvC.seq ?_|refine EvC.block ?_|(refine EvC.skip ?_;try simp only[z00])|(refine EvC.ret ?_;try simp only[z05,z03])|(refine EvC.reg ?_;simp (disch:=first|omega|rfl) only[sB,Nat.reduceEqDiff,reduceCtorEq,ln77,ia77,ld3,t0,t1,t5,decl hlt,hl,z0i he])|(refine EvC.condT ?_ ?_;simp (disch:=first|omega|rfl) only[sB,Nat.reduceEqDiff];refine z07 ?_))
    exact z04 rfl (by simp only[sB,Nat.reduceEqDiff];rfl) ⟨by rw[decide_eq_true (he ▸ List.getElem_mem _)],rfl⟩
   ·repeat' (first|refine EvC.seq ?_|refine EvC.block ?_|(refine EvC.skip ?_;try simp only[sA])|(refine EvC.reg ?_;simp (disch:=first|omega|rfl) only[sB,Nat.reduceEqDiff,reduceCtorEq,ln77,ia77,ld3,t0,t1,t5,decl hlt,hl,z0j he,z0c])|(refine EvC.condT ?_ ?_;simp (disch:=first|omega|rfl) only[sB,Nat.reduceEqDiff];refine z07 ?_)|(refine EvC.condF ?_ ?_;simp (disch:=first|omega|rfl) only[sB,Nat.reduceEqDiff];refine z07 ?_))
    refine⟨L.length - (i+1),by omega,_,i+1,rfl,rfl,by omega,?_,(by simp only[sG,reduceCtorEq,t0]),(by simp only[sG,Nat.reduceEqDiff,t1]),(by simp only[sB,Nat.reduceEqDiff];rfl)⟩
    rw[←List.take_append_getElem hlt,List.mem_append]
    rintro (h1|h1)
    ·exact hn h1
    ·simp at h1;exact he h1.symm
  ·repeat' (first|refine EvC.seq ?_|(refine EvC.exit ?_;try simp only[sB])|(refine EvC.ret ?_)|(refine EvC.reg ?_;simp (disch:=first|omega|rfl) only[sB,Nat.reduceEqDiff,reduceCtorEq,ln77,t0,t5,decn hlt])|(refine EvC.condF ?_ ?_;simp (disch:=first|omega|rfl) only[sB,Nat.reduceEqDiff];refine z07 ?_))
   rw[List.take_of_length_le (by omega)] at hn
   exact z04 rfl (by simp only[sB,Nat.reduceEqDiff];rfl) ⟨by rw[decide_eq_false hn],rfl⟩
 ·exact⟨_,0,rfl,rfl,by omega,by simp,(by simp only[sG,reduceCtorEq]),(by simp only[sG,Nat.reduceEqDiff,reduceCtorEq]),(by simp only[sB,Nat.reduceEqDiff,reduceCtorEq];rfl)⟩
set_option maxHeartbeats 4000000 in
theorem zn5 {H0:Heap}(hw0:H0.wf) {tot:List Int}(hlen:tot.length≤most):∀(m:Nat) {t:Tm}{cs:List Value}{H:Heap}{S:Nat→Prop}{pre:List Int}{v:Value},SizeOf.sizeOf t < m→RepT H0 t cs→HX H0 H→IntL H 3 S (uniq pre) v→(∀n,S n→H0.next≤n∧n < H.next)→(pre++occ t) <+: tot →
  EvF Tryz.prog okT 75 [.agg ⟨cs⟩,v] H fun v' H'=>∃S',IntL H' 3 S' (uniq (pre++occ t)) v'∧HK S H H'∧HX H0 H'∧(∀n,S' n→(S n∨H.next≤n)∧n < H'.next):=by
 have ean:apOk Tryz.prog 77 3 1:=ap77
 intro m
 induction m with
 |zero=>intro t cs H S pre v h;omega
 |succ m ih =>
 intro t cs H S pre v hsz r hx hi hS htot
 have hw:=hx.wf
 have hxn:=hx.next
 obtain⟨a,c,cells,rfl,-,-,-,-,-,rl⟩:=r.six
 have hm:=rl.max
 obtain⟨av,cv,rfl,hrd,-⟩:=hi.rd
 refine EvF.enter rfl Tryz.func75 (by decide) rfl ?_
 (repeat refine EvC.seq ?_);refine EvC.reg ?_;simp (disch:=first|omega|rfl) only[sB,initTm,dBox,Value.cells,one,reduceCtorEq]
 obtain⟨H2,e2,hx2,gp,hn2,hw2⟩:=new1 hw (.row (six t a c) 25)
 simp only[e2]
 clear e2
 have q1:=row6 gp
 have hi2:IntL H2 3 S (uniq pre) (.slice av (uniq pre).length cv):=hi.heap (fun n _ hl=>hx2.keep n hl) hw
 (repeat refine EvC.seq ?_);refine EvC.reg ?_;simp (disch:=first|omega|rfl) only[sB,Nat.reduceEqDiff,reduceCtorEq,z0f,ld3,q1]
 refine EvC.join (fun st=>∃tm H' S' w,st=⟨tm,[],H'⟩∧tm.get 1=some w∧tm.get 2=some (.pointer (some ⟨H.next,0,none⟩))∧H'.get H.next=some (.row (six t a c) 25) ∧
   IntL H' 3 S' (uniq (pre++(if t.kind=1 then [t.var] else []))) w∧HK S H H'∧HX H0 H'∧(∀n,S' n→(S n∨H.next < n)∧n < H'.next)) ?_ ?_
 ·by_cases k1:t.kind=1
  rotate_left
  ·repeat' (first|(refine EvC.skip ?_;try simp only[z00,z0j k1])|(refine EvC.condF ?_ ?_;simp (disch:=first|omega|rfl) only[sB,Nat.reduceEqDiff,reduceCtorEq,z0j k1];refine z07 ?_))
   exact⟨_,_,S,_,rfl,(by simp only[sB,Nat.reduceEqDiff,reduceCtorEq];rfl),(by simp only[sG,Nat.reduceEqDiff,reduceCtorEq]),gp,by rw[if_neg k1,List.append_nil];exact hi2,hx2.hk S,hx.trans hx2,fun n hn=>⟨.inl hn,by have:=hS n hn;omega⟩⟩
  obtain⟨av',cv',e',hrd2,-⟩:=hi2.rd
  cases e'
  repeat' (first|refine EvC.seq ?_|(refine EvC.reg ?_;simp (disch:=first|omega|rfl) only[sB,Nat.reduceEqDiff,reduceCtorEq,ld3,z6a,cl87,z0i k1,q1])|(refine EvC.condT ?_ ?_;simp (disch:=first|omega|rfl) only[sB,Nat.reduceEqDiff,reduceCtorEq,z0i k1];refine z07 ?_))
  refine(zsw hrd2).mono ?_
  rintro v H3 ⟨rfl,rfl⟩
  by_cases hmem:t.var∈uniq pre
  ·repeat' (first|refine EvC.seq ?_|(refine EvC.skip ?_;try simp only[z00])|(refine EvC.reg ?_;simp (disch:=first|omega|rfl) only[sB,Nat.reduceEqDiff,reduceCtorEq,decide_eq_true hmem,Bool.not_true])|(refine EvC.condF ?_ ?_;simp (disch:=first|omega|rfl) only[sB,Nat.reduceEqDiff,reduceCtorEq];refine z07 ?_))
   exact⟨_,_,S,_,rfl,(by simp only[sB,Nat.reduceEqDiff,reduceCtorEq];rfl),(by simp only[sG,Nat.reduceEqDiff,reduceCtorEq]),gp,by rw[if_pos k1,z3q,addU,if_pos hmem];exact hi2,hx2.hk S,hx.trans hx2,fun n hn=>⟨.inl hn,by have:=hS n hn;omega⟩⟩
  ·repeat' (first|refine EvC.seq ?_|(refine EvC.reg ?_;simp (disch:=first|omega|rfl) only[sB,Nat.reduceEqDiff,Value.cells,one,reduceCtorEq,layC,ld3,z6a,zjk,decide_eq_false hmem,Bool.not_false,q1])|(refine EvC.condT ?_ ?_;simp (disch:=first|omega|rfl) only[sB,Nat.reduceEqDiff,reduceCtorEq];refine z07 ?_))
   obtain⟨H5,e5,hx5,g5,hn5,hw5⟩:=new1 hw2 (.row [.int .i64 t.var] 3)
   simp only[e5]
   have l5:H5.load ⟨H3.next,0,none⟩ (1*1)=some [.int .i64 t.var]:=by unfold Heap.load Heap.cells;simp only[g5];rfl
   have hul:=z54 pre
   have hpl:pre.length+1≤tot.length:=by
    have:=htot.length_le
    rw[z3p,if_pos k1,List.length_append,List.length_append,List.length_singleton] at this
    omega
   obtain⟨H7,v7,e7,hi7,hk7,hn7⟩:=IntL.push (S2:=fun n=>n=H5.next) (c1:=1) ean (hi2.heap (fun n _ hl=>hx5.keep n hl) hw2) hw5 l5 (by omega) rfl
   repeat' (first|(refine z0k ?_;simp (disch:=first|omega|rfl) only[sB,Nat.reduceEqDiff,reduceCtorEq,e7]))
   refine⟨_,_,fun n=>n=H5.next,v7,rfl,(by simp only[sG,Nat.reduceEqDiff,reduceCtorEq]),(by simp only[sG,Nat.reduceEqDiff,reduceCtorEq]),hk7.get hw5 (hx5.get hw2 gp) (fun h=>by have:=hS _ h;omega),by rw[if_pos k1,z3q,addU,if_neg hmem];exact hi7,(hx2.hk S).trans ((hx5.hk S).trans hk7),((hx.trans hx2).trans hx5).then hk7 (fun n hn hs=>by have:=hS n hs;omega),fun n hn=>?_⟩
   have hn':n=H5.next:=hn
   exact⟨.inr (by omega),by omega⟩
 rintro st ⟨tm,H3,S3,w,rfl,t1,t2,gp3,hi3,hk3,hx3,hS3⟩
 repeat' (first|refine EvC.seq ?_|refine EvC.block ?_|(refine EvC.reg ?_;simp (disch:=first|omega|rfl) only[sA]))
 refine EvC.loop (fun k st=>∃tm H' i S' w,st=⟨tm,[],H'⟩∧k=t.args.length - i∧i≤t.args.length∧tm.get 1=some w∧tm.get 2=some (.pointer (some ⟨H.next,0,none⟩))∧tm.get 6=some (.int .i64 (i:Nat))∧H'.get H.next=some (.row (six t a c) 25) ∧
   IntL H' 3 S' (uniq (pre++(if t.kind=1 then [t.var] else [])++occL (t.args.take i))) w∧HK S H H'∧HX H0 H'∧(∀n,S' n→(S n∨H.next < n)∧n < H'.next)) ?_ t.args.length _ ?_
 ·rintro k st ⟨tm,H',i,S',w,rfl,rfl,hi',t1,t2,t6,gp',hil,hk',hx',hS'⟩
  have q1:=row6 gp'
  have nn':=hk'.next
  by_cases hlt:i < t.args.length
  ·obtain⟨b,o,a1,c1,rfl,hld,hr1⟩:=rl.el hlt
   have hld1:=hx'.load hw0 hld
   repeat' (first|refine EvC.seq ?_|refine EvC.block ?_|(refine EvC.skip ?_;try simp only[z00])|(refine EvC.reg ?_;simp (disch:=first|omega|rfl) only[sB,Nat.reduceEqDiff,z0g,ld23,ln23,ia23,ld25,cl75,t1,t2,t6,q1,decl hlt,hld1])|(refine EvC.condT ?_ ?_;simp (disch:=first|omega|rfl) only[sB,Nat.reduceEqDiff];refine z07 ?_))
   have hs:=z14 (List.getElem?_eq_getElem hlt)
   refine(ih (by omega) hr1 hx' hil (fun n hn=>by have:=hS' n hn;rcases this.1 with h|h;exact⟨(hS n h).1,this.2⟩;exact⟨by omega,this.2⟩) (by refine List.IsPrefix.trans ?_ htot;rw[List.append_assoc,←z2v hlt,List.append_assoc,z3p];exact(List.prefix_append_right_inj _).2 ((List.prefix_append_right_inj _).2 (z6i _ _)))).mono ?_
   rintro v H5 ⟨S5,hi5,hk5,hx5,hS5⟩
   repeat' (first|(refine EvC.reg ?_;simp (disch:=first|omega|rfl) only[sB,Nat.reduceEqDiff,t6,z0c]))
   refine⟨t.args.length - (i+1),by omega,_,_,i+1,S5,v,rfl,rfl,by omega,(by simp only[sG,Nat.reduceEqDiff]),(by simp only[sG,Nat.reduceEqDiff,t2]),(by simp only[sB,Nat.reduceEqDiff];rfl),hk5.get hx'.wf gp' (fun h=>by rcases (hS' _ h).1 with h|h;have:=hS _ h;omega;omega),?_,hk'.step hk5 (fun n hn hq=>by rcases (hS' n hq).1 with h|h;exact h;omega),hx5,fun n hn=>?_⟩
   ·rw[z2v hlt,←List.append_assoc];exact hi5
   ·have:=hS5 n hn
    refine⟨?_,this.2⟩
    rcases this.1 with h|h
    ·exact(hS' n h).1
    ·exact .inr (by have:=hx'.wf _ _ gp';omega)
  ·repeat' (first|refine EvC.seq ?_|(refine EvC.exit ?_;try simp only[sB])|(refine EvC.ret ?_)|(refine EvC.reg ?_;simp (disch:=first|omega|rfl) only[sB,Nat.reduceEqDiff,z0g,ld23,ln23,t1,t2,t6,q1,decn hlt])|(refine EvC.condF ?_ ?_;simp (disch:=first|omega|rfl) only[sB,Nat.reduceEqDiff];refine z07 ?_))
   rw[List.take_of_length_le (by omega),List.append_assoc,←z3p] at hil
   exact z04 rfl (by simp only[sG,Nat.reduceEqDiff]) ⟨S',hil,hk',hx',fun n hn=>by have:=hS' n hn;exact⟨by rcases this.1 with h|h;exact .inl h;exact .inr (by omega),this.2⟩⟩
 ·exact⟨_,_,0,S3,w,rfl,rfl,by omega,(by simp only[sG,Nat.reduceEqDiff,t1]),(by simp only[sG,Nat.reduceEqDiff,t2]),(by simp only[sB];rfl),gp3,by rw[List.take_zero,occL,List.append_nil];exact hi3,hk3,hx3,hS3⟩
set_option maxHeartbeats 4000000 in
theorem zab {l:List Tm}{a:Option Addr}{c:Nat}{cells:Nat→List Value}{H:Heap}(rl:RepL H l a c cells) (hlen:(occL l).length≤most) (hw:H.wf) :
  EvF Tryz.prog okT 50 [.slice a l.length c] H fun v H'=>IntL H' 3 (Rg H.next H'.next) (uniq (occL l)) v∧HX H H':=by
 have hm:=rl.max
 refine EvF.enter rfl Tryz.func50 (by decide) rfl ?_
 repeat' (first|refine EvC.seq ?_|refine EvC.block ?_|(refine EvC.reg ?_;simp (disch:=first|omega|rfl) only[sA,initTm]))
 refine EvC.loop (fun k st=>∃tm H' i S v,st=⟨tm,[],H'⟩∧k=l.length - i∧i≤l.length∧tm.get 0=some (.slice a l.length c)∧tm.get 3=some v∧tm.get 4=some (.int .i64 (i:Nat)) ∧
   IntL H' 3 S (uniq (occL (l.take i))) v∧HX H H'∧(∀n,S n→H.next≤n∧n < H'.next)) ?_ l.length _ ?_
 ·rintro k st ⟨tm,H',i,S,v,rfl,rfl,hi,t0,t3,t4,hil,hx',hS⟩
  by_cases hlt:i < l.length
  ·obtain⟨b,o,a1,c1,rfl,hld,hr1⟩:=rl.el hlt
   have hld1:=hx'.load hw hld
   repeat' (first|refine EvC.seq ?_|refine EvC.block ?_|(refine EvC.skip ?_;try simp only[z00])|(refine EvC.reg ?_;simp (disch:=first|omega|rfl) only[sB,Nat.reduceEqDiff,reduceCtorEq,ln23,ia23,ld25,cl75,t0,t3,t4,decl hlt,hld1])|(refine EvC.condT ?_ ?_;simp (disch:=first|omega|rfl) only[sB,Nat.reduceEqDiff];refine z07 ?_))
   refine(zn5 hw hlen _ (Nat.lt_succ_self _) hr1 hx' hil hS (by rw[←z2v hlt];exact z6i _ _)).mono ?_
   rintro v H5 ⟨S5,hi5,hk5,hx5,hS5⟩
   repeat' (first|(refine EvC.reg ?_;simp (disch:=first|omega|rfl) only[sB,Nat.reduceEqDiff,t4,z0c]))
   exact⟨l.length - (i+1),by omega,_,_,i+1,S5,v,rfl,rfl,by omega,(by simp only[sG,reduceCtorEq,t0]),(by simp only[sG,Nat.reduceEqDiff]),(by simp only[sB,Nat.reduceEqDiff];rfl),by rw[z2v hlt];exact hi5,hx5,fun n hn=>by have:=hS5 n hn;refine⟨?_,this.2⟩;rcases this.1 with h|h;exact(hS n h).1;have:=hx'.next;omega⟩
  ·repeat' (first|refine EvC.seq ?_|(refine EvC.exit ?_;try simp only[sB])|(refine EvC.ret ?_)|(refine EvC.reg ?_;simp (disch:=first|omega|rfl) only[sB,Nat.reduceEqDiff,reduceCtorEq,ln23,t0,t3,t4,decn hlt])|(refine EvC.condF ?_ ?_;simp (disch:=first|omega|rfl) only[sB,Nat.reduceEqDiff];refine z07 ?_))
   rw[List.take_of_length_le (by omega)] at hil
   refine z04 rfl (by simp only[sB,Nat.reduceEqDiff];rfl) ⟨?_,hx'⟩
   rcases hil with h|⟨b,c',h1,h2,h3,h4,h5⟩
   ·exact .inl h
   ·exact .inr ⟨b,c',h1,h2,h3,h4,hS b h5⟩
 ·exact⟨_,_,0,fun _=>False,_,rfl,rfl,by omega,(by simp only[sG,reduceCtorEq]),(by simp only[sB,Nat.reduceEqDiff,reduceCtorEq];rfl),(by simp only[sB,Nat.reduceEqDiff,reduceCtorEq];rfl),by rw[List.take_zero,occL];exact .inl ⟨rfl,rfl⟩,HX.refl hw,fun n h=>h.elim⟩
end Go.Proofs.hq
end

section
namespace Go.Hb
open Go Go.RowKit
structure RepBs (H:Heap) (B:List (Int × Tm)) (a:Option Addr) (c:Nat):Prop where
 len:B.length≤c
 cap:c≤maxLen
 el:∀(i:Nat) (h:i < B.length),∃b o a' c',a=some ⟨b,o,none⟩∧H.load ⟨b,o+i*7,none⟩ 1=some [.int .i64 B[i].1]∧H.load ⟨b,o+i*7+1,none⟩ 6=some (six B[i].2 a' c')∧RepT H B[i].2 (six B[i].2 a' c')
theorem RepBs.max {H:Heap}{B:List (Int × Tm)}{a:Option Addr}{c:Nat}(h:RepBs H B a c):B.length≤9223372036854775807:=Nat.le_trans h.len h.cap
theorem RepBs.mono {H H':Heap}{B:List (Int × Tm)}{a:Option Addr}{c:Nat}(h:RepBs H B a c) (hx:HX H H') (hw:H.wf):RepBs H' B a c :=
 ⟨h.len,h.cap,fun i hi=>let ⟨b,o,a',c',e,l1,l2,r⟩:=h.el i hi;⟨b,o,a',c',e,hx.load hw l1,hx.load hw l2,r.mono hx hw⟩⟩
end Go.Hb
namespace Go.Proofs.hq
open Go Go.RowKit Go.Hb
variable {ok:Ok}
set_option maxRecDepth 10000
attribute [local irreducible] LX LG EL STG SOP SGO SGD SAL SRD SEF SEG SLK SCK ES
theorem V_ev {i:Int}{H:Heap}(hw:H.wf):EvF Tryz.prog okT 22 [.int .i64 i] H fun v H'=>v=.agg ⟨[.int .i64 1,.string ByteArray.empty,.string ByteArray.empty,.int .u64 0,.int .i64 i,.slice none 0 0]⟩∧HX H H':=by
 refine EvF.enter rfl Tryz.func22 (by decide) rfl ?_
 repeat' (first|refine EvC.seq ?_|(refine EvC.ret ?_)|(refine EvC.reg ?_;simp only[sB,initTm,dAlloc,Nat.reduceEqDiff,Nat.reduceAdd,Value.cells,one,reduceCtorEq,Nat.reduceLeDiff,layC,zr25,bd25,st25]))
 exact z0a rfl (by simp only[sB,Nat.reduceEqDiff,reduceCtorEq];rfl) (by simp only[sB,Nat.reduceAdd,cutC,ld25]) ⟨rfl,((HX.refl hw).new _).put (Nat.le_refl _) (Nat.lt_succ_self _) _⟩
set_option maxHeartbeats 2000000 in
theorem zn6 {B:List (Int × Tm)}{n:Int}{a:Option Addr}{c:Nat}{H:Heap}(h:RepBs H B a c) (hw:H.wf) :
  EvF Tryz.prog okT 86 [.slice a B.length c,.int .i64 n] H fun v H'=>HX H H'∧match B.find? (fun p=>p.1 == n) with
   |some p=>∃cs,v=.tuple #[.agg ⟨cs⟩,.bool true]∧RepT H' p.2 cs
   |none=>v=.tuple #[.agg ⟨zero6⟩,.bool false]:=by
 have hm:=h.max
 refine EvF.enter rfl Tryz.func86 (by decide) rfl ?_
 (repeat refine EvC.seq ?_);refine EvC.reg ?_;simp (disch:=first|omega|rfl) only[sA,initTm,dAlloc,zr25]
 obtain⟨H2,e2,hx2,gq,hn2,hw2⟩:=new1 hw (.row zero6 25)
 simp only[e2]
 repeat' (first|refine EvC.seq ?_|refine EvC.block ?_|(refine EvC.reg ?_;simp (disch:=first|omega|rfl) only[sA]))
 refine EvC.loop (fun k st=>∃tm i,st=⟨tm,[],H2⟩∧k=B.length - i∧i≤B.length∧(∀p∈B.take i,p.1≠n)∧tm.get 0=some (.slice a B.length c)∧tm.get 1=some (.int .i64 n)∧tm.get 4=some (.pointer (some ⟨H.next,0,none⟩))∧tm.get 6=some (.int .i64 (i:Nat))) ?_ B.length _ ?_
 ·rintro k st ⟨tm,i,rfl,rfl,hi,hn,t0,t1,t4,t6⟩
  by_cases hlt:i < B.length
  ·obtain⟨b,o,a',c',rfl,l1,l2,r⟩:=h.el i hlt
   have l1:=hx2.load hw l1
   have l2:=hx2.load hw l2
   by_cases he:B[i].1=n
   ·repeat' (first|refine EvC.seq ?_|refine EvC.block ?_|(refine EvC.skip ?_;try simp only[z00])|(refine EvC.ret ?_;try simp only[z05,z03])|(refine EvC.reg ?_;simp (disch:=first|omega|rfl) only[sB,Nat.reduceEqDiff,Nat.reduceAdd,one,reduceCtorEq,zm8,zoz,z5o,ld3,zek,ld25,st25,t0,t1,t4,t6,decl hlt,l1,l2,z0i he,gq])|(refine EvC.condT ?_ ?_;simp (disch:=first|omega|rfl) only[sB,Nat.reduceEqDiff];refine z07 ?_))
    have hx3:=hx2.pt (Nat.le_refl _) gq (some (.row (six B[i].2 a' c') 25))
    have hfind:B.find? (fun p=>p.1 == n)=some B[i]:=by
     rw[List.find?_eq_some_iff_getElem]
     refine⟨by simp [he],i,hlt,rfl,fun j hj=>?_⟩
     have:=hn B[j] (by rw[List.mem_take_iff_getElem];exact⟨j,by omega,rfl⟩)
     simp [this]
    refine z0b rfl (by simp only[sB,Nat.reduceEqDiff,t4];rfl) (by simp only[sB,Nat.reduceAdd,cutC,ld25];rfl) (by simp only[sB,Nat.reduceEqDiff];rfl) ⟨hx3,?_⟩
    rw[hfind]
    exact⟨_,rfl,r.mono hx3 hw⟩
   ·repeat' (first|refine EvC.seq ?_|refine EvC.block ?_|(refine EvC.skip ?_;try simp only[sA])|(refine EvC.reg ?_;simp (disch:=first|omega|rfl) only[sB,Nat.reduceEqDiff,reduceCtorEq,zm8,zoz,z5o,ld3,t0,t1,t6,decl hlt,l1,z0j he,z0c])|(refine EvC.condT ?_ ?_;simp (disch:=first|omega|rfl) only[sB,Nat.reduceEqDiff];refine z07 ?_)|(refine EvC.condF ?_ ?_;simp (disch:=first|omega|rfl) only[sB,Nat.reduceEqDiff];refine z07 ?_))
    refine⟨B.length - (i+1),by omega,_,i+1,rfl,rfl,by omega,fun p hp=>?_,(by simp only[sG,reduceCtorEq,t0]),(by simp only[sG,Nat.reduceEqDiff,t1]),(by simp only[sG,Nat.reduceEqDiff,t4]),(by simp only[sB,Nat.reduceEqDiff];rfl)⟩
    rw[←List.take_append_getElem hlt,List.mem_append] at hp
    rcases hp with hp|hp
    ·exact hn p hp
    ·simp at hp;rw[hp];exact he
  ·repeat' (first|refine EvC.seq ?_|(refine EvC.exit ?_;try simp only[sB])|(refine EvC.ret ?_)|(refine EvC.reg ?_;simp (disch:=first|omega|rfl) only[sB,Nat.reduceEqDiff,Nat.reduceAdd,Value.cells,one,reduceCtorEq,layC,zm8,st25,bd25,t0,t4,t6,decn hlt,gq])|(refine EvC.condF ?_ ?_;simp (disch:=first|omega|rfl) only[sB,Nat.reduceEqDiff];refine z07 ?_))
   rw[List.take_of_length_le (by omega)] at hn
   have hfind:B.find? (fun p=>p.1 == n)=none:=by rw[List.find?_eq_none];intro p hp;simp [hn p hp]
   refine z0b rfl (by simp only[sB,Nat.reduceEqDiff,t4];rfl) (by simp only[sB,Nat.reduceAdd,cutC,ld25];rfl) (by simp only[sB,Nat.reduceEqDiff];rfl) ⟨hx2.pt (Nat.le_refl _) gq _,?_⟩
   rw[hfind]
 ·exact⟨_,0,rfl,rfl,by omega,fun p hp=>by simp at hp,(by simp only[sG,reduceCtorEq]),(by simp only[sG,Nat.reduceEqDiff,reduceCtorEq]),(by simp only[sG,Nat.reduceEqDiff,reduceCtorEq]),(by simp only[sB,Nat.reduceEqDiff,reduceCtorEq];rfl)⟩
end Go.Proofs.hq
end

section
namespace Go.Hb
open Go Go.RowKit
end Go.Hb
namespace Go.Proofs.hq
open Go Go.RowKit Go.Hb
variable {ok:Ok}
set_option maxRecDepth 10000
attribute [local irreducible] LX LG EL STG SOP SGO SGD SAL SRD SEF SEG SLK SCK ES
set_option maxHeartbeats 4000000 in
theorem zq9 {B:List (Int × Tm)}{σ:Int→Tm}{ab:Option Addr}{cb:Nat}(hσ:∀n,Few 1000000 (σ n)) {m:Nat}:∀{t:Tm}{cs:List Value}{H:Heap},SizeOf.sizeOf t < m→RepT H t cs→Few 1000000 t→RepBs H B ab cb→(∀n∈occ t,∃p,B.find? (fun p=>p.1 == n)=some p∧p.2=σ n)→H.wf →
  EvF Tryz.prog okT 74 [.agg ⟨cs⟩,.slice ab B.length cb] H fun v H'=>∃cs',v=.agg ⟨cs'⟩∧RepF H' 25 (Rg H.next H'.next) (sub σ t) cs'∧HX H H':=by
 induction m with
 |zero=>intro t cs H h;omega
 |succ m ih =>
 intro t cs H hsz r hf hB hocc hw
 have hbd:=r.bd
 have hfew:=hf.len
 obtain⟨a,c,cells,rfl,-,-,-,-,-,rl⟩:=r.six
 refine EvF.enter rfl Tryz.func74 (by decide) rfl ?_
 (repeat refine EvC.seq ?_);refine EvC.reg ?_;simp (disch:=first|omega|rfl) only[sB,initTm,dBox,dAlloc,Value.cells,one,reduceCtorEq,zr25]
 obtain⟨H2,e2,hx2,gp,gq,hn2,hw2⟩:=new2 hw (.row (six t a c) 25) (.row zero6 25)
 simp only[e2]
 have q1:=row6 gp
 clear e2
 (repeat refine EvC.seq ?_);refine EvC.reg ?_;simp (disch:=first|omega|rfl) only[sB,Nat.reduceEqDiff,reduceCtorEq,z0f,ld3,q1]
 by_cases k1:t.kind=1
 ·have hv:t.var∈occ t:=by rw[z3p,if_pos k1];simp
  obtain⟨p,hp1,hp2⟩:=hocc _ hv
  repeat' (first|refine EvC.seq ?_|(refine EvC.reg ?_;simp (disch:=first|omega|rfl) only[sB,Nat.reduceEqDiff,reduceCtorEq,ld3,z6a,cl86,q1,z0i k1])|(refine EvC.condT ?_ ?_;simp (disch:=first|omega|rfl) only[sB,Nat.reduceEqDiff,reduceCtorEq,z0i k1];refine z07 ?_))
  refine(zn6 (hB.mono hx2 hw) hw2).mono ?_
  rintro v H3 ⟨hx3,hv3⟩
  rw[hp1] at hv3
  obtain⟨cs3,rfl,r3⟩:=hv3
  rw[hp2] at r3
  obtain⟨a3,c3,z7f,rfl,-⟩:=r3.six
  have gq3:=hx3.get hw2 gq
  repeat' (first|refine EvC.seq ?_|(refine EvC.reg ?_;simp (disch:=first|omega|rfl) only[sB,Nat.reduceEqDiff,Nat.reduceAdd,reduceCtorEq,cutC,ld25,cl6])|(refine z0k ?_;simp (disch:=first|omega|rfl) only[sB,dAlloc,Nat.reduceEqDiff,Nat.reduceAdd,one,reduceCtorEq,zr25,st25])|(refine EvC.condT ?_ ?_;simp (disch:=first|omega|rfl) only[sB,Nat.reduceEqDiff,reduceCtorEq];refine z07 ?_))
  obtain⟨H4,e4,hx4,g4,hn4,hw4⟩:=z0r hx3.wf (.row zero6 25) (.row (six (σ t.var) a3 c3) 25)
  simp only[e4]
  have hx34:=hx3.trans hx4
  refine(zkc (Nat.lt_succ_self _) (r3.mono hx4 hx3.wf) (hσ _) hw4).mono ?_
  rintro v H5 ⟨c5,rfl,⟨a5,k5,rfl,hb5,hf5⟩,hx5⟩
  have gq5:=hx5.get hw4 (hx4.get hx3.wf gq3)
  have hx25:=hx34.trans hx5
  have n24:=hx34.next
  have n25:=hx25.next
  repeat' (first|(refine EvC.ret ?_;try simp only[z05,z03])|(refine z0k ?_;simp (disch:=first|omega|rfl) only[sB,Nat.reduceAdd,one,st25,gq5]))
  refine z0a rfl (by simp only[sB,Nat.reduceEqDiff,reduceCtorEq];rfl) (by simp only[sB,Nat.reduceAdd,cutC,ld25];rfl) ⟨_,rfl,⟨a5,k5,by rw[z4n k1],by rw[z4n k1];exact hb5,?_⟩,(hx2.trans hx25).pt (by omega) gq5 _⟩
  rw[z4n k1]
  refine(hf5.heap (fun n hn _=>?_) hx5.wf).sub fun n hn=>⟨by have:=hn.1;omega,hn.2⟩
  have:=hn.1
  rw[get_put,if_neg (by omega)]
 have hsub:=zgm (σ:=σ) k1
 have hsa:(sub σ t).args=t.args.map (sub σ):=by rw[hsub];rfl
 have hbd':Bd (sub σ t):=by rw[hsub];exact⟨hbd.kind,hbd.name,hbd.num,hbd.bits,hbd.var⟩
 have hsix:∀a c,six (sub σ t) a c=[.int .i64 t.kind,.string t.name,.string t.num,.int .u64 t.bits,.int .i64 t.var,.slice a t.args.length c]:=fun a c=>by rw[hsub];simp [six,Tm.kind,Tm.name,Tm.num,Tm.bits,Tm.var,Tm.args]
 refine EvC.condF (by simp (disch:=first|omega|rfl) only[sB,Nat.reduceEqDiff,reduceCtorEq,z0j k1]) ?_;(try refine EvC.skip ?_);(try simp only[z00,z01])
 (repeat refine EvC.seq ?_);refine EvC.reg ?_;simp (disch:=first|omega|rfl) only[sB,dAlloc,Nat.reduceEqDiff,Nat.reduceAdd,one,reduceCtorEq,zr25,st25,ld25,q1]
 obtain⟨H3,e3,hx3,gr,hn3,hw3⟩:=z0r hw2 (.row zero6 25) (.row (six t a c) 25)
 simp only[e3]
 clear e3
 rw[hn2] at gr hn3
 simp only[hn2]
 (repeat refine EvC.seq ?_);refine EvC.reg ?_;simp (disch:=first|omega|rfl) only[sB,Nat.reduceEqDiff,Nat.reduceAdd,one,reduceCtorEq,z0g,st23,gr]
 have hx23:=hx2.trans hx3
 have gp3:=hx3.get hw2 gp
 have gq3:=hx3.get hw2 gq
 have hmax:=rl.max
 (repeat refine EvC.seq ?_);refine EvC.reg ?_;simp (disch:=first|omega|rfl) only[sA]
 refine EvC.meet (fun st=>∃tm H' ar cr,st=⟨tm,[],H'⟩∧tm.get 4=some (.pointer (some ⟨H.next+1,0,none⟩))∧tm.get 7=some (.pointer (some ⟨H.next+2,0,none⟩)) ∧
   H'.get (H.next+1)=some (.row zero6 25)∧H'.get (H.next+2)=some (.row (six (sub σ t) ar cr) 25)∧FL H' 25 (Rg (H.next+3) H'.next) (sub σ t).args ar cr∧HX H H') ?_ ?_
 ·refine EvC.block (EvC.loop (fun k st=>∃tm H' i ar cr,st=⟨tm,[],H'⟩∧k=t.args.length - i∧i≤t.args.length∧tm.get 1=some (.slice ab B.length cb) ∧
   tm.get 2=some (.pointer (some ⟨H.next,0,none⟩))∧tm.get 4=some (.pointer (some ⟨H.next+1,0,none⟩))∧tm.get 7=some (.pointer (some ⟨H.next+2,0,none⟩))∧tm.get 8=some (.int .i64 (i:Nat)) ∧
   H'.get H.next=some (.row (six t a c) 25)∧H'.get (H.next+1)=some (.row zero6 25) ∧
   H'.get (H.next+2)=some (.row [.int .i64 t.kind,.string t.name,.string t.num,.int .u64 t.bits,.int .i64 t.var,.slice ar i cr] 25) ∧
   FL H' 25 (Rg (H.next+3) H'.next) ((t.args.take i).map (sub σ)) ar cr∧HX H H') ?_ t.args.length _ ?_)
  ·rintro k st ⟨tm,H',i,ar,cr,rfl,rfl,hi,t0,t1,t2,t3,t4,gp',gq',gr',hfl,hx'⟩
   have q1:=row6 gp'
   by_cases hlt:i < t.args.length
   ·obtain⟨b,o,a1,c1,rfl,hld,hr1⟩:=rl.el hlt
    have hld1:=hx'.load hw hld
    repeat' (first|refine EvC.seq ?_|refine EvC.block ?_|(refine EvC.skip ?_;try simp only[z00])|(refine EvC.reg ?_;simp (disch:=first|omega|rfl) only[sB,Nat.reduceEqDiff,z0g,ld23,ln23,t1,t4,q1,decl hlt])|(refine EvC.drw [([(2,0),(3,0),(4,0),(5,0),(6,0),(7,0)],some 8),([(0,0),(1,0),(9,1)],some 10),([(11,2)],some 12),([],none)] ?_ ?_;kernel_rfl;simp (disch:=first|omega|rfl) only[sD,sB,Nat.reduceEqDiff,Nat.reduceAdd,reduceCtorEq,ld25,z0g,ld23,ia23,cl74,t0,t1,t4,q1,hld1,isAlloc,isRead])|(refine EvC.condT ?_ ?_;simp (disch:=first|omega|rfl) only[sB,Nat.reduceEqDiff];refine z07 ?_))
    have hb:=hx'.bump 13
    have hs:=z14 (List.getElem?_eq_getElem hlt)
    refine(ih (t:=t.args[i]) (by omega) (hr1.mono hb hw) (hf.args _ (List.getElem_mem _)) (hB.mono hb hw) (fun n hn=>hocc n (by rw[z3p];exact List.mem_append.2 (.inr ((z6i t.args (i+1)).subset (by rw[z2v hlt];exact List.mem_append.2 (.inr hn)))))) hb.wf).mono ?_
    rintro v H5 ⟨cs',rfl,⟨a2,c2,rfl,hb2,hf2⟩,hx5⟩
    have hb5:=((HX.refl hx'.wf).bump 13).trans hx5
    have gp5:=hb5.get hx'.wf gp'
    have gq5:=hb5.get hx'.wf gq'
    have gr5:=hb5.get hx'.wf gr'
    have q3:=row6 gr5
    have q3':=row6 gr'
    have ean:apOk Tryz.prog 23 25 6:=ap23
    have hn5:=hx5.next
    have hn5':H'.next+13≤H5.next:=hn5
    have hltr:=hx'.wf _ _ gr'
    have hx6:HX H' (H5.put (H'.next+9) (some (.row (six (sub σ t.args[i]) a2 c2) 25))):=hb5.put (i:=H'.next+9) (Nat.le_add_right _ _) (by omega) _
    obtain⟨H6,e6⟩:∃H6,H5.put (H'.next+9) (some (.row (six (sub σ t.args[i]) a2 c2) 25))=H6:=⟨_,rfl⟩
    have g6:H6.get (H'.next+9)=some (.row (six (sub σ t.args[i]) a2 c2) 25):=by rw[←e6,get_put,if_pos rfl]
    have hn6:H6.next=H5.next:=by rw[←e6,z06]
    have hf6:FL H6 25 (Rg (H'.next+13) H5.next) (sub σ t.args[i]).args a2 c2:=hf2.heap (fun n hn _=>by have:H'.next+13≤n:=hn.1;rw[←e6,get_put,if_neg (by omega)]) hx5.wf
    rw[e6] at hx6
    have etl:((t.args.take i).map (sub σ)).length=i:=by rw[List.length_map,List.length_take];omega
    obtain⟨H7,e7,hf7,hk7,hn7⟩:=FL.push (S2:=Rg (H.next+3) (H6.next+1)) (c1:=1) ean (hfl.keep hx6 hx'.wf) hx6.wf (row6 g6).2.2.2.2.2.2 hf6 hb2 (fun n hn hs=>by have:H'.next+13≤n:=hn.1;have:=hs.2;omega) (fun n hn=>by have:=hn.2;omega) (fun n hn=>by have:=hn.2;omega)
     (by rw[etl];unfold most;omega) (fun n hn=>by
      rcases hn with hn|hn|hn
      ·exact⟨hn.1,by have:=hn.2;omega⟩
      ·exact⟨by have:H'.next+13≤n:=hn.1;omega,by have:=hn.2;omega⟩
      ·exact⟨by omega,by omega⟩)
    rw[etl] at e7 hf7
    have hx7:HX H H7:=(hx'.trans hx6).then hk7 fun n hn hs=>by have:=hs.1;omega
    have gp7:=hk7.get hx6.wf (hx6.get hx'.wf gp') (fun hs=>by have:=hs.1;omega)
    have gq7:=hk7.get hx6.wf (hx6.get hx'.wf gq') (fun hs=>by have:=hs.1;omega)
    have gr7:=hk7.get hx6.wf (hx6.get hx'.wf gr') (fun hs=>by have:=hs.1;omega)
    have q3'':=row6 gr7
    repeat' (first|(refine EvC.reg ?_;simp (disch:=first|omega|rfl) only[sB,Nat.reduceEqDiff,t4,z0c])|(refine z0n ?_;simp (disch:=first|omega|rfl) only[sV,sD,sB,Nat.reduceEqDiff,Nat.reduceAdd,Value.cells,one,reduceCtorEq,layC,z0g,st23,ld23,z4g,t3,q3,q3',e6,e7,gr7,isAlloc,isRead,dalloc]))
    have et:(t.args.take (i+1)).map (sub σ)=(t.args.take i).map (sub σ)++[sub σ t.args[i]]:=by rw[←List.take_append_getElem hlt,List.map_append];rfl
    exact⟨t.args.length - (i+1),by omega,_,_,i+1,some ⟨H6.next,0,none⟩,i+1,rfl,rfl,by omega,(by simp only[sG,Nat.reduceEqDiff,t0]),(by simp only[sG,Nat.reduceEqDiff,t1]),(by simp only[sG,Nat.reduceEqDiff,t2]),(by simp only[sG,Nat.reduceEqDiff,t3]),(by simp only[sB,Nat.reduceEqDiff];rfl),by rw[get_put,if_neg (by omega)];exact gp7,by rw[get_put,if_neg (by omega)];exact gq7,by rw[get_put,if_pos rfl],
     by
      rw[et]
      refine(hf7.heap (H':=H7.put (H.next+2) _) (fun n hn _=>?_) hx7.wf).sub (fun n hn=>⟨hn.1,by rw[z06,hn7];exact hn.2⟩)
      have:=hn.1
      rw[get_put,if_neg (by omega)],hx7.pt (by omega) gr7 _⟩
   ·repeat' (first|refine EvC.seq ?_|(refine EvC.exit ?_;try simp only[sB,reduceCtorEq])|(refine EvC.reg ?_;simp (disch:=first|omega|rfl) only[sB,Nat.reduceEqDiff,z0g,ld23,ln23,t1,t4,q1,decn hlt])|(refine EvC.condF ?_ ?_;simp (disch:=first|omega|rfl) only[sB,Nat.reduceEqDiff];refine z07 ?_))
    have hi':i=t.args.length:=by omega
    subst hi'
    rw[List.take_of_length_le (Nat.le_refl _),←hsa] at hfl
    exact⟨_,_,ar,cr,rfl,(by simp only[sG,Nat.reduceEqDiff,t2]),(by simp only[sG,Nat.reduceEqDiff,t3]),gq',by rw[hsix];exact gr',hfl,hx'⟩
  ·exact⟨_,_,0,none,0,rfl,rfl,by omega,(by simp only[sG,Nat.reduceEqDiff,reduceCtorEq]),(by simp only[sG,Nat.reduceEqDiff,reduceCtorEq]),(by simp only[sG,Nat.reduceEqDiff,reduceCtorEq]),(by simp only[sG,Nat.reduceEqDiff,reduceCtorEq]),(by simp only[sB,Nat.reduceEqDiff,reduceCtorEq];rfl),by rw[get_put,if_neg (by omega)];exact gp3,by rw[get_put,if_neg (by omega)];exact gq3,by rw[get_put,if_pos rfl],.nil _,hx23.pt (by omega) gr _⟩
 ·rintro st ⟨tm,H',ar,cr,rfl,t2,t3,gq',gr',hfl,hx'⟩
  have q3:=row6 gr'
  have hlt:=hx'.wf _ _ gr'
  repeat' (first|refine EvC.seq ?_|(refine EvC.ret ?_)|(refine EvC.reg ?_;simp (disch:=first|omega|rfl) only[sB,Nat.reduceEqDiff,Nat.reduceAdd,one,st25,ld25,t2,t3,q3,gq']))
  have hx6:=hx'.pt (i:=H.next+1) (by omega) gq' (some (.row (six (sub σ t) ar cr) 25))
  refine z0a rfl (by simp only[sB,Nat.reduceEqDiff,t2];rfl) (by simp only[sB,Nat.reduceAdd,cutC,ld25]) ⟨_,rfl,⟨ar,cr,rfl,hbd',(hfl.heap (fun n hn _=>?_) hx'.wf).sub fun n hn=>⟨by have:=hn.1;omega,hn.2⟩⟩,hx6⟩
  have:=hn.1
  rw[get_put,if_neg (by omega)]
end Go.Proofs.hq
end

section
namespace Go.Proofs.hq
open Go Go.RowKit Go.Hb
variable {ok:Ok}
set_option maxRecDepth 10000
attribute [local irreducible] LX LG EL STG SOP SGO SGD SAL SRD SEF SEG SLK SCK ES
abbrev bindC (n:Int) (i:Nat):List Value:=[.int .i64 n,.int .i64 1,.string ByteArray.empty,.string ByteArray.empty,.int .u64 0,.int .i64 (i:Nat),.slice none 0 0]
def cellsB:List Int→Nat→List Value
 |[],_=>[]
 |n :: L,i=>bindC n i++cellsB L (i+1)
def bndsB:List Int→Nat→List (Int × Tm)
 |[],_=>[]
 |n :: L,i=>(n,varT (i:Nat)) :: bndsB L (i+1)
theorem zac:∀(L:List Int) (i:Nat),(cellsB L i).length=L.length*7
 |[],i=>rfl
 |n :: L,i=>by
  have h7:(bindC n i).length=7:=rfl
  rw[cellsB,List.length_append,zac L (i+1),h7,show (n :: L).length=L.length+1 from rfl];omega
theorem z4u:∀(L:List Int) (i:Nat),(bndsB L i).length=L.length
 |[],i=>rfl
 |n :: L,i=>by rw[bndsB,List.length_cons,z4u L (i+1),List.length_cons]
theorem z9b (n:Int):∀(L:List Int) (i:Nat),cellsB (L++[n]) i=cellsB L i++bindC n (i+L.length)
 |[],i=>by rw[List.nil_append,cellsB,cellsB,cellsB];rfl
 |m :: L,i=>by
  rw[List.cons_append,cellsB,z9b n L (i+1),cellsB,List.append_assoc,List.length_cons,show i+1+L.length=i+(L.length+1) by omega]
theorem z9c:∀(L:List Int) (i:Nat),(cellsB L i).all one=true
 |[],i=>rfl
 |n :: L,i=>by rw[cellsB,List.all_append,z9c L (i+1)];rfl
theorem zdu:∀(L:List Int) (i j:Nat) (h:j < L.length),((cellsB L i).drop (j*7)).take 7=bindC L[j] (i+j)
 |[],_,_,h=>by simp at h
 |n :: L,i,0,_=>by
  rw[cellsB,Nat.zero_mul,List.drop_zero,List.take_append_of_le_length (by simp)];rfl
 |n :: L,i,j+1,h=>by
  have h7:(bindC n i).length=7:=rfl
  rw[cellsB,Nat.succ_mul,Nat.add_comm (j*7) 7,←List.drop_drop,List.drop_left' h7,zdu L (i+1) j (by simpa using h)]
  simp only[List.getElem_cons_succ]
  rw[show i+1+j=i+(j+1) by omega]
theorem zh6:∀(L:List Int) (i j:Nat) (h:j < (bndsB L i).length) (h':j < L.length),(bndsB L i)[j]=(L[j],varT ((i+j:Nat):Int))
 |[],_,_,_,h=>by simp at h
 |n :: L,i,0,_,_=>rfl
 |n :: L,i,j+1,h,h'=>by
  have:=zh6 L (i+1) j (by rw[z4u];simpa using h') (by simpa using h')
  simp only[bndsB,List.getElem_cons_succ]
  rw[this,show i+1+j=i+(j+1) by omega]
theorem zad {n:Int}:∀(L:List Int) (i:Nat),n∈L→∃p,(bndsB L i).find? (fun p=>p.1 == n)=some p∧p.2=varT ((i:Int)+plcZ L n)
 |[],i,h=>by simp at h
 |m :: L,i,h=>by
  by_cases hm:m=n
  ·subst hm
   exact⟨(m,varT (i:Nat)),by simp [bndsB,List.find?_cons],by simp [plcZ,List.idxOf?,List.findIdx?_cons]⟩
  ·have hb:(m == n)=false:=by simp [hm]
   obtain⟨p,h1,h2⟩:=zad (n:=n) L (i+1) (by rcases List.mem_cons.1 h with h|h;exact absurd h.symm hm;exact h)
   refine⟨p,by rw[bndsB,List.find?_cons];simp only[hb];exact h1,?_⟩
   rw[h2]
   have hin:n∈L:=by rcases List.mem_cons.1 h with h|h;exact absurd h.symm hm;exact h
   unfold plcZ List.idxOf?
   rw[List.findIdx?_cons,hb]
   simp only[Bool.false_eq_true,if_false]
   cases hf:L.findIdx? fun x=>x == n with
   |none=>rw[List.findIdx?_eq_none_iff] at hf;have:=hf n hin;simp at this
   |some k=>simp;congr 1;omega
theorem zn7 {n:Int}:∀(l:List Int),n∈l→n∈uniq l:=by
 have h:∀(l L:List Int),(n∈L∨n∈l)→n∈l.foldl addU L:=by
  intro l
  induction l with
  |nil=>intro L h;rcases h with h|h;exact h;simp at h
  |cons m l ih =>
   intro L h
   refine ih _ ?_
   unfold addU
   rcases h with h|h
   ·left;split;exact h;simp [h]
   ·rcases List.mem_cons.1 h with rfl|h
    ·left;split;assumption;simp
    ·exact .inr h
 exact fun l hl=>h l [] (.inr hl)
theorem zoj {n:Int}{t:Tm}:∀{l:List Tm},t∈l→n∈occ t→n∈occL l
 |[],h,_=>by simp at h
 |u :: l,h,hn=>by
  rw[occL]
  rcases List.mem_cons.1 h with rfl|h
  ·exact List.mem_append.2 (.inl hn)
  ·exact List.mem_append.2 (.inr (zoj h hn))
def BnL (H:Heap) (S:Nat→Prop) (L:List Int) (v:Value):Prop :=
 (L=[]∧v=.slice none 0 0)∨∃b c,v=.slice (some ⟨b,0,none⟩) L.length c∧L.length≤c∧c≤maxLen∧H.get b=some (.row (cellsB L 0) 109)∧S b
theorem BnL.rep {H:Heap}{S:Nat→Prop}{L:List Int}{v:Value}(h:BnL H S L v) (hL:L.length≤most):∃a c,v=.slice a (bndsB L 0).length c∧RepBs H (bndsB L 0) a c:=by
 have hms:most≤9223372036854775807:=by simp [most]
 rcases h with ⟨rfl,rfl⟩|⟨b,c,rfl,h1,h2,h3,h4⟩
 ·exact⟨none,0,rfl,Nat.le_refl _,Nat.zero_le _,fun i hi=>by simp [bndsB] at hi⟩
 ·refine⟨_,c,by rw[z4u],by rw[z4u];exact h1,h2,fun i hi=>?_⟩
  have hi':i < L.length:=by rw[z4u] at hi;exact hi
  have hat:=zh6 L 0 i hi hi'
  have hc:=zdu L 0 i hi'
  rw[Nat.zero_add] at hat hc
  have c1:((cellsB L 0).drop (i*7)).take 1=[.int .i64 L[i]]:=by
   have:=congrArg (List.take 1) hc
   rw[List.take_take] at this;exact this
  have c6:((cellsB L 0).drop (i*7+1)).take 6=six (varT (i:Nat)) none 0:=by
   have:=congrArg (fun x=>(x.drop 1)) hc
   simp only[List.drop_take,List.drop_drop] at this
   exact this
  rw[hat]
  refine⟨b,0,none,0,rfl,?_,?_,zkl ⟨by omega,by omega⟩⟩
  ·unfold Heap.load Heap.cells;simp only[h3,Nat.zero_add,c1];rfl
  ·unfold Heap.load Heap.cells;simp only[h3,Nat.zero_add,c6];rfl
theorem BnL.push {H:Heap}{S S2:Nat→Prop}{L:List Int}{n:Int}{v:Value}{ad:Addr}{c1:Nat}(h:BnL H S L v) (hw:H.wf) (hl:H.load ad (1*7)=some (bindC n L.length)) (hm:L.length+1≤most) (h2:S2 H.next) :
  ∃H2 v2,dAp Tryz.prog #[107,107] v (.slice (some ad) 1 c1) H=some (.val v2 H2)∧BnL H2 S2 (L++[n]) v2∧HK S H H2∧H2.next=H.next+1:=by
 have hp:apOk Tryz.prog 107 109 7:=zs3
 have hmax:L.length+1≤maxLen:=Nat.le_trans hm (by simp [most,maxLen])
 have hcl:=zac L 0
 rcases h with ⟨rfl,rfl⟩|⟨b,c,rfl,hlc,hcm,hg,hs⟩
 ·exact⟨_,_,z5l hp (by omega) hm hl rfl,.inr ⟨H.next,1,rfl,Nat.le_refl _,hmax,z0o,h2⟩,((HX.refl hw).new _).hk _,rfl⟩
 ·refine⟨_,_,z4f hp (by omega) hm hl rfl hg (by omega) (by rw[List.take_of_length_le (by omega)];exact z9c L 0),.inr ⟨H.next,L.length+1,by simp,by simp,hmax,?_,h2⟩,((HK.refl hw).put (.inl hs) (hw _ _ hg) none).new _,rfl⟩
  show ((H.put b none).new _).get (H.put b none).next=_
  rw[z0o,List.take_of_length_le (by omega),z9b,Nat.zero_add]
theorem BnL.heap {H H':Heap}{S:Nat→Prop}{L:List Int}{v:Value}(h:BnL H S L v) (hk:∀n,S n→n < H.next→H'.get n=H.get n) (hw:H.wf):BnL H' S L v:=by
 rcases h with h|⟨b,c,h1,h2,h3,h4,h5⟩
 ·exact .inl h
 ·exact .inr ⟨b,c,h1,h2,h3,(hk b h5 (hw _ _ h4)).trans h4,h5⟩
theorem BnL.slice {H:Heap}{S:Nat→Prop}{L:List Int}{v:Value}(h:BnL H S L v):∃a c,v=.slice a L.length c:=by
 rcases h with ⟨rfl,rfl⟩|⟨b,c,rfl,-⟩
 ·exact⟨none,0,rfl⟩
 ·exact⟨_,c,rfl⟩
set_option maxHeartbeats 8000000 in
theorem zlh {l:List Tm}{a:Option Addr}{c:Nat}{cells:Nat→List Value}{H:Heap}(rl:RepL H l a c cells) (hf:∀t∈l,Fine t) (hlen:(occL l).length≤most) (hl:l.length≤most) (hw:H.wf) :
  EvF Tryz.prog okT 49 [.slice a l.length c] H fun v H'=>∃a' c',v=.slice a' (plainL l).length c'∧FL H' 25 (Rg H.next H'.next) (plainL l) a' c'∧HX H H':=by
 have hmx:=rl.max
 have hms:most≤9223372036854775807:=by simp [most]
 have ean:apOk Tryz.prog 23 25 6:=ap23
 refine EvF.enter rfl Tryz.func49 (by decide) rfl ?_
 repeat' (first|refine EvC.seq ?_|(refine EvC.reg ?_;simp (disch:=first|omega|rfl) only[sB,initTm,Nat.reduceEqDiff,reduceCtorEq,cl50]))
 refine(zab rl hlen hw).mono ?_
 rintro v H1 ⟨hi1,hx1⟩
 have nn1:=hx1.next
 have hLl:(uniq (occL l)).length≤most:=Nat.le_trans (z54 _) hlen
 have hmem:∀t∈l,∀n∈occ t,n∈uniq (occL l):=fun t ht n hn=>zn7 _ (zoj ht hn)
 try simp (disch:=first|omega|rfl) only[]
 (repeat refine EvC.seq ?_);refine EvC.reg ?_;simp (disch:=first|omega|rfl) only[sA]
 (repeat refine EvC.seq ?_);refine EvC.reg ?_;simp (disch:=first|omega|rfl) only[sA]
 unfold plainL
 generalize hLdef:uniq (occL l)=L at *
 obtain⟨av,cv,rfl,hrd,hSv⟩:=hi1.rd
 refine EvC.meet (fun st=>∃tm H' vb S,st=⟨tm,[],H'⟩∧tm.get 0=some (.slice a l.length c)∧tm.get 4=some vb∧BnL H' S L vb∧HX H H') ?_ ?_
 ·refine EvC.block (EvC.loop (fun k st=>∃tm H' i vb S,st=⟨tm,[],H'⟩∧k=L.length - i∧i≤L.length∧tm.get 0=some (.slice a l.length c)∧tm.get 3=some (.slice av L.length cv)∧tm.get 4=some vb∧tm.get 5=some (.int .i64 (i:Nat)) ∧
   BnL H' S (L.take i) vb∧(∀n,S n→H1.next≤n∧n < H'.next)∧HX H1 H') ?_ L.length _ ?_)
  ·rintro k st ⟨tm,H',i,vb,S,rfl,rfl,hi,t0,t3,t4,t5,hb,hS,hx'⟩
   by_cases hlt:i < L.length
   ·obtain⟨b,o,rfl,hld⟩:=hrd.get i hlt
    have hld1:=hx'.load hx1.wf hld
    repeat' (first|refine EvC.seq ?_|refine EvC.block ?_|(refine EvC.skip ?_;try simp only[z00])|(refine EvC.reg ?_;simp (disch:=first|omega|rfl) only[sB,Nat.reduceEqDiff,ln77,t3,t5,decl hlt])|(refine EvC.drw [([(5,0)],some 6),([(0,0),(1,0),(2,0),(3,0),(4,0),(7,1),(8,1)],some 9),([(10,2)],none)] ?_ ?_;kernel_rfl;simp (disch:=first|omega|rfl) only[sD,sB,Nat.reduceEqDiff,Nat.reduceAdd,cl22,t5,isAlloc,isRead])|(refine EvC.condT ?_ ?_;simp (disch:=first|omega|rfl) only[sB,Nat.reduceEqDiff];refine z07 ?_))
    have hbm:=hx'.bump 11
    refine(V_ev hbm.wf).mono ?_
    rintro v H3 ⟨rfl,hx3⟩
    have hld3:=hx3.load hbm.wf (show Heap.load ⟨H'.next+11,H'.t⟩ _ _=_ from hld1)
    have hb3:=((HX.refl hx'.wf).bump 11).trans hx3
    have n3:H'.next+11≤H3.next:=hx3.next
    repeat' (first|(refine z0n ?_;simp (disch:=first|omega|rfl) only[sV,sD,sB,Nat.reduceEqDiff,Nat.reduceAdd,Value.cells,one,reduceCtorEq,Nat.reduceLeDiff,layC,ia77,ld3,zs2,zoy,t3,t4,t5,hld1,hld3,isAlloc,isRead,dalloc,Bool.and_true]))
    have hx6:HX H' (H3.put (H'.next+8) (some (.row [.int .i64 L[i],.int .i64 1,.string ByteArray.empty,.string ByteArray.empty,.int .u64 0,.int .i64 (i:Nat),.slice none 0 0] 109))):=hb3.put (i:=H'.next+8) (Nat.le_add_right _ _) (by omega) _
    obtain⟨H6,e6⟩:∃H6,H3.put (H'.next+8) (some (.row [.int .i64 L[i],.int .i64 1,.string ByteArray.empty,.string ByteArray.empty,.int .u64 0,.int .i64 (i:Nat),.slice none 0 0] 109))=H6:=⟨_,rfl⟩
    have g6:H6.get (H'.next+8)=some (.row (bindC L[i] i) 109):=by rw[←e6,get_put,if_pos rfl]
    have hn6:H6.next=H3.next:=by rw[←e6,z06]
    rw[e6] at hx6
    have etl:(L.take i).length=i:=by rw[List.length_take];omega
    obtain⟨H7,v2,e7,hb7,hk7,hn7⟩:=BnL.push (S2:=fun n=>n=H6.next) (n:=L[i]) (ad:=⟨H'.next+8,0,none⟩) (c1:=1) (hb.heap (H':=H6) (fun n _ hl=>hx6.keep n hl) hx'.wf) hx6.wf
     (by rw[etl];unfold Heap.load Heap.cells;simp only[g6];rfl) (by rw[etl];omega) rfl
    have hx7:HX H1 H7:=(hx'.trans hx6).then hk7 fun n hn hs=>by have:=(hS n hs).1;omega
    repeat' (first|(refine EvC.reg ?_;simp (disch:=first|omega|rfl) only[sB,Nat.reduceEqDiff,t5,z0c])|(refine zqj ?_;simp (disch:=first|omega|rfl) only[sD,sB,Nat.reduceEqDiff,Nat.reduceAdd,e6,e7,isAlloc,isRead]))
    exact⟨L.length - (i+1),by omega,_,_,i+1,v2,_,rfl,rfl,by omega,(by simp only[sG,reduceCtorEq,t0]),(by simp only[sG,Nat.reduceEqDiff,t3]),(by simp only[sG,Nat.reduceEqDiff]),(by simp only[sB,Nat.reduceEqDiff];rfl),by rw[←List.take_append_getElem hlt];exact hb7,fun n hn=>⟨by have:=hx'.next;omega,by omega⟩,hx7⟩
   ·repeat' (first|refine EvC.seq ?_|(refine EvC.exit ?_;try simp only[sB,reduceCtorEq])|(refine EvC.reg ?_;simp (disch:=first|omega|rfl) only[sB,Nat.reduceEqDiff,ln77,t3,t5,decn hlt])|(refine EvC.condF ?_ ?_;simp (disch:=first|omega|rfl) only[sB,Nat.reduceEqDiff];refine z07 ?_))
    rw[List.take_of_length_le (by omega)] at hb
    exact⟨_,_,vb,S,rfl,(by simp only[sG,reduceCtorEq,t0]),(by simp only[sG,Nat.reduceEqDiff,t4]),hb,hx1.trans hx'⟩
  ·exact⟨_,_,0,.slice none 0 0,fun _=>False,rfl,rfl,by omega,(by simp only[sG,reduceCtorEq]),(by simp only[sG,Nat.reduceEqDiff,reduceCtorEq]),(by simp only[sG,Nat.reduceEqDiff,reduceCtorEq]),(by simp only[sB,Nat.reduceEqDiff,reduceCtorEq];rfl),.inl ⟨by simp,rfl⟩,fun n h=>h.elim,HX.refl hx1.wf⟩
 rintro st ⟨tm,H5,vb,S,rfl,t0,t4,hb5,hx5⟩
 obtain⟨ab,cb,rfl,hbs⟩:=hb5.rep hLl
 repeat' (first|refine EvC.seq ?_|refine EvC.block ?_|(refine EvC.reg ?_;simp (disch:=first|omega|rfl) only[sA]))
 have hmax5:∀n∈occL l,True:=fun _ _=>trivial
 have few:∀{t:Tm},Fine t→Few 1000000 t:=fun {t} h=>(Fine.few _ (Nat.lt_succ_self _) h).up (by omega)
 have hfewσ:∀n,Few 1000000 (varT (plcZ L n)):=fun n=>few (zb5 (z3r L n).1)
 refine EvC.loop (fun k st=>∃tm H' i ar cr,st=⟨tm,[],H'⟩∧k=l.length - i∧i≤l.length∧tm.get 0=some (.slice a l.length c)∧tm.get 4=some (.slice ab (bndsB L 0).length cb)∧tm.get 6=some (.slice ar i cr)∧tm.get 7=some (.int .i64 (i:Nat)) ∧
   FL H' 25 (Rg H5.next H'.next) ((l.take i).map (sub fun n=>varT (plcZ L n))) ar cr∧HX H5 H') ?_ l.length _ ?_
 ·rintro k st ⟨tm,G,i,ar,cr,rfl,rfl,hi,t0,t4,t6,t7,hfl,hxG⟩
  have hxHG:=hx5.trans hxG
  by_cases hlt:i < l.length
  ·obtain⟨b,o,a1,c1,rfl,hld,hr1⟩:=rl.el hlt
   have hld1:=hxHG.load hw hld
   repeat' (first|refine EvC.seq ?_|refine EvC.block ?_|(refine EvC.skip ?_;try simp only[z00])|(refine EvC.reg ?_;simp (disch:=first|omega|rfl) only[sB,Nat.reduceEqDiff,Nat.reduceAdd,Value.cells,reduceCtorEq,layC,ln23,ia23,ld25,cl74,z4g,t0,t4,t6,t7,decl hlt,hld1])|(refine EvC.condT ?_ ?_;simp (disch:=first|omega|rfl) only[sB,Nat.reduceEqDiff];refine z07 ?_))
   refine(zq9 (σ:=fun n=>varT (plcZ L n)) hfewσ (Nat.lt_succ_self _) (hr1.mono hxHG hw) (few (hf _ (List.getElem_mem _))) (hbs.mono hxG hx5.wf) (fun n hn=>?_) hxG.wf).mono ?_
   ·obtain⟨p,h1,h2⟩:=zad L 0 (hmem _ (List.getElem_mem hlt) n hn)
    exact⟨p,h1,by rw[h2];simp⟩
   rintro v H6 ⟨cs',rfl,⟨a2,c2,rfl,hb2,hf2⟩,hx6⟩
   have n6:=hx6.next
   repeat' (first|(refine z0k ?_;simp (disch:=first|omega|rfl) only[sB,Nat.reduceEqDiff,Nat.reduceAdd,one]))
   obtain⟨H7,e7,hx7,g7,hn7,hw7⟩:=new1 hx6.wf (.row (six (sub (fun n=>varT (plcZ L n)) l[i]) a2 c2) 25)
   simp only[e7]
   have hx67:=hx6.trans hx7
   have etl:((l.take i).map (sub fun n=>varT (plcZ L n))).length=i:=by rw[List.length_map,List.length_take];omega
   obtain⟨H8,e8,hf8,hk8,hn8⟩:=FL.push (S2:=Rg H5.next (H7.next+1)) (c1:=1) ean (hfl.keep hx67 hxG.wf) hw7 (row6 g7).2.2.2.2.2.2 (hf2.keep hx7 hx6.wf) hb2 (fun n hn hs=>by have:=hn.1;have:=hs.2;omega) (fun n hn=>by have:=hn.2;omega) (fun n hn=>by have:=hn.2;omega)
    (by rw[etl];omega) (fun n hn=>by
     rcases hn with hn|hn|hn
     ·exact⟨hn.1,by have:=hn.2;omega⟩
     ·exact⟨by have:=hn.1;have:=hxG.next;omega,by have:=hn.2;omega⟩
     ·exact⟨by have:=hxG.next;omega,by omega⟩)
   rw[etl] at e8 hf8
   have hx8:HX H5 H8:=(hxG.trans hx67).then hk8 fun n hn hs=>by have:=hs.1;omega
   repeat' (first|(refine EvC.reg ?_;simp (disch:=first|omega|rfl) only[sB,Nat.reduceEqDiff,t7,z0c])|(refine z0k ?_;simp (disch:=first|omega|rfl) only[sB,Nat.reduceEqDiff,e8]))
   have et:(l.take (i+1)).map (sub fun n=>varT (plcZ L n))=(l.take i).map (sub fun n=>varT (plcZ L n))++[sub (fun n=>varT (plcZ L n)) l[i]]:=by rw[←List.take_append_getElem hlt,List.map_append];rfl
   exact⟨l.length - (i+1),by omega,_,_,i+1,some ⟨H7.next,0,none⟩,i+1,rfl,rfl,by omega,(by simp only[sG,reduceCtorEq,t0]),(by simp only[sG,Nat.reduceEqDiff,t4]),(by simp only[sG,Nat.reduceEqDiff]),(by simp only[sB,Nat.reduceEqDiff];rfl),by rw[et,hn8];exact hf8,hx8⟩
  ·repeat' (first|refine EvC.seq ?_|(refine EvC.exit ?_;try simp only[sB])|(refine EvC.ret ?_)|(refine EvC.reg ?_;simp (disch:=first|omega|rfl) only[sB,Nat.reduceEqDiff,reduceCtorEq,ln23,t0,t6,t7,decn hlt])|(refine EvC.condF ?_ ?_;simp (disch:=first|omega|rfl) only[sB,Nat.reduceEqDiff];refine z07 ?_))
   have hi':i=l.length:=by omega
   rw[hi',List.take_of_length_le (Nat.le_refl _)] at hfl
   refine z04 rfl (by simp only[sB,Nat.reduceEqDiff];rfl) ⟨ar,cr,by rw[List.length_map,hi'],hfl.sub fun n hn=>⟨by have:=hx5.next;have:=hn.1;omega,hn.2⟩,hxHG⟩
 ·exact⟨_,_,0,none,0,rfl,rfl,by omega,(by simp only[sG,reduceCtorEq,t0]),(by simp only[sG,Nat.reduceEqDiff,t4]),(by simp only[sG,Nat.reduceEqDiff]),(by simp only[sB,Nat.reduceEqDiff];rfl),.nil _,HX.refl hx5.wf⟩
def RReadEnd (H:Heap) (R:ByteArray × Cls × Er) (v:Value) (H':Heap):Prop:=HX H H'∧∃cs sd,v=.tuple ⟨[.string R.1,.agg ⟨cs⟩,.agg ⟨sd⟩]⟩∧RepC H' (Rg H.next H'.next) R.2.1 cs∧RSaid H' (Rg H.next H'.next) R.2.2 sd
theorem zex {H:Heap}(hw:H.wf) {i:Nat}{X A B C:Blk}(hi:H.get i=some X):∃H2,((H.new (some A)).put i (some B)).put H.next (some C)=H2∧(∀n,n < H.next→n≠i→H2.get n=H.get n)∧H2.get i=some B∧H2.get H.next=some C∧H2.next=H.next+1∧H2.wf:=by
 have hl:=hw _ _ hi
 have hx:=(((HX.refl hw).new (some A)).hk (·=i))
 have hy:=(hx.put (i:=i) (.inl rfl) (by show i < H.next+1;omega) (some B)).put (i:=H.next) (.inr (Nat.le_refl _)) (by show H.next < H.next+1;omega) (some C)
 refine⟨_,rfl,fun n hn hne=>hy.keep n hn hne,by rw[get_put,if_neg (by omega),get_put,if_pos rfl],by rw[get_put,if_pos rfl],rfl,hy.wf⟩
theorem z3c {H G:Heap}{R:ByteArray × Cls × Er}{e:Er}{tm:Tr Value}{cs5 cs6:List Value}{lo hi:Nat}{en:Int}{eb:Bool}{et:Tm}{ea:Option Addr}{ec:Nat}(hR:R=(ByteArray.empty,zeroC,e)) (hx:HX H G) (g5:G.get (H.next+1)=some (.row cs5 32)) (g6:G.get (H.next+1+1)=some (.row cs6 39)) (t4:tm.get 4=some (.string ByteArray.empty)) (t5:tm.get 5=some (.pointer (some ⟨H.next+1,0,none⟩))) (t6:tm.get 6=some (.pointer (some ⟨H.next+1+1,0,none⟩)))
  (he:RSaid G (Rg lo hi) e (saidT en eb et ea ec)) (h1:H.next+3≤lo) (h2:hi≤G.next):Ex.leave Tryz.prog okT Tryz.f8 (RReadEnd H R) .ret ⟨tm,[],(G.put (H.next+1) (some (.row zero15 32))).put (H.next+1+1) (some (.row (saidT en eb et ea ec) 39))⟩:=by
 have hz:=(hx.pt (i:=H.next+1) (by omega) g5 (some (.row zero15 32))).pt (i:=H.next+1+1) (by omega) (by rw[get_put,if_neg (by omega)];exact g6) (some (.row (saidT en eb et ea ec) 39))
 subst hR
 refine z4q rfl t4 t5 (by simp only[sB,Nat.reduceAdd,cutC,ld32,neu]) t6 (by simp only[sB,Nat.reduceEqDiff,Nat.reduceAdd,cutC,ld39]) ⟨hz,_,_,rfl,RepC.zero,he.to fun n hn hl=>?_⟩
 have:=hn.1
 exact⟨by rw[get_put,if_neg (by omega),get_put,if_neg (by omega)],⟨by omega,by rw[z06,z06];exact hl⟩,by rw[z06,z06];exact hl⟩
theorem zli {f:Int→Int}{r:Tm}{b:Bdy}(hf:∀n,0≤f n) (hr:checkS r=0) (hb:bodyF (SizeOf.sizeOf r+1) r=some b) (hn:cnt (toldB b) 0≤400):bodyF (SizeOf.sizeOf (ren f r)+1) (ren f r)=some (readyS (ren f r)).1:=by
 have fr:=(z0h.1 hr).2
 have hR:=zq5 hb
 obtain⟨b1,hR1,ht1⟩:=zsu (f:=f) fr hR
 have ftb:=zds fr hR
 have n2:nd (toldB b)≤400:=zsv hn (by decide)
 have n3:nd (toldB b1)=nd (toldB b):=by rw[ht1,zl8 _ (Nat.lt_succ_self _) ftb]
 have e:=zh2 (Nat.lt_succ_self _) hR1
 have hry:readyS (ren f r)=(b1,.ok):=by
  unfold readyS
  rw[if_neg (fun q=>q (z97 hf hr)),e]
  simp only
  rw[if_neg (by rw[z6m _ _ (Nat.lt_succ_self _) 0 (by omega)];omega)]
 rw[e,hry]
theorem zlj {e:Er}:noneB e=true↔e=.ok:=by cases e<;>simp [noneB]
set_option maxHeartbeats 16000000 in
theorem zn8 {m:ByteArray}{t:Tm}{cs:List Value}{H:Heap}(r0:RepT H t cs) (hw:H.wf):EvF Tryz.prog okT 8 [.string m,.agg ⟨cs⟩] H (RReadEnd H (readS m t)):=by
 obtain⟨a,c,cells,rfl,-⟩:=r0.six
 refine EvF.enter rfl Tryz.func8 (by decide) rfl ?_
 (repeat refine EvC.seq ?_);refine EvC.reg ?_;simp (config := { maxSteps := 2000000 }) (disch:=first|omega|rfl) only[sB,initTm,dBox,dAlloc,Value.cells,one,reduceCtorEq,zr32,zr39]
 obtain⟨H2,e2,hx2,g3,g5,g6,hn2,hw2⟩:=zmu hw (.row (six t a c) 25) (.row zero15 32) (.row said0 39)
 simp only[e2]
 clear e2
 have g6:H2.get (H.next+1+1)=some (.row said0 39):=g6
 (repeat refine EvC.seq ?_);refine EvC.reg ?_;simp (config := { maxSteps := 2000000 }) (disch:=first|omega|rfl) only[sA,dAlloc,zr32]
 obtain⟨H3,e3,hx3,g7,hn3,w3⟩:=new1 hw2 (.row zero15 32)
 simp only[e3]
 clear e3
 have g3:=hx3.get hw2 g3
 have g5:=hx3.get hw2 g5
 have g6:=hx3.get hw2 g6
 have hx:=hx2.trans hx3
 have q3:=row6 g3
 (repeat refine EvC.seq ?_);refine EvC.reg ?_;simp (config := { maxSteps := 2000000 }) (disch:=first|omega|rfl) only[sB,Nat.reduceEqDiff,reduceCtorEq,ld25,cl14,q3]
 refine(z7i t _ _ (r0.mono hx hw) w3).mono ?_
 rintro v H4 ⟨rfl,hx4⟩
 have g3:=hx4.get w3 g3
 have g5:=hx4.get w3 g5
 have g6:=hx4.get w3 g6
 have g7:=hx4.get w3 g7
 have hx:=hx.trans hx4
 have w4:=hx.wf
 have n4:=hx4.next
 have q3:=row6 g3
 have q7:=z1y g7
 try simp (config := { maxSteps := 2000000 }) (disch:=first|omega|rfl) only[]
 by_cases hc:checkS t=0
 rotate_left
 ·have hR:readS m t=(ByteArray.empty,zeroC,.num (checkS t)):=by unfold readS;rw[if_pos hc]
  repeat' (first|refine EvC.seq ?_|(refine EvC.ret ?_;try simp only[z05,z03])|(refine EvC.reg ?_;simp (config := { maxSteps := 2000000 }) (disch:=first|omega|rfl) only[sB,Nat.reduceEqDiff,reduceCtorEq,z1w hc,neu'])|(refine EvC.drw (id:=4) [([(0,0),(3,0)],some 4),([(1,0),(2,0)],some 5),([],none)] ?_ ?_;kernel_rfl;simp (config := { maxSteps := 2000000 }) (disch:=first|omega|rfl) only[sV,sD,sB,Nat.reduceEqDiff,Nat.reduceAdd,Value.cells,one,reduceCtorEq,Nat.reduceLeDiff,layC,ld32,bd39,st32,st39,q7,g5,g6,neu,neu',isAlloc,isRead])|(refine EvC.condT ?_ ?_;simp (config := { maxSteps := 2000000 }) (disch:=first|omega|rfl) only[sB,Nat.reduceEqDiff,reduceCtorEq,neu'];refine z07 ?_))
  exact z3c (lo:=H.next+3) (hi:=H.next+3) (et:=zeroT) (ea:=none) (ec:=0) hR (hx.bump _) g5 g6 (by simp only[sB,Nat.reduceEqDiff,reduceCtorEq];rfl) (by simp only[sG,Nat.reduceEqDiff,reduceCtorEq]) (by simp only[sG,Nat.reduceEqDiff,reduceCtorEq]) ⟨hc,rfl⟩ (Nat.le_refl _) (by show H.next+3≤H4.next+_;omega)
 (repeat refine EvC.seq ?_);refine EvC.reg ?_;simp (config := { maxSteps := 2000000 }) (disch:=first|omega|rfl) only[sB,Nat.reduceEqDiff,reduceCtorEq,z1h hc]
 refine EvC.condF (by simp (config := { maxSteps := 2000000 }) (disch:=first|omega|rfl) only[sB,Nat.reduceEqDiff,reduceCtorEq]) ?_;(try refine EvC.skip ?_);(try simp only[z00,z01])
 (repeat refine EvC.seq ?_);refine EvC.reg ?_;simp (config := { maxSteps := 2000000 }) (disch:=first|omega|rfl) only[sB,Nat.reduceEqDiff,reduceCtorEq,ld25,cl40,q3]
 refine(zdl (m:=m) r0 hx hw hc w4).mono ?_
 rintro v H5 ⟨hx5,a1,c1,sd1,rfl,r1,he1,hc1⟩
 obtain⟨n1,b1,u1,s1,k1,rfl⟩:=he1.cells
 have g3:=hx5.get w4 g3
 have g5:=hx5.get w4 g5
 have g6:=hx5.get w4 g6
 have g7:=hx5.get w4 g7
 have hx5':=hx.trans hx5
 have n5:=hx5.next
 have w5:=hx5.wf
 obtain⟨⟨m1,t1,e1⟩,hS⟩:∃R,stripS m t=R:=⟨_,rfl⟩
 rw[hS] at r1 he1 hc1 ⊢
 simp only at r1 he1 hc1
 have ne3:(H.next=H5.next)=False:=by simp;have:=w5 _ _ g3;omega
 have ne3':(H5.next=H.next)=False:=by simp;have:=w5 _ _ g3;omega
 try simp (config := { maxSteps := 2000000 }) (disch:=first|omega|rfl) only[sB,dAlloc,Nat.reduceEqDiff,Nat.reduceAdd,one,reduceCtorEq,zr39,st39,st25,g3,ne3,ne3']
 obtain⟨H6,e6,k6,g3',g9,hn6,w6⟩:=zex w5 (A:=.row said0 39) (B:=.row (six t1 a1 c1) 25) (C:=.row (saidT n1 b1 u1 s1 k1) 39) g3
 simp only[e6]
 clear e6 g3
 have hx6:HX H H6:=⟨by have:=hx5'.next;omega,fun n hn=>by rw[k6 n (by have:=hx5'.next;omega) (by omega)];exact hx5'.keep n hn,w6⟩
 have g3:=g3'
 have g5:=(k6 _ (by have:=w5 _ _ g5;omega) (by omega)).trans g5
 have g6:=(k6 _ (by have:=w5 _ _ g6;omega) (by omega)).trans g6
 have g7:=(k6 _ (by have:=w5 _ _ g7;omega) (by omega)).trans g7
 have he1:RSaid H6 (Rg H4.next H5.next) e1 (saidT n1 b1 u1 s1 k1):=he1.to fun n hn hl=>⟨k6 n hl (by have:=hn.1;omega),hn,by omega⟩
 have q9:=rowS g9
 (repeat refine EvC.seq ?_);refine EvC.reg ?_;simp (config := { maxSteps := 2000000 }) (disch:=first|omega|rfl) only[sB,Nat.reduceEqDiff,reduceCtorEq,ld39,cl41,q9]
 refine(zgy he1 w6).mono ?_
 rintro v H7 ⟨rfl,hx7⟩
 have w7:=hx7.wf
 have n7:=hx7.next
 have g3:=hx7.get w6 g3
 have g5:=hx7.get w6 g5
 have g6:=hx7.get w6 g6
 have g7:=hx7.get w6 g7
 have g9:=hx7.get w6 g9
 have hx7':=hx6.trans hx7
 have he1:RSaid H7 (Rg H4.next H5.next) e1 (saidT n1 b1 u1 s1 k1):=he1.to fun n hn hl=>⟨hx7.keep n hl,hn,by omega⟩
 have q3:=row6 g3
 have q7:=z1y g7
 have q9:=rowS g9
 try simp (config := { maxSteps := 2000000 }) (disch:=first|omega|rfl) only[]
 by_cases ho:e1=.ok
 rotate_left
 ·have hR:readS m t=(ByteArray.empty,zeroC,e1):=by
   unfold readS
   rw[if_neg (fun h=>h hc),hS]
   cases e1 with
   |ok=>exact absurd rfl ho
   |num n=>rfl
   |ball u=>rfl
  have hnn:noneB e1=false:=by
   cases h:noneB e1 with
   |false=>rfl
   |true=>exact absurd (zlj.1 h) ho
  have ne5:(H5.next=H.next+1)=False:=eq_false (by omega)
  have ne5':(H5.next=H.next+1+1)=False:=eq_false (by omega)
  repeat' (first|refine EvC.seq ?_|(refine EvC.ret ?_;try simp only[z05,z03])|(refine EvC.reg ?_;simp (config := { maxSteps := 2000000 }) (disch:=first|omega|rfl) only[sB,Nat.reduceEqDiff,reduceCtorEq,hnn,Bool.not_false,neu'])|(refine EvC.drw (id:=8) [([(0,0),(2,0)],some 3),([(1,0)],some 4),([],none)] ?_ ?_;kernel_rfl;simp (config := { maxSteps := 2000000 }) (disch:=first|omega|rfl) only[sV,sD,sB,Nat.reduceEqDiff,Nat.reduceAdd,one,reduceCtorEq,cutC,ld32,st32,st39,ld39,q7,q9,g5,g6,neu,neu',ne5,isAlloc,isRead])|(refine EvC.condT ?_ ?_;simp (config := { maxSteps := 2000000 }) (disch:=first|omega|rfl) only[sB,Nat.reduceEqDiff,reduceCtorEq,neu'];refine z07 ?_))
  exact z3c (lo:=H4.next) (hi:=H5.next) hR (hx7'.bump _) g5 g6 (by simp only[sB,Nat.reduceEqDiff,reduceCtorEq];rfl) (by simp only[sG,Nat.reduceEqDiff,reduceCtorEq]) (by simp only[sG,Nat.reduceEqDiff,reduceCtorEq]) (he1.to fun n hn hl=>⟨rfl,hn,by show n < H7.next+_;omega⟩) (by omega) (by show _≤H7.next+_;omega)
 subst ho
 have hR1:readS m t=readH m1 (headOf t1) (restOf t1):=by
  unfold readS
  rw[if_neg (fun h=>h hc),hS]
 rw[hR1]
 (repeat refine EvC.seq ?_);refine EvC.reg ?_;simp (config := { maxSteps := 2000000 }) (disch:=first|omega|rfl) only[sB,Nat.reduceEqDiff,reduceCtorEq]
 refine EvC.condF (by simp (config := { maxSteps := 2000000 }) (disch:=first|omega|rfl) only[sB,Nat.reduceEqDiff,reduceCtorEq,show noneB .ok=true from rfl,Bool.not_true]) ?_;(try refine EvC.skip ?_);(try simp only[z00,z01])
 (repeat refine EvC.seq ?_);refine EvC.reg ?_;simp (config := { maxSteps := 2000000 }) (disch:=first|omega|rfl) only[sB,dAlloc,Nat.reduceEqDiff,Nat.reduceAdd,one,reduceCtorEq,ld25,st25,zr25,q3]
 obtain⟨H8,e8,hx8,g11,hn8,w8⟩:=z0r w7 (.row zero6 25) (.row (six t1 a1 c1) 25)
 simp only[e8]
 clear e8
 (repeat refine EvC.seq ?_);refine EvC.reg ?_;simp (config := { maxSteps := 2000000 }) (disch:=first|omega|rfl) only[sB,dAlloc,Nat.reduceEqDiff,reduceCtorEq,zr25,cl25]
 refine(zib (s:=sTrue) w8).mono ?_
 rintro v H9 ⟨rfl,hx9⟩
 have w9:=hx9.wf
 try simp (config := { maxSteps := 2000000 }) (disch:=first|omega|rfl) only[sB,Nat.reduceAdd,one,st25]
 obtain⟨H10,e10,hx10,g12,hn10,w10⟩:=z0r w9 (.row zero6 25) (.row (six (atmT sTrue) none 0) 25)
 simp only[e10]
 clear e10
 have k80:=hx9.trans hx10
 have k70:=hx8.trans k80
 have g3:=k70.get w7 g3
 have g5:=k70.get w7 g5
 have g6:=k70.get w7 g6
 have g7:=k70.get w7 g7
 have g9:=k70.get w7 g9
 have g11:=k80.get w8 g11
 have hx10':=hx7'.trans k70
 have q3:=row6 g3
 (repeat refine EvC.seq ?_);refine EvC.reg ?_;simp (config := { maxSteps := 2000000 }) (disch:=first|omega|rfl) only[sB,Nat.reduceEqDiff,reduceCtorEq,ld25,cl42,q3]
 refine(z7n (s:=sNck) (r1.mono hx10' hw) w10).mono ?_
 rintro v H11 ⟨rfl,hx11⟩
 have g3:=hx11.get w10 g3
 have g5:=hx11.get w10 g5
 have g6:=hx11.get w10 g6
 have g7:=hx11.get w10 g7
 have g9:=hx11.get w10 g9
 have g11:=hx11.get w10 g11
 have g12:=hx11.get w10 g12
 have hx11':=hx10'.trans hx11
 have w11:=hx11.wf
 have q3:=row6 g3
 have n8:=hx8.next
 have n9:=hx9.next
 have n10:=hx10.next
 have n11:=hx11.next
 obtain⟨p11,ep11⟩:∃p,H7.next=p:=⟨_,rfl⟩
 obtain⟨p12,ep12⟩:∃p,H9.next=p:=⟨_,rfl⟩
 obtain⟨p9,ep9⟩:∃p,H5.next=p:=⟨_,rfl⟩
 rw[ep11] at g11
 rw[ep12] at g12
 rw[ep9] at g9
 try simp (config := { maxSteps := 2000000 }) (disch:=first|omega|rfl) only[]
 simp only[ep11,ep12,ep9]
 refine EvC.join (fun st=>∃tm G ah ch ar cr,st=⟨tm,[],G⟩∧tm.get 0=some (.string m1)∧tm.get 5=some (.pointer (some ⟨H.next+1,0,none⟩))∧tm.get 6=some (.pointer (some ⟨H.next+1+1,0,none⟩))∧tm.get 7=some (.pointer (some ⟨H2.next,0,none⟩))∧tm.get 9=some (.pointer (some ⟨p9,0,none⟩)) ∧
   tm.get 11=some (.pointer (some ⟨p11,0,none⟩))∧tm.get 12=some (.pointer (some ⟨p12,0,none⟩))∧G.get p11=some (.row (six (headOf t1) ah ch) 25)∧G.get p12=some (.row (six (restOf t1) ar cr) 25) ∧
   G.get (H.next+1)=some (.row zero15 32)∧G.get (H.next+1+1)=some (.row said0 39)∧G.get H2.next=some (.row zero15 32)∧G.get p9=some (.row (saidT n1 b1 u1 s1 k1) 39) ∧
   RepT H (headOf t1) (six (headOf t1) ah ch)∧RepT H (restOf t1) (six (restOf t1) ar cr)∧checkS (headOf t1)=0∧checkS (restOf t1)=0∧HX H G) ?_ ?_
 ·by_cases hn:isF t1 sNck
  ·obtain⟨x,y,hxy⟩:∃x y,t1.args=[x,y]:=by
    match hl:t1.args,hn.2.2 with
    |[x,y],_=>exact⟨x,y,rfl⟩
   have eh:headOf t1=x:=by unfold headOf;rw[if_pos hn];unfold Tm.at;rw[hxy];rfl
   have er:restOf t1=y:=by unfold restOf;rw[if_pos hn];unfold Tm.at;rw[hxy];rfl
   have x0:t1.args[0]'(by rw[hxy];simp)=x:=by simp [hxy]
   have y1:t1.args[1]'(by rw[hxy];simp)=y:=by simp [hxy]
   obtain⟨a0,c0,cells0,hcs,-,-,-,-,-,rl⟩:=r1.six
   obtain⟨-,-,-,-,-,rfl,rfl⟩:=z47 hcs
   obtain⟨b,o,ax,cx,rfl,hld0,hr0⟩:=rl.el (i:=0) (by rw[hxy];simp)
   obtain⟨b',o',ay,cy,e2,hld1,hr1⟩:=rl.el (i:=1) (by rw[hxy];simp)
   cases e2
   rw[x0] at hld0 hr0
   rw[y1] at hld1 hr1
   simp only[Nat.zero_mul,Nat.add_zero,Nat.one_mul] at hld0 hld1
   have hcx:=z0s hc1 (u:=x) (by rw[hxy];simp)
   have hcy:=z0s hc1 (u:=y) (by rw[hxy];simp)
   have l0:=hx11'.load hw hld0
   have hxl:t1.args.length=2:=hn.2.2
   rw[eh,er]
   refine EvC.condT (by simp (config := { maxSteps := 2000000 }) (disch:=first|omega|rfl) only[sB,Nat.reduceEqDiff,reduceCtorEq,decide_eq_true hn]) ?_;(try refine EvC.skip ?_);(try simp only[z00,z01])
   (repeat refine EvC.seq ?_);refine EvC.reg ?_;simp (config := { maxSteps := 2000000 }) (disch:=first|omega|rfl) only[sB,Nat.reduceEqDiff,Nat.reduceAdd,one,reduceCtorEq,Int.reduceToNat,ld25,st25,z0g,ld23,q3,hxl,l0,g11,iz23,Nat.zero_mul]
   obtain⟨H12,e12⟩:∃H12,H11.put p11 (some (.row (six x ax cx) 25))=H12:=⟨_,rfl⟩
   simp only[e12]
   have k12:∀n,n≠p11→H12.get n=H11.get n:=fun n hn=>by rw[←e12,get_put,if_neg hn]
   have hx12:HX H H12:=by rw[←e12];exact hx11'.pt (i:=p11) (by omega) g11 _
   have g11:H12.get p11=some (.row (six x ax cx) 25):=by rw[←e12,get_put,if_pos rfl]
   have g3:=(k12 _ (by omega)).trans g3
   have g5:=(k12 _ (by omega)).trans g5
   have g6:=(k12 _ (by omega)).trans g6
   have g7:=(k12 _ (by omega)).trans g7
   have g9:=(k12 _ (by omega)).trans g9
   have g12:=(k12 _ (by omega)).trans g12
   clear e12
   have q3:=row6 g3
   have l1:=hx12.load hw hld1
   refine EvC.reg ?_;simp (config := { maxSteps := 2000000 }) (disch:=first|omega|rfl) only[sB,Nat.reduceEqDiff,Nat.reduceAdd,one,reduceCtorEq,Int.reduceToNat,ld25,st25,z0g,ld23,q3,hxl,l1,g12,iz23,Nat.one_mul]
   have hz:=hx12.pt (i:=p12) (by omega) g12 (some (.row (six y ay cy) 25))
   exact⟨_,_,ax,cx,ay,cy,rfl,(by simp only[sG,reduceCtorEq]),(by simp only[sG,Nat.reduceEqDiff,reduceCtorEq]),(by simp only[sG,Nat.reduceEqDiff,reduceCtorEq]),(by simp only[sG,Nat.reduceEqDiff,reduceCtorEq]),(by simp only[sG,Nat.reduceEqDiff,reduceCtorEq]),(by simp only[sG,Nat.reduceEqDiff,reduceCtorEq]),(by simp only[sG,Nat.reduceEqDiff,reduceCtorEq]),by rw[get_put,if_neg (by omega)];exact g11,by rw[get_put,if_pos rfl],by rw[get_put,if_neg (by omega)];exact g5,by rw[get_put,if_neg (by omega)];exact g6,by rw[get_put,if_neg (by omega)];exact g7,by rw[get_put,if_neg (by omega)];exact g9,hr0,hr1,hcx,hcy,hz⟩
  ·have eh:headOf t1=t1:=by unfold headOf;rw[if_neg hn]
   have er:restOf t1=atmT sTrue:=by unfold restOf;rw[if_neg hn]
   rw[eh,er]
   refine EvC.condF (by simp (config := { maxSteps := 2000000 }) (disch:=first|omega|rfl) only[sB,Nat.reduceEqDiff,reduceCtorEq,decide_eq_false hn]) ?_;(try refine EvC.skip ?_);(try simp only[z00,z01])
   exact⟨_,_,a1,c1,none,0,rfl,(by simp only[sG,reduceCtorEq]),(by simp only[sG,Nat.reduceEqDiff,reduceCtorEq]),(by simp only[sG,Nat.reduceEqDiff,reduceCtorEq]),(by simp only[sG,Nat.reduceEqDiff,reduceCtorEq]),(by simp only[sG,Nat.reduceEqDiff,reduceCtorEq]),(by simp only[sG,Nat.reduceEqDiff,reduceCtorEq]),(by simp only[sG,Nat.reduceEqDiff,reduceCtorEq]),g11,g12,g5,g6,g7,g9,r1,(z1t (S:=fun _=>False) (by decide)).rep,hc1,z74,hx11'⟩
 ·rintro st ⟨tm,G,ah,ch,ar,cr,rfl,t0,t5,t6,t7,t9,t11,t12,g11,g12,g5,g6,g7,g9,rh,rr,hch,hcr,hxG⟩
  simp only[z00]
  have bd9:H.next+3≤p9:=by omega
  have bd11:p9 < p11:=by omega
  have bd12:p11 < p12:=by omega
  have bd2:H2.next=H.next+3:=hn2
  have bd92:H2.next < p9:=by omega
  clear ep9 ep11 ep12
  have wG:=hxG.wf
  have q11:=row6 g11
  have lG:=wG _ _ g12
  generalize headOf t1=h at *
  generalize restOf t1=r at *
  (repeat refine EvC.seq ?_);refine EvC.reg ?_;simp (config := { maxSteps := 2000000 }) (disch:=first|omega|rfl) only[sB,Nat.reduceEqDiff,ld25,cl40,t0,t11,q11]
  refine(zdl (m:=m1) rh hxG hw hch wG).mono ?_
  rintro v K1 ⟨kx1,a2,c2,sd2,rfl,r2,he2,hc2⟩
  obtain⟨n2,b2,u2,s2,k2,rfl⟩:=he2.cells
  have kw1:=kx1.wf
  have kn1:=kx1.next
  have g5:=kx1.get wG g5
  have g6:=kx1.get wG g6
  have g7:=kx1.get wG g7
  have g9:=kx1.get wG g9
  have g11:=kx1.get wG g11
  have g12:=kx1.get wG g12
  have kx1':=hxG.trans kx1
  obtain⟨⟨m2,t2,e2⟩,hS2⟩:∃R,stripS m1 h=R:=⟨_,rfl⟩
  rw[hS2] at r2 he2 hc2 ⊢
  simp only at r2 he2 hc2
  have ne9:(p9=p11)=False:=eq_false (by omega)
  have ne9':(p11=p9)=False:=eq_false (by omega)
  try simp (config := { maxSteps := 2000000 }) (disch:=first|omega|rfl) only[sB,Nat.reduceEqDiff,Nat.reduceAdd,one,reduceCtorEq,st39,st25,t9,t11,g9,g11,ne9]
  obtain⟨K2,ek2⟩:∃K2,(K1.put p11 (some (.row (six t2 a2 c2) 25))).put p9 (some (.row (saidT n2 b2 u2 s2 k2) 39))=K2:=⟨_,rfl⟩
  simp only[ek2]
  have kk2:∀n,n≠p11→n≠p9→K2.get n=K1.get n:=fun n h1 h2=>by rw[←ek2,get_put,if_neg h2,get_put,if_neg h1]
  have kx2:HX H K2:=by rw[←ek2];exact(kx1'.pt (i:=p11) (by omega) g11 _).pt (i:=p9) (by omega) (by rw[get_put,if_neg (by omega)];exact g9) _
  have kn2:K2.next=K1.next:=by rw[←ek2];rfl
  have g11:K2.get p11=some (.row (six t2 a2 c2) 25):=by rw[←ek2,get_put,if_neg (by omega),get_put,if_pos rfl]
  have g9:K2.get p9=some (.row (saidT n2 b2 u2 s2 k2) 39):=by rw[←ek2,get_put,if_pos rfl]
  have g5:=(kk2 _ (by omega) (by omega)).trans g5
  have g6:=(kk2 _ (by omega) (by omega)).trans g6
  have g7:=(kk2 _ (by omega) (by omega)).trans g7
  have g12:=(kk2 _ (by omega) (by omega)).trans g12
  clear ek2
  have kw2:=kx2.wf
  have he2:RSaid K2 (Rg G.next K1.next) e2 (saidT n2 b2 u2 s2 k2):=he2.to fun n hn hl=>⟨kk2 n (by have:=hn.1;omega) (by have:=hn.1;omega),hn,by omega⟩
  have q9:=rowS g9
  (repeat refine EvC.seq ?_);refine EvC.reg ?_;simp (config := { maxSteps := 2000000 }) (disch:=first|omega|rfl) only[sB,Nat.reduceEqDiff,reduceCtorEq,ld39,cl41,t9,q9]
  refine(zgy he2 kw2).mono ?_
  rintro v K3 ⟨rfl,kx3⟩
  have kw3:=kx3.wf
  have kn3:=kx3.next
  have g5:=kx3.get kw2 g5
  have g6:=kx3.get kw2 g6
  have g7:=kx3.get kw2 g7
  have g9:=kx3.get kw2 g9
  have g11:=kx3.get kw2 g11
  have g12:=kx3.get kw2 g12
  have kx3':=kx2.trans kx3
  have he2:RSaid K3 (Rg G.next K1.next) e2 (saidT n2 b2 u2 s2 k2):=he2.to fun n hn hl=>⟨kx3.keep n hl,hn,by omega⟩
  have q7:=z1y g7
  have q9:=rowS g9
  have q11:=row6 g11
  have q12:=row6 g12
  have dG:H.next+3≤G.next:=by omega
  have ne5:(p9=H.next+1)=False:=eq_false (by omega)
  have ne5':(p9=H.next+1+1)=False:=eq_false (by omega)
  try simp (config := { maxSteps := 2000000 }) (disch:=first|omega|rfl) only[]
  by_cases ho2:e2=.ok
  rotate_left
  ·have hR:readH m1 h r=(ByteArray.empty,zeroC,e2):=by
    unfold readH
    rw[hS2]
    cases e2 with
    |ok=>exact absurd rfl ho2
    |num n=>rfl
    |ball u=>rfl
   have hnn:noneB e2=false:=by
    cases h:noneB e2 with
    |false=>rfl
    |true=>exact absurd (zlj.1 h) ho2
   repeat' (first|refine EvC.seq ?_|(refine EvC.ret ?_;try simp only[z05,z03])|(refine EvC.reg ?_;simp (config := { maxSteps := 2000000 }) (disch:=first|omega|rfl) only[sB,Nat.reduceEqDiff,reduceCtorEq,hnn,Bool.not_false,neu'])|(refine EvC.drw (id:=17) [([(0,0),(2,0)],some 3),([(1,0)],some 4),([],none)] ?_ ?_;kernel_rfl;simp (config := { maxSteps := 2000000 }) (disch:=first|omega|rfl) only[sV,sD,sB,Nat.reduceEqDiff,Nat.reduceAdd,one,reduceCtorEq,cutC,ld32,st32,st39,ld39,t5,t6,t7,t9,q7,q9,g5,g6,neu,neu',ne5,isAlloc,isRead])|(refine EvC.condT ?_ ?_;simp (config := { maxSteps := 2000000 }) (disch:=first|omega|rfl) only[sB,Nat.reduceEqDiff,reduceCtorEq,neu'];refine z07 ?_))
   exact z3c (lo:=G.next) (hi:=K1.next) hR (kx3'.bump _) g5 g6 (by simp only[sB,Nat.reduceEqDiff,reduceCtorEq];rfl) (by simp only[sG,Nat.reduceEqDiff,reduceCtorEq,t5]) (by simp only[sG,Nat.reduceEqDiff,reduceCtorEq,t6]) (he2.to fun n hn hl=>⟨rfl,hn,by show n < K3.next+_;omega⟩) (by omega) (by show _≤K3.next+_;omega)
  subst ho2
  have hR2:readH m1 h r=readB m2 t2 r:=by unfold readH;rw[hS2]
  rw[hR2]
  (repeat refine EvC.seq ?_);refine EvC.reg ?_;simp (config := { maxSteps := 2000000 }) (disch:=first|omega|rfl) only[sB,Nat.reduceEqDiff,reduceCtorEq]
  refine EvC.condF (by simp (config := { maxSteps := 2000000 }) (disch:=first|omega|rfl) only[sB,Nat.reduceEqDiff,reduceCtorEq,show noneB .ok=true from rfl,Bool.not_true]) ?_;(try refine EvC.skip ?_);(try simp only[z00,z01])
  by_cases k1:t2.kind=1
  ·have hR:readB m2 t2 r=(ByteArray.empty,zeroC,.ball (atmT sInst)):=by unfold readB;rw[if_pos k1]
   (repeat refine EvC.seq ?_);refine EvC.reg ?_;simp (config := { maxSteps := 2000000 }) (disch:=first|omega|rfl) only[sB,Nat.reduceEqDiff,reduceCtorEq,z0f,ld3,t11,q11,z0i k1]
   refine EvC.condT (by simp (config := { maxSteps := 2000000 }) (disch:=first|omega|rfl) only[sB,Nat.reduceEqDiff,reduceCtorEq]) ?_;(try refine EvC.skip ?_);(try simp only[z00,z01])
   (repeat refine EvC.seq ?_);refine EvC.drw [([],some 1),([(0,0),(2,1)],some 3),([],some 4),([],none)] (by kernel_rfl) ?_;simp (config := { maxSteps := 2000000 }) (disch:=first|omega|rfl) only[sD,sA,Nat.reduceAdd,cl43]
   have K3w:=kw3
   have hb:HX K3 ⟨K3.next+5,K3.t⟩:=(HX.refl K3w).bump 5
   refine(zgz hb.wf).mono ?_
   rintro v K9 ⟨kx9,out,rfl,hsd⟩
   obtain⟨en,eb,et,ea,ec,rfl⟩:=hsd.cells
   have k99:=hb.trans kx9
   have q79:=z1y (k99.get K3w g7)
   have g5:=k99.get K3w g5
   have g6:=k99.get K3w g6
   have kn9:K3.next+5≤K9.next:=kx9.next
   repeat' (first|(refine EvC.ret ?_;try simp only[z05,z03])|(refine z0n ?_;simp (config := { maxSteps := 2000000 }) (disch:=first|omega|rfl) only[sV,sD,sB,Nat.reduceEqDiff,Nat.reduceAdd,one,reduceCtorEq,ld32,st32,st39,t5,t6,t7,q7,q79,g5,g6,neu,neu',isAlloc,isRead]))
   exact z3c (lo:=K3.next+5) (hi:=K9.next) hR (kx3'.trans k99) g5 g6 (by simp only[sB,Nat.reduceEqDiff,reduceCtorEq];rfl) (by simp only[sG,Nat.reduceEqDiff,reduceCtorEq,t5]) (by simp only[sG,Nat.reduceEqDiff,reduceCtorEq,t6]) hsd (by omega) (Nat.le_refl _)
  (repeat refine EvC.seq ?_);refine EvC.reg ?_;simp (config := { maxSteps := 2000000 }) (disch:=first|omega|rfl) only[sB,Nat.reduceEqDiff,reduceCtorEq,z0f,ld3,t11,q11,z0j k1]
  refine EvC.condF (by simp (config := { maxSteps := 2000000 }) (disch:=first|omega|rfl) only[sB,Nat.reduceEqDiff,reduceCtorEq]) ?_;(try refine EvC.skip ?_);(try simp only[z00,z01])
  (repeat refine EvC.seq ?_);refine EvC.reg ?_;simp (config := { maxSteps := 2000000 }) (disch:=first|omega|rfl) only[sB,Nat.reduceEqDiff,reduceCtorEq,ld25,cl44,t11,q11]
  refine(zeu (r2.mono kx3' hw) kw3).mono ?_
  rintro v K4 ⟨rfl,kx4⟩
  have K4w:=kx4.wf
  have kn4:=kx4.next
  have kx4':=kx3'.trans kx4
  have g5:=kx4.get kw3 g5
  have g6:=kx4.get kw3 g6
  have g7:=kx4.get kw3 g7
  have g11:=kx4.get kw3 g11
  have g12:=kx4.get kw3 g12
  have q7:=z1y g7
  have q11:=row6 g11
  have q12:=row6 g12
  try simp (config := { maxSteps := 2000000 }) (disch:=first|omega|rfl) only[]
  by_cases k3:isNum t2
  ·have hR:readB m2 t2 r=(ByteArray.empty,zeroC,.ball (typeT sCallable t2)):=by unfold readB;rw[if_neg k1,if_pos k3]
   refine EvC.condT (by simp (config := { maxSteps := 2000000 }) (disch:=first|omega|rfl) only[sB,Nat.reduceEqDiff,reduceCtorEq,decide_eq_true k3]) ?_;(try refine EvC.skip ?_);(try simp only[z00,z01])
   (repeat refine EvC.seq ?_);refine EvC.drw [([(1,0)],some 2),([(0,0),(3,1)],some 4),([],some 5),([],none)] (by kernel_rfl) ?_;simp (config := { maxSteps := 2000000 }) (disch:=first|omega|rfl) only[sD,sB,Nat.reduceEqDiff,Nat.reduceAdd,reduceCtorEq,ld25,cl28,isAlloc,isRead,t11,q11]
   have hb:HX K4 ⟨K4.next+6,K4.t⟩:=(HX.refl K4w).bump 6
   refine(zbe (s:=sCallable) (by decide) ((r2.mono kx4' hw).mono hb K4w) (few6 hc2) hb.wf).mono ?_
   rintro v K9 ⟨kx9,out,rfl,hsd⟩
   obtain⟨en,eb,et,ea,ec,rfl⟩:=hsd.cells
   have k99:=hb.trans kx9
   have q79:=z1y (k99.get K4w g7)
   have g5:=k99.get K4w g5
   have g6:=k99.get K4w g6
   have kn9:K4.next+6≤K9.next:=kx9.next
   repeat' (first|(refine EvC.ret ?_;try simp only[z05,z03])|(refine z0n ?_;simp (config := { maxSteps := 2000000 }) (disch:=first|omega|rfl) only[sV,sD,sB,Nat.reduceEqDiff,Nat.reduceAdd,one,reduceCtorEq,ld32,st32,st39,t5,t6,t7,q7,q79,g5,g6,neu,neu',isAlloc,isRead]))
   exact z3c (lo:=K4.next+6) (hi:=K9.next) hR (kx4'.trans k99) g5 g6 (by simp only[sB,Nat.reduceEqDiff,reduceCtorEq];rfl) (by simp only[sG,Nat.reduceEqDiff,reduceCtorEq,t5]) (by simp only[sG,Nat.reduceEqDiff,reduceCtorEq,t6]) hsd (by omega) (Nat.le_refl _)
  refine EvC.condF (by simp (config := { maxSteps := 2000000 }) (disch:=first|omega|rfl) only[sB,Nat.reduceEqDiff,reduceCtorEq,decide_eq_false k3]) ?_;(try refine EvC.skip ?_);(try simp only[z00,z01])
  have hR3:readB m2 t2 r=match bodyF (SizeOf.sizeOf r+1) r with
    |none=>(ByteArray.empty,zeroC,.ball (typeT sCallable r))
    |some b=>if 400 < cnt t2 0+cnt (toldB b) 0 then (ByteArray.empty,zeroC,.ball (resT sClause)) else (m2,madeC t2 r,.ok):=by
   unfold readB
   rw[if_neg k1,if_neg k3];rfl
  (repeat refine EvC.seq ?_);refine EvC.reg ?_;simp (config := { maxSteps := 2000000 }) (disch:=first|omega|rfl) only[sB,Nat.reduceEqDiff,reduceCtorEq,ld25,cl45,t12,q12]
  refine(zbc _ r _ K4 (Nat.lt_succ_self _) (rr.mono kx4' hw) hcr K4w).mono ?_
  rintro v K5 ⟨kx5,outB,bd,rfl,hob,hbd⟩
  obtain⟨ta,tc,sa,sc,rfl⟩:=hob.rep.eight
  have kw5:=kx5.wf
  have kn5:=kx5.next
  try simp (config := { maxSteps := 2000000 }) (disch:=first|omega|rfl) only[sB,dAlloc,Nat.reduceEqDiff,Nat.reduceAdd,one,reduceCtorEq,zr30,st30]
  obtain⟨K6,ek6,kx6,g13,kn6,K6w⟩:=z0r kw5 (.row zero8 30) (.row (eightT bd.kind bd.term ta tc sa bd.sub.length sc) 30)
  simp only[ek6]
  clear ek6
  have kx46:=kx5.trans kx6
  have kx6':=kx4'.trans kx46
  have g5:=kx46.get K4w g5
  have g6:=kx46.get K4w g6
  have g7:=kx46.get K4w g7
  have g11:=kx46.get K4w g11
  have g12:=kx46.get K4w g12
  have q7:=z1y g7
  have q11:=row6 g11
  have q12:=row6 g12
  have q13:=row8 g13
  cases hb1:bodyF (SizeOf.sizeOf r+1) r with
  |none =>
   rw[hb1] at hR3
   (repeat refine EvC.seq ?_);refine EvC.reg ?_;simp (config := { maxSteps := 2000000 }) (disch:=first|omega|rfl) only[sB,Nat.reduceEqDiff,reduceCtorEq]
   refine EvC.condT (by simp (config := { maxSteps := 2000000 }) (disch:=first|omega|rfl) only[sB,Nat.reduceEqDiff,reduceCtorEq,Option.isSome_none,Bool.not_false]) ?_;(try refine EvC.skip ?_);(try simp only[z00,z01])
   (repeat refine EvC.seq ?_);refine EvC.drw [([(1,0)],some 2),([(0,0),(3,1)],some 4),([],some 5),([],none)] (by kernel_rfl) ?_;simp (config := { maxSteps := 2000000 }) (disch:=first|omega|rfl) only[sD,sB,Nat.reduceEqDiff,Nat.reduceAdd,reduceCtorEq,ld25,cl28,isAlloc,isRead,t12,q12]
   have hb:HX K6 ⟨K6.next+6,K6.t⟩:=(HX.refl K6w).bump 6
   refine(zbe (s:=sCallable) (by decide) ((rr.mono kx6' hw).mono hb K6w) (few6 hcr) hb.wf).mono ?_
   rintro v K9 ⟨kx9,out,rfl,hsd⟩
   obtain⟨en,eb,et,ea,ec,rfl⟩:=hsd.cells
   have k99:=hb.trans kx9
   have q79:=z1y (k99.get K6w g7)
   have g5:=k99.get K6w g5
   have g6:=k99.get K6w g6
   have kn9:K6.next+6≤K9.next:=kx9.next
   repeat' (first|(refine EvC.ret ?_;try simp only[z05,z03])|(refine z0n ?_;simp (config := { maxSteps := 2000000 }) (disch:=first|omega|rfl) only[sV,sD,sB,Nat.reduceEqDiff,Nat.reduceAdd,one,reduceCtorEq,ld32,st32,st39,t5,t6,t7,q7,q79,g5,g6,neu,neu',isAlloc,isRead]))
   exact z3c (lo:=K6.next+6) (hi:=K9.next) hR3 (kx6'.trans k99) g5 g6 (by simp only[sB,Nat.reduceEqDiff,reduceCtorEq];rfl) (by simp only[sG,Nat.reduceEqDiff,reduceCtorEq,t5]) (by simp only[sG,Nat.reduceEqDiff,reduceCtorEq,t6]) hsd (by omega) (Nat.le_refl _)
  |some b =>
   rw[hb1] at hR3
   simp only at hR3
   obtain rfl:=hbd b hb1
   (repeat refine EvC.seq ?_);refine EvC.reg ?_;simp (config := { maxSteps := 2000000 }) (disch:=first|omega|rfl) only[sB,Nat.reduceEqDiff,reduceCtorEq]
   refine EvC.condF (by simp (config := { maxSteps := 2000000 }) (disch:=first|omega|rfl) only[sB,Nat.reduceEqDiff,reduceCtorEq,Option.isSome_some,Bool.not_true]) ?_;(try refine EvC.skip ?_);(try simp only[z00,z01])
   (repeat refine EvC.seq ?_);refine EvC.drw [([(0,0)],some 1),([(2,0)],some 3),([],some 4),([(5,3),(6,3)],none)] (by kernel_rfl) ?_;simp (config := { maxSteps := 2000000 }) (disch:=first|omega|rfl) only[sD,sB,Nat.reduceEqDiff,Nat.reduceAdd,reduceCtorEq,ld25,cl46,isAlloc,isRead,t11,q11]
   have hfew:=(z6q (z0h.1 hcr).2 hb1).up (m:=1000000) (by decide)
   have hb6:HX K6 ⟨K6.next+7,K6.t⟩:=(HX.refl K6w).bump 7
   refine(z4l _ _ _ ((r2.mono kx6' hw).mono hb6 K6w) hb6.wf).mono ?_
   rintro v K7 ⟨rfl,kx7⟩
   have k67:=hb6.trans kx7
   have q137:=row8 (k67.get K6w g13)
   have kw7:=kx7.wf
   repeat' (first|(refine z0n ?_;simp (config := { maxSteps := 2000000 }) (disch:=first|omega|rfl) only[sV,sD,sB,Nat.reduceEqDiff,reduceCtorEq,ld30,cl47,q13,q137,isAlloc,isRead]))
   have hob7:OB K7 30 25 (Rg K4.next K5.next) bd _:=(hob.keep kx6).keep k67
   refine(zn3 (Nat.lt_succ_self _) hob7.bi hfew (fun n hn=>by have:=hn.2;have:=k67.next;have:=kx6.next;omega) kw7).mono ?_
   rintro v K8 ⟨kx8,outT,rfl,hrT⟩
   repeat' (first|(refine z0n ?_;simp (config := { maxSteps := 2000000 }) (disch:=first|omega|rfl) only[sD,sB,Nat.reduceEqDiff,reduceCtorEq,cl46]))
   refine(z4l _ _ _ hrT.rep kx8.wf).mono ?_
   rintro v K9 ⟨rfl,kx9⟩
   repeat' (first|(refine z0n ?_;simp (config := { maxSteps := 2000000 }) (disch:=first|omega|rfl) only[sD,sB,Nat.reduceEqDiff,Nat.reduceAdd,reduceCtorEq,isAlloc,isRead]))
   have k69:=(k67.trans kx8).trans kx9
   have K9w:=kx9.wf
   have kx9':=kx6'.trans k69
   have kn9:=k69.next
   have g5:=k69.get K6w g5
   have g6:=k69.get K6w g6
   have g7:=k69.get K6w g7
   have g11:=k69.get K6w g11
   have g12:=k69.get K6w g12
   have q7:=z1y g7
   have q11:=row6 g11
   have q12:=row6 g12
   have cp1:=z72 t2
   have cp2:=z72 (toldB bd)
   by_cases h400:400 < cnt t2 0+cnt (toldB bd) 0
   ·have hR4:readB m2 t2 r=(ByteArray.empty,zeroC,.ball (resT sClause)):=by rw[hR3,if_pos h400]
    have hd:decide ((cnt t2 0:Int)+(cnt (toldB bd) 0:Int) > 400)=true:=decide_eq_true (by omega)
    refine EvC.condT (by simp (config := { maxSteps := 2000000 }) (disch:=first|omega|rfl) only[sB,Nat.reduceEqDiff,reduceCtorEq,z0c,hd]) ?_;(try refine EvC.skip ?_);(try simp only[z00,z01])
    (repeat refine EvC.seq ?_);refine EvC.drw [([],some 1),([(0,0),(2,1)],some 3),([],some 4),([],none)] (by kernel_rfl) ?_;simp (config := { maxSteps := 2000000 }) (disch:=first|omega|rfl) only[sD,sA,Nat.reduceAdd,cl48]
    have hb:HX K9 ⟨K9.next+5,K9.t⟩:=(HX.refl K9w).bump 5
    refine(zq0 (s:=sClause) (by decide) hb.wf).mono ?_
    rintro v L9 ⟨lx9,out,rfl,hsd⟩
    obtain⟨en,eb,et,ea,ec,rfl⟩:=hsd.cells
    have k99:=hb.trans lx9
    have q79:=z1y (k99.get K9w g7)
    have g5:=k99.get K9w g5
    have g6:=k99.get K9w g6
    have ln9:K9.next+5≤L9.next:=lx9.next
    repeat' (first|(refine EvC.ret ?_;try simp only[z05,z03])|(refine z0n ?_;simp (config := { maxSteps := 2000000 }) (disch:=first|omega|rfl) only[sV,sD,sB,Nat.reduceEqDiff,Nat.reduceAdd,one,reduceCtorEq,ld32,st32,st39,t5,t6,t7,q7,q79,g5,g6,neu,neu',isAlloc,isRead]))
    exact z3c (lo:=K9.next+5) (hi:=L9.next) hR4 (kx9'.trans k99) g5 g6 (by simp only[sB,Nat.reduceEqDiff,reduceCtorEq];rfl) (by simp only[sG,Nat.reduceEqDiff,reduceCtorEq,t5]) (by simp only[sG,Nat.reduceEqDiff,reduceCtorEq,t6]) hsd (by omega) (Nat.le_refl _)
   have hR4:readB m2 t2 r=(m2,madeC t2 r,.ok):=by rw[hR3,if_neg h400]
   have hd:decide ((cnt t2 0:Int)+(cnt (toldB bd) 0:Int) > 400)=false:=decide_eq_false (by omega)
   refine EvC.condF (by simp (config := { maxSteps := 2000000 }) (disch:=first|omega|rfl) only[sB,Nat.reduceEqDiff,reduceCtorEq,z0c,hd]) ?_;(try refine EvC.skip ?_);(try simp only[z00,z01])
   (repeat refine EvC.seq ?_);refine EvC.reg ?_;simp (config := { maxSteps := 2000000 }) (disch:=first|omega|rfl) only[sB,Nat.reduceEqDiff,Nat.reduceAdd,Value.cells,one,reduceCtorEq,Nat.reduceLeDiff,layC,ld25,z8p,cl49,t11,t12,q11,q12]
   obtain⟨L1,eL1,lx1,gL1,ln1,lw1⟩:=new1 K9w (.row (six t2 a2 c2++six r ar cr) 25)
   have eL1':=eL1
   simp only[six,List.cons_append,List.nil_append] at eL1'
   simp only[eL1']
   clear eL1 eL1'
   have lx1':=kx9'.trans lx1
   have hff:∀u∈[t2,r],Fine u:=fun u hu=>by
    rcases List.mem_cons.1 hu with rfl|hu
    ·exact(z0h.1 hc2).2
    ·rw[List.mem_singleton.1 hu];exact(z0h.1 hcr).2
   have ho2:(occL [t2,r]).length≤8000:=by
    have:=zb6 hc2
    have:=zb6 hcr
    simp only[occL,List.length_append,List.length_nil];omega
   refine(zlh (RepL.two (r2.mono lx1' hw) (rr.mono lx1' hw) gL1) hff (Nat.le_trans ho2 (by simp [most])) (by simp [most]) lw1).mono ?_
   rintro v L2 ⟨ap,kp,rfl,hfl,lx2⟩
   have hpo:(occL (plainL [t2,r])).length≤8000:=by rw[z59,zh1 hff,List.length_map];exact ho2
   have hpc:chkL (plainL [t2,r])=0:=by
    have hp:=fun n=>(z3r (uniq (occL [t2,r])) n).1
    rw[z59]
    simp [chkL,z97 hp hc2,z97 hp hcr]
   have hmc:madeC t2 r=⟨(plainL [t2,r]).getD 0 zeroT,(readyS ((plainL [t2,r]).getD 1 zeroT)).1,(uniq (occL (plainL [t2,r]))).length⟩:=rfl
   have hby:bodyF (SizeOf.sizeOf ((plainL [t2,r]).getD 1 zeroT)+1) ((plainL [t2,r]).getD 1 zeroT)=some (readyS ((plainL [t2,r]).getD 1 zeroT)).1 :=
    zli (f:=plcZ (uniq (occL [t2,r]))) (fun n=>(z3r _ n).1) hcr hb1 (by omega)
   obtain⟨u0,u1,hpl⟩:∃u0 u1,plainL [t2,r]=[u0,u1]:=⟨_,_,rfl⟩
   have hu1:checkS u1=0:=z6f hpc u1 (by rw[hpl];simp)
   rw[hpl] at hfl hpo hpc hmc hby ⊢
   have hby:bodyF (SizeOf.sizeOf u1+1) u1=some (readyS u1).1:=hby
   obtain⟨cellsp,rlp⟩:=hfl.rep
   have lw2:=lx2.wf
   have ln2:=lx2.next
   obtain⟨bp,op,ax0,cx0,hap,ld0,rs0⟩:=hfl.elS (i:=0) lw2 (by simp)
   obtain⟨bp',op',ax1,cx1,hap',ld1,rs1⟩:=hfl.elS (i:=1) lw2 (by simp)
   subst hap
   cases hap'
   simp only[Nat.zero_mul,Nat.add_zero,Nat.one_mul,List.getElem_cons_zero,List.getElem_cons_succ] at ld0 ld1 rs0 rs1
   try simp (config := { maxSteps := 2000000 }) (disch:=first|omega|rfl) only[sA,Nat.reduceAdd]
   (repeat refine EvC.seq ?_);refine EvC.reg ?_;simp (config := { maxSteps := 2000000 }) (disch:=first|omega|rfl) only[sB,Nat.reduceEqDiff,reduceCtorEq,Int.reduceToNat,ld25,cl45,ld1,iz23,Nat.one_mul]
   refine(zbc _ u1 _ L2 (Nat.lt_succ_self _) rs1.rep hu1 lw2).mono ?_
   rintro v L3 ⟨lx3,outC,bc,rfl,hoC,hbc⟩
   obtain rfl:=hbc _ hby
   obtain⟨bta,btc,bsa,bsc,rfl⟩:=hoC.rep.eight
   have lw3:=lx3.wf
   have ln3:=lx3.next
   try simp (config := { maxSteps := 2000000 }) (disch:=first|omega|rfl) only[sB,dAlloc,Nat.reduceEqDiff,Nat.reduceAdd,one,reduceCtorEq,zr30,st30]
   obtain⟨L4,eL4,lx4,g16,ln4,lw4⟩:=z0r lw3 (.row zero8 30) (.row (eightT (readyS u1).1.kind (readyS u1).1.term bta btc bsa (readyS u1).1.sub.length bsc) 30)
   simp only[eL4]
   clear eL4
   have l24:=lx3.trans lx4
   (repeat refine EvC.seq ?_);refine EvC.drw [([(5,0)],some 6),([(0,0),(1,0),(2,0),(3,0),(4,0),(7,1),(8,1),(10,1)],some 11),([(9,0)],some 12),([],none)] (by kernel_rfl) ?_;simp (config := { maxSteps := 2000000 }) (disch:=first|omega|rfl) only[sD,sB,Nat.reduceEqDiff,Nat.reduceAdd,reduceCtorEq,cl50,isAlloc,isRead]
   have lb:HX L4 ⟨L4.next+13,L4.t⟩:=(HX.refl lw4).bump 13
   refine(zab ((rlp.mono l24 lw2).mono lb lw4) (Nat.le_trans hpo (by simp [most])) lb.wf).mono ?_
   rintro v L5 ⟨hil,lx5⟩
   obtain⟨au,ku,rfl,-,-⟩:=hil.slice
   have l45:=lb.trans lx5
   have l25:=l24.trans l45
   have ln5:L4.next+13≤L5.next:=lx5.next
   have lw5:=lx5.wf
   have ld04:=l24.load lw2 ld0
   have ld05:=l25.load lw2 ld0
   have q16:=row8 g16
   have q165:=row8 (l45.get lw4 g16)
   have g5:=l25.get lw2 (lx2.get lw1 (lx1.get K9w g5))
   have g6:=l25.get lw2 (lx2.get lw1 (lx1.get K9w g6))
   have nU:(uniq (occL [u0,u1])).length≤8000:=Nat.le_trans (z54 _) hpo
   repeat' (first|(refine EvC.ret ?_)|(refine z0n ?_;simp (config := { maxSteps := 2000000 }) (disch:=first|omega|rfl) only[sV,sD,sB,Nat.reduceEqDiff,Nat.reduceAdd,Value.cells,one,reduceCtorEq,Nat.reduceLeDiff,layC,Int.reduceToNat,ld25,bd39,st32,st39,ld30,ln77,bd32,t0,t5,t6,ld04,ld05,q16,q165,g5,g6,iz23,Nat.zero_mul,neu,neu',isAlloc,isRead]))
   have hxf:=lx1'.trans (lx2.trans l25)
   have hz:=(hxf.pt (i:=H.next+1) (by omega) g5 (some (.row (fift u0 ax0 cx0 (readyS u1).1.kind (readyS u1).1.term bta btc bsa (readyS u1).1.sub.length bsc (uniq (occL [u0,u1])).length) 32))).pt (i:=H.next+1+1) (by omega) (by rw[get_put,if_neg (by omega)];exact g6) (some (.row said0 39))
   rw[hR4,hmc]
   refine z4q rfl (by simp only[sG,Nat.reduceEqDiff,reduceCtorEq]) (by simp only[sB,Nat.reduceEqDiff,reduceCtorEq,t5];rfl) (by simp only[sB,Nat.reduceAdd,cutC,ld32,neu];rfl) (by simp only[sB,Nat.reduceEqDiff,reduceCtorEq,t6];rfl) (by simp only[sB,Nat.reduceEqDiff,Nat.reduceAdd,cutC,ld39]) ⟨hz,_,_,rfl,⟨_,_,_,_,_,_,rfl,?_,?_⟩,rfl⟩
   ·refine rs0.to fun n hn hl=>?_
    have a1:=hn.1
    have a2:=l25.next
    exact⟨by rw[get_put,if_neg (by omega),get_put,if_neg (by omega)];exact l25.keep n hl,⟨by omega,by rw[z06,z06];omega⟩,by rw[z06,z06];omega⟩
   ·refine hoC.to (fun n hn hl=>?_) fun n hn=>?_
    ·have a1:=hn.1
     have l35:=lx4.trans l45
     have a2:=l35.next
     exact⟨by rw[get_put,if_neg (by omega),get_put,if_neg (by omega)];exact l35.keep n hl,by rw[z06,z06];omega⟩
    ·have a1:=hn.1
     have a3:=hn.2
     have a2:=(lx4.trans l45).next
     exact⟨by omega,by rw[z06,z06];omega⟩
noncomputable def keyS (t:Tm):ByteArray × Int × Int:=if checkS t≠0 then (ByteArray.empty,0,checkS t) else if t.kind≠2∧t.kind≠5 then (ByteArray.empty,0,1) else (t.name,(t.args.length:Int),0)
set_option maxHeartbeats 4000000 in
theorem zrx {t:Tm}{cs:List Value}{H:Heap}(r0:RepT H t cs) (hw:H.wf):EvF Tryz.prog okT 13 [.agg ⟨cs⟩] H fun v H'=>HX H H'∧v=.tuple ⟨[.string (keyS t).1,.int .i64 (keyS t).2.1,.int .i64 (keyS t).2.2]⟩:=by
 obtain⟨a,c,cells,rfl,-⟩:=r0.six
 refine EvF.enter rfl Tryz.func13 (by decide) rfl ?_
 (repeat refine EvC.seq ?_);refine EvC.reg ?_;simp only[sB,initTm,dBox,Value.cells,one]
 obtain⟨H2,e2,hx2,g1,hn2,hw2⟩:=new1 hw (.row (six t a c) 25)
 simp only[e2]
 clear e2
 have q1:=row6 g1
 (repeat refine EvC.seq ?_);refine EvC.reg ?_;simp only[sB,Nat.reduceEqDiff,reduceCtorEq,ld25,cl29,q1]
 refine(z2k t _ _ (r0.mono hx2 hw) hw2).mono ?_
 rintro v H3 ⟨rfl,hx3⟩
 have q1:=row6 (hx3.get hw2 g1)
 have hx:=hx2.trans hx3
 by_cases h0:checkS t=0
 rotate_left
 ·have hk:keyS t=(ByteArray.empty,0,checkS t):=by unfold keyS;rw[if_pos h0]
  repeat' (first|refine EvC.seq ?_|(refine EvC.ret ?_;try simp only[z05,z03])|(refine EvC.reg ?_;simp only[sB,Nat.reduceEqDiff,reduceCtorEq,z1w h0])|(refine EvC.condT ?_ ?_;simp only[sB,Nat.reduceEqDiff,reduceCtorEq];refine z07 ?_))
  exact z41 rfl (by simp only[sB,Nat.reduceEqDiff,reduceCtorEq];rfl) (by simp only[sB,Nat.reduceEqDiff,reduceCtorEq];rfl) (by simp only[sB,Nat.reduceEqDiff,reduceCtorEq];rfl) ⟨hx,by rw[hk];rfl⟩
 by_cases k2:t.kind=2
 ·have hk:keyS t=(t.name,(t.args.length:Int),0):=by unfold keyS;rw[if_neg (fun h=>h h0),if_neg (fun h=>h.1 k2)]
  repeat' (first|refine EvC.seq ?_|(refine EvC.skip ?_;try simp only[z00])|(refine EvC.ret ?_)|(refine EvC.reg ?_;simp only[sB,Nat.reduceEqDiff,reduceCtorEq,z0f,ld3,z1h h0,q1,z1h k2,Bool.false_eq_true])|(refine EvC.drw [([(0,0),(1,0),(2,0),(3,0),(4,0),(5,0),(6,0),(7,0)],none)] ?_ ?_;kernel_rfl;simp only[sD,sB,Nat.reduceEqDiff,Nat.reduceAdd,reduceCtorEq,z18,ld9,z0g,ld23,ln23,q1,isAlloc,isRead])|(refine EvC.condF ?_ ?_;simp only[sB,Nat.reduceEqDiff,reduceCtorEq];refine z07 ?_))
  exact z41 rfl (by simp only[sB,Nat.reduceEqDiff,reduceCtorEq];rfl) (by simp only[sB,Nat.reduceEqDiff,reduceCtorEq];rfl) (by simp only[sB,Nat.reduceEqDiff,reduceCtorEq];rfl) ⟨hx.bump 8,by rw[hk]⟩
 by_cases k5:t.kind=5
 ·have hk:keyS t=(t.name,(t.args.length:Int),0):=by unfold keyS;rw[if_neg (fun h=>h h0),if_neg (fun h=>h.2 k5)]
  repeat' (first|refine EvC.seq ?_|(refine EvC.skip ?_;try simp only[z00])|(refine EvC.ret ?_)|(refine EvC.reg ?_;simp only[sB,Nat.reduceEqDiff,reduceCtorEq,z0f,ld3,z1h h0,q1,z1w k2,z1h k5])|(refine EvC.drw [([(0,0),(1,0),(2,0),(3,0),(4,0),(5,0),(6,0),(7,0)],none)] ?_ ?_;kernel_rfl;simp only[sD,sB,Nat.reduceEqDiff,Nat.reduceAdd,reduceCtorEq,z18,ld9,z0g,ld23,ln23,q1,isAlloc,isRead])|(refine EvC.condF ?_ ?_;simp only[sB,Nat.reduceEqDiff,reduceCtorEq];refine z07 ?_))
  exact z41 rfl (by simp only[sB,Nat.reduceEqDiff,reduceCtorEq];rfl) (by simp only[sB,Nat.reduceEqDiff,reduceCtorEq];rfl) (by simp only[sB,Nat.reduceEqDiff,reduceCtorEq];rfl) ⟨hx.bump 8,by rw[hk]⟩
 ·have hk:keyS t=(ByteArray.empty,0,1):=by unfold keyS;rw[if_neg (fun h=>h h0),if_pos ⟨k2,k5⟩]
  repeat' (first|refine EvC.seq ?_|(refine EvC.skip ?_;try simp only[z00])|(refine EvC.ret ?_;try simp only[z05,z03])|(refine EvC.reg ?_;simp only[sB,Nat.reduceEqDiff,reduceCtorEq,z0f,ld3,z1h h0,q1,z1w k2,z1w k5])|(refine EvC.condT ?_ ?_;simp only[sB,Nat.reduceEqDiff,reduceCtorEq];refine z07 ?_)|(refine EvC.condF ?_ ?_;simp only[sB,Nat.reduceEqDiff,reduceCtorEq];refine z07 ?_))
  exact z41 rfl (by simp only[sB,Nat.reduceEqDiff,reduceCtorEq];rfl) (by simp only[sB,Nat.reduceEqDiff,reduceCtorEq];rfl) (by simp only[sB,Nat.reduceEqDiff,reduceCtorEq];rfl) ⟨hx,by rw[hk];rfl⟩
def RdC (H:Heap) (c:Cls) (cs:List Value):Prop:=∃ha hc ta tc a k,cs=fift c.head ha hc c.body.kind c.body.term ta tc a c.body.sub.length k c.vars∧RepT H c.head (six c.head ha hc)∧RepB H c.body (eightT c.body.kind c.body.term ta tc a c.body.sub.length k)
theorem RepC.rd {H:Heap}{S:Nat→Prop}{c:Cls}{cs:List Value}(h:RepC H S c cs):RdC H c cs:=by
 obtain⟨ha,hc,ta,tc,a,k,h1,h2,h3⟩:=h
 exact⟨ha,hc,ta,tc,a,k,h1,h2.rep,h3.rep⟩
theorem RdC.mono {H H':Heap}{c:Cls}{cs:List Value}(h:RdC H c cs) (hx:HX H H') (hw:H.wf):RdC H' c cs:=by
 obtain⟨ha,hc,ta,tc,a,k,h1,h2,h3⟩:=h
 exact⟨ha,hc,ta,tc,a,k,h1,h2.mono hx hw,h3.mono hx hw⟩
set_option maxHeartbeats 8000000 in
theorem z6s {c:Cls}{cs cs':List Value}{H:Heap}(r:RdC H c cs) (r':RdC H c cs') (hw:H.wf) :
  EvF Tryz.prog okT 9 [.agg ⟨cs⟩,.agg ⟨cs'⟩] H fun v H'=>v=.bool true∧HX H H':=by
 obtain⟨ha,hc,ta,tc,a,k,rfl,rh,rb⟩:=r
 obtain⟨ha',hc',ta',tc',a',k',rfl,rh',rb'⟩:=r'
 refine EvF.enter rfl Tryz.func9 (by decide) rfl ?_
 (repeat refine EvC.seq ?_);refine EvC.reg ?_;simp only[sB,initTm,dBox,Nat.reduceEqDiff,Value.cells,one,reduceCtorEq]
 obtain⟨H2,e2,hx2,g1,g2,hn2,hw2⟩:=new2 hw (.row (fift c.head ha hc c.body.kind c.body.term ta tc a c.body.sub.length k c.vars) 32) (.row (fift c.head ha' hc' c.body.kind c.body.term ta' tc' a' c.body.sub.length k' c.vars) 32)
 simp only[e2]
 clear e2
 have q1:=z1y g1
 have q2:=z1y g2
 (repeat refine EvC.seq ?_);refine EvC.reg ?_;simp only[sB,Nat.reduceEqDiff,reduceCtorEq,zqk,ld25,cl12,q1,q2]
 refine(z52 (rh.mono hx2 hw) (rh'.mono hx2 hw) hw2).mono ?_
 rintro v H3 ⟨rfl,hx3⟩
 have g1:=hx3.get hw2 g1
 have g2:=hx3.get hw2 g2
 have hx:=hx2.trans hx3
 have q1:=z1y g1
 have q2:=z1y g2
 try simp only[]
 (repeat refine EvC.seq ?_);refine EvC.reg ?_;simp only[sB,Nat.reduceEqDiff,reduceCtorEq,zo1,ld30,cl51,q1,q2]
 refine(zev (Nat.lt_succ_self _) (rb.mono hx hw) (rb'.mono hx hw) hx.wf).mono ?_
 rintro v H4 ⟨rfl,hx4⟩
 have q1:=z1y (hx4.get hx.wf g1)
 have q2:=z1y (hx4.get hx.wf g2)
 repeat' (first|refine EvC.seq ?_|(refine EvC.ret ?_)|(refine EvC.reg ?_;simp only[sB,Nat.reduceEqDiff,reduceCtorEq,zql,ld3,q1,q2,zi2 rfl,z0i rfl]))
 exact z04 rfl (by simp only[sG,Nat.reduceEqDiff,reduceCtorEq]) ⟨rfl,hx.trans hx4⟩
set_option maxHeartbeats 8000000 in
theorem zey {cs:List Value}{H:Heap}(r:RepB H zeroB cs) (hw:H.wf):EvF Tryz.prog okT 10 [.agg ⟨cs⟩] H fun _ H'=>HX H H':=by
 obtain⟨ts,a,c,cells,rfl,hk,rt,rl⟩:=r.inv
 obtain⟨ta,tc,cellst,rfl,-⟩:=rt.inv
 show EvF Tryz.prog okT 10 [.agg ⟨eightT 0 zeroT ta tc a 0 c⟩] H _
 refine EvF.enter rfl Tryz.func10 (by decide) rfl ?_
 (repeat refine EvC.seq ?_);refine EvC.reg ?_;simp only[sB,initTm,dBox,Value.cells,one]
 obtain⟨H2,e2,hx2,gp,hn2,hw2⟩:=new1 hw (.row (eightT 0 zeroT ta tc a 0 c) 30)
 simp only[e2]
 clear e2
 (repeat refine EvC.seq ?_);refine EvC.reg ?_;simp only[sA]
 have hd':decide ((0:Int) < ((0:Nat):Int))=false:=rfl
 have hd2:decide ((0:Int) < ((zeroT.args.length:Nat):Int))=false:=rfl
 have q1:=row8 gp
 refine EvC.meet (fun st=>∃tm,st=⟨tm,[],H2⟩∧tm.get 1=some (.pointer (some ⟨H.next,0,none⟩))) ?_ ?_
 ·refine EvC.block (EvC.loop1 ?_)
  repeat' (first|refine EvC.seq ?_|(refine EvC.exit ?_;try simp only[sB,reduceCtorEq])|(refine EvC.reg ?_;simp only[sB,Nat.reduceEqDiff,Nat.reduceAdd,reduceCtorEq,z4h,z0g,ld23,ln23,q1,hd2])|(refine EvC.condF ?_ ?_;simp only[sB,Nat.reduceEqDiff,reduceCtorEq];refine z07 ?_))
  exact⟨_,rfl,(by simp only[sG,Nat.reduceEqDiff,reduceCtorEq])⟩
 ·rintro st ⟨tm,rfl,t1⟩
  (repeat refine EvC.seq ?_);refine EvC.reg ?_;simp only[sA]
  refine EvC.block (EvC.loop1 ?_)
  repeat' (first|refine EvC.seq ?_|(refine EvC.exit ?_;try simp only[sB])|(refine EvC.reg ?_;simp only[sB,Nat.reduceEqDiff,z2r,ld28,ln28,t1,q1,hd'])|(refine EvC.condF ?_ ?_;simp only[sB,Nat.reduceEqDiff];refine z07 ?_))
  exact z1e rfl hx2
theorem zn9 {H:Heap}(hw:H.wf) (A B C D:Blk):∃H2,(((H.new (some A)).new (some B)).put H.next (some C)).put (H.next+1) (some D)=H2∧HX H H2∧H2.get H.next=some C∧H2.get (H.next+1)=some D∧H2.next=H.next+2∧H2.wf:=by
 obtain⟨H2,rfl,hx,h1,h2,h3,h4⟩:=new2 hw A B
 have hy:=(hx.pt (i:=H.next) (Nat.le_refl _) h1 (some C)).pt (i:=H.next+1) (by omega) (by rw[get_put,if_neg (by omega)];exact h2) (some D)
 exact⟨_,rfl,hy,by rw[get_put,if_neg (by omega),get_put,if_pos rfl],by rw[get_put,if_pos rfl],rfl,hy.wf⟩
theorem zie {m:ByteArray}{h r:Tm}(e:(readB m h r).2.2≠.ok):(readB m h r).2.1=zeroC:=by
 unfold readB at e ⊢
 split
 ·rfl
 ·rename_i k1
  rw[if_neg k1] at e
  split
  ·rfl
  ·rename_i k2
   rw[if_neg k2] at e
   cases hb:bodyF (SizeOf.sizeOf r+1) r with
   |none=>rfl
   |some b =>
    rw[hb] at e
    simp only at e ⊢
    split
    ·rfl
    ·rename_i k3
     rw[if_neg k3] at e
     exact absurd rfl e
theorem zif {m:ByteArray}{h r:Tm}(e:(readH m h r).2.2≠.ok):(readH m h r).2.1=zeroC:=by
 unfold readH at e ⊢
 obtain⟨⟨m2,h2,e2⟩,hS⟩:∃R,stripS m h=R:=⟨_,rfl⟩
 rw[hS] at e ⊢
 cases e2 with
 |ok=>exact zie e
 |num n=>rfl
 |ball u=>rfl
theorem zlk {m:ByteArray}{t:Tm}(e:(readS m t).2.2≠.ok):(readS m t).2.1=zeroC:=by
 unfold readS at e ⊢
 split
 ·rfl
 ·rename_i k
  rw[if_neg k] at e
  obtain⟨⟨m1,t1,e1⟩,hS⟩:∃R,stripS m t=R:=⟨_,rfl⟩
  rw[hS] at e ⊢
  cases e1 with
  |ok=>exact zif e
  |num n=>rfl
  |ball u=>rfl
theorem zez {m:ByteArray}{t:Tm}{cs:List Value}{S:Nat→Prop}{ev:Value}{H:Heap}(ho:OB H 30 25 S (readS m t).2.1.body cs) (he:RepES H S (readS m t).2.2 ev) (hS:∀n,S n→n < H.next) (hw:H.wf) :
  EvF Tryz.prog okT 10 [.agg ⟨cs⟩] H fun _ H'=>HK S H H'∧RepE H' (readS m t).2.2 ev:=by
 by_cases h:(readS m t).2.2=.ok
 ·refine(zl6 (Nat.lt_succ_self _) ho hS hw).mono fun v H' hk=>⟨hk,?_⟩
  rw[h] at he ⊢
  exact he.rep
 ·rw[zlk h] at ho
  exact(zey ho.rep hw).mono fun v H' hx=>⟨hx.hk S,he.rep.mono hx hw⟩
set_option maxHeartbeats 16000000 in
theorem z9h {m:ByteArray}{t:Tm}{cs:List Value}{H:Heap}(r0:RepT H t cs) (hf:Few 1000000 t) (hw:H.wf):EvF Tryz.prog okT 3 [.string m,.agg ⟨cs⟩] H fun v _=>v=.bool true:=by
 obtain⟨a,c,cells,rfl,-⟩:=r0.six
 refine EvF.enter rfl Tryz.func3 (by decide) rfl ?_
 (repeat refine EvC.seq ?_);refine EvC.reg ?_;simp only[sB,initTm,dBox,Value.cells,one,reduceCtorEq]
 obtain⟨H1,e1,hx1,g1,hn1,w1⟩:=new1 hw (.row (six t a c) 25)
 simp only[e1]
 clear e1
 (repeat refine EvC.seq ?_);refine EvC.reg ?_;simp only[sB,Nat.reduceEqDiff,reduceCtorEq,cl5]
 refine(show EvF Tryz.prog okT 5 [] H1 _ from zm5 w1).mono ?_
 rintro v H2 ⟨rfl,k2⟩
 have g1:=k2.get w1 g1
 have hx2:=hx1.trans k2
 have q1:=row6 g1
 try simp only[]
 (repeat refine EvC.seq ?_);refine EvC.reg ?_;simp only[sB,dAlloc,Nat.reduceEqDiff,reduceCtorEq,ld25,cl6,zr25,q1]
 refine(z58 (r0.mono hx2 hw) hf hx2.wf).mono ?_
 rintro v H3 ⟨k3,out,rfl,hot⟩
 obtain⟨a3,c3,z7f,rfl,-⟩:=hot.rep.six
 have w3:=k3.wf
 have g1:=k3.get hx2.wf g1
 try simp only[sB,Nat.reduceAdd,one,st25]
 obtain⟨H4,e4,k4,g6,hn4,w4⟩:=z0r w3 (.row zero6 25) (.row (six t a3 c3) 25)
 simp only[e4]
 clear e4
 have g1:=k4.get w3 g1
 have hx4:=(hx2.trans k3).trans k4
 have hot4:=hot.rep.mono k4 w3
 have q6:=row6 g6
 (repeat refine EvC.seq ?_);refine EvC.reg ?_;simp only[sB,Nat.reduceEqDiff,reduceCtorEq,ld25,cl7,q6]
 refine(zlc (m:=m) hot4 w4).mono ?_
 rintro v H5 ⟨k5,csA,ea,rfl,hrA,heA⟩
 have hrdA:=hrA.rd
 obtain⟨Aha,Ahc,Ata,Atc,Aa,Ak,rfl,-,hoA⟩:=hrA
 have w5:=k5.wf
 have g1:=k5.get w4 g1
 have g6:=k5.get w4 g6
 generalize hR:readS m t=R at *
 obtain⟨mo,d,e⟩:=R
 simp only at hrdA hoA heA
 try simp only[sB,dAlloc,Nat.reduceEqDiff,Nat.reduceAdd,one,reduceCtorEq,zr32,st32]
 obtain⟨H6,e6,k6,g8,hn6,w6⟩:=z0r w5 (.row zero15 32) (.row (fift d.head Aha Ahc d.body.kind d.body.term Ata Atc Aa d.body.sub.length Ak d.vars) 32)
 simp only[e6]
 clear e6
 have g1:=k6.get w5 g1
 have g6:=k6.get w5 g6
 have q6:=row6 g6
 have k46:=k5.trans k6
 (repeat refine EvC.seq ?_);refine EvC.reg ?_;simp only[sB,Nat.reduceEqDiff,reduceCtorEq,ld25,cl7,q6]
 refine(zlc (m:=m) (hot4.mono k46 w4) w6).mono ?_
 rw[hR]
 rintro v H7 ⟨k7,csB,eb,rfl,hrB,heB⟩
 have hrdB:=hrB.rd
 obtain⟨Bha,Bhc,Bta,Btc,Ba,Bk,rfl,-,-⟩:=hrB.rd
 simp only at hrdB heB
 have w7:=k7.wf
 have g1:=k7.get w6 g1
 have g6:=k7.get w6 g6
 have g8:=k7.get w6 g8
 try simp only[sB,dAlloc,Nat.reduceEqDiff,Nat.reduceAdd,one,reduceCtorEq,zr32,st32]
 obtain⟨H8,e8,k8,g11,hn8,w8⟩:=z0r w7 (.row zero15 32) (.row (fift d.head Bha Bhc d.body.kind d.body.term Bta Btc Ba d.body.sub.length Bk d.vars) 32)
 simp only[e8]
 clear e8
 have g1:=k8.get w7 g1
 have g6:=k8.get w7 g6
 have g8:=k8.get w7 g8
 have q1:=row6 g1
 have k48:=(k46.trans k7).trans k8
 have hx8:=hx4.trans k48
 (repeat refine EvC.seq ?_);refine EvC.reg ?_;simp only[sB,Nat.reduceEqDiff,reduceCtorEq,ld25,cl8,q1]
 refine(zn8 (m:=m) (r0.mono hx8 hw) w8).mono ?_
 rw[hR]
 rintro v H9 ⟨k9,csW,sd,rfl,hrW,hsd⟩
 have hrdW:=hrW.rd
 obtain⟨Wha,Whc,Wta,Wtc,Wa,Wk,rfl,-,-⟩:=hrW.rd
 obtain⟨en,ebb,et,sea,sec,rfl⟩:=hsd.cells
 simp only at hrdW hsd hrW
 have w9:=k9.wf
 have g1:=k9.get w8 g1
 have g6:=k9.get w8 g6
 have g8:=k9.get w8 g8
 have g11:=k9.get w8 g11
 try simp only[sB,dAlloc,Nat.reduceEqDiff,Nat.reduceAdd,one,reduceCtorEq,zr32,st32,zr39,st39,neu,neu']
 obtain⟨H10,e10,k10,g14,g15,hn10,w10⟩:=zn9 w9 (.row zero15 32) (.row said0 39) (.row (fift d.head Wha Whc d.body.kind d.body.term Wta Wtc Wa d.body.sub.length Wk d.vars) 32) (.row (saidT en ebb et sea sec) 39)
 simp only[e10]
 clear e10
 have g1:=k10.get w9 g1
 have g6:=k10.get w9 g6
 have g8:=k10.get w9 g8
 have g11:=k10.get w9 g11
 have q8:=z1y g8
 have q14:=z1y g14
 have k8X:=k9.trans k10
 have k6X:=(k7.trans k8).trans k8X
 (repeat refine EvC.seq ?_);refine EvC.reg ?_;simp only[sB,Nat.reduceEqDiff,reduceCtorEq,ld32,cl9,q8,q14]
 refine(z6s (hrdA.mono (k6.trans k6X) w5) (hrdW.mono k10 w9) w10).mono ?_
 rintro v H11 ⟨rfl,k11⟩
 have g1:=k11.get w10 g1
 have g6:=k11.get w10 g6
 have g8:=k11.get w10 g8
 have g11:=k11.get w10 g11
 have g14:=k11.get w10 g14
 have g15:=k11.get w10 g15
 have w11:=k11.wf
 have q8:=z1y g8
 have k5E:=(k6.trans k6X).trans k11
 have n5E:=k5E.next
 have sp:=zez (m:=m) (t:=t) (H:=H11) (S:=Rg H4.next H5.next) (ev:=ea) (by rw[hR];exact hoA.keep k5E) (by rw[hR];exact heA.to fun n hn hl=>⟨k5E.keep n hl,hn,by omega⟩) (fun n hn=>by have:=hn.2;omega) w11
 rw[hR] at sp
 try simp only[]
 (repeat refine EvC.seq ?_);refine EvC.reg ?_;simp only[sB,Nat.reduceEqDiff,reduceCtorEq,zo1,ld30,cl10,q8]
 refine sp.mono ?_
 rintro v H12 ⟨k12,heA12⟩
 have n3:=k3.next
 have n4:=k4.next
 have n5:=k5.next
 have n6':=k6.next
 have n7:=k7.next
 have n8':=k8.next
 have n9:=k9.next
 have nX:=hx4.next
 have o1:=hx1.next
 have o2:=k2.next
 have oE:=(k10.trans k11).next
 have g1:=k12.get w11 g1 (fun h=>by have:=h.1;omega)
 have g6:=k12.get w11 g6 (fun h=>by have:=h.1;omega)
 have g11:=k12.get w11 g11 (fun h=>by have:=h.2;omega)
 have g14:=k12.get w11 g14 (fun h=>by have:=h.2;omega)
 have g15:=k12.get w11 g15 (fun h=>by have:=h.2;omega)
 have w12:=k12.wf
 have n12:=k12.next
 have k7E:=(k8.trans k8X).trans k11
 have k9E:=k10.trans k11
 have n7E:=k7E.next
 have n9E:=k9E.next
 have hrB12:RepC H12 (Rg H6.next H7.next) d _:=hrB.to (fun n hn hl=>⟨by rw[k12.keep n (by omega) (fun h=>by have:=h.2;have:=hn.1;omega)];exact k7E.keep n hl,hn,by omega⟩) fun n hn=>hn
 have hrW12:RepC H12 (Rg H8.next H9.next) d _:=hrW.to (fun n hn hl=>⟨by rw[k12.keep n (by omega) (fun h=>by have:=h.2;have:=hn.1;omega)];exact k9E.keep n hl,hn,by omega⟩) fun n hn=>hn
 have heB12:RepES H12 (Rg H6.next H7.next) e eb:=heB.to fun n hn hl=>⟨by rw[k12.keep n (by omega) (fun h=>by have:=h.2;have:=hn.1;omega)];exact k7E.keep n hl,hn,by omega⟩
 have hsd12:RSaid H12 (Rg H8.next H9.next) e _:=hsd.to fun n hn hl=>⟨by rw[k12.keep n (by omega) (fun h=>by have:=h.2;have:=hn.1;omega)];exact k9E.keep n hl,hn,by omega⟩
 have hx11:=(hx8.trans k8X).trans k11
 have hx12:HX H H12:=hx11.then k12 fun n hn h=>by have:=h.1;omega
 have k3E:=((k4.trans (k46.trans k6X))).trans k11
 have hot12:RepS H12 (Rg H2.next H3.next) t _:=hot.1.to fun n hn hl=>⟨by rw[k12.keep n (by have:=k3E.next;omega) (fun h=>by have:=h.1;have:=hn.2;omega)];exact k3E.keep n hl,hn,by have:=k3E.next;omega⟩
 have q11:=z1y g11
 have q14:=z1y g14
 try simp only[]
 (repeat refine EvC.seq ?_);refine EvC.reg ?_;simp only[sB,Nat.reduceEqDiff,reduceCtorEq,ld32,cl9,q11,q14]
 refine(z6s hrB12.rd hrW12.rd w12).mono ?_
 rintro v H13 ⟨rfl,k13⟩
 have w13:=k13.wf
 have q15:=rowS (k13.get w12 g15)
 try simp only[]
 (repeat refine EvC.seq ?_);refine EvC.reg ?_;simp only[sB,Nat.reduceEqDiff,reduceCtorEq,ld39,cl11,q15]
 refine(zl7 (heA12.mono k13 w12) (hsd12.to fun n hn hl=>⟨k13.keep n hl,hn,Nat.lt_of_lt_of_le hl k13.next⟩) w13).mono ?_
 rintro v H14 ⟨rfl,k14⟩
 have kEE:=k13.trans k14
 have w14:=k14.wf
 have q15:=rowS (kEE.get w12 g15)
 try simp only[]
 (repeat refine EvC.seq ?_);refine EvC.reg ?_;simp only[sB,Nat.reduceEqDiff,reduceCtorEq,ld39,cl11,q15]
 refine(zl7 (heB12.rep.mono kEE w12) (hsd12.to fun n hn hl=>⟨kEE.keep n hl,hn,Nat.lt_of_lt_of_le hl kEE.next⟩) w14).mono ?_
 rintro v H15 ⟨rfl,k15⟩
 have kFF:=kEE.trans k15
 have q1:=row6 (kFF.get w12 g1)
 have q6:=row6 (kFF.get w12 g6)
 have he0:(mo.toList == mo.toList)=true:=z3o rfl
 try simp only[]
 refine EvC.frame (fun tm=>tm.get 3=some (.pointer (some ⟨H.next,0,none⟩))∧tm.get 6=some (.pointer (some ⟨H3.next,0,none⟩))∧tm.get 5=some (.bool true)∧tm.get 16=some (.bool true)∧tm.get 17=some (.bool true)∧tm.get 18=some (.bool true)∧tm.get 19=some (.bool true)∧tm.get 7=some (.string mo)∧tm.get 10=some (.string mo)∧tm.get 13=some (.string mo)) ⟨(by simp only[sG,Nat.reduceEqDiff,reduceCtorEq]),(by simp only[sG,Nat.reduceEqDiff,reduceCtorEq]),(by simp only[sG,Nat.reduceEqDiff,reduceCtorEq]),(by simp only[sG,Nat.reduceEqDiff,reduceCtorEq]),(by simp only[sG,Nat.reduceEqDiff,reduceCtorEq]),(by simp only[sG,Nat.reduceEqDiff,reduceCtorEq]),(by simp only[sG,Nat.reduceEqDiff,reduceCtorEq]),(by simp only[sG,Nat.reduceEqDiff,reduceCtorEq]),(by simp only[sG,Nat.reduceEqDiff,reduceCtorEq]),(by simp only[sG,Nat.reduceEqDiff,reduceCtorEq])⟩ ?_
 rintro tm ⟨t3,t6,t5,t16,t17,t18,t19,t7,t10,t13⟩
 repeat' (first|refine EvC.seq ?_|(refine EvC.reg ?_;simp only[sB,Nat.reduceEqDiff,ld25,cl12,q1,q6,t3,t6,t5,t16,t17,t18,t19,t7,t10,t13,Bool.not_true,Bool.false_eq_true,z28,he0]))
 refine(z52 (hot12.rep.mono kFF w12) ((r0.mono hx12 hw).mono kFF w12) kFF.wf).mono ?_
 rintro v H16 ⟨rfl,k16⟩
 have kGG:=kFF.trans k16
 have q1:=row6 (kGG.get w12 g1)
 repeat' (first|refine EvC.seq ?_|(refine EvC.skip ?_;try simp only[z00])|(refine EvC.reg ?_;simp only[sB,Nat.reduceEqDiff,ld25,cl13,q1,t3])|(refine z0k ?_;simp only[sB,Nat.reduceEqDiff,zi2 rfl,Bool.not_true,Bool.false_eq_true])|(refine EvC.condF ?_ ?_;simp only[sB,Nat.reduceEqDiff];refine z07 ?_))
 refine(zrx ((r0.mono hx12 hw).mono kGG w12) kGG.wf).mono ?_
 rintro v H17 ⟨k17,rfl⟩
 have kHH:=kGG.trans k17
 have q1:=row6 (kHH.get w12 g1)
 try simp only[sB,Nat.reduceEqDiff]
 refine EvC.frame (fun tm=>tm.get 3=some (.pointer (some ⟨H.next,0,none⟩))∧tm.get 20=some (.string (keyS t).1)∧tm.get 21=some (.int .i64 (keyS t).2.1)∧tm.get 22=some (.int .i64 (keyS t).2.2)) ⟨(by simp only[sG,Nat.reduceEqDiff,t3]),(by simp only[sG,Nat.reduceEqDiff]),(by simp only[sG,Nat.reduceEqDiff]),(by simp only[sG,Nat.reduceEqDiff])⟩ ?_
 rintro tm2 ⟨t3,t20,t21,t22⟩
 repeat' (first|refine EvC.seq ?_|(refine EvC.reg ?_;simp only[sB,Nat.reduceEqDiff,ld25,cl14,q1,t3]))
 refine(z7i _ _ _ ((r0.mono hx12 hw).mono kHH w12) kHH.wf).mono ?_
 rintro v H18 ⟨rfl,k18⟩
 have q1:=row6 ((kHH.trans k18).get w12 g1)
 have he1:((⟨#[]⟩:ByteArray).toList == (⟨#[]⟩:ByteArray).toList)=true:=z3o rfl
 have he2:(t.name.toList == t.name.toList)=true:=z3o rfl
 by_cases h0:checkS t=0
 rotate_left
 ·have hk:keyS t=(⟨#[]⟩,0,checkS t):=by unfold keyS;rw[if_pos h0];rfl
  rw[hk] at t20 t21 t22
  repeat' (first|refine EvC.seq ?_|(refine EvC.skip ?_;try simp only[z00])|(refine EvC.ret ?_;try simp only[z05,z03])|(refine EvC.reg ?_;simp only[sB,Nat.reduceEqDiff,t20,t21,t22,z0j h0,z1w h0,he1,z19,z0i rfl,Bool.false_eq_true])|(refine EvC.condT ?_ ?_;simp only[sB,Nat.reduceEqDiff];refine z07 ?_)|(refine EvC.condF ?_ ?_;simp only[sB,Nat.reduceEqDiff];refine z07 ?_))
  exact z04 rfl (by simp only[sG,Nat.reduceEqDiff]) rfl
 by_cases k2:t.kind=2
 ·have hk:keyS t=(t.name,(t.args.length:Int),0):=by unfold keyS;rw[if_neg (fun h=>h h0),if_neg (fun h=>h.1 k2)]
  rw[hk] at t20 t21 t22
  repeat' (first|refine EvC.seq ?_|(refine EvC.skip ?_;try simp only[z00])|(refine EvC.ret ?_)|(refine EvC.reg ?_;simp only[sB,Nat.reduceEqDiff,z0f,ld3,z18,ld9,z0g,ld23,ln23,q1,t3,t20,t21,t22,z0i h0,z1h h0,z1h k2,he2,z19,z0i rfl,Bool.false_eq_true])|(refine EvC.condF ?_ ?_;simp only[sB,Nat.reduceEqDiff];refine z07 ?_))
  exact z04 rfl (by simp only[sG,Nat.reduceEqDiff]) rfl
 by_cases k5:t.kind=5
 ·have hk:keyS t=(t.name,(t.args.length:Int),0):=by unfold keyS;rw[if_neg (fun h=>h h0),if_neg (fun h=>h.2 k5)]
  rw[hk] at t20 t21 t22
  repeat' (first|refine EvC.seq ?_|(refine EvC.skip ?_;try simp only[z00])|(refine EvC.ret ?_)|(refine EvC.reg ?_;simp only[sB,Nat.reduceEqDiff,z0f,ld3,z18,ld9,z0g,ld23,ln23,q1,t3,t20,t21,t22,z0i h0,z1h h0,z1w k2,z1h k5,he2,z19,z0i rfl])|(refine EvC.condF ?_ ?_;simp only[sB,Nat.reduceEqDiff];refine z07 ?_))
  exact z04 rfl (by simp only[sG,Nat.reduceEqDiff]) rfl
 ·have hk:keyS t=(⟨#[]⟩,0,1):=by unfold keyS;rw[if_neg (fun h=>h h0),if_pos ⟨k2,k5⟩];rfl
  rw[hk] at t20 t21 t22
  have h1:(1:Int)≠0:=by decide
  repeat' (first|refine EvC.seq ?_|(refine EvC.ret ?_;try simp only[z05,z03])|(refine EvC.reg ?_;simp only[sB,Nat.reduceEqDiff,z0f,ld3,q1,t3,t20,t21,t22,z0i h0,z1w k2,z1w k5,z1w h1,he1,z19,z0i rfl])|(refine EvC.condT ?_ ?_;simp only[sB,Nat.reduceEqDiff];refine z07 ?_))
  exact z04 rfl (by simp only[sG,Nat.reduceEqDiff]) rfl
end Go.Proofs.hq
end

section
namespace Go.Hb
open Go Go.RowKit
section
variable {H:Type}{enc:TypeId × Value→H}{P:Program}{W:World}{sp:Nat→Bool}{fuel:Nat}{t e:TypeId}{cs:List Value}{d:DataW H}{ps:List MemPlace}
theorem zry {k:IntKind}{n:Int}:ab P W (.int k n)=.int k n:=rfl
theorem zll {s:ByteArray}:ab P W (.string s)=.string s:=rfl
theorem zbi {k:IntKind}(ht:P.underlying t=some (.int k)) (h:DataW.trod enc P W 0 sp true fuel t cs=some (d,ps)):∃n,cs=[.int k n]∧(Lit.int k n).wf=true:=by
 cases fuel with
 |zero=>simp [DataW.trod] at h
 |succ m =>
  unfold DataW.trod at h
  rw[ht] at h
  split at h<;>simp_all
theorem z9d (ht:P.underlying t=some .string) (h:DataW.trod enc P W 0 sp true fuel t cs=some (d,ps)):∃s:ByteArray,cs=[.string s]∧s.size≤maxLen:=by
 cases fuel with
 |zero=>simp [DataW.trod] at h
 |succ m =>
  unfold DataW.trod at h
  rw[ht] at h
  split at h<;>simp_all
theorem trod_slice (ht:P.underlying t=some (.slice e)) (h:DataW.trod enc P W 0 sp true fuel t cs=some (d,ps)) :
  cs=[.slice none 0 0]∨∃a len cap m,fuel=m+1∧cs=[.slice (some a) len cap]∧len≤cap∧cap≤maxLen ∧
   ∀i,i < len→∃es d' ps',W.cells? 0 (a.add (i*P.cellsOf e)) (P.cellsOf e)=some es∧DataW.trod enc P W 0 sp true m e es=some (d',ps'):=by
 cases fuel with
 |zero=>simp [DataW.trod] at h
 |succ m =>
  unfold DataW.trod at h
  rw[ht] at h
  split at h<;>simp_all
  obtain⟨⟨hl,hc⟩,h⟩:=h
  simp only[Option.bind_eq_some_iff,Option.map_eq_some_iff] at h
  obtain⟨elems,he,_⟩:=h
  refine⟨_,_,_,⟨rfl,rfl,rfl⟩,hl,hc,fun i hi=>?_⟩
  have hlen:=mapM_some_length he
  have:=mapM_some_get he i i (by simp [hi])
  rw[List.getElem?_eq_getElem (by rw[hlen];simpa using hi)] at this
  simp only[Option.bind_eq_some_iff] at this
  obtain⟨es,h1,h2⟩:=this
  exact⟨es,h1,_,_,h2⟩
theorem zqa (a:Addr) (i:Nat):(a.add i).block=a.block:=by unfold Addr.add;split<;>rfl
theorem zdv {a:Addr}{s i:Nat}{es:List Value}(hs:0 < s) (h:W.cells? 0 (a.add (i*s)) s=some es) (hsp:a.spot=none):(heapW P W).load ⟨a.block,a.off+i*s,none⟩ s=some (es.map (ab P W))∧es.length=s∧a.block < W.heap.size:=by
 obtain⟨_,hl,hc⟩:=World.cells?_some h
 obtain⟨b,o,sp⟩:=a
 obtain rfl:sp=none:=hsp
 have hb:=World.cells?_block h hs
 rw[zqa] at hb
 refine⟨zho hs hl fun j v hj=>?_,hl,hb⟩
 have hjl:j < es.length:=(List.getElem?_eq_some_iff.1 hj).1
 have:=hc j (by omega)
 rw[add0,add0] at this
 rw[this];exact hj
theorem zig {a:Addr}{s:Nat}{es:List Value}(hs:0 < s) (h:W.cells? 0 (a.add (0*s)) s=some es):a.spot=none:=by
 obtain⟨_,hl,hc⟩:=World.cells?_some h
 have e0:∀a:Addr,a.add 0=a:=fun a=>by unfold Addr.add;simp
 have:=hc 0 hs
 rw[Nat.zero_mul,e0,e0,List.getElem?_eq_getElem (by omega)] at this
 unfold World.cell? at this
 split at this
 ·split at this
  ·cases this
  ·rename_i hn;simpa using hn
 ·cases this
end
section
variable {H:Type}{enc:TypeId × Value→H}{P:Program}{W:World}{sp:Nat→Bool}
structure TermTypes (P:Program) (tT tS tI tG tU:TypeId):Prop where
 fields:∃fs:Array Field,P.underlying tT=some (.struct fs)∧(fs.toList.map fun f=>(f.offset,f.type))=[(0,tI),(1,tG),(2,tG),(3,tU),(4,tI),(5,tS)]
 slice:P.underlying tS=some (.slice tT)
 int:P.underlying tI=some (.int .i64)
 str:P.underlying tG=some .string
 u64:P.underlying tU=some (.int .u64)
 cT:P.cellsOf tT=6
 cS:P.cellsOf tS=1
 cI:P.cellsOf tI=1
 cG:P.cellsOf tG=1
 cU:P.cellsOf tU=1
theorem zh7 {n:Int}(h:(Lit.int .i64 n).wf=true):i64 n:=by
 unfold i64
 unfold Lit.wf at h
 simp [IntKind.min,IntKind.max,IntKind.bits,IntKind.signed] at h
 exact h
theorem zok {n:Int}(h:(Lit.int .u64 n).wf=true):u64 n:=by
 unfold u64
 unfold Lit.wf at h
 simp [IntKind.min,IntKind.max,IntKind.bits,IntKind.signed] at h
 exact h
theorem z4c {cs:List Value}{o:Nat}{v:Value}(h:(cs.drop o).take 1=[v]):cs[o]?=some v:=by
 have:((cs.drop o).take 1)[0]?=some v:=by rw[h];rfl
 simpa [List.getElem?_take,List.getElem?_drop] using this
theorem zh8 {cs:List Value}{a b c d e f:Value}(hl:cs.length=6) (h0:cs[0]?=some a) (h1:cs[1]?=some b) (h2:cs[2]?=some c) (h3:cs[3]?=some d) (h4:cs[4]?=some e) (h5:cs[5]?=some f):cs=[a,b,c,d,e,f]:=by
 match cs,hl with
 |[_,_,_,_,_,_],_=>simp at h0 h1 h2 h3 h4 h5;simp [h0,h1,h2,h3,h4,h5]
end
end Go.Hb
end

section
namespace Go.Hb
open Go Go.RowKit
section
variable {H:Type}{enc:TypeId × Value→H}{P:Program}{W:World}{sp:Nat→Bool}
end
end Go.Hb
end

section
namespace Go.Proofs.hq
open Go Go.RowKit Go.Hb
section
variable {H:Type}{enc:TypeId × Value→H}{P:Program}{W:World}{sp:Nat→Bool}
structure Wt (w:DataW H→Nat):Prop where
 pos:∀d,1≤w d
 agg:∀ps,(ps.map w).sum+1≤w (.agg ps)
 slice:∀es rest,(es.map w).sum+1≤w (.slice es rest)
theorem zbj {fuel:Nat}{t:TypeId}{cs:List Value}{d:DataW H}{ps:List MemPlace}{fs:Array Field}(ht:P.underlying t=some (.struct fs)) (h:DataW.trod enc P W 0 sp true fuel t cs=some (d,ps)) :
  ∃(m:Nat) (xs:List (DataW H × List MemPlace)),fuel=m+1∧cs.length=P.cellsOf t∧d=.agg (xs.map (·.1))∧∀(i:Nat) (f:Field),fs[i]?=some f→∃x,xs[i]?=some x∧DataW.trod enc P W 0 sp true m f.type ((cs.drop f.offset).take (P.cellsOf f.type))=some x:=by
 cases fuel with
 |zero=>simp [DataW.trod] at h
 |succ m =>
  unfold DataW.trod at h
  rw[ht] at h
  have h':(if cs.length=P.cellsOf t then (fs.toList.mapM fun f=>DataW.trod enc P W 0 sp true m f.type ((cs.drop f.offset).take (P.cellsOf f.type))).map fun xs=>(DataW.agg (xs.map (·.1)),xs.flatMap (·.2)) else none)=some (d,ps):=by
   split at h<;>first|exact h|simp_all
  split at h'
  ·rename_i hl
   rw[Option.map_eq_some_iff] at h'
   obtain⟨xs,hx,he⟩:=h'
   cases he
   refine⟨m,xs,rfl,hl,rfl,fun i f hf=>?_⟩
   have hlen:=mapM_some_length hx
   have:=mapM_some_get hx i f (by simpa using hf)
   have hi:=(Array.getElem?_eq_some_iff.1 hf).1
   have hix:i < xs.length:=by rw[hlen];simpa using hi
   rw[List.getElem?_eq_getElem hix] at this
   exact⟨xs[i],List.getElem?_eq_getElem hix,this⟩
  ·cases h'
theorem zdw {fuel:Nat}{t e:TypeId}{cs:List Value}{d:DataW H}{ps:List MemPlace}(ht:P.underlying t=some (.slice e)) (h:DataW.trod enc P W 0 sp true fuel t cs=some (d,ps)) :
  cs=[.slice none 0 0]∨∃(a:Addr) (cap m:Nat) (elems:List (DataW H × List MemPlace)) (rest:List (DataW H)),fuel=m+1∧cs=[.slice (some a) elems.length cap]∧elems.length≤cap∧cap≤maxLen∧d=.slice (elems.map (·.1)) rest ∧
   ∀i x,elems[i]?=some x→∃es,W.cells? 0 (a.add (i*P.cellsOf e)) (P.cellsOf e)=some es∧DataW.trod enc P W 0 sp true m e es=some x:=by
 rcases DataW.trod_slice ht h with ⟨h1,-⟩|⟨a,len,cap,elems,rest,n,rfl,rfl,hx,-,hl,hm,rfl,hel,-⟩
 ·exact .inl h1
 ·cases hx
  refine .inr ⟨a,cap,n,elems,_,rfl,rfl,hl,hm,rfl,fun i x hx=>?_⟩
  have hi:=(List.getElem?_eq_some_iff.1 hx).1
  have:=hel i hi
  rw[hx,Option.bind_eq_some_iff] at this
  exact this
theorem zf0:nd.ndL []=0:=by rw[nd.ndL]
theorem zbk {t:Tm}{l:List Tm}:nd.ndL (t :: l)=nd t+nd.ndL l:=by rw[nd.ndL]
theorem zrz (t:Tm):1≤nd t:=by rw[z1m];omega
theorem zlm:∀l:List Tm,l.length≤nd.ndL l
 |[]=>Nat.zero_le _
 |t :: l=>by have:=zlm l;have:=zrz t;rw[zbk,List.length_cons];omega
theorem zol {w:DataW H→Nat}:∀(es:List (DataW H × List MemPlace)) (f:Nat→Tm),(∀i x,es[i]?=some x→7*nd (f i)≤w x.1)→7*nd.ndL ((List.range es.length).map f)≤((es.map (·.1)).map w).sum
 |[],f,_=>by simp [zf0]
 |x :: es,f,h=>by
  have h0:=h 0 x rfl
  have ih:=zol (w:=w) es (fun i=>f (i+1)) fun i y hy=>h (i+1) y hy
  rw[List.length_cons,List.range_succ_eq_map,List.map_cons,List.map_map,zbk,List.map_cons,List.map_cons,List.sum_cons]
  have e:(f ∘ Nat.succ)=fun i=>f (i+1):=rfl
  rw[e];omega
theorem zna {b:Nat}{B:Blk}(h:(heapW P W).get b=some B):∃cs e,B=.ro cs e:=by
 rw[z63] at h
 split at h
 ·unfold blkW at h
  split at h
  ·cases h;exact⟨_,_,rfl⟩
  ·cases h
 ·cases h
theorem zqb {b o n:Nat}{cs:List Value}(h:(heapW P W).load ⟨b,o,none⟩ n=some cs):∃cs e,(heapW P W).get b=some (.ro cs e):=by
 cases hg:(heapW P W).get b with
 |none=>unfold Heap.load Heap.cells at h;simp [hg] at h
 |some B=>obtain⟨cs,e,rfl⟩:=zna hg;exact⟨cs,e,rfl⟩
theorem zqc {tT tS tI tG tU:TypeId}(T:TermTypes P tT tS tI tG tU) {w:DataW H→Nat}{a:Addr}{m cap:Nat}{elems:List (DataW H × List MemPlace)}
  (hnc:elems.length≤cap) (hcm:cap≤maxLen)
  (ih:∀(cs:List Value) (d:DataW H) (ps:List MemPlace),DataW.trod enc P W 0 sp true m tT cs=some (d,ps)→∃t,RepT (heapW P W) t (cs.map (ab P W))∧7*nd t≤w d)
  (hel:∀i x,elems[i]?=some x→∃es,W.cells? 0 (a.add (i*P.cellsOf tT)) (P.cellsOf tT)=some es∧DataW.trod enc P W 0 sp true m tT es=some x) :
  ∃l a' cells,ab P W (.slice (some a) elems.length cap)=.slice (some a') l.length cap∧RepL (heapW P W) l (some a') cap cells∧7*nd.ndL l≤((elems.map (·.1)).map w).sum∧(0 < l.length→a'.spot=none∧∃cs e,(heapW P W).get a'.block=some (.ro cs e)):=by
 rw[T.cT] at hel
 have hsp:0 < elems.length→a.spot=none:=fun hn=>by
  obtain⟨es,he,_⟩:=hel 0 elems[0] (List.getElem?_eq_getElem hn)
  exact zig (by omega) he
 have key:∀i,∃t cells,(∀x,elems[i]?=some x→(heapW P W).load ⟨a.block,a.off+i*6,none⟩ 6=some cells∧RepT (heapW P W) t cells∧7*nd t≤w x.1):=fun i=>by
  by_cases hi:i < elems.length
  ·obtain⟨es,he,ht⟩:=hel i elems[i] (List.getElem?_eq_getElem hi)
   obtain⟨t,hr,hwt⟩:=ih es elems[i].1 elems[i].2 ht
   exact⟨t,_,fun x hx=>by rw[List.getElem?_eq_getElem hi] at hx;cases hx;exact⟨(zdv (by omega) he (hsp (by omega))).1,hr,hwt⟩⟩
  ·exact⟨.mk 0 ByteArray.empty ByteArray.empty 0 0 [],[],fun x hx=>absurd (List.getElem?_eq_some_iff.1 hx).1 hi⟩
 obtain⟨T',hT'⟩:=Classical.axiomOfChoice key
 obtain⟨C,hC⟩:=Classical.axiomOfChoice hT'
 have hlen:((List.range elems.length).map T').length=elems.length:=by simp
 have hsum:=zol (w:=w) elems T' fun i x hx=>(hC i x hx).2.2
 by_cases hn:0 < elems.length
 ·have hbl:a.block < W.heap.size:=by
   obtain⟨es,he,_⟩:=hel 0 elems[0] (List.getElem?_eq_getElem hn)
   exact(zdv (P:=P) (by omega) he (hsp hn)).2.2
  have hab:ab P W (.slice (some a) elems.length cap)=.slice (some a) ((List.range elems.length).map T').length cap:=by
   unfold ab
   rw[hlen]
   simp only
   rw[if_pos ⟨hnc,hcm⟩,if_pos ⟨hsp hn,hbl⟩]
  refine⟨(List.range elems.length).map T',a,C,hab,⟨by rw[hlen];exact hnc,hcm,fun h=>(by cases h),fun i ad hi ha=>?_,fun i t ht=>?_⟩,hsum,fun _=>⟨hsp hn,zqb (hC 0 _ (List.getElem?_eq_getElem hn)).1⟩⟩
  ·cases ha
   rw[hlen] at hi
   exact⟨hsp hn,(hC i _ (List.getElem?_eq_getElem hi)).1⟩
  ·rw[List.getElem?_map,Option.map_eq_some_iff] at ht
   obtain⟨j,hj,rfl⟩:=ht
   have hi:i < elems.length:=by have:=(List.getElem?_eq_some_iff.1 hj).1;simpa using this
   rw[List.getElem?_range hi] at hj
   cases hj
   exact(hC i _ (List.getElem?_eq_getElem hi)).2.1
 ·have hn0:elems.length=0:=by omega
  obtain⟨a',hab⟩:∃a',ab P W (.slice (some a) elems.length cap)=.slice (some a') 0 cap:=by
   unfold ab
   simp only
   rw[if_pos ⟨hnc,hcm⟩,hn0]
   split
   ·exact⟨_,rfl⟩
   ·exact⟨_,rfl⟩
  exact⟨[],a',fun _=>[],hab,⟨Nat.zero_le _,hcm,fun h=>(by cases h),fun i ad hi=>by simp at hi,fun i t h=>by simp at h⟩,by simp [zf0],fun h=>by simp at h⟩
theorem zsx {tT tS tI tG tU:TypeId}(T:TermTypes P tT tS tI tG tU) {w:DataW H→Nat}(hw:Wt w):∀(fuel:Nat) (cs:List Value) (d:DataW H) (ps:List MemPlace),DataW.trod enc P W 0 sp true fuel tT cs=some (d,ps)→∃t,RepT (heapW P W) t (cs.map (ab P W))∧7*nd t≤w d:=by
 intro fuel
 induction fuel using Nat.strongRecOn with
 |_ fuel ih =>
 intro cs d ps h
 obtain⟨fs,hf,hfs⟩:=T.fields
 obtain⟨m,xs,rfl,hl,rfl,hall⟩:=zbj hf h
 rw[T.cT] at hl
 have fld:∀i o u,((fs.toList.map fun f=>(f.offset,f.type)))[i]?=some (o,u)→P.cellsOf u=1→∃x,xs[i]?=some x∧DataW.trod enc P W 0 sp true m u ((cs.drop o).take 1)=some x:=fun i o u hi hu=>by
  rw[List.getElem?_map,Option.map_eq_some_iff] at hi
  obtain⟨f,hf1,hf2⟩:=hi
  obtain⟨x,hx,hd⟩:=hall i f (by simpa using hf1)
  cases hf2
  rw[hu] at hd
  exact⟨x,hx,hd⟩
 rw[hfs] at fld
 obtain⟨d0,p0,t0⟩:=fld 0 0 tI rfl T.cI
 obtain⟨d1,p1,t1⟩:=fld 1 1 tG rfl T.cG
 obtain⟨d2,p2,t2⟩:=fld 2 2 tG rfl T.cG
 obtain⟨d3,p3,t3⟩:=fld 3 3 tU rfl T.cU
 obtain⟨d4,p4,t4⟩:=fld 4 4 tI rfl T.cI
 obtain⟨d5,p5,t5⟩:=fld 5 5 tS rfl T.cS
 have hbulk:6+w d5.1≤w (.agg (xs.map (·.1))):=by
  have h1:=hw.agg (xs.map (·.1))
  match xs,p0,p1,p2,p3,p4,p5,h1 with
  |x0 :: x1 :: x2 :: x3 :: x4 :: x5 :: r,p0,p1,p2,p3,p4,p5,h1 =>
   cases p5
   simp only[List.map_cons,List.sum_cons] at h1 ⊢
   have:=hw.pos x0.1;have:=hw.pos x1.1;have:=hw.pos x2.1;have:=hw.pos x3.1;have:=hw.pos x4.1
   omega
 obtain⟨k,h0,w0⟩:=zbi T.int t0
 obtain⟨s,h1,w1⟩:=z9d T.str t1
 obtain⟨u,h2,w2⟩:=z9d T.str t2
 obtain⟨b,h3,w3⟩:=zbi T.u64 t3
 obtain⟨v,h4,w4⟩:=zbi T.int t4
 have hp5:=hw.pos d5.1
 obtain⟨d5,q5⟩:=d5
 rcases zdw T.slice t5 with h5|⟨a,c,m',elems,rest,rfl,h5,hnc,hcm,rfl,hel⟩
 ·rw[zh8 hl (z4c h0) (z4c h1) (z4c h2) (z4c h3) (z4c h4) (z4c h5)]
  refine⟨.mk k s u b v [],.mk k s u b v [] none 0 (fun _=>[]) (zh7 w0) w1 w2 (zok w3) (zh7 w4) (Nat.zero_le _) (Nat.le_refl _) (Nat.zero_le _) (fun _=>⟨rfl,rfl⟩) (fun i ad hi=>by simp at hi) (fun i t ht=>by simp at ht),?_⟩
  rw[z1m,show (Tm.mk k s u b v []).args=[] from rfl,zf0]
  try simp only at hbulk
  try simp only at hp5
  omega
 ·rw[zh8 hl (z4c h0) (z4c h1) (z4c h2) (z4c h3) (z4c h4) (z4c h5)]
  obtain⟨l,a',C,hab,rl,hn,-⟩:=zqc T hnc hcm (ih m' (by omega)) hel
  simp only[List.map_cons,List.map_nil,zry,zll,hab]
  refine⟨.mk k s u b v l,.mk k s u b v l (some a') c C (zh7 w0) w1 w2 (zok w3) (zh7 w4) (Nat.le_trans rl.len hcm) rl.len hcm (fun h=>(by cases h)) rl.load rl.rep,?_⟩
  rw[z1m,show (Tm.mk k s u b v l).args=l from rfl]
  have:=hw.slice (elems.map (·.1)) rest
  try simp only at hbulk
  try simp only at hp5
  omega
end
end Go.Proofs.hq
end

section
namespace Go.Proofs.hq
open Go Go.RowKit Go.Hb
theorem zom:∀{l:List Tm}{u:Tm},u∈l→nd u≤nd.ndL l
 |t :: l,u,h=>by
  rw[zbk]
  rcases List.mem_cons.1 h with rfl|h
  ·omega
  ·have:=zom h;omega
theorem zon {n:Nat}:∀(m:Nat) (t:Tm),SizeOf.sizeOf t < m→nd t≤n→Few n t
 |0,t,h,_=>absurd h (Nat.not_lt_zero _)
 |m+1,t,h,hn=>by
  have h1:=z1m t
  have h2:=zlm t.args
  refine .mk (by omega) fun u hu=>zon m u ?_ ?_
  ·obtain⟨i,hi,rfl⟩:=List.getElem_of_mem hu
   have:=z14 (List.getElem?_eq_getElem hi)
   omega
  ·have:=zom hu;omega
end Go.Proofs.hq
end
