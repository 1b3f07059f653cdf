import Derived.Test.YtknodnndkdnjbaaDoorM3
import Derived.Test.YtknodnndkdnjbaaDoorM4
/- Lemmas on the program's own code, towards the laws of this folder, part 5. Conditions: as each lemma says. -/
open Bool renaming and_eq_true → Zi, false_eq_true → Zg, not_eq_true → Zz
open ByteArray renaming empty → Ze
open Int renaming eq_ofNat_of_zero_le → Zo, toNat_natCast → ZC
open List renaming append_assoc → ZI, foldl_cons → ZL, getElem?_append_left → ZD, getElem?_eq_getElem → Zc, getElem?_map → Zl, getElem?_take → ZH, getElem_mem → ZF, length_append → Zs, length_cons → ZJ, length_map → Zn, length_set → Zx, length_take → Zt, map_append → ZE, mem_cons_of_mem → Zj, prefix_refl → Zy, range → Zh, replicate → Zu, take_append_getElem → ZK, take_of_length_le → Zq
open Nat renaming beq → Zv, beq_eq → Zr, le_refl → Zd, le_trans → Zp, lt_of_lt_of_le → Zk, lt_succ_self → Zf, reduceAdd → Zb, reduceEqDiff → Za, reduceLeDiff → Zm, zero_le → ZA
section
namespace Go.Proofs.hq
open Go Go.RowKit Go.Hb
variable {ok:Ok}
set_option maxRecDepth 10000
attribute [local irreducible] LX LG EL STG SOP SGO SGD SAL SRD SEF SEG SLK SCK ES
open Classical in
noncomputable def layV (σ:SS) (t:Tm):SS × (Int × Int) × Int:=if checkS t≠0 then (σ,(0,0),checkS t) else if ∀v∈occ t,okV σ v then ((layS σ t).1,(layS σ t).2,0) else (σ,(0,0),133)
theorem zkx (l:List Int) (n:Int):n∈uniq l↔n∈l:=by
 have h:∀(l L:List Int),n∈l.foldl addU L↔n∈L∨n∈l:=by
  intro l
  induction l with
  |nil=>intro L;simp
  |cons m l ih =>
   intro L;rw[ZL,ih];have:n∈addU L m↔n∈L∨n=m:=by
    unfold addU;split
    ·rename_i hm;exact⟨.inl,fun h=>by rcases h with h|h;exact h;rw[h];exact hm⟩
    ·simp
   rw[this,List.mem_cons,or_assoc]
 have:=h l [];simpa [uniq] using this
theorem zfy {l:List Int}{v:Int}:v∈uniq l↔v∈l:=zkx _ _
theorem z2i {t:Tm}{cs:List Value}{b:Nat}{H:Heap}(r:RepT H t cs) (g:H.get b=some (.row cs 25)) (hw:H.wf) :
  EvF Tryd.prog okT 12 [.slice (some ⟨b,0,none⟩) 1 1] H fun v H'=>∃u,v=.tuple #[u,.int .i64 (checkS t)]∧IntL H' 3 (Rg H.next H'.next) (if checkS t=0 then uniq (occ t) else []) u∧HX H H':=by
 have rl:=RepL.one r g;have ec:chkL [t]=checkS t:=by rw[chkL];split;rename_i h;rw[h,chkL];rfl
 have eo:occL [t]=occ t:=by rw[occL,occL,List.append_nil]
 refine EvF.enter rfl Tryd.func12 (by decide) rfl ?_
 repeat' (first|refine EvC.seq ?_|(refine EvC.reg ?_;simp (config := { maxSteps := 2000000 }) (disch:=first|omega|rfl) only[sB,initTm,Za,reduceCtorEq,cl27]))
 refine(z5i rl hw).mono ?_;rintro v H2 ⟨rfl,hx2⟩;rw[ec];by_cases h0:checkS t=0
 ·have hf:=z85 h0
  repeat' (first|refine EvC.seq ?_|(refine EvC.skip ?_;try simp only[z00])|(refine EvC.reg ?_;simp (config := { maxSteps := 2000000 }) (disch:=first|omega|rfl) only[sB,Za,reduceCtorEq,cl33,z22 h0])|(refine EvC.condF ?_ ?_;simp (config := { maxSteps := 2000000 }) (disch:=first|omega|rfl) only[sB,Za,reduceCtorEq];refine z01 ?_))
  refine(z6g (rl.mono hx2 hw) (by rw[eo];unfold most;omega) hx2.wf).mono ?_;rintro v H3 ⟨hi,hx3⟩;rw[eo] at hi
  repeat' (first|(refine EvC.ret ?_))
  refine z0t rfl (by simp only[sB,Za,reduceCtorEq];rfl) (by simp only[sB,Za,reduceCtorEq];rfl) ⟨v,by rw[h0],?_,hx2.trans hx3⟩;rw[if_pos h0];rcases hi with h|⟨b,c',h1,h2,h3,h4,h5⟩
  ·exact .inl h
  ·exact .inr ⟨b,c',h1,h2,h3,h4,by have:=hx2.next;exact⟨by have:=h5.1;omega,h5.2⟩⟩
 ·repeat' (first|refine EvC.seq ?_|(refine EvC.ret ?_;try simp only[z05,z04])|(refine EvC.reg ?_;simp (config := { maxSteps := 2000000 }) (disch:=first|omega|rfl) only[sB,Za,reduceCtorEq,z3r h0])|(refine EvC.condT ?_ ?_;simp (config := { maxSteps := 2000000 }) (disch:=first|omega|rfl) only[sB,Za,reduceCtorEq];refine z01 ?_))
  exact z0t rfl (by simp only[sB,Za,reduceCtorEq];rfl) (by simp only[sG,Za,reduceCtorEq]) ⟨_,rfl,by rw[if_neg h0];exact .inl ⟨rfl,rfl⟩,hx2⟩
end Go.Proofs.hq
end

section
namespace Go.Hb
open Go Go.RowKit
theorem FL.inv {H:Heap}{T:TypeId}{S:Nat→Prop}{l:List Tm}{a:Option Addr}{c:Nat}(h:FL H T S l a c):(l=[]∧a=none∧c=0)∨∃b cells Si ai ci,a=some ⟨b,0,none⟩∧l.length≤c∧c≤maxLen ∧
  H.get b=some (.row cells T)∧l.length*6≤cells.length∧S b∧(∀i,i < l.length→¬Si i b)∧FLs H T S l cells Si ai ci:=by
 cases h with
 |nil=>exact .inl ⟨rfl,rfl,rfl⟩
 |row _ _ b c cells Si ai ci h1 h2 h3 h4 h5 h6 h7 h8 h9 h10 h11=>exact .inr ⟨b,cells,Si,ai,ci,rfl,h1,h2,h3,h4,h7,h8,⟨h5,h6,h9,h10,h11⟩⟩
end Go.Hb
namespace Go.Proofs.hq
open Go Go.RowKit Go.Hb
variable {ok:Ok}
set_option maxRecDepth 10000
attribute [local irreducible] LX LG EL STG SOP SGO SGD SAL SRD SEF SEG SLK SCK ES
abbrev mark6 (k:Int) (s:ByteArray):List Value:=[.int .i64 k,.string s,.string Ze,.int .u64 0,.int .i64 0,.slice none 0 0]
end Go.Proofs.hq
end

section
namespace Go.Proofs.hq
open Go Go.RowKit Go.Hb
variable {ok:Ok}
set_option maxRecDepth 10000
attribute [local irreducible] LX LG EL STG SOP SGO SGD SAL SRD SEF SEG SLK SCK ES
noncomputable def eqT (t t':Tm):Bool:=@decide (t=t') (Classical.propDecidable _)
theorem zrb {t t':Tm}(h:t=t'):eqT t t'=true:=by unfold eqT;exact @decide_eq_true _ (Classical.propDecidable _) h
theorem zs0 {t t':Tm}(h:t≠t'):eqT t t'=false:=by unfold eqT;exact @decide_eq_false _ (Classical.propDecidable _) h
end Go.Proofs.hq
end

section
namespace Go.Hb
open Go Go.RowKit
def ApV (S:Nat→Prop) (H0 H:Heap) (T:TypeId) (v:Value) (n:Nat):Prop :=
 (n=0∧v=.slice none 0 0)∨∃b cells c,v=.slice (some ⟨b,0,none⟩) n c∧H.get b=some (.row cells T)∧n*6≤cells.length∧(cells.take (n*6)).all one=true∧(S b∨H0.next≤b)
theorem ApV.push {P:Program}{T t:TypeId}(hp:apOk P t T 6) {S:Nat→Prop}{H0 H:Heap}{v:Value}{n c1:Nat}{ad:Addr}{cs:List Value}(h:ApV S H0 H T v n) (hk:HK S H0 H) (hl:H.load ad (1*6)=some cs) (hc:cs.all one=true) (hlc:cs.length=6) (hm:n+1≤most) :
  ∃H2 v2,dAp P #[t,t] v (.slice (some ad) 1 c1) H=some (.val v2 H2)∧ApV S H0 H2 T v2 (n+1)∧HK S H0 H2:=by
 rcases h with ⟨rfl,rfl⟩|⟨b,cells,c,rfl,hg,hn,ho,hb⟩
 ·refine⟨_,_,z5z hp (by omega) hm hl hc,.inr ⟨H.next,cs,1,rfl,z0u,by omega,?_,.inr hk.next⟩,hk.new _⟩;rw[Zq (by omega)];exact hc
 ·refine⟨_,_,z4n hp (by omega) hm hl hc hg hn ho,.inr ⟨H.next,_,_,rfl,z0u,?_,?_,.inr hk.next⟩,(hk.put hb (hk.wf _ _ hg) none).new _⟩
  ·simp;omega
  ·rw[Zq (by simp;omega),List.all_append,ho,hc];rfl
end Go.Hb
namespace Go.Proofs.hq
open Go Go.RowKit Go.Hb
variable {ok:Ok}
set_option maxRecDepth 10000
attribute [local irreducible] LX LG EL STG SOP SGO SGD SAL SRD SEF SEG SLK SCK ES
noncomputable def eqL (l l':List Tm):Bool:=@decide (l=l') (Classical.propDecidable _)
end Go.Proofs.hq
end

section
namespace Go.Hb
open Go Go.RowKit
section
variable {P:Program}{ok:Ok}{x:Ctx}
theorem EvR.go {l:Nat}{args:List Value}{H:Heap}{K:Value→Heap→Prop}{fn:FuncId}{tm:Tr Value}{ps:List Tmp}{aa bo:Code}{dd:Nat}(hg:H.get l=some (.loop .ready none fn tm ps aa bo dd)) (hl:args.length=ps.length)
  (h:EvC P ok ⟨fn,some l⟩ aa ⟨(ps.zip args).foldl (fun t p=>t.put p.1 (some p.2)) tm,[],H⟩ fun e st1=>e=.normal∧st1.H.get l=some (.loop .ready none fn tm ps aa bo dd) ∧
   EvC P ok ⟨fn,some l⟩ bo ⟨st1.tm,st1.ds,st1.H.put l (some (.loop .busy none fn tm ps aa bo dd))⟩ fun e st2=>e=.normal∧st2.H.get l=some (.loop .busy none fn tm ps aa bo dd) ∧
    K (.bool true) (st2.H.put l (some (.loop .ready none fn tm ps aa bo dd)))):EvR P ok l args H K:=by
 obtain⟨N,⟨e,st1⟩,h1,he,hg1,N2,⟨e2,st2⟩,h2,he2,hg2,hk⟩:=h;simp only at he he2;subst he he2;refine⟨max N N2+1,(.bool true,st2.H.put l (some (.loop .ready none fn tm ps aa bo dd))),fun n hn=>?_,hk⟩;obtain⟨m,rfl⟩:∃m,n=m+1:=⟨n - 1,by omega⟩
 have c1:=h1 m (by omega);have c2:=h2 m (by omega);have hb:Zv args.length ps.length=true:=by rw[Zr];exact hl
 simp only at hg1 hg2 c2;show dround P ok (m+1) l args H=_;rw[dround];simp only[hg,hb,if_true,c1,hg1,c2,dendRound,hg2]
theorem EvR.mono {l:Nat}{args:List Value}{H:Heap}{K L:Value→Heap→Prop}(h:EvR P ok l args H K) (k:∀v H',K v H'→L v H'):EvR P ok l args H L:=Upon.mono h fun _ hq=>k _ _ hq
end
end Go.Hb
end

section
namespace Go.Hb
open Go Go.RowKit
theorem StR.from {P:Program}{H:Heap}{B s:Nat}{T:TypeId}{F:List Fld}{V:List Value}(h:StR H B s T F V) {i n c m w:Nat}{a:Option Addr}{t e:TypeId}{L:List (List Value)}(hF:F[i]?=some (.sl e w L)) (hV:V[i]?=some (.slice a n c)) (hs:slcOk P t e w) (hm:m≤L.length) {G:Heap}(hG:∀b,a=some ⟨b,0,none⟩→G.get b=H.get b) :
  ∃a' c',dSl P t (.slice a n c) (some (.int .i64 (m:Int))) none none G=some (.val (.slice a' (L.length - m) c') G)∧L.length - m≤maxLen∧∀(k:Nat) x,L[m+k]?=some x→∃b,a=some ⟨b,0,none⟩∧a'=some ⟨b,m*w,none⟩:=by
 obtain⟨a0,c0,e0,hlc,hcm⟩:=h.sl hF hV;cases e0;obtain⟨h1,h2,h3⟩:=id hs;obtain⟨info,hi⟩:=Option.isSome_iff_exists.1 h2;by_cases m0:m=0
 ·subst m0;refine⟨a,c,?_,by omega,fun k x hx=>?_⟩
  ·have eb:Zv 0 0=true:=rfl;simp only[dSl,dslice,h1,hi,bound,z0z (ZA L.length),eb,if_true,Nat.sub_zero]
  ·obtain⟨b,rfl,-,-⟩:=h.el hF hV hx;exact⟨b,rfl,by rw[Nat.zero_mul]⟩
 ·have e0:Zv m 0=false:=by rw[←Zz,Zr];omega
  by_cases mc:m=c
  ·refine⟨some ⟨0,0,some 0⟩,0,?_,by omega,fun k x hx=>?_⟩
   ·have e1:Zv m c=true:=by rw[Zr];exact mc
    have e2:L.length - m=0:=by omega
    simp only[dSl,dslice,h1,hi,bound,z0z hm,e0,e1,e2,Zg,if_false,if_true]
   ·have:=(List.getElem?_eq_some_iff.1 hx).1;omega
  ·rcases h.fld i _ _ hF hV with ⟨q1,q2⟩|⟨b,c',q,e⟩
   ·rw[q1] at hm;simp at hm;omega
   ·cases e;obtain⟨cs,hg,-⟩:=q.row;refine⟨some ⟨b,0+m*w,none⟩,c - m,zqf hs hm (by omega) (by omega) ((hG b rfl).trans hg) (.inl ⟨cs,rfl⟩),by omega,fun k x hx=>⟨b,rfl,by rw[Nat.zero_add]⟩⟩
end Go.Hb
namespace Go.Proofs.hq
open Go Go.RowKit Go.Hb
variable {ok:Ok}
set_option maxRecDepth 10000
attribute [local irreducible] LX LG EL STG SOP SGO SGD SAL SRD SEF SEG SLK SCK ES
end Go.Proofs.hq
end

section
namespace Go.Proofs.hq
open Go Go.RowKit Go.Hb
variable {ok:Ok}
set_option maxRecDepth 10000
attribute [local irreducible] LX LG EL STG SOP SGO SGD SAL SRD SEF SEG SLK SCK ES
def undo1 (x:Int × Int) (σ:SS):SS:=if x.1=0 then { σ with cells:=σ.cells.set (gi σ.vars x.2).toNat (1,x.2) } else { σ with flags:=σ.flags.set x.2.toNat false }
def undoL (σ:SS) (L:List (Int × Int)):SS:=L.foldr undo1 σ
def TrOk (σ:SS) (x:Int × Int):Prop:=(x.1=0∨x.1=1)∧∃n k:Nat,x.2=n∧n < σ.vars.length∧gi σ.vars n=k∧k < σ.cells.length
theorem _root_.Go.Hb.StR.box {H:Heap}{B s n:Nat}{T:TypeId}{F:List Fld}{V:List Value}(h:StR H B s T F V) (hw:H.wf) (hl:n < H.next) (hm:¬Mut H s n) (D:Option Blk):StR (H.put n D) B s T F V :=
 (h.beside hw ((HK.refl (S:=fun k=>k=n) hw).put (.inl rfl) hl D) fun k e=>e ▸ hm).1
theorem zhp (x:Int × Int) (σ:SS):(undo1 x σ).vars=σ.vars∧(undo1 x σ).own=σ.own∧(undo1 x σ).consts=σ.consts∧(undo1 x σ).funs=σ.funs∧(undo1 x σ).trail=σ.trail∧(undo1 x σ).marks=σ.marks∧(undo1 x σ).cells.length=σ.cells.length∧(undo1 x σ).flags.length=σ.flags.length:=by
 unfold undo1;split
 ·exact⟨rfl,rfl,rfl,rfl,rfl,rfl,by simp,rfl⟩
 ·exact⟨rfl,rfl,rfl,rfl,rfl,rfl,rfl,by simp⟩
theorem z47 (σ:SS):∀L:List (Int × Int),(undoL σ L).vars=σ.vars∧(undoL σ L).own=σ.own∧(undoL σ L).consts=σ.consts∧(undoL σ L).funs=σ.funs∧(undoL σ L).trail=σ.trail∧(undoL σ L).marks=σ.marks∧(undoL σ L).cells.length=σ.cells.length∧(undoL σ L).flags.length=σ.flags.length
 |[]=>⟨rfl,rfl,rfl,rfl,rfl,rfl,rfl,rfl⟩
 |x :: L=>by
  have h:=z47 σ L;have k:=zhp x (undoL σ L);show (undo1 x (undoL σ L)).vars=_∧_;exact⟨k.1.trans h.1,k.2.1.trans h.2.1,k.2.2.1.trans h.2.2.1,k.2.2.2.1.trans h.2.2.2.1,k.2.2.2.2.1.trans h.2.2.2.2.1,k.2.2.2.2.2.1.trans h.2.2.2.2.2.1,k.2.2.2.2.2.2.1.trans h.2.2.2.2.2.2.1,k.2.2.2.2.2.2.2.trans h.2.2.2.2.2.2.2⟩
def undoS (σ:SS) (n mt mc mv:Nat):SS :=
 { undoL σ (σ.trail.drop mt) with trail:=σ.trail.take mt,cells:=(undoL σ (σ.trail.drop mt)).cells.take mc,own:=σ.own.take mc,vars:=σ.vars.take mv,flags:=(undoL σ (σ.trail.drop mt)).flags.take mv,marks:=σ.marks.take (n+1) }
end Go.Proofs.hq
end

section
namespace Go.Proofs.hq
open Go Go.RowKit Go.Hb
structure Grow (σ τ:SS):Prop where
 cells:σ.cells <+: τ.cells
 own:σ.own <+: τ.own
 vars:σ.vars <+: τ.vars
 flags:σ.flags <+: τ.flags
 consts:σ.consts <+: τ.consts
 funs:σ.funs <+: τ.funs
theorem Grow.refl (σ:SS):Grow σ σ:=⟨Zy _,Zy _,Zy _,Zy _,Zy _,Zy _⟩
theorem Grow.trans {a b c:SS}(h:Grow a b) (k:Grow b c):Grow a c:=⟨h.cells.trans k.cells,h.own.trans k.own,h.vars.trans k.vars,h.flags.trans k.flags,h.consts.trans k.consts,h.funs.trans k.funs⟩
theorem z2d {l m:List Int}(h:l <+: m) {n:Nat}(hn:n < l.length):gi m n=gi l n:=by
 obtain⟨t,rfl⟩:=h;unfold gi;rw[ZC,ZD hn]
theorem z4e {l m:List (Int × Int)}(h:l <+: m) {n:Nat}(hn:n < l.length):ci m n=ci l n:=by
 obtain⟨t,rfl⟩:=h;unfold ci;rw[ZC,ZD hn]
theorem z5p {l:List (Int × Int)}{k n:Nat}{c:Int × Int}(hk:k < l.length):ci (l.set k c) n=if n=k then c else ci l n:=by
 unfold ci;rw[ZC,List.getElem?_set];by_cases h:k=n
 ·subst h;rw[if_pos rfl,if_pos hk,if_pos rfl];rfl
 ·rw[if_neg h,if_neg (fun e=>h e.symm)]
theorem z2s {σ:SS}{c:Int × Int}:mayS σ c=true↔(c.1=3∧0≤c.2∧c.2 < σ.consts.length)∨(c.1=2∧0≤c.2∧c.2 < σ.cells.length∧0≤gi σ.own c.2)∨(c.1=4∧0≤c.2∧c.2 < σ.cells.length∧gi σ.own c.2 < 0∧gi σ.own c.2≠-2):=by
 unfold mayS;split
 ·rename_i h;rw[decide_eq_true_iff];constructor
  ·intro q;exact .inl ⟨h,q⟩
  ·rintro (q|q|q)
   ·exact q.2
   ·omega
   ·omega
 ·rename_i h;split
  ·rename_i h24;rw[decide_eq_true_iff];constructor
   ·rintro ⟨⟨q1,q2⟩,q3,q4⟩;rcases h24 with h2|h4
    ·exact .inr (.inl ⟨h2,q1,q2,q3.1 h2⟩)
    ·exact .inr (.inr ⟨h4,q1,q2,by by_cases q:0≤gi σ.own c.2;exact absurd (q3.2 q) (by omega);omega,q4⟩)
   ·rintro (q|q|q)
    ·omega
    ·exact⟨⟨q.2.1,q.2.2.1⟩,⟨fun _=>q.2.2.2,fun _=>q.1⟩,by have:=q.2.2.2;omega⟩
    ·exact⟨⟨q.2.1,q.2.2.1⟩,⟨fun h2=>by omega,fun h2=>by omega⟩,q.2.2.2.2⟩
  ·rename_i h24;constructor
   ·intro q;cases q
   ·rintro (q|q|q)<;>omega
inductive CellOk (U:Nat→Prop) (σ:SS) (a:Nat):Prop
 |var (v:Nat):gi σ.own a=v→v < σ.vars.length→gi σ.vars v=a→(ci σ.cells a=(1,(v:Int))∨((ci σ.cells a).1≠1∧mayS σ (ci σ.cells a)=true))→CellOk U σ a
 |fn (f:Nat):gi σ.own a=-1→ci σ.cells a=(5,(f:Int))→(hf:f < σ.funs.length)→0≤σ.funs[f].2→σ.funs[f].2≤1000→(∀i:Nat,(i:Int) < σ.funs[f].2→a+1+i < σ.cells.length∧gi σ.own ((a+1+i:Nat):Int)=-2)→CellOk U σ a
 |arg:gi σ.own a=-2→(mayS σ (ci σ.cells a)=true∨U a)→CellOk U σ a
structure WF (U:Nat→Prop) (σ:SS):Prop where
 lo:σ.own.length=σ.cells.length
 lf:σ.flags.length=σ.vars.length
 var:∀n:Nat,n < σ.vars.length→∃k:Nat,gi σ.vars n=k∧k < σ.cells.length∧gi σ.own k=n
 cell:∀a:Nat,a < σ.cells.length→CellOk U σ a
 der:∀c,mayS σ c=true→∃m d,Der σ.cells m c d
 con:∀t∈σ.consts,Bd t∧t.args=[]
 fn:∀k∈σ.funs,k.1.size≤maxLen
theorem z6o {σ τ:SS}(g:Grow σ τ) (lo:σ.own.length=σ.cells.length) {c:Int × Int}(h:mayS σ c=true):mayS τ c=true:=by
 rw[z2s] at h ⊢;have h1:=g.consts.length_le;have h2:=g.cells.length_le;rcases h with ⟨a,b,d⟩|⟨a,b,d,e⟩|⟨a,b,d,e,f⟩
 ·exact .inl ⟨a,b,by omega⟩
 ·obtain⟨n,en⟩:=Zo b;rw[en] at d e ⊢;rw[z2d g.own (by omega)];exact .inr (.inl ⟨a,by omega,by omega,e⟩)
 ·obtain⟨n,en⟩:=Zo b;rw[en] at d e f ⊢;rw[z2d g.own (by omega)];exact .inr (.inr ⟨a,by omega,by omega,e,f⟩)
theorem WF.next {U:Nat→Prop}{σ:SS}(h:WF U σ) {c:Int × Int}(hm:mayS σ c=true) (h2:c.1=2):∃n:Nat,c.2=n∧n < σ.cells.length∧0≤gi σ.own n∧((ci σ.cells n).1≠1→mayS σ (ci σ.cells n)=true):=by
 rw[z2s] at hm;rcases hm with q|⟨-,b,d,e⟩|q
 ·omega
 ·obtain⟨n,en⟩:=Zo b;rw[en] at d e;refine⟨n,en,by omega,e,fun h1=>?_⟩;cases h.cell n (by omega) with
  |var v _ _ _ q=>rcases q with q|q;rw[q] at h1;exact absurd rfl h1;exact q.2
  |fn f q=>omega
  |arg q=>omega
 ·omega
theorem WF.derc {U:Nat→Prop}{σ:SS}(h:WF U σ) {cells':List (Int × Int)}(hl:σ.cells.length≤cells'.length) (he:∀n:Nat,n < σ.cells.length→0≤gi σ.own n→ci cells' n=ci σ.cells n):∀{m:Nat}{c d:Int × Int},Der σ.cells m c d→mayS σ c=true→Der cells' m c d:=by
 intro m c d hd
 induction hd with
 |stop h1=>intro _;exact .stop h1
 |var h1 h2 h3 h4 =>
  intro hm;obtain⟨n,en,hn,ho,-⟩:=h.next hm h1;refine .var h1 h2 (by omega) ?_;rw[en] at h4 ⊢;rw[he n hn ho];exact h4
 |go h1 h2 h3 h4 _ ih =>
  intro hm;obtain⟨n,en,hn,ho,hnx⟩:=h.next hm h1;rw[en] at h4 ih;refine .go h1 h2 (by omega) ?_ ?_
  ·rw[en,he n hn ho];exact h4
  ·rw[en,he n hn ho];exact ih (hnx h4)
theorem WF.dmay {U:Nat→Prop}{σ:SS}(h:WF U σ):∀{m:Nat}{c d:Int × Int},Der σ.cells m c d→mayS σ c=true→mayS σ d=true∧(d.1=2→(ci σ.cells d.2).1=1):=by
 intro m c d hd
 induction hd with
 |stop h1=>intro hm;exact⟨hm,fun q=>absurd q h1⟩
 |var h1 h2 h3 h4=>intro hm;exact⟨hm,fun _=>h4⟩
 |go h1 h2 h3 h4 _ ih =>
  intro hm;obtain⟨n,en,hn,ho,hnx⟩:=h.next hm h1;rw[en] at h4 ih;exact ih (hnx h4)
theorem WF.grow {U U':Nat→Prop}{σ τ:SS}(h:WF U σ) (g:Grow σ τ) (lo:τ.own.length=τ.cells.length) (lf:τ.flags.length=τ.vars.length) (hu:∀a,a < σ.cells.length→U a→U' a)
  (hv:∀n:Nat,σ.vars.length≤n→n < τ.vars.length→∃k:Nat,gi τ.vars n=k∧k < τ.cells.length∧gi τ.own k=n) (hc:∀a:Nat,σ.cells.length≤a→a < τ.cells.length→CellOk U' τ a)
  (hd:∀n:Nat,σ.cells.length≤n→n < τ.cells.length→0≤gi τ.own n→(ci τ.cells n).1=1) (con:∀t∈τ.consts,Bd t∧t.args=[]) (fn:∀k∈τ.funs,k.1.size≤maxLen):WF U' τ:=by
 have hcl:=g.cells.length_le;have hvl:=g.vars.length_le;refine⟨lo,lf,fun n hn=>?_,fun a ha=>?_,fun c hm=>?_,con,fn⟩
 ·by_cases q:n < σ.vars.length
  ·obtain⟨k,h1,h2,h3⟩:=h.var n q;exact⟨k,by rw[z2d g.vars q];exact h1,by omega,by rw[z2d g.own (by have:=h.lo;omega)];exact h3⟩
  ·exact hv n (by omega) hn
 ·by_cases q:a < σ.cells.length
  ·have e1:=z4e g.cells q;have e2:=z2d g.own (show a < σ.own.length by have:=h.lo;omega);cases h.cell a q with
   |var v h1 h2 h3 h4=>exact .var v (e2.trans h1) (by omega) (by rw[z2d g.vars h2];exact h3) (by rw[e1];rcases h4 with h4|h4;exact .inl h4;exact .inr ⟨h4.1,z6o g h.lo h4.2⟩)
   |fn f h1 h2 hf h4 h5 h6 =>
    have hfl:=g.funs.length_le;have ef:τ.funs[f]'(by omega)=σ.funs[f]:=by
     obtain⟨t,ht⟩:=g.funs;simp only[←ht];rw[List.getElem_append_left hf]
    refine .fn f (e2.trans h1) (e1.trans h2) (by omega) (by rw[ef];exact h4) (by rw[ef];exact h5) fun i hi=>?_
    rw[ef] at hi;have:=h6 i hi;exact⟨by omega,by rw[z2d g.own (by have:=h.lo;omega)];exact this.2⟩
   |arg h1 h2=>exact .arg (e2.trans h1) (by rw[e1];rcases h2 with h2|h2;exact .inl (z6o g h.lo h2);exact .inr (hu a q h2))
  ·exact hc a (by omega) ha
 ·by_cases h2:c.1=2
  ·have hm':=hm;rw[z2s] at hm';rcases hm' with q|⟨-,b,d,e⟩|q
   ·omega
   ·obtain⟨n,en⟩:=Zo b;rw[en] at d e;by_cases q:n < σ.cells.length
    ·have hσ:mayS σ c=true:=by
      rw[z2s];refine .inr (.inl ⟨h2,b,by omega,?_⟩);rw[en,←z2d g.own (show n < σ.own.length by have:=h.lo;omega)];exact e
     obtain⟨m,d',hd'⟩:=h.der c hσ;exact⟨m,d',h.derc hcl (fun k hk _=>z4e g.cells hk) hd' hσ⟩
    ·exact⟨0,c,.var h2 b (by omega) (by rw[en];exact hd n (by omega) (by omega) e)⟩
   ·omega
  ·exact⟨0,c,.stop h2⟩
end Go.Proofs.hq
end

section
namespace Go.Proofs.hq
open Go Go.RowKit Go.Hb
def makeS (σ:SS):SS:={ σ with vars:=σ.vars++[(σ.cells.length:Int)],flags:=σ.flags++[false],cells:=σ.cells++[(1,(σ.vars.length:Int))],own:=σ.own++[(σ.vars.length:Int)] }
theorem z9a {l:List Int}{x:Int}{m:List Int}:gi (l++x :: m) (l.length:Nat)=x:=by
 unfold gi;rw[ZC,List.getElem?_append_right (Zd _),Nat.sub_self];rfl
theorem zca {l:List (Int × Int)}{x:Int × Int}{m:List (Int × Int)}:ci (l++x :: m) (l.length:Nat)=x:=by
 unfold ci;rw[ZC,List.getElem?_append_right (Zd _),Nat.sub_self];rfl
theorem z5q (σ:SS):Grow σ (makeS σ):=⟨List.prefix_append _ _,List.prefix_append _ _,List.prefix_append _ _,List.prefix_append _ _,Zy _,Zy _⟩
theorem zdt {U:Nat→Prop}{σ:SS}(h:WF U σ):WF U (makeS σ):=by
 have hlo:=h.lo;have e1:gi (makeS σ).vars (σ.vars.length:Nat)=(σ.cells.length:Nat):=z9a;have e2:gi (makeS σ).own (σ.cells.length:Nat)=(σ.vars.length:Nat):=by rw[←hlo];exact z9a
 have e3:ci (makeS σ).cells (σ.cells.length:Nat)=(1,((σ.vars.length:Nat):Int)):=zca;have l1:(makeS σ).cells.length=σ.cells.length+1:=by simp [makeS]
 have l2:(makeS σ).vars.length=σ.vars.length+1:=by simp [makeS]
 refine h.grow (z5q σ) (by simp [makeS,hlo]) (by simp [makeS,h.lf]) (fun _ _ q=>q) (fun n h1 h2=>?_) (fun a h1 h2=>?_) (fun n h1 h2 _=>?_) h.con h.fn
 ·obtain rfl:n=σ.vars.length:=by omega
  exact⟨σ.cells.length,e1,by omega,e2⟩
 ·obtain rfl:a=σ.cells.length:=by omega
  exact .var σ.vars.length e2 (by omega) e1 (.inl e3)
 ·obtain rfl:n=σ.cells.length:=by omega
  rw[e3]
inductive BdA:Tm→Prop
 |mk {t:Tm}:Bd t→(∀u∈t.args,BdA u)→BdA t
theorem BdA.bd {t:Tm}(h:BdA t):Bd t:=by cases h;assumption
theorem BdA.args {t:Tm}(h:BdA t):∀u∈t.args,BdA u:=by cases h;assumption
theorem zfz {H:Heap}:∀(m:Nat) {t:Tm}{cs:List Value},SizeOf.sizeOf t < m→RepT H t cs→BdA t
 |0,_,_,h,_=>by omega
 |m+1,t,cs,h,r=>by
  refine .mk r.bd fun u hu=>?_
  obtain⟨a,c,cells,rfl,-,-,-,-,-,rl⟩:=r.six;obtain⟨i,hi,rfl⟩:=List.getElem_of_mem hu;obtain⟨b,o,a1,c1,-,-,hr⟩:=rl.el hi;exact zfz m (by have:=z0e hu;omega) hr
theorem z86 (σ:SS) (t:Tm):Grow σ (atomicS σ t).1:=by
 unfold atomicS;split
 ·exact Grow.refl σ
 ·exact⟨Zy _,Zy _,Zy _,Zy _,List.prefix_append _ _,Zy _⟩
theorem zhq (σ:SS) (t:Tm):(atomicS σ t).2 < (atomicS σ t).1.consts.length:=by
 unfold atomicS;split
 ·rename_i j hj;exact(List.findIdx?_eq_some_iff_getElem.1 hj).1
 ·simp
theorem zcb (σ:SS) (k:ByteArray × Int):Grow σ (functorS σ k).1:=by
 unfold functorS;split
 ·exact Grow.refl σ
 ·exact⟨Zy _,Zy _,Zy _,Zy _,Zy _,List.prefix_append _ _⟩
theorem zdu (σ:SS) (k:ByteArray × Int):∃h:(functorS σ k).2 < (functorS σ k).1.funs.length,(functorS σ k).1.funs[(functorS σ k).2].2=k.2:=by
 unfold functorS;split
 ·rename_i j hj;obtain⟨h1,h2,-⟩:=List.findIdx?_eq_some_iff_getElem.1 hj;refine⟨h1,?_⟩;unfold eqFun at h2;rw[Zi] at h2;exact(eq_of_beq h2.2).symm
 ·exact⟨by simp,by simp⟩
theorem zhr {σ:SS}{k:ByteArray × Int}(h:∀k∈σ.funs,k.1.size≤maxLen) (hk:k.1.size≤maxLen):∀k'∈(functorS σ k).1.funs,k'.1.size≤maxLen:=by
 unfold functorS;split
 ·exact h
 ·intro k' hk';rcases List.mem_append.1 hk' with q|q
  ·exact h _ q
  ·rw[List.mem_singleton] at q;rw[q];exact hk
theorem zhs {σ:SS}{t:Tm}(h:∀t∈σ.consts,Bd t∧t.args=[]) (hb:Bd t) (ha:t.args=[]):∀u∈(atomicS σ t).1.consts,Bd u∧u.args=[]:=by
 unfold atomicS;split
 ·exact h
 ·intro u hu;rcases List.mem_append.1 hu with q|q
  ·exact h _ q
  ·rw[List.mem_singleton] at q;rw[q];exact⟨hb,ha⟩
theorem WF.atomic {U:Nat→Prop}{σ:SS}{t:Tm}(h:WF U σ) (hb:Bd t) (ha:t.args=[]):WF U (atomicS σ t).1:=by
 have hs:=z6i σ t;refine h.grow (z86 σ t) ?_ ?_ (fun _ _ q=>q) (fun n h1 h2=>?_) (fun a h1 h2=>?_) (fun n h1 h2 _=>?_) (zhs h.con hb ha) ?_
 ·rw[hs.2.2.1,hs.2.2.2.1];exact h.lo
 ·rw[hs.1,hs.2.1];exact h.lf
 ·rw[hs.1] at h2;omega
 ·rw[hs.2.2.1] at h2;omega
 ·rw[hs.2.2.1] at h2;omega
 ·rw[hs.2.2.2.2.1];exact h.fn
theorem zky {l:List Int}{x:Int}{n i:Nat}(hi:i < n):gi (l++[x]++Zu n (-2)) ((l.length+1+i:Nat):Int)=-2:=by
 unfold gi;rw[ZC,List.getElem?_append_right (by simp)];simp only[Zs,List.length_singleton];rw[show l.length+1+i - (l.length+1)=i by omega,List.getElem?_replicate,if_pos hi];rfl
theorem z87 (σ:SS) (k:ByteArray × Int) (n:Nat):Grow σ (layH σ k n):=by
 have g:=zcb σ k;have hs:=z2h σ k;refine⟨?_,?_,?_,?_,?_,g.funs⟩
 ·exact⟨[(5,((functorS σ k).2:Int))]++Zu n (0,0),by simp [layH]⟩
 ·exact⟨[-1]++Zu n (-2),by simp [layH]⟩
 ·exact g.vars
 ·exact g.flags
 ·exact g.consts
theorem zkz {U:Nat→Prop}{σ:SS}{nm:ByteArray}{n:Nat}(h:WF U σ) (hn:n≤64) (hnm:nm.size≤maxLen):WF (fun a=>U a∨(σ.cells.length+1≤a∧a < σ.cells.length+1+n)) (layH σ (nm,(n:Int)) n):=by
 have hs:=z2h σ (nm,(n:Int));have hg:=zbz σ (nm,(n:Int)) n;have hlo:=h.lo;have e1:gi (layH σ (nm,(n:Int)) n).own (σ.cells.length:Nat)=-1:=by rw[←hlo];show gi (σ.own++[-1]++Zu n (-2)) _=_;rw[ZI];exact z9a
 have e2:ci (layH σ (nm,(n:Int)) n).cells (σ.cells.length:Nat)=(5,((functorS σ (nm,(n:Int))).2:Int)):=by show ci (σ.cells++[_]++Zu n (0,0)) _=_;rw[ZI];exact zca
 have e3:∀i,i < n→gi (layH σ (nm,(n:Int)) n).own ((σ.cells.length+1+i:Nat):Int)=-2:=fun i hi=>by rw[←hlo];exact zky hi
 obtain⟨hfn,hfa⟩:=zdu σ (nm,(n:Int));refine h.grow (z87 σ _ n) (by rw[hg.2.2.2.2.1,hg.2.2.2.2.2.1,hlo]) (by rw[hg.1,hg.2.1];exact h.lf) (fun a _ q=>.inl q) (fun m h1 h2=>by rw[hg.1] at h2;omega) (fun a h1 h2=>?_) (fun m h1 h2 h3=>?_) (by rw[hg.2.2.2.2.2.2.1];exact h.con) (zhr h.fn hnm)
 ·rw[hg.2.2.2.2.1] at h2;by_cases q:a=σ.cells.length
  ·subst q;refine .fn (functorS σ (nm,(n:Int))).2 e1 e2 hfn ?_ ?_ fun i hi=>?_
   ·show 0≤((functorS σ (nm,(n:Int))).1.funs[(functorS σ (nm,(n:Int))).2]'hfn).2;rw[hfa];show (0:Int)≤(n:Int);omega
   ·show ((functorS σ (nm,(n:Int))).1.funs[(functorS σ (nm,(n:Int))).2]'hfn).2≤1000;rw[hfa];show (n:Int)≤1000;omega
   ·have hi':(i:Int) < ((functorS σ (nm,(n:Int))).1.funs[(functorS σ (nm,(n:Int))).2]'hfn).2:=hi;rw[hfa] at hi';have hi2:(i:Int) < (n:Int):=hi';exact⟨by rw[hg.2.2.2.2.1];omega,e3 i (by omega)⟩
  ·obtain⟨i,rfl⟩:∃i,a=σ.cells.length+1+i:=⟨a - (σ.cells.length+1),by omega⟩
   exact .arg (e3 i (by omega)) (.inr (.inr ⟨by omega,by omega⟩))
 ·rw[hg.2.2.2.2.1] at h2;by_cases q:m=σ.cells.length
  ·subst q;rw[e1] at h3;omega
  ·obtain⟨i,rfl⟩:∃i,m=σ.cells.length+1+i:=⟨m - (σ.cells.length+1),by omega⟩
   rw[e3 i (by omega)] at h3;omega
theorem WF.fill {U U':Nat→Prop}{σ:SS}{a:Nat}{c:Int × Int}(h:WF U σ) (ha:a < σ.cells.length) (ho:gi σ.own a=-2) (hm:mayS σ c=true) (hu:∀b,b≠a→U b→U' b):WF U' { σ with cells:=σ.cells.set a c }:=by
 have hmay:∀x,mayS { σ with cells:=σ.cells.set a c } x=mayS σ x:=fun x=>by
  unfold mayS;simp only[Zx]
 have hci:∀b:Nat,b≠a→ci (σ.cells.set a c) b=ci σ.cells b:=fun b hb=>by rw[z5p ha,if_neg hb]
 refine⟨by simp only[Zx];exact h.lo,h.lf,fun n hn=>?_,fun b hb=>?_,fun x hx=>?_,h.con,h.fn⟩
 ·obtain⟨k,h1,h2,h3⟩:=h.var n hn;exact⟨k,h1,by simp only[Zx];exact h2,h3⟩
 ·simp only[Zx] at hb;by_cases q:b=a
  ·subst q;refine .arg ho (.inl ?_);show mayS _ (ci (σ.cells.set b c) b)=true;rw[z5p ha,if_pos rfl,hmay];exact hm
  ·cases h.cell b hb with
   |var v h1 h2 h3 h4=>exact .var v h1 h2 h3 (by simp only[hci b q,hmay];exact h4)
   |fn f h1 h2 hf h4 h5 h6=>exact .fn f h1 ((hci b q).trans h2) hf h4 h5 (by simp only[Zx];exact h6)
   |arg h1 h2=>exact .arg h1 (by simp only[hci b q,hmay];rcases h2 with h2|h2;exact .inl h2;exact .inr (hu b q h2))
 ·rw[hmay] at hx;obtain⟨m,d,hd⟩:=h.der x hx;exact⟨m,d,h.derc (by simp only[Zx];exact Zd _) (fun n hn ho'=>hci n (fun e=>by subst e;omega)) hd hx⟩
theorem zg0 {σ τ:SS}{k:Nat}{c:Int × Int}(g:Grow σ τ) (hk:σ.cells.length≤k):Grow σ { τ with cells:=τ.cells.set k c }:=by
 refine⟨?_,g.own,g.vars,g.flags,g.consts,g.funs⟩;obtain⟨t,ht⟩:=g.cells;refine⟨t.set (k - σ.cells.length) c,?_⟩;show σ.cells++t.set (k - σ.cells.length) c=τ.cells.set k c;rw[←ht,List.set_append_right _ _ hk]
theorem WF.imp {U U':Nat→Prop}{σ:SS}(h:WF U σ) (hu:∀a,U a→U' a):WF U' σ :=
 ⟨h.lo,h.lf,h.var,fun a ha=>by
  cases h.cell a ha with
  |var v h1 h2 h3 h4=>exact .var v h1 h2 h3 h4
  |fn f h1 h2 hf h4 h5 h6=>exact .fn f h1 h2 hf h4 h5 h6
  |arg h1 h2=>exact .arg h1 (h2.imp_right (hu a)),h.der,h.con,h.fn⟩
theorem zg1:∀(m:Nat) {t:Tm}{U:Nat→Prop}{σ:SS},SizeOf.sizeOf t < m→WF U σ→(∀a,U a→a < σ.cells.length)→Fine t→BdA t→(∀v∈occ t,okV σ v)→WF U (layS σ t).1∧mayS (layS σ t).1 (layS σ t).2=true∧Grow σ (layS σ t).1
 |0,_,_,_,h,_,_,_,_,_=>by omega
 |m+1,t,U,σ,hsz,h,hU,hf,hb,hocc=>by
  by_cases k1:t.kind=1
  ·rw[z6m k1];have hv:=hocc t.var (by rw[z2f,if_pos k1];simp);obtain⟨n,en⟩:=Zo hv.1;obtain⟨k,h1,h2,h3⟩:=h.var n (by have:=hv.2.1;omega);refine⟨h,?_,Grow.refl σ⟩;rw[z2s];refine .inr (.inl ⟨rfl,?_⟩);rw[en,h1];exact⟨by show (0:Int)≤(k:Int);omega,by show (k:Int) < (σ.cells.length:Int);omega,by show 0≤gi σ.own (k:Int);rw[h3];omega⟩
  ·by_cases k5:t.kind=5
   ·rw[z5k k5];have hn:t.args.length≤64:=z3k hf;have hH:=zkz (nm:=t.name) (n:=t.args.length) h hn hb.bd.name;have hg:=zbz σ (t.name,(t.args.length:Int)) t.args.length;have hlo:=h.lo;have e3:∀i,i < t.args.length→gi (layH σ (t.name,(t.args.length:Int)) t.args.length).own ((σ.cells.length+1+i:Nat):Int)=-2:=fun i hi=>by rw[←hlo];exact zky hi
    have key:∀i,i≤t.args.length→WF (fun a=>U a∨(σ.cells.length+1+i≤a∧a < σ.cells.length+1+t.args.length)) (layA (layH σ (t.name,(t.args.length:Int)) t.args.length) σ.cells.length 0 (t.args.take i)) ∧
      Grow σ (layA (layH σ (t.name,(t.args.length:Int)) t.args.length) σ.cells.length 0 (t.args.take i))∧(layH σ (t.name,(t.args.length:Int)) t.args.length).own <+: (layA (layH σ (t.name,(t.args.length:Int)) t.args.length) σ.cells.length 0 (t.args.take i)).own ∧
      σ.cells.length+1+t.args.length≤(layA (layH σ (t.name,(t.args.length:Int)) t.args.length) σ.cells.length 0 (t.args.take i)).cells.length:=by
     intro i
     induction i with
     |zero=>intro _;rw[List.take_zero,layA,Nat.add_zero];exact⟨hH,z87 _ _ _,Zy _,by rw[hg.2.2.2.2.1];exact Zd _⟩
     |succ i ih =>
      intro hi;have hlt:i < t.args.length:=by omega
      obtain⟨i1,i2,i3,i4⟩:=ih (by omega);have hAv:=(zby (σ:=layH σ (t.name,(t.args.length:Int)) t.args.length) (at':=σ.cells.length) (l:=t.args) (fun u _ σ=>z95 _ u (Zf _) σ) i (by omega)).vars;rw[z5l hlt];generalize layA (layH σ (t.name,(t.args.length:Int)) t.args.length) σ.cells.length 0 (t.args.take i)=τ at *;have hu:=ZF hlt;have hcl:=i2.cells.length_le;obtain⟨j1,j2,j3⟩:=zg1 m (t:=t.args[i]) (U:=fun a=>U a∨(σ.cells.length+1+i≤a∧a < σ.cells.length+1+t.args.length)) (σ:=τ) (by have:=z0e hu;omega) i1
       (fun a ha=>by rcases ha with ha|ha;have:=hU a ha;omega;omega) (hf.args _ hu) (hb.args _ hu) (fun v hv=>by
        have:=hocc v (za4 hu hv);have ev:=hAv.trans hg.1;unfold okV at this ⊢;rw[ev];exact this)
      have ho:gi (layS τ t.args[i]).1.own ((σ.cells.length+1+i:Nat):Int)=-2:=by
       have h1:σ.cells.length+1+i < (layH σ (t.name,(t.args.length:Int)) t.args.length).own.length:=by rw[hg.2.2.2.2.2.1,hlo];omega
       rw[z2d (i3.trans j3.own) h1];exact e3 i hlt
      have hc1:=j3.cells.length_le;refine⟨j1.fill (by omega) ho j2 (fun b hb hbu=>?_),zg0 (i2.trans j3) (by omega),i3.trans j3.own,by simp only[Zx];omega⟩;rcases hbu with hbu|hbu
      ·exact .inl hbu
      ·exact .inr ⟨by omega,by omega⟩
    obtain⟨k1',k2,k3,k4⟩:=key t.args.length (Zd _);rw[List.take_length] at k1' k2 k3 k4;refine⟨k1'.imp (fun a ha=>by rcases ha with ha|ha;exact ha;omega),?_,k2⟩;rw[z2s];have h1:σ.cells.length < (layH σ (t.name,(t.args.length:Int)) t.args.length).own.length:=by rw[hg.2.2.2.2.2.1,hlo];omega
    have e1:gi (layH σ (t.name,(t.args.length:Int)) t.args.length).own (σ.cells.length:Nat)=-1:=by rw[←hlo];show gi (σ.own++[-1]++Zu _ (-2)) _=_;rw[ZI];exact z9a
    have e2:=(z2d k3 h1).trans e1;refine .inr (.inr ⟨rfl,?_⟩);show (0:Int)≤(σ.cells.length:Int)∧(σ.cells.length:Int) < _∧gi _ (σ.cells.length:Int) < 0∧gi _ (σ.cells.length:Int)≠-2;rw[e2];exact⟨by omega,by show (σ.cells.length:Int) < ((layA (layH σ (t.name,(t.args.length:Int)) t.args.length) σ.cells.length 0 t.args).cells.length:Int);omega,by omega,by omega⟩
   ·rw[z5j k1 k5];have hk:=z0j hf.node;have hargs:t.args=[]:=(z16 hk.2.2.1).2.2.2.2 k5;refine⟨h.atomic hb.bd hargs,?_,z86 σ t⟩;rw[z2s];have:=zhq σ t;exact .inl ⟨rfl,by show (0:Int)≤((atomicS σ t).2:Int);omega,by show ((atomicS σ t).2:Int) < ((atomicS σ t).1.consts.length:Int);omega⟩
end Go.Proofs.hq
end

section
namespace Go.Proofs.hq
open Go Go.RowKit Go.Hb
abbrev noU:Nat→Prop:=fun _=>False
theorem WF.tok {σ:SS}(h:WF noU σ) (hc:σ.cells.length≤most) (hv:σ.vars.length≤most):TOk σ:=by
 refine⟨fun c hm=>?_,h.con,h.fn,hc⟩;obtain⟨m,d,hd⟩:=h.der c hm;obtain⟨hdm,hd2⟩:=h.dmay hd hm;refine⟨m,d,hd,?_⟩;have hdm':=hdm;rw[z2s] at hdm;rcases hdm with ⟨a,b,e⟩|⟨a,b,e,f⟩|⟨a,b,e,f,g⟩
 ·exact .con a b e
 ·refine .var a b e ?_;obtain⟨n,en⟩:=Zo b;have h1:=hd2 a;rw[en] at e f h1 ⊢;cases h.cell n (by omega) with
  |var v _ hv' _ q =>
   rcases q with q|q
   ·rw[q];unfold most at hv;exact⟨by show -9223372036854775808≤(v:Int);omega,by show (v:Int)≤9223372036854775807;omega⟩
   ·exact absurd h1 q.1
  |fn f' q=>omega
  |arg q=>omega
 ·obtain⟨n,en⟩:=Zo b;rw[en] at e f g;cases h.cell n (by omega) with
  |var v q=>omega
  |arg q=>omega
  |fn f' q1 q2 hf q3 q4 q5 =>
   refine .str f' a b (by omega) (by rw[en,q2]) hf q3 q4 fun i hi=>?_
   obtain⟨r1,r2⟩:=q5 i hi;have ei:d.2+1+(i:Int)=((n+1+i:Nat):Int):=by omega
   rw[ei];refine⟨by omega,?_⟩;cases h.cell (n+1+i) r1 with
   |var v q=>omega
   |fn f'' q=>omega
   |arg _ q=>rcases q with q|q;exact q;exact q.elim
theorem WF.bind {σ:SS}{v:Int}{c:Int × Int}(h:WF noU σ):WF noU (bindS σ v c).1∧((bindS σ v c).1=σ∨∃n k:Nat,v=n∧n < σ.vars.length∧gi σ.vars n=k∧k < σ.cells.length∧ci σ.cells k=(1,(n:Int))∧(bindS σ v c).1={ σ with cells:=σ.cells.set k (dr σ.cells c),trail:=σ.trail++[(0,(n:Int))] }):=by
 by_cases h0:freeS σ v=0;rotate_left
 ·have e:bindS σ v c=(σ,freeS σ v):=by rw[bindS,if_pos h0]
  rw[e];exact⟨h,.inl rfl⟩
 cases hm:mayS σ c with
 |false =>
  have e:bindS σ v c=(σ,130):=by rw[bindS,if_neg (by omega),if_pos hm]
  rw[e];exact⟨h,.inl rfl⟩
 |true =>
  by_cases hq:dr σ.cells c=(2,gi σ.vars v)
  ·have e:bindS σ v c=(σ,1):=by rw[bindS,if_neg (by omega),if_neg (by rw[hm];simp),if_pos hq]
   rw[e];exact⟨h,.inl rfl⟩
  ·obtain⟨hv,h1⟩:=zhl h0;obtain⟨n,rfl⟩:=Zo hv.1;have hn:n < σ.vars.length:=by have:=hv.2.1;omega
   obtain⟨k,ek,hk,ok⟩:=h.var n hn;rw[ek] at h1 hq;have ecell:ci σ.cells k=(1,(n:Int)):=by
    cases h.cell k hk with
    |var w q1 q2 q3 q4 =>
     have:w=n:=by omega
     subst this;rcases q4 with q4|q4
     ·exact q4
     ·exact absurd h1 q4.1
    |fn f q=>omega
    |arg q=>omega
   have e:bindS σ (n:Int) c=({ σ with cells:=σ.cells.set k (dr σ.cells c),trail:=σ.trail++[(0,(n:Int))] },0):=by rw[bindS,if_neg (by omega),if_neg (by rw[hm];simp),ek,if_neg hq];rfl
   rw[e];refine⟨?_,.inr ⟨n,k,rfl,hn,ek,hk,ecell,rfl⟩⟩;obtain⟨m,d,hd⟩:=h.der c hm;obtain⟨hdm,hd2⟩:=h.dmay hd hm;have ed:=zkb hd;rw[ed] at hq;show WF noU { σ with cells:=σ.cells.set k (dr σ.cells c),trail:=_ };rw[ed];have hmay:∀x,mayS { σ with cells:=σ.cells.set k d,trail:=σ.trail++[(0,(n:Int))] } x=mayS σ x:=fun x=>by unfold mayS;simp only[Zx]
   have hci:∀b:Nat,b≠k→ci (σ.cells.set k d) b=ci σ.cells b:=fun b hb=>by rw[z5p hk,if_neg hb]
   have hd1:d.1≠1:=by rw[z2s] at hdm;omega
   refine⟨by simp only[Zx];exact h.lo,h.lf,fun w hw=>?_,fun b hb=>?_,fun x hx=>?_,h.con,h.fn⟩
   ·obtain⟨k',h1,h2,h3⟩:=h.var w hw;exact⟨k',h1,by simp only[Zx];exact h2,h3⟩
   ·simp only[Zx] at hb;by_cases q:b=k
    ·subst q;refine .var n ok hn ek (.inr ?_);show (ci (σ.cells.set b d) b).1≠1∧mayS _ (ci (σ.cells.set b d) b)=true;rw[z5p hk,if_pos rfl,hmay];exact⟨hd1,hdm⟩
    ·cases h.cell b hb with
     |var w h1 h2 h3 h4=>exact .var w h1 h2 h3 (by simp only[hci b q,hmay];exact h4)
     |fn f h1 h2 hf h4 h5 h6=>exact .fn f h1 ((hci b q).trans h2) hf h4 h5 (by simp only[Zx];exact h6)
     |arg h1 h2=>exact .arg h1 (by simp only[hci b q,hmay];exact h2)
   ·rw[hmay] at hx;obtain⟨m',e',he⟩:=h.der x hx;clear hd hm e;have hdd:Der (σ.cells.set k d) 0 d d:=by
     by_cases q:d.1=2
     ·have hdm2:=hdm;rw[z2s] at hdm2;rcases hdm2 with r|⟨-,b,e,f⟩|r
      ·omega
      ·obtain⟨j,ej⟩:=Zo b;have hj:j≠k:=fun r=>hq (Prod.ext q (by rw[ej,r]))
       refine .var q b (by simp only[Zx];exact e) ?_;rw[ej,hci j hj,←ej];exact hd2 q
      ·omega
     ·exact .stop q
    clear hx
    induction he with
    |stop h1=>exact⟨0,_,.stop h1⟩
    |@var x i1 i2 i3 i4 =>
     obtain⟨j,ej⟩:=Zo i2;by_cases q:j=k
     ·subst q;refine⟨1,d,.go i1 i2 (by simp only[Zx];exact i3) ?_ ?_⟩
      ·show (ci (σ.cells.set j d) x.2).1≠1;rw[ej,z5p hk,if_pos rfl];exact hd1
      ·show Der (σ.cells.set j d) 0 (ci (σ.cells.set j d) x.2) d;rw[ej,z5p hk,if_pos rfl];exact hdd
     ·exact⟨0,_,.var i1 i2 (by simp only[Zx];exact i3) (by show (ci (σ.cells.set k d) x.2).1=1;rw[ej,hci j q,←ej];exact i4)⟩
    |@go nn x y i1 i2 i3 i4 _ ih =>
     obtain⟨m2,e2,ih⟩:=ih;obtain⟨j,ej⟩:=Zo i2;have q:j≠k:=fun q=>by rw[ej,q,ecell] at i4;exact i4 rfl
     refine⟨m2+1,e2,.go i1 i2 (by simp only[Zx];exact i3) ?_ ?_⟩
     ·show (ci (σ.cells.set k d) x.2).1≠1;rw[ej,hci j q,←ej];exact i4
     ·show Der (σ.cells.set k d) m2 (ci (σ.cells.set k d) x.2) e2;rw[ej,hci j q,←ej];exact ih
theorem WF.other {U:Nat→Prop}{σ:SS}{t:List (Int × Int)}{m:List (Int × Int × Int)}{f:List Bool}(h:WF U σ) (hf:f.length=σ.flags.length):WF U { σ with trail:=t,marks:=m,flags:=f } :=
 ⟨h.lo,by simp only[hf];exact h.lf,h.var,fun a ha=>by
  cases h.cell a ha with
  |var v h1 h2 h3 h4=>exact .var v h1 h2 h3 h4
  |fn f h1 h2 hf h4 h5 h6=>exact .fn f h1 h2 hf h4 h5 h6
  |arg h1 h2=>exact .arg h1 h2,h.der,h.con,h.fn⟩
end Go.Proofs.hq
end

section
namespace Go.Proofs.hq
open Go Go.RowKit Go.Hb
structure Back (σ0 σ:SS):Prop where
 tr:σ0.trail <+: σ.trail
 up:Grow σ0 (undoL σ (σ.trail.drop σ0.trail.length))
theorem Back.refl (σ:SS):Back σ σ:=⟨Zy _,by rw[List.drop_length];exact Grow.refl σ⟩
theorem z4t (σ:SS) (t:List (Int × Int)) (m:List (Int × Int × Int)):∀L,undoL { σ with trail:=t,marks:=m } L={ undoL σ L with trail:=t,marks:=m }
 |[]=>rfl
 |x :: L=>by
  show undo1 x (undoL { σ with trail:=t,marks:=m } L)={ undo1 x (undoL σ L) with trail:=t,marks:=m }
  rw[z4t σ t m L];unfold undo1;split<;>rfl
theorem Grow.other {σ0 σ:SS}(h:Grow σ0 σ) (t:List (Int × Int)) (m:List (Int × Int × Int)):Grow σ0 { σ with trail:=t,marks:=m }:=⟨h.cells,h.own,h.vars,h.flags,h.consts,h.funs⟩
theorem zl0 {α:Type}{l m:List α}(h:l <+: m) {k:Nat}{y:α}(hk:k < l.length):l.set k y <+: m.set k y:=by
 obtain⟨t,rfl⟩:=h;exact⟨t,by rw[List.set_append_left _ _ hk]⟩
theorem zht {σ τ:SS}{x:Int × Int}(g:Grow σ τ) (hx:TrOk σ x) (hf:σ.flags.length=σ.vars.length):Grow (undo1 x σ) (undo1 x τ):=by
 obtain⟨-,n,k,ex,hn,ek,hk⟩:=hx;unfold undo1;split
 ·refine⟨?_,g.own,g.vars,g.flags,g.consts,g.funs⟩;show σ.cells.set (gi σ.vars x.2).toNat _ <+: τ.cells.set (gi τ.vars x.2).toNat _;rw[ex,z2d g.vars hn,ek];exact zl0 g.cells (by rw[ZC];exact hk)
 ·refine⟨g.cells,g.own,g.vars,?_,g.consts,g.funs⟩;exact zl0 g.flags (by rw[ex,ZC,hf];exact hn)
theorem TrOk.same {σ τ:SS}{x:Int × Int}(h:TrOk σ x) (hv:τ.vars=σ.vars) (hc:τ.cells.length=σ.cells.length):TrOk τ x:=by
 obtain⟨a,n,k,b,c,d,e⟩:=h;exact⟨a,n,k,b,by rw[hv];exact c,by rw[hv];exact d,by rw[hc];exact e⟩
theorem TrOk.grow {σ τ:SS}{x:Int × Int}(h:TrOk σ x) (g:Grow σ τ):TrOk τ x:=by
 obtain⟨a,n,k,b,c,d,e⟩:=h;have h1:=g.vars.length_le;have h2:=g.cells.length_le;exact⟨a,n,k,b,by omega,by rw[z2d g.vars c];exact d,by omega⟩
theorem z9b {σ τ:SS}(g:Grow σ τ) (hf:σ.flags.length=σ.vars.length):∀L:List (Int × Int),(∀x∈L,TrOk σ x)→Grow (undoL σ L) (undoL τ L)
 |[],_=>g
 |x :: L,h=>by
  have ih:=z9b g hf L fun y hy=>h y (Zj _ hy)
  have hs:=z47 σ L;exact zht ih ((h x (by simp)).same hs.1 hs.2.2.2.2.2.2.1) (by have e:=hs.2.2.2.2.2.2.2;have e2:=hs.1;show (undoL σ L).flags.length=(undoL σ L).vars.length;rw[e,e2];exact hf)
theorem Back.grow {σ0 σ τ:SS}(h:Back σ0 σ) (g:Grow σ τ) (ht:τ.trail=σ.trail) (hf:σ.flags.length=σ.vars.length) (htr:∀x∈σ.trail,TrOk σ x):Back σ0 τ :=
 ⟨by rw[ht];exact h.tr,by rw[ht];exact h.up.trans (z9b g hf _ fun x hx=>htr x (List.mem_of_mem_drop hx))⟩
theorem Back.marks {σ0 σ:SS}(h:Back σ0 σ) (m:List (Int × Int × Int)):Back σ0 { σ with marks:=m } :=
 ⟨h.tr,by
  have:=z4t σ σ.trail m (σ.trail.drop σ0.trail.length);show Grow σ0 (undoL { σ with trail:=σ.trail,marks:=m } _);rw[this];exact h.up.other _ _⟩
theorem Back.entry {σ0 σ τ:SS}{x:Int × Int}(h:Back σ0 σ) (ht:τ.trail=σ.trail++[x]) (hu:undo1 x τ={ σ with trail:=τ.trail }):Back σ0 τ:=by
 have hl:=h.tr.length_le;refine⟨by rw[ht];exact h.tr.trans (List.prefix_append _ _),?_⟩;have e:τ.trail.drop σ0.trail.length=σ.trail.drop σ0.trail.length++[x]:=by rw[ht,List.drop_append_of_le_length hl]
 have e2:undoL τ (σ.trail.drop σ0.trail.length++[x])=undoL (undo1 x τ) (σ.trail.drop σ0.trail.length):=by
  unfold undoL;rw[List.foldr_append];rfl
 rw[e,e2,hu];have:=z4t σ τ.trail σ.marks (σ.trail.drop σ0.trail.length);show Grow σ0 (undoL { σ with trail:=τ.trail,marks:=σ.marks } _);rw[this];exact h.up.other _ _
theorem z4z {α:Type}{l:List α}{k:Nat}{x y:α}(h:l[k]?=some y):(l.set k x).set k y=l:=by
 rw[List.set_set];exact za2 h
theorem Back.bind {σ0 σ:SS}{v:Int}{c:Int × Int}(h:Back σ0 σ) (hw:WF noU σ):Back σ0 (bindS σ v c).1:=by
 rcases hw.bind (v:=v) (c:=c) |>.2 with e|⟨n,k,rfl,hn,ek,hk,hc,e⟩
 ·rw[e];exact h
 ·rw[e];refine h.entry (x:=(0,(n:Int))) rfl ?_;unfold undo1;rw[if_pos rfl];have e2:(σ.cells.set k (dr σ.cells c)).set (gi σ.vars (n:Int)).toNat (1,(n:Int))=σ.cells:=by
   rw[ek,ZC];exact z4z (by rw[z3m hk,hc])
  show { σ with cells:=(σ.cells.set k (dr σ.cells c)).set (gi σ.vars (n:Int)).toNat (1,(n:Int)),trail:=_ }=_;rw[e2]
theorem zhu {σ0 σ:SS}{n:Nat}(h:Back σ0 σ):undoS σ n σ0.trail.length σ0.cells.length σ0.vars.length={ σ0 with consts:=σ.consts,funs:=σ.funs,marks:=σ.marks.take (n+1) }∨σ0.flags.length≠σ0.vars.length∨σ0.own.length≠σ0.cells.length:=by
 by_cases h1:σ0.flags.length=σ0.vars.length
 ·by_cases h2:σ0.own.length=σ0.cells.length
  ·left;have hs:=z47 σ (σ.trail.drop σ0.trail.length);unfold undoS;have tk:∀{α:Type}{l m:List α},l <+: m→m.take l.length=l:=fun hp=>by obtain⟨t,rfl⟩:=hp;simp
   have a1:=tk h.up.cells;have a2:=tk h.up.own;have a3:=tk h.up.vars;have a4:=tk h.up.flags;have a5:=tk h.tr;rw[hs.2.1] at a2;rw[hs.1] at a3;rw[h2] at a2;rw[h1] at a4;simp only[a1,a2,a3,a4,a5,hs.2.2.1,hs.2.2.2.1]
  ·exact .inr (.inr h2)
 ·exact .inr (.inl h1)
theorem Grow.undo {σ0 σ:SS}(h:Back σ0 σ):Grow σ0 { σ0 with consts:=σ.consts,funs:=σ.funs,marks:=σ.marks }:=by
 have hs:=z47 σ (σ.trail.drop σ0.trail.length);refine⟨Zy _,Zy _,Zy _,Zy _,?_,?_⟩
 ·have:=h.up.consts;rw[hs.2.2.1] at this;exact this
 ·have:=h.up.funs;rw[hs.2.2.2.1] at this;exact this
end Go.Proofs.hq
end

section
namespace Go.Proofs.hq
open Go Go.RowKit Go.Hb
variable {ok:Ok}
set_option maxRecDepth 10000
attribute [local irreducible] LX LG EL STG SOP SGO SGD SAL SRD SEF SEG SLK SCK ES
theorem zdv {H:Heap}(hw:H.wf):EvF Tryd.prog okT 4 [] H fun v H'=>v=.bool true∧HX H H':=zm7 hw
def noS:SS:=⟨[],[],[],[],[],[],[],[]⟩
def mkN:Nat→SS
 |0=>noS
 |n+1=>makeS (mkN n)
theorem zrc:WF noU noS:=by
 refine⟨rfl,rfl,fun n hn=>by simp [noS] at hn,fun a ha=>by simp [noS] at ha,fun c hm=>?_,fun t ht=>by simp [noS] at ht,fun k hk=>by simp [noS] at hk⟩;rw[z2s] at hm;have z1:noS.consts.length=0:=rfl;have z2:noS.cells.length=0:=rfl;rw[z1,z2] at hm;omega
theorem zcc:∀n,WF noU (mkN n)
 |0=>zrc
 |n+1=>zdt (zcc n)
theorem z4u:∀n,(mkN n).vars.length=n∧(mkN n).cells.length=n∧(mkN n).own.length=n∧(mkN n).flags.length=n∧(mkN n).consts=[]∧(mkN n).funs=[]∧(mkN n).trail=[]∧(mkN n).marks=[]
 |0=>⟨rfl,rfl,rfl,rfl,rfl,rfl,rfl,rfl⟩
 |n+1=>by
  have h:=z4u n;exact⟨by simp [mkN,makeS,h.1],by simp [mkN,makeS,h.2.1],by simp [mkN,makeS,h.2.2.1],by simp [mkN,makeS,h.2.2.2.1],h.2.2.2.2.1,h.2.2.2.2.2.1,h.2.2.2.2.2.2.1,h.2.2.2.2.2.2.2⟩
set_option maxHeartbeats 2000000 in
theorem zrd {H:Heap}(hw:H.wf):EvF Tryd.prog okT 14 [] H fun v H'=>∃s,v=.pointer (some ⟨s,0,none⟩)∧St H' H.next s noS∧HX H H':=by
 refine EvF.enter rfl Tryd.func14 (by decide) rfl ?_;obtain⟨H1,e1,hx1,g1,n1,w1⟩:=new1 hw (.map [] 0);obtain⟨H2,e2,hx2,g2,n2,w2⟩:=new1 w1 (.map [] 0);obtain⟨H3,e3,hx3,g3,n3,w3⟩:=new1 w2 (.row [.slice none 0 0,.slice none 0 0,.slice none 0 0,.slice none 0 0,.slice none 0 0,.slice none 0 0,.map (some H.next),.map (some H1.next),.slice none 0 0,.slice none 0 0] 86)
 repeat' (first|refine EvC.seq ?_|(refine EvC.ret ?_)|(refine EvC.reg ?_;simp (config := { maxSteps := 2000000 }) (disch:=first|omega|rfl) only[sB,initTm,dBox,Za,Zb,Value.cells,one,reduceCtorEq,Zm,layC,bd86,z3i,e1,e2,e3]))
 refine z03 rfl (by simp only[sG,reduceCtorEq]) ⟨H2.next,rfl,⟨_,g3,by omega,rfl,fun i f v hf hv=>?_,fun i j v u n h1 h2 h3 h4=>?_,fun i v hv=>?_,rfl⟩,hx1.trans (hx2.trans hx3)⟩
 ·have m6:FR H3 H.next (.mp []) (.map (some H.next)):=⟨H.next,[],0,rfl,Zd _,by omega,hx3.get w2 (hx2.get w1 g1),rfl⟩
  have m7:FR H3 H.next (.mp []) (.map (some H1.next)):=⟨H1.next,[],0,rfl,by omega,by omega,hx3.get w2 g2,rfl⟩
  match i,hf,hv with
  |0,hf,hv=>cases hf;cases hv;exact .inl ⟨rfl,rfl⟩
  |1,hf,hv=>cases hf;cases hv;exact .inl ⟨rfl,rfl⟩
  |2,hf,hv=>cases hf;cases hv;exact .inl ⟨rfl,rfl⟩
  |3,hf,hv=>cases hf;cases hv;exact .inl ⟨rfl,rfl⟩
  |4,hf,hv=>cases hf;cases hv;exact .inl ⟨rfl,rfl⟩
  |5,hf,hv=>cases hf;cases hv;exact .inl ⟨rfl,rfl⟩
  |6,hf,hv=>cases hf;cases hv;exact m6
  |7,hf,hv=>cases hf;cases hv;exact m7
  |8,hf,hv=>cases hf;cases hv;exact .inl ⟨rfl,rfl⟩
  |9,hf,hv=>cases hf;cases hv;exact .inl ⟨rfl,rfl⟩
  |i+10,hf,hv=>simp at hv
 ·have key:∀(i:Nat) v n,[Value.slice none 0 0,.slice none 0 0,.slice none 0 0,.slice none 0 0,.slice none 0 0,.slice none 0 0,.map (some H.next),.map (some H1.next),.slice none 0 0,.slice none 0 0][i]?=some v→blkOf v=some n→(i=6∧n=H.next)∨(i=7∧n=H1.next):=by
   intro i v n hv hb
   match i,hv with
   |0,hv=>cases hv;cases hb
   |1,hv=>cases hv;cases hb
   |2,hv=>cases hv;cases hb
   |3,hv=>cases hv;cases hb
   |4,hv=>cases hv;cases hb
   |5,hv=>cases hv;cases hb
   |6,hv=>cases hv;cases hb;exact .inl ⟨rfl,rfl⟩
   |7,hv=>cases hv;cases hb;exact .inr ⟨rfl,rfl⟩
   |8,hv=>cases hv;cases hb
   |9,hv=>cases hv;cases hb
   |i+10,hv=>simp at hv
  have q1:=key i v n h1 h3;have q2:=key j u n h2 h4;omega
 ·intro hb
  match i,hv with
  |0,hv=>cases hv;cases hb
  |1,hv=>cases hv;cases hb
  |2,hv=>cases hv;cases hb
  |3,hv=>cases hv;cases hb
  |4,hv=>cases hv;cases hb
  |5,hv=>cases hv;cases hb
  |6,hv=>cases hv;have:H.next=H2.next:=Option.some.inj hb;omega
  |7,hv=>cases hv;have:H1.next=H2.next:=Option.some.inj hb;omega
  |8,hv=>cases hv;cases hb
  |9,hv=>cases hv;cases hb
  |i+10,hv=>simp at hv
theorem za8 {σ:SS}{t:Tm}(h:WF noU σ) (hb:BdA t):WF noU (layV σ t).1∧Grow σ (layV σ t).1∧((layV σ t).2.2=0→mayS (layV σ t).1 (layV σ t).2.1=true)∧(layV σ t).1.trail=σ.trail∧(layV σ t).1.marks=σ.marks∧(layV σ t).1.vars=σ.vars ∧
  (layV σ t).1.cells.length≤σ.cells.length+2*nd t∧(layV σ t).1.consts.length≤σ.consts.length+nd t∧(layV σ t).1.funs.length≤σ.funs.length+nd t:=by
 unfold layV;split
 ·rename_i h0;exact⟨h,Grow.refl σ,fun q=>absurd q h0,rfl,rfl,rfl,by simp only;omega,by simp only;omega,by simp only;omega⟩
 ·rename_i h0;have h0':checkS t=0:=Classical.not_not.1 h0;split
  ·rename_i hall;obtain⟨a,b,c⟩:=zg1 _ (Zf _) h (fun a q=>q.elim) (z0h.1 h0').2 hb hall;have g:=z95 _ t (Zf _) σ;exact⟨a,c,fun _=>b,g.trail,g.marks,g.vars,by have:=g.cells;simp only;omega,g.consts,g.funs⟩
  ·exact⟨h,Grow.refl σ,fun q=>by simp at q,rfl,rfl,rfl,by simp only;omega,by simp only;omega,by simp only;omega⟩
abbrev TD:Type:=List Tm × Option Addr × Nat
abbrev tdRow (d:TD):List Value:=[.slice d.2.1 d.1.length d.2.2]
structure Cl (H:Heap) (s B:Nat) (C:List (Int × Int)) (vC:Value) (D:List TD) (vD:Value) (S:Nat→Prop):Prop where
 fc:FR H B (.sl 29 2 (C.map two)) vC
 fd:FR H B (.sl 23 1 (D.map tdRow)) vD
 fl:∀d∈D,FL H 25 S d.1 d.2.1 d.2.2
 sb:∀n,S n→B≤n∧n < H.next∧¬Mut H s n∧blkOf vC≠some n∧blkOf vD≠some n
 nc:∀n,blkOf vC=some n→¬Mut H s n∧blkOf vD≠some n
 nd:∀n,blkOf vD=some n→¬Mut H s n
theorem Cl.sx {H H':Heap}{s B:Nat}{C:List (Int × Int)}{vC vD:Value}{D:List TD}{S:Nat→Prop}(h:Cl H s B C vC D vD S) (hw:H.wf) (hx:SX s H H'):Cl H' s B C vC D vD S:=by
 refine⟨h.fc.heap (fun n hn=>hx.get (h.fc.lo hn).2 (h.nc n hn).1) hx.next,h.fd.heap (fun n hn=>hx.get (h.fd.lo hn).2 (h.nd n hn)) hx.next,fun d hd=>(h.fl d hd).heap (fun n hn hl=>hx.get hl (h.sb n hn).2.2.1) hw,fun n hn=>?_,fun n hn=>⟨hx.nm (h.fc.lo hn).2 (h.nc n hn).1,(h.nc n hn).2⟩,fun n hn=>hx.nm (h.fd.lo hn).2 (h.nd n hn)⟩;obtain⟨a,b,c,d,e⟩:=h.sb n hn;exact⟨a,Zk b hx.next,hx.nm b c,d,e⟩
theorem Cl.hx {H H':Heap}{s B:Nat}{C:List (Int × Int)}{vC vD:Value}{D:List TD}{S:Nat→Prop}(h:Cl H s B C vC D vD S) (hw:H.wf) (hs:s < H.next) (hx:HX H H'):Cl H' s B C vC D vD S:=h.sx hw (hx.sx hs)
theorem Cl.cell {H:Heap}{s B:Nat}{C:List (Int × Int)}{vC vD:Value}{D:List TD}{S:Nat→Prop}(h:Cl H s B C vC D vD S):∃a c,vC=.slice a C.length c∧C.length≤c∧c≤maxLen∧∀k,(hk:k < C.length)→∃b,a=some ⟨b,0,none⟩∧H.load ⟨b,k*2,none⟩ 2=some (two C[k]):=by
 rcases h.fc with ⟨q,rfl⟩|⟨b,c,o,rfl⟩
 ·have:C=[]:=by simpa using q
  subst this;exact⟨none,0,rfl,Zd _,ZA _,fun k hk=>by simp at hk⟩
 ·have hl:=o.len;simp only[Zn] at hl ⊢;exact⟨_,c,rfl,hl,o.cap,fun k hk=>⟨b,rfl,o.load (by rw[Zl,Zc hk];rfl)⟩⟩
theorem Cl.told {H:Heap}{s B:Nat}{C:List (Int × Int)}{vC vD:Value}{D:List TD}{S:Nat→Prop}(h:Cl H s B C vC D vD S):∃a c,vD=.slice a D.length c∧D.length≤c∧c≤maxLen∧∀k,(hk:k < D.length)→∃b,a=some ⟨b,0,none⟩∧H.load ⟨b,k,none⟩ 1=some (tdRow D[k]):=by
 rcases h.fd with ⟨q,rfl⟩|⟨b,c,o,rfl⟩
 ·have:D=[]:=by simpa using q
  subst this;exact⟨none,0,rfl,Zd _,ZA _,fun k hk=>by simp at hk⟩
 ·have hl:=o.len;simp only[Zn] at hl ⊢;refine⟨_,c,rfl,hl,o.cap,fun k hk=>⟨b,rfl,?_⟩⟩;have:=o.load (i:=k) (x:=tdRow D[k]) (by rw[Zl,Zc hk];rfl);rw[Nat.mul_one] at this;exact this
end Go.Proofs.hq
end

section
namespace Go.Proofs.hq
open Go Go.RowKit Go.Hb
def lens (ρ:SS):Int × Int × Int:=((ρ.trail.length:Int),(ρ.cells.length:Int),(ρ.vars.length:Int))
def okC (σ:SS) (c:Int × Int):Prop:=mayS σ c=true∨c=(0,0)
structure PI (σ:SS) (C:List (Int × Int)) (snaps:List SS) (D:List TD) (nC nS w nt:Nat):Prop where
 wf:WF noU σ
 tr:∀x∈σ.trail,TrOk σ x
 vars:σ.vars.length=6
 marks:σ.marks=snaps.map lens
 cl:C.length=nC
 sn:snaps.length=nS
 dl:D.length=nS
 back:∀ ρ∈snaps,Back ρ σ
 old:∀(j:Nat) ρ,snaps[j]?=some ρ→WF noU ρ∧ρ.cells.length≤most∧ρ.vars.length=6∧∀(k:Nat) c,k < j→C[k]?=some c→okC ρ c
 told:∀(j:Nat) ρ d,snaps[j]?=some ρ→D[j]?=some d→j≤C.length∧d.1=(C.take j).map fun c=>(termS ρ c).1
 now:∀c∈C,okC σ c
 fc:σ.cells.length≤6+2*w
 fk:σ.consts.length≤w
 ff:σ.funs.length≤w
 ft:σ.trail.length≤nt
theorem PI.mark {σ:SS}{C:List (Int × Int)}{snaps:List SS}{D:List TD}{n w nt:Nat}(h:PI σ C snaps D n n w nt) {d:TD}(hd:d.1=C.map fun c=>(termS σ c).1) (hm:σ.cells.length≤most):PI { σ with marks:=σ.marks++[lens σ] } C (snaps++[σ]) (D++[d]) n (n+1) w nt:=by
 have hsn:=h.sn;have hdl:=h.dl;refine⟨h.wf.other rfl,h.tr,h.vars,by rw[ZE,←h.marks];rfl,h.cl,by simp [hsn],by simp [hdl],fun ρ hρ=>?_,fun j ρ hj=>?_,fun j ρ e hj he=>?_,h.now,h.fc,h.fk,h.ff,h.ft⟩
 ·rcases List.mem_append.1 hρ with q|q
  ·exact(h.back ρ q).marks _
  ·rw[List.mem_singleton] at q;rw[q];exact(Back.refl σ).marks _
 ·rw[List.getElem?_append] at hj;split at hj
  ·exact h.old j ρ hj
  ·rename_i q;have hjl:j - snaps.length=0:=by
    have:=(List.getElem?_eq_some_iff.1 hj).1;simp at this;omega
   rw[hjl] at hj;cases hj;exact⟨h.wf,hm,h.vars,fun k c hk hc=>h.now c (List.mem_of_getElem? hc)⟩
 ·rw[List.getElem?_append] at hj he;split at hj
  ·rename_i q;rw[if_pos (by omega)] at he;exact h.told j ρ e hj he
  ·rename_i q;rw[if_neg (by omega)] at he;have hjl:j - snaps.length=0:=by
    have:=(List.getElem?_eq_some_iff.1 hj).1;simp at this;omega
   have hjn:j=n:=by omega
   rw[hjl] at hj;rw[hdl,←hsn,hjl] at he;cases hj;cases he;refine⟨by rw[h.cl];omega,?_⟩;rw[hd,Zq (by rw[h.cl];omega)]
theorem PI.lay {σ:SS}{C:List (Int × Int)}{snaps:List SS}{D:List TD}{nC nS w nt:Nat}(h:PI σ C snaps D nC nS w nt) {t:Tm}(hb:BdA t):PI (layV σ t).1 C snaps D nC nS (w+nd t) nt:=by
 obtain⟨a1,a2,a3,a4,a5,a6,a7,a8,a9⟩:=za8 h.wf hb;refine⟨a1,fun x hx=>?_,by rw[a6];exact h.vars,a5.trans h.marks,h.cl,h.sn,h.dl,fun ρ hρ=>(h.back ρ hρ).grow a2 a4 h.wf.lf h.tr,h.old,h.told,fun c hc=>?_,by have:=h.fc;omega,by have:=h.fk;omega,by have:=h.ff;omega,by rw[a4];exact h.ft⟩
 ·rw[a4] at hx;exact(h.tr x hx).grow a2
 ·rcases h.now c hc with q|q
  ·exact .inl (z6o a2 h.wf.lo q)
  ·exact .inr q
theorem PI.cell {σ:SS}{C:List (Int × Int)}{snaps:List SS}{D:List TD}{n w nt:Nat}(h:PI σ C snaps D n (n+1) w nt) {c:Int × Int}(hc:okC σ c):PI σ (C++[c]) snaps D (n+1) (n+1) w nt:=by
 have hcl:=h.cl;have hsn:=h.sn;refine⟨h.wf,h.tr,h.vars,h.marks,by simp [hcl],h.sn,h.dl,h.back,fun j ρ hj=>?_,fun j ρ d hj hd=>?_,fun e he=>?_,h.fc,h.fk,h.ff,h.ft⟩
 ·obtain⟨o1,o2,o3,o4⟩:=h.old j ρ hj;refine⟨o1,o2,o3,fun k e hk he=>?_⟩;have hjl:=(List.getElem?_eq_some_iff.1 hj).1;rw[ZD (by omega)] at he;exact o4 k e hk he
 ·obtain⟨o1,o2⟩:=h.told j ρ d hj hd;exact⟨by simp;omega,by rw[List.take_append_of_le_length o1];exact o2⟩
 ·rcases List.mem_append.1 he with q|q
  ·exact h.now e q
  ·rw[List.mem_singleton] at q;rw[q];exact hc
theorem PI.bind {σ:SS}{C:List (Int × Int)}{snaps:List SS}{D:List TD}{nC nS w nt:Nat}(h:PI σ C snaps D nC nS w nt) (v:Int) (c:Int × Int):PI (bindS σ v c).1 C snaps D nC nS w (nt+1):=by
 obtain⟨hw,hs⟩:=h.wf.bind (v:=v) (c:=c);have hbk:∀ ρ∈snaps,Back ρ (bindS σ v c).1:=fun ρ hρ=>(h.back ρ hρ).bind h.wf
 rcases hs with e|⟨n,k,rfl,hn,ek,hk,hcc,e⟩
 ·rw[e];exact⟨h.wf,h.tr,h.vars,h.marks,h.cl,h.sn,h.dl,h.back,h.old,h.told,h.now,h.fc,h.fk,h.ff,by have:=h.ft;omega⟩
 ·rw[e] at hw hbk ⊢;refine⟨hw,fun x hx=>?_,h.vars,h.marks,h.cl,h.sn,h.dl,hbk,h.old,h.told,fun d hd=>?_,by simp only[Zx];exact h.fc,h.fk,h.ff,by have:=h.ft;simp;omega⟩
  ·have hx':x∈σ.trail++[(0,(n:Int))]:=hx;rcases List.mem_append.1 hx' with q|q
   ·exact(h.tr x q).same rfl (by simp)
   ·rw[List.mem_singleton] at q;subst q;exact⟨.inl rfl,n,k,rfl,hn,ek,by simp;exact hk⟩
  ·rcases h.now d hd with q|q
   ·left;unfold mayS at q ⊢;simp only[Zx];exact q
   ·exact .inr q
theorem PI.few {σ:SS}{C:List (Int × Int)}{snaps:List SS}{D:List TD}{nC nS w nt:Nat}(h:PI σ C snaps D nC nS w nt) {t:Tm}(hw:w+nd t≤149796):σ.cells.length+2*nd t≤most∧σ.consts.length+nd t≤most∧σ.funs.length+nd t≤most:=by
 have:=h.fc;have:=h.fk;have:=h.ff;unfold most;omega
theorem PI.tok {σ:SS}{C:List (Int × Int)}{snaps:List SS}{D:List TD}{nC nS w nt:Nat}(h:PI σ C snaps D nC nS w nt) (hw:w≤149796):TOk σ∧σ.cells.length≤most:=by
 have:=h.fc;have:=h.vars;have h1:σ.cells.length≤most:=by unfold most;omega
 exact⟨h.wf.tok h1 (by unfold most;omega),h1⟩
theorem PI.start:PI (mkN 6) [] [] [] 0 0 0 0:=by
 have h:=z4u 6;refine⟨zcc 6,fun x hx=>(by rw[h.2.2.2.2.2.2.1] at hx;cases hx),h.1,h.2.2.2.2.2.2.2,rfl,rfl,rfl,fun ρ hρ=>(by cases hρ),fun j ρ hj=>(by simp at hj),fun j ρ d hj=>(by simp at hj),fun c hc=>(by cases hc),by rw[h.2.1];omega,by rw[h.2.2.2.2.1];exact Zd _,by rw[h.2.2.2.2.2.1];exact Zd _,by rw[h.2.2.2.2.2.2.1];exact Zd _⟩
end Go.Proofs.hq
end

section
namespace Go.Proofs.hq
open Go Go.RowKit Go.Hb
inductive RD (σ:SS) (lo:Nat):Int × Int→Tm→Prop
 |var (v a:Nat):gi σ.vars v=(a:Int)→v < σ.vars.length→a < σ.cells.length→ci σ.cells a=(1,(v:Int))→0≤gi σ.own a→RD σ lo (2,(a:Int)) (varTm v)
 |con (j:Nat) (t:Tm):σ.consts[j]?=some t→t.args=[]→RD σ lo (3,(j:Int)) t
 |str (p f:Nat) (nm:ByteArray) (l:List Tm):lo≤p→p < σ.cells.length→ci σ.cells p=(5,(f:Int))→σ.funs[f]?=some (nm,(l.length:Int))→(∀i:Nat,i < l.length→p+1+i < σ.cells.length)→(∀(i:Nat) (u:Tm),l[i]?=some u→RD σ lo (ci σ.cells ((p+1+i:Nat):Int)) u)→RD σ lo (4,(p:Int)) (.mk 5 nm e0 0 0 l)
theorem RD.low {σ:SS}{lo lo':Nat}(hl:lo'≤lo) {c:Int × Int}{t:Tm}(h:RD σ lo c t):RD σ lo' c t:=by
 induction h with
 |var v a h1 h2 h3 h4 h5=>exact .var v a h1 h2 h3 h4 h5
 |con j t h h'=>exact .con j t h h'
 |str p f nm l h1 h2 h3 h4 h5 _ ih=>exact .str p f nm l (by omega) h2 h3 h4 h5 ih
theorem zdw {α:Type}{l m:List α}(h:l <+: m) {j:Nat}{x:α}(hj:l[j]?=some x):m[j]?=some x:=by
 obtain⟨t,rfl⟩:=h;rw[ZD (List.getElem?_eq_some_iff.1 hj).1];exact hj
theorem RD.grow {σ τ:SS}{lo:Nat}(g:Grow σ τ) (ho:σ.own.length=σ.cells.length) {c:Int × Int}{t:Tm}(h:RD σ lo c t):RD τ lo c t:=by
 have hcl:=g.cells.length_le;have hvl:=g.vars.length_le
 induction h with
 |var v a h1 h2 h3 h4 h5=>exact .var v a (by rw[z2d g.vars h2];exact h1) (by omega) (by omega) (by rw[z4e g.cells h3];exact h4) (by rw[z2d g.own (by omega)];exact h5)
 |con j t h h'=>exact .con j t (zdw g.consts h) h'
 |str p f nm l h1 h2 h3 h4 h5 _ ih =>
  refine .str p f nm l h1 (by omega) (by rw[z4e g.cells h2];exact h3) (zdw g.funs h4) (fun i hi=>by have:=h5 i hi;omega) fun i u hu=>?_
  rw[z4e g.cells (h5 i (List.getElem?_eq_some_iff.1 hu).1)];exact ih i u hu
theorem RD.set {σ:SS}{lo k:Nat}{x:Int × Int}(hk:k < lo) (hkl:k < σ.cells.length) (ho:gi σ.own k < 0) {c:Int × Int}{t:Tm}(h:RD σ lo c t):RD { σ with cells:=σ.cells.set k x } lo c t:=by
 have hci:∀n:Nat,n≠k→ci (σ.cells.set k x) n=ci σ.cells n:=fun n hn=>by rw[z5p hkl,if_neg hn]
 induction h with
 |var v a h1 h2 h3 h4 h5=>exact .var v a h1 h2 (by simp only[Zx];exact h3) ((hci a (fun e=>by subst e;omega)).trans h4) h5
 |con j t h h'=>exact .con j t h h'
 |str p f nm l h1 h2 h3 h4 h5 _ ih =>
  refine .str p f nm l h1 (by simp only[Zx];exact h2) ((hci p (by omega)).trans h3) h4 (fun i hi=>by simp only[Zx];exact h5 i hi) fun i u hu=>?_
  show RD _ lo (ci (σ.cells.set k x) ((p+1+i:Nat):Int)) u;rw[hci (p+1+i) (by omega)];exact ih i u hu
theorem zg2 (a b:List Tm):nd.ndL (a++b)=nd.ndL a+nd.ndL b:=by
 induction a with
 |nil=>rw[nd.ndL];simp
 |cons t a ih=>rw[List.cons_append,nd.ndL,nd.ndL,ih];omega
theorem zcd (l:List Tm) (i:Nat):nd.ndL (l.take i)≤nd.ndL l:=by
 have:=zg2 (l.take i) (l.drop i);rw[List.take_append_drop] at this;omega
theorem z4f {l:List Tm}{i:Nat}(h:i < l.length):nd.ndL (l.take (i+1))=nd.ndL (l.take i)+nd l[i]:=by
 rw[←ZK h,zg2,nd.ndL,nd.ndL,Nat.add_zero]
theorem zl1 {σ:SS}{lo:Nat}:∀(k:Nat) {c:Int × Int}{t:Tm}{n:Nat},RD σ lo c t→n+nd t≤4000→4001 - n≤k→toldF σ k c n=(t,n+nd t)
 |0,c,t,n,_,h,hk=>by omega
 |k+1,c,t,n,h,hn,hk=>by
  cases h with
  |var v a h1 h2 h3 h4 h5 =>
   have hd:Der σ.cells 0 (2,(a:Int)) (2,(a:Int)):=.var rfl (by show (0:Int)≤(a:Int);omega) (by show (a:Int) < _;omega) (by show (ci σ.cells (a:Int)).1=1;rw[h4]);have en:nd (varTm (v:Int))=1:=by rw[z1p];simp [varTm,Tm.args,nd.ndL]
   rw[toldF,zkb hd,if_pos rfl,h4,en]
  |con j t h h' =>
   have hd:Der σ.cells 0 (3,(j:Int)) (3,(j:Int)):=.stop (by show (3:Int)≠2;omega);have en:nd t=1:=by rw[z1p,h',nd.ndL]
   rw[toldF,zkb hd,if_neg (by show ¬(3:Int)=2;omega),if_pos rfl,en];show ((σ.consts[((j:Int)).toNat]?).getD zeroTm,n+1)=_;rw[ZC,h];rfl
  |str p f nm l h1 h2 h3 h4 h5 h6 =>
   have hd:Der σ.cells 0 (4,(p:Int)) (4,(p:Int)):=.stop (by show (4:Int)≠2;omega);have en:nd (.mk 5 nm e0 0 0 l)=1+nd.ndL l:=by rw[z1p];rfl
   have key:∀(i:Nat),i≤l.length→(Zh i).foldl (stepT (toldF σ k) fun i=>ci σ.cells ((p:Int)+1+i)) ([],n+1)=(l.take i,n+1+nd.ndL (l.take i)):=by
    intro i
    induction i with
    |zero=>intro _;rw[List.take_zero,nd.ndL];rfl
    |succ i ih =>
     intro hi;have hil:i < l.length:=by omega
     have hle:nd.ndL (l.take i)+nd l[i]≤nd.ndL l:=by
      have h1:=zcd l (i+1);rw[z4f hil] at h1;exact h1
     have hpos:=z1p l[i];have e:ci σ.cells ((p:Int)+1+(i:Int))=ci σ.cells ((p+1+i:Nat):Int):=by congr 1
     have hr:=zl1 k (n:=n+1+nd.ndL (l.take i)) (h6 i l[i] (Zc hil)) (by omega) (by omega);rw[zbw (ih (by omega)) (by omega),e,hr,z4f hil,ZK hil];simp only[Prod.mk.injEq];exact⟨trivial,by omega⟩
   have ka:=key l.length (Zd _);rw[List.take_length] at ka;rw[toldF,zkb hd,if_neg (by show ¬(4:Int)=2;omega),if_neg (by show ¬(4:Int)=3;omega),h3];show (Tm.mk 5 ((σ.funs[((f:Int)).toNat]?).getD (e0,0)).1 e0 0 0 _,_)=_;rw[ZC,h4,Option.getD_some,ZC,ka,en];simp only[Prod.mk.injEq];exact⟨trivial,by omega⟩
theorem zps {a b:ByteArray}(h:(a == b)=true):a=b:=by
 cases a with
 |mk x=>cases b with
  |mk y =>
   have:(x == y)=true:=h;rw[eq_of_beq this]
theorem zg3 (t:Tm):t=.mk t.kind t.name t.num t.bits t.var t.args:=by cases t;rfl
def AtF (t:Tm):Prop:=Fine t∧t.kind≠1∧t.kind≠5
theorem AtF.args {t:Tm}(h:AtF t):t.args=[]∧t.var=0:=by
 have hb:=z16 (z0j h.1.node).2.2.1;exact⟨hb.2.2.2.2 h.2.2,hb.2.2.2.1 h.2.1⟩
theorem zre {x a:Tm}(hx:AtF x) (ha:AtF a) (h:eqCst x a=true):x=a:=by
 unfold eqCst at h;rw[Zi,Zi,Zi] at h;obtain⟨h1,h2,h3,h4⟩:=h;rw[zg3 x,zg3 a,eq_of_beq h1,zps h2,zps h3,eq_of_beq h4,hx.args.1,hx.args.2,ha.args.1,ha.args.2]
theorem zhv {σ:SS}{t:Tm}(hc:∀u∈σ.consts,AtF u) (ht:AtF t):(atomicS σ t).1.consts[(atomicS σ t).2]?=some t∧∀u∈(atomicS σ t).1.consts,AtF u:=by
 unfold atomicS;split
 ·rename_i j hj;obtain⟨h1,h2,-⟩:=List.findIdx?_eq_some_iff_getElem.1 hj;refine⟨?_,hc⟩;rw[Zc h1,zre ht (hc _ (ZF h1)) h2]
 ·refine⟨by simp,fun u hu=>?_⟩;rcases List.mem_append.1 hu with q|q
  ·exact hc u q
  ·rw[List.mem_singleton] at q;rw[q];exact ht
theorem zdx (σ:SS) (k:ByteArray × Int):(functorS σ k).1.funs[(functorS σ k).2]?=some k:=by
 unfold functorS;split
 ·rename_i j hj;obtain⟨h1,h2,-⟩:=List.findIdx?_eq_some_iff_getElem.1 hj;rw[Zc h1];unfold eqFun at h2;rw[Zi] at h2;exact congrArg some (Prod.ext (zps h2.1).symm (eq_of_beq h2.2).symm)
 ·simp
def Unb (σ:SS):Prop:=∀v k:Nat,v < σ.vars.length→gi σ.vars v=(k:Int)→k < σ.cells.length→ci σ.cells k=(1,(v:Int))
theorem Unb.grow {σ τ:SS}{U:Nat→Prop}(h:Unb σ) (hw:WF U σ) (g:Grow σ τ) (hv:τ.vars=σ.vars):Unb τ:=fun v k h1 h2 h3=>by
 rw[hv] at h1 h2;obtain⟨k',e1,e2,-⟩:=hw.var v h1;have:k=k':=by omega
 subst this;rw[z4e g.cells e2];exact h v k h1 h2 e2
theorem zof:∀(m:Nat) {t:Tm}{U:Nat→Prop}{σ:SS},SizeOf.sizeOf t < m→WF U σ→(∀a,U a→a < σ.cells.length)→Fine t→BdA t→(∀v∈occ t,okV σ v)→Unb σ→(∀u∈σ.consts,AtF u) →
  RD (layS σ t).1 σ.cells.length (layS σ t).2 t∧∀u∈(layS σ t).1.consts,AtF u
 |0,_,_,_,h,_,_,_,_,_,_,_=>by omega
 |m+1,t,U,σ,hsz,h,hU,hf,hb,hocc,hu,hc=>by
  have hbl:=z16 (z0j hf.node).2.2.1;by_cases k1:t.kind=1
  ·rw[z6m k1];have hv:=hocc t.var (by rw[z2f,if_pos k1];simp);obtain⟨n,en⟩:=Zo hv.1;have hn:n < σ.vars.length:=by have:=hv.2.1;omega
   obtain⟨k,h1,h2,h3⟩:=h.var n hn;have et:t=varTm (n:Int):=by
    conv=>lhs;rw[zg3 t]
    rw[k1,hbl.1 (by omega) (by omega),hbl.2.1 (by omega),hbl.2.2.1 (by omega),hbl.2.2.2.2 (by omega),en];rfl
   refine⟨?_,hc⟩;show RD σ _ (2,gi σ.vars t.var) t;rw[en,h1]
   conv=>arg 4;rw[et]
   exact .var n k h1 hn h2 (hu n k hn h1 h2) (by rw[h3];omega)
  ·by_cases k5:t.kind=5
   ·have hW:=zg1 (m+1) hsz h hU hf hb hocc;rw[z5k k5] at hW ⊢;have hn:t.args.length≤64:=z3k hf;have hH:=zkz (nm:=t.name) (n:=t.args.length) h hn hb.bd.name;have hg:=zbz σ (t.name,(t.args.length:Int)) t.args.length;have hgr:=z87 σ (t.name,(t.args.length:Int)) t.args.length;have hlo:=h.lo;have e3:∀i,i < t.args.length→gi (layH σ (t.name,(t.args.length:Int)) t.args.length).own ((σ.cells.length+1+i:Nat):Int)=-2:=fun i hi=>by rw[←hlo];exact zky hi
    have e2:ci (layH σ (t.name,(t.args.length:Int)) t.args.length).cells (σ.cells.length:Nat)=(5,((functorS σ (t.name,(t.args.length:Int))).2:Int)):=by show ci (σ.cells++[_]++Zu _ (0,0)) _=_;rw[ZI];exact zca
    have hcH:∀u∈(layH σ (t.name,(t.args.length:Int)) t.args.length).consts,AtF u:=by rw[hg.2.2.2.2.2.2.1];exact hc
    have key:∀i,i≤t.args.length→WF (fun a=>U a∨(σ.cells.length+1+i≤a∧a < σ.cells.length+1+t.args.length)) (layA (layH σ (t.name,(t.args.length:Int)) t.args.length) σ.cells.length 0 (t.args.take i)) ∧
      Grow σ (layA (layH σ (t.name,(t.args.length:Int)) t.args.length) σ.cells.length 0 (t.args.take i))∧(layH σ (t.name,(t.args.length:Int)) t.args.length).own <+: (layA (layH σ (t.name,(t.args.length:Int)) t.args.length) σ.cells.length 0 (t.args.take i)).own ∧
      (layH σ (t.name,(t.args.length:Int)) t.args.length).funs <+: (layA (layH σ (t.name,(t.args.length:Int)) t.args.length) σ.cells.length 0 (t.args.take i)).funs ∧
      σ.cells.length+1+t.args.length≤(layA (layH σ (t.name,(t.args.length:Int)) t.args.length) σ.cells.length 0 (t.args.take i)).cells.length ∧
      ci (layA (layH σ (t.name,(t.args.length:Int)) t.args.length) σ.cells.length 0 (t.args.take i)).cells (σ.cells.length:Nat)=(5,((functorS σ (t.name,(t.args.length:Int))).2:Int)) ∧
      (∀u∈(layA (layH σ (t.name,(t.args.length:Int)) t.args.length) σ.cells.length 0 (t.args.take i)).consts,AtF u) ∧
      ∀j u,j < i→t.args[j]?=some u→RD (layA (layH σ (t.name,(t.args.length:Int)) t.args.length) σ.cells.length 0 (t.args.take i)) (σ.cells.length+1+t.args.length) (ci (layA (layH σ (t.name,(t.args.length:Int)) t.args.length) σ.cells.length 0 (t.args.take i)).cells ((σ.cells.length+1+j:Nat):Int)) u:=by
     intro i
     induction i with
     |zero=>intro _;rw[List.take_zero,layA,Nat.add_zero];exact⟨hH,hgr,Zy _,Zy _,by rw[hg.2.2.2.2.1];exact Zd _,e2,hcH,fun j u hj=>by omega⟩
     |succ i ih =>
      intro hi;have hlt:i < t.args.length:=by omega
      obtain⟨i1,i2,i3,i4,i5,i6,i7,i8⟩:=ih (by omega);have hAv:=(zby (σ:=layH σ (t.name,(t.args.length:Int)) t.args.length) (at':=σ.cells.length) (l:=t.args) (fun u _ σ=>z95 _ u (Zf _) σ) i (by omega)).vars;rw[z5l hlt];generalize layA (layH σ (t.name,(t.args.length:Int)) t.args.length) σ.cells.length 0 (t.args.take i)=τ at *;have hum:=ZF hlt;have hcl:=i2.cells.length_le;have hev:=hAv.trans hg.1;have hocc':∀v∈occ t.args[i],okV τ v:=fun v hv=>by
       have:=hocc v (za4 hum hv);unfold okV at this ⊢;rw[hev];exact this
      have hUU:∀a,(U a∨(σ.cells.length+1+i≤a∧a < σ.cells.length+1+t.args.length))→a < τ.cells.length:=fun a ha=>by rcases ha with ha|ha;have:=hU a ha;omega;omega
      have hsz':SizeOf.sizeOf t.args[i] < m:=by have:=z0e hum;omega
      obtain⟨j1,j2,j3⟩:=zg1 m (t:=t.args[i]) hsz' i1 hUU (hf.args _ hum) (hb.args _ hum) hocc';obtain⟨r1,r2⟩:=zof m (t:=t.args[i]) hsz' i1 hUU (hf.args _ hum) (hb.args _ hum) hocc' (hu.grow h i2 hev) i7;have ho:gi (layS τ t.args[i]).1.own ((σ.cells.length+1+i:Nat):Int)=-2:=by
       have h1:σ.cells.length+1+i < (layH σ (t.name,(t.args.length:Int)) t.args.length).own.length:=by rw[hg.2.2.2.2.2.1,hlo];omega
       rw[z2d (i3.trans j3.own) h1];exact e3 i hlt
      have hc1:=j3.cells.length_le;have hci:∀n:Nat,n≠σ.cells.length+1+i→ci ((layS τ t.args[i]).1.cells.set (σ.cells.length+1+i) (layS τ t.args[i]).2) n=ci (layS τ t.args[i]).1.cells n:=fun n hn=>by rw[z5p (by omega),if_neg hn]
      refine⟨j1.fill (by omega) ho j2 (fun b hb hbu=>?_),zg0 (i2.trans j3) (by omega),i3.trans j3.own,i4.trans j3.funs,by simp only[Zx];omega,?_,r2,fun j u hj hju=>?_⟩
      ·rcases hbu with hbu|hbu
       ·exact .inl hbu
       ·exact .inr ⟨by omega,by omega⟩
      ·show ci ((layS τ t.args[i]).1.cells.set _ _) (σ.cells.length:Nat)=_;rw[hci _ (by omega),z4e j3.cells (by omega)];exact i6
      ·show RD _ _ (ci ((layS τ t.args[i]).1.cells.set (σ.cells.length+1+i) (layS τ t.args[i]).2) ((σ.cells.length+1+j:Nat):Int)) u;by_cases hji:j=i
       ·subst hji;rw[Zc hlt] at hju;cases hju;rw[z5p (by omega),if_pos rfl];exact(r1.low i5).set (by omega) (by omega) (by rw[ho];omega)
       ·rw[hci _ (by omega),z4e j3.cells (by omega)];exact((i8 j u (by omega) hju).grow j3 i1.lo).set (by omega) (by omega) (by rw[ho];omega)
    obtain⟨q1,q2,q3,q4,q5,q6,q7,q8⟩:=key t.args.length (Zd _);rw[List.take_length] at q1 q2 q3 q4 q5 q6 q7 q8;refine⟨?_,q7⟩;have et:t=.mk 5 t.name e0 0 0 t.args:=by
     conv=>lhs;rw[zg3 t]
     rw[k5,hbl.2.1 (by omega),hbl.2.2.1 (by omega),hbl.2.2.2.1 (by omega)]
    conv=>arg 4;rw[et]
    refine .str σ.cells.length (functorS σ (t.name,(t.args.length:Int))).2 t.name t.args (Zd _) (by simp only;omega) q6 (zdw q4 (zdx σ _)) (fun i hi=>by simp only;omega) fun i u hiu=>?_
    exact(q8 i u (List.getElem?_eq_some_iff.1 hiu).1 hiu).low (by omega)
   ·rw[z5j k1 k5];have ha:=zhv hc (t:=t) ⟨hf,k1,k5⟩;exact⟨.con _ t ha.1 (hbl.2.2.2.2 k5),ha.2⟩
end Go.Proofs.hq
end

section
namespace Go.Proofs.hq
open Go Go.RowKit Go.Hb
theorem zl2:∀n,Unb (mkN n)
 |0=>fun v k hv _ _=>by simp [mkN,noS] at hv
 |n+1=>fun v k hv hk hc=>by
  have h:=z4u n;have e1:(mkN (n+1)).vars=(mkN n).vars++[((mkN n).cells.length:Int)]:=rfl;have e2:(mkN (n+1)).cells=(mkN n).cells++[(1,((mkN n).vars.length:Int))]:=rfl;rw[e1] at hv hk;rw[e2] at hc ⊢;simp only[Zs,ZJ,List.length_nil] at hv hc;by_cases q:v < (mkN n).vars.length
  ·rw[z2d (List.prefix_append _ _) q] at hk;obtain⟨k',h1,h2,-⟩:=(zcc n).var v q;have:k=k':=by omega
   subst this;rw[z4e (List.prefix_append _ _) h2];exact zl2 n v k q hk h2
  ·have ev:v=(mkN n).vars.length:=by omega
   rw[ev,z9a] at hk;have ek:k=(mkN n).cells.length:=by omega
   rw[ek,zca,ev]
structure BI (ρ σ:SS) (w k:Nat):Prop where
 wf:WF noU σ
 tr:∀x∈σ.trail,TrOk σ x
 back:Back ρ σ
 mk0:σ.marks[0]?=some (lens ρ)
 fv:σ.vars.length≤6+k
 fc:σ.cells.length≤6+2*w+k
 fk:σ.consts.length≤w
 ff:σ.funs.length≤w
 ft:σ.trail.length≤k
 fm:σ.marks.length≤1+k
theorem BI.make {ρ σ:SS}{w k:Nat}(h:BI ρ σ w k):BI ρ (makeS σ) w (k+1):=by
 refine⟨zdt h.wf,fun x hx=>(h.tr x hx).grow (z5q σ),h.back.grow (z5q σ) rfl h.wf.lf h.tr,h.mk0,?_,?_,h.fk,h.ff,Nat.le_succ_of_le h.ft,Nat.le_succ_of_le h.fm⟩
 ·have:=h.fv;show (σ.vars++[_]).length≤_;simp;omega
 ·have:=h.fc;show (σ.cells++[_]).length≤_;simp;omega
theorem BI.lay {ρ σ:SS}{w k:Nat}(h:BI ρ σ w k) {t:Tm}(hb:BdA t):BI ρ (layV σ t).1 (w+nd t) k:=by
 obtain⟨a1,a2,a3,a4,a5,a6,a7,a8,a9⟩:=za8 h.wf hb;refine⟨a1,fun x hx=>?_,h.back.grow a2 a4 h.wf.lf h.tr,by rw[a5];exact h.mk0,by rw[a6];exact h.fv,by have:=h.fc;omega,by have:=h.fk;omega,by have:=h.ff;omega,by rw[a4];exact h.ft,by rw[a5];exact h.fm⟩;rw[a4] at hx;exact(h.tr x hx).grow a2
theorem BI.le {ρ σ:SS}{w k w' k':Nat}(h:BI ρ σ w k) (hw:w≤w') (hk:k≤k'):BI ρ σ w' k' :=
 ⟨h.wf,h.tr,h.back,h.mk0,by have:=h.fv;omega,by have:=h.fc;omega,by have:=h.fk;omega,by have:=h.ff;omega,by have:=h.ft;omega,by have:=h.fm;omega⟩
theorem BI.bind {ρ σ:SS}{w k:Nat}(h:BI ρ σ w k) (v:Int) (c:Int × Int):BI ρ (bindS σ v c).1 w (k+1):=by
 obtain⟨hw,hs⟩:=h.wf.bind (v:=v) (c:=c);have hbk:=h.back.bind (v:=v) (c:=c) h.wf;rcases hs with e|⟨n,k',rfl,hn,ek,hk,hcc,e⟩
 ·rw[e];exact h.le (Zd _) (Nat.le_succ _)
 ·rw[e] at hw hbk ⊢;refine⟨hw,fun x hx=>?_,hbk,h.mk0,Nat.le_succ_of_le h.fv,by simp only[Zx];exact Nat.le_succ_of_le h.fc,h.fk,h.ff,by have:=h.ft;simp;omega,Nat.le_succ_of_le h.fm⟩;have hx':x∈σ.trail++[(0,(n:Int))]:=hx;rcases List.mem_append.1 hx' with q|q
  ·exact(h.tr x q).same rfl (by simp)
  ·rw[List.mem_singleton] at q;subst q;exact⟨.inl rfl,n,k',rfl,hn,ek,by simp;exact hk⟩
theorem BI.mark {ρ σ:SS}{w k:Nat}(h:BI ρ σ w k):BI ρ { σ with marks:=σ.marks++[lens σ] } w (k+1) :=
 ⟨h.wf.other rfl,h.tr,h.back.marks _,by
  have hl:0 < σ.marks.length:=(List.getElem?_eq_some_iff.1 h.mk0).1;show (σ.marks++[_])[0]?=_;rw[ZD hl];exact h.mk0,Nat.le_succ_of_le h.fv,Nat.le_succ_of_le h.fc,h.fk,h.ff,Nat.le_succ_of_le h.ft,by have:=h.fm;simp;omega⟩
theorem BI.start {t:Tm}(hb:BdA t):BI (layV (mkN 6) t).1 { (layV (mkN 6) t).1 with marks:=(layV (mkN 6) t).1.marks++[lens (layV (mkN 6) t).1] } (nd t) 0:=by
 have h:=z4u 6;obtain⟨a1,a2,a3,a4,a5,a6,a7,a8,a9⟩:=za8 (zcc 6) hb;rw[h.2.2.2.2.2.2.1] at a4;rw[h.2.2.2.2.2.2.2] at a5;rw[h.2.1] at a7;rw[h.2.2.2.2.1] at a8;rw[h.2.2.2.2.2.1] at a9;have a6':(layV (mkN 6) t).1.vars.length=6:=by rw[a6];exact h.1
 refine⟨a1.other rfl,fun x hx=>?_,(Back.refl _).marks _,by rw[a5];rfl,Nat.le_of_eq a6',a7,by show (layV (mkN 6) t).1.consts.length≤_;simp only[List.length_nil] at a8;omega,by show (layV (mkN 6) t).1.funs.length≤_;simp only[List.length_nil] at a9;omega,by rw[a4];exact Zd _,by rw[a5];exact Zd _⟩;rw[a4] at hx;cases hx
theorem BI.undo {ρ σ:SS}{w k:Nat}(h:BI ρ σ w k) (hρ:WF noU ρ):undoS σ 0 ρ.trail.length ρ.cells.length ρ.vars.length={ ρ with consts:=σ.consts,funs:=σ.funs,marks:=σ.marks.take 1 } :=
 (zhu (n:=0) h.back).resolve_right fun q=>by rcases q with q|q;exact q hρ.lf;exact q hρ.lo
theorem BI.grow {ρ σ:SS}{w k:Nat}(h:BI ρ σ w k):Grow ρ { ρ with consts:=σ.consts,funs:=σ.funs,marks:=σ.marks.take 1 }:=(Grow.undo h.back).other _ _
theorem BI.few {ρ σ:SS}{w k n:Nat}(h:BI ρ σ w k) (hw:w+n≤149796) (hk:k≤149796):σ.cells.length+2*n+1≤most∧σ.own.length+1≤most∧σ.vars.length+1≤most∧σ.flags.length+1≤most∧σ.consts.length+n≤most∧σ.funs.length+n≤most∧σ.trail.length+1≤most∧σ.marks.length+1≤most:=by
 have:=h.fc;have:=h.fk;have:=h.ff;have:=h.fv;have:=h.ft;have:=h.fm;have:=h.wf.lo;have:=h.wf.lf;unfold most;omega
end Go.Proofs.hq
end

section
namespace Go.Proofs.hq
open Go Go.RowKit Go.Hb
variable {ok:Ok}
set_option maxRecDepth 10000
attribute [local irreducible] LX LG EL STG SOP SGO SGD SAL SRD SEF SEG SLK SCK ES
structure OpV where
 kind:Int
 num:Int
 tm:Tm
 cell:Int × Int
structure RepO15 (H:Heap) (B:List OpV) (a:Option Addr) (c:Nat):Prop where
 len:B.length≤c
 cap:c≤maxLen
 el:∀(i:Nat) (h:i < B.length),∃b o a' c',a=some ⟨b,o,none⟩∧H.load ⟨b,o+i*15+1,none⟩ 1=some [.int .i64 B[i].kind]∧H.load ⟨b,o+i*15+2,none⟩ 1=some [.int .i64 B[i].num] ∧
  H.load ⟨b,o+i*15+3,none⟩ 6=some (six B[i].tm a' c')∧H.load ⟨b,o+i*15+9,none⟩ 2=some [.int .i64 B[i].cell.1,.int .i64 B[i].cell.2]∧RepT H B[i].tm (six B[i].tm a' c')
theorem RepO15.mono {H H':Heap}{B:List OpV}{a:Option Addr}{c:Nat}(h:RepO15 H B a c) (hx:HX H H') (hw:H.wf):RepO15 H' B a c :=
 ⟨h.len,h.cap,fun i hi=>by obtain⟨b,o,a',c',e,l1,l2,l3,l4,r⟩:=h.el i hi;exact⟨b,o,a',c',e,hx.load hw l1,hx.load hw l2,hx.load hw l3,hx.load hw l4,r.mono hx hw⟩⟩
set_option maxHeartbeats 4000000 in
theorem zpt {H:Heap}{B s n:Nat}{σ:SS}(hs:St H B s σ) (hw:H.wf) (hn:n < σ.cells.length) :
  EvF Tryd.prog okT 63 [.pointer (some ⟨s,0,none⟩),.int .i64 (n:Nat)] H fun r H'=>r=.tuple ⟨[.agg ⟨two (ci σ.cells n)⟩,.int .i64 0]⟩∧HX H H':=by
 refine EvF.enter rfl Tryd.func63 (by decide) rfl ?_;(repeat refine EvC.seq ?_);refine EvC.reg ?_;simp (config := { maxSteps := 2000000 }) (disch:=first|omega|rfl) only[sA,initTm,dAlloc,zr29];obtain⟨H1,e1,hx1,g1,n1,w1⟩:=new1 hw (.row (two (0,0)) 29);simp only[e1];have hs1:=hs.keep hw hx1;obtain⟨a0,c0,a1,c1,a2,c2,a3,c3,a4,c4,a5,c5,r6,r7,a8,c8,a9,c9,h,l0,l1,l2,l3,l4,l5,l6,l7,l8,l9,b0,b1,b2,b3,b4,b5,b8,b9⟩:=hs1.open;obtain⟨b,rfl,o,ld⟩:=h.el (i:=0) (k:=n) (x:=two (ci σ.cells n)) rfl rfl (by rw[Zl,z3m hn];rfl);have d1:decide ((n:Int) < 0)=false:=decide_eq_false (by omega);have d2:decide ((n:Int) ≥ (σ.cells.length:Int))=false:=decide_eq_false (by omega)
 repeat' (first|refine EvC.seq ?_|refine EvC.block ?_|(refine EvC.skip ?_;try simp only[sA])|(refine EvC.ret ?_)|(refine EvC.reg ?_;simp (config := { maxSteps := 2000000 }) (disch:=first|omega|rfl) only[sB,Za,Zb,one,reduceCtorEq,st29,z1t,ld64,ln64,ia64,ld29,z06,z0a,bEqP,l0,ld,d1,d2,g1,Zg])|(refine EvC.condF ?_ ?_;simp (config := { maxSteps := 2000000 }) (disch:=first|omega|rfl) only[sB,Za,reduceCtorEq];refine z01 ?_))
 exact z0c rfl (by simp only[sB,Za,reduceCtorEq];rfl) (by simp only[sB,Zb,cutC,ld29]) (by simp only[sG,Za,reduceCtorEq]) ⟨rfl,hx1.pt (Zd _) g1 _⟩
section
variable {P:Program}{ok:Ok}{fn:Func}{tm:Tr Value}{H:Heap}{K:Value→Heap→Prop}
theorem z6j {a q r:Tmp}{t:TypeId}{ad:Addr}{v u y:Value}(h:fn.results.toList=[.cell a t,.tmp q,.tmp r]) (hv:tm.get a=some (.pointer (some ad))) (hd:dLoad P t (.pointer (some ad)) H=some (.val v H)) (hu:tm.get q=some u) (hy:tm.get r=some y)
  (hk:K (.tuple ⟨[v,u,y]⟩) H):Ex.leave P ok fn K .ret ⟨tm,[],H⟩:=by
 refine EvV.now (v:=.tuple ⟨[v,u,y]⟩) ?_ hk;have hd':dload P t ad H=some v:=by
  simp only[dLoad] at hd;cases hx:dload P t ad H with
  |none=>rw[hx] at hd;cases hd
  |some u=>rw[hx] at hd;simp only[Option.map_some,Option.some.injEq,Dr.val.injEq] at hd;rw[hd.1]
 simp only[dres,h,dresL,dres1,hv,hd',hu,hy,Option.getD_some]
end
theorem z5r {cells:List (Int × Int)}{m:Nat}{c d:Int × Int}(h:Der cells m c d) (hc:c.1≠2):d=c:=by
 cases h with
 |stop _=>rfl
 |var k=>exact absurd k hc
 |go k=>exact absurd k hc
set_option maxHeartbeats 4000000 in
theorem zhw {H:Heap}{B s j:Nat}{σ:SS}{t:Tm}(hs:St H B s σ) (hw:H.wf) (ho:σ.own.length=σ.cells.length) (hj:σ.consts[j]?=some t) :
  EvF Tryd.prog okT 40 [.pointer (some ⟨s,0,none⟩),.agg ⟨two (3,(j:Int))⟩] H fun r H'=>r=.tuple ⟨[.agg ⟨six0 t⟩,.int .i64 0]⟩∧HX H H':=by
 have hjl:=(List.getElem?_eq_some_iff.1 hj).1;have hmay:mayS σ (3,(j:Int))=true:=by
  unfold mayS;rw[if_pos rfl];exact decide_eq_true ⟨by simp only;omega,by simp only;omega⟩
 refine EvF.enter rfl Tryd.func40 (by decide) rfl ?_;(repeat refine EvC.seq ?_);refine EvC.reg ?_;simp (config := { maxSteps := 2000000 }) (disch:=first|omega|rfl) only[sB,initTm,dBox,dAlloc,Value.cells,one,reduceCtorEq,zr25];obtain⟨H1,e1,hx1,g1,g2,n1,w1⟩:=new2 hw (.row (two (3,(j:Int))) 29) (.row zero6 25);simp only[e1];have q1:=z0s g1;(repeat refine EvC.seq ?_);refine EvC.reg ?_;simp (config := { maxSteps := 2000000 }) (disch:=first|omega|rfl) only[sB,Za,reduceCtorEq,ld29,cl23,q1];refine(z3t (hs.keep hw hx1) w1 ho (fun _=>⟨0,_,Der.stop (c:=(3,(j:Int))) (show (3:Int)≠2 by decide)⟩)).mono ?_;rintro r H2 ⟨d,e,rfl,hd,hx2⟩;rw[if_pos hmay] at hd;obtain⟨rfl,m,hdr⟩:=hd;have hdd:=z5r hdr (show (3:Int)≠2 by decide);subst hdd;(try simp (config := { maxSteps := 2000000 }) (disch:=first|omega|rfl) only[sB,dAlloc,Za,Zb,one,reduceCtorEq,zr29,st29]);obtain⟨H3,e3,hx3,g3,n3,w3⟩:=z0k hx2.wf (.row [.int .i64 0,.int .i64 0] 29) (.row (two (3,(j:Int))) 29);simp only[e3];have q3:=z0s g3;have hx13:=hx2.trans hx3;have hs3:=(hs.keep hw hx1).keep w1 hx13;have g2:=hx13.get w1 g2
 obtain⟨a0,c0,a1,c1,a2,c2,a3,c3,a4,c4,a5,c5,r6,r7,a8,c8,a9,c9,h,l0,l1,l2,l3,l4,l5,l6,l7,l8,l9,b0,b1,b2,b3,b4,b5,b8,b9⟩:=hs3.open;obtain⟨b,rfl,o,ld⟩:=h.el (i:=4) (k:=j) (x:=six0 t) rfl rfl (by rw[Zl,hj];rfl)
 repeat' (first|refine EvC.seq ?_|refine EvC.block ?_|(refine EvC.skip ?_;try simp only[sA])|(refine EvC.ret ?_)|(refine EvC.reg ?_;simp (config := { maxSteps := 2000000 }) (disch:=first|omega|rfl) only[sB,Za,reduceCtorEq,z14,ld3,q3,z22 rfl])|(refine EvC.drw [([(0,0),(1,0),(2,0),(3,0),(4,0),(5,0),(6,0),(7,0)],some 8),([(9,1)],none)] ?_ ?_;kernel_rfl;simp (config := { maxSteps := 2000000 }) (disch:=first|omega|rfl) only[sD,sB,Za,Zb,one,reduceCtorEq,st25,ld3,z8y,ld23,z1i,ia23,ld25,z06,z0a,l4,ld,q3,g2,isAlloc,isRead])|(refine EvC.condF ?_ ?_;simp (config := { maxSteps := 2000000 }) (disch:=first|omega|rfl) only[sB,Za,reduceCtorEq];refine z01 ?_))
 exact z0c rfl (by simp only[sB,Za,reduceCtorEq];rfl) (by simp only[sB,Zb,cutC,ld25]) (by simp only[sG,Za,reduceCtorEq]) ⟨rfl,((hx1.trans hx13).bump 10).pt (by omega) (show Heap.get ⟨H3.next+10,H3.t⟩ _=_ from g2) _⟩
theorem isSC:isSl Tryd.prog 64=true:=by kernel_rfl
theorem zs1 {H:Heap}{x y:Operand}{a:Addr}{n c:Nat}:dBin Tryd.prog .eql 64 x y (.slice (some a) n c) (.slice none 0 0) H=some (.val (.bool false) H):=by
 simp only[dBin,dnil,isSC,nilEq,if_true]
set_option maxHeartbeats 4000000 in
theorem zmx {H:Heap}{L:List (Int × Int)}{b o c:Nat}(hw:H.wf) (h0:0 < L.length) (hm:L.length≤most) (hl:H.load ⟨b,o,none⟩ (L.length*2)=some (L.map two).flatten) :
  EvF Tryd.prog okT 42 [.slice (some ⟨b,o,none⟩) L.length c] H fun r H'=>HX H H'∧∃p,r=.slice (some ⟨p,0,none⟩) L.length L.length∧H'.get p=some (.row (L.map two).flatten 29)∧H.next≤p:=by
 have ean:apOk Tryd.prog 64 29 2:=ap64;have hone:(L.map two).flatten.all one=true:=by
  rw[List.all_eq_true];intro z hz;obtain⟨l,hl1,hl2⟩:=List.mem_flatten.1 hz;obtain⟨x,-,rfl⟩:=List.mem_map.1 hl1;simp only[List.mem_cons,List.not_mem_nil,or_false] at hl2;rcases hl2 with rfl|rfl<;>rfl
 refine EvF.enter rfl Tryd.func42 (by decide) rfl ?_;(repeat refine EvC.seq ?_);refine EvC.reg ?_;simp (config := { maxSteps := 2000000 }) (disch:=first|omega|rfl) only[sA,initTm];(repeat refine EvC.seq ?_);refine EvC.reg ?_;simp (config := { maxSteps := 2000000 }) (disch:=first|omega|rfl) only[sB,Za,reduceCtorEq,zs1];refine EvC.condF (by simp (config := { maxSteps := 2000000 }) (disch:=first|omega|rfl) only[sB,Za,reduceCtorEq]) ?_;(try refine EvC.skip ?_);(try simp only[z00,z0m]);obtain⟨H1,e1,hx1,g1,n1,w1⟩:=new1 hw (.row [] 29);have e7:=z4n (P:=Tryd.prog) (n:=0) (c:=0) (c':=c) ean h0 (by omega) (hx1.load hw hl) hone g1 (by simp) (by simp);simp only[Nat.zero_add,Nat.zero_mul,List.take_zero,List.nil_append] at e7;have hx2:=(hx1.put (i:=H.next) (Zd _) (by omega) none).new (some (.row (L.map two).flatten 29))
 repeat' (first|refine EvC.seq ?_|(refine EvC.ret ?_)|(refine EvC.reg ?_;simp (config := { maxSteps := 2000000 }) (disch:=first|omega|rfl) only[sB,Za,Value.cells,reduceCtorEq,layC,zqp,e1,e7]))
 exact z03 rfl (by simp only[sB,Za,reduceCtorEq]) ⟨hx2,_,rfl,z0u,by show H.next≤H1.next;omega⟩
set_option maxHeartbeats 4000000 in
theorem za9 {H:Heap}{B s p f:Nat}{σ:SS}{nm:ByteArray}{n:Nat}(hs:St H B s σ) (hw:H.wf) (ho:σ.own.length=σ.cells.length) (hmay:mayS σ (4,(p:Int))=true) (hn1:0 < n) (hn2:n≤64) (h1:ci σ.cells p=(5,(f:Int))) (h2:σ.funs[f]?=some (nm,(n:Int))) (h3:p+1+n≤σ.cells.length) (hp:p < σ.cells.length) :
  EvF Tryd.prog okT 26 [.pointer (some ⟨s,0,none⟩),.agg ⟨two (4,(p:Int))⟩] H fun r H'=>HX H H'∧∃q,r=.tuple ⟨[.agg ⟨keyC (nm,(n:Int))⟩,.slice (some ⟨q,0,none⟩) n n,.int .i64 0]⟩∧H'.get q=some (.row (((σ.cells.drop (p+1)).take n).map two).flatten 29)∧H.next≤q:=by
 have hfl:=(List.getElem?_eq_some_iff.1 h2).1;refine EvF.enter rfl Tryd.func26 (by decide) rfl ?_;(repeat refine EvC.seq ?_);refine EvC.reg ?_;simp (config := { maxSteps := 2000000 }) (disch:=first|omega|rfl) only[sB,initTm,dBox,dAlloc,Value.cells,one,reduceCtorEq,zr63];obtain⟨H1,e1,hx1,g1,g2,n1,w1⟩:=new2 hw (.row (two (4,(p:Int))) 29) (.row (keyC (Ze,0)) 63);simp only[e1];have q1:=z0s g1;(repeat refine EvC.seq ?_);refine EvC.reg ?_;simp (config := { maxSteps := 2000000 }) (disch:=first|omega|rfl) only[sB,Za,reduceCtorEq,ld29,cl23,q1];refine(z3t (hs.keep hw hx1) w1 ho (fun _=>⟨0,_,Der.stop (c:=(4,(p:Int))) (show (4:Int)≠2 by decide)⟩)).mono ?_;rintro r H2 ⟨d,e,rfl,hd,hx2⟩;rw[if_pos hmay] at hd;obtain⟨rfl,m,hdr⟩:=hd;have hdd:=z5r hdr (show (4:Int)≠2 by decide);subst hdd;(try simp (config := { maxSteps := 2000000 }) (disch:=first|omega|rfl) only[sB,dAlloc,Za,Zb,one,reduceCtorEq,zr29,st29]);obtain⟨H3,e3,hx3,g3,n3,w3⟩:=z0k hx2.wf (.row [.int .i64 0,.int .i64 0] 29) (.row (two (4,(p:Int))) 29);simp only[e3];have q3:=z0s g3;have hx13:=hx2.trans hx3;have hs3:=(hs.keep hw hx1).keep w1 hx13;have g2:=hx13.get w1 g2
 obtain⟨a0,c0,a1,c1,a2,c2,a3,c3,a4,c4,a5,c5,r6,r7,a8,c8,a9,c9,h,l0,l1,l2,l3,l4,l5,l6,l7,l8,l9,b0,b1,b2,b3,b4,b5,b8,b9⟩:=hs3.open;obtain⟨b,rfl,o,ld⟩:=h.el (i:=0) (k:=p) (x:=two (ci σ.cells p)) rfl rfl (by rw[Zl,z3m hp];rfl);obtain⟨b2,rfl,o2,ld2⟩:=h.el (i:=5) (k:=f) (x:=keyC (nm,(n:Int))) rfl rfl (by rw[Zl,h2];rfl);have lp:=o.part (i:=p) (j:=1) (n:=1) (x:=two (ci σ.cells p)) (by rw[Zl,z3m hp];rfl) (by omega);have lp':H3.load ⟨b,p*2+1,none⟩ 1=some [.int .i64 (f:Nat)]:=by rw[lp,h1];rfl
 obtain⟨H4,e4,hx4,g4,w4⟩:=zmt w3 17 15 (by omega) (.row [.string Ze,.int .i64 0] 63) (.row (keyC (nm,(n:Int))) 63);have q4:=z0s g4;have l0x:=hx4.load w3 l0;have q3x:=z0s (hx4.get w3 g3);have hc0:=b0.2;have hml:maxLen=9223372036854775807:=rfl;have hbl:=b0.1;have e5:IntKind.i64.wrap ((p:Int)+1)=((p+1:Nat):Int):=by rw[z0b]<;>omega
 have e6:IntKind.i64.wrap (((p+1:Nat):Int)+(n:Int))=((p+1+n:Nat):Int):=by rw[z0b]<;>omega
 obtain⟨cs0,gcs,hcs1,hcs2⟩:=o.row;have hx5:HX H4 ⟨H4.next+19,H4.t⟩:=(HX.refl w4).bump 19;have gcs5:=hx5.get w4 (hx4.get w3 gcs);have es:=zm3 (P:=Tryd.prog) (t:=64) (k:=.i64) (k':=.i64) (o:=0) (n:=σ.cells.length) (c:=c0) (l:=p+1) (m:=p+1+n) sl64 (by omega) (by omega) (by omega) (by omega) gcs5 (.inl ⟨_,rfl⟩);rw[show p+1+n - (p+1)=n by omega,Nat.zero_add] at es;have hL:((σ.cells.drop (p+1)).take n).length=n:=by rw[Zt,List.length_drop];omega
 have hfl2:∀l:List (Int × Int),(l.map two).flatten.length=l.length*2:=fun l=>by rw[z2u (s:=2) _ (fun x hx=>by obtain⟨y,-,rfl⟩:=List.mem_map.1 hx;rfl),Zn]
 have hld:Heap.load ⟨H4.next+19,H4.t⟩ ⟨b,(p+1)*2,none⟩ (((σ.cells.drop (p+1)).take n).length*2)=some ((((σ.cells.drop (p+1)).take n).map two).flatten):=by
  rw[hL];unfold Heap.load Heap.cells;simp only[gcs5];have hz:(σ.cells.map two).length*2≤cs0.length:=hcs1;rw[Zn] at hz;have e1:(cs0.drop ((p+1)*2)).take (n*2)=(((σ.cells.drop (p+1)).take n).map two).flatten:=by
   have e2:(cs0.drop ((p+1)*2)).take (n*2)=((cs0.take (σ.cells.length*2)).drop ((p+1)*2)).take (n*2):=by
    rw[List.drop_take,List.take_take,Nat.min_eq_left (by omega)]
   have e3:cs0.take (σ.cells.length*2)=(σ.cells.map two).flatten:=by have:=hcs2;rwa [Zn] at this
   rw[e2,e3];have e4:(σ.cells.map two).flatten=((σ.cells.take (p+1)).map two).flatten++(((σ.cells.drop (p+1)).take n).map two).flatten++(((σ.cells.drop (p+1)).drop n).map two).flatten:=by
    rw[←List.flatten_append,←List.flatten_append,←ZE,←ZE,ZI,List.take_append_drop,List.take_append_drop]
   rw[e4,ZI,List.drop_left' (by rw[hfl2,Zt];omega),List.take_left' (by rw[hfl2,hL])]
  rw[if_pos (by rw[Zr,Zt,List.length_drop];omega),e1]
 repeat' (first|refine EvC.seq ?_|refine EvC.block ?_|(refine EvC.skip ?_;try simp only[sA])|(refine EvC.reg ?_;simp (config := { maxSteps := 2000000 }) (disch:=first|omega|rfl) only[sB,Za,reduceCtorEq,z14,ld3,q3,z22 rfl])|(refine EvC.drw (id:=6) [([(0,0),(1,0),(2,0),(3,0),(4,0),(5,0),(6,0),(7,0),(8,0),(9,0),(10,0),(11,0),(12,0),(13,0),(14,0),(15,0)],some 16),([],none)] ?_ ?_;kernel_rfl;simp (config := { maxSteps := 2000000 }) (disch:=first|omega|rfl) only[sD,sB,dAlloc,Za,Zb,one,reduceCtorEq,zr63,st63,ld3,zfg,ld82,z1t,ld64,z1i,ia64,ia82,ld63,z06,z0a,q3,l0,l5,lp',ld2,e4,isAlloc,isRead,dalloc])|(refine EvC.drw (id:=7) [([(1,0),(2,0),(3,0),(4,0),(5,0),(6,0),(7,0),(8,0),(9,0),(10,0),(11,0),(12,0),(13,0),(14,0)],some 15),([(0,0)],some 16),([(17,2),(18,2)],none)] ?_ ?_;kernel_rfl;simp (config := { maxSteps := 2000000 }) (disch:=first|omega|rfl) only[sD,sB,Za,Zb,reduceCtorEq,ld3,z1t,ld64,z1i,zbh,cl42,z06,z0a,q4,l0x,q3x,e5,e6,es,isAlloc,isRead])|(refine EvC.condF ?_ ?_;simp (config := { maxSteps := 2000000 }) (disch:=first|omega|rfl) only[sB,Za,reduceCtorEq];refine z01 ?_))
 rw[←hL];refine(zmx hx5.wf (by rw[hL];exact hn1) (by rw[hL];unfold most;omega) hld).mono ?_;rintro v H6 ⟨hx6,q,rfl,gq,hq⟩;have g26:=hx6.get hx5.wf (hx5.get w4 (hx4.get w3 g2));rw[hL];have q46:=z0s (hx6.get hx5.wf (hx5.get w4 g4))
 repeat' (first|(refine EvC.ret ?_)|(refine z2r ?_;simp (config := { maxSteps := 2000000 }) (disch:=first|omega|rfl) only[sV,sD,sB,Za,Zb,one,reduceCtorEq,st63,ld63,g26,q46,q4,isAlloc,isRead]))
 have hxE:=((hx1.trans hx13).trans (hx4.trans hx5)).trans hx6;have nq:H4.next+19≤q:=hq;have n4:=(hx1.trans (hx13.trans hx4)).next;have hz:=hxE.pt (i:=H.next+1) (by omega) g26 (some (.row (keyC (nm,(n:Int))) 63));refine z6j rfl (by simp only[sB,Za,reduceCtorEq];rfl) (by simp only[sB,Zb,cutC,ld63]) (by simp only[sG,Za,reduceCtorEq]) (by simp only[sG,Za,reduceCtorEq]) ⟨hz,q,rfl,?_,by omega⟩;rw[get_put,if_neg (by omega)];exact gq
end Go.Proofs.hq
end

section
namespace Go.Proofs.hq
open Go Go.RowKit Go.Hb
def flatT (t:Tm):Tm:=if t.kind=5 then .mk 5 t.name Ze 0 0 (Zu t.args.length (.mk 2 ⟨#[97]⟩ Ze 0 0 [])) else t
def ordP:List (Tm × Tm)→Int
 |[]=>0
 |p :: r=>orZ (ordT p.1 p.2) (ordP r)
theorem zce (a b c:Int):orZ (orZ a b) c=orZ a (orZ b c):=by unfold orZ;split<;>simp_all
theorem zrf (a:Int):orZ a 0=a:=by unfold orZ;split<;>simp_all
theorem zcf (a:Int):orZ 0 a=a:=by unfold orZ;simp
theorem zg4:∀a b:List (Tm × Tm),ordP (a++b)=orZ (ordP a) (ordP b)
 |[],b=>(zcf _).symm
 |p :: a,b=>by rw[List.cons_append,ordP,ordP,zg4 a b,zce]
theorem zg5:∀l l':List Tm,l.length=l'.length→ordP (l.zip l')=ordL l l'
 |[],[],_=>by rw[z5o];rfl
 |t :: l,t' :: l',h=>by rw[List.zip_cons_cons,ordP,zc5,zg5 l l' (by simpa using h)]
 |[],_ :: _,h=>by simp at h
 |_ :: _,[],h=>by simp at h
theorem z3w (t:Tm):(flatT t).kind=t.kind:=by unfold flatT;split<;>simp_all [Tm.kind]
theorem zcg {t t':Tm}(h1:1≤t.kind∧t.kind≤5) (h2:1≤t'.kind∧t'.kind≤5) :
  ordT t t'=orZ (ordT (flatT t) (flatT t')) (if t.kind=5 then ordL t.args t'.args else 0)∧(ordT (flatT t) (flatT t')=0→t.kind=t'.kind∧(t.kind=5→t.args.length=t'.args.length)):=by
 rw[zds h1 h2,zds (t:=flatT t) (t':=flatT t') (by rw[z3w];exact h1) (by rw[z3w];exact h2),z3w,z3w];by_cases hc:cmpZ (rankZ t.kind) (rankZ t'.kind)=0;rotate_left
 ·have e:∀b,orZ (cmpZ (rankZ t.kind) (rankZ t'.kind)) b=cmpZ (rankZ t.kind) (rankZ t'.kind):=fun b=>by unfold orZ;rw[if_neg hc]
  rw[e,e,e];exact⟨rfl,fun h=>absurd h hc⟩
 have hk:=z84 h1.1 h1.2 h2.1 h2.2 (z1a.1 hc);rw[hc,zcf,zcf];by_cases k5:t.kind=5;rotate_left
 ·have e1:flatT t=t:=by unfold flatT;rw[if_neg k5]
  have e2:flatT t'=t':=by unfold flatT;rw[if_neg (by rw[←hk];exact k5)]
  rw[e1,e2,if_neg k5,zrf];exact⟨rfl,fun _=>⟨hk,fun h=>absurd h k5⟩⟩
 ·have k5':t'.kind=5:=by rw[←hk];exact k5
  have r1:restZ t t'=orZ (headZ t t') (ordL t.args t'.args):=by unfold restZ;rw[if_neg (by omega),if_neg (by omega),if_neg (by omega)]
  have e1:flatT t=.mk 5 t.name Ze 0 0 (Zu t.args.length (.mk 2 ⟨#[97]⟩ Ze 0 0 [])):=by unfold flatT;rw[if_pos k5]
  have e2:flatT t'=.mk 5 t'.name Ze 0 0 (Zu t'.args.length (.mk 2 ⟨#[97]⟩ Ze 0 0 [])):=by unfold flatT;rw[if_pos k5']
  have r2:restZ (flatT t) (flatT t')=orZ (headZ t t') (ordL (flatT t).args (flatT t').args):=by
   unfold restZ;rw[z3w,if_neg (by omega),if_neg (by omega),if_neg (by omega)];congr 1;unfold headZ;rw[e1,e2];show orZ (cmpZ ((Zu t.args.length _).length:Int) ((Zu t'.args.length _).length:Int)) _=_;rw[List.length_replicate,List.length_replicate];rfl
  rw[r1,r2,if_pos k5];by_cases hh:headZ t t'=0;rotate_left
  ·have e:∀b,orZ (headZ t t') b=headZ t t':=fun b=>by unfold orZ;rw[if_neg hh]
   rw[e,e,e];exact⟨rfl,fun h=>absurd h hh⟩
  have hl:=za7 hh;rw[hh,zcf,zcf,e1,e2];have hz:ordL (Tm.mk 5 t.name Ze 0 0 (Zu t.args.length (.mk 2 ⟨#[97]⟩ Ze 0 0 []))).args (Tm.mk 5 t'.name Ze 0 0 (Zu t'.args.length (.mk 2 ⟨#[97]⟩ Ze 0 0 []))).args=0:=by
   show ordL (Zu t.args.length _) (Zu t'.args.length _)=0;rw[hl];exact z5o _
  rw[hz,zcf];exact⟨rfl,fun _=>⟨hk,fun _=>hl⟩⟩
end Go.Proofs.hq
end

section
namespace Go.Proofs.hq
open Go Go.RowKit Go.Hb
variable {ok:Ok}
set_option maxRecDepth 10000
attribute [local irreducible] LX LG EL STG SOP SGO SGD SAL SRD SEF SEG SLK SCK ES
mutual
def sub (σ:Int→Tm):Tm→Tm
 |.mk k s u b v l=>if k=1 then σ v else .mk k s u b v (subL σ l)
def subL (σ:Int→Tm):List Tm→List Tm
 |[]=>[]
 |t :: l=>sub σ t :: subL σ l
end
theorem zg6 (σ:Int→Tm):∀l:List Tm,subL σ l=l.map (sub σ)
 |[]=>by rw[subL];rfl
 |t :: l=>by rw[subL,zg6 σ l];rfl
theorem z88 {σ:Int→Tm}{t:Tm}(h:t.kind=1):sub σ t=σ t.var:=by
 obtain⟨k,s,u,b,v,l⟩:=t;rw[sub,if_pos (show k=1 from h)];rfl
theorem zl3 {σ:Int→Tm}{t:Tm}(h:t.kind≠1):sub σ t=.mk t.kind t.name t.num t.bits t.var (t.args.map (sub σ)):=by
 obtain⟨k,s,u,b,v,l⟩:=t;rw[sub,if_neg (show ¬k=1 from h),zg6];rfl
structure ByAll (g:FuncId) (cap:Array Value) (σ:Int→Tm) (J:Heap→Prop):Prop where
 step:∀n H,i64 n→J H→H.wf→EvF Tryd.prog okT g ([.int .i64 n]++cap.toList) H fun v H'=>(∃cs,v=.tuple #[.agg ⟨cs⟩,.bool true]∧RepT H' (σ n) cs)∧HX H H'
 stay:∀H H',J H→HX H H'→J H'
 fine:∀n,0≤n→Fine (σ n)
set_option maxHeartbeats 4000000 in
theorem zl4 {g:FuncId}{cap:Array Value}{σ:Int→Tm}{J:Heap→Prop}(hg:callable Tryd.prog g=true) (B:ByAll g cap σ J) {m:Nat}:∀{t:Tm}{cs:List Value}{H:Heap},SizeOf.sizeOf t < m→RepT H t cs→Fine t→J H→H.wf →
  EvF Tryd.prog okT 53 [.agg ⟨cs⟩,.func (.func g) #[] cap] H fun v H'=>∃cs',v=.agg ⟨cs'⟩∧RepF H' 25 (Rg H.next H'.next) (sub σ t) cs'∧HX H H':=by
 induction m with
 |zero=>intro t cs H h;omega
 |succ m ih =>
 intro t cs H hsz r hf hj hw;have hbd:=r.bd;have hfew:=z3k hf;have hvar:=(z0j hf.node).2.2.2.1;obtain⟨a,c,cells,rfl,-,-,-,-,-,rl⟩:=r.six;refine EvF.enter rfl Tryd.func53 (by decide) rfl ?_;(repeat refine EvC.seq ?_);refine EvC.reg ?_;simp (config := { maxSteps := 2000000 }) (disch:=first|omega|rfl) only[sB,initTm,dBox,dAlloc,Value.cells,one,reduceCtorEq,zr25];obtain⟨H2,e2,hx2,gp,gq,hn2,hw2⟩:=new2 hw (.row (six t a c) 25) (.row zero6 25);simp only[e2];have q1:=row6 gp;clear e2;have hmost:t.args.length≤most:=by unfold most;omega
 have ne1:(H.next+1=H.next)=False:=by simp
 have ne2:(H.next=H.next+1)=False:=by simp
 by_cases k1:t.kind=1
 ·repeat' (first|refine EvC.seq ?_|(refine EvC.reg ?_;simp (config := { maxSteps := 2000000 }) (disch:=first|omega|rfl) only[sB,Za,reduceCtorEq,z1y,ld3,zbg,q1,z13 k1,z7e,z4o hg])|(refine EvC.condT ?_ ?_;simp (config := { maxSteps := 2000000 }) (disch:=first|omega|rfl) only[sB,Za,reduceCtorEq];refine z01 ?_))
  refine(B.step t.var H2 hbd.var (B.stay _ _ hj hx2) hw2).mono ?_;rintro v H3 ⟨⟨cs,rfl,r3⟩,hx3⟩;obtain⟨a3,c3,zju,rfl,-⟩:=r3.six;have gq3:=hx3.get hw2 gq
  repeat' (first|refine EvC.seq ?_|(refine EvC.reg ?_;simp (config := { maxSteps := 2000000 }) (disch:=first|omega|rfl) only[sB,Za,Zb,reduceCtorEq,cutC,ld25,cl69])|(refine z0n ?_;simp (config := { maxSteps := 2000000 }) (disch:=first|omega|rfl) only[sB,dAlloc,Za,Zb,one,reduceCtorEq,zr25,st25])|(refine EvC.condT ?_ ?_;simp (config := { maxSteps := 2000000 }) (disch:=first|omega|rfl) only[sB,Za,reduceCtorEq];refine z01 ?_))
  obtain⟨H4,e4,hx4,g4,hn4,hw4⟩:=z0k hx3.wf (.row zero6 25) (.row (six (σ t.var) a3 c3) 25);simp only[e4];have hx34:=hx3.trans hx4;refine(zk0 (Zf _) (r3.mono hx4 hx3.wf) (B.fine _ hvar) hw4).mono ?_;rintro v H5 ⟨c5,rfl,⟨a5,k5,rfl,hb5,hf5⟩,hx5⟩;have gq5:=hx5.get hw4 (hx4.get hx3.wf gq3);have hx25:=hx34.trans hx5;have n24:=hx34.next;have n25:=hx25.next
  repeat' (first|(refine EvC.ret ?_;try simp only[z05,z04])|(refine z0n ?_;simp (config := { maxSteps := 2000000 }) (disch:=first|omega|rfl) only[sB,Zb,one,st25,gq5]))
  refine z0f rfl (by simp only[sB,Za,reduceCtorEq];rfl) (by simp only[sB,Zb,cutC,ld25];rfl) ⟨_,rfl,⟨a5,k5,by rw[z88 k1],by rw[z88 k1];exact hb5,?_⟩,(hx2.trans hx25).pt (by omega) gq5 _⟩;rw[z88 k1];refine(hf5.heap (fun n hn _=>?_) hx5.wf).sub fun n hn=>⟨by have:=hn.1;omega,hn.2⟩
  have:=hn.1;rw[get_put,if_neg (by omega)]
 have hsub:=zl3 (σ:=σ) k1;have hsa:(sub σ t).args=t.args.map (sub σ):=by rw[hsub];rfl
 have hbd':Bd (sub σ t):=by rw[hsub];exact⟨hbd.kind,hbd.name,hbd.num,hbd.bits,hbd.var⟩
 have hsix:∀a c,six (sub σ t) a c=[.int .i64 t.kind,.string t.name,.string t.num,.int .u64 t.bits,.int .i64 t.var,.slice a t.args.length c]:=fun a c=>by rw[hsub];simp [six,Tm.kind,Tm.name,Tm.num,Tm.bits,Tm.var,Tm.args]
 by_cases h0:t.args.length=0
 ·have h0':(t.args.length:Int)=0:=by omega
  have he:t.args=[]:=List.length_eq_zero_iff.1 h0
  repeat' (first|refine EvC.seq ?_|(refine EvC.skip ?_;try simp only[z00])|(refine EvC.ret ?_;try simp only[z05,z04])|(refine EvC.reg ?_;simp (config := { maxSteps := 2000000 }) (disch:=first|omega|rfl) only[sB,Za,Zb,one,reduceCtorEq,cutC,z1y,ld3,st25,ld25,z1l,ld23,ln23,st23,q1,gp,gq,z0p k1,z13 h0',ne1])|(refine EvC.condT ?_ ?_;simp (config := { maxSteps := 2000000 }) (disch:=first|omega|rfl) only[sB,Za,reduceCtorEq];refine z01 ?_)|(refine EvC.condF ?_ ?_;simp (config := { maxSteps := 2000000 }) (disch:=first|omega|rfl) only[sB,Za,reduceCtorEq];refine z01 ?_))
  have hx3:=(hx2.pt (Zd _) gp (some (.row [.int .i64 t.kind,.string t.name,.string t.num,.int .u64 t.bits,.int .i64 t.var,.slice none 0 0] 25))).pt (i:=H.next+1) (Nat.le_succ _) (by rw[get_put,if_neg (by omega)];exact gq)
   (some (.row [.int .i64 t.kind,.string t.name,.string t.num,.int .u64 t.bits,.int .i64 t.var,.slice none 0 0] 25))
  refine z0f rfl (by simp only[sB,Za,reduceCtorEq];rfl) (by simp only[sB,Zb,cutC,ld25];rfl) ⟨_,rfl,⟨none,0,?_,hbd',?_⟩,hx3⟩
  ·rw[hsix,h0]
  ·rw[hsa,he];exact .nil _
 ·have h0':(t.args.length:Int)≠0:=by omega
  have ne3:(H.next=H2.next)=False:=by simp;omega
  repeat' (first|refine EvC.seq ?_|refine EvC.block ?_|(refine EvC.skip ?_;try simp only[z00])|(refine EvC.reg ?_;simp (config := { maxSteps := 2000000 }) (disch:=first|omega|rfl) only[sB,Za,reduceCtorEq,cutC,z1y,ld3,z1l,ld23,ln23,q1,z0p k1,z0p h0',z60 mk23,ne3])|(refine EvC.condF ?_ ?_;simp (config := { maxSteps := 2000000 }) (disch:=first|omega|rfl) only[sB,Za,reduceCtorEq];refine z01 ?_))
  obtain⟨H3,e3,hx3,gr,hn3,hw3⟩:=new1 hw2 (.row (repL t.args.length zero6) 25);simp only[e3];clear e3;have gp3:=hx3.get hw2 gp;have gq3:=hx3.get hw2 gq;have hx23:=hx2.trans hx3;have hmax:=rl.max;rw[hn2] at gr hn3;refine EvC.loop (fun k st=>∃tm H' i cells' Si ai ci,st=⟨tm,[],H'⟩∧k=t.args.length - i∧i≤t.args.length∧tm.get 1=some (.func (.func g) #[] cap) ∧
   tm.get 2=some (.pointer (some ⟨H.next,0,none⟩))∧tm.get 4=some (.pointer (some ⟨H.next+1,0,none⟩))∧tm.get 7=some (.slice (some ⟨H.next+2,0,none⟩) t.args.length t.args.length) ∧
   tm.get 35=some (.slice a t.args.length c)∧tm.get 36=some (.int .i64 t.args.length)∧tm.get 37=some (.int .i64 (i:Nat)) ∧
   H'.get H.next=some (.row (six t a c) 25)∧H'.get (H.next+1)=some (.row zero6 25)∧H'.get (H.next+2)=some (.row cells' 25)∧cells'.length=t.args.length*6 ∧
   FLs H' 25 (Rg (H.next+3) H'.next) ((t.args.take i).map (sub σ)) cells' Si ai ci∧HX H H') ?_ t.args.length _ ?_
  ·rintro k st ⟨tm,H',i,cells',Si,ai,ci,rfl,rfl,hi,t0,t1,t2,t3,t17,t18,t19,gp',gq',gr',hlen,hfl,hx'⟩;have q1:=row6 gp';by_cases hlt:i < t.args.length
   ·obtain⟨b,o,a1,c1,rfl,hld,hr1⟩:=rl.el hlt;have hld1:=hx'.load hw hld
    repeat' (first|refine EvC.seq ?_|refine EvC.block ?_|(refine EvC.skip ?_;try simp only[z00])|(refine EvC.reg ?_;simp (config := { maxSteps := 2000000 }) (disch:=first|omega|rfl) only[sB,dAlloc,Za,Zb,one,cutC,zr25,st25,ld25,ia23,cl53,t0,t3,t17,t18,t19,decl hlt,hld1])|(refine EvC.condT ?_ ?_;simp (config := { maxSteps := 2000000 }) (disch:=first|omega|rfl) only[sB];refine z01 ?_))
    obtain⟨H4,e4,hx4,g4,hn4,hw4⟩:=z0k hx'.wf (.row zero6 25) (.row (six t.args[i] a1 c1) 25);simp only[e4];clear e4;have hs:=z1w (Zc hlt);refine(ih (t:=t.args[i]) (by omega) (hr1.mono (hx'.trans hx4) hw) (hf.args _ (ZF _)) (B.stay _ _ hj (hx'.trans hx4)) hw4).mono ?_;rintro v H5 ⟨cs',rfl,⟨a2,c2,rfl,hb2,hf2⟩,hx5⟩;have hx45:=hx4.trans hx5;have gr5:=hx45.get hx'.wf gr';have gp5:=hx45.get hx'.wf gp';have gq5:=hx45.get hx'.wf gq';have hle:i*6+6≤cells'.length:=by rw[hlen];exact mul6 hlt
    have hln:=hx45.next;have hln2:=hx5.next;have hlt3:=hx'.wf _ _ gq';have hlt4:=hx'.wf _ _ gr'
    repeat' (first|(refine EvC.reg ?_;simp (config := { maxSteps := 2000000 }) (disch:=first|omega|rfl) only[sB,Za,t19,z0b])|(refine z0n ?_;simp (config := { maxSteps := 2000000 }) (disch:=first|omega|rfl) only[sB,Zb,one,st25,gr5,hle]))
    have hx6:=(hx'.trans hx45).pt (i:=H.next+2) (by omega) gr5 (some (.row (Hb.splice cells' (i*6) (six (sub σ t.args[i]) a2 c2)) 25));have et:(t.args.take (i+1)).map (sub σ)=(t.args.take i).map (sub σ)++[sub σ t.args[i]]:=by rw[←ZK hlt,ZE];rfl
    have etl:((t.args.take i).map (sub σ)).length=i:=by rw[Zn,Zt];omega
    obtain⟨Si',ai',ci',hsn⟩:∃Si ai ci,FLs (H5.put (H.next+2) (some (.row (Hb.splice cells' (i*6) (six (sub σ t.args[i]) a2 c2)) 25))) 25 (Rg (H.next+3) H5.next) ((t.args.take (i+1)).map (sub σ)) (Hb.splice cells' (i*6) (six (sub σ t.args[i]) a2 c2)) Si ai ci:=by
     rw[et];refine⟨_,_,_,hfl.snoc (S':=Rg (H.next+3) H5.next) (N:=Rg H4.next H5.next) (fun n hn hl=>?_) hx'.wf (hf2.heap (fun n hn hl=>?_) hx5.wf) hb2 (fun n hn hs=>?_) (fun n hn=>?_) (fun n hn=>?_) (fun j hj=>?_) ?_⟩
     ·have:=hn.1;rw[get_put,if_neg (by omega)];exact hx45.keep n hl
     ·have:=hn.1;rw[get_put,if_neg (by omega)]
     ·have:=hn.1;have:=hs.2;omega
     ·exact⟨hn.1,by have:=hn.2;omega⟩
     ·exact⟨by have:=hn.1;omega,hn.2⟩
     ·rw[etl] at hj;exact z1u hle rfl (.inl (mul6 hj))
     ·rw[etl];exact z24 hle rfl
    exact⟨t.args.length - (i+1),by omega,_,_,i+1,Hb.splice cells' (i*6) (six (sub σ t.args[i]) a2 c2),Si',ai',ci',rfl,rfl,by omega,(by simp only[sG,Za,t0]),(by simp only[sG,Za,t1]),(by simp only[sG,Za,t2]),(by simp only[sG,Za,t3]),(by simp only[sG,Za,t17]),(by simp only[sG,Za,t18]),(by simp only[sB,Za];rfl),
     by rw[get_put,if_neg (by omega)];exact gp5,by rw[get_put,if_neg (by omega)];exact gq5,by rw[get_put,if_pos rfl],by rw[z1s hle];exact hlen,hsn,hx6⟩
   ·repeat' (first|refine EvC.seq ?_|(refine EvC.exit ?_;try simp only[sB])|(refine EvC.ret ?_)|(refine EvC.reg ?_;simp (config := { maxSteps := 2000000 }) (disch:=first|omega|rfl) only[sB,Za,Zb,one,cutC,st25,ld25,z1l,st23,t1,t2,t3,t18,t19,q1,gp',gq',decn hlt,ne1])|(refine EvC.condF ?_ ?_;simp (config := { maxSteps := 2000000 }) (disch:=first|omega|rfl) only[sB];refine z01 ?_))
    have hi':i=t.args.length:=by omega
    have hlt3:=hx'.wf _ _ gr';have hx7:=(hx'.pt (Zd _) gp' (some (.row (six t (some ⟨H.next+2,0,none⟩) t.args.length) 25))).pt (i:=H.next+1) (Nat.le_succ _) (by rw[get_put,if_neg (by omega)];exact gq')
     (some (.row (six t (some ⟨H.next+2,0,none⟩) t.args.length) 25))
    refine z0f rfl (by simp only[sB,Za,t2];rfl) (by simp only[sB,Zb,cutC,ld25];rfl) ⟨_,rfl,⟨some ⟨H.next+2,0,none⟩,t.args.length,by rw[hsix],hbd',?_⟩,hx7⟩;rw[hi',Zq (Zd _),←hsa] at hfl;have hsl:(sub σ t).args.length=t.args.length:=by rw[hsa,Zn]
    refine(hfl.heap (fun n hn _=>?_) hx'.wf).row (by omega) (Zp hfew (by simp [maxLen])) (cells:=cells') ?_ (by omega) ⟨by omega,hlt3⟩ (fun h=>?_) (fun n hn=>⟨by have:=hn.1;omega,hn.2⟩)
    ·have:=hn.1;rw[get_put,if_neg (by omega),get_put,if_neg (by omega)]
    ·rw[get_put,if_neg (by omega),get_put,if_neg (by omega)];exact gr'
    ·have:=h.1;omega
  ·refine⟨_,_,0,repL t.args.length zero6,fun _ _=>False,fun _=>none,fun _=>0,rfl,rfl,by omega,(by simp only[sG,Za,reduceCtorEq]),(by simp only[sG,Za,reduceCtorEq]),(by simp only[sG,Za,reduceCtorEq]),by rw[hn2];first|(simp only[sG,Za,reduceCtorEq];rfl)|simp only[sG,Za,reduceCtorEq],(by simp only[sG,Za,reduceCtorEq]),(by simp only[sG,Za,reduceCtorEq]),(by simp only[sB,Za,reduceCtorEq];rfl),gp3,gq3,gr,by rw[z3h];rfl,FLs.nil,hx23⟩
def varT (i:Int):Tm:=.mk 1 Ze Ze 0 i []
def plcZ (L:List Int) (n:Int):Int:=((L.idxOf? n).getD 0:Nat)
theorem zl5 {H:Heap}{i:Int}(h:i64 i):RepT H (varT i) [.int .i64 1,.string Ze,.string Ze,.int .u64 0,.int .i64 i,.slice none 0 0] :=
 .mk 1 Ze Ze 0 i [] none 0 (fun _=>[]) (by simp [i64]) (by simp [maxLen]) (by simp [maxLen]) (by simp [u64]) h (ZA _) (Zd _) (ZA _) (fun _=>⟨rfl,rfl⟩) (fun i ad hi=>by simp at hi) (fun i t h=>by simp at h)
theorem z6p {i:Int}(h:0≤i):Fine (varT i):=by
 unfold Fine;rw[z4q];have hn:nodeS (varT i)=0:=by
  have hv:¬i < 0:=by omega
  have hb:blankB (varT i)=true:=by
   have he:isE Ze=true:=by unfold isE;rw[show ByteArray.empty.toList=[] from z1g];rfl
   simp [blankB,varT,Tm.kind,Tm.name,Tm.num,Tm.bits,Tm.var,Tm.args,he]
  have hu:utfS Ze=true:=by decide +kernel
  unfold nodeS nodeE;rw[hb];simp [varT,Tm.kind,Tm.name,Tm.num,Tm.bits,Tm.var,Tm.args,hv,hu]
 rw[if_pos hn];simp [varT,Tm.args,allL]
theorem z5s (L:List Int) (n:Int):0≤plcZ L n∧plcZ L n≤L.length:=by
 unfold plcZ;cases h:L.idxOf? n with
 |none=>simp
 |some i =>
  have:i < L.length:=by
   rw[List.idxOf?,List.findIdx?_eq_some_iff_getElem] at h;exact h.1
  simp;omega
theorem zmy {L:List Int}{n m:Int}(h:n∉L):(L++[n]).idxOf? m=if m=n then some L.length else L.idxOf? m:=by
 unfold List.idxOf?;rw[List.findIdx?_append];by_cases hm:m=n
 ·subst hm;have:L.findIdx? (fun x=>x == m)=none:=by
   rw[List.findIdx?_eq_none_iff];intro x hx;simp;intro e;exact h (e ▸ hx)
  rw[if_pos rfl,this];simp [List.findIdx?_cons]
 ·rw[if_neg hm];have:(n == m)=false:=by simp;omega
  simp [List.findIdx?_cons,this]
def PlJ (L:List Int) (pm r:Nat) (H:Heap):Prop:=H.wf∧H.get pm=some (.row [.map (some r)] 109)∧∃M,MapR H r M∧∀m,mGet M m=(L.idxOf? m).map fun i:Nat=>Value.int .i64 (i:Int)
theorem zpu {L:List Int}{pm r:Nat}(hL:L.length≤most):ByAll 55 #[.pointer (some ⟨pm,0,none⟩)] (fun n=>varT (plcZ L n)) (PlJ L pm r):=by
 have hms:most≤9223372036854775807:=by simp [most]
 refine⟨?_,?_,fun n _=>z6p (z5s L n).1⟩
 ·rintro n H hn ⟨hw,gm,M,hm,hk⟩ -;have hb:=z5s L n;have lm:H.load ⟨pm,0,none⟩ 1=some [.map (some r)]:=by unfold Heap.load Heap.cells;simp only[gm];rfl
  have lpm:=hw _ _ gm;have ne:(pm=H.next)=False:=by simp;omega
  have el:dLk Tryd.prog 109 (.map (some r)) (.int .i64 n) false (H.new (some (.row zero6 25)))=some (.val (.int .i64 (plcZ L n)) (H.new (some (.row zero6 25)))):=by
   have hm':MapR (H.new (some (.row zero6 25))) r M:=hm.heap (by rw[get_new,if_neg (by have:=hm.lt hw;omega)]);have hkn:=hk n;unfold plcZ;cases h:L.idxOf? n with
   |none=>rw[h] at hkn;exact z5a mapI hm' hkn
   |some i=>rw[h] at hkn;exact z59 mapI hm' hkn
  refine EvF.enter rfl Tryd.func55 (by decide) rfl ?_
  repeat' (first|refine EvC.seq ?_|(refine EvC.ret ?_)|(refine EvC.reg ?_;simp (config := { maxSteps := 2000000 }) (disch:=first|omega|rfl) only[sB,initTm,dAlloc,Za,Zb,Value.cells,one,reduceCtorEq,cutC,Zm,layC,zr25,zm9,bd25,st25,lm,ne,z10,el]))
  have hx:HX H (H.new (some (.row zero6 25))):=(HX.refl hw).new _;refine z0c rfl (by simp only[sB,Za,reduceCtorEq];rfl) (by simp only[sB,Zb,cutC,ld25]) (by simp only[sG,Za,reduceCtorEq]) ⟨⟨_,rfl,zl5 ⟨by omega,by omega⟩⟩,hx.put (Zd _) (Zf _) _⟩
 ·rintro H H' ⟨hw,gm,M,hm,hk⟩ hx;exact⟨hx.wf,hx.get hw gm,M,hm.heap (hx.keep _ (hm.lt hw)),hk⟩
def plainL (l:List Tm):List Tm:=l.map (sub fun n=>varT (plcZ (uniq (occL l)) n))
set_option maxHeartbeats 8000000 in
theorem zg7 {l:List Tm}{a:Option Addr}{c:Nat}{cells:Nat→List Value}{H:Heap}(rl:RepL H l a c cells) (hlen:(occL l).length≤most) (hl:l.length≤most) (hw:H.wf) :
  EvF Tryd.prog okT 32 [.slice a l.length c] H fun v H'=>∃a' c',v=.tuple #[.slice a' (if chkL l=0 then plainL l else []).length c',.int .i64 (chkL l)]∧FL H' 25 (Rg H.next H'.next) (if chkL l=0 then plainL l else []) a' c'∧HX H H':=by
 have hmx:=rl.max;have hms:most≤9223372036854775807:=by simp [most]
 refine EvF.enter rfl Tryd.func32 (by decide) rfl ?_
 repeat' (first|refine EvC.seq ?_|(refine EvC.reg ?_;simp (config := { maxSteps := 2000000 }) (disch:=first|omega|rfl) only[sB,initTm,Za,reduceCtorEq,cl27]))
 refine(z5i rl hw).mono ?_;rintro v H1 ⟨rfl,hx1⟩;have nn1:=hx1.next;by_cases h0:chkL l=0;rotate_left
 ·repeat' (first|refine EvC.seq ?_|(refine EvC.ret ?_;try simp only[z05,z04])|(refine EvC.reg ?_;simp (config := { maxSteps := 2000000 }) (disch:=first|omega|rfl) only[sB,Za,reduceCtorEq,z3r h0])|(refine EvC.condT ?_ ?_;simp (config := { maxSteps := 2000000 }) (disch:=first|omega|rfl) only[sB,Za,reduceCtorEq];refine z01 ?_))
  exact z0t rfl (by simp only[sB,Za,reduceCtorEq];rfl) (by simp only[sB,Za,reduceCtorEq];rfl) ⟨none,0,by rw[if_neg h0];rfl,by rw[if_neg h0];exact .nil _,hx1⟩
 rw[if_pos h0]
 repeat' (first|refine EvC.seq ?_|(refine EvC.skip ?_;try simp only[z00])|(refine EvC.reg ?_;simp (config := { maxSteps := 2000000 }) (disch:=first|omega|rfl) only[sB,dAlloc,Za,one,reduceCtorEq,zqm,zqn,cl33,z22 h0,z3i])|(refine EvC.condF ?_ ?_;simp (config := { maxSteps := 2000000 }) (disch:=first|omega|rfl) only[sB,Za,reduceCtorEq];refine z01 ?_))
 obtain⟨H2,e2,hx2,gr,n2,w2⟩:=new1 hx1.wf (.map [] 0);obtain⟨H3,e3,hx3,gm,n3,w3⟩:=z0k w2 (.row [.map none] 109) (.row [.map (some H1.next)] 109);rw[n2] at e3 gm n3;simp only[e2,e3];have hx23:=(hx1.trans hx2).trans hx3;refine(z6g (rl.mono hx23 hw) hlen w3).mono ?_;rintro v H4 ⟨hi4,hx4⟩;obtain⟨av,cv,rfl,hcv1,hcv2⟩:=hi4.slice;have hLl:(uniq (occL l)).length≤most:=Zp (z6l _) hlen;have hnd:=z92 (occL l);have nn4:=hx4.next;have hxh4:=hx23.trans hx4;have hm4:MapR H4 H1.next []:=⟨[],0,hx4.get w3 (hx3.get w2 gr),rfl⟩
 have gm4:=hx4.get w3 gm;(try simp (config := { maxSteps := 2000000 }) (disch:=first|omega|rfl) only[sA,ln42]);unfold plainL;generalize hLdef:uniq (occL l)=L at *;refine EvC.meet (fun st=>∃tm H',st=⟨tm,[],H'⟩∧tm.get 0=some (.slice a l.length c)∧tm.get 5=some (.pointer (some ⟨H1.next+1,0,none⟩))∧PlJ L (H1.next+1) H1.next H'∧HX H H') ?_ ?_
 ·refine EvC.block (EvC.loop (fun k st=>∃tm H' i M,st=⟨tm,[],H'⟩∧k=L.length - i∧i≤L.length∧tm.get 0=some (.slice a l.length c)∧tm.get 5=some (.pointer (some ⟨H1.next+1,0,none⟩))∧tm.get 18=some (.slice av L.length cv)∧tm.get 19=some (.int .i64 L.length)∧tm.get 20=some (.int .i64 (i:Nat)) ∧
   H'.get (H1.next+1)=some (.row [.map (some H1.next)] 109)∧MapR H' H1.next M∧(∀m,mGet M m=((L.take i).idxOf? m).map fun i:Nat=>Value.int .i64 (i:Int))∧IntL H' 3 (Rg H3.next H4.next) L (.slice av L.length cv)∧HX H H') ?_ L.length _ ?_)
  ·rintro k st ⟨tm,H',i,M,rfl,rfl,hi,t0,t5,t18,t19,t20,gm',hm',hk',hil,hx'⟩;by_cases hlt:i < L.length
   ·obtain⟨b,rfl,-,hld,hbS⟩:=hil.at hlt;have lm:H'.load ⟨H1.next+1,0,none⟩ 1=some [.map (some H1.next)]:=by unfold Heap.load Heap.cells;simp only[gm'];rfl
    have hnot:L[i]∉L.take i:=by
     intro hmem;obtain⟨j,hj,e⟩:=List.getElem_of_mem hmem;rw[List.getElem_take] at e;have hj':j < i:=by rw[Zt] at hj;omega
     exact List.pairwise_iff_getElem.1 hnd j i (by omega) hlt hj' e
    have hg:mGet M L[i]=none:=by
     rw[hk'];have:(L.take i).idxOf? L[i]=none:=by
      unfold List.idxOf?;rw[List.findIdx?_eq_none_iff];intro x hx;simp;intro e;exact hnot (e ▸ hx)
     rw[this];rfl
    obtain⟨B,eu,hm2⟩:=zde (v:=.int .i64 (i:Nat)) mapI hm' hg;have lr:=hm'.lt hx'.wf
    repeat' (first|refine EvC.seq ?_|refine EvC.block ?_|(refine EvC.skip ?_;try simp only[z00])|(refine EvC.reg ?_;simp (config := { maxSteps := 2000000 }) (disch:=first|omega|rfl) only[sB,Za,ia42,ld3,zm9,t5,t18,t19,t20,decl hlt,hld,lm,z1v,eu,z0b])|(refine EvC.condT ?_ ?_;simp (config := { maxSteps := 2000000 }) (disch:=first|omega|rfl) only[sB];refine z01 ?_))
    refine⟨L.length - (i+1),by omega,_,_,i+1,M++[(L[i],.int .i64 (i:Nat))],rfl,rfl,by omega,(by simp only[sG,reduceCtorEq,t0]),(by simp only[sG,Za,t5]),(by simp only[sG,Za,t18]),(by simp only[sG,Za,t19]),(by simp only[sB,Za];rfl),by rw[get_put,if_neg (by omega)];exact gm',hm2,fun m=>?_,hil.heap (fun n hn _=>by have:=hn.1;rw[get_put,if_neg (by omega)]) hx'.wf,hx'.put (by omega) lr _⟩;rw[z7o hg,←ZK hlt,zmy hnot];by_cases hm:m=L[i]
    ·rw[if_pos hm,if_pos hm];have:(L.take i).length=i:=by rw[Zt];omega
     rw[this];rfl
    ·rw[if_neg hm,if_neg hm];exact hk' m
   ·repeat' (first|refine EvC.seq ?_|(refine EvC.exit ?_;try simp only[sB,reduceCtorEq])|(refine EvC.reg ?_;simp (config := { maxSteps := 2000000 }) (disch:=first|omega|rfl) only[sA,t19,t20,decn hlt])|(refine EvC.condF ?_ ?_;simp (config := { maxSteps := 2000000 }) (disch:=first|omega|rfl) only[sB];refine z01 ?_))
    have hiL:i=L.length:=by omega
    rw[hiL,Zq (Zd _)] at hk';exact⟨_,_,rfl,(by simp only[sG,reduceCtorEq,t0]),(by simp only[sG,Za,t5]),⟨hx'.wf,gm',M,hm',hk'⟩,hx'⟩
  ·exact⟨_,_,0,[],rfl,rfl,by omega,(by simp only[sG,reduceCtorEq]),(by simp only[sG,Za,reduceCtorEq]),(by simp only[sG,Za,reduceCtorEq]),(by simp only[sG,Za,reduceCtorEq]),(by simp only[sB,Za,reduceCtorEq];rfl),gm4,hm4,fun m=>by simp [mGet],hi4,hxh4⟩
 rintro st ⟨tm,H5,rfl,t0,t5,hj5,hx5⟩
 repeat' (first|refine EvC.seq ?_|refine EvC.block ?_|(refine EvC.reg ?_;simp (config := { maxSteps := 2000000 }) (disch:=first|omega|rfl) only[sB,Za,reduceCtorEq,ln23,t0,z60 mk23]))
 obtain⟨H6,e6,hx6,g6,n6,w6⟩:=new1 hx5.wf (.row (repL l.length zero6) 25);simp only[e6];have hxh6:=hx5.trans hx6;have nn5:=hx5.next;have lpm5:=hj5.1 _ _ hj5.2.1;have B:=zpu (pm:=H1.next+1) (r:=H1.next) hLl;refine EvC.loop (fun k st=>∃tm H' i cells' Si ai ci,st=⟨tm,[],H'⟩∧k=l.length - i∧i≤l.length∧tm.get 5=some (.pointer (some ⟨H1.next+1,0,none⟩))∧tm.get 8=some (.slice (some ⟨H5.next,0,none⟩) l.length l.length)∧tm.get 32=some (.slice a l.length c)∧tm.get 33=some (.int .i64 l.length)∧tm.get 34=some (.int .i64 (i:Nat)) ∧
   H'.get H5.next=some (.row cells' 25)∧cells'.length=l.length*6∧FLs H' 25 (Rg (H5.next+1) H'.next) ((l.take i).map (sub fun n=>varT (plcZ L n))) cells' Si ai ci∧PlJ L (H1.next+1) H1.next H'∧HX H H') ?_ l.length _ ?_
 ·rintro k st ⟨tm,H',i,cells',Si,ai,ci,rfl,rfl,hi,t5,t8,t32,t33,t34,gr',hlen',hfl,hj',hx'⟩;by_cases hlt:i < l.length
  ·obtain⟨b,o,a1,c1,rfl,hld,hr1⟩:=rl.el hlt;have hld1:=hx'.load hw hld
   repeat' (first|refine EvC.seq ?_|refine EvC.block ?_|(refine EvC.skip ?_;try simp only[z00])|(refine EvC.reg ?_;simp (config := { maxSteps := 2000000 }) (disch:=first|omega|rfl) only[sB,dAlloc,Za,Zb,one,cutC,ia23,ld25,zr25,st25,cl53,t5,t8,t32,t33,t34,decl hlt,hld1,List.map_toArray])|(refine EvC.condT ?_ ?_;simp (config := { maxSteps := 2000000 }) (disch:=first|omega|rfl) only[sB];refine z01 ?_))
   obtain⟨H7,e7,hx7,g7,n7,w7⟩:=z0k hx'.wf (.row zero6 25) (.row (six l[i] a1 c1) 25);simp only[e7];have hfine:Fine l[i]:=(z0h.1 (z5h h0 _ (ZF _))).2;refine(zl4 (by kernel_rfl) B (Zf _) (hr1.mono (hx'.trans hx7) hw) hfine (B.stay _ _ hj' hx7) w7).mono ?_;rintro v H8 ⟨cs',rfl,⟨a2,c2,rfl,hb2,hf2⟩,hx8⟩;have hx78:=hx7.trans hx8;have gr8:=hx78.get hx'.wf gr';have hle:i*6+6≤cells'.length:=by rw[hlen'];exact mul6 hlt
   have nn7:=hx78.next;have nn8:=hx8.next;have lt5:=hx'.wf _ _ gr'
   repeat' (first|(refine EvC.reg ?_;simp (config := { maxSteps := 2000000 }) (disch:=first|omega|rfl) only[sB,Za,t34,z0b])|(refine z0n ?_;simp (config := { maxSteps := 2000000 }) (disch:=first|omega|rfl) only[sB,Zb,one,st25,gr8,hle]))
   have et:(l.take (i+1)).map (sub fun n=>varT (plcZ L n))=(l.take i).map (sub fun n=>varT (plcZ L n))++[sub (fun n=>varT (plcZ L n)) l[i]]:=by rw[←ZK hlt,ZE];rfl
   have etl:((l.take i).map (sub fun n=>varT (plcZ L n))).length=i:=by rw[Zn,Zt];omega
   obtain⟨Si',ai',ci',hsn⟩:∃Si ai ci,FLs (H8.put H5.next (some (.row (Hb.splice cells' (i*6) (six (sub (fun n=>varT (plcZ L n)) l[i]) a2 c2)) 25))) 25 (Rg (H5.next+1) H8.next) ((l.take (i+1)).map (sub fun n=>varT (plcZ L n))) (Hb.splice cells' (i*6) (six (sub (fun n=>varT (plcZ L n)) l[i]) a2 c2)) Si ai ci:=by
    rw[et];refine⟨_,_,_,hfl.snoc (S':=Rg (H5.next+1) H8.next) (N:=Rg H7.next H8.next) (fun n hn hl=>?_) hx'.wf (hf2.heap (fun n hn hl=>?_) hx8.wf) hb2 (fun n hn hs=>?_) (fun n hn=>?_) (fun n hn=>?_) (fun j hj=>?_) ?_⟩
    ·have:=hn.1;rw[get_put,if_neg (by omega)];exact hx78.keep n hl
    ·have:=hn.1;rw[get_put,if_neg (by omega)]
    ·have:=hn.1;have:=hs.2;omega
    ·exact⟨hn.1,by have:=hn.2;omega⟩
    ·exact⟨by have:=hn.1;omega,hn.2⟩
    ·rw[etl] at hj;exact z1u hle rfl (.inl (mul6 hj))
    ·rw[etl];exact z24 hle rfl
   have hj8:PlJ L (H1.next+1) H1.next (H8.put H5.next (some (.row (Hb.splice cells' (i*6) (six (sub (fun n=>varT (plcZ L n)) l[i]) a2 c2)) 25))):=by
    obtain⟨w8,gm8,M,hm8,hk8⟩:=B.stay _ _ hj' hx78;exact⟨((HK.refl (S:=fun _=>True) w8).put (.inl trivial) (by omega) _).wf,by rw[get_put,if_neg (by omega)];exact gm8,M,hm8.heap (by rw[get_put,if_neg (by omega)]),hk8⟩
   exact⟨l.length - (i+1),by omega,_,_,i+1,Hb.splice cells' (i*6) (six (sub (fun n=>varT (plcZ L n)) l[i]) a2 c2),Si',ai',ci',rfl,rfl,by omega,(by simp only[sG,Za,t5]),(by simp only[sG,Za,t8]),(by simp only[sG,Za,t32]),(by simp only[sG,Za,t33]),(by simp only[sB,Za];rfl),
    by rw[get_put,if_pos rfl],by rw[z1s hle];exact hlen',hsn,hj8,(hx'.trans hx78).pt (by omega) gr8 _⟩
  ·repeat' (first|refine EvC.seq ?_|(refine EvC.exit ?_;try simp only[sB])|(refine EvC.ret ?_)|(refine EvC.reg ?_;simp (config := { maxSteps := 2000000 }) (disch:=first|omega|rfl) only[sB,Za,t8,t33,t34,decn hlt])|(refine EvC.condF ?_ ?_;simp (config := { maxSteps := 2000000 }) (disch:=first|omega|rfl) only[sB];refine z01 ?_))
   have hi':i=l.length:=by omega
   rw[hi',Zq (Zd _)] at hfl;refine z0t rfl (by simp only[sB,Za];rfl) (by simp only[sB,Za];rfl) ⟨some ⟨H5.next,0,none⟩,l.length,by rw[h0,Zn],?_,hx'⟩;refine hfl.row (by rw[Zn];exact Zd _) (Zp hl (by simp [most,maxLen])) gr' (by rw[Zn];omega) ⟨by omega,hx'.wf _ _ gr'⟩ (fun h=>by have:=h.1;omega) (fun n hn=>⟨by have:=hn.1;omega,hn.2⟩)
 ·exact⟨_,_,0,repL l.length zero6,fun _ _=>False,fun _=>none,fun _=>0,rfl,rfl,by omega,(by simp only[sG,Za,t5]),(by simp only[sG,Za]),(by simp only[sG,Za]),(by simp only[sG,Za]),(by simp only[sB,Za];rfl),g6,by rw[z3h];rfl,FLs.nil,B.stay _ _ hj5 hx6,hxh6⟩
theorem zaa {σ:Int→Tm}(hσ:∀n,0≤n→Fine (σ n)):∀(m:Nat) (t:Tm),SizeOf.sizeOf t < m→Fine t→Fine (sub σ t)
 |0,_,h,_=>by omega
 |m+1,t,h,f=>by
  by_cases k1:t.kind=1
  ·rw[z88 k1];exact hσ _ (z0j f.node).2.2.2.1
  ·rw[zl3 k1];unfold Fine;rw[z4q];have hn:nodeS (.mk t.kind t.name t.num t.bits t.var (t.args.map (sub σ)))=0:=by
    rw[zkv (l:=t.args) (by simp)];have:=f.node;obtain⟨k,s,u,b,v,l⟩:=t;exact this
   rw[if_pos hn];have hl:∀l:List Tm,(∀u∈l,Fine (sub σ u))→allL nodeS (l.map (sub σ))=0:=by
    intro l
    induction l with
    |nil=>intro _;rfl
    |cons u l ih =>
     intro hu;rw[List.map_cons,allL,if_pos (show allE nodeS (sub σ u)=0 from hu u (by simp))];exact ih fun v hv=>hu v (Zj _ hv)
   exact hl t.args fun u hu=>zaa hσ m u (by have:=z0e hu;omega) (f.args u hu)
def plain1 (t:Tm):Tm:=sub (fun n=>varT (plcZ (uniq (occ t)) n)) t
theorem z9c (t:Tm):plainL [t]=[plain1 t]:=by
 unfold plainL plain1;have:occL [t]=occ t:=by rw[occL,occL,List.append_nil]
 rw[this];rfl
theorem z89 {t:Tm}(h:Fine t):Fine (plain1 t):=zaa (fun n _=>z6p (z5s _ n).1) _ t (Zf _) h
set_option maxHeartbeats 8000000 in
theorem zhx {t t':Tm}{cs cs':List Value}{H:Heap}(r:RepT H t cs) (r':RepT H t' cs') (hw:H.wf) :
  EvF Tryd.prog okT 10 [.agg ⟨cs⟩,.agg ⟨cs'⟩] H fun v H'=>v=.tuple #[.bool (if chkL [t,t']=0 then eqT (plain1 t) (plain1 t') else false),.int .i64 (chkL [t,t'])]∧HX H H':=by
 have r0:=r;have r0':=r';obtain⟨a,c,cells,rfl,-⟩:=r.six;obtain⟨a',c',cells',rfl,-⟩:=r'.six;refine EvF.enter rfl Tryd.func10 (by decide) rfl ?_;(repeat refine EvC.seq ?_);refine EvC.reg ?_;simp (config := { maxSteps := 2000000 }) (disch:=first|omega|rfl) only[sB,initTm,dBox,Za,Value.cells,one,reduceCtorEq];obtain⟨H2,e2,hx2,gp,gq,hnx,hw2⟩:=new2 hw (.row (six t a c) 25) (.row (six t' a' c') 25);simp only[e2];have q1:=row6 gp;have q2:=row6 gq;clear e2
 repeat' (first|refine EvC.seq ?_|(refine EvC.reg ?_;simp (config := { maxSteps := 2000000 }) (disch:=first|omega|rfl) only[sB,Za,Zb,Value.cells,one,reduceCtorEq,Zm,layC,ld25,zo1,cl27,q1,q2]))
 obtain⟨H3,e3,hx3,g3,hn3,hw3⟩:=new1 hw2 (.row (six t a c++six t' a' c') 25);have e3':=e3;simp only[six,List.cons_append,List.nil_append] at e3';simp only[e3'];have gp:=hx3.get hw2 gp;have gq:=hx3.get hw2 gq;have hx:=hx2.trans hx3;refine(z5i (RepL.two (r0.mono hx hw) (r0'.mono hx hw) g3) hw3).mono ?_;rintro v H4 ⟨rfl,hx4⟩;have gp:=hx4.get hw3 gp;have gq:=hx4.get hw3 gq;have hx:=hx.trans hx4;have q1:=row6 gp;have q2:=row6 gq;by_cases h0:chkL [t,t']=0;rotate_left
 ·repeat' (first|refine EvC.seq ?_|(refine EvC.ret ?_;try simp only[z05,z04])|(refine EvC.reg ?_;simp (config := { maxSteps := 2000000 }) (disch:=first|omega|rfl) only[sB,Za,reduceCtorEq,z3r h0])|(refine EvC.condT ?_ ?_;simp (config := { maxSteps := 2000000 }) (disch:=first|omega|rfl) only[sB,Za,reduceCtorEq];refine z01 ?_))
  exact z0t rfl (by simp only[sB,Za,reduceCtorEq];rfl) (by simp only[sB,Za,reduceCtorEq];rfl) ⟨by rw[if_neg h0],hx⟩
 have hc:=z5h h0;have h1:=hc t (by simp);have h2:=hc t' (by simp);have b1:(occL [t]).length≤most:=by rw[occL,occL,List.append_nil];exact Zp (z85 h1) (by simp [most])
 have b2:(occL [t']).length≤most:=by rw[occL,occL,List.append_nil];exact Zp (z85 h2) (by simp [most])
 repeat' (first|refine EvC.seq ?_|(refine EvC.skip ?_;try simp only[z00])|(refine EvC.reg ?_;simp (config := { maxSteps := 2000000 }) (disch:=first|omega|rfl) only[sB,Za,Zb,Value.cells,one,reduceCtorEq,layC,ld25,z5b,cl32,z22 h0,q1])|(refine EvC.condF ?_ ?_;simp (config := { maxSteps := 2000000 }) (disch:=first|omega|rfl) only[sB,Za,reduceCtorEq];refine z01 ?_))
 obtain⟨H5,e5,hx5,g5,hn5,hw5⟩:=new1 hx.wf (.row (six t a c) 25);have e5':=e5;simp only[six] at e5';simp only[e5'];have gp:=hx5.get hx.wf gp;have gq:=hx5.get hx.wf gq;have hx:=hx.trans hx5;refine(zg7 (RepL.one (r0.mono hx hw) g5) b1 (by simp [most]) hw5).mono ?_;rintro v H6 ⟨ax,cx,rfl,fx,hx6⟩;rw[if_pos (zkw h1),z9c] at fx ⊢;have gq:=hx6.get hw5 gq;have hx:=hx.trans hx6;have q2:=row6 gq
 repeat' (first|refine EvC.seq ?_|(refine EvC.reg ?_;simp (config := { maxSteps := 2000000 }) (disch:=first|omega|rfl) only[sB,Za,Zb,Value.cells,one,reduceCtorEq,layC,ld25,z5b,cl32,q2])|(refine z0n ?_;simp (config := { maxSteps := 2000000 }) (disch:=first|omega|rfl) only[sB,Za,reduceCtorEq]))
 obtain⟨H7,e7,hx7,g7,hn7,hw7⟩:=new1 hx.wf (.row (six t' a' c') 25);have e7':=e7;simp only[six] at e7';simp only[e7'];have fx:=fx.keep hx7 hx6.wf;have hx:=hx.trans hx7;refine(zg7 (RepL.one (r0'.mono hx hw) g7) b2 (by simp [most]) hw7).mono ?_;rintro v H8 ⟨ay,cy,rfl,fy,hx8⟩;rw[if_pos (zkw h2),z9c] at fy ⊢;have fx:=fx.keep hx8 hw7;have hx:=hx.trans hx8;obtain⟨cx1,rx⟩:=fx.rep;obtain⟨cy1,ry⟩:=fy.rep;obtain⟨bx,ox,a1,c1,rfl,lx,px⟩:=rx.el (i:=0) (by simp);obtain⟨by',oy,a2,c2,rfl,ly,py⟩:=ry.el (i:=0) (by simp);simp only[List.getElem_cons_zero,Nat.zero_mul,Nat.add_zero] at lx ly px py
 repeat' (first|refine EvC.seq ?_|(refine EvC.drw [([(0,0),(1,0),(2,0),(3,0),(4,0),(5,0)],some 6),([(7,1),(8,1),(9,1)],none)] ?_ ?_;kernel_rfl;simp (config := { maxSteps := 2000000 }) (disch:=first|omega|rfl) only[sD,sB,Za,Zb,reduceCtorEq,Int.reduceToNat,ld25,cl28,lx,ly,iz23,Nat.zero_mul,isAlloc,isRead])|(refine z0n ?_;simp (config := { maxSteps := 2000000 }) (disch:=first|omega|rfl) only[sB,Za,reduceCtorEq]))
 have hb:=(HX.refl hx.wf).bump 10;have f1:=z89 (z0h.1 h1).2;have f2:=z89 (z0h.1 h2).2;refine(zfx (Zf _) (px.mono hb hx.wf) (py.mono hb hx.wf) f1 f2 hb.wf).mono ?_;rintro v H9 ⟨rfl,hx9⟩;have heq:(ordT (plain1 t) (plain1 t') == 0)=eqT (plain1 t) (plain1 t'):=by
  by_cases h:ordT (plain1 t) (plain1 t')=0
  ·rw[z13 h,zrb (zc9 _ (Zf _) f1 f2 (RepT.u64s px) (RepT.u64s py) h)]
  ·rw[z0p h,zs0 fun e=>h (by rw[e];exact zc8 _)]
 repeat' (first|(refine EvC.ret ?_)|(refine z2r ?_;simp (config := { maxSteps := 2000000 }) (disch:=first|omega|rfl) only[sD,sB,Za,reduceCtorEq,heq,isAlloc,isRead]))
 exact z0t rfl (by simp only[sB,Za,reduceCtorEq];rfl) (by simp only[sB,Za,reduceCtorEq];rfl) ⟨by rw[if_pos h0,h0],hx.trans (hb.trans hx9)⟩
abbrev dot:ByteArray:=⟨#[46]⟩
def zeroT:Tm:=.mk 0 Ze Ze 0 0 []
def listed (l:List Tm) (e:Tm):Tm:=l.foldr (fun t u=>.mk 5 dot Ze 0 0 [t,u]) e
def totN:List Tm→Nat→Nat
 |[],n=>n
 |t :: l,n=>if 4000 < n then n else totN l (n+(1+cnt t 0))
def listE (l:List Tm) (e:Tm):Int:=if orZ (chkL l) (checkS e)=0 then (if 4000 < totN l (cnt e 0) then 24 else 0) else orZ (chkL l) (checkS e)
def listT (l:List Tm) (e:Tm):Tm:=if listE l e=0 then listed l e else zeroT
theorem zpv (t:Tm):1≤cnt t 0:=by
 have mono:∀(l:List Tm),(∀t∈l,∀n,n≤cnt t n)→∀n,n≤cntL l n:=by
  intro l
  induction l with
  |nil=>intro _ n;rw[cntL];exact Zd _
  |cons t l ih =>
   intro h n;rw[cntL];split
   ·exact Zd _
   ·exact Zp (h t (by simp) n) (ih (fun u hu=>h u (Zj _ hu)) _)
 have key:∀(m:Nat) (t:Tm),SizeOf.sizeOf t < m→∀n,n+1≤cnt t n:=by
  intro m
  induction m with
  |zero=>intro t h;omega
  |succ m ih =>
   intro t h n;rw[z29];exact mono _ (fun u hu k=>by have:=ih u (by have:=z0e hu;omega) k;omega) _
 exact key _ t (Zf _) 0
theorem zl6 (t:Tm):cnt t 0≤4001:=zfn _ t (Zf _) 0 (by omega)
end Go.Proofs.hq
end

section
namespace Go.Hb
open Go Go.RowKit
end Go.Hb
namespace Go.Proofs.hq
open Go Go.RowKit Go.Hb
variable {ok:Ok}
set_option maxRecDepth 10000
attribute [local irreducible] LX LG EL STG SOP SGO SGD SAL SRD SEF SEG SLK SCK ES
end Go.Proofs.hq
end

section
namespace Go.Hb
open Go Go.RowKit
section
variable {P:Program}{ok:Ok}{fn:Func}{tm:Tr Value}{H:Heap}{K:Value→Heap→Prop}
end
end Go.Hb
namespace Go.Proofs.hq
open Go Go.RowKit Go.Hb
variable {ok:Ok}
set_option maxRecDepth 10000
attribute [local irreducible] LX LG EL STG SOP SGO SGD SAL SRD SEF SEG SLK SCK ES
def elL:Tm→List Tm
 |.mk k s _ _ _ [x,y]=>if k=5∧s=dot then x :: elL y else []
 |_=>[]
def elR:Tm→Tm
 |.mk k s u b v [x,y]=>if k=5∧s=dot then elR y else .mk k s u b v [x,y]
 |t=>t
def isCons (t:Tm):Prop:=t.kind=5∧t.name=dot∧t.args.length=2
end Go.Proofs.hq
end

section
namespace Go.Proofs.hq
open Go Go.RowKit Go.Hb
variable {ok:Ok}
set_option maxRecDepth 10000
attribute [local irreducible] LX LG EL STG SOP SGO SGD SAL SRD SEF SEG SLK SCK ES
abbrev seven (n:Int) (t:Tm) (a:Option Addr) (c:Nat):List Value:=.int .i64 n :: six t a c
structure RepB7 (H:Heap) (B:List (Int × Tm)) (a:Option Addr) (c:Nat):Prop where
 len:B.length≤c
 cap:c≤maxLen
 el:∀(i:Nat) (h:i < B.length),∃b o a' c',a=some ⟨b,o,none⟩∧H.load ⟨b,o+i*7,none⟩ 7=some (seven B[i].1 B[i].2 a' c')∧RepT H B[i].2 (six B[i].2 a' c')
theorem RepB7.mono {H H':Heap}{B:List (Int × Tm)}{a:Option Addr}{c:Nat}(h:RepB7 H B a c) (hx:HX H H') (hw:H.wf):RepB7 H' B a c :=
 ⟨h.len,h.cap,fun i hi=>by obtain⟨b,o,a',c',e,l,r⟩:=h.el i hi;exact⟨b,o,a',c',e,hx.load hw l,r.mono hx hw⟩⟩
end Go.Proofs.hq
end

section
namespace Go.Hb
section
variable {α:Type}
structure Ordr (G:α→Prop) (cmp:α→α→Int):Prop where
 anti:∀x y,G x→G y→cmp y x=-(cmp x y)
 le:∀x y z,G x→G y→G z→cmp x y≤0→cmp y z≤0→cmp x z≤0
variable {G:α→Prop}{cmp:α→α→Int}
theorem Ordr.self (o:Ordr G cmp) {x:α}(h:G x):cmp x x=0:=by have:=o.anti x x h h;omega
def like (cmp:α→α→Int) (x:α) (l:List α):List α:=l.filter fun y=>cmp x y == 0
theorem z3l {x:α}(l m:List α):like cmp x (l++m)=like cmp x l++like cmp x m:=List.filter_append ..
structure Stb (G:α→Prop) (cmp:α→α→Int) (l m:List α):Prop where
 perm:l.Perm m
 eq:∀x,G x→like cmp x l=like cmp x m
theorem Stb.refl (l:List α):Stb G cmp l l:=⟨.refl _,fun _ _=>rfl⟩
theorem Stb.symm {l m:List α}(h:Stb G cmp l m):Stb G cmp m l:=⟨h.perm.symm,fun x hx=>(h.eq x hx).symm⟩
theorem Stb.trans {l m n:List α}(h:Stb G cmp l m) (k:Stb G cmp m n):Stb G cmp l n:=⟨h.perm.trans k.perm,fun x hx=>(h.eq x hx).trans (k.eq x hx)⟩
theorem Stb.append {l m l' m':List α}(h:Stb G cmp l m) (k:Stb G cmp l' m'):Stb G cmp (l++l') (m++m') :=
 ⟨h.perm.append k.perm,fun x hx=>by rw[z3l,z3l,h.eq x hx,k.eq x hx]⟩
theorem zg8 {x:α}{l:List α}(h:∀y∈l,cmp x y≠0):like cmp x l=[]:=by
 unfold like;rw[List.filter_eq_nil_iff];intro y hy;simpa using h y hy
theorem Stb.swap (o:Ordr G cmp) {u v:List α}(hu:∀x∈u,G x) (hv:∀x∈v,G x) (h:∀x∈u,∀y∈v,cmp y x < 0):Stb G cmp (u++v) (v++u):=by
 refine⟨List.perm_append_comm,fun z hz=>?_⟩;rw[z3l,z3l];by_cases hc:∃x∈u,cmp z x=0
 ·obtain⟨x,hx,he⟩:=hc;have:like cmp z v=[]:=zg8 fun y hy e=>by
   have h1:=h x hx y hy;have h2:=o.anti z y hz (hv y hy);have:=o.le y z x (hv y hy) hz (hu x hx) (by omega) (by omega);have h3:=o.anti z x hz (hu x hx);have:=o.le x z y (hu x hx) hz (hv y hy) (by omega) (by omega);have:=o.anti x y (hu x hx) (hv y hy);omega
  rw[this];simp
 ·have:like cmp z u=[]:=zg8 fun y hy e=>hc ⟨y,hy,e⟩
  rw[this];simp
def Srt (cmp:α→α→Int) (l:List α):Prop:=l.Pairwise fun x y=>cmp x y≤0
theorem Srt.one (o:Ordr G cmp):∀{l m:List α},(∀x∈l,G x)→Srt cmp l→Srt cmp m→Stb G cmp l m→l=m
 |[],m,_,_,_,h=>by have:=h.perm.length_eq;exact(List.length_eq_zero_iff.1 this.symm).symm
 |x :: l,[],_,_,_,h=>by have:=h.perm.length_eq;simp at this
 |x :: l,y :: m,hg,h1,h2,h=>by
  have hgm:∀z∈y :: m,G z:=fun z hz=>hg z (h.perm.mem_iff.2 hz)
  have gx:=hg x (by simp);have gy:=hgm y (by simp);have hxy:cmp x y≤0:=by
   have hy:y∈x :: l:=h.perm.mem_iff.2 (by simp);rcases List.mem_cons.1 hy with e|hy
   ·rw[e,o.self gx];exact Int.le_refl _
   ·exact(List.pairwise_cons.1 h1).1 y hy
  have hyx:cmp y x≤0:=by
   have hx:x∈y :: m:=h.perm.mem_iff.1 (by simp);rcases List.mem_cons.1 hx with e|hx
   ·rw[e,o.self gy];exact Int.le_refl _
   ·exact(List.pairwise_cons.1 h2).1 x hx
  have a:=o.anti x y gx gy;have e0:=h.eq x gx;unfold like at e0;rw[List.filter_cons_of_pos (by simp [o.self gx]),List.filter_cons_of_pos (by simp;omega)] at e0;obtain⟨rfl,-⟩:=List.cons.inj e0;rw[Srt.one o (fun z hz=>hg z (Zj _ hz)) (List.pairwise_cons.1 h1).2 (List.pairwise_cons.1 h2).2 ⟨h.perm.cons_inv,fun z hz=>?_⟩];have:=h.eq z hz;unfold like at this ⊢;by_cases hc:cmp z x=0
  ·rw[List.filter_cons_of_pos (by simp [hc]),List.filter_cons_of_pos (by simp [hc])] at this;exact(List.cons.inj this).2
  ·rw[List.filter_cons_of_neg (by simp [hc]),List.filter_cons_of_neg (by simp [hc])] at this;exact this
def rowF (n:Nat) (D:Nat→α):List α:=(Zh n).map D
def segF (a n:Nat) (D:Nat→α):List α:=(List.range' a n).map D
theorem z6q {a n:Nat}{D:Nat→α}{x:α}:x∈segF a n D↔∃i,a≤i∧i < a+n∧D i=x:=by
 simp [segF,and_assoc]
theorem z48 {a m n:Nat}{D:Nat→α}:segF a (m+n) D=segF a m D++segF (a+m) n D:=by
 unfold segF;rw[←ZE,List.range'_append_1]
theorem zg9 {n:Nat}{D:Nat→α}:rowF n D=segF 0 n D:=by unfold rowF segF;rw[List.range_eq_range']
theorem z49 {a b n:Nat}{D E:Nat→α}(h:∀i,i < n→D (a+i)=E (b+i)):segF a n D=segF b n E:=by
 apply List.ext_getElem
 ·simp [segF]
 ·intro i h1 h2;simp [segF] at h1 ⊢;exact h i h1
structure Mv (G:α→Prop) (cmp:α→α→Int) (a b:Nat) (D E:Nat→α):Prop where
 out:∀k,k < a∨b≤k→E k=D k
 inn:∀k,a≤k→k < b→∃j,a≤j∧j < b∧E k=D j
 stb:∀n,b≤n→Stb G cmp (rowF n D) (rowF n E)
theorem Mv.refl {a b:Nat}(D:Nat→α):Mv G cmp a b D D:=⟨fun _ _=>rfl,fun k h1 h2=>⟨k,h1,h2,rfl⟩,fun _ _=>.refl _⟩
theorem Mv.trans {a b:Nat}{D E F:Nat→α}(h:Mv G cmp a b D E) (k:Mv G cmp a b E F):Mv G cmp a b D F :=
 ⟨fun i hi=>(k.out i hi).trans (h.out i hi),fun i h1 h2=>by
  obtain⟨j,j1,j2,e⟩:=k.inn i h1 h2;obtain⟨l,l1,l2,e2⟩:=h.inn j j1 j2;exact⟨l,l1,l2,e.trans e2⟩,fun n hn=>(h.stb n hn).trans (k.stb n hn)⟩
theorem Mv.wide {a b a' b':Nat}{D E:Nat→α}(h:Mv G cmp a b D E) (ha:a'≤a) (hb:b≤b'):Mv G cmp a' b' D E :=
 ⟨fun k hk=>h.out k (by omega),fun k h1 h2=>by
  by_cases hk:a≤k∧k < b
  ·obtain⟨j,j1,j2,e⟩:=h.inn k hk.1 hk.2;exact⟨j,by omega,by omega,e⟩
  ·exact⟨k,h1,h2,h.out k (by omega)⟩,fun n hn=>h.stb n (by omega)⟩
def rotF (a m b:Nat) (D:Nat→α):Nat→α:=fun k=>if a≤k∧k < a+(b - m) then D (k+(m - a)) else if a≤k∧k < b then D (k - (b - m)) else D k
theorem Mv.rot (o:Ordr G cmp) {a m b:Nat}{D:Nat→α}(h1:a≤m) (h2:m≤b) (hg:∀k,k < b→G (D k)) (h:∀i j,a≤i→i < m→m≤j→j < b→cmp (D j) (D i) < 0):Mv G cmp a b D (rotF a m b D):=by
 refine⟨fun k hk=>?_,fun k k1 k2=>?_,fun n hn=>?_⟩
 ·unfold rotF;rw[if_neg (by omega),if_neg (by omega)]
 ·unfold rotF;by_cases hc:k < a+(b - m)
  ·rw[if_pos ⟨k1,hc⟩];exact⟨_,by omega,by omega,rfl⟩
  ·rw[if_neg (by omega),if_pos ⟨k1,k2⟩];exact⟨_,by omega,by omega,rfl⟩
 ·obtain⟨p,rfl⟩:∃p,n=a+((m - a)+(b - m))+p:=⟨n - b,by omega⟩
  rw[zg9,zg9,z48,z48,z48,z48 (D:=rotF a m b D),z48 (D:=rotF a m b D),show segF (0+a) (m - a+(b - m)) (rotF a m b D)=segF (0+a) (b - m) (rotF a m b D)++segF (0+a+(b - m)) (m - a) (rotF a m b D) by rw[←z48,Nat.add_comm (b - m)]];rw[z49 (a:=0) (b:=0) (D:=rotF a m b D) (E:=D) (fun i hi=>by unfold rotF;rw[if_neg (by omega),if_neg (by omega)]),
   z49 (a:=0+a) (b:=0+a+(m - a)) (D:=rotF a m b D) (E:=D) (fun i hi=>by unfold rotF;rw[if_pos (by omega)];congr 1;omega),
   z49 (a:=0+a+(b - m)) (b:=0+a) (D:=rotF a m b D) (E:=D) (fun i hi=>by unfold rotF;rw[if_neg (by omega),if_pos (by omega)];congr 1;omega),
   z49 (a:=0+(a+(m - a+(b - m)))) (b:=0+(a+(m - a+(b - m)))) (D:=rotF a m b D) (E:=D) (fun i hi=>by unfold rotF;rw[if_neg (by omega),if_neg (by omega)])]
  refine((Stb.refl _).append (Stb.swap o (fun x hx=>?_) (fun x hx=>?_) (fun x hx y hy=>?_))).append (.refl _)
  ·obtain⟨i,i1,i2,rfl⟩:=z6q.1 hx;exact hg i (by omega)
  ·obtain⟨i,i1,i2,rfl⟩:=z6q.1 hx;exact hg i (by omega)
  ·obtain⟨i,i1,i2,rfl⟩:=z6q.1 hx;obtain⟨j,j1,j2,rfl⟩:=z6q.1 hy;exact h i j (by omega) (by omega) (by omega) (by omega)
def swF (i j:Nat) (D:Nat→α):Nat→α:=fun k=>if k=i then D j else if k=j then D i else D k
theorem zpw {j:Nat}{D:Nat→α}:rotF j (j+1) (j+2) D=swF j (j+1) D:=by
 funext k
 unfold rotF swF;by_cases h1:k=j
 ·subst h1;rw[if_pos (by omega),if_pos rfl];congr 1;omega
 ·by_cases h2:k=j+1
  ·subst h2;rw[if_neg (by omega),if_pos (by omega),if_neg (by omega),if_pos rfl];congr 1;omega
  ·rw[if_neg (by omega),if_neg (by omega),if_neg h1,if_neg h2]
theorem Mv.swap (o:Ordr G cmp) {a b j:Nat}{D:Nat→α}(h1:a≤j) (h2:j+2≤b) (hg:∀k,k < b→G (D k)) (h:cmp (D (j+1)) (D j) < 0):Mv G cmp a b D (swF j (j+1) D):=by
 rw[←zpw];refine(Mv.rot o (by omega) (by omega) (fun k hk=>hg k (by omega)) fun i k i1 i2 k1 k2=>?_).wide h1 h2;obtain rfl:i=j:=by omega
 obtain rfl:k=i+1:=by omega
 exact h
def InO (cmp:α→α→Int) (a b:Nat) (D:Nat→α):Prop:=∀p q,a≤p→p < q→q < b→cmp (D p) (D q)≤0
end
end Go.Hb
end

section
namespace Go.Hb
section
variable {α:Type}
def Pm (a b:Nat) (D E:Nat→α):Prop:=∃s t:Nat→Nat,(∀k,t (s k)=k)∧(∀k,s (t k)=k)∧(∀k,k < a∨b≤k→s k=k)∧∀k,E k=D (s k)
theorem Pm.refl {a b:Nat}(D:Nat→α):Pm a b D D:=⟨id,id,fun _=>rfl,fun _=>rfl,fun _ _=>rfl,fun _=>rfl⟩
theorem Pm.trans {a b:Nat}{D E F:Nat→α}(h:Pm a b D E) (k:Pm a b E F):Pm a b D F:=by
 obtain⟨s,t,h1,h2,h3,h4⟩:=h;obtain⟨u,v,k1,k2,k3,k4⟩:=k;refine⟨fun i=>s (u i),fun i=>v (t i),fun i=>by simp only[h1,k1],fun i=>by simp only[h2,k2],fun i hi=>by simp only[k3 i hi,h3 i hi],fun i=>by rw[k4,h4]⟩
theorem Pm.wide {a b a' b':Nat}{D E:Nat→α}(h:Pm a b D E) (ha:a'≤a) (hb:b≤b'):Pm a' b' D E:=by
 obtain⟨s,t,h1,h2,h3,h4⟩:=h;exact⟨s,t,h1,h2,fun k hk=>h3 k (by omega),h4⟩
theorem Pm.out {a b:Nat}{D E:Nat→α}(h:Pm a b D E) {k:Nat}(hk:k < a∨b≤k):E k=D k:=by
 obtain⟨s,t,h1,h2,h3,h4⟩:=h;rw[h4,h3 k hk]
theorem Pm.inn {a b:Nat}{D E:Nat→α}(h:Pm a b D E) {k:Nat}(h1:a≤k) (h2:k < b):∃j,a≤j∧j < b∧E k=D j:=by
 obtain⟨s,t,k1,k2,k3,k4⟩:=h;by_cases hc:a≤s k∧s k < b
 ·exact⟨s k,hc.1,hc.2,k4 k⟩
 ·have e:=k3 (s k) (by omega);have e2:=k1 (s k);rw[e] at e2;have e3:=k1 k;rw[e3] at e2;omega
theorem Pm.swap {a b i j:Nat}{D:Nat→α}(h1:a≤i) (h2:i < b) (h3:a≤j) (h4:j < b):Pm a b D (swF i j D):=by
 refine⟨fun k=>if k=i then j else if k=j then i else k,fun k=>if k=i then j else if k=j then i else k,fun k=>?_,fun k=>?_,fun k hk=>?_,fun k=>?_⟩
 ·by_cases e1:k=i
  ·subst e1;by_cases e2:j=k<;>simp [e2]
  ·by_cases e2:k=j
   ·subst e2;simp [e1]
   ·simp [e1,e2]
 ·by_cases e1:k=i
  ·subst e1;by_cases e2:j=k<;>simp [e2]
  ·by_cases e2:k=j
   ·subst e2;simp [e1]
   ·simp [e1,e2]
 ·simp only;rw[if_neg (by omega),if_neg (by omega)]
 ·unfold swF;simp only;split
  ·rfl
  ·split<;>rfl
theorem Pm.all {a b:Nat}{D E:Nat→α}(h:Pm a b D E) {P:α→Prop}(hP:∀k,a≤k→k < b→P (D k)):∀k,a≤k→k < b→P (E k):=fun k h1 h2=>by
 obtain⟨j,j1,j2,e⟩:=h.inn h1 h2;rw[e];exact hP j j1 j2
def InZ (z:α→Int) (a b:Nat) (D:Nat→α):Prop:=∀p q,a≤p→p < q→q < b→z (D p)≤z (D q)
theorem InZ.few {z:α→Int}{a b:Nat}{D:Nat→α}(h:b≤a+1):InZ z a b D:=fun p q h1 h2 h3=>by omega
theorem InZ.join {z:α→Int}{a m b:Nat}{D:Nat→α}(h1:InZ z a m D) (h2:InZ z (m+1) b D) (h3:∀k,a≤k→k < m→z (D k)≤z (D m)) (h4:∀k,m < k→k < b→z (D m)≤z (D k)):InZ z a b D:=fun p q hp hpq hq=>by
 by_cases c1:q < m
 ·exact h1 p q hp hpq c1
 by_cases c2:m < p
 ·exact h2 p q (by omega) hpq hq
 by_cases c3:p=m
 ·subst c3;exact h4 q hpq hq
 by_cases c4:q=m
 ·subst c4;exact h3 p hp hpq
 exact Int.le_trans (h3 p hp (by omega)) (h4 q (by omega) hq)
def HpF (z:α→Int) (f lo hi:Nat) (D:Nat→α):Prop:=∀k c,lo≤k→(c=2*k+1∨c=2*k+2)→c < hi→z (D (f+c))≤z (D (f+k))
def HpX (z:α→Int) (f lo hi r:Nat) (D:Nat→α):Prop :=
 (∀k c,lo≤k→k≠r→(c=2*k+1∨c=2*k+2)→c < hi→z (D (f+c))≤z (D (f+k))) ∧
 (∀k c,lo≤k→(r=2*k+1∨r=2*k+2)→(c=2*r+1∨c=2*r+2)→c < hi→z (D (f+c))≤z (D (f+k)))
theorem HpX.done {z:α→Int}{f lo hi r:Nat}{D:Nat→α}(h:HpX z f lo hi r D) (hr:∀c,(c=2*r+1∨c=2*r+2)→c < hi→z (D (f+c))≤z (D (f+r))):HpF z f lo hi D:=fun k c h1 h2 h3=>by
 by_cases e:k=r
 ·subst e;exact hr c h2 h3
 ·exact h.1 k c h1 e h2 h3
theorem HpX.start {z:α→Int}{f lo hi:Nat}{D:Nat→α}(h:HpF z f (lo+1) hi D):HpX z f lo hi lo D :=
 ⟨fun k c h1 h2 h3 h4=>h k c (by omega) h3 h4,fun k c h1 h2 h3 h4=>by omega⟩
theorem HpX.step {z:α→Int}{f lo hi r c:Nat}{D:Nat→α}(h:HpX z f lo hi r D) (hlo:lo≤r) (hc:c=2*r+1∨c=2*r+2) (hi1:c < hi) (hlt:z (D (f+r)) < z (D (f+c)))
  (hbig:∀d,(d=2*r+1∨d=2*r+2)→d < hi→z (D (f+d))≤z (D (f+c))):HpX z f lo hi c (swF (f+r) (f+c) D):=by
 have e1:swF (f+r) (f+c) D (f+r)=D (f+c):=by unfold swF;rw[if_pos rfl]
 have e2:swF (f+r) (f+c) D (f+c)=D (f+r):=by unfold swF;rw[if_neg (by omega),if_pos rfl]
 have e3:∀k,k≠r→k≠c→swF (f+r) (f+c) D (f+k)=D (f+k):=fun k h1 h2=>by unfold swF;rw[if_neg (by omega),if_neg (by omega)]
 constructor
 ·intro k d h1 h2 h3 h4;by_cases k1:k=r
  ·subst k1;rw[e1];by_cases d1:d=c
   ·subst d1;rw[e2];omega
   ·rw[e3 d (by omega) d1];exact hbig d h3 h4
  ·rw[e3 k k1 h2];by_cases d1:d=r
   ·subst d1;rw[e1];exact h.2 k c h1 h3 hc hi1
   ·by_cases d2:d=c
    ·omega
    ·rw[e3 d d1 d2];exact h.1 k d h1 k1 h3 h4
 ·intro k d h1 h2 h3 h4;obtain rfl:k=r:=by omega
  rw[e1,e3 d (by omega) (by omega)];exact h.1 c d (by omega) (by omega) h3 h4
theorem HpF.top {z:α→Int}{f hi:Nat}{D:Nat→α}(h:HpF z f 0 hi D):∀k,k < hi→z (D (f+k))≤z (D f):=by
 intro k
 induction k using Nat.strongRecOn with
 |_ k ih =>
  intro hk;by_cases h0:k=0
  ·subst h0;exact Int.le_refl _
  ·have:=h ((k - 1) / 2) k (ZA _) (by omega) hk;exact Int.le_trans this (ih _ (by omega) (by omega))
theorem HpF.drop {z:α→Int}{a j:Nat}{D:Nat→α}(hp:HpF z a 0 (j+1) D):HpF z a 1 j (swF a (a+j) D):=fun k c h1 h2 h3=>by
 have hk:swF a (a+j) D (a+k)=D (a+k):=by unfold swF;rw[if_neg (by omega),if_neg (by omega)]
 have hc:swF a (a+j) D (a+c)=D (a+c):=by unfold swF;rw[if_neg (by omega),if_neg (by omega)]
 rw[hk,hc];exact hp k c (ZA _) h2 (by omega)
end
end Go.Hb
end

section
namespace Go.Hb
open Go Go.RowKit
structure El where
 t:Tm
 a:Option Addr
 c:Nat
 S:Nat→Prop
abbrev El.six (e:El):List Value:=Hb.six e.t e.a e.c
theorem El.six_len (e:El):e.six.length=6:=rfl
theorem El.six_ones (e:El):e.six.all one=true:=rfl
structure RowE (H:Heap) (T:TypeId) (b n:Nat) (D:Nat→El):Prop where
 row:∃cells,H.get b=some (.row cells T)∧n*6≤cells.length∧∀k,k < n→(cells.drop (k*6)).take 6=(D k).six
theorem RowE.load {H:Heap}{T:TypeId}{b n:Nat}{D:Nat→El}(h:RowE H T b n D) {k:Nat}(hk:k < n):H.load ⟨b,k*6,none⟩ 6=some (D k).six:=by
 obtain⟨cells,hg,hl,he⟩:=h;unfold Heap.load Heap.cells;simp only[hg,he k hk];rfl
theorem RowE.heap {H H':Heap}{T:TypeId}{b n:Nat}{D:Nat→El}(h:RowE H T b n D) (hg:H'.get b=H.get b):RowE H' T b n D:=by
 obtain⟨cells,h1,h2⟩:=h;exact⟨cells,by rw[hg];exact h1,h2⟩
theorem RowE.congr {H:Heap}{T:TypeId}{b n:Nat}{D E:Nat→El}(h:RowE H T b n D) (he:∀k,k < n→E k=D k):RowE H T b n E:=by
 obtain⟨cells,h1,h2,h3⟩:=h;exact⟨cells,h1,h2,fun k hk=>by rw[he k hk];exact h3 k hk⟩
theorem RowE.put {H:Heap}{T:TypeId}{b n:Nat}{D:Nat→El}{cells:List Value}(hl:n*6≤cells.length) (he:∀k,k < n→(cells.drop (k*6)).take 6=(D k).six) {i:Nat}(hi:i < n) (e:El) :
  RowE (H.put b (some (.row (Hb.splice cells (i*6) e.six) T))) T b n (fun k=>if k=i then e else D k):=by
 have hle:i*6+e.six.length≤cells.length:=by have:=mul6 hi;rw[El.six_len];omega
 refine⟨_,by rw[get_put,if_pos rfl],by rw[z1s hle];exact hl,fun k hk=>?_⟩;by_cases h:k=i
 ·subst h;rw[if_pos rfl];exact z24 (s:=6) hle rfl
 ·rw[if_neg h,z1u (s:=6) hle rfl (by rcases Nat.lt_or_gt_of_ne h with h|h;exact .inl (mul6 h);exact .inr (mul6 h))];exact he k hk
theorem RowE.swap {H:Heap}{T:TypeId}{b n:Nat}{D:Nat→El}{cells:List Value}(hl:n*6≤cells.length) (he:∀k,k < n→(cells.drop (k*6)).take 6=(D k).six) {i j:Nat}(hi:i < n) (hj:j < n) (hij:i≠j) (H2:Heap)
  (h2:H2.get b=some (.row (Hb.splice (Hb.splice cells (i*6) (D j).six) (j*6) (D i).six) T)):RowE H2 T b n (swF i j D):=by
 obtain⟨c1,g1,l1,e1⟩:=RowE.put (H:=H) (T:=T) (b:=b) hl he hi (D j);rw[get_put,if_pos rfl] at g1;cases g1;have:=(RowE.put (H:=H2) (T:=T) (b:=b) l1 e1 hj (D i)).heap (H':=H2) (by rw[get_put,if_pos rfl,h2]);refine this.congr fun k hk=>?_
 unfold swF;by_cases h1:k=i
 ·subst h1;rw[if_pos rfl,if_neg hij,if_pos rfl]
 ·rw[if_neg h1];by_cases h3:k=j
  ·rw[if_pos h3,if_pos h3]
  ·rw[if_neg h3,if_neg h3,if_neg h1]
end Go.Hb
end

section
namespace Go.Hb
open Go Go.RowKit
def dNil (v:Value) (H:Heap):Option Dr:=match v with
 |.pointer (some a)=>some (.val (.pointer (some a)) H)
 |.func (.func f) a b=>some (.val (.func (.func f) a b) H)
 |_=>none
structure Bnd where
 v:Int
 e:El
abbrev Bnd.seven (d:Bnd):List Value:=.int .i64 d.v :: d.e.six
theorem Bnd.seven_len (d:Bnd):d.seven.length=7:=rfl
theorem mul7 {k n:Nat}(h:k < n):k*7+7≤n*7:=by omega
structure RowB (H:Heap) (T:TypeId) (b n:Nat) (D:Nat→Bnd):Prop where
 row:∃cells,H.get b=some (.row cells T)∧n*7≤cells.length∧∀k,k < n→(cells.drop (k*7)).take 7=(D k).seven
theorem RowB.load {H:Heap}{T:TypeId}{b n:Nat}{D:Nat→Bnd}(h:RowB H T b n D) {k:Nat}(hk:k < n):H.load ⟨b,k*7,none⟩ 7=some (D k).seven:=by
 obtain⟨cells,hg,hl,he⟩:=h;unfold Heap.load Heap.cells;simp only[hg,he k hk];rfl
theorem RowB.heap {H H':Heap}{T:TypeId}{b n:Nat}{D:Nat→Bnd}(h:RowB H T b n D) (hg:H'.get b=H.get b):RowB H' T b n D:=by
 obtain⟨cells,h1,h2⟩:=h;exact⟨cells,by rw[hg];exact h1,h2⟩
theorem RowB.congr {H:Heap}{T:TypeId}{b n:Nat}{D E:Nat→Bnd}(h:RowB H T b n D) (he:∀k,k < n→E k=D k):RowB H T b n E:=by
 obtain⟨cells,h1,h2,h3⟩:=h;exact⟨cells,h1,h2,fun k hk=>by rw[he k hk];exact h3 k hk⟩
theorem RowB.put {H:Heap}{T:TypeId}{b n:Nat}{D:Nat→Bnd}{cells:List Value}(hl:n*7≤cells.length) (he:∀k,k < n→(cells.drop (k*7)).take 7=(D k).seven) {i:Nat}(hi:i < n) (e:Bnd) :
  RowB (H.put b (some (.row (Hb.splice cells (i*7) e.seven) T))) T b n (fun k=>if k=i then e else D k):=by
 have hle:i*7+e.seven.length≤cells.length:=by have:=mul7 hi;rw[Bnd.seven_len];omega
 refine⟨_,by rw[get_put,if_pos rfl],by rw[z1s hle];exact hl,fun k hk=>?_⟩;by_cases h:k=i
 ·subst h;rw[if_pos rfl];exact z24 (s:=7) hle rfl
 ·rw[if_neg h,z1u (s:=7) hle rfl (by rcases Nat.lt_or_gt_of_ne h with h|h;exact .inl (mul7 h);exact .inr (mul7 h))];exact he k hk
theorem RowB.swap {H:Heap}{T:TypeId}{b n:Nat}{D:Nat→Bnd}{cells:List Value}(hl:n*7≤cells.length) (he:∀k,k < n→(cells.drop (k*7)).take 7=(D k).seven) {i j:Nat}(hi:i < n) (hj:j < n) (H2:Heap)
  (h2:H2.get b=some (.row (Hb.splice (Hb.splice cells (i*7) (D j).seven) (j*7) (D i).seven) T)):RowB H2 T b n (swF i j D):=by
 obtain⟨c1,g1,l1,e1⟩:=RowB.put (H:=H) (T:=T) (b:=b) hl he hi (D j);rw[get_put,if_pos rfl] at g1;cases g1;have:=(RowB.put (H:=H2) (T:=T) (b:=b) l1 e1 hj (D i)).heap (H':=H2) (by rw[get_put,if_pos rfl,h2]);refine this.congr fun k hk=>?_
 unfold swF;by_cases h1:k=i
 ·subst h1;rw[if_pos rfl];by_cases h3:k=j
  ·subst h3;rw[if_pos rfl]
  ·rw[if_neg h3,if_pos rfl]
 ·rw[if_neg h1];by_cases h3:k=j
  ·rw[if_pos h3,if_pos h3]
  ·rw[if_neg h3,if_neg h3,if_neg h1]
end Go.Hb
end

section
namespace Go.Proofs.hq
open Go Go.RowKit Go.Hb
variable {ok:Ok}
set_option maxRecDepth 10000
attribute [local irreducible] LX LG EL STG SOP SGO SGD SAL SRD SEF SEG SLK SCK ES
theorem z3x {t:Tm}(h:Fine t) (k:t.kind=1):t.args=[]:=(z16 (z0j h.node).2.2.1).2.2.2.2 (by omega)
theorem zab {α:Type}(o:Option α):(∃u,o=some u)∨o=none:=by
 cases o with
 |none=>exact .inr rfl
 |some u=>exact .inl ⟨u,rfl⟩
def lookT (B:List (Int × Tm)) (n:Int):Option Tm:=(B.find? fun p=>p.1 == n).map (·.2)
theorem zhy {B:List (Int × Tm)}{n m:Int}{u:Tm}(h:lookT B n=none):lookT (B++[(n,u)]) m=if m=n then some u else lookT B m:=by
 unfold lookT at *;rw[List.find?_append];by_cases hm:m=n
 ·subst hm;have:B.find? (fun p=>p.1 == m)=none:=by simpa using h
  rw[if_pos rfl,this];simp
 ·rw[if_neg hm];have:((n == m):Bool)=false:=by simp;omega
  simp [List.find?_cons,this]
theorem zhz {B:List (Int × Tm)}{n:Int}:lookT B n=none↔∀p∈B,p.1≠n:=by
 unfold lookT;rw[Option.map_eq_none_iff,List.find?_eq_none];simp
theorem zl7 {B:List (Int × Tm)}{n:Int}{u:Tm}(h:lookT B n=some u):(n,u)∈B:=by
 unfold lookT at h;rw[Option.map_eq_some_iff] at h;obtain⟨p,hp,rfl⟩:=h;have h1:=List.find?_some hp;have h2:p.1=n:=by simpa using h1
 rw[←h2];exact List.mem_of_find?_eq_some hp
def MapT (H0 H:Heap) (r:Nat) (B:List (Int × Tm)):Prop:=∃M,MapR H r M∧∀n,(∀u,lookT B n=some u→∃cs,mGet M n=some (.agg ⟨cs⟩)∧RepT H0 u cs)∧(lookT B n=none→mGet M n=none)
theorem MapT.heap {H0 H H':Heap}{r:Nat}{B:List (Int × Tm)}(h:MapT H0 H r B) (hk:H'.get r=H.get r):MapT H0 H' r B:=by
 obtain⟨M,h1,h2⟩:=h;exact⟨M,h1.heap hk,h2⟩
theorem MapT.lt {H0 H:Heap}{r:Nat}{B:List (Int × Tm)}(h:MapT H0 H r B) (hw:H.wf):r < H.next:=by obtain⟨M,h1,-⟩:=h;exact h1.lt hw
theorem MapT.keep {H0 H H':Heap}{r:Nat}{B:List (Int × Tm)}(h:MapT H0 H r B) (hx:HX H H') (hw:H.wf):MapT H0 H' r B:=h.heap (hx.keep r (h.lt hw))
theorem MapT.push {P:Program}{t kt et:TypeId}{z:Value}{H0 H:Heap}{r:Nat}{B:List (Int × Tm)}{n:Int}{u:Tm}{cs:List Value}(hp:mpOk P t kt et z) (h:MapT H0 H r B) (hn:lookT B n=none) (hu:RepT H0 u cs) :
  ∃K,dUp P t (.map (some r)) (.int .i64 n) (.agg ⟨cs⟩) H=some (.val undef (H.put r (some K)))∧MapT H0 (H.put r (some K)) r (B++[(n,u)]):=by
 obtain⟨M,h1,h2⟩:=h;have hM:=(h2 n).2 hn;obtain⟨K,k1,k2⟩:=zde (v:=.agg ⟨cs⟩) hp h1 hM;refine⟨K,k1,_,k2,fun m=>?_⟩;rw[zhy hn,z7o hM];by_cases hm:m=n
 ·rw[if_pos hm,if_pos hm];exact⟨fun w hw=>by cases hw;exact⟨cs,rfl,hu⟩,fun hw=>by cases hw⟩
 ·rw[if_neg hm,if_neg hm];exact h2 m
theorem zdy:mpOk Tryd.prog 102 3 25 (.agg ⟨zero6⟩):=⟨Tryd.underlying102,Tryd.underlying3,by kernel_rfl,rfl⟩
theorem row1 {H:Heap}{p:Nat}{T:TypeId}{v:Value}(h:H.get p=some (.row [v] T)):H.load ⟨p,0,none⟩ 1=some [v]:=by simp only[Heap.load,Heap.cells,h];rfl
mutual
def subO (σ:Int→Option Tm):Tm→Tm
 |.mk k s u b v l=>if k=1 then (σ v).getD (.mk k s u b v l) else .mk k s u b v (subOL σ l)
def subOL (σ:Int→Option Tm):List Tm→List Tm
 |[]=>[]
 |t :: l=>subO σ t :: subOL σ l
end
theorem zch (σ:Int→Option Tm):∀l:List Tm,subOL σ l=l.map (subO σ)
 |[]=>by rw[subOL];rfl
 |t :: l=>by rw[subOL,zch σ l];rfl
theorem z5t {σ:Int→Option Tm}{t:Tm}(h:t.kind=1):subO σ t=(σ t.var).getD t:=by
 obtain⟨k,s,u,b,v,l⟩:=t;rw[subO,if_pos (show k=1 from h)];rfl
theorem zl8 {σ:Int→Option Tm}{t:Tm}(h:t.kind≠1):subO σ t=.mk t.kind t.name t.num t.bits t.var (t.args.map (subO σ)):=by
 obtain⟨k,s,u,b,v,l⟩:=t;rw[subO,if_neg (show ¬k=1 from h),zch];rfl
structure ByOpt (g:FuncId) (cap:Array Value) (σ:Int→Option Tm) (J:Heap→Prop):Prop where
 step:∀n H,i64 n→J H→H.wf→EvF Tryd.prog okT g ([.int .i64 n]++cap.toList) H fun v H'=>HX H H'∧((∃u cs,σ n=some u∧v=.tuple #[.agg ⟨cs⟩,.bool true]∧RepT H' u cs)∨(σ n=none∧v=.tuple #[.agg ⟨zero6⟩,.bool false]))
 stay:∀H H',J H→HX H H'→J H'
 fine:∀n u,σ n=some u→Fine u
theorem RepT.made {H:Heap}{t u:Tm}{a:Option Addr}{c:Nat}{cells:Nat→List Value}(hb:Bd t) (e:u=.mk t.kind t.name t.num t.bits t.var u.args) (rl:RepL H u.args a c cells):RepT H u (six u a c):=by
 obtain⟨k,s,w,b,v,l⟩:=u;have e':(Tm.mk k s w b v l)=.mk t.kind t.name t.num t.bits t.var l:=e;injection e' with e1 e2 e3 e4 e5;subst e1 e2 e3 e4 e5;exact .mk _ _ _ _ _ l a c cells hb.kind hb.name hb.num hb.bits hb.var (Zp rl.len rl.cap) rl.len rl.cap rl.nil rl.load rl.rep
def RepS (H:Heap) (S:Nat→Prop) (t:Tm) (cs:List Value):Prop:=∀G:Heap,(∀n,S n→n < H.next→G.get n=H.get n)→RepT G t cs
theorem RepS.rep {H:Heap}{S:Nat→Prop}{t:Tm}{cs:List Value}(h:RepS H S t cs):RepT H t cs:=h H fun _ _ _=>rfl
theorem RepS.to {H H2:Heap}{S S2:Nat→Prop}{t:Tm}{cs:List Value}(h:RepS H S t cs) (hk:∀n,S n→n < H.next→H2.get n=H.get n∧S2 n∧n < H2.next):RepS H2 S2 t cs:=fun G hG=>h G fun n hn hl=>by
 obtain⟨a,b,c⟩:=hk n hn hl;rw[hG n b c,a]
theorem RepF.toS {H:Heap}{T:TypeId}{S:Nat→Prop}{t:Tm}{cs:List Value}(h:RepF H T S t cs) (hw:H.wf):RepS H S t cs:=fun G hG=>by
 obtain⟨a,c,rfl,hb,hf⟩:=h;exact RepF.rep (T:=T) (S:=S) ⟨a,c,rfl,hb,hf.heap hG hw⟩
theorem RepS.leaf {H:Heap}{S:Nat→Prop}{t:Tm}{a:Option Addr}{c:Nat}(hb:Bd t) (he:t.args=[]) (hc:c≤maxLen) (hn:a=none→c=0):RepS H S t (six t a c):=fun G _ =>
 RepT.made (cells:=fun _=>[]) hb (by obtain⟨k,s,u,b,v,l⟩:=t;rfl) (by rw[he];exact⟨ZA _,hc,fun h=>⟨rfl,hn h⟩,fun i ad hi=>by simp at hi,fun i t h=>by simp at h⟩)
theorem RepS.row {H:Heap}{S:Nat→Prop}{T:TypeId}{t u:Tm}{b c:Nat}{cells:List Value}(hb:Bd t) (e:u=.mk t.kind t.name t.num t.bits t.var u.args) (hg:H.get b=some (.row cells T)) (hS:S b) (hbl:b < H.next) (hl:u.args.length*6≤cells.length) (hc:u.args.length≤c) (hm:c≤maxLen)
  (hch:∀(j:Nat) (hj:j < u.args.length),RepS H S u.args[j] ((cells.drop (j*6)).take 6)):RepS H S u (six u (some ⟨b,0,none⟩) c):=fun G hG =>
 RepT.made hb e (RepL.of_row (by rw[hG b hS hbl];exact hg) (fun i hi=>rfl) (fun i t ht=>by
  obtain⟨hj,rfl⟩:=List.getElem?_eq_some_iff.1 ht;exact hch i hj G hG) hc hm)
def TopR (H:Heap) (T:TypeId) (S:Nat→Prop) (t:Tm) (cs:List Value):Prop :=
 t.args=[]∨∃b c cells,cs=six t (some ⟨b,0,none⟩) c∧H.get b=some (.row cells T)∧S b∧b < H.next∧t.args.length*6≤cells.length∧∀j,j < t.args.length→((cells.drop (j*6)).take 6).all one=true
theorem TopR.heap {H H':Heap}{T:TypeId}{S S':Nat→Prop}{t:Tm}{cs:List Value}(h:TopR H T S t cs) (hk:∀n,S n→n < H.next→H'.get n=H.get n∧S' n∧n < H'.next):TopR H' T S' t cs:=by
 rcases h with h|⟨b,c,cells,h1,h2,h3,h4,h5⟩
 ·exact .inl h
 ·obtain⟨k1,k2,k3⟩:=hk b h3 h4;exact .inr ⟨b,c,cells,h1,k1.trans h2,k2,k3,h5⟩
theorem zl9 {t:Tm}{a:Option Addr}{c:Nat}:(six t a c).all one=true:=rfl
theorem RepT.all {H:Heap}{t:Tm}{cs:List Value}(r:RepT H t cs):cs.all one=true:=by obtain⟨a,c,cells,rfl,-⟩:=r.six;exact zl9
theorem RepF.top {H:Heap}{T:TypeId}{S:Nat→Prop}{t:Tm}{cs:List Value}(h:RepF H T S t cs) (hw:H.wf):TopR H T S t cs:=by
 obtain⟨a,c,rfl,hb,hf⟩:=h;generalize hl:t.args=l at hf;cases hf with
 |nil=>exact .inl hl
 |row _ _ b c cells Si ai ci h1 h2 h3 h4 h5 h6 h7 h8 h9 h10 h11 =>
  refine .inr ⟨b,c,cells,rfl,h3,h7,hw _ _ h3,by rw[hl];exact h4,fun j hj=>?_⟩;rw[hl] at hj;rw[h5 j _ (Zc hj)];exact zl9
set_option maxHeartbeats 4000000 in
theorem zi0 {g:FuncId}{cap:Array Value}{σ:Int→Option Tm}{J:Heap→Prop}(hg:callable Tryd.prog g=true) (B:ByOpt g cap σ J) {m:Nat}:∀{t:Tm}{cs:List Value}{H:Heap},SizeOf.sizeOf t < m→RepT H t cs→Fine t→J H→H.wf →
  EvF Tryd.prog okT 53 [.agg ⟨cs⟩,.func (.func g) #[] cap] H fun v H'=>∃cs',v=.agg ⟨cs'⟩∧RepS H' (Rg H.next H'.next) (subO σ t) cs'∧TopR H' 25 (Rg H.next H'.next) (subO σ t) cs'∧HX H H':=by
 induction m with
 |zero=>intro t cs H h;omega
 |succ m ih =>
 intro t cs H hsz r hf hj hw;have r0:=r;have hbd:=r.bd;have hfew:=z3k hf;have hvar:=(z0j hf.node).2.2.2.1;obtain⟨a,c,cells,rfl,-,-,-,-,-,rl⟩:=r.six;refine EvF.enter rfl Tryd.func53 (by decide) rfl ?_;(repeat refine EvC.seq ?_);refine EvC.reg ?_;simp (config := { maxSteps := 2000000 }) (disch:=first|omega|rfl) only[sB,initTm,dBox,dAlloc,Value.cells,one,reduceCtorEq,zr25];obtain⟨H2,e2,hx2,gp,gq,hn2,hw2⟩:=new2 hw (.row (six t a c) 25) (.row zero6 25);simp only[e2];have q1:=row6 gp;clear e2;have hmost:t.args.length≤most:=by unfold most;omega
 have ne1:(H.next+1=H.next)=False:=by simp
 have ne2:(H.next=H.next+1)=False:=by simp
 by_cases k1:t.kind=1
 ·repeat' (first|refine EvC.seq ?_|(refine EvC.reg ?_;simp (config := { maxSteps := 2000000 }) (disch:=first|omega|rfl) only[sB,Za,reduceCtorEq,z1y,ld3,zbg,q1,z13 k1,z7e,z4o hg])|(refine EvC.condT ?_ ?_;simp (config := { maxSteps := 2000000 }) (disch:=first|omega|rfl) only[sB,Za,reduceCtorEq];refine z01 ?_))
  refine(B.step t.var H2 hbd.var (B.stay _ _ hj hx2) hw2).mono ?_;rintro v H3 ⟨hx3,h3⟩;have gq3:=hx3.get hw2 gq;have gp3:=hx3.get hw2 gp;rcases h3 with ⟨u,cs,hσ,rfl,r3⟩|⟨hσ,rfl⟩
  ·obtain⟨a3,c3,zju,rfl,-⟩:=r3.six
   repeat' (first|refine EvC.seq ?_|(refine EvC.reg ?_;simp (config := { maxSteps := 2000000 }) (disch:=first|omega|rfl) only[sB,Za,Zb,reduceCtorEq,cutC,ld25,cl69])|(refine z0n ?_;simp (config := { maxSteps := 2000000 }) (disch:=first|omega|rfl) only[sB,dAlloc,Za,Zb,one,reduceCtorEq,zr25,st25])|(refine EvC.condT ?_ ?_;simp (config := { maxSteps := 2000000 }) (disch:=first|omega|rfl) only[sB,Za,reduceCtorEq];refine z01 ?_))
   obtain⟨H4,e4,hx4,g4,hn4,hw4⟩:=z0k hx3.wf (.row zero6 25) (.row (six u a3 c3) 25);simp only[e4];have hx34:=hx3.trans hx4;have q4:=row6 g4;refine(zk0 (Zf _) (r3.mono hx4 hx3.wf) (B.fine _ _ hσ) hw4).mono ?_;rintro v H5 ⟨c5,rfl,⟨a5,k5,rfl,hb5,hf5⟩,hx5⟩;have gq5:=hx5.get hw4 (hx4.get hx3.wf gq3);have hx25:=hx34.trans hx5;have n24:=hx34.next;have n25:=hx25.next
   repeat' (first|(refine EvC.ret ?_;try simp only[z05,z04])|(refine z0n ?_;simp (config := { maxSteps := 2000000 }) (disch:=first|omega|rfl) only[sB,Zb,one,st25,gq5]))
   refine z0f rfl (by simp only[sB,Za,reduceCtorEq];rfl) (by simp only[sB,Zb,cutC,ld25];rfl) ⟨_,rfl,?_,?_,(hx2.trans hx25).pt (by omega) gq5 _⟩;rotate_left
   ·rw[z5t k1,hσ];refine TopR.heap (RepF.top (T:=25) ⟨a5,k5,rfl,hb5,hf5⟩ hx5.wf) fun n hn hl=>?_
    have:=hn.1;exact⟨by rw[get_put,if_neg (by omega)],⟨by omega,hl⟩,hl⟩
   rw[z5t k1,hσ];refine RepS.to (RepF.toS (T:=25) ⟨a5,k5,rfl,hb5,hf5⟩ hx5.wf) fun n hn hl=>?_
   have:=hn.1;exact⟨by rw[get_put,if_neg (by omega)],⟨by omega,hl⟩,hl⟩
  ·have q3:=row6 gp3;(try simp (config := { maxSteps := 2000000 }) (disch:=first|omega|rfl) only[sB,dAlloc,Za,Zb,one,reduceCtorEq,zr25,st25]);obtain⟨H4,e4,hx4,g4,hn4,hw4⟩:=z0k hx3.wf (.row zero6 25) (.row zero6 25);simp only[e4];have gq4:=hx4.get hx3.wf gq3;have gp4:=hx4.get hx3.wf gp3;have q4:=row6 gp4
   repeat' (first|refine EvC.seq ?_|(refine EvC.skip ?_;try simp only[z00])|(refine EvC.ret ?_;try simp only[z05,z04])|(refine EvC.reg ?_;simp (config := { maxSteps := 2000000 }) (disch:=first|omega|rfl) only[sB,Za,Zb,one,reduceCtorEq,st25,ld25,q4,gq4])|(refine EvC.condF ?_ ?_;simp (config := { maxSteps := 2000000 }) (disch:=first|omega|rfl) only[sB,Za,reduceCtorEq];refine z01 ?_))
   have hx5:=((hx2.trans hx3).trans hx4).pt (i:=H.next+1) (Nat.le_succ _) gq4 (some (.row (six t a c) 25));refine z0f rfl (by simp only[sB,Za,reduceCtorEq];rfl) (by simp only[sB,Zb,cutC,ld25];rfl) ⟨_,rfl,?_,.inl (by rw[z5t k1,hσ];exact z3x hf k1),hx5⟩;rw[z5t k1,hσ];exact .leaf hbd (z3x hf k1) rl.cap fun h=>(rl.nil h).2
 have hsub:=zl8 (σ:=σ) k1;have hsa:(subO σ t).args=t.args.map (subO σ):=by rw[hsub];rfl
 have hbd':Bd (subO σ t):=by rw[hsub];exact⟨hbd.kind,hbd.name,hbd.num,hbd.bits,hbd.var⟩
 have hsix:∀a c,six (subO σ t) a c=[.int .i64 t.kind,.string t.name,.string t.num,.int .u64 t.bits,.int .i64 t.var,.slice a t.args.length c]:=fun a c=>by rw[hsub];simp [six,Tm.kind,Tm.name,Tm.num,Tm.bits,Tm.var,Tm.args]
 have hmk:subO σ t=.mk t.kind t.name t.num t.bits t.var (subO σ t).args:=by rw[hsa];exact hsub
 by_cases h0:t.args.length=0
 ·have h0':(t.args.length:Int)=0:=by omega
  have he:t.args=[]:=List.length_eq_zero_iff.1 h0
  repeat' (first|refine EvC.seq ?_|(refine EvC.skip ?_;try simp only[z00])|(refine EvC.ret ?_;try simp only[z05,z04])|(refine EvC.reg ?_;simp (config := { maxSteps := 2000000 }) (disch:=first|omega|rfl) only[sB,Za,Zb,one,reduceCtorEq,cutC,z1y,ld3,st25,ld25,z1l,ld23,ln23,st23,q1,gp,gq,z0p k1,z13 h0',ne1])|(refine EvC.condT ?_ ?_;simp (config := { maxSteps := 2000000 }) (disch:=first|omega|rfl) only[sB,Za,reduceCtorEq];refine z01 ?_)|(refine EvC.condF ?_ ?_;simp (config := { maxSteps := 2000000 }) (disch:=first|omega|rfl) only[sB,Za,reduceCtorEq];refine z01 ?_))
  have hx3:=(hx2.pt (Zd _) gp (some (.row [.int .i64 t.kind,.string t.name,.string t.num,.int .u64 t.bits,.int .i64 t.var,.slice none 0 0] 25))).pt (i:=H.next+1) (Nat.le_succ _) (by rw[get_put,if_neg (by omega)];exact gq)
   (some (.row [.int .i64 t.kind,.string t.name,.string t.num,.int .u64 t.bits,.int .i64 t.var,.slice none 0 0] 25))
  refine z0f rfl (by simp only[sB,Za,reduceCtorEq];rfl) (by simp only[sB,Zb,cutC,ld25];rfl) ⟨_,rfl,?_,.inl (by rw[hsa,he];rfl),hx3⟩;have:=RepS.leaf (H:=((H2.put H.next (some (.row [.int .i64 t.kind,.string t.name,.string t.num,.int .u64 t.bits,.int .i64 t.var,.slice none 0 0] 25))).put (H.next+1) (some (.row [.int .i64 t.kind,.string t.name,.string t.num,.int .u64 t.bits,.int .i64 t.var,.slice none 0 0] 25)))) (S:=Rg H.next H2.next) (t:=subO σ t) (a:=none) (c:=0) hbd' (by rw[hsa,he];rfl) (ZA _) (fun _=>rfl);rw[hsix,h0] at this;exact this
 ·have h0':(t.args.length:Int)≠0:=by omega
  have ne3:(H.next=H2.next)=False:=by simp;omega
  repeat' (first|refine EvC.seq ?_|refine EvC.block ?_|(refine EvC.skip ?_;try simp only[z00])|(refine EvC.reg ?_;simp (config := { maxSteps := 2000000 }) (disch:=first|omega|rfl) only[sB,Za,reduceCtorEq,cutC,z1y,ld3,z1l,ld23,ln23,q1,z0p k1,z0p h0',z60 mk23,ne3])|(refine EvC.condF ?_ ?_;simp (config := { maxSteps := 2000000 }) (disch:=first|omega|rfl) only[sB,Za,reduceCtorEq];refine z01 ?_))
  obtain⟨H3,e3,hx3,gr,hn3,hw3⟩:=new1 hw2 (.row (repL t.args.length zero6) 25);simp only[e3];clear e3;have gp3:=hx3.get hw2 gp;have gq3:=hx3.get hw2 gq;have hx23:=hx2.trans hx3;have hmax:=rl.max;rw[hn2] at gr hn3;refine EvC.loop (fun k st=>∃tm H' i cells',st=⟨tm,[],H'⟩∧k=t.args.length - i∧i≤t.args.length∧tm.get 1=some (.func (.func g) #[] cap) ∧
   tm.get 2=some (.pointer (some ⟨H.next,0,none⟩))∧tm.get 4=some (.pointer (some ⟨H.next+1,0,none⟩))∧tm.get 7=some (.slice (some ⟨H.next+2,0,none⟩) t.args.length t.args.length) ∧
   tm.get 35=some (.slice a t.args.length c)∧tm.get 36=some (.int .i64 t.args.length)∧tm.get 37=some (.int .i64 (i:Nat)) ∧
   H'.get H.next=some (.row (six t a c) 25)∧H'.get (H.next+1)=some (.row zero6 25)∧H'.get (H.next+2)=some (.row cells' 25)∧cells'.length=t.args.length*6 ∧
   (∀(j:Nat) (hj:j < t.args.length),j < i→RepS H' (Rg (H.next+3) H'.next) (subO σ t.args[j]) ((cells'.drop (j*6)).take 6))∧HX H H') ?_ t.args.length _ ?_
  ·rintro k st ⟨tm,H',i,cells',rfl,rfl,hi,t0,t1,t2,t3,t17,t18,t19,gp',gq',gr',hlen,hfl,hx'⟩;have q1:=row6 gp';by_cases hlt:i < t.args.length
   ·obtain⟨b,o,a1,c1,rfl,hld,hr1⟩:=rl.el hlt;have hld1:=hx'.load hw hld
    repeat' (first|refine EvC.seq ?_|refine EvC.block ?_|(refine EvC.skip ?_;try simp only[z00])|(refine EvC.reg ?_;simp (config := { maxSteps := 2000000 }) (disch:=first|omega|rfl) only[sB,dAlloc,Za,Zb,one,cutC,zr25,st25,ld25,ia23,cl53,t0,t3,t17,t18,t19,decl hlt,hld1])|(refine EvC.condT ?_ ?_;simp (config := { maxSteps := 2000000 }) (disch:=first|omega|rfl) only[sB];refine z01 ?_))
    obtain⟨H4,e4,hx4,g4,hn4,hw4⟩:=z0k hx'.wf (.row zero6 25) (.row (six t.args[i] a1 c1) 25);simp only[e4];clear e4;have hs:=z1w (Zc hlt);refine(ih (t:=t.args[i]) (by omega) (hr1.mono (hx'.trans hx4) hw) (hf.args _ (ZF _)) (B.stay _ _ hj (hx'.trans hx4)) hw4).mono ?_;rintro v H5 ⟨cs',rfl,r5,-,hx5⟩;obtain⟨a2,c2,cells2,rfl,-⟩:=r5.rep.six;have hx45:=hx4.trans hx5;have gr5:=hx45.get hx'.wf gr';have gp5:=hx45.get hx'.wf gp';have gq5:=hx45.get hx'.wf gq';have hle:i*6+6≤cells'.length:=by rw[hlen];exact mul6 hlt
    have hln:=hx45.next;have hln2:=hx5.next;have hlt3:=hx'.wf _ _ gq';have hlt4:=hx'.wf _ _ gr'
    repeat' (first|(refine EvC.reg ?_;simp (config := { maxSteps := 2000000 }) (disch:=first|omega|rfl) only[sB,Za,t19,z0b])|(refine z0n ?_;simp (config := { maxSteps := 2000000 }) (disch:=first|omega|rfl) only[sB,Zb,one,st25,gr5,hle]))
    have hx6:=(hx'.trans hx45).pt (i:=H.next+2) (by omega) gr5 (some (.row (Hb.splice cells' (i*6) (six (subO σ t.args[i]) a2 c2)) 25));have hch:∀(j:Nat) (hj:j < t.args.length),j < i+1→RepS (H5.put (H.next+2) (some (.row (Hb.splice cells' (i*6) (six (subO σ t.args[i]) a2 c2)) 25))) (Rg (H.next+3) H5.next) (subO σ t.args[j]) (((Hb.splice cells' (i*6) (six (subO σ t.args[i]) a2 c2)).drop (j*6)).take 6):=fun j hj hji=>by
     by_cases e:j=i
     ·subst e;rw[z24 hle rfl];refine r5.to fun n hn hl=>?_
      have:=hn.1;exact⟨by rw[get_put,if_neg (by omega)],⟨by omega,hl⟩,hl⟩
     ·rw[z1u hle rfl (.inl (mul6 (by omega)))];refine(hfl j hj (by omega)).to fun n hn hl=>?_
      have:=hn.1;exact⟨by rw[get_put,if_neg (by omega)];exact hx45.keep n hl,⟨hn.1,Zk hl hln⟩,Zk hl hln⟩
    exact⟨t.args.length - (i+1),by omega,_,_,i+1,Hb.splice cells' (i*6) (six (subO σ t.args[i]) a2 c2),rfl,rfl,by omega,(by simp only[sG,Za,t0]),(by simp only[sG,Za,t1]),(by simp only[sG,Za,t2]),(by simp only[sG,Za,t3]),(by simp only[sG,Za,t17]),(by simp only[sG,Za,t18]),(by simp only[sB,Za];rfl),
     by rw[get_put,if_neg (by omega)];exact gp5,by rw[get_put,if_neg (by omega)];exact gq5,by rw[get_put,if_pos rfl],by rw[z1s hle];exact hlen,hch,hx6⟩
   ·repeat' (first|refine EvC.seq ?_|(refine EvC.exit ?_;try simp only[sB])|(refine EvC.ret ?_)|(refine EvC.reg ?_;simp (config := { maxSteps := 2000000 }) (disch:=first|omega|rfl) only[sB,Za,Zb,one,cutC,st25,ld25,z1l,st23,t1,t2,t3,t18,t19,q1,gp',gq',decn hlt,ne1])|(refine EvC.condF ?_ ?_;simp (config := { maxSteps := 2000000 }) (disch:=first|omega|rfl) only[sB];refine z01 ?_))
    have hi':i=t.args.length:=by omega
    have hlt3:=hx'.wf _ _ gr';have hx7:=(hx'.pt (Zd _) gp' (some (.row (six t (some ⟨H.next+2,0,none⟩) t.args.length) 25))).pt (i:=H.next+1) (Nat.le_succ _) (by rw[get_put,if_neg (by omega)];exact gq')
     (some (.row (six t (some ⟨H.next+2,0,none⟩) t.args.length) 25))
    have hsl:(subO σ t).args.length=t.args.length:=by rw[hsa,Zn]
    refine z0f rfl (by simp only[sB,Za,t2];rfl) (by simp only[sB,Zb,cutC,ld25];rfl) ⟨_,rfl,?_,?_,hx7⟩;rotate_left
    ·refine .inr ⟨H.next+2,t.args.length,cells',(hsix _ _).symm,by rw[get_put,if_neg (by omega),get_put,if_neg (by omega)];exact gr',⟨by omega,hlt3⟩,hlt3,by omega,fun j hj=>RepT.all (hfl j (by omega) (by omega)).rep⟩
    have:=RepS.row (H:=((H'.put H.next (some (.row (six t (some ⟨H.next+2,0,none⟩) t.args.length) 25))).put (H.next+1) (some (.row (six t (some ⟨H.next+2,0,none⟩) t.args.length) 25)))) (S:=Rg H.next H'.next) (b:=H.next+2) (c:=t.args.length) (cells:=cells') (T:=25) hbd hmk
     (by rw[get_put,if_neg (by omega),get_put,if_neg (by omega)];exact gr') ⟨by omega,hlt3⟩ hlt3 (by omega) (by omega) (Zp hfew (by simp [maxLen])) (fun j hj=>by
      have hj':j < t.args.length:=by omega
      have ej:(subO σ t).args[j]=subO σ t.args[j]:=by simp only[hsa,List.getElem_map]
      rw[ej];refine(hfl j hj' (by omega)).to fun n hn hl=>?_
      have:=hn.1;exact⟨by rw[get_put,if_neg (by omega),get_put,if_neg (by omega)],⟨by omega,hn.2⟩,hl⟩)
    rw[hsix] at this;exact this
  ·refine⟨_,_,0,repL t.args.length zero6,rfl,rfl,by omega,(by simp only[sG,Za,reduceCtorEq]),(by simp only[sG,Za,reduceCtorEq]),(by simp only[sG,Za,reduceCtorEq]),by rw[hn2];first|(simp only[sG,Za,reduceCtorEq];rfl)|simp only[sG,Za,reduceCtorEq],(by simp only[sG,Za,reduceCtorEq]),(by simp only[sG,Za,reduceCtorEq]),(by simp only[sB,Za,reduceCtorEq];rfl),gp3,gq3,gr,by rw[z3h];rfl,fun j hj h=>by omega,hx23⟩
def addN (σ:Int→Option Tm) (m:Nat) (n:Int):Nat:=match σ n with
 |some u=>if m≤4000 then m+cnt u 0 - 1 else m
 |none=>m
def allS (σ:Int→Option Tm) (m:Nat) (l:List Int):Nat:=l.foldl (addN σ) m
theorem zpx {σ:Int→Option Tm}{m:Nat}{n:Int}(h:m≤8001):addN σ m n≤8001:=by
 unfold addN;split
 ·rename_i u _;have:=zl6 u;split<;>omega
 ·exact h
theorem zla {σ:Int→Option Tm}:∀{l:List Int}{m:Nat},m≤8001→allS σ m l≤8001
 |[],_,h=>h
 |n :: l,m,h=>by unfold allS;rw[ZL];exact zla (l:=l) (zpx h)
theorem z8a {σ:Int→Option Tm}{l:List Int}{m:Nat}{n:Int}:allS σ m (l++[n])=addN σ (allS σ m l) n:=by unfold allS;rw[List.foldl_append];rfl
def PutOk (t:Tm) (B:List (Int × Tm)):Prop :=
 checkS t=0∧(∀(i:Nat) (hi:i < B.length),0≤B[i].1∧lookT (B.take i) B[i].1=none∧checkS B[i].2=0)∧allS (lookT B) (cnt t 0) (occ t)≤4000
set_option maxHeartbeats 2000000 in
theorem zmz {H0 H:Heap}{B:List (Int × Tm)}{p r:Nat}{n:Int}(gp:H.get p=some (.row [.map (some r)] 102)) (hm:MapT H0 H r B) (hx0:HX H0 H) (hw0:H0.wf) :
  EvF Tryd.prog okT 54 [.int .i64 n,.pointer (some ⟨p,0,none⟩)] H fun v H'=>HX H H'∧((∃u cs,lookT B n=some u∧v=.tuple #[.agg ⟨cs⟩,.bool true]∧RepT H' u cs)∨(lookT B n=none∧v=.tuple #[.agg ⟨zero6⟩,.bool false])):=by
 have hw:=hx0.wf;refine EvF.enter rfl Tryd.func54 (by decide) rfl ?_;have lp:=hw _ _ gp;(repeat refine EvC.seq ?_);refine EvC.reg ?_;simp (config := { maxSteps := 2000000 }) (disch:=first|omega|rfl) only[sA,initTm,dAlloc,zr25];obtain⟨H2,e2,hx2,g2,hn2,hw2⟩:=new1 hw (.row zero6 25);simp only[e2];clear e2;have l2:=row1 (hx2.get hw gp);obtain⟨M,hM,hMn⟩:=hm.keep hx2 hw;rcases zab (lookT B n) with ⟨u,hl⟩|hl
 ·skip
  obtain⟨cs,hg,hr⟩:=(hMn n).1 u hl;obtain⟨a1,c1,cells1,rfl,-⟩:=hr.six;(repeat refine EvC.seq ?_);refine EvC.reg ?_;simp (config := { maxSteps := 2000000 }) (disch:=first|omega|rfl) only[sB,dAlloc,Za,Zb,one,reduceCtorEq,zr25,zdf,st25,l2,z10,z59 zdy hM hg];obtain⟨H3,e3,hx3,g3,hn3,hw3⟩:=z0k hw2 (.row zero6 25) (.row (six u a1 c1) 25);simp only[e3];clear e3;have g23:=hx3.get hw2 g2;have q3:=row6 g3
  repeat' (first|refine EvC.seq ?_|(refine EvC.ret ?_)|(refine EvC.reg ?_;simp (config := { maxSteps := 2000000 }) (disch:=first|omega|rfl) only[sB,Za,Zb,one,reduceCtorEq,st25,ld25,q3,g23]))
  have hx4:=(hx2.trans hx3).pt (Zd _) g23 (some (.row (six u a1 c1) 25));exact z0c rfl (by simp only[sB,Za,reduceCtorEq];rfl) (by simp only[sB,Zb,cutC,ld25]) (by simp only[sG,Za,reduceCtorEq]) ⟨hx4,.inl ⟨u,_,hl,rfl,hr.mono (hx0.trans hx4) hw0⟩⟩
 ·skip
  have hg:=(hMn n).2 hl;(repeat refine EvC.seq ?_);refine EvC.reg ?_;simp (config := { maxSteps := 2000000 }) (disch:=first|omega|rfl) only[sB,dAlloc,Za,Zb,one,reduceCtorEq,zr25,zdf,st25,l2,z10,z5a zdy hM hg];obtain⟨H3,e3,hx3,g3,hn3,hw3⟩:=z0k hw2 (.row zero6 25) (.row zero6 25);simp only[e3];clear e3;have g23:=hx3.get hw2 g2;have q3:=row6 g3
  repeat' (first|refine EvC.seq ?_|(refine EvC.ret ?_)|(refine EvC.reg ?_;simp (config := { maxSteps := 2000000 }) (disch:=first|omega|rfl) only[sB,Za,Zb,one,reduceCtorEq,st25,ld25,q3,g23]))
  have hx4:=(hx2.trans hx3).pt (Zd _) g23 (some (.row zero6 25));exact z0c rfl (by simp only[sB,Za,reduceCtorEq];rfl) (by simp only[sB,Zb,cutC,ld25]) (by simp only[sG,Za,reduceCtorEq]) ⟨hx4,.inr ⟨hl,rfl⟩⟩
set_option maxHeartbeats 4000000 in
theorem zpy {H0 H1:Heap}{B:List (Int × Tm)}{p r q m:Nat}{tot:List Int}(gp:H1.get p=some (.row [.map (some r)] 102)) (hm:MapT H0 H1 r B) (hx0:HX H0 H1) (hw0:H0.wf) (hq:H1.next≤q) (hm8:m≤8001) :
  Each 52 #[.pointer (some ⟨p,0,none⟩),.pointer (some ⟨q,0,none⟩)] H1 tot fun S pre G=>HX H1 G∧(∀n,S n↔n=q)∧G.get q=some (.row [.int .i64 ((allS (lookT B) m pre:Nat):Int)] 3):=by
 have hw1:=hx0.wf;refine⟨fun S pre H h=>h.1,fun S pre H h n hn=>?_,fun S pre n H h _=>?_,fun S pre H H' h hx=>⟨h.1.trans hx,h.2.1,hx.get h.1.wf h.2.2⟩⟩
 ·rw[(h.2.1 n).1 hn];exact h.1.wf _ _ h.2.2
 obtain⟨hx,hS,gq⟩:=h;have hw:=hx.wf;have lq:=hw _ _ gq;have hall:=zla (σ:=lookT B) (l:=pre) hm8;refine EvF.enter rfl Tryd.func52 (by decide) rfl ?_;have l2:=row1 (hx.get hw1 gp);obtain⟨M,hM,hMn⟩:=hm.keep hx hw1;rcases zab (lookT B n) with ⟨u,hl⟩|hl
 ·skip
  obtain⟨cs,hg,hr⟩:=(hMn n).1 u hl;obtain⟨a1,c1,cells1,rfl,-⟩:=hr.six;(repeat refine EvC.seq ?_);refine EvC.reg ?_;simp (config := { maxSteps := 2000000 }) (disch:=first|omega|rfl) only[sB,initTm,dAlloc,Za,Zb,one,reduceCtorEq,zdf,zr25,st25,l2,z10,z59 zdy hM hg];obtain⟨H3,e3,hx3,g3,hn3,hw3⟩:=z0k hw (.row zero6 25) (.row (six u a1 c1) 25);simp only[e3];clear e3;have gq3:=hx3.get hw gq;have lq3:=row1 gq3;have q3:=row6 g3;by_cases h4:allS (lookT B) m pre≤4000
  ·have hd:decide (((allS (lookT B) m pre:Nat):Int)≤4000)=true:=decide_eq_true (by omega);(repeat refine EvC.seq ?_);refine EvC.reg ?_;simp (config := { maxSteps := 2000000 }) (disch:=first|omega|rfl) only[sB,Za,reduceCtorEq,ld3,lq3,hd];refine EvC.condT (by simp (config := { maxSteps := 2000000 }) (disch:=first|omega|rfl) only[sB,Za,reduceCtorEq]) ?_;(try refine EvC.skip ?_);(try simp only[z00,z0m])
   repeat' (first|(refine EvC.drw [([(1,0)],some 2),([(0,0),(3,1),(4,1)],some 5),([],none)] ?_ ?_;kernel_rfl;simp (config := { maxSteps := 2000000 }) (disch:=first|omega|rfl) only[sD,sB,Za,Zb,reduceCtorEq,ld25,cl50,q3,isAlloc,isRead]))
   have hb3:=hx3.bump 6;refine(z4r u _ _ (hr.mono ((hx0.trans hx).trans hb3) hw0) hb3.wf).mono ?_;rintro v H5 ⟨rfl,hx5⟩;have gq5:=hx5.get hb3.wf (show Heap.get ⟨H3.next+6,H3.t⟩ q=_ from gq3);have lq5:=row1 gq5;have hc1:=zpv u;have hc2:=zl6 u;have hw2:IntKind.i64.wrap (((cnt u 0:Nat):Int) - 1)=((cnt u 0 - 1:Nat):Int):=by rw[z0b (by omega) (by omega)];omega
   have hw3:IntKind.i64.wrap (((allS (lookT B) m pre:Nat):Int)+((cnt u 0 - 1:Nat):Int))=((addN (lookT B) (allS (lookT B) m pre) n:Nat):Int):=by
    unfold addN;simp only[hl,if_pos h4];rw[z0b (by omega) (by omega)];omega
   repeat' (first|(refine z2r ?_;simp (config := { maxSteps := 2000000 }) (disch:=first|omega|rfl) only[sD,sB,Za,one,reduceCtorEq,ld3,st3,lq3,lq5,gq5,hw2,hw3,isAlloc,isRead,zj3]))
   have hxx:=hb3.trans hx5;refine z1m rfl ⟨fun n=>n=q,⟨(hx.trans hxx).then ((HK.refl (S:=fun n=>n=q) hxx.wf).put (.inl rfl) (Zk lq hxx.next) _) (by intro k hk e;have e':k=q:=e;omega),fun n=>Iff.rfl,by rw[get_put,if_pos rfl,z8a]⟩,?_,fun k hk=>.inl ((hS k).2 hk)⟩;exact((hxx.hk S)).put (.inl ((hS q).2 rfl)) (Zk lq hxx.next) _
  ·have hd:decide (((allS (lookT B) m pre:Nat):Int)≤4000)=false:=decide_eq_false (by omega)
   repeat' (first|refine EvC.seq ?_|(refine EvC.skip ?_)|(refine EvC.reg ?_;simp (config := { maxSteps := 2000000 }) (disch:=first|omega|rfl) only[sB,Za,reduceCtorEq,ld3,lq3,hd])|(refine EvC.condF ?_ ?_;simp (config := { maxSteps := 2000000 }) (disch:=first|omega|rfl) only[sB,Za,reduceCtorEq];refine z01 ?_))
   refine z1m rfl ⟨S,⟨hx.trans hx3,hS,?_⟩,hx3.hk _,fun n hn=>.inl hn⟩;rw[z8a];unfold addN;simp only[hl,if_neg h4];exact gq3
 ·skip
  have hg:=(hMn n).2 hl;(repeat refine EvC.seq ?_);refine EvC.reg ?_;simp (config := { maxSteps := 2000000 }) (disch:=first|omega|rfl) only[sB,initTm,dAlloc,Za,Zb,one,reduceCtorEq,zdf,zr25,st25,l2,z10,z5a zdy hM hg];obtain⟨H3,e3,hx3,g3,hn3,hw3⟩:=z0k hw (.row zero6 25) (.row zero6 25);simp only[e3];clear e3;have gq3:=hx3.get hw gq
  repeat' (first|refine EvC.seq ?_|(refine EvC.skip ?_)|(refine EvC.reg ?_;simp (config := { maxSteps := 2000000 }) (disch:=first|omega|rfl) only[sB,Za,reduceCtorEq,Zg])|(refine EvC.condF ?_ ?_;simp (config := { maxSteps := 2000000 }) (disch:=first|omega|rfl) only[sB,Za,reduceCtorEq];refine z01 ?_))
  refine z1m rfl ⟨S,⟨hx.trans hx3,hS,?_⟩,hx3.hk _,fun n hn=>.inl hn⟩;rw[z8a];unfold addN;simp only[hl];exact gq3
section
variable {f:Int→Int}
abbrev ren (f:Int→Int) (t:Tm):Tm:=sub (fun n=>varT (f n)) t
theorem z3y {t:Tm}(h:t.kind=1):ren f t=varT (f t.var):=z88 h
theorem z5u {t:Tm}(h:t.kind≠1):ren f t=.mk t.kind t.name t.num t.bits t.var (t.args.map (ren f)):=zl3 h
theorem zlb:∀(m:Nat) {t:Tm},SizeOf.sizeOf t < m→Fine t→nd (ren f t)=nd t
 |0,t,h,_=>by omega
 |m+1,t,h,hf=>by
  by_cases k:t.kind=1
  ·rw[z3y k];have h1:nd t=1:=by rw[z1p,z3x hf k];rfl
   rw[h1];rfl
  ·rw[z1p (ren f t),z1p t,show (ren f t).args=t.args.map (ren f) by rw[z5u k];rfl];have go:∀l:List Tm,(∀u∈l,SizeOf.sizeOf u < m∧Fine u)→nd.ndL (l.map (ren f))=nd.ndL l:=by
    intro l
    induction l with
    |nil=>intro _;rfl
    |cons x l ih =>
     intro hl;rw[List.map_cons,nd.ndL,nd.ndL,zlb m (hl x (by simp)).1 (hl x (by simp)).2,ih fun u hu=>hl u (by simp [hu])]
   rw[go t.args fun u hu=>⟨by have:=z0e hu;omega,hf.args u hu⟩]
theorem zdz:∀(m:Nat) {t:Tm},SizeOf.sizeOf t < m→Fine t→occ (ren f t)=(occ t).map f
 |0,t,h,_=>by omega
 |m+1,t,h,hf=>by
  by_cases k:t.kind=1
  ·rw[z3y k,z2f,z2f t,z3x hf k,if_pos k];rfl
  ·rw[z2f (ren f t),z2f t,if_neg k,show (ren f t).args=t.args.map (ren f) by rw[z5u k];rfl,if_neg (by rw[z5u k];exact k)];have go:∀l:List Tm,(∀u∈l,SizeOf.sizeOf u < m∧Fine u)→occL (l.map (ren f))=(occL l).map f:=by
    intro l
    induction l with
    |nil=>intro _;rfl
    |cons x l ih =>
     intro hl;rw[List.map_cons,occL,occL,zdz m (hl x (by simp)).1 (hl x (by simp)).2,ih fun u hu=>hl u (by simp [hu]),ZE]
   simpa using go t.args fun u hu=>⟨by have:=z0e hu;omega,hf.args u hu⟩
end
theorem zci {n:Int}:∀(l acc:List Int),n∈acc∨n∈l→n∈l.foldl addU acc
 |[],acc,h=>by rcases h with h|h;exact h;simp at h
 |a :: l,acc,h=>by
  refine zci l (addU acc a) ?_;rcases h with h|h
  ·refine .inl ?_;unfold addU;split
   ·exact h
   ·exact List.mem_append_left _ h
  ·rcases List.mem_cons.1 h with rfl|h
   ·refine .inl ?_;unfold addU;split
    ·assumption
    ·simp
   ·exact .inr h
theorem z8b {n:Int}{l:List Int}(h:n∈l):n∈uniq l:=zci l [] (.inr h)
theorem zcj {n:Int}:∀(l acc:List Int),n∈l.foldl addU acc→n∈acc∨n∈l
 |[],acc,h=>.inl h
 |a :: l,acc,h=>by
  rcases zcj l _ h with h|h
  ·unfold addU at h;split at h
   ·exact .inl h
   ·rcases List.mem_append.1 h with h|h
    ·exact .inl h
    ·exact .inr (by rw[List.mem_singleton.1 h];simp)
  ·exact .inr (Zj _ h)
theorem zga {n:Int}{l:List Int}(h:n∈uniq l):n∈l:=(zcj l [] h).resolve_left (by simp)
theorem zck {F:Int→Int}:∀(l acc:List Int),(∀a b,(a∈acc∨a∈l)→(b∈acc∨b∈l)→F a=F b→a=b)→(l.map F).foldl addU (acc.map F)=(l.foldl addU acc).map F
 |[],acc,_=>rfl
 |a :: l,acc,h=>by
  have e:addU (acc.map F) (F a)=(addU acc a).map F:=by
   unfold addU;by_cases k:a∈acc
   ·rw[if_pos (List.mem_map_of_mem k),if_pos k]
   ·rw[if_neg (fun q=>by
     obtain⟨b,hb,e⟩:=List.mem_map.1 q;exact k (h b a (.inl hb) (.inr (by simp)) e ▸ hb)),if_neg k,ZE];rfl
  rw[List.map_cons,ZL,ZL,e];refine zck l _ fun x y hx hy=>h x y ?_ ?_
  ·rcases hx with hx|hx
   ·unfold addU at hx;split at hx
    ·exact .inl hx
    ·rcases List.mem_append.1 hx with hx|hx
     ·exact .inl hx
     ·exact .inr (by rw[List.mem_singleton.1 hx];simp)
   ·exact .inr (Zj _ hx)
  ·rcases hy with hx|hx
   ·unfold addU at hx;split at hx
    ·exact .inl hx
    ·rcases List.mem_append.1 hx with hx|hx
     ·exact .inl hx
     ·exact .inr (by rw[List.mem_singleton.1 hx];simp)
   ·exact .inr (Zj _ hx)
theorem zn0 {F:Int→Int}{l:List Int}(h:∀a∈l,∀b∈l,F a=F b→a=b):uniq (l.map F)=(uniq l).map F :=
 zck l [] fun a b ha hb=>h a (ha.resolve_left (by simp)) b (hb.resolve_left (by simp))
theorem zac {L:List Int}{n:Int}(h:n∈L):∃i,L.idxOf? n=some i∧L[i]?=some n:=by
 cases e:L.idxOf? n with
 |none =>
  rw[List.idxOf?,List.findIdx?_eq_none_iff] at e;have:=e n h;simp at this
 |some i =>
  rw[List.idxOf?,List.findIdx?_eq_some_iff_getElem] at e;obtain⟨hi,hn,-⟩:=e;exact⟨i,rfl,by rw[Zc hi];simp at hn;rw[hn]⟩
theorem zpz {L:List Int}{a b:Int}(ha:a∈L) (hb:b∈L) (h:plcZ L a=plcZ L b):a=b:=by
 obtain⟨i,e1,e2⟩:=zac ha;obtain⟨j,e3,e4⟩:=zac hb;unfold plcZ at h;rw[e1,e3] at h;have:i=j:=by simp only[Option.getD_some] at h;omega
 subst this;rw[e2] at e4;exact Option.some.inj e4
theorem zq0 {F:Int→Int}{L:List Int}{n:Int}(h:∀a∈L,F a=F n→a=n):plcZ (L.map F) (F n)=plcZ L n:=by
 have:(L.map F).idxOf? (F n)=L.idxOf? n:=by
  unfold List.idxOf?;rw[List.findIdx?_map]
  induction L with
  |nil=>rfl
  |cons a L ih =>
   rw[List.findIdx?_cons,List.findIdx?_cons,ih fun x hx=>h x (Zj _ hx)];have:((fun x=>x == F n) ∘ F) a=(a == n):=by
    show (F a == F n)=(a == n)
    by_cases e:a=n
    ·subst e;rw[beq_self_eq_true,beq_self_eq_true]
    ·have:F a≠F n:=fun q=>e (h a (by simp) q)
     rw[beq_eq_false_iff_ne.2 this,beq_eq_false_iff_ne.2 e]
   rw[this]
 unfold plcZ;rw[this]
theorem ze0 {u:Tm}{n:Int}(hn:n∈occ u):∀{l:List Tm},u∈l→n∈occL l
 |x :: l,h=>by
  rw[occL];rcases List.mem_cons.1 h with rfl|h
  ·exact List.mem_append_left _ hn
  ·exact List.mem_append_right _ (ze0 hn h)
theorem zcl {f g:Int→Int}:∀(m:Nat) {t:Tm},SizeOf.sizeOf t < m→Fine t→(∀n∈occ t,f n=g n)→ren f t=ren g t
 |0,t,h,_,_=>by omega
 |m+1,t,h,hf,hn=>by
  by_cases k:t.kind=1
  ·rw[z3y k,z3y k,hn t.var (by rw[z2f,if_pos k,z3x hf k];simp [occL])]
  ·rw[z5u k,z5u k];congr 1;refine List.map_congr_left fun u hu=>zcl m (by have:=z0e hu;omega) (hf.args u hu) fun n h1=>hn n ?_
   rw[z2f,if_neg k];exact List.mem_append_right _ (ze0 h1 hu)
theorem zlc {f g:Int→Int}:∀(m:Nat) {t:Tm},SizeOf.sizeOf t < m→ren g (ren f t)=ren (fun n=>g (f n)) t
 |0,t,h=>by omega
 |m+1,t,h=>by
  by_cases k:t.kind=1
  ·rw[z3y k,z3y k,z3y rfl];rfl
  ·rw[z5u k,z5u k,z5u (by exact k)];show Tm.mk t.kind t.name t.num t.bits t.var ((t.args.map (ren f)).map (ren g))=_;congr 1;rw[List.map_map];exact List.map_congr_left fun u hu=>zlc m (by have:=z0e hu;omega)
theorem zi1 {f:Int→Int}{t:Tm}(hf:Fine t) (hi:∀a∈occ t,∀b∈occ t,f a=f b→a=b):plain1 (ren f t)=plain1 t:=by
 show ren (plcZ (uniq (occ (ren f t)))) (ren f t)=ren (plcZ (uniq (occ t))) t;rw[zlc _ (Zf _),zdz _ (Zf _) hf,zn0 hi];exact zcl _ (Zf _) hf fun n hn=>zq0 fun a ha e=>hi a (zga ha) n hn e
theorem zgb {σ:Int→Option Tm}{f:Int→Int}:∀(m:Nat) {t:Tm},SizeOf.sizeOf t < m→Fine t→(∀n∈occ t,σ n=some (varT (f n)))→subO σ t=ren f t
 |0,t,h,_,_=>by omega
 |m+1,t,h,hf,hn=>by
  by_cases k:t.kind=1
  ·rw[z3y k,z5t k,hn t.var (by rw[z2f,if_pos k];simp)];rfl
  ·rw[z5u k,zl8 k];congr 1;refine List.map_congr_left fun u hu=>zgb m (by have:=z0e hu;omega) (hf.args u hu) fun n h1=>hn n ?_
   rw[z2f,if_neg k];exact List.mem_append_right _ (ze0 h1 hu)
set_option maxHeartbeats 4000000 in
theorem zld {H:Heap}{B s n:Nat}{σ:SS}{v:Nat}(hs:St H B s σ) (hw:H.wf) (hn:n < σ.cells.length) (hv:ci σ.cells n=(1,(v:Int))) :
  EvF Tryd.prog okT 39 [.pointer (some ⟨s,0,none⟩),.agg ⟨two (2,(n:Int))⟩] H fun r H'=>r=.int .i64 v∧HX H H':=by
 refine EvF.enter rfl Tryd.func39 (by decide) rfl ?_;(repeat refine EvC.seq ?_);refine EvC.reg ?_;simp (config := { maxSteps := 2000000 }) (disch:=first|omega|rfl) only[sB,initTm,dBox,Value.cells,one,reduceCtorEq];obtain⟨H1,e1,hx1,g1,n1,w1⟩:=new1 hw (.row (two (2,(n:Int))) 29);simp only[e1];have q1:=z0s g1
 repeat' (first|refine EvC.seq ?_|(refine EvC.reg ?_;simp (config := { maxSteps := 2000000 }) (disch:=first|omega|rfl) only[sB,Za,reduceCtorEq,z1i,ld3,cl63,q1]))
 refine(zpt (hs.keep hw hx1) w1 hn).mono ?_;rintro r H2 ⟨rfl,hx2⟩;rw[hv];(try simp (config := { maxSteps := 2000000 }) (disch:=first|omega|rfl) only[sB,dAlloc,Za,Zb,one,reduceCtorEq,zr29,st29]);obtain⟨H3,e3,hx3,g3,n3,w3⟩:=z0k hx2.wf (.row [.int .i64 0,.int .i64 0] 29) (.row (two (1,(v:Int))) 29);simp only[e3];have q3:=z0s g3
 repeat' (first|refine EvC.seq ?_|(refine EvC.ret ?_)|(refine EvC.reg ?_;simp (config := { maxSteps := 2000000 }) (disch:=first|omega|rfl) only[sB,Za,reduceCtorEq,z1i,ld3,q3]))
 exact z03 rfl (by simp only[sG,Za,reduceCtorEq]) ⟨rfl,(hx1.trans hx2).trans hx3⟩
set_option maxHeartbeats 4000000 in
theorem zq1 {H:Heap}{B s:Nat}{σ:SS}{b o c:Nat}{x y:Int × Int}(hs:St H B s σ) (hw:H.wf) (ho:σ.own.length=σ.cells.length) (hd:∀c,mayS σ c=true→∃m d,Der σ.cells m c d) (hx:mayS σ x=true) (hy:mayS σ y=true) (hl:H.load ⟨b,o,none⟩ 2=some (two x)) (hl2:H.load ⟨b,o+2,none⟩ 2=some (two y)) :
  EvF Tryd.prog okT 22 [.pointer (some ⟨s,0,none⟩),.slice (some ⟨b,o,none⟩) 2 c] H fun r H'=>r=.int .i64 0∧HX H H':=by
 refine EvF.enter rfl Tryd.func22 (by decide) rfl ?_;(repeat refine EvC.seq ?_);refine EvC.reg ?_;simp (config := { maxSteps := 2000000 }) (disch:=first|omega|rfl) only[sA,initTm]
 repeat' (first|refine EvC.seq ?_|refine EvC.block ?_|(refine EvC.skip ?_;try simp only[z00])|(refine EvC.reg ?_;simp (config := { maxSteps := 2000000 }) (disch:=first|omega|rfl) only[sB,Za,reduceCtorEq,ln64,bEqP])|(refine EvC.condF ?_ ?_;simp (config := { maxSteps := 2000000 }) (disch:=first|omega|rfl) only[sB,Za,reduceCtorEq];refine z01 ?_))
 have el:∀i:Nat,i < 2→H.load ⟨b,o+i*2,none⟩ 2=some (two (if i=0 then x else y))∧mayS σ (if i=0 then x else y)=true:=fun i hi=>by
  match i,hi with
  |0,_=>exact⟨hl,hx⟩
  |1,_=>exact⟨hl2,hy⟩
 refine EvC.loop (fun k st=>∃tm H' i,st=⟨tm,[],H'⟩∧k=2 - i∧i≤2∧tm.get 0=some (.pointer (some ⟨s,0,none⟩))∧tm.get 11=some (.slice (some ⟨b,o,none⟩) 2 c)∧tm.get 12=some (.int .i64 (2:Nat))∧tm.get 13=some (.int .i64 (i:Nat))∧HX H H') ?_ 2 _ ?_;rotate_left
 ·exact⟨_,_,0,rfl,rfl,by omega,(by simp only[sG,reduceCtorEq]),(by simp only[sG,Za,reduceCtorEq]),(by simp only[sG,Za,reduceCtorEq]),(by simp only[sB,Za,reduceCtorEq];rfl),HX.refl hw⟩
 rintro k st ⟨tm,H',i,rfl,rfl,hi,t0,t11,t12,t13,hxH⟩;by_cases hlt:i < 2
 ·obtain⟨hli,hmi⟩:=el i hlt;generalize (if i=0 then x else y)=z at hli hmi;have hld:=hxH.load hw hli;have w':=hxH.wf;have d1:decide ((i:Int) < ((2:Nat):Int))=true:=decide_eq_true (by omega);(repeat refine EvC.seq ?_);refine EvC.reg ?_;simp (config := { maxSteps := 2000000 }) (disch:=first|omega|rfl) only[sA,t12,t13,d1];(repeat refine EvC.seq ?_);refine EvC.condT (by simp (config := { maxSteps := 2000000 }) (disch:=first|omega|rfl) only[sB]) ?_;(try refine EvC.skip ?_);(try simp only[z00,z0m]);(repeat refine EvC.seq ?_);refine EvC.block ?_;(repeat refine EvC.seq ?_);refine EvC.reg ?_;simp (config := { maxSteps := 2000000 }) (disch:=first|omega|rfl) only[sB,dAlloc,Za,Zb,one,ia64,ld29,zr29,st29,t11,t13,hld];obtain⟨H2,e2,hx2,g2,n2,w2⟩:=z0k w' (.row [.int .i64 0,.int .i64 0] 29) (.row (two z) 29);simp only[e2];have q2:=z0s g2;(repeat refine EvC.seq ?_);refine EvC.reg ?_;simp (config := { maxSteps := 2000000 }) (disch:=first|omega|rfl) only[sB,Za,reduceCtorEq,ld29,cl23,t0,q2];refine(z3t ((hs.keep hw hxH).keep w' hx2) w2 ho (fun h=>hd z h)).mono ?_;rintro r H3 ⟨d,e,rfl,hde,hx3⟩;rw[if_pos hmi] at hde;obtain⟨rfl,-⟩:=hde
  (try simp (config := { maxSteps := 2000000 }) (disch:=first|omega|rfl) only[sB,dAlloc,Za,Zb,one,zr29,st29]);obtain⟨H4,e4,hx4,g4,n4,w4⟩:=z0k hx3.wf (.row [.int .i64 0,.int .i64 0] 29) (.row (two d) 29)
  simp only[e4]
  repeat' (first|refine EvC.seq ?_|(refine EvC.skip ?_;try simp only[sA])|(refine EvC.reg ?_;simp (config := { maxSteps := 2000000 }) (disch:=first|omega|rfl) only[sB,Za,z22 rfl,t13,z0b])|(refine EvC.condF ?_ ?_;simp (config := { maxSteps := 2000000 }) (disch:=first|omega|rfl) only[sB,Za];refine z01 ?_))
  exact⟨2 - (i+1),by omega,_,_,i+1,rfl,rfl,by omega,(by simp only[sG,reduceCtorEq,t0]),(by simp only[sG,Za,t11]),(by simp only[sG,Za,t12]),(by simp only[sB,Za];rfl),((hxH.trans hx2).trans hx3).trans hx4⟩
 ·have d1:decide ((i:Int) < ((2:Nat):Int))=false:=decide_eq_false (by omega)
  repeat' (first|refine EvC.seq ?_|(refine EvC.exit ?_;try simp only[sB])|(refine EvC.ret ?_)|(refine EvC.reg ?_;simp (config := { maxSteps := 2000000 }) (disch:=first|omega|rfl) only[sA,t12,t13,d1])|(refine EvC.condF ?_ ?_;simp (config := { maxSteps := 2000000 }) (disch:=first|omega|rfl) only[sB];refine z01 ?_))
  exact z03 rfl (by simp only[sG,Za]) ⟨rfl,hxH⟩
def aT:Tm:=.mk 2 ⟨#[97]⟩ Ze 0 0 []
theorem zs2:Bd aT:=⟨by show i64 2;unfold i64;omega,by show (1:Nat)≤maxLen;decide,ZA _,by show u64 0;unfold u64;omega,by show i64 0;unfold i64;omega⟩
set_option maxHeartbeats 4000000 in
theorem zle {H:Heap}{B s lo:Nat}{σ:SS}{c:Int × Int}{t:Tm}(hs:St H B s σ) (hw:H.wf) (ho:σ.own.length=σ.cells.length) (hr:RD σ lo c t) (hm:mayS σ c=true) (hf:Fine t) (hb:BdA t) :
  EvF Tryd.prog okT 24 [.pointer (some ⟨s,0,none⟩),.agg ⟨two c⟩] H fun r H'=>HX H H'∧∃out,r=.agg ⟨out⟩∧RepT H' (flatT t) out:=by
 refine EvF.enter rfl Tryd.func24 (by decide) rfl ?_;(repeat refine EvC.seq ?_);refine EvC.reg ?_;simp (config := { maxSteps := 2000000 }) (disch:=first|omega|rfl) only[sB,initTm,dBox,dAlloc,Value.cells,one,reduceCtorEq,zr25];obtain⟨H1,e1,hx1,g1,g2,n1,w1⟩:=new2 hw (.row (two c) 29) (.row zero6 25);simp only[e1];have q1:=z0s g1;have hs1:=hs.keep hw hx1;cases hr with
 |var v a h1 h2 h3 h4 h5 =>
  repeat' (first|refine EvC.seq ?_|refine EvC.block ?_|(refine EvC.reg ?_;simp (config := { maxSteps := 2000000 }) (disch:=first|omega|rfl) only[sB,Za,Zb,Value.cells,one,reduceCtorEq,Zm,layC,z14,ld3,ld29,cl39,bd25,q1,z13 rfl])|(refine EvC.condT ?_ ?_;simp (config := { maxSteps := 2000000 }) (disch:=first|omega|rfl) only[sB,Za,reduceCtorEq];refine z01 ?_))
  refine(zld hs1 w1 h3 h4).mono ?_;rintro r H2 ⟨rfl,hx2⟩;have g2:=hx2.get w1 g2
  repeat' (first|(refine EvC.ret ?_;try simp only[z05,z04])|(refine z0n ?_;simp (config := { maxSteps := 2000000 }) (disch:=first|omega|rfl) only[sB,Za,Zb,one,reduceCtorEq,Zm,st25,g2]))
  have e1:flatT (varTm v)=varTm v:=if_neg fun h=>absurd (show (1:Int)=5 from h) (by decide)
  have hz:=(hx1.trans hx2).pt (i:=H.next+1) (by omega) g2 (some (.row (six (varTm v) none 0) 25));refine z0f rfl (by simp only[sB,Za,reduceCtorEq];rfl) (by simp only[sB,Zb,cutC,ld25];rfl) ⟨hz,_,rfl,?_⟩;rw[e1];exact(RepS.leaf (S:=fun _=>True) hb.bd rfl (ZA _) (fun _=>rfl)).rep
 |con j _ hj ha =>
  repeat' (first|refine EvC.seq ?_|refine EvC.block ?_|(refine EvC.reg ?_;simp (config := { maxSteps := 2000000 }) (disch:=first|omega|rfl) only[sB,Za,reduceCtorEq,z14,ld3,ld29,cl40,q1,z13 rfl,z0p (show ¬(3:Int)=2 by decide)])|(refine EvC.condT ?_ ?_;simp (config := { maxSteps := 2000000 }) (disch:=first|omega|rfl) only[sB,Za,reduceCtorEq];refine z01 ?_)|(refine EvC.condF ?_ ?_;simp (config := { maxSteps := 2000000 }) (disch:=first|omega|rfl) only[sB,Za,reduceCtorEq];refine z01 ?_))
  refine(zhw hs1 w1 ho hj).mono ?_;rintro r H2 ⟨rfl,hx2⟩;(try simp (config := { maxSteps := 2000000 }) (disch:=first|omega|rfl) only[sB,dAlloc,Za,Zb,one,reduceCtorEq,zr25,st25]);obtain⟨H3,e3,hx3,g3,n3,w3⟩:=z0k hx2.wf (.row zero6 25) (.row (six0 t) 25);simp only[e3];have q3:=row6 g3;have g2:=hx3.get hx2.wf (hx2.get w1 g2)
  repeat' (first|refine EvC.seq ?_|(refine EvC.ret ?_;try simp only[z05,z04])|(refine EvC.reg ?_;simp (config := { maxSteps := 2000000 }) (disch:=first|omega|rfl) only[sB,Za,Zb,one,reduceCtorEq,st25,ld25,q3,g2]))
  have e1:flatT t=t:=if_neg fun h=>by have:=(z0j hf.node).2.2.2.2.1 h;rw[ha] at this;exact absurd this.1 (by decide)
  have hz:=((hx1.trans hx2).trans hx3).pt (i:=H.next+1) (by omega) g2 (some (.row (six t none 0) 25));refine z0f rfl (by simp only[sB,Za,reduceCtorEq];rfl) (by simp only[sB,Zb,cutC,ld25];rfl) ⟨hz,six t none 0,by simp only[six,ha,List.length_nil],?_⟩;rw[e1];exact(RepS.leaf (S:=fun _=>True) hb.bd ha (ZA _) (fun _=>rfl)).rep
 |str p f nm l h1 h2 h3 h4 h5 h6 =>
  have hk5:=(z0j hf.node).2.2.2.2.1 rfl;have hl1:1≤l.length:=hk5.1;have hl2:l.length≤64:=hk5.2;have hpl:=h5 (l.length - 1) (by omega)
  repeat' (first|refine EvC.seq ?_|refine EvC.block ?_|(refine EvC.skip ?_;try simp only[sA])|(refine EvC.reg ?_;simp (config := { maxSteps := 2000000 }) (disch:=first|omega|rfl) only[sB,Za,reduceCtorEq,z14,ld3,ld29,cl26,q1,z0p (show ¬(4:Int)=2 by decide),z0p (show ¬(4:Int)=3 by decide)])|(refine EvC.condF ?_ ?_;simp (config := { maxSteps := 2000000 }) (disch:=first|omega|rfl) only[sB,Za,reduceCtorEq];refine z01 ?_))
  refine(za9 hs1 w1 ho hm hl1 hl2 h3 h4 (by omega) h2).mono ?_;rintro r H2 ⟨hx2,q,rfl,gq,hq⟩;(try simp (config := { maxSteps := 2000000 }) (disch:=first|omega|rfl) only[sB,dAlloc,Za,Zb,one,reduceCtorEq,zr63,st63]);obtain⟨H3,e3,hx3,g3,n3,w3⟩:=z0k hx2.wf (.row (keyC (Ze,0)) 63) (.row (keyC (nm,(l.length:Int))) 63);simp only[e3];have q3:=z0s g3;have g2:=hx3.get hx2.wf (hx2.get w1 g2);(repeat refine EvC.seq ?_);refine EvC.reg ?_;simp (config := { maxSteps := 2000000 }) (disch:=first|omega|rfl) only[sB,dAlloc,Za,Zb,Value.cells,one,reduceCtorEq,Zm,layC,zr25,bd25,st25,zo4,ld9,q3];obtain⟨H4,e4,hx4,g4,n4,w4⟩:=z0k w3 (.row zero6 25) (.row [.int .i64 5,.string nm,.string Ze,.int .u64 0,.int .i64 0,.slice none 0 0] 25);have g4:H4.get H3.next=some (.row (six (.mk 5 nm e0 0 0 (Zu 0 aT)) none 0) 25):=g4;have q3:=z0s (hx4.get w3 g3);have g2:=hx4.get w3 g2;have hx14:=((hx1.trans hx2).trans hx3).trans hx4;have m0:=hx1.next;have m3:=(hx2.trans hx3).next
  refine EvC.frame (fun tm=>tm.get 4=some (.pointer (some ⟨H.next+1,0,none⟩))∧tm.get 7=some (.pointer (some ⟨H2.next,0,none⟩))∧tm.get 10=some (.pointer (some ⟨H3.next,0,none⟩))) ⟨(by simp only[sG,Za,reduceCtorEq]),(by simp only[sG,Za,reduceCtorEq]),(by simp only[sG,Za,reduceCtorEq])⟩ ?_;rintro tm ⟨t4,t7,t10⟩;simp only[e4];clear e4;(repeat refine EvC.seq ?_);refine EvC.reg ?_;simp (config := { maxSteps := 2000000 }) (disch:=first|omega|rfl) only[sB,ld3,zbh,t7,q3];refine EvC.join (fun st=>∃tm G a' c',st=⟨tm,[],G⟩∧tm.get 4=some (.pointer (some ⟨H.next+1,0,none⟩))∧tm.get 10=some (.pointer (some ⟨H3.next,0,none⟩))∧G.get H3.next=some (.row (six (.mk 5 nm e0 0 0 (Zu l.length aT)) a' c') 25)∧G.get (H.next+1)=some (.row zero6 25) ∧
   FL G 25 (fun n=>H4.next≤n∧n < G.next) (Zu l.length aT) a' c'∧HX H G) ?_ ?_
  ·refine EvC.block (EvC.loop (fun k' st=>∃tm G i a' c',st=⟨tm,[],G⟩∧k'=l.length - i∧i≤l.length∧tm.get 4=some (.pointer (some ⟨H.next+1,0,none⟩))∧tm.get 10=some (.pointer (some ⟨H3.next,0,none⟩))∧tm.get 39=some (.int .i64 l.length)∧tm.get 40=some (.int .i64 (i:Nat)) ∧
    G.get H3.next=some (.row (six (.mk 5 nm e0 0 0 (Zu i aT)) a' c') 25)∧G.get (H.next+1)=some (.row zero6 25)∧FL G 25 (fun n=>H4.next≤n∧n < G.next) (Zu i aT) a' c'∧H4.next≤G.next∧HX H G) ?_ l.length _ ?_)
   rotate_left
   ·exact⟨_,_,0,none,0,rfl,rfl,by omega,(by simp only[sG,Za,t4]),(by simp only[sG,Za,t10]),(by simp only[sG,Za]),(by simp only[sB,Za];rfl),g4,g2,.nil _,Zd _,hx14⟩
   rintro k' st ⟨tm,G,i,a',c',rfl,rfl,hi,t4,t10,t39,t40,gG,g2G,hfl,hnG,hxG⟩;have qG:=row6 gG;have wG:=hxG.wf;by_cases hlt:i < l.length
   ·obtain⟨H5,e5,hx5,g5,n5,w5⟩:=new1 wG (.row [.int .i64 2,.string ⟨#[97]⟩,.string Ze,.int .u64 0,.int .i64 0,.slice none 0 0] 25);obtain⟨H6,e6,hfl6,hk6,n6⟩:=FL.push (P:=Tryd.prog) (u:=aT) (a':=none) (c':=0) (N:=fun _=>False) (S2:=fun n=>H4.next≤n∧n < H5.next+1) (c1:=1) ap23 (hfl.keep hx5 wG) w5 (row6 g5).2.2.2.2.2.2 (.nil _) zs2 (fun n h=>h.elim) (fun n h=>by have:=h.2;omega) (fun n h=>h.elim) (by rw[List.length_replicate];unfold most;omega)
     (fun n h=>by rcases h with h|h|h;exact⟨h.1,by have:=h.2;omega⟩;exact h.elim;exact⟨by omega,by omega⟩)
    rw[List.length_replicate] at e6 hfl6;have g56:=hk6.get w5 (hx5.get wG gG) (fun h=>by have:=h.1;omega);have g26:=hk6.get w5 (hx5.get wG g2G) (fun h=>by have:=h.1;omega);have hx6:HX H H6:=(hxG.trans hx5).then hk6 fun n hn h=>by have:=h.1;omega
    have q5:=row6 (hx5.get wG gG);simp only[List.length_replicate,zdn] at qG q5
    repeat' (first|refine EvC.seq ?_|refine EvC.block ?_|(refine EvC.skip ?_;try simp only[z00])|(refine EvC.reg ?_;simp (config := { maxSteps := 2000000 }) (disch:=first|omega|rfl) only[sB,Za,Zb,Value.cells,one,Zm,layC,bd25,z1l,ld23,z5b,st23,t10,t39,t40,qG,decl hlt,e5,e6,g56,z0b,zdn])|(refine EvC.condT ?_ ?_;simp (config := { maxSteps := 2000000 }) (disch:=first|omega|rfl) only[sB];refine z01 ?_))
    have lp:H3.next < H6.next:=by omega
    refine⟨l.length - (i+1),by omega,_,_,i+1,some ⟨H5.next,0,none⟩,i+1,rfl,rfl,by omega,(by simp only[sG,Za,t4]),(by simp only[sG,Za,t10]),(by simp only[sG,Za,t39]),(by simp only[sB,Za];rfl),?_,by rw[get_put,if_neg (by omega)];exact g26,?_,by rw[z0w];omega,hx6.pt (by omega) g56 _⟩
    ·rw[get_put,if_pos rfl];show some (Blk.row [_,_,_,_,_,.slice (some ⟨H5.next,0,none⟩) (i+1) (i+1)] _)=some (Blk.row [_,_,_,_,_,.slice _ (Zu (i+1) aT).length _] _);rw[List.length_replicate];rfl
    ·rw[List.replicate_succ'];refine(hfl6.heap (fun x hx _=>?_) hk6.wf).sub fun x hx=>⟨hx.1,?_⟩
     ·rw[get_put,if_neg (by have:=hx.1;omega)]
     ·rw[z0w];have:=hx.2;omega
   ·obtain rfl:i=l.length:=by omega
    repeat' (first|refine EvC.seq ?_|(refine EvC.exit ?_;try simp only[sB])|(refine EvC.reg ?_;simp (config := { maxSteps := 2000000 }) (disch:=first|omega|rfl) only[sA,t39,t40,decn hlt])|(refine EvC.condF ?_ ?_;simp (config := { maxSteps := 2000000 }) (disch:=first|omega|rfl) only[sB];refine z01 ?_))
    exact⟨_,_,a',c',rfl,(by simp only[sG,Za,t4]),(by simp only[sG,Za,t10]),gG,g2G,hfl,hxG⟩
  ·rintro st ⟨tm,G,a',c',rfl,t4,t10,gG,g2G,hfl,hxG⟩;(try simp only[z00]);have qG:=row6 gG
   repeat' (first|refine EvC.seq ?_|(refine EvC.ret ?_)|(refine EvC.reg ?_;simp (config := { maxSteps := 2000000 }) (disch:=first|omega|rfl) only[sB,Za,Zb,one,st25,ld25,t4,t10,qG,g2G]))
   have hz:=hxG.pt (i:=H.next+1) (by omega) g2G (some (.row (six (.mk 5 nm e0 0 0 (Zu l.length aT)) a' c') 25));refine z0f rfl (by simp only[sB,Za,t4];rfl) (by simp only[sB,Zb,cutC,ld25]) ⟨hz,six (.mk 5 nm e0 0 0 (Zu l.length aT)) a' c',rfl,?_⟩;have e1:flatT (.mk 5 nm e0 0 0 l)=.mk 5 nm e0 0 0 (Zu l.length aT):=if_pos rfl;rw[e1];exact RepF.rep (T:=25) (S:=fun n=>H4.next≤n∧n < G.next) ⟨a',c',rfl,⟨hb.bd.kind,hb.bd.name,hb.bd.num,hb.bd.bits,hb.bd.var⟩,hfl.heap (fun x hx _=>by rw[get_put,if_neg (by have:=hx.1;omega)]) hxG.wf⟩
end Go.Proofs.hq
end

section
namespace Go.Hb
open Go Go.RowKit
variable {P:Program}{H:Heap}{e:TypeId}{s base:Nat}{L:List (List Value)}{v:Value}
theorem RepO.pushAt {t:TypeId}(h:RepO H e s base L v) (hp:apOk P t e s) {p:Nat}{y:List Value}(hl:H.load ⟨p,0,none⟩ s=some y) (hy:y.length=s) (ha:y.all one=true) (hn:L.length+1≤most) (hb:base≤H.next) :
  ∃H2 v2,dAp P #[t,t] v (.slice (some ⟨p,0,Option.none⟩) 1 1) H=some (.val v2 H2)∧RepO H2 e s base (L++[y]) v2∧H2.next=H.next+1∧(∀A,HX A H→A.next≤base→HX A H2)∧(∀i,i < H.next→(∀cs,H.get i≠some (.row cs e))→H2.get i=H.get i):=by
 have hs0:0 < s:=by obtain⟨i,_,_,_,_,h0,_⟩:=hp;exact h0
 have hmax:most≤maxLen:=by simp [most,maxLen]
 have hl:H.load ⟨p,0,Option.none⟩ (1*s)=some y:=by rw[Nat.one_mul];exact hl
 rcases h with ⟨rfl,rfl⟩|⟨b,c,h,rfl⟩
 ·exact⟨_,_,z5z hp (by omega) (by simp [most]) hl ha,.inr ⟨_,1,OwnS.first hy ha hb,rfl⟩,rfl,fun A hx _=>hx.new _,fun i hi _=>by rw[z1e hi]⟩
 ·obtain⟨cs,hg,hle,ht⟩:=h.row;have hbn:b < H.next:=h.hi;have hone:(cs.take (L.length*s)).all one=true:=by
   rw[ht,List.all_eq_true];intro z hz;obtain⟨l,hl1,hl2⟩:=List.mem_flatten.1 hz;exact List.all_eq_true.1 (h.all l hl1) z hl2
  refine⟨_,_,z4n hp (by omega) hn hl ha hg hle hone,.inr ⟨_,_,h.push hg hy ha (Zp hn hmax) hb,by simp⟩,rfl,fun A hx hA=>?_,fun i hi hne=>?_⟩;rotate_left
  ·have hib:i≠b:=fun h=>hne cs (h ▸ hg)
   rw[z1e (by rw[z0w];exact hi),z36 hib]
  have hx2:=hx.put (i:=b) (by have:=h.lo;omega) hbn Option.none;exact hx2.new _
def Rel2 {α β:Type}(R:α→β→Prop) (L:List α) (P:List β):Prop:=L.length=P.length∧∀(i:Nat) (p:α) (u:β),L[i]?=some p→P[i]?=some u→R p u
theorem Rel2.app {α β:Type}{R:α→β→Prop}{L L':List α}{P P':List β}(h:Rel2 R L P) (h':Rel2 R L' P'):Rel2 R (L++L') (P++P'):=by
 refine⟨by rw[Zs,Zs,h.1,h'.1],fun i p u hp hu=>?_⟩;by_cases hi:i < L.length
 ·rw[ZD hi] at hp;rw[ZD (by rw[←h.1];exact hi)] at hu;exact h.2 i p u hp hu
 ·rw[List.getElem?_append_right (by omega)] at hp;rw[List.getElem?_append_right (by rw[←h.1];omega)] at hu;rw[←h.1] at hu;exact h'.2 _ p u hp hu
theorem Rel2.rev {α β:Type}{R:α→β→Prop}{L:List α}{P:List β}(h:Rel2 R L P):Rel2 R L.reverse P.reverse:=by
 refine⟨by rw[List.length_reverse,List.length_reverse,h.1],fun i p u hp hu=>?_⟩;have hi:i < L.length:=by have:=(List.getElem?_eq_some_iff.1 hp).1;rwa [List.length_reverse] at this
 rw[List.getElem?_reverse hi] at hp;rw[List.getElem?_reverse (by rw[←h.1];exact hi),←h.1] at hu;exact h.2 _ p u hp hu
theorem Rel2.left {α β:Type}{R:α→β→Prop}{L L':List α}{P P':List β}(h:Rel2 R (L++L') (P++P')) (hl:L.length=P.length):Rel2 R L P:=by
 refine⟨hl,fun i p u hp hu=>h.2 i p u ?_ ?_⟩
 ·rw[ZD (List.getElem?_eq_some_iff.1 hp).1];exact hp
 ·rw[ZD (List.getElem?_eq_some_iff.1 hu).1];exact hu
theorem Rel2.zip {α β:Type}{R:α→β→Prop}{S:α × α→β × β→Prop}{A A':List α}{B B':List β}(h:Rel2 R A B) (h':Rel2 R A' B') (hR:∀a a' b b',R a b→R a' b'→S (a,a') (b,b')):Rel2 S (A.zip A') (B.zip B'):=by
 refine⟨by rw[List.length_zip,List.length_zip,h.1,h'.1],fun i p u hp hu=>?_⟩;obtain⟨p1,p2⟩:=p;obtain⟨u1,u2⟩:=u;rw[List.getElem?_zip_eq_some] at hp hu;exact hR _ _ _ _ (h.2 i _ _ hp.1 hu.1) (h'.2 i _ _ hp.2 hu.2)
end Go.Hb
namespace Go.Proofs.hq
open Go Go.RowKit Go.Hb
theorem zog {H:Heap}(hw:H.wf) {b:Nat}{L:List (Int × Int)}{T:TypeId}(hg:H.get b=some (.row (L.map two).flatten T)) (hm:L.length≤maxLen) {i:Nat}{x:Int × Int}(hx:L[i]?=some x):H.load ⟨b,i*2,none⟩ 2=some (two x):=by
 have hz:∀y∈L.map two,y.length=2:=fun y hy=>by obtain⟨z,-,rfl⟩:=List.mem_map.1 hy;rfl
 have ha:∀y∈L.map two,y.all one=true:=fun y hy=>by obtain⟨z,-,rfl⟩:=List.mem_map.1 hy;rfl
 have hl:=z2u _ hz;have o:OwnS H T 2 0 (L.map two) b L.length:=⟨ZA _,hw _ _ hg,⟨_,hg,by rw[hl];exact Zd _,by rw[←hl,List.take_length]⟩,by simp,hm,hz,ha⟩
 exact o.load (by rw[Zl,hx];rfl)
theorem zlf:∀{l l':List Tm},l.length=l'.length→((l.zip l').map fun u=>nd u.1).sum=nd.ndL l
 |[],_,_=>by rw[nd.ndL];rfl
 |t :: l,t' :: l',h=>by rw[List.zip_cons_cons,List.map_cons,List.sum_cons,nd.ndL,zlf (by simpa using h)]
theorem zlg:∀P:List (Tm × Tm),P.length≤(P.map fun u=>nd u.1).sum
 |[]=>Zd _
 |u :: P=>by rw[List.map_cons,List.sum_cons,ZJ];have:=zlg P;have:=z1p u.1;omega
theorem zq2 (l:List Nat):l.reverse.sum=l.sum:=by
 induction l with
 |nil=>rfl
 |cons a l ih=>rw[List.reverse_cons,List.sum_append,ih,List.sum_cons,List.sum_cons];simp;omega
structure RC (σ:SS) (c:Int × Int) (t:Tm):Prop where
 rd:RD σ 0 c t
 may:mayS σ c=true
 fine:Fine t
 bd:BdA t
theorem RC.der {σ:SS}{c:Int × Int}{t:Tm}(h:RC σ c t) {m:Nat}{d:Int × Int}(hd:Der σ.cells m c d):d=c:=by
 have hr:=h.rd;cases hr with
 |var v a h1 h2 h3 h4 h5 =>
  cases hd with
  |stop k=>exact absurd rfl k
  |var=>rfl
  |go k1 k2 k3 k4=>exact absurd (show (ci σ.cells (a:Int)).1=1 by rw[h4]) k4
 |con j _ h1 h2=>exact z5r hd (show (3:Int)≠2 by decide)
 |str p f nm l=>exact z5r hd (show (4:Int)≠2 by decide)
theorem RC.sub {σ:SS}(hT:TOk σ) {p:Nat}{nm:ByteArray}{l:List Tm}(h:RC σ (4,(p:Int)) (.mk 5 nm e0 0 0 l)) {i:Nat}{u:Tm}(hu:l[i]?=some u):RC σ (ci σ.cells ((p+1+i:Nat):Int)) u:=by
 have hi:=(List.getElem?_eq_some_iff.1 hu).1;have hm:=List.mem_of_getElem? hu;have hr:=h.rd;cases hr with
 |str _ f _ _ h1 h2 h3 h4 h5 h6 =>
  obtain⟨m,d,hd,hsh⟩:=hT.go _ h.may;have e:=z5r hd (show (4:Int)≠2 by decide);subst e;refine⟨h6 i u hu,?_,h.fine.args u hm,h.bd.args u hm⟩;cases hsh with
  |var k=>exact absurd (show (4:Int)=2 from k) (by decide)
  |con k=>exact absurd (show (4:Int)=3 from k) (by decide)
  |str f' _ _ _ e1 hf' k1 k2 k3 =>
   have ef:f'=f:=by
    have:(ci σ.cells ((4,(p:Int)):Int × Int).2).2=(f:Int):=by show (ci σ.cells (p:Int)).2=_;rw[h3]
    rw[this] at e1;omega
   subst ef;have eg:σ.funs[f']=(nm,(l.length:Int)):=by have:=Zc hf';rw[h4] at this;exact(Option.some.inj this).symm
   have:=k3 i (by rw[eg];simp only;omega);have e9:((4,(p:Int)):Int × Int).2+1+(i:Int)=((p+1+i:Nat):Int):=by show (p:Int)+1+i=_;omega
   rw[e9] at this;exact this.2
theorem RC.nstr {σ:SS}{c:Int × Int}{t:Tm}(h:RC σ c t) (k:t.kind≠5):c.1≠4:=by
 have hr:=h.rd;cases hr with
 |var v a=>exact(show (2:Int)≠4 by decide)
 |con j _ h1 h2=>exact(show (3:Int)≠4 by decide)
 |str p f nm l=>exact absurd rfl k
theorem RC.str {σ:SS}{c:Int × Int}{t:Tm}(h:RC σ c t) (k:t.kind=5):∃(p f:Nat) (nm:ByteArray) (l:List Tm),c=(4,(p:Int))∧t=.mk 5 nm e0 0 0 l∧1≤l.length∧l.length≤64∧p < σ.cells.length∧ci σ.cells p=(5,(f:Int))∧σ.funs[f]?=some (nm,(l.length:Int))∧p+1+l.length≤σ.cells.length:=by
 have hf:=h.fine;have hr:=h.rd;cases hr with
 |var v a=>exact absurd (show (1:Int)=5 from k) (by decide)
 |con j _ h1 h2 =>
  have:=(z0j hf.node).2.2.2.2.1 k;rw[h2] at this;exact absurd this.1 (by decide)
 |str p f nm l h1 h2 h3 h4 h5 h6 =>
  have hk5:=(z0j hf.node).2.2.2.2.1 rfl;have hl1:1≤l.length:=hk5.1;have:=h5 (l.length - 1) (by omega);exact⟨p,f,nm,l,rfl,rfl,hl1,hk5.2,h2,h3,h4,by omega⟩
theorem RC.cells {σ:SS}(hT:TOk σ) {p:Nat}{nm:ByteArray}{l:List Tm}(h:RC σ (4,(p:Int)) (.mk 5 nm e0 0 0 l)) (hl:p+1+l.length≤σ.cells.length):Rel2 (RC σ) ((σ.cells.drop (p+1)).take l.length) l:=by
 refine⟨by rw[Zt,List.length_drop];omega,fun i c u hc hu=>?_⟩;have hi:=(List.getElem?_eq_some_iff.1 hu).1;rw[ZH,if_pos hi,List.getElem?_drop,z3m (by omega)] at hc;rw[←Option.some.inj hc];exact h.sub hT hu
def four (p:(Int × Int) × (Int × Int)):List Value:=[.int .i64 p.1.1,.int .i64 p.1.2,.int .i64 p.2.1,.int .i64 p.2.2]
theorem zgc {t:Tm}(hn:nodeS t=0) (h:∀u∈t.args,Fine u):Fine t:=by
 unfold Fine;rw[z4q,if_pos hn];have hl:∀l:List Tm,(∀u∈l,Fine u)→allL nodeS l=0:=by
  intro l
  induction l with
  |nil=>intro _;rfl
  |cons u l ih =>
   intro hu;rw[allL,if_pos (show allE nodeS u=0 from hu u (by simp))];exact ih fun v hv=>hu v (Zj _ hv)
 exact hl t.args h
theorem zq3:Fine aT:=zgc (by kernel_rfl) fun u hu=>absurd hu (by simp [aT,Tm.args])
theorem zrg (n:Nat):cnt aT n=n+1:=by rw[z29];show cntL [] (n+1)=n+1;rw[cntL]
theorem zgd:∀(k n:Nat),n+k≤4000→cntL (Zu k aT) n=n+k
 |0,n,_=>by rw[List.replicate_zero,cntL];rfl
 |k+1,n,h=>by rw[List.replicate_succ,cntL,if_neg (by omega),zrg,zgd k (n+1) (by omega)];omega
theorem zcm {t:Tm}(h:Fine t):checkS (flatT t)=0:=by
 have hb:=z16 (z0j h.node).2.2.1;by_cases k:t.kind=5;rotate_left
 ·have e:flatT t=t:=if_neg k;rw[e,z0h];refine⟨?_,h⟩;rw[z29,hb.2.2.2.2 k,cntL];omega
 have hk:=(z0j h.node).2.2.2.2.1 k;have e:flatT t=.mk 5 t.name e0 0 0 (Zu t.args.length aT):=if_pos k;rw[z0h];constructor
 ·rw[e,z29];show cntL (Zu t.args.length aT) 1≤4000;rw[zgd _ _ (by omega)];omega
 ·refine zgc ?_ fun u hu=>?_
  ·have hn:=h.node;have et:t=.mk 5 t.name e0 0 0 t.args:=by
    obtain⟨kd,nm,nu,bi,vr,ar⟩:=t;have k':kd=5:=k;subst k';have h1:nu=Ze:=hb.2.1 (show (5:Int)≠3 by decide);have h2:bi=0:=hb.2.2.1 (show (5:Int)≠4 by decide);have h3:vr=0:=hb.2.2.2.1 (show (5:Int)≠1 by decide);subst h1 h2 h3;rfl
   rw[e];rw[et] at hn;have hbl:blankB (.mk 5 t.name e0 0 0 (Zu t.args.length aT))=blankB (.mk 5 t.name e0 0 0 t.args):=by
    unfold blankB;simp only[Tm.kind,Tm.name,Tm.num,Tm.bits,Tm.var,Tm.args,List.length_replicate]
   unfold nodeS nodeE at hn ⊢;rw[hbl];simp only[Tm.kind,Tm.name,Tm.num,Tm.bits,Tm.var,Tm.args,List.length_replicate] at hn ⊢;exact hn
  ·rw[e] at hu;have:u=aT:=(List.mem_replicate.1 hu).2;rw[this];exact zq3
theorem zn1 {t t':Tm}(h:Fine t) (h':Fine t'):chkL [flatT t,flatT t']=0:=by
 rw[chkL,if_pos (zcm h),chkL,if_pos (zcm h'),chkL]
end Go.Proofs.hq
end
