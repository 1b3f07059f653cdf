import Derived.Test.YtlmjnikipfbenaaGreatDoorM4
import Derived.Test.YtlmjnikipfbenaaGreatDoorM3
/- Lemmas on the program's own code, towards the laws of this folder, part 5. Conditions: as each lemma says. -/
open Bool renaming and_eq_true → Zi, false_eq_true → Zc, not_eq_true → ZB, not_false → Zm, not_true → Zn
open ByteArray renaming empty → Zg, size → Zf
open List renaming ext_getElem? → ZD, find?_cons → ZH, getElem?_eq_getElem → Zd, getElem?_eq_none → Zw, getElem?_map → Zr, getElem_mem → ZE, length_append → Zu, length_cons → ZF, length_map → Zv, map_append → ZI, map_cons → Zs, map_map → ZJ, mem_cons_of_mem → Zl, take_of_length_le → Zx
open Nat renaming beq → Zk, beq_eq → Zp, beq_refl → Zy, le_refl → Ze, le_trans → ZA, reduceAdd → Zb, reduceEqDiff → Za, reduceLeDiff → Zh, zero_le → Zz
open Option renaming bind_some → Zq, map_some → Zo
section
namespace Go.Proofs.hq
open Go Go.RowKit Go.Hb
variable {ok:Ok}
set_option maxRecDepth 10000
attribute [local irreducible] LX LG EL STG SOP SGO SGD SAL SRD SEF SEG SLK SCK ES
def Strm.rf (s:Strm):Strm:=if s.mode=1 then s else { s with pos:=0 }
def FSt.rf (φ:FSt):FSt:={ φ with opens:=φ.opens.map fun o=>(o.1,o.2.rf) }
theorem z5l {s:Strm}(h:s.mode=1):s.rf=s:=if_pos h
theorem z3w (s:Strm):s.rf.mode=s.mode:=by unfold Strm.rf;split<;>rfl
theorem zk5 (s:Strm):s.rf.id=s.id:=by unfold Strm.rf;split<;>rfl
theorem z5x (s:Strm):s.rf.file=s.file:=by unfold Strm.rf;split<;>rfl
theorem zk6 (s:Strm):s.rf.bin=s.bin:=by unfold Strm.rf;split<;>rfl
theorem zq0 (s:Strm):s.rf.al=s.al:=by unfold Strm.rf;split<;>rfl
theorem znp (s:Strm):s.rf.eof=s.eof:=by unfold Strm.rf;split<;>rfl
theorem znq (s:Strm):s.rf.rep=s.rep:=by unfold Strm.rf;split<;>rfl
theorem zq1 (s:Strm):s.rf.en=s.en:=by unfold Strm.rf;split<;>rfl
theorem z7m (s:Strm):s.rf.con=s.con:=by unfold Strm.rf;split<;>rfl
theorem zm2 {l:List (Int × Strm)}{n:Int}:((l.map fun o=>(o.1,o.2.rf)).find? fun o=>o.1 == n)=(l.find? fun o=>o.1 == n).map fun o=>(o.1,o.2.rf):=by
 induction l with
 |nil=>rfl
 |cons o l ih =>
  rw[Zs,ZH,ZH];cases o.1 == n with
  |true=>rfl
  |false=>exact ih
theorem z3x (φ:FSt) (n:Int):φ.rf.get n=(φ.get n).map Strm.rf:=by
 unfold FSt.get FSt.rf;simp only[zm2,Option.map_map];rfl
theorem z71 (φ:FSt) (s:Strm):φ.rf.data s=φ.data s:=rfl
theorem z5d (φ:FSt) (s:Strm):φ.data s.rf=φ.data s:=by unfold FSt.data;rw[z7m,z3w,z5x]
theorem zbj (φ:FSt) (n:Int) (b:Bool):φ.rf.rdErr n b=φ.rdErr n b:=by
 unfold FSt.rdErr;rw[z3x];cases φ.get n with
 |none=>rfl
 |some s=>simp only[Zo,z3w,zk6,zq1,znp]
theorem zgc (φ:FSt) (n:Int) (b:Bool):φ.rf.wrErr n b=φ.wrErr n b:=by
 unfold FSt.wrErr;rw[z3x];cases φ.get n with
 |none=>rfl
 |some s=>simp only[Zo,z3w,zk6]
theorem zbk (φ:FSt) (n:Int) (s:Strm):(φ.setS n s).rf=φ.rf.setS n s.rf:=by
 unfold FSt.setS FSt.rf;simp only[ZJ,FSt.mk.injEq,true_and,and_true];refine List.map_congr_left fun o _=>?_
 simp only[Function.comp];by_cases h:o.1=n
 ·rw[if_pos h,if_pos h]
 ·rw[if_neg h,if_neg h]
theorem zec {φ:FSt}{n:Int}{b:Bool}{s:Strm}(h:φ.rdErr n b=none) (hs:φ.get n=some s):s.mode=1:=by
 unfold FSt.rdErr at h;rw[hs] at h;by_cases hm:s.mode=1
 ·exact hm
 ·simp only[if_pos hm] at h;cases h
theorem zgd (φ:FSt) (n:Int) (b p:Bool) (cut:ByteArray→Int × Int):φ.rf.readR n b p cut=((φ.readR n b p cut).1,(φ.readR n b p cut).2.1,(φ.readR n b p cut).2.2.rf):=by
 unfold FSt.readR;rw[zbj,z3x];cases hr:φ.rdErr n b with
 |some t=>rfl
 |none =>
  cases hs:φ.get n with
  |none=>rfl
  |some s =>
   have hm:=zec hr hs;have hd:φ.rf.data s=φ.data s:=rfl;simp only[Zo,z5l hm];generalize φ.rf.data s=d at hd ⊢;subst hd;by_cases h0:((φ.data s).extract s.pos.toNat (φ.data s).size).size=0
   ·simp only[if_pos h0];cases p
    ·simp only[Zc,if_false];rw[zbk,z5l (s:={ s with en:=2 }) hm]
    ·rfl
   ·simp only[if_neg h0];by_cases h1:(cut ((φ.data s).extract s.pos.toNat (φ.data s).size)).2=0
    ·simp only[if_pos h1]
    ·simp only[if_neg h1];cases p
     ·simp only[Zc,if_false];rw[zbk,z5l (s:={ s with pos:=s.pos+(cut ((φ.data s).extract s.pos.toNat (φ.data s).size)).2 }) hm]
     ·rfl
theorem zhq (φ:FSt) (n:Int):φ.rf.sourceR n=φ.sourceR n:=by
 unfold FSt.sourceR;rw[zbj,z3x];cases hr:φ.rdErr n false with
 |some t=>rfl
 |none =>
  cases hs:φ.get n with
  |none=>rfl
  |some s=>simp only[Zo,z5l (zec hr hs),z71]
theorem zom (φ:FSt) (n to:Int):φ.rf.advR n to=((φ.advR n to).1,(φ.advR n to).2.rf):=by
 unfold FSt.advR;rw[zbj,z3x];cases hr:φ.rdErr n false with
 |some t=>rfl
 |none =>
  cases hs:φ.get n with
  |none=>rfl
  |some s =>
   have hm:=zec hr hs;have hd:φ.rf.data s=φ.data s:=rfl;simp only[Zo,z5l hm];generalize φ.rf.data s=d at hd ⊢;subst hd;split
   ·rfl
   ·rw[zbk,z5l (s:={ s with pos:=to,en:=if s.pos=((φ.data s).size:Int) then 2 else s.en }) hm]
theorem zk7 (φ:FSt) (s:Strm) (t:ByteArray):φ.rf.addR s.rf t=((φ.addR s t).1,(φ.addR s t).2.rf):=by
 unfold FSt.addR;simp only[z7m,z5x];have e1:φ.rf.written=φ.written:=rfl;have e2:φ.rf.fileD s.file=φ.fileD s.file:=rfl;rw[e1,e2];split
 ·rfl
 ·split
  ·rfl
  ·split<;>rfl
theorem zon (φ:FSt) (n:Int) (t:ByteArray):φ.rf.putR n t=((φ.putR n t).1,(φ.putR n t).2.rf):=by
 unfold FSt.putR;rw[zgc,z3x];cases hr:φ.wrErr n false with
 |some t=>rfl
 |none =>
  cases hs:φ.get n with
  |none=>rfl
  |some s =>
   simp only[Zo];split
   ·exact zk7 φ s t
   ·rfl
theorem zed (φ:FSt) (n b:Int):φ.rf.putByteR n b=((φ.putByteR n b).1,(φ.putByteR n b).2.rf):=by
 unfold FSt.putByteR;rw[zgc,z3x];cases hr:φ.wrErr n true with
 |some t=>rfl
 |none =>
  cases hs:φ.get n with
  |none=>rfl
  |some s =>
   simp only[Zo];split
   ·rfl
   ·rw[zk7]
theorem zm3 {φ:FSt}(hp:∀o∈φ.opens,o.2.rep=true→o.2.mode=1) (n pos:Int):φ.rf.seekR n pos=((φ.seekR n pos).1,(φ.seekR n pos).2.rf):=by
 unfold FSt.seekR;rw[z3x];cases hs:φ.get n with
 |none=>rfl
 |some s =>
  have hd:φ.rf.data s.rf=φ.data s:=z5d φ s;simp only[Zo,znq];generalize φ.rf.data s.rf=d at hd ⊢;subst hd;by_cases h:s.rep=false
  ·simp only[if_pos h]
  ·simp only[if_neg h];split
   ·rfl
   ·have hm:=hp _ (z1q hs) (by simpa using h);rw[zbk,z5l hm,z5l (s:={ s with pos:=pos,en:=0 }) hm]
theorem zoo (φ:FSt) (n:Int):φ.rf.drop n=(φ.drop n).rf:=by
 unfold FSt.drop FSt.rf;simp only[FSt.mk.injEq,true_and,and_true];rw[List.eraseP_map];rfl
theorem zk8 (φ:FSt) (n:Int):φ.rf.closeR n=((φ.closeR n).1,(φ.closeR n).2.rf):=by
 unfold FSt.closeR;rw[z3x];cases hs:φ.get n with
 |none=>rfl
 |some s =>
  simp only[Zo,z7m,zoo];split<;>rfl
theorem zk9 (φ:FSt) (n:Int):φ.rf.setInR n=((φ.setInR n).1,(φ.setInR n).2.rf):=by
 unfold FSt.setInR;rw[z3x];cases hs:φ.get n with
 |none=>rfl
 |some s =>
  simp only[Zo,z3w];split<;>rfl
theorem zhr (φ:FSt) (n:Int):φ.rf.setOutR n=((φ.setOutR n).1,(φ.setOutR n).2.rf):=by
 unfold FSt.setOutR;rw[z3x];cases hs:φ.get n with
 |none=>rfl
 |some s =>
  simp only[Zo,z3w];split<;>rfl
theorem zge (φ:FSt) (a:ByteArray):φ.rf.findA a=φ.findA a:=by
 unfold FSt.findA FSt.rf;split
 ·rfl
 ·simp only;generalize φ.opens=l
  induction l with
  |nil=>rfl
  |cons o l ih =>
   rw[Zs,ZH,ZH];simp only[zq0];cases o.2.al == a with
   |true=>rfl
   |false=>exact ih
theorem zop (φ:FSt) (s:Strm):φ.rf.tell s.rf=φ.tell s:=by
 have e1:φ.rf.posR s.rf=φ.posR s:=by
  unfold FSt.posR;rw[z3w,z71,z5d];split
  ·rename_i h;rw[z5l h]
  ·rfl
 have e2:φ.rf.endR s.rf=φ.endR s:=by
  unfold FSt.endR;rw[z3w,z71,z5d,zq1];by_cases h:s.mode=1
  ·rw[z5l h]
  ·rw[if_neg (fun q=>h q.1),if_neg (fun q=>h q.1)]
 unfold FSt.tell;rw[e1,e2,z71,z5d,zk5,z5x,z3w,zk6,zq0,znp,znq]
theorem zm4 (φ:FSt) (n:ByteArray) (m:Int) (al:ByteArray) (rep:Bool):φ.rf.opErr n m al rep=φ.opErr n m al rep:=by
 unfold FSt.opErr;have e1:φ.rf.file n=φ.file n:=rfl;have e2:φ.rf.files=φ.files:=rfl;have e3:φ.rf.opens.length=φ.opens.length:=by simp [FSt.rf]
 have e4:(∃o∈φ.rf.opens,busyS n m o.2)=∃o∈φ.opens,busyS n m o.2:=by
  apply propext;constructor
  ·rintro ⟨o,ho,hb⟩;obtain⟨o',ho',rfl⟩:=List.mem_map.1 ho;exact⟨o',ho',by unfold busyS at hb ⊢;simpa only[z7m,z5x,z3w] using hb⟩
  ·rintro ⟨o,ho,hb⟩;exact⟨(o.1,o.2.rf),List.mem_map.2 ⟨o,ho,rfl⟩,by unfold busyS at hb ⊢;simpa only[z7m,z5x,z3w] using hb⟩
 rw[zge,e1,e2,e3];simp only[e4]
end Go.Proofs.hq
end

section
namespace Go.Hb
open Go Go.RowKit
theorem zd9 {l:List (ByteArray × ByteArray)}{n d m:ByteArray}(h:(l.map (·.1)).Nodup):((fset l n d).find? fun o=>m == o.1).map (·.2)=if m=n then some d else (l.find? fun o=>m == o.1).map (·.2):=by
 induction l with
 |nil =>
  unfold fset;simp only[List.findIdx?_nil,List.nil_append,ZH,List.find?_nil];by_cases e:m=n
  ·rw[z1z.2 e,if_pos e];rfl
  ·rw[z9i e,if_neg e]
 |cons x l ih =>
  rw[Zs,List.nodup_cons] at h;have ih:=ih h.2;unfold fset at ih ⊢;rw[List.findIdx?_cons];cases hx:n == x.1 with
  |true =>
   have hn:=z1z.1 hx;simp only[if_true,List.set_cons_zero,ZH];by_cases e:m=n
   ·rw[z1z.2 e,if_pos e];rfl
   ·rw[z9i e,if_neg e,z9i (by rw[←hn];exact e)]
  |false =>
   have hn:n≠x.1:=fun q=>by rw[z1z.2 q] at hx;cases hx
   simp only[Zc,if_false];cases hf:l.findIdx? fun p=>n == p.1 with
   |none =>
    rw[hf] at ih;simp only[Option.map_none,List.cons_append,ZH] at ih ⊢;cases hm:m == x.1 with
    |true =>
     have e:m≠n:=fun q=>hn (by rw[←q];exact z1z.1 hm)
     rw[if_neg e]
    |false=>exact ih
   |some i =>
    rw[hf] at ih;simp only[Zo,List.set_cons_succ,ZH] at ih ⊢;cases hm:m == x.1 with
    |true =>
     have e:m≠n:=fun q=>hn (by rw[←q];exact z1z.1 hm)
     rw[if_neg e]
    |false=>exact ih
theorem zgf {l:List (ByteArray × ByteArray)}{n d:ByteArray}{x:ByteArray × ByteArray}(h:x∈fset l n d):x=(n,d)∨x∈l:=by
 unfold fset at h;cases hf:l.findIdx? fun p=>n == p.1 with
 |none =>
  rw[hf] at h;simp only[List.mem_append,List.mem_singleton] at h;exact h.symm
 |some i =>
  rw[hf] at h;exact(List.mem_or_eq_of_mem_set h).symm
theorem zgg {l:List (ByteArray × ByteArray)}{n d:ByteArray}:(fset l n d).length=if (l.find? fun o=>n == o.1).isSome then l.length else l.length+1:=by
 unfold fset;cases hf:l.findIdx? fun p=>n == p.1 with
 |none =>
  have:l.find? (fun o=>n == o.1)=none:=List.find?_eq_none.2 fun x hx=>by simpa using List.findIdx?_eq_none_iff.1 hf x hx
  rw[this];simp
 |some i =>
  obtain⟨hi,hp,-⟩:=List.findIdx?_eq_some_iff_getElem.1 hf;have:(l.find? fun o=>n == o.1).isSome=true:=List.find?_isSome.2 ⟨l[i],ZE hi,hp⟩;rw[this];simp
end Go.Hb
namespace Go.Proofs.hq
open Go Go.RowKit Go.Hb
variable {ok:Ok}
set_option maxRecDepth 10000
attribute [local irreducible] LX LG EL STG SOP SGO SGD SAL SRD SEF SEG SLK SCK ES
structure Inv (φ:FSt) (N:Int):Prop where
 ids:∀o∈φ.opens,o.2.id=o.1
 lt:∀o∈φ.opens,0≤o.1∧o.1 < φ.next
 asc:(φ.opens.map (·.1)).Pairwise (· < ·)
 nx:2≤φ.next∧φ.next≤N
 con:∀o∈φ.opens,o.2.con=decide (o.1 < 2)
 c0:∀o∈φ.opens,o.1=0→o.2.mode=1
 c1:∀o∈φ.opens,o.1=1→o.2.mode≠1
 fl:∀o∈φ.opens,2≤o.1→(φ.file o.2.file).isSome=true
 al:∀o∈φ.opens,∀o'∈φ.opens,o.2.al.size≠0→o'.2.al=o.2.al→o=o'
 po:∀o∈φ.opens,0≤o.2.pos∧o.2.pos≤((φ.data o.2).size:Int)
 rp:∀o∈φ.opens,o.2.rep=true→o.2.mode=1
 no:φ.opens.length≤16
 nf:φ.files.length≤16
 fn:∀x∈φ.files,named x.1=true∧x.2.size≤20000
 fd:(φ.files.map (·.1)).Nodup
 inp:φ.input.size≤20000
 out:(φ.out.size:Int)≤φ.written
 wr:0≤φ.written∧φ.written≤100000
theorem Inv.up {φ:FSt}{N M:Int}(h:Inv φ N) (hm:N≤M):Inv φ M:={ h with nx:=⟨h.nx.1,by have:=h.nx.2;omega⟩ }
theorem Inv.nd {φ:FSt}{N:Int}(h:Inv φ N):(φ.opens.map (·.1)).Nodup:=h.asc.imp fun {a b} hab e=>by omega
theorem Inv.size {φ:FSt}{N:Int}(h:Inv φ N) (s:Strm):(φ.data s).size≤100000:=by
 have h1:=h.inp;have h2:=h.out;have h3:=h.wr;unfold FSt.data;split
 ·split
  ·omega
  ·omega
 ·unfold FSt.file;cases hf:φ.files.find? fun o=>s.file == o.1 with
  |none=>simp
  |some x =>
   have:=(h.fn x (List.mem_of_find?_eq_some hf)).2;simp only[Zo,Option.getD_some];omega
theorem Inv.fileD {φ:FSt}{N:Int}(h:Inv φ N) (n:ByteArray):(φ.fileD n).size≤20000:=by
 unfold FSt.fileD FSt.file;cases hf:φ.files.find? fun o=>n == o.1 with
 |none=>simp
 |some x=>exact(h.fn x (List.mem_of_find?_eq_some hf)).2
theorem Inv.dataR {φ:FSt}{N:Int}(h:Inv φ N) {o:Int × Strm}(ho:o∈φ.opens):φ.dataR o.2=φ.data o.2:=by
 have h1:=h.ids o ho;have h2:=h.con o ho;have h3:=h.lt o ho;unfold FSt.dataR FSt.data;rw[h1,h2];by_cases c0:o.1=0
 ·rw[if_pos c0,if_pos (by simp [c0]),if_pos (h.c0 o ho c0)]
 ·rw[if_neg c0];by_cases c1:o.1=1
  ·rw[if_pos c1,if_pos (by simp [c1]),if_neg (h.c1 o ho c1)]
  ·rw[if_neg c1,if_neg (by simp;omega)];rfl
theorem Inv.turn {φ:FSt}{N:Int}(h:Inv φ N) {n:Int}{s s':Strm}(hs:φ.get n=some s) (e1:s'.id=s.id) (e2:s'.file=s.file) (e3:s'.mode=s.mode) (e4:s'.al=s.al) (e5:s'.rep=s.rep) (e6:s'.con=s.con)
  (hp:0≤s'.pos∧s'.pos≤((φ.data s).size:Int)):Inv (φ.setS n s') N:=by
 have hm:=z1q hs;have hmem:∀o∈(φ.setS n s').opens,o=(n,s')∨(o∈φ.opens∧o.1≠n):=fun o ho=>by
  unfold FSt.setS at ho;obtain⟨o',ho',rfl⟩:=List.mem_map.1 ho;split
  ·exact .inl rfl
  ·rename_i hne;exact .inr ⟨ho',hne⟩
 have hd:∀s,(φ.setS n s').data s=φ.data s:=fun s=>rfl
 have hd2:φ.data s'=φ.data s:=by unfold FSt.data;rw[e6,e3,e2]
 have hk:=z3v φ n s';have hbk:∀o,o∈(φ.setS n s').opens→∃o0∈φ.opens,o0.1=o.1∧o0.2.id=o.2.id∧o0.2.file=o.2.file∧o0.2.mode=o.2.mode∧o0.2.al=o.2.al∧o0.2.rep=o.2.rep∧o0.2.con=o.2.con:=fun o ho=>by
  rcases hmem o ho with rfl|⟨ho,-⟩
  ·exact⟨(n,s),hm,rfl,e1.symm,e2.symm,e3.symm,e4.symm,e5.symm,e6.symm⟩
  ·exact⟨o,ho,rfl,rfl,rfl,rfl,rfl,rfl,rfl⟩
 refine⟨fun o ho=>?_,fun o ho=>?_,by rw[hk];exact h.asc,h.nx,fun o ho=>?_,fun o ho=>?_,fun o ho=>?_,fun o ho=>?_,fun o ho o' ho' hz he=>?_,fun o ho=>?_,fun o ho=>?_,?_,h.nf,h.fn,h.fd,h.inp,h.out,h.wr⟩
 ·obtain⟨o0,k,a,b,-⟩:=hbk o ho;rw[←a,←b];exact h.ids o0 k
 ·obtain⟨o0,k,a,-⟩:=hbk o ho;rw[←a];exact h.lt o0 k
 ·obtain⟨o0,k,a,-,-,-,-,-,b⟩:=hbk o ho;rw[←a,←b];exact h.con o0 k
 ·obtain⟨o0,k,a,-,-,b,-⟩:=hbk o ho;rw[←a,←b];exact h.c0 o0 k
 ·obtain⟨o0,k,a,-,-,b,-⟩:=hbk o ho;rw[←a,←b];exact h.c1 o0 k
 ·obtain⟨o0,k,a,-,b,-⟩:=hbk o ho;rw[←a,←b];exact h.fl o0 k
 ·obtain⟨o0,k,a,-,-,-,b,-⟩:=hbk o ho;obtain⟨o1,k',a',-,-,-,b',-⟩:=hbk o' ho';have:=h.al o0 k o1 k' (by rw[b];exact hz) (by rw[b,b'];exact he);have e:o.1=o'.1:=by rw[←a,←a',this]
  rcases hmem o ho with rfl|⟨q,q'⟩<;>rcases hmem o' ho' with rfl|⟨r,r'⟩
  ·rfl
  ·exact absurd e.symm r'
  ·exact absurd e q'
  ·exact zd5 h.nd q r e
 ·rcases hmem o ho with rfl|⟨q,-⟩
  ·rw[hd,hd2];exact hp
  ·rw[hd];exact h.po o q
 ·obtain⟨o0,k,-,-,-,b,-,c,-⟩:=hbk o ho;rw[←b,←c];exact h.rp o0 k
 ·have:=congrArg List.length hk;rw[Zv,Zv] at this;rw[this];exact h.no
theorem Inv.drop {φ:FSt}{N:Int}(h:Inv φ N) (n:Int) {i p:Int}:Inv { φ.drop n with inp:=i,put:=p } N:=by
 have hin:∀o∈(φ.drop n).opens,o∈φ.opens:=fun o ho=>List.mem_of_mem_eraseP ho
 have hsub:(φ.drop n).opens.Sublist φ.opens:=List.eraseP_sublist;exact⟨fun o ho=>h.ids o (hin o ho),fun o ho=>h.lt o (hin o ho),h.asc.sublist (hsub.map _),h.nx,fun o ho=>h.con o (hin o ho),fun o ho=>h.c0 o (hin o ho),fun o ho=>h.c1 o (hin o ho),fun o ho=>h.fl o (hin o ho),
  fun o ho o' ho'=>h.al o (hin o ho) o' (hin o' ho'),fun o ho=>h.po o (hin o ho),fun o ho=>h.rp o (hin o ho),ZA hsub.length_le h.no,h.nf,h.fn,h.fd,h.inp,h.out,h.wr⟩
theorem Inv.close {φ:FSt}{N:Int}(h:Inv φ N) (n:Int):Inv (φ.closeR n).2 N:=by
 unfold FSt.closeR;cases φ.get n with
 |none=>exact h
 |some s =>
  simp only;split
  ·exact h
  ·exact h.drop n
theorem Inv.setIn {φ:FSt}{N:Int}(h:Inv φ N) (n:Int):Inv (φ.setInR n).2 N:=by
 unfold FSt.setInR;cases φ.get n with
 |none=>exact h
 |some s =>
  simp only;split
  ·exact { h with }
  ·exact h
theorem Inv.setOut {φ:FSt}{N:Int}(h:Inv φ N) (n:Int):Inv (φ.setOutR n).2 N:=by
 unfold FSt.setOutR;cases φ.get n with
 |none=>exact h
 |some s =>
  simp only;split
  ·exact h
  ·exact { h with }
theorem Inv.read {φ:FSt}{N:Int}(h:Inv φ N) (n:Int) (b p:Bool) {cut:ByteArray→Int × Int}(hc:∀r:ByteArray,0 < r.size→0≤(cut r).2∧(cut r).2≤r.size):Inv (φ.readR n b p cut).2.2 N:=by
 unfold FSt.readR;cases φ.rdErr n b with
 |some t=>exact h
 |none =>
  cases hs:φ.get n with
  |none=>exact h
  |some s =>
   have hp:=h.po _ (z1q hs);simp only at hp ⊢;split
   ·cases p
    ·exact h.turn hs rfl rfl rfl rfl rfl rfl hp
    ·exact h
   ·rename_i h0;split
    ·exact h
    ·cases p
     ·have hz:((φ.data s).extract s.pos.toNat (φ.data s).size).size=(φ.data s).size - s.pos.toNat:=by rw[ByteArray.size_extract];omega
      have:=hc _ (Nat.pos_of_ne_zero h0);rw[hz] at this;exact h.turn hs rfl rfl rfl rfl rfl rfl ⟨by simp only;omega,by simp only;omega⟩
     ·exact h
theorem Inv.adv {φ:FSt}{N:Int}(h:Inv φ N) (n to:Int):Inv (φ.advR n to).2 N:=by
 unfold FSt.advR;cases φ.rdErr n false with
 |some t=>exact h
 |none =>
  cases hs:φ.get n with
  |none=>exact h
  |some s =>
   have hp:=h.po _ (z1q hs);simp only at hp ⊢;split
   ·exact h
   ·exact h.turn hs rfl rfl rfl rfl rfl rfl ⟨by simp only;omega,by simp only;omega⟩
theorem Inv.seek {φ:FSt}{N:Int}(h:Inv φ N) (n pos:Int):Inv (φ.seekR n pos).2 N:=by
 unfold FSt.seekR;cases hs:φ.get n with
 |none=>exact h
 |some s =>
  simp only;split
  ·exact h
  ·split
   ·exact h
   ·exact h.turn hs rfl rfl rfl rfl rfl rfl ⟨by simp only;omega,by simp only;omega⟩
theorem Inv.add {φ:FSt}{N:Int}(h:Inv φ N) {n:Int}{s:Strm}(hs:φ.get n=some s) (t:ByteArray):Inv (φ.addR s t).2 N:=by
 have hm:=z1q hs;have hw:=h.wr;have ho:=h.out;unfold FSt.addR;split
 ·exact h
 ·split
  ·exact h
  ·split
   ·rename_i c1 c2 c3;refine { h with po:=fun o q=>?_,out:=?_,wr:=⟨by simp only;omega,by simp only;omega⟩ }
    ·have:=h.po o q;unfold FSt.data at this ⊢;split
     ·rename_i k;rw[if_pos k] at this;split
      ·rename_i k2;rw[if_pos k2] at this;exact this
      ·rename_i k2;rw[if_neg k2] at this;refine⟨this.1,?_⟩;have:=this.2;simp only[ByteArray.size_append];omega
     ·rename_i k;rw[if_neg k] at this;exact this
    ·simp only[ByteArray.size_append];omega
   ·rename_i c1 c2 c3;have hcf:s.con=false:=by simpa using c3
    have h2:2≤n:=by
     have:=h.con _ hm;simp only[hcf] at this;have:=of_decide_eq_false this.symm;omega
    have hfs:=h.fl _ hm h2;simp only at hfs;have c2':¬ 20000 < ((φ.fileD s.file).size:Int)+t.size:=fun q=>c2 ⟨hcf,q⟩
    have hff:∀x,(⟨fset φ.files s.file (φ.fileD s.file++t),φ.opens,φ.next,φ.input,φ.out,φ.inp,φ.put,φ.written+t.size⟩:FSt).file x=if x=s.file then some (φ.fileD s.file++t) else φ.file x:=fun x=>zd9 h.fd
    refine { h with fl:=fun o q k=>?_,po:=fun o q=>?_,out:=by simp only;omega,wr:=⟨by simp only;omega,by simp only;omega⟩,nf:=?_,fn:=fun x q=>?_,fd:=z70 h.fd }
    ·rw[hff];split
     ·rfl
     ·exact h.fl o q k
    ·have:=h.po o q;unfold FSt.data at this ⊢;split
     ·rename_i k;rw[if_pos k] at this;exact this
     ·rename_i k;rw[if_neg k] at this;rw[hff];split
      ·rename_i k2;have k3:(φ.file o.2.file).getD Zg=φ.fileD s.file:=by rw[k2];rfl
       rw[k3] at this;refine⟨this.1,?_⟩;have:=this.2;simp only[Option.getD_some,ByteArray.size_append];omega
      ·exact this
    ·rw[zgg];have:(φ.files.find? fun o=>s.file == o.1).isSome=true:=by unfold FSt.file at hfs;rw[Option.isSome_map] at hfs;exact hfs
     rw[this];exact h.nf
    ·rcases zgf q with rfl|q
     ·refine⟨?_,by simp only[ByteArray.size_append];omega⟩;unfold FSt.file at hfs;rw[Option.isSome_map] at hfs;obtain⟨x,hx,hp⟩:=List.find?_isSome.1 hfs;have:=(h.fn x hx).1;rw[z1z.1 hp];exact this
     ·exact h.fn x q
theorem Inv.put {φ:FSt}{N:Int}(h:Inv φ N) (n:Int) (t:ByteArray):Inv (φ.putR n t).2 N:=by
 unfold FSt.putR;cases φ.wrErr n false with
 |some t=>exact h
 |none =>
  cases hs:φ.get n with
  |none=>exact h
  |some s =>
   simp only;split
   ·exact h.add hs t
   ·exact h
theorem Inv.putByte {φ:FSt}{N:Int}(h:Inv φ N) (n b:Int):Inv (φ.putByteR n b).2 N:=by
 unfold FSt.putByteR;cases φ.wrErr n true with
 |some t=>exact h
 |none =>
  cases hs:φ.get n with
  |none=>exact h
  |some s =>
   simp only;split
   ·exact h
   ·exact h.add hs _
theorem zhs {φ:FSt}{n al:ByteArray}{m:Int}{rep:Bool}(h:φ.opErr n m al rep=.none):(1≤m∧m≤3)∧named n=true∧φ.findA al=none∧(rep=true→m=1)∧(m=1→(φ.file n).isSome=true)∧(∀o∈φ.opens,¬busyS n m o.2)∧φ.opens.length < 16∧(φ.file n=none→φ.files.length < 16):=by
 unfold FSt.opErr at h;split at h
 ·cases h
 rename_i c1;split at h
 ·cases h
 rename_i c2;split at h
 ·cases h
 rename_i c3;split at h
 ·cases h
 rename_i c4;split at h
 ·cases h
 rename_i c5;split at h
 ·cases h
 rename_i c6;split at h
 ·cases h
 rename_i c7;split at h
 ·cases h
 rename_i c8;refine⟨by omega,by simpa using c2,by simpa using c3,fun q=>Classical.byContradiction fun k=>c4 ⟨q,k⟩,fun q=>?_,fun o ho hb=>c6 ⟨o,ho,hb⟩,by omega,fun q=>Classical.byContradiction fun k=>c8 ⟨q,by omega⟩⟩;cases hf:φ.file n with
 |none=>exact absurd ⟨q,hf⟩ c5
 |some d=>rfl
theorem Inv.open {φ:FSt}{N:Int}(h:Inv φ N) (n:ByteArray) (m:Int) (bin:Bool) (al:ByteArray) (eof:Int) (rep:Bool):Inv (φ.openA n m bin al eof rep).2.2 (N+1):=by
 unfold FSt.openA;cases he:φ.opErr n m al rep with
 |ball t=>exact h.up (by omega)
 |code c=>exact h.up (by omega)
 |none =>
  obtain⟨k1,k2,k3,k4,k5,k6,k7,k8⟩:=zhs he;have hn:=h.nx;have hff:∀x,(φ.openF n m bin al eof rep).file x=if m≠1∧x=n then some (φ.opD n m) else φ.file x:=fun x=>by
   unfold FSt.openF FSt.file;by_cases c:m=1
   ·rw[if_neg (fun q:m≠1∧x=n=>q.1 c)];simp only[if_pos c]
   ·simp only[if_neg c];rw[zd9 h.fd];by_cases e:x=n
    ·rw[if_pos e,if_pos ⟨c,e⟩]
    ·rw[if_neg e,if_neg (fun q=>e q.2)]
  have hod:(φ.opD n m).size≤20000:=by
   unfold FSt.opD;split
   ·decide
   ·exact h.fileD n
  have hdat:∀o∈φ.opens,(φ.openF n m bin al eof rep).data o.2=φ.data o.2:=fun o ho=>by
   unfold FSt.data;by_cases c:o.2.con=true
   ·rw[if_pos c,if_pos c];rfl
   ·rw[if_neg c,if_neg c,hff];by_cases q:m≠1∧o.2.file=n
    ·exact absurd ⟨by simpa using c,q.2,.inr q.1⟩ (k6 o ho)
    ·rw[if_neg q]
  have hmem:∀o∈(φ.openF n m bin al eof rep).opens,o∈φ.opens∨o=(φ.next,φ.opened n m bin al eof rep):=fun o ho=>by
   rcases List.mem_append.1 ho with q|q
   ·exact .inl q
   ·exact .inr (List.mem_singleton.1 q)
  have hfa:∀o∈φ.opens,al.size≠0→o.2.al≠al:=fun o ho hz q=>by
   unfold FSt.findA at k3;rw[if_neg hz,Option.map_eq_none_iff] at k3;have:=List.find?_eq_none.1 k3 o ho;rw[z1z.2 q] at this;exact this rfl
  have hsome:(φ.openF n m bin al eof rep).file n=some (φ.opD n m):=by
   rw[hff];by_cases c:m=1
   ·rw[if_neg (fun q=>q.1 c)];have:=k5 c;unfold FSt.opD FSt.fileD;rw[if_neg (by omega)];cases hf:φ.file n with
    |none=>rw[hf] at this;cases this
    |some d=>rfl
   ·rw[if_pos ⟨c,rfl⟩]
  refine⟨fun o ho=>?_,fun o ho=>?_,?_,⟨by show 2≤φ.next+1;omega,by show φ.next+1≤N+1;omega⟩,fun o ho=>?_,fun o ho e=>?_,fun o ho e=>?_,fun o ho e=>?_,fun o ho o' ho' hz e=>?_,fun o ho=>?_,fun o ho e=>?_,?_,?_,fun x hx=>?_,?_,h.inp,h.out,h.wr⟩
  ·rcases hmem o ho with q|rfl
   ·exact h.ids o q
   ·rfl
  ·show 0≤o.1∧o.1 < φ.next+1;rcases hmem o ho with q|rfl
   ·have:=h.lt o q;omega
   ·simp only;omega
  ·show ((φ.opens++[(φ.next,φ.opened n m bin al eof rep)]).map (fun o:Int × Strm=>o.1)).Pairwise (· < ·);rw[ZI,List.pairwise_append];refine⟨h.asc,by simp,fun a ha b hb=>?_⟩;obtain⟨o,ho,rfl⟩:=List.mem_map.1 ha;simp only[Zs,List.map_nil,List.mem_singleton] at hb;have:=h.lt o ho;omega
  ·rcases hmem o ho with q|rfl
   ·exact h.con o q
   ·show false=decide (φ.next < 2);exact(decide_eq_false (by omega)).symm
  ·rcases hmem o ho with q|rfl
   ·exact h.c0 o q e
   ·simp only at e;omega
  ·rcases hmem o ho with q|rfl
   ·exact h.c1 o q e
   ·simp only at e;omega
  ·rcases hmem o ho with q|rfl
   ·rw[hff];split
    ·rfl
    ·exact h.fl o q e
   ·show ((φ.openF n m bin al eof rep).file n).isSome=true;rw[hsome];rfl
  ·rcases hmem o ho with q|rfl<;>rcases hmem o' ho' with q'|rfl
   ·exact h.al o q o' q' hz e
   ·exact absurd (show o.2.al=al from e.symm) (hfa o q (by rw[show al=o.2.al from e];exact hz))
   ·exact absurd (show o'.2.al=al from e) (hfa o' q' hz)
   ·rfl
  ·rcases hmem o ho with q|rfl
   ·rw[hdat o q];exact h.po o q
   ·have:(φ.openF n m bin al eof rep).data (φ.opened n m bin al eof rep)=φ.opD n m:=by
     show (if false=true then _ else ((φ.openF n m bin al eof rep).file n).getD Zg)=_;rw[if_neg (by simp),hsome];rfl
    rw[this];show 0≤(if m=1 then (0:Int) else _)∧(if m=1 then (0:Int) else _)≤_;split<;>omega
  ·rcases hmem o ho with q|rfl
   ·exact h.rp o q e
   ·exact k4 e
  ·show (φ.opens++[_]).length≤16;rw[Zu,List.length_singleton];omega
  ·show (if m=1 then φ.files else fset φ.files n (φ.opD n m)).length≤16;split
   ·exact h.nf
   ·rw[zgg];split
    ·exact h.nf
    ·rename_i c;have:φ.file n=none:=by unfold FSt.file;simpa using c
     have:=k8 this;omega
  ·have hx':x∈(if m=1 then φ.files else fset φ.files n (φ.opD n m)):=hx;split at hx'
   ·exact h.fn x hx'
   ·rcases zgf hx' with rfl|q
    ·exact⟨k2,hod⟩
    ·exact h.fn x q
  ·show ((if m=1 then φ.files else fset φ.files n (φ.opD n m)).map (·.1)).Nodup;split
   ·exact h.fd
   ·exact z70 h.fd
end Go.Proofs.hq
end

section
namespace Go.Proofs.hq
open Go Go.RowKit Go.Hb
variable {ok:Ok}
set_option maxRecDepth 10000
attribute [local irreducible] LX LG EL STG SOP SGO SGD SAL SRD SEF SEG SLK SCK ES
theorem z6n (l:List (Int × Strm)):(rowO l).length=l.length*10:=by
 induction l with
 |nil=>rfl
 |cons x l ih =>
  have e0:rowO (x :: l)=x.2.row10++rowO l:=rfl;rw[e0,Zu,ih,ZF];simp;omega
theorem zm5 {l:List (Int × Strm)}:∀{i:Nat}{o:Int × Strm},l[i]?=some o→((rowO l).drop (i*10)).take 10=o.2.row10:=by
 induction l with
 |nil=>intro i x h;simp at h
 |cons y l ih =>
  intro i x h;have e0:rowO (y :: l)=y.2.row10++rowO l:=rfl;cases i with
  |zero=>simp at h;subst h;rfl
  |succ i =>
   have e1:(y.2.row10++rowO l).drop ((i+1)*10)=(rowO l).drop (i*10):=by
    apply ZD;intro k;rw[List.getElem?_drop,List.getElem?_drop,List.getElem?_append_right (by simp;omega)];congr 1;simp;omega
   rw[e0,e1];exact ih (by simpa using h)
theorem z3c {H:Heap}{b i:Nat}{l:List (Int × Strm)}{T:TypeId}{o:Int × Strm}(hg:H.get b=some (.row (rowO l) T)) (h:l[i]?=some o):H.load ⟨b,i*10,none⟩ 10=some o.2.row10:=by
 simp only[Heap.load,Heap.cells,hg,zm5 h];rfl
theorem z0m {H:Heap}{c k v0:Int}{b:Bool}{s u:ByteArray}{bt:Int}{a:Option Addr}{n cp:Nat}(hw:H.wf):EvF Tryz.prog okT 75 [.agg ⟨[.int .i64 c,.bool b,.int .i64 k,.string s,.string u,.int .u64 bt,.int .i64 v0,.slice a n cp]⟩] H fun v H'=>HX H H'∧v=.bool (b || c != 0):=by
 refine EvF.enter rfl Tryz.func75 (by decide) rfl ?_;(repeat refine EvC.seq ?_);refine EvC.reg ?_;simp (config := { maxSteps := 2000000 }) (disch:=first|omega|rfl) only[sB,initTm,dBox,Value.cells,one];obtain⟨H1,e1,hx1,g1,n1,w1⟩:=new1 hw (.row [.int .i64 c,.bool b,.int .i64 k,.string s,.string u,.int .u64 bt,.int .i64 v0,.slice a n cp] 90);simp only[e1];have l0:H1.load ⟨H.next,0,none⟩ 1=some [.int .i64 c]:=z0i g1 rfl;have l1:H1.load ⟨H.next,1,none⟩ 1=some [.bool b]:=z0i g1 rfl;cases b with
 |true =>
  repeat' (first|refine EvC.seq ?_|(refine EvC.ret ?_)|(refine EvC.reg ?_;simp (config := { maxSteps := 2000000 }) (disch:=first|omega|rfl) only[sB,Za,reduceCtorEq,zfx,ld4,l1]))
  exact z06 rfl (by simp only[sB,Za,reduceCtorEq];rfl) ⟨hx1,rfl⟩
 |false =>
  repeat' (first|refine EvC.seq ?_|(refine EvC.ret ?_)|(refine EvC.reg ?_;simp (config := { maxSteps := 2000000 }) (disch:=first|omega|rfl) only[sB,Za,reduceCtorEq,zfx,ld4,zfw,ld26,l0,l1,Zc]))
  exact z06 rfl (by simp only[sB,Za,reduceCtorEq];rfl) ⟨hx1,by simp⟩
theorem z2w {φ:FSt}{n:Int}{i:Nat}(h:(φ.opens.findIdx? fun o=>o.1 == n)=some i):∃hi:i < φ.opens.length,φ.get n=some (φ.opens[i]).2∧(φ.opens[i]).1=n:=by
 obtain⟨hi,hp,hno⟩:=List.findIdx?_eq_some_iff_getElem.1 h;have hf:(φ.opens.find? fun o=>o.1 == n)=some φ.opens[i]:=by
  rw[List.find?_eq_some_iff_getElem];exact⟨hp,i,hi,rfl,fun j hj=>by simpa using hno j hj⟩
 exact⟨hi,by unfold FSt.get;rw[hf];rfl,by simpa using hp⟩
theorem z2q {φ:FSt}{n:Int}(h:(φ.opens.findIdx? fun o=>o.1 == n)=none):φ.get n=none:=by
 unfold FSt.get;rw[Option.map_eq_none_iff];exact List.find?_eq_none.2 fun o ho q=>by have:=List.findIdx?_eq_none_iff.1 h o ho;rw[q] at this;cases this
theorem btyp {H:Heap}{i j:Nat}{cs ds:List Value}(h:H.get i=some (.row cs 88)) (g:H.get j=some (.row ds 90)):i≠j:=fun e=>by
 rw[e,g] at h;have k1:=Option.some.inj h;injection k1 with k2 k3;exact absurd k3 (by decide)
set_option maxHeartbeats 8000000 in
theorem z72 {H:Heap}{B:Nat→Prop}{r f l:Nat}{φ:FSt}{n:Int}{bin:Bool}(h:RfB H B r f l φ) (hw:H.wf) (hn:i64 n) (hm:φ.opens.length≤100) :
  EvF Tryz.prog okT 77 [ptrV r,.int .i64 n,.bool bin] H fun v H'=>HX H H'∧∃bs,((∃i,(φ.opens.findIdx? fun o=>o.1 == n)=some i∧φ.rdErr n bin=none∧v=.tuple ⟨[.int .i64 (i:Nat),.agg ⟨bs⟩]⟩∧BadR H' .none bs)∨∃t,φ.rdErr n bin=some t∧v=.tuple ⟨[.int .i64 (-1),.agg ⟨bs⟩]⟩∧BadR H' (.ball t) bs):=by
 refine EvF.enter rfl Tryz.func77 (by decide) rfl ?_;(repeat refine EvC.seq ?_);refine EvC.reg ?_;simp (config := { maxSteps := 2000000 }) (disch:=first|omega|rfl) only[sA,initTm,dAlloc,Zb,zr90];obtain⟨H1,e1,hx1,g1,n1,w1⟩:=new1 hw (.row bad8 90);simp only[e1];clear e1;have h1:=h.keep hx1 hw
 repeat' (first|refine EvC.seq ?_|(refine EvC.reg ?_;simp (config := { maxSteps := 2000000 }) (disch:=first|omega|rfl) only[sB,Za,reduceCtorEq,cl74]))
 refine(z4j h1 w1 hn hm).mono ?_;rintro v H2 ⟨hx2,bs,hor⟩;have w2:=hx2.wf;have g2:=hx2.get w1 g1;have h2:=h1.keep hx2 w1;have q2:=row8 h2.obj;rcases hor with ⟨i,hi,rfl,rfl⟩|⟨hi,rfl,a,c,rfl,hr⟩
 ·obtain⟨hil,hgt,hkey⟩:=z2w hi;obtain⟨H3,e3,hx3,g3,n3,w3⟩:=z18 w2 (.row bad8 90) (.row bad8 90);have l3:H3.load ⟨H2.next,0,none⟩ 8=some bad8:=by simp only[Heap.load,Heap.cells,g3];rfl
  repeat' (first|refine EvC.seq ?_|(refine EvC.reg ?_;simp (config := { maxSteps := 2000000 }) (disch:=first|omega|rfl) only[sB,Za,reduceCtorEq,ld90,cl75,l3])|(refine z08 ?_;simp (config := { maxSteps := 2000000 }) (disch:=first|omega|rfl) only[sB,dAlloc,Za,Zb,one,reduceCtorEq,zr90,st90,e3]))
  refine(z0m w3).mono ?_;rintro v H4 ⟨hx4,rfl⟩;have w4:=hx4.wf;have h4:=(h2.keep hx3 w2).keep hx4 w3;have q4:=row8 h4.obj;have lt:=z3c h4.ls (Zd hil);obtain⟨s,hsE⟩:∃s,s=(φ.opens[i]).2:=⟨_,rfl⟩
  rw[←hsE] at hgt lt;obtain⟨H5,e5,hx5,g5,n5,w5⟩:=z18 w4 (.row zero10 61) (.row s.row10 61);have hbw:(false || ((0:Int) != 0))=false:=rfl;obtain⟨sid,sf,sm,sb,sa,se,sr,sp,sl,sn,sc⟩:=s;have hR:φ.rdErr n bin=if sm≠1 then some (perT inS strS n) else if sb=true∧bin=false then some (perT inS binS n) else if sb=false∧bin=true then some (perT inS textS n) else if sn=2∧se=1 then some (perT inS pastS n) else none:=by
   unfold FSt.rdErr;rw[hgt]
  have k2:H5.load ⟨H4.next,2,none⟩ 1=some [.int .i64 sm]:=z0i g5 rfl;have k3:H5.load ⟨H4.next,3,none⟩ 1=some [.bool sb]:=z0i g5 rfl;have k5:H5.load ⟨H4.next,5,none⟩ 1=some [.int .i64 se]:=z0i g5 rfl;have k9:H5.load ⟨H4.next,9,none⟩ 1=some [.int .i64 sn]:=z0i g5 rfl;by_cases hm1:sm=1
  ·cases sb<;>cases bin
   ·by_cases h2':sn=2
    ·by_cases h1':se=1
     ·repeat' (first|refine EvC.seq ?_|refine EvC.block ?_|(refine EvC.skip ?_;try simp only[z00,hbw])|(refine EvC.reg ?_;simp (config := { maxSteps := 2000000 }) (disch:=first|omega|rfl) only[sB,dAlloc,Za,Zb,one,reduceCtorEq,z0k,ld37,ia37,z0p,ld61,zr61,st61,z0o,ld3,cl76,cl70,z1x,ld4,z1w,z7j,q4,z01,z04,lt,e5,k2,k3,k5,k9,z17 hm1,z19 h2',z19 h1',Zm,Zc])|(refine EvC.condT ?_ ?_;simp (config := { maxSteps := 2000000 }) (disch:=first|omega|rfl) only[sB,Za,reduceCtorEq,hbw];refine z02 ?_)|(refine EvC.condF ?_ ?_;simp (config := { maxSteps := 2000000 }) (disch:=first|omega|rfl) only[sB,Za,reduceCtorEq,hbw];refine z02 ?_))
      refine(z1d hn w5).mono ?_;rintro v H6 ⟨hx6,b6,rfl,g6⟩
      skip
      refine(z1k (s:=inS) (u:=pastS) hx6.wf).mono ?_;rintro v H7 ⟨hx7,b7,rfl,g7⟩;have hx17:=(((hx2.trans hx3).trans hx4).trans hx5).trans (hx6.trans hx7);have g71:=hx17.get w1 g1;have n7:=btyp g7 g71;have n6:=btyp (hx7.get hx6.wf g6) g71
      repeat' (first|(refine EvC.ret ?_;try simp only[z05,z03])|(refine z08 ?_;simp (config := { maxSteps := 2000000 }) (disch:=first|omega|rfl) only[sB,Zb,one,st90,g71]))
      exact z0d rfl (by simp only[sG,Za,reduceCtorEq]) (by simp only[sB,Za,reduceCtorEq];rfl) (by simp only[if_true,z0b,ld90];rfl) ⟨(hx1.trans hx17).pt (Ze _) g71 _,_,.inr ⟨_,by rw[hR];simp [hm1,h2',h1'];rfl,rfl,z1y (by simp [inS,maxLen,Zf]) (by simp [pastS,maxLen,Zf]) (z4s hn (by rw[get_put,if_neg n6];exact hx7.get hx6.wf g6)) (by rw[get_put,if_neg n7];exact g7)⟩⟩
     ·repeat' (first|refine EvC.seq ?_|refine EvC.block ?_|(refine EvC.skip ?_;try simp only[sA,hbw])|(refine EvC.reg ?_;simp (config := { maxSteps := 2000000 }) (disch:=first|omega|rfl) only[sB,dAlloc,Za,Zb,Value.cells,one,reduceCtorEq,layC,st90,z0k,ld37,ia37,z0p,ld61,zr61,st61,z0o,ld3,z1x,ld4,z1w,z7j,bd90,q4,z01,z04,lt,e5,k2,k3,k5,k9,z17 hm1,z19 h2',z0r h1',Zm,Zc])|(refine EvC.condF ?_ ?_;simp (config := { maxSteps := 2000000 }) (disch:=first|omega|rfl) only[sB,Za,reduceCtorEq,hbw];refine z02 ?_))
      have hx15:=((hx2.trans hx3).trans hx4).trans hx5;have g51:=hx15.get w1 g1
      repeat' (first|(refine EvC.ret ?_)|(refine z08 ?_;simp (config := { maxSteps := 2000000 }) (disch:=first|omega|rfl) only[sB,Zb,one,g51]))
      exact z0d rfl (by simp only[sG,Za,reduceCtorEq]) (by simp only[sB,Za,reduceCtorEq];rfl) (by simp only[if_true,z0b,ld90];rfl) ⟨(hx1.trans hx15).pt (Ze _) g51 _,_,.inl ⟨i,hi,by rw[hR];simp [hm1,h1'],rfl,rfl⟩⟩
    ·repeat' (first|refine EvC.seq ?_|refine EvC.block ?_|(refine EvC.skip ?_;try simp only[sA,hbw])|(refine EvC.reg ?_;simp (config := { maxSteps := 2000000 }) (disch:=first|omega|rfl) only[sB,dAlloc,Za,Zb,Value.cells,one,reduceCtorEq,layC,st90,z0k,ld37,ia37,z0p,ld61,zr61,st61,z0o,ld3,z1x,ld4,z1w,bd90,q4,z01,z04,lt,e5,k2,k3,k9,z17 hm1,z0r h2',Zm,Zc])|(refine EvC.condF ?_ ?_;simp (config := { maxSteps := 2000000 }) (disch:=first|omega|rfl) only[sB,Za,reduceCtorEq,hbw];refine z02 ?_))
     have hx15:=((hx2.trans hx3).trans hx4).trans hx5;have g51:=hx15.get w1 g1
     repeat' (first|(refine EvC.ret ?_)|(refine z08 ?_;simp (config := { maxSteps := 2000000 }) (disch:=first|omega|rfl) only[sB,Zb,one,g51]))
     exact z0d rfl (by simp only[sG,Za,reduceCtorEq]) (by simp only[sB,Za,reduceCtorEq];rfl) (by simp only[if_true,z0b,ld90];rfl) ⟨(hx1.trans hx15).pt (Ze _) g51 _,_,.inl ⟨i,hi,by rw[hR];simp [hm1,h2'],rfl,rfl⟩⟩
   ·repeat' (first|refine EvC.seq ?_|refine EvC.block ?_|(refine EvC.skip ?_;try simp only[z00,hbw])|(refine EvC.reg ?_;simp (config := { maxSteps := 2000000 }) (disch:=first|omega|rfl) only[sB,dAlloc,Za,Zb,one,reduceCtorEq,z0k,ld37,ia37,z0p,ld61,zr61,st61,z0o,ld3,cl76,cl70,z1x,ld4,q4,z01,z04,lt,e5,k2,k3,z17 hm1,Zm,Zc])|(refine EvC.condT ?_ ?_;simp (config := { maxSteps := 2000000 }) (disch:=first|omega|rfl) only[sB,Za,reduceCtorEq,hbw];refine z02 ?_)|(refine EvC.condF ?_ ?_;simp (config := { maxSteps := 2000000 }) (disch:=first|omega|rfl) only[sB,Za,reduceCtorEq,hbw];refine z02 ?_))
    refine(z1d hn w5).mono ?_;rintro v H6 ⟨hx6,b6,rfl,g6⟩
    skip
    refine(z1k (s:=inS) (u:=textS) hx6.wf).mono ?_;rintro v H7 ⟨hx7,b7,rfl,g7⟩;have hx17:=(((hx2.trans hx3).trans hx4).trans hx5).trans (hx6.trans hx7);have g71:=hx17.get w1 g1;have n7:=btyp g7 g71;have n6:=btyp (hx7.get hx6.wf g6) g71
    repeat' (first|(refine EvC.ret ?_;try simp only[z05,z03])|(refine z08 ?_;simp (config := { maxSteps := 2000000 }) (disch:=first|omega|rfl) only[sB,Zb,one,st90,g71]))
    exact z0d rfl (by simp only[sG,Za,reduceCtorEq]) (by simp only[sB,Za,reduceCtorEq];rfl) (by simp only[if_true,z0b,ld90];rfl) ⟨(hx1.trans hx17).pt (Ze _) g71 _,_,.inr ⟨_,by rw[hR];simp [hm1];rfl,rfl,z1y (by simp [inS,maxLen,Zf]) (by simp [textS,maxLen,Zf]) (z4s hn (by rw[get_put,if_neg n6];exact hx7.get hx6.wf g6)) (by rw[get_put,if_neg n7];exact g7)⟩⟩
   ·repeat' (first|refine EvC.seq ?_|refine EvC.block ?_|(refine EvC.skip ?_;try simp only[z00,hbw])|(refine EvC.reg ?_;simp (config := { maxSteps := 2000000 }) (disch:=first|omega|rfl) only[sB,dAlloc,Za,Zb,one,reduceCtorEq,z0k,ld37,ia37,z0p,ld61,zr61,st61,z0o,ld3,cl76,cl70,z1x,ld4,q4,z01,z04,lt,e5,k2,k3,z17 hm1,Zm])|(refine EvC.condT ?_ ?_;simp (config := { maxSteps := 2000000 }) (disch:=first|omega|rfl) only[sB,Za,reduceCtorEq,hbw];refine z02 ?_)|(refine EvC.condF ?_ ?_;simp (config := { maxSteps := 2000000 }) (disch:=first|omega|rfl) only[sB,Za,reduceCtorEq,hbw];refine z02 ?_))
    refine(z1d hn w5).mono ?_;rintro v H6 ⟨hx6,b6,rfl,g6⟩
    skip
    refine(z1k (s:=inS) (u:=binS) hx6.wf).mono ?_;rintro v H7 ⟨hx7,b7,rfl,g7⟩;have hx17:=(((hx2.trans hx3).trans hx4).trans hx5).trans (hx6.trans hx7);have g71:=hx17.get w1 g1;have n7:=btyp g7 g71;have n6:=btyp (hx7.get hx6.wf g6) g71
    repeat' (first|(refine EvC.ret ?_;try simp only[z05,z03])|(refine z08 ?_;simp (config := { maxSteps := 2000000 }) (disch:=first|omega|rfl) only[sB,Zb,one,st90,g71]))
    exact z0d rfl (by simp only[sG,Za,reduceCtorEq]) (by simp only[sB,Za,reduceCtorEq];rfl) (by simp only[if_true,z0b,ld90];rfl) ⟨(hx1.trans hx17).pt (Ze _) g71 _,_,.inr ⟨_,by rw[hR];simp [hm1];rfl,rfl,z1y (by simp [inS,maxLen,Zf]) (by simp [binS,maxLen,Zf]) (z4s hn (by rw[get_put,if_neg n6];exact hx7.get hx6.wf g6)) (by rw[get_put,if_neg n7];exact g7)⟩⟩
   ·by_cases h2':sn=2
    ·by_cases h1':se=1
     ·repeat' (first|refine EvC.seq ?_|refine EvC.block ?_|(refine EvC.skip ?_;try simp only[z00,hbw])|(refine EvC.reg ?_;simp (config := { maxSteps := 2000000 }) (disch:=first|omega|rfl) only[sB,dAlloc,Za,Zb,one,reduceCtorEq,z0k,ld37,ia37,z0p,ld61,zr61,st61,z0o,ld3,cl76,cl70,z1x,ld4,z1w,z7j,q4,z01,z04,lt,e5,k2,k3,k5,k9,z17 hm1,z19 h2',z19 h1',Zn,Zc])|(refine EvC.condT ?_ ?_;simp (config := { maxSteps := 2000000 }) (disch:=first|omega|rfl) only[sB,Za,reduceCtorEq,hbw];refine z02 ?_)|(refine EvC.condF ?_ ?_;simp (config := { maxSteps := 2000000 }) (disch:=first|omega|rfl) only[sB,Za,reduceCtorEq,hbw];refine z02 ?_))
      refine(z1d hn w5).mono ?_;rintro v H6 ⟨hx6,b6,rfl,g6⟩
      skip
      refine(z1k (s:=inS) (u:=pastS) hx6.wf).mono ?_;rintro v H7 ⟨hx7,b7,rfl,g7⟩;have hx17:=(((hx2.trans hx3).trans hx4).trans hx5).trans (hx6.trans hx7);have g71:=hx17.get w1 g1;have n7:=btyp g7 g71;have n6:=btyp (hx7.get hx6.wf g6) g71
      repeat' (first|(refine EvC.ret ?_;try simp only[z05,z03])|(refine z08 ?_;simp (config := { maxSteps := 2000000 }) (disch:=first|omega|rfl) only[sB,Zb,one,st90,g71]))
      exact z0d rfl (by simp only[sG,Za,reduceCtorEq]) (by simp only[sB,Za,reduceCtorEq];rfl) (by simp only[if_true,z0b,ld90];rfl) ⟨(hx1.trans hx17).pt (Ze _) g71 _,_,.inr ⟨_,by rw[hR];simp [hm1,h2',h1'];rfl,rfl,z1y (by simp [inS,maxLen,Zf]) (by simp [pastS,maxLen,Zf]) (z4s hn (by rw[get_put,if_neg n6];exact hx7.get hx6.wf g6)) (by rw[get_put,if_neg n7];exact g7)⟩⟩
     ·repeat' (first|refine EvC.seq ?_|refine EvC.block ?_|(refine EvC.skip ?_;try simp only[sA,hbw])|(refine EvC.reg ?_;simp (config := { maxSteps := 2000000 }) (disch:=first|omega|rfl) only[sB,dAlloc,Za,Zb,Value.cells,one,reduceCtorEq,layC,st90,z0k,ld37,ia37,z0p,ld61,zr61,st61,z0o,ld3,z1x,ld4,z1w,z7j,bd90,q4,z01,z04,lt,e5,k2,k3,k5,k9,z17 hm1,z19 h2',z0r h1',Zn,Zc])|(refine EvC.condF ?_ ?_;simp (config := { maxSteps := 2000000 }) (disch:=first|omega|rfl) only[sB,Za,reduceCtorEq,hbw];refine z02 ?_))
      have hx15:=((hx2.trans hx3).trans hx4).trans hx5;have g51:=hx15.get w1 g1
      repeat' (first|(refine EvC.ret ?_)|(refine z08 ?_;simp (config := { maxSteps := 2000000 }) (disch:=first|omega|rfl) only[sB,Zb,one,g51]))
      exact z0d rfl (by simp only[sG,Za,reduceCtorEq]) (by simp only[sB,Za,reduceCtorEq];rfl) (by simp only[if_true,z0b,ld90];rfl) ⟨(hx1.trans hx15).pt (Ze _) g51 _,_,.inl ⟨i,hi,by rw[hR];simp [hm1,h1'],rfl,rfl⟩⟩
    ·repeat' (first|refine EvC.seq ?_|refine EvC.block ?_|(refine EvC.skip ?_;try simp only[sA,hbw])|(refine EvC.reg ?_;simp (config := { maxSteps := 2000000 }) (disch:=first|omega|rfl) only[sB,dAlloc,Za,Zb,Value.cells,one,reduceCtorEq,layC,st90,z0k,ld37,ia37,z0p,ld61,zr61,st61,z0o,ld3,z1x,ld4,z1w,bd90,q4,z01,z04,lt,e5,k2,k3,k9,z17 hm1,z0r h2',Zn,Zc])|(refine EvC.condF ?_ ?_;simp (config := { maxSteps := 2000000 }) (disch:=first|omega|rfl) only[sB,Za,reduceCtorEq,hbw];refine z02 ?_))
     have hx15:=((hx2.trans hx3).trans hx4).trans hx5;have g51:=hx15.get w1 g1
     repeat' (first|(refine EvC.ret ?_)|(refine z08 ?_;simp (config := { maxSteps := 2000000 }) (disch:=first|omega|rfl) only[sB,Zb,one,g51]))
     exact z0d rfl (by simp only[sG,Za,reduceCtorEq]) (by simp only[sB,Za,reduceCtorEq];rfl) (by simp only[if_true,z0b,ld90];rfl) ⟨(hx1.trans hx15).pt (Ze _) g51 _,_,.inl ⟨i,hi,by rw[hR];simp [hm1,h2'],rfl,rfl⟩⟩
  ·repeat' (first|refine EvC.seq ?_|refine EvC.block ?_|(refine EvC.skip ?_;try simp only[z00,hbw])|(refine EvC.reg ?_;simp (config := { maxSteps := 2000000 }) (disch:=first|omega|rfl) only[sB,dAlloc,Za,Zb,one,reduceCtorEq,z0k,ld37,ia37,z0p,ld61,zr61,st61,z0o,ld3,cl76,cl70,q4,z01,z04,lt,e5,k2,z3i hm1])|(refine EvC.condT ?_ ?_;simp (config := { maxSteps := 2000000 }) (disch:=first|omega|rfl) only[sB,Za,reduceCtorEq,hbw];refine z02 ?_)|(refine EvC.condF ?_ ?_;simp (config := { maxSteps := 2000000 }) (disch:=first|omega|rfl) only[sB,Za,reduceCtorEq,hbw];refine z02 ?_))
   refine(z1d hn w5).mono ?_;rintro v H6 ⟨hx6,b6,rfl,g6⟩
   skip
   refine(z1k (s:=inS) (u:=strS) hx6.wf).mono ?_;rintro v H7 ⟨hx7,b7,rfl,g7⟩;have hx17:=(((hx2.trans hx3).trans hx4).trans hx5).trans (hx6.trans hx7);have g71:=hx17.get w1 g1;have n7:=btyp g7 g71;have n6:=btyp (hx7.get hx6.wf g6) g71
   repeat' (first|(refine EvC.ret ?_;try simp only[z05,z03])|(refine z08 ?_;simp (config := { maxSteps := 2000000 }) (disch:=first|omega|rfl) only[sB,Zb,one,st90,g71]))
   exact z0d rfl (by simp only[sG,Za,reduceCtorEq]) (by simp only[sB,Za,reduceCtorEq];rfl) (by simp only[if_true,z0b,ld90];rfl) ⟨(hx1.trans hx17).pt (Ze _) g71 _,_,.inr ⟨_,by rw[hR];simp [hm1];rfl,rfl,z1y (by simp [inS,maxLen,Zf]) (by simp [strS,maxLen,Zf]) (z4s hn (by rw[get_put,if_neg n6];exact hx7.get hx6.wf g6)) (by rw[get_put,if_neg n7];exact g7)⟩⟩
 ·have hgn:=z2q hi;obtain⟨H3,e3,hx3,g3,n3,w3⟩:=z18 w2 (.row bad8 90) (.row (.int .i64 0 :: .bool true :: six (noStrT n) a c) 90);have l3:H3.load ⟨H2.next,0,none⟩ 8=some (.int .i64 0 :: .bool true :: six (noStrT n) a c):=by simp only[Heap.load,Heap.cells,g3];rfl
  repeat' (first|refine EvC.seq ?_|(refine EvC.reg ?_;simp (config := { maxSteps := 2000000 }) (disch:=first|omega|rfl) only[sB,Za,reduceCtorEq,ld90,cl75,l3])|(refine z08 ?_;simp (config := { maxSteps := 2000000 }) (disch:=first|omega|rfl) only[sB,dAlloc,Za,Zb,one,reduceCtorEq,zr90,st90,e3]))
  refine(z0m w3).mono ?_;rintro v H4 ⟨hx4,rfl⟩;have w4:=hx4.wf;have g34:=hx4.get w3 g3;have l4:H4.load ⟨H2.next,0,none⟩ 8=some (.int .i64 0 :: .bool true :: six (noStrT n) a c):=by simp only[Heap.load,Heap.cells,g34];rfl
  have g41:=hx4.get w3 (hx3.get w2 g2);have hb:=((hx2.trans hx3).trans hx4).bump 3;have gb:=hb.get w1 g1
  repeat' (first|refine EvC.seq ?_|(refine EvC.ret ?_;try simp only[z05,z03])|(refine EvC.drw [([(0,0),(1,0)],some 2),([],none)] ?_ ?_;kernel_rfl;simp (config := { maxSteps := 2000000 }) (disch:=first|omega|rfl) only[sD,sB,Za,Zb,one,reduceCtorEq,st90,ld90,l4,g41,Bool.true_or,isAlloc,isRead])|(refine EvC.condT ?_ ?_;simp (config := { maxSteps := 2000000 }) (disch:=first|omega|rfl) only[sB,Za,reduceCtorEq,Bool.true_or];refine z02 ?_))
  exact z0d rfl (by simp only[sG,Za,reduceCtorEq]) (by simp only[sB,Za,reduceCtorEq];rfl) (by simp only[if_true,z0b,ld90];rfl) ⟨(hx1.trans hb).pt (Ze _) gb _,_,.inr ⟨_,by unfold FSt.rdErr;rw[hgn],rfl,a,c,rfl,(hr.keep ((hx3.trans hx4).bump 3) w2).put gb rfl _⟩⟩
theorem zoq (s:Strm) (v:Value) (r:List Value):Hb.splice (s.row10++r) 7 [v]=[.int .i64 s.id,.string s.file,.int .i64 s.mode,.bool s.bin,.string s.al,.int .i64 s.eof,.bool s.rep,v,.int .i64 s.line,.int .i64 s.en]++r:=rfl
theorem zor (s:Strm) (v:Value) (r:List Value):Hb.splice (s.row10++r) 9 [v]=[.int .i64 s.id,.string s.file,.int .i64 s.mode,.bool s.bin,.string s.al,.int .i64 s.eof,.bool s.rep,.int .i64 s.pos,.int .i64 s.line,v]++r:=rfl
theorem zag:∀(a b vs:List Value) (m:Nat),Hb.splice (a++b) (m+a.length) vs=a++Hb.splice b m vs
 |[],b,vs,m=>rfl
 |x :: a,b,vs,m=>by
  show Hb.splice (x :: (a++b)) (m+a.length+1) vs=x :: (a++Hb.splice b m vs);rw[z3s,zag]
theorem zht (s:Strm) (r vs:List Value) (m:Nat):Hb.splice (s.row10++r) (m+10) vs=s.row10++Hb.splice r m vs:=zag s.row10 r vs m
theorem z5y {k:Nat}{v:Value}:∀{l:List (Int × Strm)}{i:Nat}{o:Int × Strm}{s':Strm},(∀r,Hb.splice (o.2.row10++r) k [v]=s'.row10++r)→l[i]?=some o→Hb.splice (rowO l) (i*10+k) [v]=rowO (l.set i (o.1,s'))
 |[],i,o,s',_,h=>by simp at h
 |x :: l,0,o,s',hs,h=>by
  simp at h;subst h;rw[Nat.zero_mul,Nat.zero_add,List.set_cons_zero];exact hs _
 |x :: l,i+1,o,s',hs,h=>by
  have ih:=z5y (l:=l) (i:=i) hs (by simpa using h);rw[List.set_cons_succ];have e:(i+1)*10+k=(i*10+k)+10:=by omega
  rw[e];show Hb.splice (x.2.row10++rowO l) (i*10+k+10) [v]=x.2.row10++rowO (l.set i (o.1,s'));rw[zht,ih]
theorem zgh {φ:FSt}{n:Int}{i:Nat}{s':Strm}(hnd:(φ.opens.map (·.1)).Nodup) (h:(φ.opens.findIdx? fun o=>o.1 == n)=some i):(φ.setS n s').opens=φ.opens.set i (n,s'):=by
 obtain⟨hi,hp,hno⟩:=List.findIdx?_eq_some_iff_getElem.1 h;have hk:(φ.opens[i]).1=n:=by simpa using hp
 unfold FSt.setS;simp only;apply ZD;intro j;rw[Zr,List.getElem?_set];by_cases hj:i=j
 ·subst hj;rw[if_pos rfl,if_pos hi,Zd hi,Zo,if_pos hk]
 ·rw[if_neg hj];cases hx:φ.opens[j]? with
  |none=>rfl
  |some o =>
   rw[Zo,if_neg];intro e;have hjl:=(List.getElem?_eq_some_iff.1 hx).1;have h1:(φ.opens.map (·.1))[i]?=some n:=by rw[Zr,Zd hi,Zo,hk]
   have h2:(φ.opens.map (·.1))[j]?=some n:=by rw[Zr,hx,Zo,e]
   exact hj ((List.getElem?_inj (by rw[Zv];exact hi) hnd).1 (by rw[h1,h2]))
theorem zgi {φ:FSt}{n m:Int}{s':Strm}:((φ.setS n s').opens.findIdx? fun o=>o.1 == m)=φ.opens.findIdx? fun o=>o.1 == m:=by
 unfold FSt.setS;simp only[List.findIdx?_map];congr 1
 funext o
 simp only[Function.comp];by_cases h:o.1=n
 ·rw[if_pos h,h]
 ·rw[if_neg h]
theorem zgj (φ:FSt) (n:Int) (s:Strm):(φ.setS n s).opens.length=φ.opens.length:=by have:=congrArg List.length (z3v φ n s);simpa using this
theorem RfB.turn {H:Heap}{B:Nat→Prop}{r f l:Nat}{φ:FSt}(h:RfB H B r f l φ) {n:Int}{i:Nat}{s':Strm}(hnd:(φ.opens.map (·.1)).Nodup) (hi:(φ.opens.findIdx? fun o=>o.1 == n)=some i) (hid:s'.id=n) :
  RfB (H.put l (some (.row (rowO (φ.setS n s').opens) 84))) B r f l (φ.setS n s'):=by
 have n1:r≠l:=fun e=>by have:=h.obj;rw[e,h.ls] at this;simp at this
 have n2:f≠l:=fun e=>by have:=h.fs;rw[e,h.ls] at this;simp at this
 have hl:(φ.setS n s').opens.length=φ.opens.length:=by have:=congrArg List.length (z3v φ n s');simpa using this
 refine⟨by rw[get_put,if_neg n1,hl];exact h.obj,by rw[get_put,if_neg n2];exact h.fs,by rw[get_put,if_pos rfl],fun o ho=>?_,h.br,h.bf,h.bl⟩;unfold FSt.setS at ho;obtain⟨o',ho',rfl⟩:=List.mem_map.1 ho;split
 ·exact hid
 ·exact h.ids o' ho'
theorem RfB.pos {φ:FSt}{n:Int}{i:Nat}{s:Strm}(hnd:(φ.opens.map (·.1)).Nodup) (hi:(φ.opens.findIdx? fun o=>o.1 == n)=some i) (hs:φ.get n=some s) (x:Int) :
  Hb.splice (rowO φ.opens) (i*10+7) [.int .i64 x]=rowO (φ.setS n { s with pos:=x }).opens∧i*10+7+1≤(rowO φ.opens).length:=by
 obtain⟨hl,hg,hk⟩:=z2w hi;rw[hg] at hs;cases hs;refine⟨?_,by rw[z6n];omega⟩;rw[zgh hnd hi,z5y (s':={ (φ.opens[i]).2 with pos:=x }) (fun r=>zoq _ _ r) (Zd hl),hk]
theorem RfB.end {φ:FSt}{n:Int}{i:Nat}{s:Strm}(hnd:(φ.opens.map (·.1)).Nodup) (hi:(φ.opens.findIdx? fun o=>o.1 == n)=some i) (hs:φ.get n=some s) (x:Int) :
  Hb.splice (rowO φ.opens) (i*10+9) [.int .i64 x]=rowO (φ.setS n { s with en:=x }).opens∧i*10+9+1≤(rowO φ.opens).length:=by
 obtain⟨hl,hg,hk⟩:=z2w hi;rw[hg] at hs;cases hs;refine⟨?_,by rw[z6n];omega⟩;rw[zgh hnd hi,z5y (s':={ (φ.opens[i]).2 with en:=x }) (fun r=>zor _ _ r) (Zd hl),hk]
structure RIn (φ:FSt):Prop where
 nd:(φ.opens.map (·.1)).Nodup
 no:φ.opens.length≤16
 nf:φ.files.length≤16
 dat:∀o∈φ.opens,φ.dataR o.2=φ.data o.2
 fl:∀o∈φ.opens,o.2.id≠0→o.2.id≠1→∃i,(φ.files.findIdx? fun x=>o.2.file == x.1)=some i
 sz:∀s:Strm,(φ.data s).size≤100000
 po:∀o∈φ.opens,0≤o.2.pos∧o.2.pos≤((φ.data o.2).size:Int)
 cw:∀o∈φ.opens,o.2.mode≠1→o.2.con=decide (o.2.id=1)∧o.2.id≠0
 w0:0≤φ.written
 w1:φ.written≤100000
 fz:∀n,(φ.fileD n).size≤20000
 ou:φ.out.size≤100000
theorem zka {φ:FSt}{n:Int}{b:Bool}{s:Strm}(h:φ.wrErr n b=none) (hs:φ.get n=some s):s.mode≠1:=fun hm=>by
 unfold FSt.wrErr at h;rw[hs] at h;simp only[if_pos hm] at h;cases h
theorem z4t {fn:Func}{tm:Tr Value}{H:Heap}{K:Value→Heap→Prop}{a q q':Tmp}{t:TypeId}{ad:Addr}{v u u':Value}(h:fn.results.toList=[.tmp q,.tmp q',.cell a t]) (hu:tm.get q=some u) (hu':tm.get q'=some u') (hv:tm.get a=some (.pointer (some ad))) (hd:dLoad Tryz.prog t (.pointer (some ad)) H=some (.val v H))
  (hk:K (.tuple ⟨[u,u',v]⟩) H):Ex.leave Tryz.prog okT fn K .ret ⟨tm,[],H⟩:=by
 refine EvV.now (v:=.tuple ⟨[u,u',v]⟩) ?_ hk;have hd':dload Tryz.prog t ad H=some v:=by
  simp only[dLoad] at hd;cases hx:dload Tryz.prog t ad H with
  |none=>rw[hx] at hd;cases hd
  |some u=>rw[hx] at hd;simp only[Zo,Option.some.injEq,Dr.val.injEq] at hd;rw[hd.1]
 simp only[dres,h,dresL,dres1,hv,hd',hu,hu',Option.getD_some]
set_option maxHeartbeats 8000000 in
theorem zee {H:Heap}{B:Nat→Prop}{r f l:Nat}{φ:FSt}{n:Int}(h:RfB H B r f l φ) (hI:RIn φ) (hw:H.wf) (hn:i64 n) :
  EvF Tryz.prog okT 36 [ptrV r,.int .i64 n] H fun v H'=>HX H H'∧∃bs,v=.tuple ⟨[.string (φ.sourceR n).1,.int .i64 (φ.sourceR n).2.1,.agg ⟨bs⟩]⟩∧BadR H' (BadV.of (φ.sourceR n).2.2) bs:=by
 refine EvF.enter rfl Tryz.func36 (by decide) rfl ?_;have hno:=hI.no;have hnf:=hI.nf;(repeat refine EvC.seq ?_);refine EvC.reg ?_;simp (config := { maxSteps := 2000000 }) (disch:=first|omega|rfl) only[sA,initTm,dAlloc,zr90];obtain⟨H1,e1,hx1,g1,n1,w1⟩:=new1 hw (.row bad8 90);simp only[e1];clear e1;have h1:=h.keep hx1 hw
 repeat' (first|refine EvC.seq ?_|(refine EvC.reg ?_;simp (config := { maxSteps := 2000000 }) (disch:=first|omega|rfl) only[sB,Za,reduceCtorEq,cl77]))
 refine(z72 (bin:=false) h1 w1 hn (by omega)).mono ?_;rintro v H2 ⟨hx2,bs,hor⟩;have w2:=hx2.wf;have g2:=hx2.get w1 g1;have h2:=h1.keep hx2 w1;rcases hor with ⟨i,hi,hr,rfl,rfl⟩|⟨t,hr,rfl,a,c,rfl,hk⟩
 ·obtain⟨hil,hgt,hkey⟩:=z2w hi;obtain⟨H3,e3,hx3,g3,n3,w3⟩:=z18 w2 (.row bad8 90) (.row bad8 90);have l3:H3.load ⟨H2.next,0,none⟩ 8=some bad8:=by simp only[Heap.load,Heap.cells,g3];rfl
  have hbw:(false || ((0:Int) != 0))=false:=rfl
  repeat' (first|refine EvC.seq ?_|(refine EvC.reg ?_;simp (config := { maxSteps := 2000000 }) (disch:=first|omega|rfl) only[sB,Za,reduceCtorEq,ld90,cl75,l3])|(refine z08 ?_;simp (config := { maxSteps := 2000000 }) (disch:=first|omega|rfl) only[sB,dAlloc,Za,Zb,one,reduceCtorEq,zr90,st90,e3]))
  refine(z0m w3).mono ?_;rintro v H4 ⟨hx4,rfl⟩;have w4:=hx4.wf;have hx24:=hx3.trans hx4;have h4:=h2.keep hx24 w2;have lt:=z3c h4.ls (Zd hil);have q4:=row8 h4.obj;obtain⟨s,hsE⟩:∃s,s=(φ.opens[i]).2:=⟨_,rfl⟩
  rw[←hsE] at hgt lt;have hm:=ZE hil;have hD:=hI.dat _ hm;have hF:=hI.fl _ hm;rw[←hsE] at hD hF;have hlp:=(z50 (k:=7) (by omega) (Zd hil)).trans (show (φ.opens[i]).2.row10[7]?=some (.int .i64 (φ.opens[i]).2.pos) from rfl);rw[←hsE] at hlp;have lp4:=z0i h4.ls hlp;have hR:φ.sourceR n=(φ.data s,s.pos,none):=by unfold FSt.sourceR;rw[hr,hgt]
  have hb:=hx24.bump 23;have wb:=hb.wf
  repeat' (first|refine EvC.seq ?_|(refine EvC.skip ?_;try simp only[z00,hbw])|(refine EvC.drw (id:=4) [([(0,0),(1,0),(2,0),(3,0),(4,0),(5,0),(6,0),(7,0),(8,0)],some 9),([(10,0),(11,0),(12,0),(13,0),(14,0),(15,0),(16,0),(17,0),(18,0),(19,0),(20,1),(21,1)],some 22),([],none)] ?_ ?_;kernel_rfl;simp (config := { maxSteps := 2000000 }) (disch:=first|omega|rfl) only[sD,sB,Za,Zb,reduceCtorEq,z0k,ld37,ia37,z0p,ld61,cl78,q4,z01,z04,lt,isAlloc,isRead])|(refine EvC.condF ?_ ?_;simp (config := { maxSteps := 2000000 }) (disch:=first|omega|rfl) only[sB,Za,reduceCtorEq,hbw];refine z02 ?_))
  refine(z52 (h2.keep hb w2) wb (by omega) hF).mono ?_;rintro v H6 ⟨hx6,rfl⟩;have hx26:=hb.trans hx6;have h6:=h2.keep hx26 w2;have q6:=row8 h6.obj;have lt6:=z3c h6.ls (Zd hil);rw[←hsE] at lt6;have lp6:=z0i h6.ls hlp;have g61:=hx26.get w2 g2
  repeat' (first|(refine EvC.ret ?_)|(refine z2t ?_;simp (config := { maxSteps := 2000000 }) (disch:=first|omega|rfl) only[sV,sD,sB,Za,Zb,Value.cells,one,reduceCtorEq,layC,st90,z0k,ld37,ia37,z0p,z1c,ld3,bd90,q4,q6,z01,z04,lp4,lp6,g61,isAlloc,isRead]))
  exact z4t rfl (by simp only[sB,Za,reduceCtorEq];rfl) (by simp only[sB,Za,reduceCtorEq];rfl) (by simp only[sB,Za,reduceCtorEq];rfl) (by simp only[if_true,z0b,ld90];rfl) ⟨(hx1.trans (hx2.trans hx26)).pt (Ze _) g61 _,_,by rw[hR,hD],by rw[hR];rfl⟩
 ·obtain⟨H3,e3,hx3,g3,n3,w3⟩:=z18 w2 (.row bad8 90) (.row (.int .i64 0 :: .bool true :: six t a c) 90);have l3:H3.load ⟨H2.next,0,none⟩ 8=some (.int .i64 0 :: .bool true :: six t a c):=by simp only[Heap.load,Heap.cells,g3];rfl
  repeat' (first|refine EvC.seq ?_|(refine EvC.reg ?_;simp (config := { maxSteps := 2000000 }) (disch:=first|omega|rfl) only[sB,Za,reduceCtorEq,ld90,cl75,l3])|(refine z08 ?_;simp (config := { maxSteps := 2000000 }) (disch:=first|omega|rfl) only[sB,dAlloc,Za,Zb,one,reduceCtorEq,zr90,st90,e3]))
  refine(z0m w3).mono ?_;rintro v H4 ⟨hx4,rfl⟩;have w4:=hx4.wf;have g34:=hx4.get w3 g3;have l4:H4.load ⟨H2.next,0,none⟩ 8=some (.int .i64 0 :: .bool true :: six t a c):=by simp only[Heap.load,Heap.cells,g34];rfl
  have g41:=hx4.get w3 (hx3.get w2 g2);have hR:φ.sourceR n=(Zg,0,some t):=by unfold FSt.sourceR;rw[hr]
  have hb:=((hx2.trans hx3).trans hx4).bump 4;have gb:=hb.get w1 g1
  repeat' (first|refine EvC.seq ?_|(refine EvC.ret ?_;try simp only[z05,z03])|(refine EvC.drw (id:=3) [([(0,0),(1,0),(2,0)],some 3),([],none)] ?_ ?_;kernel_rfl;simp (config := { maxSteps := 2000000 }) (disch:=first|omega|rfl) only[sD,sB,Za,Zb,one,reduceCtorEq,st90,ld90,l4,g41,Bool.true_or,isAlloc,isRead])|(refine EvC.condT ?_ ?_;simp (config := { maxSteps := 2000000 }) (disch:=first|omega|rfl) only[sB,Za,reduceCtorEq,Bool.true_or];refine z02 ?_))
  exact z4t rfl (by simp only[sB,Za,reduceCtorEq];rfl) (by simp only[sB,Za,reduceCtorEq];rfl) (by simp only[sB,Za,reduceCtorEq];rfl) (by simp only[if_true,z0b,ld90];rfl) ⟨(hx1.trans hb).pt (Ze _) gb _,_,by rw[hR];rfl,by rw[hR];exact⟨a,c,rfl,(hk.keep ((hx3.trans hx4).bump 4) w2).put gb rfl _⟩⟩
theorem z0s {T:TypeId}{ds cs:List Value}{H:Heap}{i j:Nat}(hi:H.get i=some (.row ds 90)) (hj:H.get j=some (.row cs T)) (hT:Zk 90 T=false):j≠i:=fun e=>by
 rw[e,hi] at hj;have h1:=Option.some.inj hj;injection h1 with h2 h3;rw[h3,Zy] at hT;cases hT
theorem RfB.off {H:Heap}{B:Nat→Prop}{r f l i:Nat}{φ:FSt}{ds:List Value}(h:RfB H B r f l φ) (g:H.get i=some (.row ds 90)) (X:Option Blk):RfB (H.put i X) B r f l φ :=
 ⟨by rw[get_put,if_neg (z0s g h.obj rfl)];exact h.obj,by rw[get_put,if_neg (z0s g h.fs rfl)];exact h.fs,by rw[get_put,if_neg (z0s g h.ls rfl)];exact h.ls,h.ids,h.br,h.bf,h.bl⟩
theorem Hy.pt {B:Nat→Prop}{H H':Heap}(h:Hy B H H') {i:Nat}(hi:H.next≤i) {B0:Blk}(hg:H'.get i=some B0) (X:Option Blk):Hy B H (H'.put i X) :=
 ⟨(Hy.put (B:=fun _=>True) h.1 trivial hg X).1,by rw[z1b];exact h.2.1,fun j hj hb=>by rw[get_put,if_neg (by omega)];exact h.2.2 j hj hb⟩
def cutX (bin:Bool):ByteArray→Int × Int:=if bin then cutB else cutC
theorem z73 {H:Heap}{s u:ByteArray}{b:Nat}(hs:s.size≤maxLen) (hu:u.size≤maxLen) (g:H.get b=some (.row (six (atomT u) none 0) 88)) :
  BadR H (.ball (ofT s [atomT u])) [.int .i64 0,.bool true,.int .i64 5,.string s,.string e0,.int .u64 0,.int .i64 0,.slice (some ⟨b,0,none⟩) 1 1] :=
 ⟨some ⟨b,0,none⟩,1,rfl,zji hs (z4q hu) g⟩
set_option maxHeartbeats 16000000 in
theorem zgk {H:Heap}{B:Nat→Prop}{r f l:Nat}{φ:FSt}{n:Int}{bin peek:Bool}(h:RfB H B r f l φ) (hI:RIn φ) (hw:H.wf) (hn:i64 n) :
  EvF Tryz.prog okT 35 [ptrV r,.int .i64 n,.bool bin,.bool peek] H fun v H'=>Hy B H H'∧∃bs,v=.tuple ⟨[.int .i64 (φ.readR n bin peek (cutX bin)).1,.agg ⟨bs⟩]⟩∧BadR H' (BadV.of (φ.readR n bin peek (cutX bin)).2.1) bs∧RfB H' B r f l (φ.readR n bin peek (cutX bin)).2.2:=by
 refine EvF.enter rfl Tryz.func35 (by decide) rfl ?_;have hno:=hI.no;have hnf:=hI.nf;(repeat refine EvC.seq ?_);refine EvC.reg ?_;simp (config := { maxSteps := 2000000 }) (disch:=first|omega|rfl) only[sA,initTm,dAlloc,Zb,zr90];obtain⟨H1,e1,hx1,g1,n1,w1⟩:=new1 hw (.row bad8 90);simp only[e1];clear e1;have h1:=h.keep hx1 hw
 repeat' (first|refine EvC.seq ?_|(refine EvC.reg ?_;simp (config := { maxSteps := 2000000 }) (disch:=first|omega|rfl) only[sB,Za,reduceCtorEq,cl77]))
 refine(z72 (bin:=bin) h1 w1 hn (by omega)).mono ?_;rintro v H2 ⟨hx2,bs,hor⟩;have w2:=hx2.wf;have g2:=hx2.get w1 g1;have h2:=h1.keep hx2 w1;rcases hor with ⟨i,hi,hr,rfl,rfl⟩|⟨t,hr,rfl,a,c,rfl,hk⟩
 ·obtain⟨hil,hgt,hkey⟩:=z2w hi;obtain⟨H3,e3,hx3,g3,n3,w3⟩:=z18 w2 (.row bad8 90) (.row bad8 90);have l3:H3.load ⟨H2.next,0,none⟩ 8=some bad8:=by simp only[Heap.load,Heap.cells,g3];rfl
  have hbw:(false || ((0:Int) != 0))=false:=rfl
  repeat' (first|refine EvC.seq ?_|(refine EvC.reg ?_;simp (config := { maxSteps := 2000000 }) (disch:=first|omega|rfl) only[sB,Za,reduceCtorEq,ld90,cl75,l3])|(refine z08 ?_;simp (config := { maxSteps := 2000000 }) (disch:=first|omega|rfl) only[sB,dAlloc,Za,Zb,one,reduceCtorEq,zr90,st90,e3]))
  refine(z0m w3).mono ?_;rintro v H4 ⟨hx4,rfl⟩;have w4:=hx4.wf;have hx24:=hx3.trans hx4;have h4:=h2.keep hx24 w2;have lt:=z3c h4.ls (Zd hil);have q4:=row8 h4.obj;obtain⟨s,hsE⟩:∃s,s=(φ.opens[i]).2:=⟨_,rfl⟩
  rw[←hsE] at hgt lt;have hm:=ZE hil;have hD:=hI.dat _ hm;have hF:=hI.fl _ hm;obtain⟨p0,p1⟩:=hI.po _ hm;have hds:=hI.sz s;rw[←hsE] at hD hF p0 p1;have hlp:=(z50 (k:=7) (by omega) (Zd hil)).trans (show (φ.opens[i]).2.row10[7]?=some (.int .i64 (φ.opens[i]).2.pos) from rfl);rw[←hsE] at hlp;have hR:φ.readR n bin peek (cutX bin)=(let r:=(φ.data s).extract s.pos.toNat (φ.data s).size
   if r.size=0 then (-1,none,if peek then φ else φ.setS n { s with en:=2 })
   else if (cutX bin r).2=0 then (0,some reprT,φ)
   else ((cutX bin r).1,none,if peek then φ else φ.setS n { s with pos:=s.pos+(cutX bin r).2 })):=by unfold FSt.readR;rw[hr,hgt]
  repeat' (first|refine EvC.seq ?_|(refine EvC.skip ?_;try simp only[z00,hbw])|(refine EvC.reg ?_;simp (config := { maxSteps := 2000000 }) (disch:=first|omega|rfl) only[sB,Za,reduceCtorEq,z0k,ld37,ia37,z0p,ld61,cl78,q4,z01,z04,lt])|(refine EvC.condF ?_ ?_;simp (config := { maxSteps := 2000000 }) (disch:=first|omega|rfl) only[sB,Za,reduceCtorEq,hbw];refine z02 ?_))
  refine(z52 h4 w4 (by omega) hF).mono ?_;rintro v H5 ⟨hx5,rfl⟩;rw[hD];have hx25:=hx24.trans hx5;have hx15:=hx2.trans hx25;have hx05:=hx1.trans hx15;have w5:=hx5.wf;have h5:=h2.keep hx25 w2;have q5:=row8 h5.obj;have lp5:=z0i h5.ls hlp;have g51:=hx25.get w2 g2;have gl5:=h5.ls;obtain⟨d,hd⟩:∃d,d=φ.data s:=⟨_,rfl⟩
  rw[←hd] at hR p1 hds ⊢;obtain⟨k,hk⟩:=Int.eq_ofNat_of_zero_le p0;have hrs:(d.extract s.pos.toNat d.size).size=d.size - k:=by rw[hk,Int.toNat_natCast,ByteArray.size_extract];omega
  have hid:s.id=n:=by have:=hI.nd;have h3:=h.ids _ hm;rw[←hsE] at h3;rw[h3];exact hkey
  by_cases hend:s.pos=(d.size:Int)
  ·have hR2:φ.readR n bin peek (cutX bin)=(-1,none,if peek then φ else φ.setS n { s with en:=2 }):=by rw[hR];simp only[hrs];rw[if_pos (by omega)]
   rw[hR2];cases peek
   ·obtain⟨sp,sl⟩:=RfB.end (x:=2) hI.nd hi hgt;have h6:=h5.turn (s':={ s with en:=2 }) hI.nd hi hid;obtain⟨H6,e6⟩:∃H6,H5.put l (some (.row (rowO (φ.setS n { s with en:=2 }).opens) 84))=H6:=⟨_,rfl⟩
    rw[e6] at h6;have hy6:Hy B H H6:=by rw[←e6];exact(Hy.of hx05).trans (Hy.put w5 h.bl gl5 _)
    have g61:H6.get H.next=some (.row bad8 90):=by rw[←e6,get_put,if_neg (z0s g51 gl5 rfl).symm];exact g51
    repeat' (first|refine EvC.seq ?_|(refine EvC.ret ?_;try simp only[z05,z03])|(refine EvC.reg ?_;simp (config := { maxSteps := 2000000 }) (disch:=first|omega|rfl) only[sB,Za,Zb,Value.cells,one,reduceCtorEq,layC,st90,z0k,ld37,ia37,z0p,z1c,ld3,ln9,z1w,st3,bd90,q5,z01,z04,lp5,z19 hend,gl5,sp,sl,e6,g61,Zm])|(refine EvC.condT ?_ ?_;simp (config := { maxSteps := 2000000 }) (disch:=first|omega|rfl) only[sB,Za,reduceCtorEq];refine z02 ?_))
    exact z0d rfl (by simp only[sG,Za,reduceCtorEq]) (by simp only[sB,Za,reduceCtorEq];rfl) (by simp only[if_true,z0b,ld90];rfl) ⟨hy6.pt (Ze _) g61 _,_,rfl,rfl,h6.off g61 _⟩
   ·repeat' (first|refine EvC.seq ?_|(refine EvC.skip ?_;try simp only[z00])|(refine EvC.ret ?_;try simp only[z05,z03])|(refine EvC.reg ?_;simp (config := { maxSteps := 2000000 }) (disch:=first|omega|rfl) only[sB,Za,Zb,Value.cells,one,reduceCtorEq,layC,st90,z0k,ld37,ia37,z0p,z1c,ld3,ln9,bd90,q5,z01,z04,lp5,z19 hend,g51,Zn])|(refine EvC.condT ?_ ?_;simp (config := { maxSteps := 2000000 }) (disch:=first|omega|rfl) only[sB,Za,reduceCtorEq];refine z02 ?_)|(refine EvC.condF ?_ ?_;simp (config := { maxSteps := 2000000 }) (disch:=first|omega|rfl) only[sB,Za,reduceCtorEq];refine z02 ?_))
    exact z0d rfl (by simp only[sG,Za,reduceCtorEq]) (by simp only[sB,Za,reduceCtorEq];rfl) (by simp only[if_true,z0b,ld90];rfl) ⟨Hy.of (hx05.pt (Ze _) g51 _),_,rfl,rfl,h5.off g51 _⟩
  ·have hkd:k < d.size:=by omega
   have hR2:φ.readR n bin peek (cutX bin)=(if (cutX bin (d.extract k d.size)).2=0 then (0,some reprT,φ) else ((cutX bin (d.extract k d.size)).1,none,if peek then φ else φ.setS n { s with pos:=s.pos+(cutX bin (d.extract k d.size)).2 })):=by
    rw[hk,Int.toNat_natCast] at hrs;rw[hR];simp only[hk,Int.toNat_natCast];rw[if_neg (by rw[hrs];omega)]
   have hw0:IntKind.i64.wrap ((byteAt d k:Nat):Int)=((byteAt d k:Nat):Int):=by have:=z3f d k;exact z0e (by omega) (by omega)
   have ha:=Int.toNat_natCast k;rw[hk] at lp5 hend;cases bin
   ·repeat' (first|refine EvC.seq ?_|(refine EvC.skip ?_;try simp only[z00])|(refine EvC.reg ?_;simp (config := { maxSteps := 2000000 }) (disch:=first|omega|rfl) only[sB,Za,reduceCtorEq,z0k,ld37,ia37,z0p,z1c,ld3,ln9,ix9,z4h,cl79,q5,z01,z04,lp5,z0r hend,hw0,Zm])|(refine EvC.condT ?_ ?_;simp (config := { maxSteps := 2000000 }) (disch:=first|omega|rfl) only[sB,Za,reduceCtorEq];refine z02 ?_)|(refine EvC.condF ?_ ?_;simp (config := { maxSteps := 2000000 }) (disch:=first|omega|rfl) only[sB,Za,reduceCtorEq];refine z02 ?_))
    refine(zcz (by omega) (by omega)).mono ?_;rintro v H6 ⟨rfl,hq⟩;have hq':=hq.symm;subst hq';have hcd:=zd1 hkd;have hcx:cutX false (d.extract k d.size)=((((Utf8.decode d k).1:Nat):Int),if Utf8.decode d k=(65533,1) then 0 else (((Utf8.decode d k).2:Nat):Int)):=by
     show cutC _=_;unfold cutC;rw[ze9 d (by omega)];by_cases hz:Utf8.decode d k=(65533,1)
     ·rw[hz];rfl
     ·rw[if_neg hz,if_neg (fun q=>hz (Prod.ext q.1 q.2))]
    rw[hcx] at hR2;simp only at hR2;by_cases hz:Utf8.decode d k=(65533,1)
    ·rw[if_pos hz] at hcd;rw[hcd];rw[if_pos hz,if_pos rfl] at hR2;rw[hR2];have z0:(((0:Nat):Int) == 0)=true:=rfl
     repeat' (first|refine EvC.seq ?_|(refine EvC.reg ?_;simp (config := { maxSteps := 2000000 }) (disch:=first|omega|rfl) only[sB,Za,Zb,Value.cells,reduceCtorEq,layC,cl72,z2y,z0])|(refine z08 ?_;simp (config := { maxSteps := 2000000 }) (disch:=first|omega|rfl) only[sB,Za,reduceCtorEq])|(refine EvC.condT ?_ ?_;simp (config := { maxSteps := 2000000 }) (disch:=first|omega|rfl) only[sB,Za,reduceCtorEq];refine z02 ?_))
     refine(z2h (s:=charS) w5).mono ?_;rintro v H7 ⟨rfl,hx7⟩;obtain⟨H8,e8,hx8,g8,n8,w8⟩:=new1 hx7.wf (.row (six (atomT charS) none 0) 88)
     repeat' (first|(refine z08 ?_;simp (config := { maxSteps := 2000000 }) (disch:=first|omega|rfl) only[sB,Za,Zb,one,reduceCtorEq,cl73,e8]))
     refine(z1r (m:=1) (s:=reprS) w8 g8 rfl (by omega) (by omega) rfl).mono ?_;rintro v H9 ⟨hx9,b9,rfl,g9⟩;have hx59:=(hx7.trans hx8).trans hx9;have g91:=hx59.get w5 g51;have hb:BadR H9 (.ball reprT) _:=z73 (s:=reprS) (u:=charS) (by simp [reprS,maxLen,Zf]) (by simp [charS,maxLen,Zf]) g9
     repeat' (first|(refine EvC.ret ?_;try simp only[z05,z03])|(refine z08 ?_;simp (config := { maxSteps := 2000000 }) (disch:=first|omega|rfl) only[sB,Zb,one,st90,g91]))
     exact z0d rfl (by simp only[sG,Za,reduceCtorEq]) (by simp only[sB,Za,reduceCtorEq];rfl) (by simp only[if_true,z0b,ld90];rfl) ⟨Hy.of ((hx05.trans hx59).pt (Ze _) g91 _),_,rfl,hb.put g91 rfl _,(h5.keep hx59 w5).off g91 _⟩
    ·rw[if_neg hz] at hcd;rw[hcd];obtain⟨-,u2,u3,-,u5⟩:=zd0 hkd hz;rw[if_neg hz,if_neg (by omega)] at hR2;rw[hR2];generalize Utf8.decode d k=dd at *;obtain⟨ch,cw⟩:=dd;simp only at u2 u3 u5 ⊢;have z0:((cw:Int) == 0)=false:=z0r (by omega);have hw1:IntKind.i64.wrap ((k:Int)+(cw:Int))=(k:Int)+cw:=z0e (by omega) (by omega);cases peek
     ·obtain⟨sp,sl⟩:=RfB.pos (x:=(k:Int)+cw) hI.nd hi hgt;have h6:=h5.turn (s':={ s with pos:=(k:Int)+cw }) hI.nd hi hid;obtain⟨H6,e6⟩:∃H6,H5.put l (some (.row (rowO (φ.setS n { s with pos:=(k:Int)+cw }).opens) 84))=H6:=⟨_,rfl⟩
      rw[e6] at h6;have hy6:Hy B H H6:=by rw[←e6];exact(Hy.of hx05).trans (Hy.put w5 h.bl gl5 _)
      have g61:H6.get H.next=some (.row bad8 90):=by rw[←e6,get_put,if_neg (z0s g51 gl5 rfl).symm];exact g51
      repeat' (first|refine EvC.seq ?_|(refine EvC.skip ?_;try simp only[z00])|(refine EvC.ret ?_)|(refine EvC.reg ?_;simp (config := { maxSteps := 2000000 }) (disch:=first|omega|rfl) only[sB,Za,Zb,Value.cells,one,reduceCtorEq,layC,st90,z0k,ld37,ia37,z0p,z1c,st3,bd90,z0,q5,z01,z04,hw1,gl5,sp,sl,e6,g61,Zm])|(refine z08 ?_;simp (config := { maxSteps := 2000000 }) (disch:=first|omega|rfl) only[sB,Za,reduceCtorEq,Zc])|(refine EvC.condT ?_ ?_;simp (config := { maxSteps := 2000000 }) (disch:=first|omega|rfl) only[sB,Za,reduceCtorEq];refine z02 ?_)|(refine EvC.condF ?_ ?_;simp (config := { maxSteps := 2000000 }) (disch:=first|omega|rfl) only[sB,Za,reduceCtorEq];refine z02 ?_))
      exact z0d rfl (by simp only[sG,Za,reduceCtorEq]) (by simp only[sB,Za,reduceCtorEq];rfl) (by simp only[if_true,z0b,ld90];rfl) ⟨hy6.pt (Ze _) g61 _,_,rfl,rfl,by rw[hk];exact h6.off g61 _⟩
     ·repeat' (first|refine EvC.seq ?_|(refine EvC.skip ?_;try simp only[z00])|(refine EvC.ret ?_)|(refine EvC.reg ?_;simp (config := { maxSteps := 2000000 }) (disch:=first|omega|rfl) only[sB,Za,Zb,Value.cells,one,reduceCtorEq,layC,st90,bd90,z0,g51,Zn])|(refine z08 ?_;simp (config := { maxSteps := 2000000 }) (disch:=first|omega|rfl) only[sB,Za,reduceCtorEq])|(refine EvC.condF ?_ ?_;simp (config := { maxSteps := 2000000 }) (disch:=first|omega|rfl) only[sB,Za,reduceCtorEq];refine z02 ?_))
      exact z0d rfl (by simp only[sG,Za,reduceCtorEq]) (by simp only[sB,Za,reduceCtorEq];rfl) (by simp only[if_true,z0b,ld90];rfl) ⟨Hy.of (hx05.pt (Ze _) g51 _),_,rfl,rfl,h5.off g51 _⟩
   ·have hcx:cutX true (d.extract k d.size)=(((byteAt d k:Nat):Int),1):=by
     show cutB _=_;unfold cutB;rw[z5k d 0 (by omega),Nat.add_zero]
    rw[hcx] at hR2;simp only at hR2;rw[if_neg (by decide)] at hR2;rw[hR2];have hw1:IntKind.i64.wrap ((k:Int)+1)=(k:Int)+1:=z0e (by omega) (by omega);cases peek
    ·obtain⟨sp,sl⟩:=RfB.pos (x:=(k:Int)+1) hI.nd hi hgt;have h6:=h5.turn (s':={ s with pos:=(k:Int)+1 }) hI.nd hi hid;obtain⟨H6,e6⟩:∃H6,H5.put l (some (.row (rowO (φ.setS n { s with pos:=(k:Int)+1 }).opens) 84))=H6:=⟨_,rfl⟩
     rw[e6] at h6;have hy6:Hy B H H6:=by rw[←e6];exact(Hy.of hx05).trans (Hy.put w5 h.bl gl5 _)
     have g61:H6.get H.next=some (.row bad8 90):=by rw[←e6,get_put,if_neg (z0s g51 gl5 rfl).symm];exact g51
     repeat' (first|refine EvC.seq ?_|(refine EvC.skip ?_;try simp only[z00])|(refine EvC.ret ?_)|(refine EvC.reg ?_;simp (config := { maxSteps := 2000000 }) (disch:=first|omega|rfl) only[sB,Za,Zb,Value.cells,one,reduceCtorEq,layC,st90,z0k,ld37,ia37,z0p,z1c,ld3,ln9,st3,bd90,ix9,z4h,q5,z01,z04,lp5,z0r hend,hw0,hw1,gl5,sp,sl,e6,g61,Zn,Zm,Zc])|(refine EvC.condT ?_ ?_;simp (config := { maxSteps := 2000000 }) (disch:=first|omega|rfl) only[sB,Za,reduceCtorEq];refine z02 ?_)|(refine EvC.condF ?_ ?_;simp (config := { maxSteps := 2000000 }) (disch:=first|omega|rfl) only[sB,Za,reduceCtorEq];refine z02 ?_))
     exact z0d rfl (by simp only[sG,Za,reduceCtorEq]) (by simp only[sB,Za,reduceCtorEq];rfl) (by simp only[if_true,z0b,ld90];rfl) ⟨hy6.pt (Ze _) g61 _,_,rfl,rfl,by rw[hk];exact h6.off g61 _⟩
    ·repeat' (first|refine EvC.seq ?_|(refine EvC.skip ?_;try simp only[z00])|(refine EvC.ret ?_)|(refine EvC.reg ?_;simp (config := { maxSteps := 2000000 }) (disch:=first|omega|rfl) only[sB,Za,Zb,Value.cells,one,reduceCtorEq,layC,st90,z0k,ld37,ia37,z0p,z1c,ld3,ln9,bd90,ix9,z4h,q5,z01,z04,lp5,z0r hend,hw0,g51,Zn])|(refine EvC.condF ?_ ?_;simp (config := { maxSteps := 2000000 }) (disch:=first|omega|rfl) only[sB,Za,reduceCtorEq];refine z02 ?_))
     exact z0d rfl (by simp only[sG,Za,reduceCtorEq]) (by simp only[sB,Za,reduceCtorEq];rfl) (by simp only[if_true,z0b,ld90];rfl) ⟨Hy.of (hx05.pt (Ze _) g51 _),_,rfl,rfl,h5.off g51 _⟩
 ·obtain⟨H3,e3,hx3,g3,n3,w3⟩:=z18 w2 (.row bad8 90) (.row (.int .i64 0 :: .bool true :: six t a c) 90);have l3:H3.load ⟨H2.next,0,none⟩ 8=some (.int .i64 0 :: .bool true :: six t a c):=by simp only[Heap.load,Heap.cells,g3];rfl
  repeat' (first|refine EvC.seq ?_|(refine EvC.reg ?_;simp (config := { maxSteps := 2000000 }) (disch:=first|omega|rfl) only[sB,Za,reduceCtorEq,ld90,cl75,l3])|(refine z08 ?_;simp (config := { maxSteps := 2000000 }) (disch:=first|omega|rfl) only[sB,dAlloc,Za,Zb,one,reduceCtorEq,zr90,st90,e3]))
  refine(z0m w3).mono ?_;rintro v H4 ⟨hx4,rfl⟩;have w4:=hx4.wf;have g34:=hx4.get w3 g3;have l4:H4.load ⟨H2.next,0,none⟩ 8=some (.int .i64 0 :: .bool true :: six t a c):=by simp only[Heap.load,Heap.cells,g34];rfl
  have g41:=hx4.get w3 (hx3.get w2 g2);have hb:=((hx2.trans hx3).trans hx4).bump 3;have gb:=hb.get w1 g1;have hR:φ.readR n bin peek (cutX bin)=(0,some t,φ):=by unfold FSt.readR;rw[hr]
  rw[hR]
  repeat' (first|refine EvC.seq ?_|(refine EvC.ret ?_;try simp only[z05,z03])|(refine EvC.drw [([(0,0),(1,0)],some 2),([],none)] ?_ ?_;kernel_rfl;simp (config := { maxSteps := 2000000 }) (disch:=first|omega|rfl) only[sD,sB,Za,Zb,one,reduceCtorEq,st90,ld90,l4,g41,Bool.true_or,isAlloc,isRead])|(refine EvC.condT ?_ ?_;simp (config := { maxSteps := 2000000 }) (disch:=first|omega|rfl) only[sB,Za,reduceCtorEq,Bool.true_or];refine z02 ?_))
  exact z0d rfl (by simp only[sG,Za,reduceCtorEq]) (by simp only[sB,Za,reduceCtorEq];rfl) (by simp only[if_true,z0b,ld90];rfl) ⟨Hy.of ((hx1.trans hb).pt (Ze _) gb _),_,rfl,⟨a,c,rfl,(hk.keep ((hx3.trans hx4).bump 3) w2).put gb rfl _⟩,(h1.keep hb w1).off gb _⟩
set_option maxHeartbeats 8000000 in
theorem z9d {H:Heap}{B:Nat→Prop}{r f l:Nat}{φ:FSt}{n:Int}{bin:Bool}(h:RfB H B r f l φ) (hw:H.wf) (hn:i64 n) (hm:φ.opens.length≤100) :
  EvF Tryz.prog okT 81 [ptrV r,.int .i64 n,.bool bin] H fun v H'=>HX H H'∧∃bs,((∃i,(φ.opens.findIdx? fun o=>o.1 == n)=some i∧φ.wrErr n bin=none∧v=.tuple ⟨[.int .i64 (i:Nat),.agg ⟨bs⟩]⟩∧BadR H' .none bs)∨∃t,φ.wrErr n bin=some t∧v=.tuple ⟨[.int .i64 (-1),.agg ⟨bs⟩]⟩∧BadR H' (.ball t) bs):=by
 refine EvF.enter rfl Tryz.func81 (by decide) rfl ?_;(repeat refine EvC.seq ?_);refine EvC.reg ?_;simp (config := { maxSteps := 2000000 }) (disch:=first|omega|rfl) only[sA,initTm,dAlloc,Zb,zr90];obtain⟨H1,e1,hx1,g1,n1,w1⟩:=new1 hw (.row bad8 90);simp only[e1];clear e1;have h1:=h.keep hx1 hw
 repeat' (first|refine EvC.seq ?_|(refine EvC.reg ?_;simp (config := { maxSteps := 2000000 }) (disch:=first|omega|rfl) only[sB,Za,reduceCtorEq,cl74]))
 refine(z4j h1 w1 hn hm).mono ?_;rintro v H2 ⟨hx2,bs,hor⟩;have w2:=hx2.wf;have g2:=hx2.get w1 g1;have h2:=h1.keep hx2 w1;rcases hor with ⟨i,hi,rfl,rfl⟩|⟨hi,rfl,a,c,rfl,hr⟩
 ·obtain⟨hil,hgt,hkey⟩:=z2w hi;obtain⟨H3,e3,hx3,g3,n3,w3⟩:=z18 w2 (.row bad8 90) (.row bad8 90);have l3:H3.load ⟨H2.next,0,none⟩ 8=some bad8:=by simp only[Heap.load,Heap.cells,g3];rfl
  repeat' (first|refine EvC.seq ?_|(refine EvC.reg ?_;simp (config := { maxSteps := 2000000 }) (disch:=first|omega|rfl) only[sB,Za,reduceCtorEq,ld90,cl75,l3])|(refine z08 ?_;simp (config := { maxSteps := 2000000 }) (disch:=first|omega|rfl) only[sB,dAlloc,Za,Zb,one,reduceCtorEq,zr90,st90,e3]))
  refine(z0m w3).mono ?_;rintro v H4 ⟨hx4,rfl⟩;have w4:=hx4.wf;have h4:=(h2.keep hx3 w2).keep hx4 w3;have q4:=row8 h4.obj;have lt:=z3c h4.ls (Zd hil);obtain⟨s,hsE⟩:∃s,s=(φ.opens[i]).2:=⟨_,rfl⟩
  rw[←hsE] at hgt lt;obtain⟨H5,e5,hx5,g5,n5,w5⟩:=z18 w4 (.row zero10 61) (.row s.row10 61);have hbw:(false || ((0:Int) != 0))=false:=rfl;obtain⟨sid,sf,sm,sb,sa,se,sr,sp,sl,sn,sc⟩:=s;have hR:φ.wrErr n bin=if sm=1 then some (perT outS strS n) else if sb=true∧bin=false then some (perT outS binS n) else if sb=false∧bin=true then some (perT outS textS n) else none:=by
   unfold FSt.wrErr;rw[hgt]
  have k2:H5.load ⟨H4.next,2,none⟩ 1=some [.int .i64 sm]:=z0i g5 rfl;have k3:H5.load ⟨H4.next,3,none⟩ 1=some [.bool sb]:=z0i g5 rfl;have hx15:=((hx2.trans hx3).trans hx4).trans hx5;have g51:=hx15.get w1 g1;by_cases hm1:sm=1
  ·repeat' (first|refine EvC.seq ?_|refine EvC.block ?_|(refine EvC.skip ?_;try simp only[z00,hbw])|(refine EvC.reg ?_;simp (config := { maxSteps := 2000000 }) (disch:=first|omega|rfl) only[sB,dAlloc,Za,Zb,one,reduceCtorEq,z0k,ld37,ia37,z0p,ld61,zr61,st61,z0o,ld3,cl76,cl70,q4,z01,z04,lt,e5,k2,z19 hm1])|(refine EvC.condT ?_ ?_;simp (config := { maxSteps := 2000000 }) (disch:=first|omega|rfl) only[sB,Za,reduceCtorEq,hbw];refine z02 ?_)|(refine EvC.condF ?_ ?_;simp (config := { maxSteps := 2000000 }) (disch:=first|omega|rfl) only[sB,Za,reduceCtorEq,hbw];refine z02 ?_))
   refine(z1d hn w5).mono ?_;rintro v H6 ⟨hx6,b6,rfl,g6⟩
   skip
   refine(z1k (s:=outS) (u:=strS) hx6.wf).mono ?_;rintro v H7 ⟨hx7,b7,rfl,g7⟩;have hx17:=hx15.trans (hx6.trans hx7);have g71:=hx17.get w1 g1;have hb:BadR H7 (.ball (perT outS strS n)) _:=z1y (by simp [outS,maxLen,Zf]) (by simp [strS,maxLen,Zf]) (z4s hn (hx7.get hx6.wf g6)) g7
   repeat' (first|(refine EvC.ret ?_;try simp only[z05,z03])|(refine z08 ?_;simp (config := { maxSteps := 2000000 }) (disch:=first|omega|rfl) only[sB,Zb,one,st90,g71]))
   exact z0d rfl (by simp only[sG,Za,reduceCtorEq]) (by simp only[sB,Za,reduceCtorEq];rfl) (by simp only[if_true,z0b,ld90];rfl) ⟨(hx1.trans hx17).pt (Ze _) g71 _,_,.inr ⟨_,by rw[hR];simp [hm1],rfl,hb.put g71 rfl _⟩⟩
  ·cases sb<;>cases bin
   ·repeat' (first|refine EvC.seq ?_|refine EvC.block ?_|(refine EvC.skip ?_;try simp only[sA,hbw])|(refine EvC.reg ?_;simp (config := { maxSteps := 2000000 }) (disch:=first|omega|rfl) only[sB,dAlloc,Za,Zb,Value.cells,one,reduceCtorEq,layC,st90,z0k,ld37,ia37,z0p,ld61,zr61,st61,z0o,ld3,z1x,ld4,bd90,q4,z01,z04,lt,e5,k2,k3,z0r hm1,Zm,Zc])|(refine EvC.condF ?_ ?_;simp (config := { maxSteps := 2000000 }) (disch:=first|omega|rfl) only[sB,Za,reduceCtorEq,hbw];refine z02 ?_))
    repeat' (first|(refine EvC.ret ?_)|(refine z08 ?_;simp (config := { maxSteps := 2000000 }) (disch:=first|omega|rfl) only[sB,Zb,one,g51]))
    exact z0d rfl (by simp only[sG,Za,reduceCtorEq]) (by simp only[sB,Za,reduceCtorEq];rfl) (by simp only[if_true,z0b,ld90];rfl) ⟨(hx1.trans hx15).pt (Ze _) g51 _,_,.inl ⟨i,hi,by rw[hR];simp [hm1],rfl,rfl⟩⟩
   ·repeat' (first|refine EvC.seq ?_|refine EvC.block ?_|(refine EvC.skip ?_;try simp only[z00,hbw])|(refine EvC.reg ?_;simp (config := { maxSteps := 2000000 }) (disch:=first|omega|rfl) only[sB,dAlloc,Za,Zb,one,reduceCtorEq,z0k,ld37,ia37,z0p,ld61,zr61,st61,z0o,ld3,cl76,cl70,z1x,ld4,q4,z01,z04,lt,e5,k2,k3,z0r hm1,Zm,Zc])|(refine EvC.condT ?_ ?_;simp (config := { maxSteps := 2000000 }) (disch:=first|omega|rfl) only[sB,Za,reduceCtorEq,hbw];refine z02 ?_)|(refine EvC.condF ?_ ?_;simp (config := { maxSteps := 2000000 }) (disch:=first|omega|rfl) only[sB,Za,reduceCtorEq,hbw];refine z02 ?_))
    refine(z1d hn w5).mono ?_;rintro v H6 ⟨hx6,b6,rfl,g6⟩
    skip
    refine(z1k (s:=outS) (u:=textS) hx6.wf).mono ?_;rintro v H7 ⟨hx7,b7,rfl,g7⟩;have hx17:=hx15.trans (hx6.trans hx7);have g71:=hx17.get w1 g1;have hb:BadR H7 (.ball (perT outS textS n)) _:=z1y (by simp [outS,maxLen,Zf]) (by simp [textS,maxLen,Zf]) (z4s hn (hx7.get hx6.wf g6)) g7
    repeat' (first|(refine EvC.ret ?_;try simp only[z05,z03])|(refine z08 ?_;simp (config := { maxSteps := 2000000 }) (disch:=first|omega|rfl) only[sB,Zb,one,st90,g71]))
    exact z0d rfl (by simp only[sG,Za,reduceCtorEq]) (by simp only[sB,Za,reduceCtorEq];rfl) (by simp only[if_true,z0b,ld90];rfl) ⟨(hx1.trans hx17).pt (Ze _) g71 _,_,.inr ⟨_,by rw[hR];simp [hm1],rfl,hb.put g71 rfl _⟩⟩
   ·repeat' (first|refine EvC.seq ?_|refine EvC.block ?_|(refine EvC.skip ?_;try simp only[z00,hbw])|(refine EvC.reg ?_;simp (config := { maxSteps := 2000000 }) (disch:=first|omega|rfl) only[sB,dAlloc,Za,Zb,one,reduceCtorEq,z0k,ld37,ia37,z0p,ld61,zr61,st61,z0o,ld3,cl76,cl70,z1x,ld4,q4,z01,z04,lt,e5,k2,k3,z0r hm1,Zm])|(refine EvC.condT ?_ ?_;simp (config := { maxSteps := 2000000 }) (disch:=first|omega|rfl) only[sB,Za,reduceCtorEq,hbw];refine z02 ?_)|(refine EvC.condF ?_ ?_;simp (config := { maxSteps := 2000000 }) (disch:=first|omega|rfl) only[sB,Za,reduceCtorEq,hbw];refine z02 ?_))
    refine(z1d hn w5).mono ?_;rintro v H6 ⟨hx6,b6,rfl,g6⟩
    skip
    refine(z1k (s:=outS) (u:=binS) hx6.wf).mono ?_;rintro v H7 ⟨hx7,b7,rfl,g7⟩;have hx17:=hx15.trans (hx6.trans hx7);have g71:=hx17.get w1 g1;have hb:BadR H7 (.ball (perT outS binS n)) _:=z1y (by simp [outS,maxLen,Zf]) (by simp [binS,maxLen,Zf]) (z4s hn (hx7.get hx6.wf g6)) g7
    repeat' (first|(refine EvC.ret ?_;try simp only[z05,z03])|(refine z08 ?_;simp (config := { maxSteps := 2000000 }) (disch:=first|omega|rfl) only[sB,Zb,one,st90,g71]))
    exact z0d rfl (by simp only[sG,Za,reduceCtorEq]) (by simp only[sB,Za,reduceCtorEq];rfl) (by simp only[if_true,z0b,ld90];rfl) ⟨(hx1.trans hx17).pt (Ze _) g71 _,_,.inr ⟨_,by rw[hR];simp [hm1],rfl,hb.put g71 rfl _⟩⟩
   ·repeat' (first|refine EvC.seq ?_|refine EvC.block ?_|(refine EvC.skip ?_;try simp only[sA,hbw])|(refine EvC.reg ?_;simp (config := { maxSteps := 2000000 }) (disch:=first|omega|rfl) only[sB,dAlloc,Za,Zb,Value.cells,one,reduceCtorEq,layC,st90,z0k,ld37,ia37,z0p,ld61,zr61,st61,z0o,ld3,z1x,ld4,bd90,q4,z01,z04,lt,e5,k2,k3,z0r hm1,Zn,Zc])|(refine EvC.condF ?_ ?_;simp (config := { maxSteps := 2000000 }) (disch:=first|omega|rfl) only[sB,Za,reduceCtorEq,hbw];refine z02 ?_))
    repeat' (first|(refine EvC.ret ?_)|(refine z08 ?_;simp (config := { maxSteps := 2000000 }) (disch:=first|omega|rfl) only[sB,Zb,one,g51]))
    exact z0d rfl (by simp only[sG,Za,reduceCtorEq]) (by simp only[sB,Za,reduceCtorEq];rfl) (by simp only[if_true,z0b,ld90];rfl) ⟨(hx1.trans hx15).pt (Ze _) g51 _,_,.inl ⟨i,hi,by rw[hR];simp [hm1],rfl,rfl⟩⟩
 ·have hgn:=z2q hi;obtain⟨H3,e3,hx3,g3,n3,w3⟩:=z18 w2 (.row bad8 90) (.row (.int .i64 0 :: .bool true :: six (noStrT n) a c) 90);have l3:H3.load ⟨H2.next,0,none⟩ 8=some (.int .i64 0 :: .bool true :: six (noStrT n) a c):=by simp only[Heap.load,Heap.cells,g3];rfl
  repeat' (first|refine EvC.seq ?_|(refine EvC.reg ?_;simp (config := { maxSteps := 2000000 }) (disch:=first|omega|rfl) only[sB,Za,reduceCtorEq,ld90,cl75,l3])|(refine z08 ?_;simp (config := { maxSteps := 2000000 }) (disch:=first|omega|rfl) only[sB,dAlloc,Za,Zb,one,reduceCtorEq,zr90,st90,e3]))
  refine(z0m w3).mono ?_;rintro v H4 ⟨hx4,rfl⟩;have w4:=hx4.wf;have g34:=hx4.get w3 g3;have l4:H4.load ⟨H2.next,0,none⟩ 8=some (.int .i64 0 :: .bool true :: six (noStrT n) a c):=by simp only[Heap.load,Heap.cells,g34];rfl
  have g41:=hx4.get w3 (hx3.get w2 g2);have hb:=((hx2.trans hx3).trans hx4).bump 3;have gb:=hb.get w1 g1
  repeat' (first|refine EvC.seq ?_|(refine EvC.ret ?_;try simp only[z05,z03])|(refine EvC.drw [([(0,0),(1,0)],some 2),([],none)] ?_ ?_;kernel_rfl;simp (config := { maxSteps := 2000000 }) (disch:=first|omega|rfl) only[sD,sB,Za,Zb,one,reduceCtorEq,st90,ld90,l4,g41,Bool.true_or,isAlloc,isRead])|(refine EvC.condT ?_ ?_;simp (config := { maxSteps := 2000000 }) (disch:=first|omega|rfl) only[sB,Za,reduceCtorEq,Bool.true_or];refine z02 ?_))
  exact z0d rfl (by simp only[sG,Za,reduceCtorEq]) (by simp only[sB,Za,reduceCtorEq];rfl) (by simp only[if_true,z0b,ld90];rfl) ⟨(hx1.trans hb).pt (Ze _) gb _,_,.inr ⟨_,by unfold FSt.wrErr;rw[hgn],rfl,a,c,rfl,(hr.keep ((hx3.trans hx4).bump 3) w2).put gb rfl _⟩⟩
end Go.Proofs.hq
end

section
namespace Go.Hb
open Go Go.RowKit
theorem zah (a b c:Value) (r vs:List Value) (m:Nat):Hb.splice (a :: b :: r) (m+2) vs=a :: b :: Hb.splice r m vs:=by
 show Hb.splice (a :: b :: r) (m+1+1) vs=_;rw[z3s,z3s]
end Go.Hb
namespace Go.Proofs.hq
open Go Go.RowKit Go.Hb
variable {ok:Ok}
set_option maxRecDepth 10000
attribute [local irreducible] LX LG EL STG SOP SGO SGD SAL SRD SEF SEG SLK SCK ES
theorem z9e {v:ByteArray}:∀{l:List (ByteArray × ByteArray)}{i:Nat}{x:ByteArray × ByteArray},l[i]?=some x→Hb.splice (rowF l) (i*2+1) [.string v]=rowF (l.set i (x.1,v))
 |[],i,x,h=>by simp at h
 |y :: l,0,x,h=>by simp at h;subst h;rfl
 |y :: l,i+1,x,h=>by
  have ih:=z9e (v:=v) (l:=l) (i:=i) (by simpa using h);rw[List.set_cons_succ];have e:(i+1)*2+1=(i*2+1)+2:=by omega
  rw[e];show Hb.splice (.string y.1 :: .string y.2 :: rowF l) (i*2+1+2) [.string v]=.string y.1 :: .string y.2 :: rowF (l.set i (x.1,v));rw[zah (.string y.1) (.string y.2) (.string y.1),ih]
theorem zef {l:List (ByteArray × ByteArray)}{n d:ByteArray}{i:Nat}(h:(l.findIdx? fun x=>n == x.1)=some i):fset l n d=l.set i (n,d):=by
 unfold fset;rw[h]
theorem RfB.text {H:Heap}{B:Nat→Prop}{r f l:Nat}{φ:FSt}(h:RfB H B r f l φ) {n d:ByteArray}{i:Nat}(hi:(φ.files.findIdx? fun x=>n == x.1)=some i) :
  Hb.splice (rowF φ.files) (i*2+1) [.string d]=rowF (fset φ.files n d)∧i*2+1+1≤(rowF φ.files).length∧RfB (H.put f (some (.row (rowF (fset φ.files n d)) 73))) B r f l { φ with files:=fset φ.files n d }:=by
 obtain⟨hl,hp,-⟩:=List.findIdx?_eq_some_iff_getElem.1 hi;have hn:n=(φ.files[i]).1:=z1z.1 hp;have n1:r≠f:=fun e=>by have:=h.obj;rw[e,h.fs] at this;simp at this
 have n2:l≠f:=fun e=>by have:=h.ls;rw[e,h.fs] at this;simp at this
 have hlen:(fset φ.files n d).length=φ.files.length:=by rw[zef hi,List.length_set]
 refine⟨by rw[z9e (Zd hl),zef hi,←hn],by rw[z43];omega,by rw[get_put,if_neg n1];simp only[hlen];exact h.obj,by rw[get_put,if_pos rfl],by rw[get_put,if_neg n2];exact h.ls,h.ids,h.br,h.bf,h.bl⟩
theorem RfB.obj8 {H:Heap}{B:Nat→Prop}{r f l:Nat}{φ ψ:FSt}(h:RfB H B r f l φ) (e1:ψ.files=φ.files) (e2:ψ.opens=φ.opens) :
  RfB (H.put r (some (.row [.slice (some ⟨f,0,none⟩) φ.files.length φ.files.length,.slice (some ⟨l,0,none⟩) φ.opens.length φ.opens.length,.int .i64 ψ.next,.string ψ.input,.string ψ.out,.int .i64 ψ.inp,.int .i64 ψ.put,.int .i64 ψ.written] 39))) B r f l ψ:=by
 have n1:f≠r:=fun e=>by have:=h.fs;rw[e,h.obj] at this;simp at this
 have n2:l≠r:=fun e=>by have:=h.ls;rw[e,h.obj] at this;simp at this
 exact⟨by rw[get_put,if_pos rfl,e1,e2],by rw[get_put,if_neg n1,e1];exact h.fs,by rw[get_put,if_neg n2,e2];exact h.ls,by rw[e2];exact h.ids,h.br,h.bf,h.bl⟩
set_option maxHeartbeats 16000000 in
theorem zgl {H:Heap}{B:Nat→Prop}{r f l:Nat}{φ:FSt}{n:Int}{i:Nat}{s:Strm}{t:ByteArray}(h:RfB H B r f l φ) (hI:RIn φ) (hw:H.wf) (hi:(φ.opens.findIdx? fun o=>o.1 == n)=some i) (hgt:φ.get n=some s) (hcon:s.con=decide (s.id=1)) (h01:s.id≠0)
  (h0:0≤φ.written) (h1:φ.written≤100000) (ht:t.size≤4611686018427387904) (hfs:∀n,(φ.fileD n).size≤20000) (hu:φ.out.size≤100000) :
  EvF Tryz.prog okT 83 [ptrV r,.int .i64 (i:Nat),.string t] H fun v H'=>Hy B H H'∧∃bs,v=.agg ⟨bs⟩∧BadR H' (BadV.of (φ.addR s t).1) bs∧RfB H' B r f l (φ.addR s t).2:=by
 refine EvF.enter rfl Tryz.func83 (by decide) rfl ?_;have hno:=hI.no;have hnf:=hI.nf;obtain⟨hil,hgt',hkey⟩:=z2w hi;rw[hgt] at hgt';have hsE:s=(φ.opens[i]).2:=Option.some.inj hgt';have hm:=ZE hil;have hF:=hI.fl _ hm;rw[←hsE] at hF;have hw1:IntKind.i64.wrap (φ.written+(t.size:Int))=φ.written+t.size:=z0e (by omega) (by omega);(repeat refine EvC.seq ?_);refine EvC.reg ?_;simp (config := { maxSteps := 2000000 }) (disch:=first|omega|rfl) only[sA,initTm,dAlloc,Zb,zr90];obtain⟨H1,e1,hx1,g1,n1,w1⟩:=new1 hw (.row bad8 90);simp only[e1];clear e1;have h1':=h.keep hx1 hw;have q1:=row8 h1'.obj;have lt:=z3c h1'.ls (Zd hil);rw[←hsE] at lt;obtain⟨H2,e2,hx2,g2,n2,w2⟩:=z18 w1 (.row zero10 61) (.row s.row10 61);have h2:=h1'.keep hx2 w1;have q2:=row8 h2.obj;have g21:=hx2.get w1 g1;have t0:H2.load ⟨H1.next,0,none⟩ 1=some [.int .i64 s.id]:=z0i g2 rfl;have t1:H2.load ⟨H1.next,1,none⟩ 1=some [.string s.file]:=z0i g2 rfl;have hx02:=hx1.trans hx2;by_cases c1:100000 < φ.written+(t.size:Int)
 ·have hR:φ.addR s t=(some (resT outS),φ):=by unfold FSt.addR;rw[if_pos c1]
  rw[hR]
  repeat' (first|refine EvC.seq ?_|(refine EvC.reg ?_;simp (config := { maxSteps := 2000000 }) (disch:=first|omega|rfl) only[sB,dAlloc,Za,Zb,Value.cells,one,reduceCtorEq,layC,z0k,ld37,ia37,z0p,ld61,zr61,st61,zg0,ld3,ln9,cl72,z2y,q1,lt,e2,q2,z01,z04,hw1,gt_iff_lt,decide_eq_true c1])|(refine EvC.condT ?_ ?_;simp (config := { maxSteps := 2000000 }) (disch:=first|omega|rfl) only[sB,Za,reduceCtorEq];refine z02 ?_))
  refine(z2h (s:=outS) w2).mono ?_;rintro v H7 ⟨rfl,hx7⟩;obtain⟨H8,e8,hx8,g8,n8,w8⟩:=new1 hx7.wf (.row (six (atomT outS) none 0) 88)
  repeat' (first|(refine z08 ?_;simp (config := { maxSteps := 2000000 }) (disch:=first|omega|rfl) only[sB,Za,Zb,one,reduceCtorEq,cl73,e8]))
  refine(z1r (m:=1) (s:=resS) w8 g8 rfl (by omega) (by omega) rfl).mono ?_;rintro v H9 ⟨hx9,b9,rfl,g9⟩;have hx29:=(hx7.trans hx8).trans hx9;have g91:=hx29.get w2 g21;have hb:BadR H9 (.ball (resT outS)) _:=z73 (s:=resS) (u:=outS) (by simp [resS,maxLen,Zf]) (by simp [outS,maxLen,Zf]) g9
  repeat' (first|(refine EvC.ret ?_;try simp only[z05,z03])|(refine z08 ?_;simp (config := { maxSteps := 2000000 }) (disch:=first|omega|rfl) only[sB,Zb,one,st90,g91]))
  exact z0f rfl (by simp only[sB,Za,reduceCtorEq];rfl) (by simp only[if_true,z0b,ld90];rfl) ⟨Hy.of ((hx02.trans hx29).pt (Ze _) g91 _),_,rfl,hb.put g91 rfl _,(h2.keep hx29 w2).off g91 _⟩
 by_cases c0:s.id=1
 ·have hc:s.con=true:=by rw[hcon];exact decide_eq_true c0
  have hR:φ.addR s t=(none,{ φ with written:=φ.written+t.size,out:=φ.out++t }):=by unfold FSt.addR;rw[if_neg c1,if_neg (by simp [hc]),if_pos hc]
  rw[hR];have hadd:=fun G T x y=>z6l (P:=Tryz.prog) (H:=G) (t:=T) (x:=x) (y:=y) (a:=φ.out) (b:=t) (by omega)
  have go2:=h2.obj;have h3:=h2.obj8 (ψ:={ φ with out:=φ.out++t }) rfl rfl;obtain⟨H3,e3⟩:∃H3,H2.put r (some (.row [.slice (some ⟨f,0,none⟩) φ.files.length φ.files.length,.slice (some ⟨l,0,none⟩) φ.opens.length φ.opens.length,.int .i64 φ.next,.string φ.input,.string (φ.out++t),.int .i64 φ.inp,.int .i64 φ.put,.int .i64 φ.written] 39))=H3:=⟨_,rfl⟩
  rw[e3] at h3;have hy3:Hy B H H3:=by rw[←e3];exact(Hy.of hx02).trans (Hy.put w2 h.br go2 _)
  have g31:H3.get H.next=some (.row bad8 90):=by rw[←e3,get_put,if_neg (z0s g21 go2 rfl).symm];exact g21
  have go3:=h3.obj;have q3:=row8 go3;have h4:=h3.obj8 (ψ:={ φ with written:=φ.written+t.size,out:=φ.out++t }) rfl rfl;obtain⟨H4,e4⟩:∃H4,H3.put r (some (.row [.slice (some ⟨f,0,none⟩) φ.files.length φ.files.length,.slice (some ⟨l,0,none⟩) φ.opens.length φ.opens.length,.int .i64 φ.next,.string φ.input,.string (φ.out++t),.int .i64 φ.inp,.int .i64 φ.put,.int .i64 (φ.written+t.size)] 39))=H4:=⟨_,rfl⟩
  rw[e4] at h4;have hy4:Hy B H H4:=by rw[←e4];exact hy3.trans (Hy.put hy3.1 h.br go3 _)
  have g41:H4.get H.next=some (.row bad8 90):=by rw[←e4,get_put,if_neg (z0s g31 go3 rfl).symm];exact g31
  repeat' (first|refine EvC.seq ?_|(refine EvC.skip ?_;try simp only[z00])|(refine EvC.ret ?_)|(refine EvC.reg ?_;simp (config := { maxSteps := 2000000 }) (disch:=first|omega|rfl) only[sB,dAlloc,Za,Zb,Value.cells,one,reduceCtorEq,Zh,layC,z0k,ld37,ia37,z0p,ld61,zr61,st61,zg0,ld3,ln9,st90,z2p,ld9,st9,zjb,st3,bd90,q1,lt,e2,q2,z01,z04,hw1,gt_iff_lt,decide_eq_false c1,t0,z17 c0,hadd,go2,e3,q3,go3,e4,g41])|(refine EvC.condF ?_ ?_;simp (config := { maxSteps := 2000000 }) (disch:=first|omega|rfl) only[sB,Za,reduceCtorEq];refine z02 ?_))
  exact z0f rfl (by simp only[sB,Za,reduceCtorEq];rfl) (by simp only[if_true,z0b,ld90];rfl) ⟨hy4.pt (Ze _) g41 _,_,rfl,rfl,h4.off g41 _⟩
 ·have hc:s.con=false:=by rw[hcon];exact decide_eq_false c0
  obtain⟨k,hk⟩:=hF h01 c0;obtain⟨hkl,hfd⟩:=z9c hk;have hfz:=hfs s.file;have hw2:IntKind.i64.wrap (((φ.fileD s.file).size:Int)+(t.size:Int))=((φ.fileD s.file).size:Int)+t.size:=z0e (by omega) (by omega)
  repeat' (first|refine EvC.seq ?_|(refine EvC.skip ?_;try simp only[z00])|(refine EvC.reg ?_;simp (config := { maxSteps := 2000000 }) (disch:=first|omega|rfl) only[sB,dAlloc,Za,Zb,one,reduceCtorEq,z0k,ld37,ia37,z0p,ld61,zr61,st61,zg0,ld3,ln9,z2p,z3u,ld9,cl69,q1,lt,e2,q2,z01,z04,hw1,gt_iff_lt,decide_eq_false c1,t0,t1,z3i c0])|(refine EvC.condT ?_ ?_;simp (config := { maxSteps := 2000000 }) (disch:=first|omega|rfl) only[sB,Za,reduceCtorEq];refine z02 ?_)|(refine EvC.condF ?_ ?_;simp (config := { maxSteps := 2000000 }) (disch:=first|omega|rfl) only[sB,Za,reduceCtorEq];refine z02 ?_))
  refine(z9b h2 (by omega)).mono ?_;rintro v H3 ⟨hq,rfl⟩;have hq':=hq.symm;subst hq';rw[hk];simp only;have ld:=z0i h2.fs (z9a (Zd hkl)).2;rw[←hfd] at ld;by_cases c2:20000 < ((φ.fileD s.file).size:Int)+(t.size:Int)
  ·have hR:φ.addR s t=(some (resT flS),φ):=by unfold FSt.addR;rw[if_neg c1,if_pos ⟨hc,c2⟩]
   rw[hR]
   repeat' (first|refine EvC.seq ?_|(refine EvC.reg ?_;simp (config := { maxSteps := 2000000 }) (disch:=first|omega|rfl) only[sB,Za,Zb,Value.cells,reduceCtorEq,layC,ln9,cl72,z2y,ld9,z4z,ld22,ia22,z5i,q2,z01,z04,ld,hw2,gt_iff_lt,decide_eq_true c2])|(refine EvC.condT ?_ ?_;simp (config := { maxSteps := 2000000 }) (disch:=first|omega|rfl) only[sB,Za,reduceCtorEq];refine z02 ?_))
   refine(z2h (s:=flS) w2).mono ?_;rintro v H7 ⟨rfl,hx7⟩;obtain⟨H8,e8,hx8,g8,n8,w8⟩:=new1 hx7.wf (.row (six (atomT flS) none 0) 88)
   repeat' (first|(refine z08 ?_;simp (config := { maxSteps := 2000000 }) (disch:=first|omega|rfl) only[sB,Za,Zb,one,reduceCtorEq,cl73,e8]))
   refine(z1r (m:=1) (s:=resS) w8 g8 rfl (by omega) (by omega) rfl).mono ?_;rintro v H9 ⟨hx9,b9,rfl,g9⟩;have hx29:=(hx7.trans hx8).trans hx9;have g91:=hx29.get w2 g21;have hb:BadR H9 (.ball (resT flS)) _:=z73 (s:=resS) (u:=flS) (by simp [resS,maxLen,Zf]) (by simp [flS,maxLen,Zf]) g9
   repeat' (first|(refine EvC.ret ?_;try simp only[z05,z03])|(refine z08 ?_;simp (config := { maxSteps := 2000000 }) (disch:=first|omega|rfl) only[sB,Zb,one,st90,g91]))
   exact z0f rfl (by simp only[sB,Za,reduceCtorEq];rfl) (by simp only[if_true,z0b,ld90];rfl) ⟨Hy.of ((hx02.trans hx29).pt (Ze _) g91 _),_,rfl,hb.put g91 rfl _,(h2.keep hx29 w2).off g91 _⟩
  ·have hR:φ.addR s t=(none,{ φ with written:=φ.written+t.size,files:=fset φ.files s.file (φ.fileD s.file++t) }):=by unfold FSt.addR;rw[if_neg c1,if_neg (fun q=>c2 q.2),if_neg (by simp [hc])]
   rw[hR];have hadd:=fun G T x y=>z6l (P:=Tryz.prog) (H:=G) (t:=T) (x:=x) (y:=y) (a:=φ.fileD s.file) (b:=t) (by omega)
   obtain⟨Hb,eb,hxb,wb⟩:=z5e w2 18;have h2b:=h2.keep hxb w2;have g2b:=hxb.get w2 g21;obtain⟨sp,sl,h3⟩:=h2b.text (d:=φ.fileD s.file++t) hk;have gf2:=h2b.fs;have qb:=row8 h2b.obj;have ldb:=hxb.load w2 ld;obtain⟨H3,e3⟩:∃H3,Hb.put f (some (.row (rowF (fset φ.files s.file (φ.fileD s.file++t))) 73))=H3:=⟨_,rfl⟩
   rw[e3] at h3;have hy3:Hy B H H3:=by rw[←e3];exact(Hy.of (hx02.trans hxb)).trans (Hy.put wb h.bf gf2 _)
   have g31:H3.get H.next=some (.row bad8 90):=by rw[←e3,get_put,if_neg (z0s g2b gf2 rfl).symm];exact g2b
   have go3:H3.get r=some (.row [.slice (some ⟨f,0,none⟩) (fset φ.files s.file (φ.fileD s.file++t)).length (fset φ.files s.file (φ.fileD s.file++t)).length,.slice (some ⟨l,0,none⟩) φ.opens.length φ.opens.length,.int .i64 φ.next,.string φ.input,.string φ.out,.int .i64 φ.inp,.int .i64 φ.put,.int .i64 φ.written] 39):=h3.obj;have q3:=row8 go3;have h4:=h3.obj8 (ψ:={ φ with written:=φ.written+t.size,files:=fset φ.files s.file (φ.fileD s.file++t) }) rfl rfl;obtain⟨H4,e4⟩:∃H4,H3.put r (some (.row [.slice (some ⟨f,0,none⟩) (fset φ.files s.file (φ.fileD s.file++t)).length (fset φ.files s.file (φ.fileD s.file++t)).length,.slice (some ⟨l,0,none⟩) φ.opens.length φ.opens.length,.int .i64 φ.next,.string φ.input,.string φ.out,.int .i64 φ.inp,.int .i64 φ.put,.int .i64 (φ.written+t.size)] 39))=H4:=⟨_,rfl⟩
   rw[e4] at h4;have hy4:Hy B H H4:=by rw[←e4];exact hy3.trans (Hy.put hy3.1 h.br go3 _)
   have g41:H4.get H.next=some (.row bad8 90):=by rw[←e4,get_put,if_neg (z0s g31 go3 rfl).symm];exact g31
   repeat' (first|refine EvC.seq ?_|(refine EvC.skip ?_;try simp only[z00])|(refine EvC.ret ?_)|(refine EvC.reg ?_;simp (config := { maxSteps := 2000000 }) (disch:=first|omega|rfl) only[sB,Za,Zb,Value.cells,one,reduceCtorEq,layC,zg0,ld3,ln9,st90,ld9,z4z,ld22,ia22,z5i,st3,bd90,q2,z01,z04,ld,hw1,hw2,gt_iff_lt,decide_eq_false c2,q3,go3,e4,g41])|(refine EvC.drw [([(0,0),(1,0),(2,0),(3,0),(4,0),(5,0),(6,0),(7,0),(8,0),(9,0),(10,0),(11,0),(12,0),(13,0),(14,0),(15,0),(16,0)],some 17),([],none)] ?_ ?_;kernel_rfl;simp (config := { maxSteps := 2000000 }) (disch:=first|omega|rfl) only[sD,sB,Za,Zb,one,reduceCtorEq,ld9,z4z,ld22,ia22,z5i,st9,z01,z04,hadd,eb,qb,ldb,gf2,sp,sl,e3,isAlloc,isRead])|(refine EvC.condF ?_ ?_;simp (config := { maxSteps := 2000000 }) (disch:=first|omega|rfl) only[sB,Za,reduceCtorEq];refine z02 ?_))
   exact z0f rfl (by simp only[sB,Za,reduceCtorEq];rfl) (by simp only[if_true,z0b,ld90];rfl) ⟨hy4.pt (Ze _) g41 _,_,rfl,rfl,h4.off g41 _⟩
end Go.Proofs.hq
end

section
namespace Go.Proofs.hq
open Go Go.RowKit Go.Hb
variable {ok:Ok}
set_option maxRecDepth 10000
attribute [local irreducible] LX LG EL STG SOP SGO SGD SAL SRD SEF SEG SLK SCK ES
theorem z45 {H:Heap}{n:Int}:BadR H (.code n) [.int .i64 n,.bool false,.int .i64 0,.string Zg,.string Zg,.int .u64 0,.int .i64 0,.slice none 0 0]:=rfl
set_option maxHeartbeats 16000000 in
theorem zm6 {H:Heap}{B:Nat→Prop}{r f l:Nat}{φ:FSt}{n to:Int}(h:RfB H B r f l φ) (hI:RIn φ) (hw:H.wf) (hn:i64 n) :
  EvF Tryz.prog okT 38 [ptrV r,.int .i64 n,.int .i64 to] H fun v H'=>Hy B H H'∧∃bs,v=.agg ⟨bs⟩∧BadR H' (φ.advR n to).1 bs∧RfB H' B r f l (φ.advR n to).2:=by
 refine EvF.enter rfl Tryz.func38 (by decide) rfl ?_;have hno:=hI.no;have hnf:=hI.nf;(repeat refine EvC.seq ?_);refine EvC.reg ?_;simp (config := { maxSteps := 2000000 }) (disch:=first|omega|rfl) only[sA,initTm,dAlloc,Zb,zr90];obtain⟨H1,e1,hx1,g1,n1,w1⟩:=new1 hw (.row bad8 90);simp only[e1];clear e1;have h1:=h.keep hx1 hw
 repeat' (first|refine EvC.seq ?_|(refine EvC.reg ?_;simp (config := { maxSteps := 2000000 }) (disch:=first|omega|rfl) only[sB,Za,reduceCtorEq,cl77]))
 refine(z72 (bin:=false) h1 w1 hn (by omega)).mono ?_;rintro v H2 ⟨hx2,bs,hor⟩;have w2:=hx2.wf;have g2:=hx2.get w1 g1;have h2:=h1.keep hx2 w1;rcases hor with ⟨i,hi,hr,rfl,rfl⟩|⟨t,hr,rfl,a,c,rfl,hk⟩
 ·obtain⟨hil,hgt,hkey⟩:=z2w hi;obtain⟨H3,e3,hx3,g3,n3,w3⟩:=z18 w2 (.row bad8 90) (.row bad8 90);have l3:H3.load ⟨H2.next,0,none⟩ 8=some bad8:=by simp only[Heap.load,Heap.cells,g3];rfl
  have hbw:(false || ((0:Int) != 0))=false:=rfl
  repeat' (first|refine EvC.seq ?_|(refine EvC.reg ?_;simp (config := { maxSteps := 2000000 }) (disch:=first|omega|rfl) only[sB,Za,reduceCtorEq,ld90,cl75,l3])|(refine z08 ?_;simp (config := { maxSteps := 2000000 }) (disch:=first|omega|rfl) only[sB,dAlloc,Za,Zb,one,reduceCtorEq,zr90,st90,e3]))
  refine(z0m w3).mono ?_;rintro v H4 ⟨hx4,rfl⟩;have w4:=hx4.wf;have hx24:=hx3.trans hx4;have h4:=h2.keep hx24 w2;have lt:=z3c h4.ls (Zd hil);have q4:=row8 h4.obj;obtain⟨s,hsE⟩:∃s,s=(φ.opens[i]).2:=⟨_,rfl⟩
  rw[←hsE] at hgt lt;have hm:=ZE hil;have hD:=hI.dat _ hm;have hF:=hI.fl _ hm;have hds:=hI.sz s;have hid:s.id=n:=by have h3:=h.ids _ hm;rw[←hsE] at h3;rw[h3];exact hkey
  rw[←hsE] at hD hF;have hR:φ.advR n to=if to < s.pos∨((φ.data s).size:Int) < to then (.code 1,φ) else (.none,φ.setS n { s with pos:=to,en:=if s.pos=(φ.data s).size then 2 else s.en }):=by unfold FSt.advR;rw[hr,hgt]
  obtain⟨H5,e5,hx5,g5,n5,w5⟩:=z18 w4 (.row zero10 61) (.row s.row10 61);have t5:=row10 g5
  repeat' (first|refine EvC.seq ?_|(refine EvC.skip ?_;try simp only[z00,hbw])|(refine EvC.reg ?_;simp (config := { maxSteps := 2000000 }) (disch:=first|omega|rfl) only[sB,dAlloc,Za,Zb,one,reduceCtorEq,z0k,ld37,ia37,z0p,ld61,zr61,st61,cl78,q4,z01,z04,lt,e5,t5])|(refine EvC.condF ?_ ?_;simp (config := { maxSteps := 2000000 }) (disch:=first|omega|rfl) only[sB,Za,reduceCtorEq,hbw];refine z02 ?_))
  refine(z52 (h4.keep hx5 w4) w5 (by omega) hF).mono ?_;rintro v H6 ⟨hx6,rfl⟩;rw[hD];have hx26:=(hx24.trans hx5).trans hx6;have hx06:=hx1.trans (hx2.trans hx26);have w6:=hx6.wf;have h6:=h2.keep hx26 w2;have q6:=row8 h6.obj;have t6:=row10 (hx6.get w5 g5);have g61:=hx26.get w2 g2;have gl6:=h6.ls;obtain⟨d,hd⟩:∃d,d=φ.data s:=⟨_,rfl⟩
  rw[←hd] at hR hds ⊢;by_cases c1:to < s.pos
  ·rw[if_pos (.inl c1)] at hR;rw[hR]
   repeat' (first|refine EvC.seq ?_|(refine EvC.ret ?_;try simp only[z05,z03])|(refine EvC.reg ?_;simp (config := { maxSteps := 2000000 }) (disch:=first|omega|rfl) only[sB,Za,Zb,Value.cells,one,reduceCtorEq,Zh,layC,st90,z1c,ld3,bd90,t6,decide_eq_true c1,g61])|(refine EvC.condT ?_ ?_;simp (config := { maxSteps := 2000000 }) (disch:=first|omega|rfl) only[sB,Za,reduceCtorEq];refine z02 ?_))
   exact z0f rfl (by simp only[sB,Za,reduceCtorEq];rfl) (by simp only[if_true,z0b,ld90];rfl) ⟨Hy.of (hx06.pt (Ze _) g61 _),_,rfl,z45,h6.off g61 _⟩
  by_cases c2:(d.size:Int) < to
  ·rw[if_pos (.inr c2)] at hR;rw[hR]
   repeat' (first|refine EvC.seq ?_|(refine EvC.ret ?_;try simp only[z05,z03])|(refine EvC.reg ?_;simp (config := { maxSteps := 2000000 }) (disch:=first|omega|rfl) only[sB,Za,Zb,Value.cells,one,reduceCtorEq,Zh,layC,st90,z1c,ld3,ln9,bd90,t6,decide_eq_false c1,decide_eq_true c2,gt_iff_lt,g61])|(refine EvC.condT ?_ ?_;simp (config := { maxSteps := 2000000 }) (disch:=first|omega|rfl) only[sB,Za,reduceCtorEq];refine z02 ?_))
   exact z0f rfl (by simp only[sB,Za,reduceCtorEq];rfl) (by simp only[if_true,z0b,ld90];rfl) ⟨Hy.of (hx06.pt (Ze _) g61 _),_,rfl,z45,h6.off g61 _⟩
  rw[if_neg (fun q=>q.elim c1 c2)] at hR;rw[hR];by_cases c3:s.pos=(d.size:Int)
  ·rw[if_pos c3];obtain⟨sp,sl⟩:=RfB.end (x:=2) hI.nd hi hgt;have h7:=h6.turn (s':={ s with en:=2 }) hI.nd hi hid;obtain⟨H7,e7⟩:∃H7,H6.put l (some (.row (rowO (φ.setS n { s with en:=2 }).opens) 84))=H7:=⟨_,rfl⟩
   rw[e7] at h7;have hy7:Hy B H H7:=by rw[←e7];exact(Hy.of hx06).trans (Hy.put w6 h.bl gl6 _)
   have g71:H7.get H.next=some (.row bad8 90):=by rw[←e7,get_put,if_neg (z0s g61 gl6 rfl).symm];exact g61
   have go7:=h7.obj;rw[zgj] at go7;have q7:=row8 go7;have gl7:=h7.ls;have hnd7:((φ.setS n { s with en:=2 }).opens.map (·.1)).Nodup:=by rw[z3v];exact hI.nd
   have hi7:((φ.setS n { s with en:=2 }).opens.findIdx? fun o=>o.1 == n)=some i:=by rw[zgi];exact hi
   have hg7:(φ.setS n { s with en:=2 }).get n=some { s with en:=2 }:=by rw[z7t,if_pos rfl,hgt];rfl
   obtain⟨sp7,sl7⟩:=RfB.pos (x:=to) hnd7 hi7 hg7;have h8:=h7.turn (s':={ s with pos:=to,en:=2 }) hnd7 hi7 hid;obtain⟨H8,e8⟩:∃H8,H7.put l (some (.row (rowO ((φ.setS n { s with en:=2 }).setS n { s with pos:=to,en:=2 }).opens) 84))=H8:=⟨_,rfl⟩
   rw[e8,z6k] at h8;have hy8:Hy B H H8:=by rw[←e8];exact hy7.trans (Hy.put hy7.1 h.bl gl7 _)
   have g81:H8.get H.next=some (.row bad8 90):=by rw[←e8,get_put,if_neg (z0s g71 gl7 rfl).symm];exact g71
   repeat' (first|refine EvC.seq ?_|(refine EvC.skip ?_;try simp only[z00])|(refine EvC.ret ?_)|(refine EvC.reg ?_;simp (config := { maxSteps := 2000000 }) (disch:=first|omega|rfl) only[sB,Za,Zb,Value.cells,one,reduceCtorEq,layC,st90,z0k,ld37,ia37,z0p,z1c,ld3,ln9,bd90,z1w,st3,t6,decide_eq_false c1,decide_eq_false c2,gt_iff_lt,z19 c3,q6,z01,z04,gl6,sp,sl,e7,q7,gl7,sp7,sl7,e8,g81,Zc])|(refine EvC.condT ?_ ?_;simp (config := { maxSteps := 2000000 }) (disch:=first|omega|rfl) only[sB,Za,reduceCtorEq];refine z02 ?_)|(refine EvC.condF ?_ ?_;simp (config := { maxSteps := 2000000 }) (disch:=first|omega|rfl) only[sB,Za,reduceCtorEq];refine z02 ?_))
   exact z0f rfl (by simp only[sB,Za,reduceCtorEq];rfl) (by simp only[if_true,z0b,ld90];rfl) ⟨hy8.pt (Ze _) g81 _,_,rfl,rfl,h8.off g81 _⟩
  ·rw[if_neg c3];obtain⟨sp,sl⟩:=RfB.pos (x:=to) hI.nd hi hgt;have h7:=h6.turn (s':={ s with pos:=to }) hI.nd hi hid;obtain⟨H7,e7⟩:∃H7,H6.put l (some (.row (rowO (φ.setS n { s with pos:=to }).opens) 84))=H7:=⟨_,rfl⟩
   rw[e7] at h7;have hy7:Hy B H H7:=by rw[←e7];exact(Hy.of hx06).trans (Hy.put w6 h.bl gl6 _)
   have g71:H7.get H.next=some (.row bad8 90):=by rw[←e7,get_put,if_neg (z0s g61 gl6 rfl).symm];exact g61
   repeat' (first|refine EvC.seq ?_|(refine EvC.skip ?_;try simp only[z00])|(refine EvC.ret ?_)|(refine EvC.reg ?_;simp (config := { maxSteps := 2000000 }) (disch:=first|omega|rfl) only[sB,Za,Zb,Value.cells,one,reduceCtorEq,layC,st90,z0k,ld37,ia37,z0p,z1c,ld3,ln9,bd90,st3,t6,decide_eq_false c1,decide_eq_false c2,gt_iff_lt,z0r c3,q6,z01,z04,gl6,sp,sl,e7,g71,Zc])|(refine EvC.condF ?_ ?_;simp (config := { maxSteps := 2000000 }) (disch:=first|omega|rfl) only[sB,Za,reduceCtorEq];refine z02 ?_))
   exact z0f rfl (by simp only[sB,Za,reduceCtorEq];rfl) (by simp only[if_true,z0b,ld90];rfl) ⟨hy7.pt (Ze _) g71 _,_,rfl,rfl,h7.off g71 _⟩
 ·obtain⟨H3,e3,hx3,g3,n3,w3⟩:=z18 w2 (.row bad8 90) (.row (.int .i64 0 :: .bool true :: six t a c) 90);have l3:H3.load ⟨H2.next,0,none⟩ 8=some (.int .i64 0 :: .bool true :: six t a c):=by simp only[Heap.load,Heap.cells,g3];rfl
  repeat' (first|refine EvC.seq ?_|(refine EvC.reg ?_;simp (config := { maxSteps := 2000000 }) (disch:=first|omega|rfl) only[sB,Za,reduceCtorEq,ld90,cl75,l3])|(refine z08 ?_;simp (config := { maxSteps := 2000000 }) (disch:=first|omega|rfl) only[sB,dAlloc,Za,Zb,one,reduceCtorEq,zr90,st90,e3]))
  refine(z0m w3).mono ?_;rintro v H4 ⟨hx4,rfl⟩;have w4:=hx4.wf;have g34:=hx4.get w3 g3;have l4:H4.load ⟨H2.next,0,none⟩ 8=some (.int .i64 0 :: .bool true :: six t a c):=by simp only[Heap.load,Heap.cells,g34];rfl
  have hb:=(hx2.trans hx3).trans hx4;have gb:=hb.get w1 g1;have hR:φ.advR n to=(.ball t,φ):=by unfold FSt.advR;rw[hr]
  rw[hR]
  repeat' (first|refine EvC.seq ?_|(refine EvC.ret ?_;try simp only[z05,z03])|(refine EvC.reg ?_;simp (config := { maxSteps := 2000000 }) (disch:=first|omega|rfl) only[sB,Za,Zb,one,reduceCtorEq,st90,ld90,l4,gb,Bool.true_or])|(refine EvC.condT ?_ ?_;simp (config := { maxSteps := 2000000 }) (disch:=first|omega|rfl) only[sB,Za,reduceCtorEq,Bool.true_or];refine z02 ?_))
  exact z0f rfl (by simp only[sB,Za,reduceCtorEq];rfl) (by simp only[if_true,z0b,ld90];rfl) ⟨Hy.of ((hx1.trans hb).pt (Ze _) gb _),_,rfl,⟨a,c,rfl,(hk.keep (hx3.trans hx4) w2).put gb rfl _⟩,(h1.keep hb w1).off gb _⟩
def Own3 (r f l:Nat):Nat→Prop:=fun i=>i=r∨i=f∨i=l
theorem RfB.own {H:Heap}{B:Nat→Prop}{r f l:Nat}{φ:FSt}(h:RfB H B r f l φ):RfB H (Own3 r f l) r f l φ:=⟨h.obj,h.fs,h.ls,h.ids,.inl rfl,.inr (.inl rfl),.inr (.inr rfl)⟩
theorem RfB.weak {H H':Heap}{B:Nat→Prop}{r f l r' f' l':Nat}{φ ψ:FSt}(h:RfB H B r f l φ) (k:RfB H' (Own3 r f l) r' f' l' ψ):RfB H' B r' f' l' ψ:=by
 have hB:∀i,Own3 r f l i→B i:=fun i q=>by
  rcases q with rfl|rfl|rfl
  ·exact h.br
  ·exact h.bf
  ·exact h.bl
 exact⟨k.obj,k.fs,k.ls,k.ids,hB _ k.br,hB _ k.bf,hB _ k.bl⟩
theorem RfB.hy {H H1 H':Heap}{B:Nat→Prop}{r f l:Nat}{φ:FSt}(h:RfB H B r f l φ) (k:Hy (Own3 r f l) H1 H'):Hy B H1 H' :=
 ⟨k.1,k.2.1,fun i hi hb=>k.2.2 i hi fun q=>hb (by
  rcases q with rfl|rfl|rfl
  ·exact h.br
  ·exact h.bf
  ·exact h.bl)⟩
theorem RfB.stay {H H':Heap}{B:Nat→Prop}{r f l i:Nat}{φ:FSt}{ds:List Value}(h:RfB H B r f l φ) (hw:H.wf) (k:Hy (Own3 r f l) H H') (g:H.get i=some (.row ds 90)):H'.get i=some (.row ds 90) :=
 k.get hw g fun q=>by
  rcases q with rfl|rfl|rfl
  ·exact z0s g h.obj rfl rfl
  ·exact z0s g h.fs rfl rfl
  ·exact z0s g h.ls rfl rfl
set_option maxHeartbeats 16000000 in
theorem zkb {H:Heap}{B:Nat→Prop}{r f l:Nat}{φ:FSt}{n:Int}{t:ByteArray}(h:RfB H B r f l φ) (hI:RIn φ) (hw:H.wf) (hn:i64 n) (ht:t.size≤4611686018427387904) :
  EvF Tryz.prog okT 39 [ptrV r,.int .i64 n,.string t] H fun v H'=>Hy B H H'∧∃bs,v=.agg ⟨bs⟩∧BadR H' (BadV.of (φ.putR n t).1) bs∧RfB H' B r f l (φ.putR n t).2:=by
 refine EvF.enter rfl Tryz.func39 (by decide) rfl ?_;have hno:=hI.no;(repeat refine EvC.seq ?_);refine EvC.reg ?_;simp (config := { maxSteps := 2000000 }) (disch:=first|omega|rfl) only[sA,initTm,dAlloc,Zb,zr90];obtain⟨H1,e1,hx1,g1,n1,w1⟩:=new1 hw (.row bad8 90);simp only[e1];clear e1;have h1:=h.keep hx1 hw
 repeat' (first|refine EvC.seq ?_|(refine EvC.reg ?_;simp (config := { maxSteps := 2000000 }) (disch:=first|omega|rfl) only[sB,Za,reduceCtorEq,cl81]))
 refine(z9d (bin:=false) h1 w1 hn (by omega)).mono ?_;rintro v H2 ⟨hx2,bs,hor⟩;have w2:=hx2.wf;have g2:=hx2.get w1 g1;have h2:=h1.keep hx2 w1;rcases hor with ⟨i,hi,hr,rfl,rfl⟩|⟨e,hr,rfl,a,c,rfl,hk⟩
 ·obtain⟨hil,hgt,hkey⟩:=z2w hi;obtain⟨H3,e3,hx3,g3,n3,w3⟩:=z18 w2 (.row bad8 90) (.row bad8 90);have l3:H3.load ⟨H2.next,0,none⟩ 8=some bad8:=by simp only[Heap.load,Heap.cells,g3];rfl
  have hbw:(false || ((0:Int) != 0))=false:=rfl
  repeat' (first|refine EvC.seq ?_|(refine EvC.reg ?_;simp (config := { maxSteps := 2000000 }) (disch:=first|omega|rfl) only[sB,Za,reduceCtorEq,ld90,cl75,l3])|(refine z08 ?_;simp (config := { maxSteps := 2000000 }) (disch:=first|omega|rfl) only[sB,dAlloc,Za,Zb,one,reduceCtorEq,zr90,st90,e3]))
  refine(z0m w3).mono ?_;rintro v H4 ⟨hx4,rfl⟩;have w4:=hx4.wf;have hx24:=hx3.trans hx4;have h4:=h2.keep hx24 w2;have hx04:=hx1.trans (hx2.trans hx24);have g41:=hx24.get w2 g2
  repeat' (first|refine EvC.seq ?_|(refine EvC.skip ?_;try simp only[z00,hbw])|(refine EvC.reg ?_;simp (config := { maxSteps := 2000000 }) (disch:=first|omega|rfl) only[sB,Za,reduceCtorEq,ln9,cl82])|(refine EvC.condF ?_ ?_;simp (config := { maxSteps := 2000000 }) (disch:=first|omega|rfl) only[sB,Za,reduceCtorEq,hbw];refine z02 ?_))
  refine(zpu (s:=t) (by omega)).mono ?_;rintro v H5 ⟨z,rfl,hq,hz1,hz2⟩;have hq':=hq.symm;subst hq';have hR:φ.putR n t=if validB t=true then φ.addR (φ.opens[i]).2 t else (some reprT,φ):=by unfold FSt.putR;rw[hr,hgt]
  cases hv:validB t with
  |false =>
   rw[hv,if_neg (by simp)] at hR;rw[hR];have d1:decide (z ≥ 0)=true:=decide_eq_true (hz2 hv)
   repeat' (first|refine EvC.seq ?_|(refine EvC.reg ?_;simp (config := { maxSteps := 2000000 }) (disch:=first|omega|rfl) only[sB,Za,Zb,Value.cells,reduceCtorEq,layC,cl72,z2y])|(refine z08 ?_;simp (config := { maxSteps := 2000000 }) (disch:=first|omega|rfl) only[sA,d1])|(refine EvC.condT ?_ ?_;simp (config := { maxSteps := 2000000 }) (disch:=first|omega|rfl) only[sB,Za,reduceCtorEq];refine z02 ?_))
   refine(z2h (s:=charS) w4).mono ?_;rintro v H7 ⟨rfl,hx7⟩;obtain⟨H8,e8,hx8,g8,n8,w8⟩:=new1 hx7.wf (.row (six (atomT charS) none 0) 88)
   repeat' (first|(refine z08 ?_;simp (config := { maxSteps := 2000000 }) (disch:=first|omega|rfl) only[sB,Za,Zb,one,reduceCtorEq,cl73,e8]))
   refine(z1r (m:=1) (s:=reprS) w8 g8 rfl (by omega) (by omega) rfl).mono ?_;rintro v H9 ⟨hx9,b9,rfl,g9⟩;have hx49:=(hx7.trans hx8).trans hx9;have g91:=hx49.get w4 g41;have hb:BadR H9 (.ball reprT) _:=z73 (s:=reprS) (u:=charS) (by simp [reprS,maxLen,Zf]) (by simp [charS,maxLen,Zf]) g9
   repeat' (first|(refine EvC.ret ?_;try simp only[z05,z03])|(refine z08 ?_;simp (config := { maxSteps := 2000000 }) (disch:=first|omega|rfl) only[sB,Zb,one,st90,g91]))
   exact z0f rfl (by simp only[sB,Za,reduceCtorEq];rfl) (by simp only[if_true,z0b,ld90];rfl) ⟨Hy.of ((hx04.trans hx49).pt (Ze _) g91 _),_,rfl,hb.put g91 rfl _,(h4.keep hx49 w4).off g91 _⟩
  |true =>
   rw[hv,if_pos rfl] at hR;rw[hR];have d1:decide (z ≥ 0)=false:=decide_eq_false (by rw[hz1 hv];decide);have hm:=zka hr hgt;obtain⟨cw1,cw2⟩:=hI.cw _ (ZE hil) hm
   repeat' (first|refine EvC.seq ?_|(refine EvC.skip ?_;try simp only[z00])|(refine EvC.reg ?_;simp (config := { maxSteps := 2000000 }) (disch:=first|omega|rfl) only[sB,Za,reduceCtorEq,cl83])|(refine z08 ?_;simp (config := { maxSteps := 2000000 }) (disch:=first|omega|rfl) only[sA,d1])|(refine EvC.condF ?_ ?_;simp (config := { maxSteps := 2000000 }) (disch:=first|omega|rfl) only[sB,Za,reduceCtorEq];refine z02 ?_))
   refine(zgl h4.own hI w4 hi hgt cw1 cw2 hI.w0 hI.w1 ht hI.fz hI.ou).mono ?_;rintro v H6 ⟨hy6,bs,rfl,hb,h6⟩;have g61:=h4.stay w4 hy6 g41;obtain⟨b1,b2,b3,b4,b5,b6,b7,a,n',c,rfl⟩:=hb.eight
   repeat' (first|(refine EvC.ret ?_)|(refine z08 ?_;simp (config := { maxSteps := 2000000 }) (disch:=first|omega|rfl) only[sB,Zb,one,st90,g61]))
   exact z0f rfl (by simp only[sB,Za,reduceCtorEq];rfl) (by simp only[if_true,z0b,ld90];rfl) ⟨((Hy.of hx04).trans (h4.hy hy6)).pt (Ze _) g61 _,_,rfl,hb.put g61 rfl _,(h4.weak h6).off g61 _⟩
 ·obtain⟨H3,e3,hx3,g3,n3,w3⟩:=z18 w2 (.row bad8 90) (.row (.int .i64 0 :: .bool true :: six e a c) 90);have l3:H3.load ⟨H2.next,0,none⟩ 8=some (.int .i64 0 :: .bool true :: six e a c):=by simp only[Heap.load,Heap.cells,g3];rfl
  repeat' (first|refine EvC.seq ?_|(refine EvC.reg ?_;simp (config := { maxSteps := 2000000 }) (disch:=first|omega|rfl) only[sB,Za,reduceCtorEq,ld90,cl75,l3])|(refine z08 ?_;simp (config := { maxSteps := 2000000 }) (disch:=first|omega|rfl) only[sB,dAlloc,Za,Zb,one,reduceCtorEq,zr90,st90,e3]))
  refine(z0m w3).mono ?_;rintro v H4 ⟨hx4,rfl⟩;have w4:=hx4.wf;have g34:=hx4.get w3 g3;have l4:H4.load ⟨H2.next,0,none⟩ 8=some (.int .i64 0 :: .bool true :: six e a c):=by simp only[Heap.load,Heap.cells,g34];rfl
  have hb:=(hx2.trans hx3).trans hx4;have gb:=hb.get w1 g1;have hR:φ.putR n t=(some e,φ):=by unfold FSt.putR;rw[hr]
  rw[hR]
  repeat' (first|refine EvC.seq ?_|(refine EvC.ret ?_;try simp only[z05,z03])|(refine EvC.reg ?_;simp (config := { maxSteps := 2000000 }) (disch:=first|omega|rfl) only[sB,Za,Zb,one,reduceCtorEq,st90,ld90,l4,gb,Bool.true_or])|(refine EvC.condT ?_ ?_;simp (config := { maxSteps := 2000000 }) (disch:=first|omega|rfl) only[sB,Za,reduceCtorEq,Bool.true_or];refine z02 ?_))
  exact z0f rfl (by simp only[sB,Za,reduceCtorEq];rfl) (by simp only[if_true,z0b,ld90];rfl) ⟨Hy.of ((hx1.trans hb).pt (Ze _) gb _),_,rfl,⟨a,c,rfl,(hk.keep (hx3.trans hx4) w2).put gb rfl _⟩,(h1.keep hb w1).off gb _⟩
set_option maxHeartbeats 16000000 in
theorem zkc {H:Heap}{B:Nat→Prop}{r f l:Nat}{φ:FSt}{n b:Int}(h:RfB H B r f l φ) (hI:RIn φ) (hw:H.wf) (hn:i64 n) :
  EvF Tryz.prog okT 40 [ptrV r,.int .i64 n,.int .i64 b] H fun v H'=>Hy B H H'∧∃bs,v=.agg ⟨bs⟩∧BadR H' (φ.putByteR n b).1 bs∧RfB H' B r f l (φ.putByteR n b).2:=by
 refine EvF.enter rfl Tryz.func40 (by decide) rfl ?_;have hno:=hI.no;(repeat refine EvC.seq ?_);refine EvC.reg ?_;simp (config := { maxSteps := 2000000 }) (disch:=first|omega|rfl) only[sA,initTm,dAlloc,Zb,zr90];obtain⟨H1,e1,hx1,g1,n1,w1⟩:=new1 hw (.row bad8 90);simp only[e1];clear e1;have h1:=h.keep hx1 hw
 repeat' (first|refine EvC.seq ?_|(refine EvC.reg ?_;simp (config := { maxSteps := 2000000 }) (disch:=first|omega|rfl) only[sB,Za,reduceCtorEq,cl81]))
 refine(z9d (bin:=true) h1 w1 hn (by omega)).mono ?_;rintro v H2 ⟨hx2,bs,hor⟩;have w2:=hx2.wf;have g2:=hx2.get w1 g1;have h2:=h1.keep hx2 w1;rcases hor with ⟨i,hi,hr,rfl,rfl⟩|⟨e,hr,rfl,a,c,rfl,hk⟩
 ·obtain⟨hil,hgt,hkey⟩:=z2w hi;obtain⟨H3,e3,hx3,g3,n3,w3⟩:=z18 w2 (.row bad8 90) (.row bad8 90);have l3:H3.load ⟨H2.next,0,none⟩ 8=some bad8:=by simp only[Heap.load,Heap.cells,g3];rfl
  have hbw:(false || ((0:Int) != 0))=false:=rfl
  repeat' (first|refine EvC.seq ?_|(refine EvC.reg ?_;simp (config := { maxSteps := 2000000 }) (disch:=first|omega|rfl) only[sB,Za,reduceCtorEq,ld90,cl75,l3])|(refine z08 ?_;simp (config := { maxSteps := 2000000 }) (disch:=first|omega|rfl) only[sB,dAlloc,Za,Zb,one,reduceCtorEq,zr90,st90,e3]))
  refine(z0m w3).mono ?_;rintro v H4 ⟨hx4,rfl⟩;have w4:=hx4.wf;have hx24:=hx3.trans hx4;have h4:=h2.keep hx24 w2;have hx04:=hx1.trans (hx2.trans hx24);have g41:=hx24.get w2 g2;have hR:φ.putByteR n b=if b < 0∨255 < b then (.code 83,φ) else (BadV.of (φ.addR (φ.opens[i]).2 (byteS b)).1,(φ.addR (φ.opens[i]).2 (byteS b)).2):=by unfold FSt.putByteR;rw[hr,hgt]
  by_cases c1:b < 0
  ·rw[if_pos (.inl c1)] at hR;rw[hR]
   repeat' (first|refine EvC.seq ?_|(refine EvC.skip ?_;try simp only[z00,hbw])|(refine EvC.ret ?_;try simp only[z05,z03])|(refine EvC.reg ?_;simp (config := { maxSteps := 2000000 }) (disch:=first|omega|rfl) only[sB,Za,Zb,Value.cells,one,reduceCtorEq,Zh,layC,st90,bd90,decide_eq_true c1,g41])|(refine EvC.condT ?_ ?_;simp (config := { maxSteps := 2000000 }) (disch:=first|omega|rfl) only[sB,Za,reduceCtorEq,hbw];refine z02 ?_)|(refine EvC.condF ?_ ?_;simp (config := { maxSteps := 2000000 }) (disch:=first|omega|rfl) only[sB,Za,reduceCtorEq,hbw];refine z02 ?_))
   exact z0f rfl (by simp only[sB,Za,reduceCtorEq];rfl) (by simp only[if_true,z0b,ld90];rfl) ⟨Hy.of (hx04.pt (Ze _) g41 _),_,rfl,z45,h4.off g41 _⟩
  by_cases c2:255 < b
  ·rw[if_pos (.inr c2)] at hR;rw[hR]
   repeat' (first|refine EvC.seq ?_|(refine EvC.skip ?_;try simp only[z00,hbw])|(refine EvC.ret ?_;try simp only[z05,z03])|(refine EvC.reg ?_;simp (config := { maxSteps := 2000000 }) (disch:=first|omega|rfl) only[sB,Za,Zb,Value.cells,one,reduceCtorEq,Zh,layC,st90,bd90,decide_eq_false c1,decide_eq_true c2,gt_iff_lt,g41,Zc])|(refine EvC.condT ?_ ?_;simp (config := { maxSteps := 2000000 }) (disch:=first|omega|rfl) only[sB,Za,reduceCtorEq,hbw];refine z02 ?_)|(refine EvC.condF ?_ ?_;simp (config := { maxSteps := 2000000 }) (disch:=first|omega|rfl) only[sB,Za,reduceCtorEq,hbw];refine z02 ?_))
   exact z0f rfl (by simp only[sB,Za,reduceCtorEq];rfl) (by simp only[if_true,z0b,ld90];rfl) ⟨Hy.of (hx04.pt (Ze _) g41 _),_,rfl,z45,h4.off g41 _⟩
  rw[if_neg (fun q=>q.elim c1 c2)] at hR;rw[hR];obtain⟨k,rfl⟩:=Int.eq_ofNat_of_zero_le (by omega:0≤b);obtain⟨H5,e5,hx5,g5,n5,w5⟩:=new1 w4 (.row [.int .u8 (k:Nat)] 5);have hl:H5.load ⟨H4.next,0,none⟩ 1=some (bytesV [k]):=by simp only[Heap.load,Heap.cells,g5];rfl
  obtain⟨t,hdb,ht⟩:=z6w (c:=1) hl (by omega);have hts:t=byteS (k:Int):=by
   cases t with
   |mk d=>cases d with
    |mk l=>simp only at ht;rw[ht];rfl
  rw[hts] at hdb;have hcon:=z6v (P:=Tryz.prog) (src:=116) (dst:=9) (e:=5) (by kernel_rfl) (by kernel_rfl) (by kernel_rfl) hdb;have h5:=h4.keep hx5 w4;have g51:=hx5.get w4 g41;have hm:=zka hr hgt;obtain⟨cw1,cw2⟩:=hI.cw _ (ZE hil) hm
  repeat' (first|refine EvC.seq ?_|(refine EvC.skip ?_;try simp only[z00,hbw])|(refine EvC.reg ?_;simp (config := { maxSteps := 2000000 }) (disch:=first|omega|rfl) only[sB,Za,Value.cells,one,reduceCtorEq,layC,zpf,z8x,cl83,decide_eq_false c1,decide_eq_false c2,gt_iff_lt,ziy,e5,hcon,Zc])|(refine EvC.condF ?_ ?_;simp (config := { maxSteps := 2000000 }) (disch:=first|omega|rfl) only[sB,Za,reduceCtorEq,hbw];refine z02 ?_))
  refine(zgl (t:=byteS (k:Int)) h5.own hI w5 hi hgt cw1 cw2 hI.w0 hI.w1 (by simp [byteS,Zf]) hI.fz hI.ou).mono ?_;rintro v H6 ⟨hy6,bs,rfl,hb,h6⟩;have g61:=h5.stay w5 hy6 g51;obtain⟨b1,b2,b3,b4,b5,b6,b7,a,n',c,rfl⟩:=hb.eight
  repeat' (first|(refine EvC.ret ?_)|(refine z08 ?_;simp (config := { maxSteps := 2000000 }) (disch:=first|omega|rfl) only[sB,Zb,one,st90,g61]))
  exact z0f rfl (by simp only[sB,Za,reduceCtorEq];rfl) (by simp only[if_true,z0b,ld90];rfl) ⟨((Hy.of (hx04.trans hx5)).trans (h5.hy hy6)).pt (Ze _) g61 _,_,rfl,hb.put g61 rfl _,(h5.weak h6).off g61 _⟩
 ·obtain⟨H3,e3,hx3,g3,n3,w3⟩:=z18 w2 (.row bad8 90) (.row (.int .i64 0 :: .bool true :: six e a c) 90);have l3:H3.load ⟨H2.next,0,none⟩ 8=some (.int .i64 0 :: .bool true :: six e a c):=by simp only[Heap.load,Heap.cells,g3];rfl
  repeat' (first|refine EvC.seq ?_|(refine EvC.reg ?_;simp (config := { maxSteps := 2000000 }) (disch:=first|omega|rfl) only[sB,Za,reduceCtorEq,ld90,cl75,l3])|(refine z08 ?_;simp (config := { maxSteps := 2000000 }) (disch:=first|omega|rfl) only[sB,dAlloc,Za,Zb,one,reduceCtorEq,zr90,st90,e3]))
  refine(z0m w3).mono ?_;rintro v H4 ⟨hx4,rfl⟩;have w4:=hx4.wf;have g34:=hx4.get w3 g3;have l4:H4.load ⟨H2.next,0,none⟩ 8=some (.int .i64 0 :: .bool true :: six e a c):=by simp only[Heap.load,Heap.cells,g34];rfl
  have hb:=(hx2.trans hx3).trans hx4;have gb:=hb.get w1 g1;have hR:φ.putByteR n b=(.ball e,φ):=by unfold FSt.putByteR;rw[hr]
  rw[hR]
  repeat' (first|refine EvC.seq ?_|(refine EvC.ret ?_;try simp only[z05,z03])|(refine EvC.reg ?_;simp (config := { maxSteps := 2000000 }) (disch:=first|omega|rfl) only[sB,Za,Zb,one,reduceCtorEq,st90,ld90,l4,gb,Bool.true_or])|(refine EvC.condT ?_ ?_;simp (config := { maxSteps := 2000000 }) (disch:=first|omega|rfl) only[sB,Za,reduceCtorEq,Bool.true_or];refine z02 ?_))
  exact z0f rfl (by simp only[sB,Za,reduceCtorEq];rfl) (by simp only[if_true,z0b,ld90];rfl) ⟨Hy.of ((hx1.trans hb).pt (Ze _) gb _),_,rfl,⟨a,c,rfl,(hk.keep (hx3.trans hx4) w2).put gb rfl _⟩,(h1.keep hb w1).off gb _⟩
theorem FsB.same {H H':Heap}{B:Nat→Prop}{p fb ob:Nat}{blk:Int→Nat}{φ:FSt}(h:FsB H B p fb ob blk φ) (hk:∀i,B i→H'.get i=H.get i):FsB H' B p fb ob blk φ :=
 ⟨(hk p h.lp).trans h.obj,h.fm.heap (hk fb h.lf),h.om.heap (hk ob h.lo),h.bo.heap (hk ob h.lo),fun o ho=>(hk _ (h.lb o ho)).trans (h.st o ho),h.nd,h.inj,h.lp,h.lf,h.lo,h.lb,h.fo,h.bf.heap (hk fb h.lf),h.fd⟩
theorem FsB.weak {H:Heap}{B B':Nat→Prop}{p fb ob:Nat}{blk:Int→Nat}{φ:FSt}(h:FsB H B p fb ob blk φ) (hB:∀i,B i→B' i):FsB H B' p fb ob blk φ :=
 ⟨h.obj,h.fm,h.om,h.bo,h.st,h.nd,h.inj,hB _ h.lp,hB _ h.lf,hB _ h.lo,fun o ho=>hB _ (h.lb o ho),h.fo,h.bf,h.fd⟩
theorem RfB.same {H H':Heap}{B:Nat→Prop}{r f l:Nat}{φ:FSt}(h:RfB H B r f l φ) (hk:∀i,B i→H'.get i=H.get i):RfB H' B r f l φ :=
 ⟨(hk r h.br).trans h.obj,(hk f h.bf).trans h.fs,(hk l h.bl).trans h.ls,h.ids,h.br,h.bf,h.bl⟩
theorem RfB.wide {H:Heap}{B B':Nat→Prop}{r f l:Nat}{φ:FSt}(h:RfB H B r f l φ) (hB:∀i,B i→B' i):RfB H B' r f l φ:=⟨h.obj,h.fs,h.ls,h.ids,hB _ h.br,hB _ h.bf,hB _ h.bl⟩
def FootV (n p fb ob:Nat) (blk:Int→Nat) (φ:FSt):Nat→Prop:=fun i=>i=p∨i=fb∨i=ob∨(∃o∈φ.opens,i=blk o.1)∨n≤i
def FootR (n r f l:Nat):Nat→Prop:=fun i=>i=r∨i=f∨i=l∨n≤i
theorem FsB.foot {H:Heap}{B:Nat→Prop}{p fb ob:Nat}{blk:Int→Nat}{φ:FSt}(h:FsB H B p fb ob blk φ) (n:Nat):FsB H (FootV n p fb ob blk φ) p fb ob blk φ :=
 ⟨h.obj,h.fm,h.om,h.bo,h.st,h.nd,h.inj,.inl rfl,.inr (.inl rfl),.inr (.inr (.inl rfl)),fun o ho=>.inr (.inr (.inr (.inl ⟨o,ho,rfl⟩))),h.fo,h.bf,h.fd⟩
theorem RfB.foot {H:Heap}{B:Nat→Prop}{r f l:Nat}{φ:FSt}(h:RfB H B r f l φ) (n:Nat):RfB H (FootR n r f l) r f l φ:=⟨h.obj,h.fs,h.ls,h.ids,.inl rfl,.inr (.inl rfl),.inr (.inr (.inl rfl))⟩
theorem z2l {H:Heap}{i:Nat}{cs ds:List Value}{T T':TypeId}(h:H.get i=some (.row cs T)) (g:H.get i=some (.row ds T')):T=T':=by
 rw[h] at g;have h1:=Option.some.inj g;injection h1
theorem FsB.keepRow {H H':Heap}{B:Nat→Prop}{p fb ob i:Nat}{blk:Int→Nat}{φ:FSt}{cs:List Value}{T:TypeId}(h:FsB H B p fb ob blk φ) (hw:H.wf) (hy:Hy (FootV H.next p fb ob blk φ) H H') (g:H.get i=some (.row cs T)) (h1:Zk T 77=false) (h2:Zk T 82=false):H'.get i=some (.row cs T) :=
 hy.get hw g fun q=>by
  have hlt:=hw _ _ g;rcases q with rfl|rfl|rfl|⟨o,ho,rfl⟩|q
  ·have:=z2l g h.obj;rw[this,Zy] at h1;cases h1
  ·obtain⟨_,_,hm,-⟩:=h.fm;rw[hm] at g;cases g
  ·obtain⟨_,_,hm,-⟩:=h.om;rw[hm] at g;cases g
  ·have:=z2l g (h.st o ho);rw[this,Zy] at h2;cases h2
  ·omega
theorem RfB.keepRow {H H':Heap}{B:Nat→Prop}{r f l i:Nat}{φ:FSt}{cs:List Value}{T:TypeId}(h:RfB H B r f l φ) (hw:H.wf) (hy:Hy (FootR H.next r f l) H H') (g:H.get i=some (.row cs T)) (h1:Zk T 39=false) (h2:Zk T 73=false) (h3:Zk T 84=false):H'.get i=some (.row cs T) :=
 hy.get hw g fun q=>by
  have hlt:=hw _ _ g;rcases q with rfl|rfl|rfl|q
  ·have:=z2l g h.obj;rw[this,Zy] at h1;cases h1
  ·have:=z2l g h.fs;rw[this,Zy] at h2;cases h2
  ·have:=z2l g h.ls;rw[this,Zy] at h3;cases h3
  ·omega
structure Two (A H:Heap) (p r:Nat) (φ ψ:FSt):Prop where
 hx:HX A H
 v:∃fb ob blk,FsB H (fun i=>A.next≤i) p fb ob blk φ
 r:∃f l,RfB H (fun i=>A.next≤i) r f l ψ
theorem Two.keep {A H H':Heap}{p r:Nat}{φ ψ:FSt}(h:Two A H p r φ ψ) (hx:HX H H'):Two A H' p r φ ψ:=by
 have hw:=h.hx.wf;obtain⟨fb,ob,blk,hv⟩:=h.v;obtain⟨f,l,hr⟩:=h.r;exact⟨h.hx.trans hx,⟨fb,ob,blk,hv.keep hx hw⟩,⟨f,l,hr.keep hx hw⟩⟩
theorem Two.put {A H:Heap}{p r i:Nat}{φ ψ:FSt}{cs:List Value}{T:TypeId}(h:Two A H p r φ ψ) (hi:A.next≤i) (g:H.get i=some (.row cs T)) (h1:Zk T 77=false) (h2:Zk T 82=false) (h3:Zk T 39=false) (h4:Zk T 73=false) (h5:Zk T 84=false) (X:Option Blk):Two A (H.put i X) p r φ ψ:=by
 have hw:=h.hx.wf;obtain⟨fb,ob,blk,hv⟩:=h.v;obtain⟨f,l,hr⟩:=h.r;refine⟨h.hx.pt hi g X,⟨fb,ob,blk,(hv.foot H.next).same (fun j hj=>?_) |>.weak fun j hj=>?_⟩,⟨f,l,(hr.foot H.next).same (fun j hj=>?_) |>.wide fun j hj=>?_⟩⟩
 ·rw[get_put,if_neg];rintro rfl;have hlt:=hw _ _ g;rcases hj with rfl|rfl|rfl|⟨o,ho,rfl⟩|q
  ·have:=z2l g hv.obj;rw[this,Zy] at h1;cases h1
  ·obtain⟨_,_,hm,-⟩:=hv.fm;rw[hm] at g;cases g
  ·obtain⟨_,_,hm,-⟩:=hv.om;rw[hm] at g;cases g
  ·have:=z2l g (hv.st o ho);rw[this,Zy] at h2;cases h2
  ·omega
 ·rcases hj with rfl|rfl|rfl|⟨o,ho,rfl⟩|q
  ·exact hv.lp
  ·exact hv.lf
  ·exact hv.lo
  ·exact hv.lb o ho
  ·exact ZA h.hx.next q
 ·rw[get_put,if_neg];rintro rfl;have hlt:=hw _ _ g;rcases hj with rfl|rfl|rfl|q
  ·have:=z2l g hr.obj;rw[this,Zy] at h3;cases h3
  ·have:=z2l g hr.fs;rw[this,Zy] at h4;cases h4
  ·have:=z2l g hr.ls;rw[this,Zy] at h5;cases h5
  ·omega
 ·rcases hj with rfl|rfl|rfl|q
  ·exact hr.br
  ·exact hr.bf
  ·exact hr.bl
  ·exact ZA h.hx.next q
theorem Two.vcall {A H H':Heap}{p r fb ob:Nat}{blk blk':Int→Nat}{φ φ' ψ:FSt}(h:Two A H p r φ ψ) (hv:FsB H (fun i=>A.next≤i) p fb ob blk φ) (hy:Hy (FootV H.next p fb ob blk φ) H H') (hv':FsB H' (FootV H.next p fb ob blk φ) p fb ob blk' φ'):Two A H' p r φ' ψ:=by
 have hw:=h.hx.wf;obtain⟨f,l,hr⟩:=h.r;have hF:∀j,FootV H.next p fb ob blk φ j→A.next≤j:=fun j hj=>by
  rcases hj with rfl|rfl|rfl|⟨o,ho,rfl⟩|q
  ·exact hv.lp
  ·exact hv.lf
  ·exact hv.lo
  ·exact hv.lb o ho
  ·exact ZA h.hx.next q
 refine⟨hy.hx h.hx fun i hi hj=>by have:=hF i hj;omega,⟨fb,ob,blk',hv'.weak hF⟩,f,l,?_⟩;exact⟨hv.keepRow hw hy hr.obj rfl rfl,hv.keepRow hw hy hr.fs rfl rfl,hv.keepRow hw hy hr.ls rfl rfl,hr.ids,hr.br,hr.bf,hr.bl⟩
theorem Two.rcall {A H H':Heap}{p r f l f' l':Nat}{φ ψ ψ':FSt}(h:Two A H p r φ ψ) (hr:RfB H (fun i=>A.next≤i) r f l ψ) (hy:Hy (FootR H.next r f l) H H') (hr':RfB H' (FootR H.next r f l) r f' l' ψ'):Two A H' p r φ ψ':=by
 have hw:=h.hx.wf;obtain⟨fb,ob,blk,hv⟩:=h.v;have hF:∀j,FootR H.next r f l j→A.next≤j:=fun j hj=>by
  rcases hj with rfl|rfl|rfl|q
  ·exact hr.br
  ·exact hr.bf
  ·exact hr.bl
  ·exact ZA h.hx.next q
 have hm:∀{i es c},H.get i=some (.map es c)→H'.get i=H.get i:=fun {i es c} g=>hy.2.2 i (hw _ _ g) fun q=>by
  have hlt:=hw _ _ g;rcases q with rfl|rfl|rfl|q
  ·rw[hr.obj] at g;cases g
  ·rw[hr.fs] at g;cases g
  ·rw[hr.ls] at g;cases g
  ·omega
 refine⟨hy.hx h.hx fun i hi hj=>by have:=hF i hj;omega,⟨fb,ob,blk,?_⟩,f',l',hr'.wide hF⟩;obtain⟨_,_,hm1,-⟩:=id hv.fm;obtain⟨_,_,hm2,-⟩:=id hv.om;exact⟨hr.keepRow hw hy hv.obj rfl rfl rfl,hv.fm.heap (hm hm1),hv.om.heap (hm hm2),hv.bo.heap (hm hm2),fun o ho=>hr.keepRow hw hy (hv.st o ho) rfl rfl rfl,hv.nd,hv.inj,hv.lp,hv.lf,hv.lo,hv.lb,hv.fo,hv.bf.heap (hm hm1),hv.fd⟩
theorem ErrB.rcall {H H':Heap}{B:Nat→Prop}{r f l:Nat}{ψ:FSt}{b:BadV}{e:Value}(h:ErrB H b e) (hr:RfB H B r f l ψ) (hw:H.wf) (hy:Hy (FootR H.next r f l) H H'):ErrB H' b e:=by
 cases b with
 |none=>exact h
 |code n=>exact h
 |ball t =>
  obtain⟨q,cs,he,hg,hk⟩:=h;exact⟨q,cs,he,hr.keepRow hw hy hg rfl rfl rfl,hk.heap fun b cs g=>hr.keepRow hw hy g rfl rfl rfl⟩
theorem ErrB.put {H:Heap}{b:BadV}{e:Value}{i:Nat}{cs:List Value}{T:TypeId}(h:ErrB H b e) (g:H.get i=some (.row cs T)) (h1:Zk T 140=false) (h2:Zk T 88=false) (X:Option Blk):ErrB (H.put i X) b e:=by
 cases b with
 |none=>exact h
 |code n=>exact h
 |ball t =>
  obtain⟨q,cs',he,hg,hk⟩:=h;refine⟨q,cs',he,?_,hk.put g h2 X⟩;rw[get_put,if_neg]
  ·exact hg
  ·rintro rfl;have:=z2l g hg;rw[this,Zy] at h1;cases h1
theorem ErrB.keep {H H':Heap}{b:BadV}{e:Value}(h:ErrB H b e) (hx:HX H H') (hw:H.wf):ErrB H' b e:=by
 cases b with
 |none=>exact h
 |code n=>exact h
 |ball t=>exact ThrR.mono h hx hw
theorem Inv.rin {φ:FSt}{N:Int}(h:Inv φ N):RIn φ.rf:=by
 have hk:φ.rf.opens.map (·.1)=φ.opens.map (·.1):=by simp [FSt.rf,ZJ,Function.comp_def]
 have hm:∀o∈φ.rf.opens,∃o'∈φ.opens,o=(o'.1,o'.2.rf):=fun o ho=>by
  obtain⟨o',h1,h2⟩:=List.mem_map.1 ho;exact⟨o',h1,h2.symm⟩
 have hw:=h.wr;have hout:=h.out;refine⟨by rw[hk];exact h.nd,by simp only[FSt.rf,Zv];exact h.no,h.nf,fun o ho=>?_,fun o ho h0 h1=>?_,fun s=>h.size s,fun o ho=>?_,fun o ho hmo=>?_,h.wr.1,h.wr.2,fun n=>h.fileD n,by show φ.out.size≤100000;omega⟩
 ·obtain⟨o',h1,rfl⟩:=hm o ho;have:=h.dataR h1;show φ.rf.dataR o'.2.rf=φ.rf.data o'.2.rf;rw[z71,z5d,←this];unfold FSt.dataR;rw[zk5,z5x];rfl
 ·obtain⟨o',h2,rfl⟩:=hm o ho;simp only[zk5,z5x] at h0 h1 ⊢;have hi:=h.ids o' h2;have hl:=h.lt o' h2;have:=h.fl o' h2 (by omega);unfold FSt.file at this;rw[Option.isSome_map,List.find?_isSome] at this;obtain⟨x,hx,hp⟩:=this;cases hf:φ.files.findIdx? fun x=>o'.2.file == x.1 with
  |none=>have:=List.findIdx?_eq_none_iff.1 hf x hx;rw[hp] at this;cases this
  |some i=>exact⟨i,hf⟩
 ·obtain⟨o',h1,rfl⟩:=hm o ho;have:=h.po o' h1;show 0≤o'.2.rf.pos∧o'.2.rf.pos≤((φ.rf.data o'.2.rf).size:Int);rw[z71,z5d];unfold Strm.rf;split
  ·exact this
  ·exact⟨Int.le_refl _,by simp⟩
 ·obtain⟨o',h1,rfl⟩:=hm o ho;simp only[z3w,z7m,zk5] at hmo ⊢;have hi:=h.ids o' h1;have hl:=h.lt o' h1;have hc:=h.con o' h1;have h0:o'.1≠0:=fun q=>hmo (h.c0 o' h1 q)
  refine⟨?_,by omega⟩;rw[hc,hi];by_cases q:o'.1=1
  ·rw[decide_eq_true q,decide_eq_true (by omega)]
  ·rw[decide_eq_false q,decide_eq_false (by omega)]
end Go.Proofs.hq
end

section
namespace Go.Hb
open Go Go.RowKit
structure RdI (H:Heap) (L:List Int) (a:Option Addr) (c:Nat):Prop where
 len:L.length≤c
 cap:c≤maxLen
 get:∀(i:Nat) (h:i < L.length),∃b o,a=some ⟨b,o,none⟩∧H.load ⟨b,o+i,none⟩ 1=some [.int .i64 L[i]]
theorem RdI.max {H:Heap}{L:List Int}{a:Option Addr}{c:Nat}(h:RdI H L a c):L.length≤9223372036854775807:=ZA h.len h.cap
theorem RdI.keep {H H':Heap}{L:List Int}{a:Option Addr}{c:Nat}(h:RdI H L a c) (hx:HX H H') (hw:H.wf):RdI H' L a c:=⟨h.len,h.cap,fun i hi=>by obtain⟨b,o,e,l⟩:=h.get i hi;exact⟨b,o,e,hx.load hw l⟩⟩
end Go.Hb
namespace Go.Proofs.hq
open Go Go.RowKit Go.Hb
variable {ok:Ok}
set_option maxRecDepth 10000
attribute [local irreducible] LX LG EL STG SOP SGO SGD SAL SRD SEF SEG SLK SCK ES
theorem zeg {L L':List Int}{a a':Option Addr}{c c':Nat}{H:Heap}(h:RdI H L a c) (h':RdI H L' a' c') (hw:H.wf) :
  EvF Tryz.prog okT 44 [.slice a L.length c,.slice a' L'.length c'] H fun v H'=>v=.bool (decide (L=L'))∧HX H H':=by
 have hm:=h.max;refine EvF.enter rfl Tryz.func44 (by decide) rfl ?_;by_cases k6:(L.length:Int)=L'.length;rotate_left
 ·repeat' (first|refine EvC.seq ?_|(refine EvC.ret ?_;try simp only[z05,z03])|(refine EvC.reg ?_;simp (config := { maxSteps := 2000000 }) (disch:=first|omega|rfl) only[sB,initTm,Za,reduceCtorEq,ln66,z3i k6])|(refine EvC.condT ?_ ?_;simp (config := { maxSteps := 2000000 }) (disch:=first|omega|rfl) only[sB,Za,reduceCtorEq];refine z02 ?_))
  exact z06 rfl (by simp only[sB,Za,reduceCtorEq];rfl) ⟨by rw[decide_eq_false (fun h=>k6 (by rw[h]))],HX.refl hw⟩
 have hlen:L.length=L'.length:=by omega
 repeat' (first|refine EvC.seq ?_|refine EvC.block ?_|(refine EvC.skip ?_;try simp only[z00])|(refine EvC.reg ?_;simp (config := { maxSteps := 2000000 }) (disch:=first|omega|rfl) only[sB,initTm,Za,reduceCtorEq,ln66,z17 k6])|(refine EvC.condF ?_ ?_;simp (config := { maxSteps := 2000000 }) (disch:=first|omega|rfl) only[sB,Za,reduceCtorEq];refine z02 ?_))
 refine EvC.loop (fun k st=>∃tm H' i,st=⟨tm,[],H'⟩∧k=L.length - i∧i≤L.length∧(∀j:Nat,j < i→L[j]?=L'[j]?) ∧
   tm.get 0=some (.slice a L.length c)∧tm.get 1=some (.slice a' L'.length c')∧tm.get 5=some (.int .i64 (i:Nat))∧HX H H') ?_ L.length _ ?_
 ·rintro k st ⟨tm,H',i,rfl,rfl,hi,hc,t0,t1,t5,hx'⟩;by_cases hlt:i < L.length
  ·have hlt':i < L'.length:=by omega
   obtain⟨b,o,rfl,hl⟩:=h.get i hlt;obtain⟨b',o',rfl,hl'⟩:=h'.get i hlt';have l1:=hx'.load hw hl;have l2:=hx'.load hw hl';by_cases he:L[i]=L'[i]
   ·repeat' (first|refine EvC.seq ?_|refine EvC.block ?_|(refine EvC.skip ?_;try simp only[sA])|(refine EvC.reg ?_;simp (config := { maxSteps := 2000000 }) (disch:=first|omega|rfl) only[sB,Za,reduceCtorEq,ln66,t0,t5,decl hlt,z0e])|(refine EvC.drw [([(0,0),(1,0),(2,0),(3,0),(4,0),(5,0),(6,0),(7,0),(8,0)],none)] ?_ ?_;kernel_rfl;simp (config := { maxSteps := 2000000 }) (disch:=first|omega|rfl) only[sD,sB,Za,Zb,reduceCtorEq,ia66,ld3,t0,t1,t5,l1,l2,z17 he,isAlloc,isRead])|(refine EvC.condT ?_ ?_;simp (config := { maxSteps := 2000000 }) (disch:=first|omega|rfl) only[sB,Za];refine z02 ?_)|(refine EvC.condF ?_ ?_;simp (config := { maxSteps := 2000000 }) (disch:=first|omega|rfl) only[sB,Za];refine z02 ?_))
    refine⟨L.length - (i+1),by omega,_,_,i+1,rfl,rfl,by omega,fun j hj=>?_,(by simp only[sG,reduceCtorEq,t0]),(by simp only[sG,Za,t1]),(by simp only[sB,Za];rfl),hx'.bump _⟩;by_cases hji:j=i
    ·subst hji;rw[Zd hlt,Zd hlt',he]
    ·exact hc j (by omega)
   ·repeat' (first|refine EvC.seq ?_|refine EvC.block ?_|(refine EvC.skip ?_;try simp only[z00])|(refine EvC.ret ?_;try simp only[z05,z03])|(refine EvC.reg ?_;simp (config := { maxSteps := 2000000 }) (disch:=first|omega|rfl) only[sB,Za,reduceCtorEq,ln66,t0,t5,decl hlt])|(refine EvC.drw [([(0,0),(1,0),(2,0),(3,0),(4,0),(5,0),(6,0),(7,0),(8,0)],none)] ?_ ?_;kernel_rfl;simp (config := { maxSteps := 2000000 }) (disch:=first|omega|rfl) only[sD,sB,Za,Zb,reduceCtorEq,ia66,ld3,t0,t1,t5,l1,l2,z3i he,isAlloc,isRead])|(refine EvC.condT ?_ ?_;simp (config := { maxSteps := 2000000 }) (disch:=first|omega|rfl) only[sB,Za];refine z02 ?_))
    refine z06 rfl (by simp only[sB,Za];rfl) ⟨?_,hx'.bump _⟩;rw[decide_eq_false];rintro rfl;exact he rfl
  ·repeat' (first|refine EvC.seq ?_|(refine EvC.exit ?_;try simp only[sB])|(refine EvC.ret ?_)|(refine EvC.reg ?_;simp (config := { maxSteps := 2000000 }) (disch:=first|omega|rfl) only[sB,Za,reduceCtorEq,ln66,t0,t5,decn hlt])|(refine EvC.condF ?_ ?_;simp (config := { maxSteps := 2000000 }) (disch:=first|omega|rfl) only[sB,Za];refine z02 ?_))
   refine z06 rfl (by simp only[sB,Za];rfl) ⟨?_,hx'⟩;rw[decide_eq_true];refine ZD fun j=>?_
   by_cases hj:j < i
   ·exact hc j hj
   ·rw[Zw (by omega),Zw (by omega)]
 ·exact⟨_,_,0,rfl,rfl,by omega,by omega,(by simp only[sG,reduceCtorEq]),(by simp only[sG,Za,reduceCtorEq]),(by simp only[sB,Za,reduceCtorEq];rfl),HX.refl hw⟩
abbrev rowZ (l:List Int):List Value:=l.map fun n=>.int .i64 n
def OutZ (H:Heap) (l:List Int) (v:Value) (B:Nat):Prop:=(l=[]∧v=.slice none 0 0)∨∃b,v=.slice (some ⟨b,0,none⟩) l.length l.length∧H.get b=some (.row (rowZ l) 3)∧B≤b
theorem zm7 (l:List Int):(rowZ l).all one=true:=by
 induction l with
 |nil=>rfl
 |cons x l ih=>show ((Value.int .i64 x :: rowZ l).all one)=true;rw[List.all_cons,ih];rfl
theorem OutZ.push {A H:Heap}{l:List Int}{v:Value}{B c:Nat}{ad:Addr}{n:Int}(h:OutZ H l v B) (hx:HX A H) (hB:A.next≤B) (hB2:B≤H.next) (hl:H.load ad (1*1)=some [.int .i64 n]) (hm:l.length+1≤most) :
  ∃v' H',dAp Tryz.prog #[66,66] v (.slice (some ad) 1 c) H=some (.val v' H')∧OutZ H' (l++[n]) v' B∧HX A H'∧H.next≤H'.next:=by
 rcases h with ⟨rfl,rfl⟩|⟨b,rfl,hg,hb⟩
 ·exact⟨_,_,z8r zlz (by omega) (by simp [most]) hl rfl,.inr ⟨H.next,rfl,by rw[get_new,if_pos rfl];rfl,hB2⟩,hx.new _,Nat.le_succ _⟩
 ·have htk:(rowZ l).take (l.length*1)=rowZ l:=Zx (by simp);refine⟨_,_,z5u zlz (by omega) hm hl rfl hg (by simp) (by rw[htk];exact zm7 l),.inr ⟨H.next,by simp,?_,hB2⟩,(hx.pt (by omega) hg none).new _,Nat.le_succ _⟩;rw[get_new,z1b,if_pos rfl,htk];simp [rowZ]
theorem OutZ.keep {H H':Heap}{l:List Int}{v:Value}{B:Nat}(h:OutZ H l v B) (hx:HX H H') (hw:H.wf):OutZ H' l v B:=by
 rcases h with h|⟨b,e,hg,hb⟩
 ·exact .inl h
 ·exact .inr ⟨b,e,hx.get hw hg,hb⟩
theorem OutZ.low {H:Heap}{l:List Int}{v:Value}{B B':Nat}(h:OutZ H l v B) (hB:B'≤B):OutZ H l v B':=by
 rcases h with h|⟨b,e,hg,hb⟩
 ·exact .inl h
 ·exact .inr ⟨b,e,hg,ZA hB hb⟩
theorem OutZ.rd {H:Heap}{l:List Int}{v:Value}{B:Nat}(h:OutZ H l v B) (hm:l.length≤maxLen):∃a,v=.slice a l.length l.length∧RdI H l a l.length:=by
 rcases h with ⟨rfl,rfl⟩|⟨b,rfl,hg,hb⟩
 ·exact⟨none,rfl,Ze _,Zz _,fun i hi=>by simp at hi⟩
 ·exact⟨_,rfl,Ze _,hm,fun i hi=>⟨b,0,rfl,by rw[Nat.zero_add];exact z0i hg (by rw[Zr,Zd hi];rfl)⟩⟩
set_option maxHeartbeats 4000000 in
theorem zm8 {H:Heap}{B:Nat→Prop}{r f l:Nat}{φ:FSt}(h:RfB H B r f l φ) (hw:H.wf) (hm:φ.opens.length≤16) :
  EvF Tryz.prog okT 45 [ptrV r] H fun v H'=>HX H H'∧OutZ H' (φ.opens.map (·.1)) v H.next:=by
 refine EvF.enter rfl Tryz.func45 (by decide) rfl ?_
 repeat' (first|refine EvC.seq ?_|refine EvC.block ?_|(refine EvC.reg ?_;simp (config := { maxSteps := 2000000 }) (disch:=first|omega|rfl) only[sA,initTm]))
 refine EvC.loop (fun k st=>∃tm G i u,st=⟨tm,[],G⟩∧k=φ.opens.length - i∧i≤φ.opens.length∧tm.get 0=some (ptrV r)∧tm.get 3=some u∧tm.get 4=some (.int .i64 (i:Nat))∧HX H G∧OutZ G ((φ.opens.take i).map (·.1)) u H.next) ?_ φ.opens.length _ ?_
 ·rintro k st ⟨tm,G,i,u,rfl,rfl,hi,t0,t3,t4,hxG,hO⟩;have wG:=hxG.wf;have hG:=h.keep hxG hw;have q:=row8 hG.obj;by_cases hlt:i < φ.opens.length
  ·have hx0:=Zd hlt;have hid:=h.ids _ (ZE hlt);have hld:=z0i hG.ls ((z50 (k:=0) (by omega) hx0).trans (show (φ.opens[i]).2.row10[0]?=some (.int .i64 (φ.opens[i]).2.id) from rfl));rw[hid,Nat.add_zero] at hld;have hw1:IntKind.i64.wrap ((i:Int)+1)=((i+1:Nat):Int):=by rw[z0e]<;>omega
   obtain⟨G1,e1,hxg1,gg1,ng1,wg1⟩:=new1 wG (.row [.int .i64 (φ.opens[i]).1] 3);have hl2:G1.load ⟨G.next,0,none⟩ (1*1)=some [.int .i64 (φ.opens[i]).1]:=zd8 gg1;obtain⟨u',G2,hap,hO2,hx3,-⟩:=(hO.keep hxg1 wG).push (A:=H) (c:=1) (hxG.trans hxg1) (Ze _) (hxG.trans hxg1).next hl2 (by rw[Zv,List.length_take];unfold most;omega)
   repeat' (first|refine EvC.seq ?_|refine EvC.block ?_|(refine EvC.skip ?_;try simp only[z00])|(refine EvC.reg ?_;simp (config := { maxSteps := 2000000 }) (disch:=first|omega|rfl) only[sB,Za,Value.cells,one,reduceCtorEq,layC,z0k,ld37,ln37,ia37,z0p,z2p,ld3,zjd,t0,t3,t4,q,z01,z04,decl hlt,hld,e1,hap,hw1])|(refine EvC.condT ?_ ?_;simp (config := { maxSteps := 2000000 }) (disch:=first|omega|rfl) only[sB,Za];refine z02 ?_))
   refine⟨_,by omega,_,_,i+1,u',rfl,rfl,by omega,(by simp only[sG,reduceCtorEq,t0]),(by simp only[sG,Za]),(by simp only[sG,Za]),hx3,?_⟩;rw[←List.take_append_getElem hlt,ZI];exact hO2
  ·obtain rfl:i=φ.opens.length:=by omega
   rw[List.take_length] at hO
   repeat' (first|refine EvC.seq ?_|(refine EvC.exit ?_;try simp only[sB])|(refine EvC.ret ?_)|(refine EvC.reg ?_;simp (config := { maxSteps := 2000000 }) (disch:=first|omega|rfl) only[sB,Za,reduceCtorEq,z0k,ld37,ln37,t0,t3,t4,q,z01,z04,decn hlt])|(refine EvC.condF ?_ ?_;simp (config := { maxSteps := 2000000 }) (disch:=first|omega|rfl) only[sB,Za];refine z02 ?_))
   exact z06 rfl (by simp only[sG,Za]) ⟨hxG,hO⟩
 ·exact⟨_,_,0,_,rfl,rfl,Zz _,(by simp only[sG,reduceCtorEq]),(by simp only[sG,Za,reduceCtorEq]),(by simp only[sB,Za,reduceCtorEq];rfl),HX.refl hw,.inl ⟨rfl,rfl⟩⟩
set_option maxHeartbeats 4000000 in
theorem zai {H:Heap}{B:Nat→Prop}{r f l:Nat}{φ:FSt}{a:ByteArray}(h:RfB H B r f l φ) (hm:φ.opens.length≤16) :
  EvF Tryz.prog okT 43 [ptrV r,.string a] H fun v H'=>H'=H∧v=.tuple ⟨[.int .i64 ((φ.findA a).getD 0),.bool (φ.findA a).isSome]⟩:=by
 refine EvF.enter rfl Tryz.func43 (by decide) rfl ?_;have q:=row8 h.obj;have hne:∀(t:TypeId) (x y:Operand) (G:Heap),dBin Tryz.prog .neq t x y (.string a) (.string ⟨#[]⟩) G=some (.val (.bool (decide (a.size≠0))) G):=fun t x y G=>by
  have h:=z7r (P:=Tryz.prog) (H:=G) (t:=t) (x:=x) (y:=y) (a:=a);rw[z6d] at h;rw[z2s];simp only[Option.some.injEq,Dr.val.injEq,Value.bool.injEq,and_true] at h ⊢;rw[h];by_cases k:a.size=0<;>simp [k]
 repeat' (first|refine EvC.seq ?_|refine EvC.block ?_|(refine EvC.reg ?_;simp (config := { maxSteps := 2000000 }) (disch:=first|omega|rfl) only[sA,initTm]))
 refine EvC.loop (fun k st=>∃tm i,st=⟨tm,[],H⟩∧k=φ.opens.length - i∧i≤φ.opens.length∧tm.get 0=some (ptrV r)∧tm.get 1=some (.string a)∧tm.get 6=some (.int .i64 (i:Nat))∧(∀j o,j < i→φ.opens[j]?=some o→(o.2.al == a)=false)) ?_ φ.opens.length _ ?_
 ·rintro k st ⟨tm,i,rfl,rfl,hi,t0,t1,t6,hno⟩;by_cases ha:a.size=0
  ·have hR:φ.findA a=none:=by unfold FSt.findA;rw[if_pos ha]
   have hd:decide (a.size≠0)=false:=by simp [ha]
   rw[hR];by_cases hlt:i < φ.opens.length
   ·repeat' (first|refine EvC.seq ?_|(refine EvC.exit ?_;try simp only[sB])|(refine EvC.ret ?_)|(refine EvC.reg ?_;simp (config := { maxSteps := 2000000 }) (disch:=first|omega|rfl) only[sB,Za,reduceCtorEq,z0k,ld37,ln37,t0,t1,t6,q,z01,z04,decl hlt,hne,hd])|(refine EvC.condF ?_ ?_;simp (config := { maxSteps := 2000000 }) (disch:=first|omega|rfl) only[sB,Za];refine z02 ?_))
    exact z09 rfl (by simp only[sB,Za];rfl) (by simp only[sB,Za];rfl) ⟨rfl,rfl⟩
   ·obtain rfl:i=φ.opens.length:=by omega
    repeat' (first|refine EvC.seq ?_|(refine EvC.exit ?_;try simp only[sB])|(refine EvC.ret ?_)|(refine EvC.reg ?_;simp (config := { maxSteps := 2000000 }) (disch:=first|omega|rfl) only[sB,Za,reduceCtorEq,z0k,ld37,ln37,t0,t6,q,z01,z04,decn hlt,Zc])|(refine EvC.condF ?_ ?_;simp (config := { maxSteps := 2000000 }) (disch:=first|omega|rfl) only[sB,Za];refine z02 ?_))
    exact z09 rfl (by simp only[sB,Za];rfl) (by simp only[sB,Za];rfl) ⟨rfl,rfl⟩
  have hd:decide (a.size≠0)=true:=by simp [ha]
  have hR:φ.findA a=(φ.opens.find? fun o=>o.2.al == a).map (·.1):=by unfold FSt.findA;rw[if_neg ha]
  by_cases hlt:i < φ.opens.length
  ·have hx0:=Zd hlt;have hid:=h.ids _ (ZE hlt);have hld:=z0i h.ls ((z50 (k:=0) (by omega) hx0).trans (show (φ.opens[i]).2.row10[0]?=some (.int .i64 (φ.opens[i]).2.id) from rfl));rw[hid,Nat.add_zero] at hld;have hla:=z0i h.ls ((z50 (k:=4) (by omega) hx0).trans (show (φ.opens[i]).2.row10[4]?=some (.string (φ.opens[i]).2.al) from rfl));have hw1:IntKind.i64.wrap ((i:Int)+1)=((i+1:Nat):Int):=by rw[z0e]<;>omega
   cases hb:(φ.opens[i]).2.al == a with
   |true =>
    have hf:(φ.opens.find? fun o=>o.2.al == a)=some φ.opens[i]:=by
     rw[List.find?_eq_some_iff_getElem];exact⟨hb,i,hlt,rfl,fun j hj=>by rw[hno j _ hj (Zd (by omega))];rfl⟩
    rw[hR,hf]
    repeat' (first|refine EvC.seq ?_|refine EvC.block ?_|(refine EvC.skip ?_;try simp only[z00])|(refine EvC.ret ?_;try simp only[z05,z03])|(refine EvC.reg ?_;simp (config := { maxSteps := 2000000 }) (disch:=first|omega|rfl) only[sB,Za,reduceCtorEq,z0k,ld37,ln37,ia37,z0p,zfu,ld9,z2p,ld3,t0,t1,t6,q,z01,z04,decl hlt,hne,hd,hla,z16,z2g,hb,hld])|(refine EvC.condT ?_ ?_;simp (config := { maxSteps := 2000000 }) (disch:=first|omega|rfl) only[sB,Za];refine z02 ?_))
    exact z09 rfl (by simp only[sG,Za]) (by simp only[sB,Za];rfl) ⟨rfl,rfl⟩
   |false =>
    repeat' (first|refine EvC.seq ?_|refine EvC.block ?_|(refine EvC.skip ?_;try simp only[sA])|(refine EvC.reg ?_;simp (config := { maxSteps := 2000000 }) (disch:=first|omega|rfl) only[sB,Za,reduceCtorEq,z0k,ld37,ln37,ia37,z0p,zfu,ld9,t0,t1,t6,q,z01,z04,decl hlt,hne,hd,hla,z16,z2g,hb,hw1])|(refine EvC.condT ?_ ?_;simp (config := { maxSteps := 2000000 }) (disch:=first|omega|rfl) only[sB,Za];refine z02 ?_)|(refine EvC.condF ?_ ?_;simp (config := { maxSteps := 2000000 }) (disch:=first|omega|rfl) only[sB,Za];refine z02 ?_))
    refine⟨_,by omega,_,i+1,rfl,rfl,by omega,(by simp only[sG,reduceCtorEq,t0]),(by simp only[sG,Za,t1]),(by simp only[sG,Za]),fun j o hj hx=>?_⟩;by_cases hji:j=i
    ·subst hji;have e:φ.opens[j]=o:=by rw[Zd hlt] at hx;exact Option.some.inj hx
     rw[←e];exact hb
    ·exact hno j o (by omega) hx
  ·obtain rfl:i=φ.opens.length:=by omega
   have hf:(φ.opens.find? fun o=>o.2.al == a)=none:=List.find?_eq_none.2 fun o ho=>by
    obtain⟨j,hj,rfl⟩:=List.mem_iff_getElem.1 ho;rw[hno j _ hj (Zd hj)];simp
   rw[hR,hf]
   repeat' (first|refine EvC.seq ?_|(refine EvC.exit ?_;try simp only[sB])|(refine EvC.ret ?_)|(refine EvC.reg ?_;simp (config := { maxSteps := 2000000 }) (disch:=first|omega|rfl) only[sB,Za,reduceCtorEq,z0k,ld37,ln37,t0,t6,q,z01,z04,decn hlt,Zc])|(refine EvC.condF ?_ ?_;simp (config := { maxSteps := 2000000 }) (disch:=first|omega|rfl) only[sB,Za];refine z02 ?_))
   exact z09 rfl (by simp only[sB,Za];rfl) (by simp only[sB,Za];rfl) ⟨rfl,rfl⟩
 ·exact⟨_,0,rfl,rfl,Zz _,(by simp only[sG,reduceCtorEq]),(by simp only[sG,Za,reduceCtorEq]),(by simp only[sB,Za,reduceCtorEq];rfl),fun j o hj=>by omega⟩
end Go.Proofs.hq
end

section
namespace Go.Proofs.hq
open Go Go.RowKit Go.Hb
variable {ok:Ok}
set_option maxRecDepth 10000
attribute [local irreducible] LX LG EL STG SOP SGO SGD SAL SRD SEF SEG SLK SCK ES
theorem zm9 {H:Heap}{m:Nat}(hw:H.wf):EvF Tryz.prog okT 66 [.map (some m)] H fun v H'=>v=.func (.func 93) #[] #[ptrV H.next]∧HX H H'∧H'.get H.next=some (.row [.map (some m)] 75):=by
 refine EvF.enter rfl Tryz.func66 (by decide) rfl ?_;(repeat refine EvC.seq ?_);refine EvC.reg ?_;simp (config := { maxSteps := 2000000 }) (disch:=first|omega|rfl) only[sB,initTm,dBox,Value.cells,one];obtain⟨H1,e1,hx1,g1,n1,w1⟩:=new1 hw (.row [.map (some m)] 75);simp only[e1]
 repeat' (first|refine EvC.seq ?_|(refine EvC.ret ?_)|(refine EvC.reg ?_;simp (config := { maxSteps := 2000000 }) (disch:=first|omega|rfl) only[sB,Za,reduceCtorEq,List.map_toArray]))
 exact z06 rfl (by simp only[sG,Za,reduceCtorEq]) ⟨rfl,hx1,g1⟩
theorem zkd:∀{es:List MapEntry}{l:List (Int × Value)},es.map (fun e=>(e.key,e.val))=l.map (fun p=>(Value.int .i64 p.1,p.2))→(∀x∈l,i64 x.1)→keyI es=some (l.map (·.1))
 |[],[],_,_=>rfl
 |[],_ :: _,h,_=>by simp at h
 |_ :: _,[],h,_=>by simp at h
 |e :: es,x :: l,h,hs=>by
  simp only[Zs,List.cons.injEq,Prod.mk.injEq] at h;have ih:=zkd (es:=es) (l:=l) h.2 (fun y hy=>hs y (Zl _ hy));have hx:=hs x (by simp);unfold i64 at hx;rw[keyI,h.1.1,ih];simp only[Zs];rw[if_pos ⟨by omega,by omega⟩]
set_option maxHeartbeats 4000000 in
theorem zaj {H:Heap}{B:Nat→Prop}{p fb ob:Nat}{blk:Int→Nat}{φ:FSt}(h:FsB H B p fb ob blk φ) (hw:H.wf) (hs:∀o∈φ.opens,i64 o.1) (hasc:(φ.opens.map (·.1)).Pairwise (· < ·)) (hl:φ.opens.length≤16) :
  EvF Tryz.prog okT 26 [ptrV p] H fun v H'=>HX H H'∧OutZ H' (φ.opens.map (·.1)) v H.next:=by
 refine EvF.enter rfl Tryz.func26 (by decide) rfl ?_;have q:=row8 h.obj
 repeat' (first|refine EvC.seq ?_|(refine EvC.skip ?_;try simp only[z00])|(refine EvC.reg ?_;simp (config := { maxSteps := 2000000 }) (disch:=first|omega|rfl) only[sB,initTm,Za,reduceCtorEq,z3t,ld75,cl66,cl65,z6z,q,z01,z04])|(refine EvC.condF ?_ ?_;simp (config := { maxSteps := 2000000 }) (disch:=first|omega|rfl) only[sB,Za,reduceCtorEq];refine z02 ?_))
 refine(zm9 hw).mono ?_;rintro v H1 ⟨rfl,hx1,g1⟩;have w1:=hx1.wf;have h1:=h.keep hx1 hw;obtain⟨es,clk,hg,he⟩:=id h1.om;obtain⟨es2,clk2,hg2,hb1,hb2⟩:=id h1.bo;rw[hg] at hg2;cases hg2;have hk:=zkd (l:=φ.opens.map fun o=>(o.1,ptrV (blk o.1))) he (fun x hx=>by
  obtain⟨o,ho,rfl⟩:=List.mem_map.1 hx;exact hs o ho)
 have hmm:(φ.opens.map fun o=>(o.1,ptrV (blk o.1))).map (·.1)=φ.opens.map (·.1):=by rw[ZJ];rfl
 rw[hmm] at hk;have hlen:es.length=φ.opens.length:=by have:=congrArg List.length he;simpa using this
 have hms:(φ.opens.map (·.1)).mergeSort leI=φ.opens.map (·.1):=List.mergeSort_of_pairwise (hasc.imp fun {a b} hab=>by simp only[decide_eq_true_eq];omega)
 skip
 refine(zhi g1 hg hk (by unfold most;omega) hb1 hb2 h.nd).mono ?_;rintro v H2 hv;generalize hL:φ.opens.map (·.1)=L at hv hms;cases L with
 |nil =>
  obtain⟨rfl,rfl⟩:v=.slice none 0 0∧H2=H1:=by
   have e1:=(Prod.mk.inj hv).1;have e2:=(Prod.mk.inj hv).2;exact⟨by injection e1,e2⟩
  repeat' (first|(refine EvC.ret ?_))
  exact z06 rfl (by simp only[sG,Za,reduceCtorEq]) ⟨hx1,.inl ⟨rfl,rfl⟩⟩
 |cons k r =>
  obtain⟨rfl,rfl⟩:v=.slice (some ⟨H1.next,0,none⟩) (r.length+1) (r.length+1)∧H2=H1.new (some (.row (((k :: r).mergeSort leI).map (Value.int .i64)) 3)):=by
   have e1:=(Prod.mk.inj hv).1;have e2:=(Prod.mk.inj hv).2;exact⟨by injection e1,e2⟩
  rw[hms]
  repeat' (first|(refine EvC.ret ?_))
  exact z06 rfl (by simp only[sB,Za,reduceCtorEq]) ⟨hx1.new _,.inr ⟨H1.next,rfl,by rw[get_new,if_pos rfl],hx1.next⟩⟩
end Go.Proofs.hq
end

section
namespace Go.Hb
open Go Go.RowKit
theorem zak {P:Program}{H:Heap}{t e:TypeId}{s b:Nat}{ad:Option Addr}{n m c':Nat}{cs news:List Value}(h:apOk P t e s) (hmost:n+m≤most) (hl:0 < m→∃x,ad=some x∧H.load x (m*s)=some news) (hn0:m=0→news=[]) (hone:news.all one=true)
  (hb:H.get b=some (.row cs e)) (hn:cs.length=n*s) (hone':cs.all one=true) :
  ∃b' H',dAp P #[t,t] (.slice (some ⟨b,0,none⟩) n n) (.slice ad m c') H=some (.val (.slice (some ⟨b',0,none⟩) (n+m) (n+m)) H')∧H'.get b'=some (.row (cs++news) e)∧(b'=b∨b'=H.next)∧(∀A,A.next≤b→HX A H→HX A H')∧(∀i,i < H.next→i≠b→H'.get i=H.get i)∧H.next≤H'.next:=by
 by_cases h0:m=0
 ·subst h0;exact⟨b,H,zo0 h,by rw[hn0 rfl,List.append_nil];exact hb,.inl rfl,fun _ _ k=>k,fun _ _ _=>rfl,Ze _⟩
 ·obtain⟨x,rfl,hlx⟩:=hl (by omega);have e1:cs.take (n*s)=cs:=Zx (by omega);have hap:=z5u (n:=n) (c:=n) (c':=c') h (by omega) hmost hlx hone hb (by omega) (by rw[e1];exact hone');rw[e1] at hap;exact⟨_,_,hap,by rw[get_new,z1b,if_pos rfl],.inr rfl,fun A ha k=>(k.pt ha hb none).new _,fun i hi hne=>by rw[get_new,z1b,if_neg (by omega),get_put,if_neg hne],Nat.le_succ _⟩
theorem zos {P:Program}{t e:TypeId}{s b n l:Nat}{k:IntKind}(h:slcOk P t e s) (hl:l≤n) (h0:0 < l) :
  ∃a c,(∀(H:Heap) (cs:List Value),H.get b=some (.row cs e)→dSl P t (.slice (some ⟨b,0,none⟩) n n) (some (.int k (l:Int))) none none H=some (.val (.slice a (n - l) c) H))∧(0 < n - l→a=some ⟨b,l*s,none⟩):=by
 by_cases hc:l < n
 ·exact⟨_,_,fun H cs hb=>zpb h hl h0 hc hb (.inl ⟨cs,rfl⟩),fun _=>by rw[Nat.zero_add]⟩
 ·obtain⟨h1,h2,_⟩:=h;obtain⟨i,hi⟩:=Option.isSome_iff_exists.1 h2;have e0:Zk l 0=false:=by rw[←ZB,Zp];omega
  have e1:Zk l n=true:=by rw[Zp];omega
  have e2:n - l=0:=by omega
  exact⟨some ⟨0,0,some 0⟩,0,fun H cs _=>by simp only[dSl,dslice,h1,hi,bound,z2k hl,e0,e1,e2,Zc,if_false,if_true],fun q=>by omega⟩
end Go.Hb
namespace Go.Proofs.hq
open Go Go.RowKit Go.Hb
variable {ok:Ok}
set_option maxRecDepth 10000
attribute [local irreducible] LX LG EL STG SOP SGO SGD SAL SRD SEF SEG SLK SCK ES
set_option maxHeartbeats 16000000 in
theorem zgm {H:Heap}{B:Nat→Prop}{r f l:Nat}{φ:FSt}{n:Int}{inp:Bool}(h:RfB H B r f l φ) (hI:RIn φ) (hw:H.wf) (hn:i64 n) :
  EvF Tryz.prog okT 34 [ptrV r,.int .i64 n,.bool inp] H fun v H'=>Hy B H H'∧∃bs,v=.agg ⟨bs⟩∧BadR H' (BadV.of (if inp=true then φ.setInR n else φ.setOutR n).1) bs∧RfB H' B r f l (if inp=true then φ.setInR n else φ.setOutR n).2:=by
 refine EvF.enter rfl Tryz.func34 (by decide) rfl ?_;have hno:=hI.no;have hnf:=hI.nf;(repeat refine EvC.seq ?_);refine EvC.reg ?_;simp (config := { maxSteps := 2000000 }) (disch:=first|omega|rfl) only[sA,initTm,dAlloc,Zb,zr90];obtain⟨H1,e1,hx1,g1,n1,w1⟩:=new1 hw (.row bad8 90);simp only[e1];clear e1;have h1:=h.keep hx1 hw
 repeat' (first|refine EvC.seq ?_|(refine EvC.reg ?_;simp (config := { maxSteps := 2000000 }) (disch:=first|omega|rfl) only[sB,Za,reduceCtorEq,cl74]))
 refine(z4j h1 w1 hn (by omega)).mono ?_;rintro v H2 ⟨hx2,bs,hor⟩;have w2:=hx2.wf;have g2:=hx2.get w1 g1;have h2:=h1.keep hx2 w1;rcases hor with ⟨i,hi,rfl,rfl⟩|⟨hi,rfl,a,c,rfl,hk⟩
 ·obtain⟨hil,hgt,hkey⟩:=z2w hi;obtain⟨H3,e3,hx3,g3,n3,w3⟩:=z18 w2 (.row bad8 90) (.row bad8 90);have l3:H3.load ⟨H2.next,0,none⟩ 8=some bad8:=by simp only[Heap.load,Heap.cells,g3];rfl
  have hbw:(false || ((0:Int) != 0))=false:=rfl
  repeat' (first|refine EvC.seq ?_|(refine EvC.reg ?_;simp (config := { maxSteps := 2000000 }) (disch:=first|omega|rfl) only[sB,Za,reduceCtorEq,ld90,cl75,l3])|(refine z08 ?_;simp (config := { maxSteps := 2000000 }) (disch:=first|omega|rfl) only[sB,dAlloc,Za,Zb,one,reduceCtorEq,zr90,st90,e3]))
  refine(z0m w3).mono ?_;rintro v H4 ⟨hx4,rfl⟩;have w4:=hx4.wf;have hx24:=hx3.trans hx4;have hx04:=hx1.trans (hx2.trans hx24);have h4:=h2.keep hx24 w2;have g41:=hx24.get w2 g2;have go4:=h4.obj;have q4:=row8 go4;obtain⟨s,hsE⟩:∃s,s=(φ.opens[i]).2:=⟨_,rfl⟩
  rw[←hsE] at hgt;have hlr:=(z50 (k:=2) (by omega) (Zd hil)).trans (show (φ.opens[i]).2.row10[2]?=some (.int .i64 (φ.opens[i]).2.mode) from rfl);rw[←hsE] at hlr;have lr4:=z0i h4.ls hlr;have hR1:φ.setInR n=if s.mode=1 then (none,{ φ with inp:=n }) else (some (perT inS strS n),φ):=by unfold FSt.setInR;rw[hgt]
  have hR2:φ.setOutR n=if s.mode=1 then (some (perT outS strS n),φ) else (none,{ φ with put:=n }):=by unfold FSt.setOutR;rw[hgt]
  cases inp
  ·simp only[Zc,if_false];by_cases hm:s.mode=1
   ·rw[if_pos hm] at hR2;rw[hR2]
    repeat' (first|refine EvC.seq ?_|(refine EvC.skip ?_;try simp only[z00,hbw])|(refine EvC.reg ?_;simp (config := { maxSteps := 2000000 }) (disch:=first|omega|rfl) only[sB,Za,reduceCtorEq,z0k,ld37,ia37,z0p,z0o,ld3,cl76,cl70,q4,z01,z04,lr4,z19 hm,Zm,Zc])|(refine EvC.condT ?_ ?_;simp (config := { maxSteps := 2000000 }) (disch:=first|omega|rfl) only[sB,Za,reduceCtorEq,hbw];refine z02 ?_)|(refine EvC.condF ?_ ?_;simp (config := { maxSteps := 2000000 }) (disch:=first|omega|rfl) only[sB,Za,reduceCtorEq,hbw];refine z02 ?_))
    refine(z1d hn w4).mono ?_;rintro v H6 ⟨hx6,b6,rfl,g6⟩
    skip
    refine(z1k (s:=outS) (u:=strS) hx6.wf).mono ?_;rintro v H7 ⟨hx7,b7,rfl,g7⟩;have hx47:=hx6.trans hx7;have g71:=hx47.get w4 g41;have hb:BadR H7 (.ball (perT outS strS n)) _:=z1y (by simp [outS,maxLen,Zf]) (by simp [strS,maxLen,Zf]) (z4s hn (hx7.get hx6.wf g6)) g7
    repeat' (first|(refine EvC.ret ?_;try simp only[z05,z03])|(refine z08 ?_;simp (config := { maxSteps := 2000000 }) (disch:=first|omega|rfl) only[sB,Zb,one,st90,g71]))
    exact z0f rfl (by simp only[sB,Za,reduceCtorEq];rfl) (by simp only[if_true,z0b,ld90];rfl) ⟨Hy.of ((hx04.trans hx47).pt (Ze _) g71 _),_,rfl,hb.put g71 rfl _,(h4.keep hx47 w4).off g71 _⟩
   ·rw[if_neg hm] at hR2;rw[hR2];have h5:=h4.obj8 (ψ:={ φ with put:=n }) rfl rfl;obtain⟨H5,e5⟩:∃H5,H4.put r (some (.row [.slice (some ⟨f,0,none⟩) φ.files.length φ.files.length,.slice (some ⟨l,0,none⟩) φ.opens.length φ.opens.length,.int .i64 φ.next,.string φ.input,.string φ.out,.int .i64 φ.inp,.int .i64 n,.int .i64 φ.written] 39))=H5:=⟨_,rfl⟩
    rw[e5] at h5;have hy5:Hy B H H5:=by rw[←e5];exact(Hy.of hx04).trans (Hy.put w4 h.br go4 _)
    have g51:H5.get H.next=some (.row bad8 90):=by rw[←e5,get_put,if_neg (z0s g41 go4 rfl).symm];exact g41
    repeat' (first|refine EvC.seq ?_|(refine EvC.skip ?_;try simp only[z00,hbw])|(refine EvC.ret ?_)|(refine EvC.reg ?_;simp (config := { maxSteps := 2000000 }) (disch:=first|omega|rfl) only[sB,Za,Zb,Value.cells,one,reduceCtorEq,Zh,layC,st90,z0k,ld37,ia37,z0p,z0o,ld3,st3,za5,bd90,q4,z01,z04,lr4,z0r hm,go4,e5,g51,Zm,Zc])|(refine EvC.condF ?_ ?_;simp (config := { maxSteps := 2000000 }) (disch:=first|omega|rfl) only[sB,Za,reduceCtorEq,hbw];refine z02 ?_))
    exact z0f rfl (by simp only[sB,Za,reduceCtorEq];rfl) (by simp only[if_true,z0b,ld90];rfl) ⟨hy5.pt (Ze _) g51 _,_,rfl,rfl,h5.off g51 _⟩
  ·simp only[if_true];by_cases hm:s.mode=1
   ·rw[if_pos hm] at hR1;rw[hR1];have h5:=h4.obj8 (ψ:={ φ with inp:=n }) rfl rfl;obtain⟨H5,e5⟩:∃H5,H4.put r (some (.row [.slice (some ⟨f,0,none⟩) φ.files.length φ.files.length,.slice (some ⟨l,0,none⟩) φ.opens.length φ.opens.length,.int .i64 φ.next,.string φ.input,.string φ.out,.int .i64 n,.int .i64 φ.put,.int .i64 φ.written] 39))=H5:=⟨_,rfl⟩
    rw[e5] at h5;have hy5:Hy B H H5:=by rw[←e5];exact(Hy.of hx04).trans (Hy.put w4 h.br go4 _)
    have g51:H5.get H.next=some (.row bad8 90):=by rw[←e5,get_put,if_neg (z0s g41 go4 rfl).symm];exact g41
    repeat' (first|refine EvC.seq ?_|(refine EvC.skip ?_;try simp only[z00,hbw])|(refine EvC.ret ?_)|(refine EvC.reg ?_;simp (config := { maxSteps := 2000000 }) (disch:=first|omega|rfl) only[sB,Za,Zb,Value.cells,one,reduceCtorEq,Zh,layC,st90,z0k,ld37,ia37,z0p,z0o,ld3,za4,st3,bd90,q4,z01,z04,lr4,z19 hm,go4,e5,g51,Zn,Zc])|(refine EvC.condT ?_ ?_;simp (config := { maxSteps := 2000000 }) (disch:=first|omega|rfl) only[sB,Za,reduceCtorEq,hbw];refine z02 ?_)|(refine EvC.condF ?_ ?_;simp (config := { maxSteps := 2000000 }) (disch:=first|omega|rfl) only[sB,Za,reduceCtorEq,hbw];refine z02 ?_))
    exact z0f rfl (by simp only[sB,Za,reduceCtorEq];rfl) (by simp only[if_true,z0b,ld90];rfl) ⟨hy5.pt (Ze _) g51 _,_,rfl,rfl,h5.off g51 _⟩
   ·rw[if_neg hm] at hR1;rw[hR1]
    repeat' (first|refine EvC.seq ?_|(refine EvC.skip ?_;try simp only[z00,hbw])|(refine EvC.reg ?_;simp (config := { maxSteps := 2000000 }) (disch:=first|omega|rfl) only[sB,Za,reduceCtorEq,z0k,ld37,ia37,z0p,z0o,ld3,cl76,cl70,q4,z01,z04,lr4,z0r hm,Zm])|(refine EvC.condT ?_ ?_;simp (config := { maxSteps := 2000000 }) (disch:=first|omega|rfl) only[sB,Za,reduceCtorEq,hbw];refine z02 ?_)|(refine EvC.condF ?_ ?_;simp (config := { maxSteps := 2000000 }) (disch:=first|omega|rfl) only[sB,Za,reduceCtorEq,hbw];refine z02 ?_))
    refine(z1d hn w4).mono ?_;rintro v H6 ⟨hx6,b6,rfl,g6⟩
    skip
    refine(z1k (s:=inS) (u:=strS) hx6.wf).mono ?_;rintro v H7 ⟨hx7,b7,rfl,g7⟩;have hx47:=hx6.trans hx7;have g71:=hx47.get w4 g41;have hb:BadR H7 (.ball (perT inS strS n)) _:=z1y (by simp [inS,maxLen,Zf]) (by simp [strS,maxLen,Zf]) (z4s hn (hx7.get hx6.wf g6)) g7
    repeat' (first|(refine EvC.ret ?_;try simp only[z05,z03])|(refine z08 ?_;simp (config := { maxSteps := 2000000 }) (disch:=first|omega|rfl) only[sB,Zb,one,st90,g71]))
    exact z0f rfl (by simp only[sB,Za,reduceCtorEq];rfl) (by simp only[if_true,z0b,ld90];rfl) ⟨Hy.of ((hx04.trans hx47).pt (Ze _) g71 _),_,rfl,hb.put g71 rfl _,(h4.keep hx47 w4).off g71 _⟩
 ·have hgn:=z2q hi;obtain⟨H3,e3,hx3,g3,n3,w3⟩:=z18 w2 (.row bad8 90) (.row (.int .i64 0 :: .bool true :: six (noStrT n) a c) 90);have l3:H3.load ⟨H2.next,0,none⟩ 8=some (.int .i64 0 :: .bool true :: six (noStrT n) a c):=by simp only[Heap.load,Heap.cells,g3];rfl
  repeat' (first|refine EvC.seq ?_|(refine EvC.reg ?_;simp (config := { maxSteps := 2000000 }) (disch:=first|omega|rfl) only[sB,Za,reduceCtorEq,ld90,cl75,l3])|(refine z08 ?_;simp (config := { maxSteps := 2000000 }) (disch:=first|omega|rfl) only[sB,dAlloc,Za,Zb,one,reduceCtorEq,zr90,st90,e3]))
  refine(z0m w3).mono ?_;rintro v H4 ⟨hx4,rfl⟩;have w4:=hx4.wf;have g34:=hx4.get w3 g3;have l4:H4.load ⟨H2.next,0,none⟩ 8=some (.int .i64 0 :: .bool true :: six (noStrT n) a c):=by simp only[Heap.load,Heap.cells,g34];rfl
  have hb:=(hx2.trans hx3).trans hx4;have gb:=hb.get w1 g1;have hR:(if inp=true then φ.setInR n else φ.setOutR n)=(some (noStrT n),φ):=by unfold FSt.setInR FSt.setOutR;rw[hgn];cases inp<;>rfl
  rw[hR]
  repeat' (first|refine EvC.seq ?_|(refine EvC.ret ?_;try simp only[z05,z03])|(refine EvC.reg ?_;simp (config := { maxSteps := 2000000 }) (disch:=first|omega|rfl) only[sB,Za,Zb,one,reduceCtorEq,st90,ld90,l4,gb,Bool.true_or])|(refine EvC.condT ?_ ?_;simp (config := { maxSteps := 2000000 }) (disch:=first|omega|rfl) only[sB,Za,reduceCtorEq,Bool.true_or];refine z02 ?_))
  exact z0f rfl (by simp only[sB,Za,reduceCtorEq];rfl) (by simp only[if_true,z0b,ld90];rfl) ⟨Hy.of ((hx1.trans hb).pt (Ze _) gb _),_,rfl,⟨a,c,rfl,(hk.keep (hx3.trans hx4) w2).put gb rfl _⟩,(h1.keep hb w1).off gb _⟩
end Go.Proofs.hq
end

section
namespace Go.Proofs.hq
open Go Go.RowKit Go.Hb
variable {ok:Ok}
set_option maxRecDepth 10000
attribute [local irreducible] LX LG EL STG SOP SGO SGD SAL SRD SEF SEG SLK SCK ES
theorem zke:apOk Tryz.prog 37 84 10:=z6u (by kernel_rfl)
theorem z6o (l:List (Int × Strm)):(rowO l).all one=true:=by
 induction l with
 |nil=>rfl
 |cons x l ih =>
  have e0:rowO (x :: l)=x.2.row10++rowO l:=rfl;rw[e0,List.all_append,ih];rfl
theorem zgn (a b:List (Int × Strm)):rowO (a++b)=rowO a++rowO b:=List.flatMap_append
theorem zkf {l:List (Int × Strm)}(i:Nat):(rowO l).take (i*10)=rowO (l.take i):=by
 induction l generalizing i with
 |nil=>simp
 |cons x l ih =>
  cases i with
  |zero=>simp
  |succ i =>
   have e0:rowO (x :: l)=x.2.row10++rowO l:=rfl;rw[e0,List.take_succ_cons,List.take_append];have e1:rowO (x :: l.take i)=x.2.row10++rowO (l.take i):=rfl;rw[e1,Zx (by simp;omega)];have e2:(i+1)*10 - x.2.row10.length=i*10:=by simp;omega
   rw[e2,ih]
theorem zkg {l:List (Int × Strm)}(i:Nat):(rowO l).drop (i*10)=rowO (l.drop i):=by
 induction l generalizing i with
 |nil=>simp
 |cons x l ih =>
  cases i with
  |zero=>simp
  |succ i =>
   have e0:rowO (x :: l)=x.2.row10++rowO l:=rfl;rw[e0,List.drop_succ_cons,List.drop_append];rw[List.drop_of_length_le (by simp;omega),List.nil_append];have e2:(i+1)*10 - x.2.row10.length=i*10:=by simp;omega
   rw[e2,ih]
theorem zda {H:Heap}{l:Nat}{L:List (Int × Strm)}{i m:Nat}(g:H.get l=some (.row (rowO L) 84)) (h:i+m≤L.length):H.load ⟨l,i*10,none⟩ (m*10)=some (rowO ((L.drop i).take m)):=by
 have e:((rowO L).drop (i*10)).take (m*10)=rowO ((L.drop i).take m):=by rw[zkg,zkf]
 have hl:(rowO ((L.drop i).take m)).length=m*10:=by rw[z6n,List.length_take,List.length_drop];omega
 simp only[Heap.load,Heap.cells,g,e,hl];simp
set_option maxHeartbeats 16000000 in
theorem zhu {H:Heap}{B:Nat→Prop}{r f l:Nat}{φ:FSt}{n:Int}(h:RfB H B r f l φ) (hI:RIn φ) (hw:H.wf) (hn:i64 n) (hcon:∀s,φ.get n=some s→s.con=decide (n < 2)) (hB:∀i,H.next≤i→B i) :
  EvF Tryz.prog okT 33 [ptrV r,.int .i64 n] H fun v H'=>Hy B H H'∧∃bs,v=.agg ⟨bs⟩∧BadR H' (BadV.of (φ.closeR n).1) bs∧∃l',RfB H' B r f l' (φ.closeR n).2:=by
 refine EvF.enter rfl Tryz.func33 (by decide) rfl ?_;have hno:=hI.no;have hnf:=hI.nf;(repeat refine EvC.seq ?_);refine EvC.reg ?_;simp (config := { maxSteps := 2000000 }) (disch:=first|omega|rfl) only[sA,initTm,dAlloc,zr90];obtain⟨H1,e1,hx1,g1,n1,w1⟩:=new1 hw (.row bad8 90);simp only[e1];clear e1;have h1:=h.keep hx1 hw
 repeat' (first|refine EvC.seq ?_|(refine EvC.reg ?_;simp (config := { maxSteps := 2000000 }) (disch:=first|omega|rfl) only[sB,Za,reduceCtorEq,cl74]))
 refine(z4j h1 w1 hn (by omega)).mono ?_;rintro v H2 ⟨hx2,bs,hor⟩;have w2:=hx2.wf;have g2:=hx2.get w1 g1;have h2:=h1.keep hx2 w1;rcases hor with ⟨i,hi,rfl,rfl⟩|⟨hi,rfl,a,c,rfl,hk⟩
 ·obtain⟨hil,hgt,hkey⟩:=z2w hi;obtain⟨H3,e3,hx3,g3,n3,w3⟩:=z18 w2 (.row bad8 90) (.row bad8 90);have l3:H3.load ⟨H2.next,0,none⟩ 8=some bad8:=by simp only[Heap.load,Heap.cells,g3];rfl
  have hbw:(false || ((0:Int) != 0))=false:=rfl
  repeat' (first|refine EvC.seq ?_|(refine EvC.reg ?_;simp (config := { maxSteps := 2000000 }) (disch:=first|omega|rfl) only[sB,Za,reduceCtorEq,ld90,cl75,l3])|(refine z08 ?_;simp (config := { maxSteps := 2000000 }) (disch:=first|omega|rfl) only[sB,dAlloc,Za,Zb,one,reduceCtorEq,zr90,st90,e3]))
  refine(z0m w3).mono ?_;rintro v H4 ⟨hx4,rfl⟩;have w4:=hx4.wf;have hx24:=hx3.trans hx4;have hx04:=hx1.trans (hx2.trans hx24);have h4:=h2.keep hx24 w2;have g41:=hx24.get w2 g2;have g43:=hx4.get w3 g3;have l43:H4.load ⟨H2.next,0,none⟩ 8=some bad8:=by simp only[Heap.load,Heap.cells,g43];rfl
  have hc2:=hcon _ hgt;by_cases c1:n < 2
  ·rw[decide_eq_true c1] at hc2;have hR:φ.closeR n=(none,φ):=by unfold FSt.closeR;rw[hgt];simp only[hc2,if_true]
   rw[hR]
   repeat' (first|refine EvC.seq ?_|(refine EvC.ret ?_;try simp only[z05,z03])|(refine EvC.reg ?_;simp (config := { maxSteps := 2000000 }) (disch:=first|omega|rfl) only[sB,Za,Zb,one,reduceCtorEq,st90,ld90,l43,g41])|(refine zhg ?_;simp (config := { maxSteps := 2000000 }) (disch:=first|omega|rfl) only[sB,Za,reduceCtorEq,hbw,decide_eq_true c1,Zc])|(refine EvC.condT ?_ ?_;simp (config := { maxSteps := 2000000 }) (disch:=first|omega|rfl) only[sB,Za,reduceCtorEq];refine z02 ?_))
   exact z0f rfl (by simp only[sB,Za,reduceCtorEq];rfl) (by simp only[if_true,z0b,ld90];rfl) ⟨Hy.of (hx04.pt (Ze _) g41 _),_,rfl,rfl,_,h4.off g41 _⟩
  rw[decide_eq_false c1] at hc2;have hR:φ.closeR n=(none,{ φ.drop n with inp:=if φ.inp=n then 0 else φ.inp,put:=if φ.put=n then 1 else φ.put }):=by unfold FSt.closeR;rw[hgt];simp only[hc2,Zc,if_false]
  rw[hR];have hdr:(φ.drop n).opens=φ.opens.take i++φ.opens.drop (i+1):=by
   unfold FSt.drop;simp only;rw[←z4r _ _ i hi,List.eraseIdx_eq_take_drop_succ]
  have go4:=h4.obj;have q4:=row8 go4;obtain⟨H5,e5,hx5,g5,w5⟩:=zo3 w4 20 1 (by omega) (.row [] 84);have h5:=h4.keep hx5 w4;have q5:=row8 h5.obj;have sl1:=fun G=>ziw (P:=Tryz.prog) (H:=G) (t:=37) (e:=84) (s:=10) (a:=some ⟨l,0,none⟩) (n:=φ.opens.length) (c:=φ.opens.length) (m:=i) (k:=.i64) sl37 (by omega)
  have ld1:0 < i→∃x,some (⟨l,0,none⟩:Addr)=some x∧H5.load x (i*10)=some (rowO (φ.opens.take i)):=fun _=>⟨_,rfl,by have:=zda (i:=0) (m:=i) h5.ls (by omega);simpa using this⟩
  obtain⟨b6,H6,ap1,g6,hb6,hk6,-,n56⟩:=zak (n:=0) (m:=i) (c':=φ.opens.length) zke (by unfold most;omega) ld1 (fun q=>by rw[q];rfl) (z6o _) g5 rfl rfl;rw[Nat.zero_add] at ap1;rw[List.nil_append] at g6;have hx46:HX H4 H6:=hk6 H4 (Nat.le_succ _) hx5;have w6:=hx46.wf;have h6:=h4.keep hx46 w4;have q6:=row8 h6.obj;have n5:=hx5.next;have b6l:H4.next≤b6:=by rcases hb6 with rfl|rfl<;>omega
  obtain⟨a7,c7,slA,ha7⟩:=zos (P:=Tryz.prog) (t:=37) (e:=84) (s:=10) (b:=l) (n:=φ.opens.length) (l:=i+1) (k:=.i64) sl37 (by omega) (by omega);have sl2:=slA H6 _ h6.ls;have sl3:=slA ⟨H4.next+20,H4.t⟩ _ h4.ls;have sl4:=slA H5 _ h5.ls;have hw1:IntKind.i64.wrap ((i:Int)+1)=((i+1:Nat):Int):=by rw[z0e]<;>omega
  have ld2:0 < φ.opens.length - (i+1)→∃x,a7=some x∧H6.load x ((φ.opens.length - (i+1))*10)=some (rowO (φ.opens.drop (i+1))):=fun q=>⟨_,ha7 q,by
   have:=zda (i:=i+1) (m:=φ.opens.length - (i+1)) h6.ls (by omega);rw[Zx (by simp)] at this;exact this⟩
  obtain⟨b7,H7,ap2,g7,hb7,hk7,-,n67⟩:=zak (n:=i) (m:=φ.opens.length - (i+1)) (c':=c7) zke (by unfold most;omega) ld2 (fun q=>by rw[List.drop_of_length_le (by omega)];rfl) (z6o _) g6 (by rw[z6n,List.length_take];omega) (z6o _);have hx47:HX H4 H7:=hk7 H4 b6l hx46;have w7:=hx47.wf;have h7:=h4.keep hx47 w4;have go7:=h7.obj;have g71:=hx47.get w4 g41;have n6:=hx46.next;have b7l:H4.next≤b7:=by rcases hb7 with rfl|rfl<;>omega
  rw[←zgn,←hdr] at g7;have hlen:i+(φ.opens.length - (i+1))=(φ.drop n).opens.length:=by rw[hdr,Zu,List.length_take,List.length_drop];omega
  rw[hlen] at ap2;obtain⟨H8,e8⟩:∃H8,H7.put r (some (.row [.slice (some ⟨f,0,none⟩) φ.files.length φ.files.length,.slice (some ⟨b7,0,none⟩) (φ.drop n).opens.length (φ.drop n).opens.length,.int .i64 φ.next,.string φ.input,.string φ.out,.int .i64 φ.inp,.int .i64 φ.put,.int .i64 φ.written] 39))=H8:=⟨_,rfl⟩
  have nrf:f≠r:=fun e=>by have:=h7.fs;rw[e,go7] at this;simp at this
  have nr7:b7≠r:=fun e=>by have:=w4 _ _ go4;omega
  have h8:RfB H8 B r f b7 (φ.drop n):=⟨by rw[←e8,get_put,if_pos rfl];rfl,by rw[←e8,get_put,if_neg nrf];exact h7.fs,by rw[←e8,get_put,if_neg nr7];exact g7,fun o ho=>h.ids o (List.mem_of_mem_eraseP ho),h.br,h.bf,hB _ (by have:=hx04.next;omega)⟩
  have hy8:Hy B H H8:=by rw[←e8];exact(Hy.of (hx04.trans hx47)).trans (Hy.put w7 h.br go7 _)
  have g81:H8.get H.next=some (.row bad8 90):=by rw[←e8,get_put,if_neg (z0s g71 go7 rfl).symm];exact g71
  have go8:H8.get r=some (.row [.slice (some ⟨f,0,none⟩) φ.files.length φ.files.length,.slice (some ⟨b7,0,none⟩) (φ.drop n).opens.length (φ.drop n).opens.length,.int .i64 φ.next,.string φ.input,.string φ.out,.int .i64 φ.inp,.int .i64 φ.put,.int .i64 φ.written] 39):=h8.obj;have q8:=row8 go8;have h9:=h8.obj8 (ψ:={ φ.drop n with inp:=0 }) rfl rfl;obtain⟨H9,e9⟩:∃H9,H8.put r (some (.row [.slice (some ⟨f,0,none⟩) φ.files.length φ.files.length,.slice (some ⟨b7,0,none⟩) (φ.drop n).opens.length (φ.drop n).opens.length,.int .i64 φ.next,.string φ.input,.string φ.out,.int .i64 0,.int .i64 φ.put,.int .i64 φ.written] 39))=H9:=⟨_,rfl⟩
  have h9':RfB H9 B r f b7 { φ.drop n with inp:=0 }:=by rw[←e9];exact h9
  have hy9:Hy B H H9:=by rw[←e9];exact hy8.trans (Hy.put hy8.1 h.br go8 _)
  have g91:H9.get H.next=some (.row bad8 90):=by rw[←e9,get_put,if_neg (z0s g81 go8 rfl).symm];exact g81
  have go9:H9.get r=some (.row [.slice (some ⟨f,0,none⟩) φ.files.length φ.files.length,.slice (some ⟨b7,0,none⟩) (φ.drop n).opens.length (φ.drop n).opens.length,.int .i64 φ.next,.string φ.input,.string φ.out,.int .i64 0,.int .i64 φ.put,.int .i64 φ.written] 39):=h9'.obj;have q9:=row8 go9;by_cases c2:φ.inp=n<;>by_cases c3:φ.put=n
  ·have h10:=h9'.obj8 (ψ:={ φ.drop n with inp:=0,put:=1 }) rfl rfl;obtain⟨H10,e10⟩:∃H10,H9.put r (some (.row [.slice (some ⟨f,0,none⟩) φ.files.length φ.files.length,.slice (some ⟨b7,0,none⟩) (φ.drop n).opens.length (φ.drop n).opens.length,.int .i64 φ.next,.string φ.input,.string φ.out,.int .i64 0,.int .i64 1,.int .i64 φ.written] 39))=H10:=⟨_,rfl⟩
   have h10':RfB H10 B r f b7 { φ.drop n with inp:=0,put:=1 }:=by rw[←e10];exact h10
   have hy10:Hy B H H10:=by rw[←e10];exact hy9.trans (Hy.put hy9.1 h.br go9 _)
   have g101:H10.get H.next=some (.row bad8 90):=by rw[←e10,get_put,if_neg (z0s g91 go9 rfl).symm];exact g91
   repeat' (first|refine EvC.seq ?_|(refine EvC.skip ?_;try simp only[z00])|(refine EvC.ret ?_)|(refine EvC.reg ?_;simp (config := { maxSteps := 2000000 }) (disch:=first|omega|rfl) only[sB,Za,Zb,Value.cells,one,reduceCtorEq,Zh,layC,st90,za4,ld3,st3,za5,bd90,z01,z04,q8,go8,z19 c2,e9,q9,go9,z19 c3,e10,g101])|(refine EvC.drw [([(1,0),(2,0),(3,0),(4,0),(5,0),(6,0),(7,0)],some 8),([(9,0),(10,0),(11,0),(12,0),(13,0),(14,0),(15,0)],some 16),([(0,0),(17,2),(18,2)],some 19),([],none)] ?_ ?_;kernel_rfl;simp (config := { maxSteps := 2000000 }) (disch:=first|omega|rfl) only[sV,sD,sB,Za,Zb,Value.cells,one,reduceCtorEq,Zh,layC,zfv,z0k,ld37,st37,q4,z01,z04,sl1,e5,ap1,q6,hw1,sl2,sl3,ap2,go7,e8,isAlloc,isRead,dalloc])|(refine zhg ?_;simp (config := { maxSteps := 2000000 }) (disch:=first|omega|rfl) only[sB,Za,reduceCtorEq,hbw,decide_eq_false c1,Zc])|(refine EvC.condT ?_ ?_;simp (config := { maxSteps := 2000000 }) (disch:=first|omega|rfl) only[sB,Za,reduceCtorEq];refine z02 ?_)|(refine EvC.condF ?_ ?_;simp (config := { maxSteps := 2000000 }) (disch:=first|omega|rfl) only[sB,Za,reduceCtorEq];refine z02 ?_))
   exact z0f rfl (by simp only[sB,Za,reduceCtorEq];rfl) (by simp only[if_true,z0b,ld90];rfl) ⟨hy10.pt (Ze _) g101 _,_,rfl,rfl,_,by rw[if_pos c2,if_pos c3];exact h10'.off g101 _⟩
  ·repeat' (first|refine EvC.seq ?_|(refine EvC.skip ?_;try simp only[z00])|(refine EvC.ret ?_)|(refine EvC.reg ?_;simp (config := { maxSteps := 2000000 }) (disch:=first|omega|rfl) only[sB,Za,Zb,Value.cells,one,reduceCtorEq,Zh,layC,st90,za4,ld3,st3,za5,bd90,z01,z04,q8,go8,z19 c2,e9,q9,z0r c3,g91])|(refine EvC.drw [([(1,0),(2,0),(3,0),(4,0),(5,0),(6,0),(7,0)],some 8),([(9,0),(10,0),(11,0),(12,0),(13,0),(14,0),(15,0)],some 16),([(0,0),(17,2),(18,2)],some 19),([],none)] ?_ ?_;kernel_rfl;simp (config := { maxSteps := 2000000 }) (disch:=first|omega|rfl) only[sV,sD,sB,Za,Zb,Value.cells,one,reduceCtorEq,Zh,layC,zfv,z0k,ld37,st37,q4,z01,z04,sl1,e5,ap1,q6,hw1,sl2,sl3,ap2,go7,e8,isAlloc,isRead,dalloc])|(refine zhg ?_;simp (config := { maxSteps := 2000000 }) (disch:=first|omega|rfl) only[sB,Za,reduceCtorEq,hbw,decide_eq_false c1,Zc])|(refine EvC.condT ?_ ?_;simp (config := { maxSteps := 2000000 }) (disch:=first|omega|rfl) only[sB,Za,reduceCtorEq];refine z02 ?_)|(refine EvC.condF ?_ ?_;simp (config := { maxSteps := 2000000 }) (disch:=first|omega|rfl) only[sB,Za,reduceCtorEq];refine z02 ?_))
   exact z0f rfl (by simp only[sB,Za,reduceCtorEq];rfl) (by simp only[if_true,z0b,ld90];rfl) ⟨hy9.pt (Ze _) g91 _,_,rfl,rfl,_,by rw[if_pos c2,if_neg c3];exact h9'.off g91 _⟩
  ·have h10:=h8.obj8 (ψ:={ φ.drop n with put:=1 }) rfl rfl;obtain⟨H10,e10⟩:∃H10,H8.put r (some (.row [.slice (some ⟨f,0,none⟩) φ.files.length φ.files.length,.slice (some ⟨b7,0,none⟩) (φ.drop n).opens.length (φ.drop n).opens.length,.int .i64 φ.next,.string φ.input,.string φ.out,.int .i64 φ.inp,.int .i64 1,.int .i64 φ.written] 39))=H10:=⟨_,rfl⟩
   have h10':RfB H10 B r f b7 { φ.drop n with put:=1 }:=by rw[←e10];exact h10
   have hy10:Hy B H H10:=by rw[←e10];exact hy8.trans (Hy.put hy8.1 h.br go8 _)
   have g101:H10.get H.next=some (.row bad8 90):=by rw[←e10,get_put,if_neg (z0s g81 go8 rfl).symm];exact g81
   repeat' (first|refine EvC.seq ?_|(refine EvC.skip ?_;try simp only[z00])|(refine EvC.ret ?_)|(refine EvC.reg ?_;simp (config := { maxSteps := 2000000 }) (disch:=first|omega|rfl) only[sB,Za,Zb,Value.cells,one,reduceCtorEq,Zh,layC,st90,za4,ld3,st3,za5,bd90,z01,z04,q8,go8,z0r c2,z19 c3,e10,g101])|(refine EvC.drw [([(1,0),(2,0),(3,0),(4,0),(5,0),(6,0),(7,0)],some 8),([(9,0),(10,0),(11,0),(12,0),(13,0),(14,0),(15,0)],some 16),([(0,0),(17,2),(18,2)],some 19),([],none)] ?_ ?_;kernel_rfl;simp (config := { maxSteps := 2000000 }) (disch:=first|omega|rfl) only[sV,sD,sB,Za,Zb,Value.cells,one,reduceCtorEq,Zh,layC,zfv,z0k,ld37,st37,q4,z01,z04,sl1,e5,ap1,q6,hw1,sl2,sl3,ap2,go7,e8,isAlloc,isRead,dalloc])|(refine zhg ?_;simp (config := { maxSteps := 2000000 }) (disch:=first|omega|rfl) only[sB,Za,reduceCtorEq,hbw,decide_eq_false c1,Zc])|(refine EvC.condT ?_ ?_;simp (config := { maxSteps := 2000000 }) (disch:=first|omega|rfl) only[sB,Za,reduceCtorEq];refine z02 ?_)|(refine EvC.condF ?_ ?_;simp (config := { maxSteps := 2000000 }) (disch:=first|omega|rfl) only[sB,Za,reduceCtorEq];refine z02 ?_))
   exact z0f rfl (by simp only[sB,Za,reduceCtorEq];rfl) (by simp only[if_true,z0b,ld90];rfl) ⟨hy10.pt (Ze _) g101 _,_,rfl,rfl,_,by rw[if_neg c2,if_pos c3];exact h10'.off g101 _⟩
  ·repeat' (first|refine EvC.seq ?_|(refine EvC.skip ?_;try simp only[z00])|(refine EvC.ret ?_)|(refine EvC.reg ?_;simp (config := { maxSteps := 2000000 }) (disch:=first|omega|rfl) only[sB,Za,Zb,Value.cells,one,reduceCtorEq,layC,st90,za4,ld3,za5,bd90,z01,z04,q8,z0r c2,z0r c3,g81])|(refine EvC.drw [([(1,0),(2,0),(3,0),(4,0),(5,0),(6,0),(7,0)],some 8),([(9,0),(10,0),(11,0),(12,0),(13,0),(14,0),(15,0)],some 16),([(0,0),(17,2),(18,2)],some 19),([],none)] ?_ ?_;kernel_rfl;simp (config := { maxSteps := 2000000 }) (disch:=first|omega|rfl) only[sV,sD,sB,Za,Zb,Value.cells,one,reduceCtorEq,Zh,layC,zfv,z0k,ld37,st37,q4,z01,z04,sl1,e5,ap1,q6,hw1,sl2,sl3,ap2,go7,e8,isAlloc,isRead,dalloc])|(refine zhg ?_;simp (config := { maxSteps := 2000000 }) (disch:=first|omega|rfl) only[sB,Za,reduceCtorEq,hbw,decide_eq_false c1,Zc])|(refine EvC.condF ?_ ?_;simp (config := { maxSteps := 2000000 }) (disch:=first|omega|rfl) only[sB,Za,reduceCtorEq];refine z02 ?_))
   exact z0f rfl (by simp only[sB,Za,reduceCtorEq];rfl) (by simp only[if_true,z0b,ld90];rfl) ⟨hy8.pt (Ze _) g81 _,_,rfl,rfl,_,by rw[if_neg c2,if_neg c3];exact h8.off g81 _⟩
 ·have hgn:=z2q hi;obtain⟨H3,e3,hx3,g3,n3,w3⟩:=z18 w2 (.row bad8 90) (.row (.int .i64 0 :: .bool true :: six (noStrT n) a c) 90);have l3:H3.load ⟨H2.next,0,none⟩ 8=some (.int .i64 0 :: .bool true :: six (noStrT n) a c):=by simp only[Heap.load,Heap.cells,g3];rfl
  repeat' (first|refine EvC.seq ?_|(refine EvC.reg ?_;simp (config := { maxSteps := 2000000 }) (disch:=first|omega|rfl) only[sB,Za,reduceCtorEq,ld90,cl75,l3])|(refine z08 ?_;simp (config := { maxSteps := 2000000 }) (disch:=first|omega|rfl) only[sB,dAlloc,Za,Zb,one,reduceCtorEq,zr90,st90,e3]))
  refine(z0m w3).mono ?_;rintro v H4 ⟨hx4,rfl⟩;have w4:=hx4.wf;have g34:=hx4.get w3 g3;have l4:H4.load ⟨H2.next,0,none⟩ 8=some (.int .i64 0 :: .bool true :: six (noStrT n) a c):=by simp only[Heap.load,Heap.cells,g34];rfl
  have hb:=(hx2.trans hx3).trans hx4;have gb:=hb.get w1 g1;have hR:φ.closeR n=(some (noStrT n),φ):=by unfold FSt.closeR;rw[hgn]
  rw[hR]
  repeat' (first|refine EvC.seq ?_|(refine EvC.ret ?_;try simp only[z05,z03])|(refine EvC.reg ?_;simp (config := { maxSteps := 2000000 }) (disch:=first|omega|rfl) only[sB,Za,Zb,one,reduceCtorEq,st90,ld90,l4,gb])|(refine zhg ?_;simp (config := { maxSteps := 2000000 }) (disch:=first|omega|rfl) only[sB,Za,reduceCtorEq,Bool.true_or])|(refine EvC.condT ?_ ?_;simp (config := { maxSteps := 2000000 }) (disch:=first|omega|rfl) only[sB,Za,reduceCtorEq];refine z02 ?_))
  exact z0f rfl (by simp only[sB,Za,reduceCtorEq];rfl) (by simp only[if_true,z0b,ld90];rfl) ⟨Hy.of ((hx1.trans hb).pt (Ze _) gb _),_,rfl,⟨a,c,rfl,(hk.keep (hx3.trans hx4) w2).put gb rfl _⟩,_,(h1.keep hb w1).off gb _⟩
end Go.Proofs.hq
end

section
namespace Go.Hb
open Go Go.RowKit
theorem zbl:∀(x y:List UInt8),Op.bytesLess x y=decide (x < y)
 |[],[]=>rfl
 |[],_ :: _=>rfl
 |_ :: _,[]=>rfl
 |a :: x,b :: y=>by
  unfold Op.bytesLess;rw[zbl x y,Bool.eq_iff_iff];simp only[Bool.or_eq_true,Zi,decide_eq_true_eq,beq_iff_eq,List.cons_lt_cons_iff]
abbrev leN (x y:ByteArray × ByteArray):Prop:=x.1.data.toList≤y.1.data.toList
theorem zot {x y:ByteArray × ByteArray}(h:Op.bytesLess x.1.toList y.1.toList=true):leN x y:=by
 rw[z1m,z1m,zbl,decide_eq_true_eq] at h;exact List.le_of_lt h
theorem zma {x y:ByteArray × ByteArray}(h:Op.bytesLess x.1.toList y.1.toList=false):leN y x:=by
 rw[z1m,z1m,zbl,decide_eq_false_iff_not] at h;exact List.not_lt.1 h
structure InsI (M:List (ByteArray × ByteArray)) (i k:Nat):Prop where
 ki:k≤i
 lt:i < M.length
 s1:∀a b x y,a < b→b≤i→a≠k→b≠k→M[a]?=some x→M[b]?=some y→leN x y
 s2:∀b x y,k < b→b≤i→M[k]?=some x→M[b]?=some y→leN x y
def Srt (M:List (ByteArray × ByteArray)) (i:Nat):Prop:=∀a b x y,a < b→b < i→M[a]?=some x→M[b]?=some y→leN x y
theorem Srt.ins {M:List (ByteArray × ByteArray)}{i:Nat}(h:Srt M i) (hi:i < M.length):InsI M i i :=
 ⟨Ze _,hi,fun a b x y hab hb _ hbk hx hy=>h a b x y hab (by omega) hx hy,fun b x y hb hbi=>by omega⟩
theorem InsI.done {M:List (ByteArray × ByteArray)}{i k:Nat}(h:InsI M i k) (hk:k=0∨∃x y,M[k]?=some x∧M[k - 1]?=some y∧leN y x):Srt M (i+1):=by
 intro a b x y hab hb hx hy;by_cases ha:a=k
 ·subst ha;exact h.s2 b x y hab (by omega) hx hy
 ·by_cases hbk:b=k
  ·subst hbk;rcases hk with rfl|⟨u,w,hu,hw,hle⟩
   ·omega
   ·rw[hu] at hy;cases hy;by_cases hak:a=b - 1
    ·rw[hak,hw] at hx;cases hx;exact hle
    ·exact List.le_trans (h.s1 a (b - 1) x w (by omega) (by have:=h.ki;omega) ha (by omega) hx hw) hle
  ·exact h.s1 a b x y hab (by omega) ha hbk hx hy
theorem InsI.step {M:List (ByteArray × ByteArray)}{i k:Nat}{u w:ByteArray × ByteArray}(h:InsI M i k) (h0:0 < k) (hu:M[k]?=some u) (hw:M[k - 1]?=some w) (hle:leN u w):InsI ((M.set k w).set (k - 1) u) i (k - 1)∧((M.set k w).set (k - 1) u).Perm M:=by
 have hki:=h.ki;have hlt:=h.lt;have g:∀j,((M.set k w).set (k - 1) u)[j]?=if j=k - 1 then some u else if j=k then some w else M[j]?:=fun j=>by
  rw[List.getElem?_set,List.getElem?_set];by_cases j1:k - 1=j
  ·rw[if_pos j1,if_pos j1.symm,if_pos (by rw[List.length_set];omega)]
  ·rw[if_neg j1,if_neg (show ¬j=k - 1 from fun q=>j1 q.symm)];by_cases j2:k=j
   ·rw[if_pos j2,if_pos j2.symm,if_pos (by omega)]
   ·rw[if_neg j2,if_neg (show ¬j=k from fun q=>j2 q.symm)]
 refine⟨⟨by omega,by rw[List.length_set,List.length_set];exact hlt,fun a b x y hab hb ha hbk hx hy=>?_,fun b x y hb hbi hx hy=>?_⟩,?_⟩
 ·rw[g,if_neg ha] at hx;rw[g,if_neg hbk] at hy;by_cases a1:a=k
  ·rw[if_pos a1] at hx;cases hx;rw[if_neg (by omega)] at hy;exact h.s1 (k - 1) b w y (by omega) hb (by omega) (by omega) hw hy
  ·rw[if_neg a1] at hx;by_cases b1:b=k
   ·rw[if_pos b1] at hy;cases hy;exact h.s1 a (k - 1) x w (by omega) (by omega) a1 (by omega) hx hw
   ·rw[if_neg b1] at hy;exact h.s1 a b x y hab hb a1 b1 hx hy
 ·rw[g,if_pos rfl] at hx;cases hx;rw[g,if_neg (by omega)] at hy;by_cases b1:b=k
  ·rw[if_pos b1] at hy;cases hy;exact hle
  ·rw[if_neg b1] at hy;exact h.s2 b u y (by omega) hbi hu hy
 ·have e1:M[k]=u:=by rw[Zd (by omega)] at hu;exact Option.some.inj hu
  have e2:M[k - 1]=w:=by rw[Zd (by omega)] at hw;exact Option.some.inj hw
  have:=@List.set_set_perm _ M k (k - 1) (by omega) (by omega);rw[e1,e2] at this;exact this
end Go.Hb
namespace Go.Proofs.hq
open Go Go.RowKit Go.Hb
variable {ok:Ok}
set_option maxRecDepth 10000
attribute [local irreducible] LX LG EL STG SOP SGO SGD SAL SRD SEF SEG SLK SCK ES
theorem z7w {u:ByteArray × ByteArray}:∀{l:List (ByteArray × ByteArray)}{i:Nat},i < l.length→Hb.splice (rowF l) (i*2) [.string u.1,.string u.2]=rowF (l.set i u)
 |[],i,h=>by simp at h
 |y :: l,0,h=>rfl
 |y :: l,i+1,h=>by
  have ih:=z7w (u:=u) (l:=l) (i:=i) (by simpa using h);rw[List.set_cons_succ];have e:(i+1)*2=i*2+2:=by omega
  rw[e];show Hb.splice (.string y.1 :: .string y.2 :: rowF l) (i*2+2) [.string u.1,.string u.2]=.string y.1 :: .string y.2 :: rowF (l.set i u);rw[zah (.string y.1) (.string y.2) (.string y.1),ih]
theorem zmb {l:List (ByteArray × ByteArray)}:∀{i:Nat}{x:ByteArray × ByteArray},l[i]?=some x→((rowF l).drop (i*2)).take 2=[.string x.1,.string x.2]:=by
 induction l with
 |nil=>intro i x h;simp at h
 |cons y l ih =>
  intro i x h;cases i with
  |zero=>simp at h;subst h;rfl
  |succ i =>
   have e:(i+1)*2=i*2+2:=by omega
   rw[e];show ((.string y.1 :: .string y.2 :: rowF l:List Value).drop (i*2+2)).take 2=_;rw[List.drop_succ_cons,List.drop_succ_cons];exact ih (by simpa using h)
theorem z6p {H:Heap}{b i:Nat}{l:List (ByteArray × ByteArray)}{T:TypeId}{x:ByteArray × ByteArray}(hg:H.get b=some (.row (rowF l) T)) (h:l[i]?=some x):H.load ⟨b,i*2,none⟩ 2=some [.string x.1,.string x.2]:=by
 simp only[Heap.load,Heap.cells,hg,zmb h];rfl
theorem zkh {φ:FSt}{L:List (ByteArray × ByteArray)}(hfd:(φ.files.map (·.1)).Nodup) (hp:L.Perm φ.files) (hs:Srt L L.length):L=φ.sorted:=by
 have hel:∀x∈L,(⟨⟨x.1.data.toList⟩⟩,φ.fileD ⟨⟨x.1.data.toList⟩⟩)=x:=fun x hx=>by
  have hx':=hp.mem_iff.1 hx;have e1:(⟨⟨x.1.data.toList⟩⟩:ByteArray)=x.1:=by cases x with|mk a b=>cases a with|mk d=>cases d with|mk l=>rfl
  rw[e1];have:φ.fileD x.1=x.2:=by
   unfold FSt.fileD FSt.file;cases hf:φ.files.find? fun o=>x.1 == o.1 with
   |none=>have:=List.find?_eq_none.1 hf x hx';rw[z1z.2 rfl] at this;exact absurd rfl this
   |some y =>
    have hy:=List.mem_of_find?_eq_some hf;have he:x.1=y.1:=z1z.1 (List.find?_some (p:=fun o:ByteArray × ByteArray=>x.1 == o.1) hf);obtain⟨i,hi⟩:=List.mem_iff_getElem?.1 hx';obtain⟨j,hj⟩:=List.mem_iff_getElem?.1 hy;have hil:=(List.getElem?_eq_some_iff.1 hi).1;have hij:i=j:=(List.getElem?_inj (by rw[Zv];exact hil) hfd).1 (by rw[Zr,Zr,hi,hj];simp [he]);subst hij;rw[hi] at hj;rw[Option.some.inj hj];rfl
  rw[this]
 have hn:L.map (fun x=>x.1.data.toList)=(φ.files.map fun x=>x.1.data.toList).mergeSort leB:=by
  rw[←mergeSort_of_perm (hp.map _)];refine(List.mergeSort_of_pairwise ?_).symm;rw[List.pairwise_iff_getElem];intro i j hi hj hij;rw[Zv] at hi hj;simp only[List.getElem_map,decide_eq_true_eq];exact hs i j L[i] L[j] hij hj (Zd hi) (Zd hj)
 unfold FSt.sorted;rw[←hn,ZJ];have:L=L.map id:=(List.map_id L).symm
 conv=>lhs;rw[this]
 exact List.map_congr_left fun x hx=>(hel x hx).symm
set_option maxHeartbeats 16000000 in
theorem zeh {H:Heap}{B:Nat→Prop}{r f l:Nat}{φ:FSt}(h:RfB H B r f l φ) (hw:H.wf) (hm:φ.files.length≤16) (hfd:(φ.files.map (·.1)).Nodup) :
  EvF Tryz.prog okT 46 [ptrV r] H fun v H'=>HX H H'∧OutF H' φ.sorted v H.next:=by
 refine EvF.enter rfl Tryz.func46 (by decide) rfl ?_;obtain⟨H1,e1,hx1,g1,n1,w1⟩:=new1 hw (.row [] 73);have h1:=h.keep hx1 hw;have q1:=row8 h1.obj;have ld1:0 < φ.files.length→∃x,some (⟨f,0,none⟩:Addr)=some x∧H1.load x (φ.files.length*2)=some (rowF φ.files):=fun _=>⟨_,rfl,by
  have e:(rowF φ.files).take (φ.files.length*2)=rowF φ.files:=Zx (by rw[z43];omega);have e2:=z43 φ.files;simp only[Heap.load,Heap.cells,h1.fs,List.drop_zero,e,e2];simp⟩
 obtain⟨b,H2,ap1,g2,hb2,hk2,-,n12⟩:=zak (n:=0) (m:=φ.files.length) (c':=φ.files.length) zd6 (by unfold most;omega) ld1 (fun q=>by rw[List.eq_nil_of_length_eq_zero q];rfl) (z6m _) g1 rfl rfl;rw[Nat.zero_add] at ap1;rw[List.nil_append] at g2;have hx2:HX H H2:=hk2 H (Ze _) hx1;have hbl:H.next≤b:=by rcases hb2 with rfl|rfl<;>omega
 repeat' (first|refine EvC.seq ?_|refine EvC.block ?_|(refine EvC.reg ?_;simp (config := { maxSteps := 2000000 }) (disch:=first|omega|rfl) only[sB,initTm,Za,Value.cells,reduceCtorEq,layC,zng,z4z,ld22,e1,q1,z01,z04,ap1]))
 refine EvC.loop (fun k st=>∃tm G i M,st=⟨tm,[],G⟩∧k=φ.files.length - i∧1≤i∧tm.get 3=some (.slice (some ⟨b,0,none⟩) φ.files.length φ.files.length)∧tm.get 4=some (.int .i64 (i:Nat))∧HX H G∧G.get b=some (.row (rowF M) 73)∧M.Perm φ.files∧Srt M i) ?_ (φ.files.length - 1) _ ?_
 ·rintro k st ⟨tm,G,i,M,rfl,rfl,hi1,t3,t4,hxG,gb,hp,hs⟩;have hMl:=hp.length_eq;by_cases hlt:i < φ.files.length
  ·have hw1:IntKind.i64.wrap ((i:Int)+1)=((i+1:Nat):Int):=by rw[z0e]<;>omega
   repeat' (first|refine EvC.seq ?_|refine EvC.block ?_|(refine EvC.skip ?_;try simp only[z00])|(refine EvC.reg ?_;simp (config := { maxSteps := 2000000 }) (disch:=first|omega|rfl) only[sB,Za,ln22,t3,t4,decl hlt])|(refine EvC.condT ?_ ?_;simp (config := { maxSteps := 2000000 }) (disch:=first|omega|rfl) only[sB,Za];refine z02 ?_))
   refine EvC.loop (fun k st=>∃tm G j M,st=⟨tm,[],G⟩∧k=j∧tm.get 3=some (.slice (some ⟨b,0,none⟩) φ.files.length φ.files.length)∧tm.get 4=some (.int .i64 (i:Nat))∧tm.get 5=some (.int .i64 (j:Nat))∧HX H G∧G.get b=some (.row (rowF M) 73)∧M.Perm φ.files∧InsI M i j) ?_ i _ ?_
   ·clear t3 t4 hxG gb hp hs hMl tm;rintro k st ⟨tm,G,j,M,rfl,rfl,t3,t4,t5,hxG,gb,hp,hI⟩;have hMl:=hp.length_eq;have wG:=hxG.wf;have hji:=hI.ki;by_cases h0:0 < k
    ·have d0:decide ((k:Int) > 0)=true:=decide_eq_true (by omega);have hj:k < φ.files.length:=by omega
     have hu:=Zd (l:=M) (i:=k) (by omega);have hv:=Zd (l:=M) (i:=k - 1) (by omega);obtain⟨u,hue⟩:∃u,u=M[k]'(by omega):=⟨_,rfl⟩
     obtain⟨w,hwe⟩:∃w,w=M[k - 1]'(by omega):=⟨_,rfl⟩
     rw[←hue] at hu;rw[←hwe] at hv;have hw2:IntKind.i64.wrap ((k:Int) - 1)=((k - 1:Nat):Int):=by rw[z0e (by omega) (by omega)];omega
     have lu:=z0i gb (z9a hu).1;have lv:=z0i gb (z9a hv).1;cases hb:Op.bytesLess u.1.toList w.1.toList with
     |true =>
      obtain⟨Gb,eb,hxb,wb⟩:=z5e wG 16;have gbb:=hxb.get wG gb;have lub:=z6p gbb hu;have lub1:=hxb.load wG lu;have lvb1:=hxb.load wG lv;obtain⟨G1,e1',hxg1,gg1,ng1,wg1⟩:=z18 wb (.row [.string Zg,.string Zg] 73) (.row [.string u.1,.string u.2] 73);have gb1:=hxg1.get wb gbb;have lw1:=z6p gb1 hv;have sp1:=z7w (u:=w) (l:=M) (i:=k) (by omega);have sl1:k*2+2≤(rowF M).length:=by rw[z43];omega
      obtain⟨G2,e2⟩:∃G2,G1.put b (some (.row (rowF (M.set k w)) 73))=G2:=⟨_,rfl⟩
      have hxG1:=(hxG.trans hxb).trans hxg1;have hxG2:HX H G2:=by rw[←e2];exact hxG1.pt hbl gb1 _
      have gb2:G2.get b=some (.row (rowF (M.set k w)) 73):=by rw[←e2,get_put,if_pos rfl]
      have nbb:Gb.next≠b:=by have:=wb _ _ gbb;omega
      have g62:G2.get Gb.next=some (.row [.string u.1,.string u.2] 73):=by rw[←e2,get_put,if_neg nbb];exact gg1
      have l62:G2.load ⟨Gb.next,0,none⟩ 2=some [.string u.1,.string u.2]:=by simp only[Heap.load,Heap.cells,g62];rfl
      have sp2:=z7w (u:=u) (l:=M.set k w) (i:=k - 1) (by rw[List.length_set];omega);have sl2:(k - 1)*2+2≤(rowF (M.set k w)).length:=by rw[z43,List.length_set];omega
      obtain⟨G3,e3⟩:∃G3,G2.put b (some (.row (rowF ((M.set k w).set (k - 1) u)) 73))=G3:=⟨_,rfl⟩
      have hxG3:HX H G3:=by rw[←e3];exact hxG2.pt hbl gb2 _
      have gb3:G3.get b=some (.row (rowF ((M.set k w).set (k - 1) u)) 73):=by rw[←e3,get_put,if_pos rfl]
      obtain⟨hI3,hp3⟩:=hI.step h0 hu hv (zot hb);have hj1:k - 1 < φ.files.length:=by omega
      repeat' (first|refine EvC.seq ?_|refine EvC.block ?_|(refine EvC.skip ?_;try simp only[z00])|(refine EvC.reg ?_;simp (config := { maxSteps := 2000000 }) (disch:=first|omega|rfl) only[sB,dAlloc,Za,Zb,one,ia22,ld73,zr73,st73,t3,t5,hw2,lub,e1',lw1,gb1,sp1,sl1,e2,l62,gb2,sp2,sl2,e3])|(refine EvC.drw [([(0,0),(1,0),(2,0),(3,0),(4,0),(5,0),(6,0),(7,0),(8,0),(9,0),(10,0),(11,0),(12,0),(13,0),(14,0),(15,0)],none)] ?_ ?_;kernel_rfl;simp (config := { maxSteps := 2000000 }) (disch:=first|omega|rfl) only[sD,sB,Za,Zb,reduceCtorEq,ia22,z40,ld9,t3,t5,d0,hw2,zpc,hb,eb,lub1,lvb1,isAlloc,isRead])|(refine EvC.condT ?_ ?_;simp (config := { maxSteps := 2000000 }) (disch:=first|omega|rfl) only[sB,Za];refine z02 ?_))
      exact⟨_,by omega,_,_,k - 1,_,rfl,rfl,(by simp only[sG,Za,t3]),(by simp only[sG,Za,t4]),(by simp only[sG,Za]),hxG3,gb3,hp3.trans hp,hI3⟩
     |false =>
      have hS:=hI.done (.inr ⟨u,w,hu,hv,zma hb⟩)
      repeat' (first|refine EvC.seq ?_|(refine EvC.exit ?_;try simp only[sB,Za,reduceCtorEq])|(refine EvC.reg ?_;simp (config := { maxSteps := 2000000 }) (disch:=first|omega|rfl) only[sB,Za,t4,hw1])|(refine EvC.drw [([(0,0),(1,0),(2,0),(3,0),(4,0),(5,0),(6,0),(7,0),(8,0),(9,0),(10,0),(11,0),(12,0),(13,0),(14,0),(15,0)],none)] ?_ ?_;kernel_rfl;simp (config := { maxSteps := 2000000 }) (disch:=first|omega|rfl) only[sD,sB,Za,Zb,reduceCtorEq,ia22,z40,ld9,t3,t5,d0,hw2,lu,lv,zpc,hb,isAlloc,isRead])|(refine EvC.condF ?_ ?_;simp (config := { maxSteps := 2000000 }) (disch:=first|omega|rfl) only[sB,Za];refine z02 ?_))
      exact⟨_,by omega,_,_,i+1,M,rfl,rfl,by omega,(by simp only[sG,Za,t3]),(by simp only[sG,Za]),hxG.bump _,gb,hp,hS⟩
    ·obtain rfl:k=0:=by omega
     have d0:decide (((0:Nat):Int) > 0)=false:=rfl;have hS:=hI.done (.inl rfl)
     repeat' (first|refine EvC.seq ?_|(refine EvC.exit ?_;try simp only[sB,Za,reduceCtorEq])|(refine EvC.reg ?_;simp (config := { maxSteps := 2000000 }) (disch:=first|omega|rfl) only[sB,Za,t4,hw1])|(refine EvC.drw [([(0,0),(1,0),(2,0),(3,0),(4,0),(5,0),(6,0),(7,0),(8,0),(9,0),(10,0),(11,0),(12,0),(13,0),(14,0),(15,0)],none)] ?_ ?_;kernel_rfl;simp (config := { maxSteps := 2000000 }) (disch:=first|omega|rfl) only[sD,sB,Za,Zb,t5,d0,Zc,isAlloc,isRead])|(refine EvC.condF ?_ ?_;simp (config := { maxSteps := 2000000 }) (disch:=first|omega|rfl) only[sB,Za];refine z02 ?_))
     exact⟨_,by omega,_,_,i+1,M,rfl,rfl,by omega,(by simp only[sG,Za,t3]),(by simp only[sG,Za]),hxG.bump _,gb,hp,hS⟩
   ·exact⟨_,_,i,M,rfl,rfl,(by simp only[sG,Za,t3]),(by simp only[sG,Za,t4]),(by simp only[sG,Za]),hxG,gb,hp,hs.ins (by omega)⟩
  ·repeat' (first|refine EvC.seq ?_|(refine EvC.exit ?_;try simp only[sB])|(refine EvC.ret ?_)|(refine EvC.reg ?_;simp (config := { maxSteps := 2000000 }) (disch:=first|omega|rfl) only[sB,Za,ln22,t3,t4,decn hlt])|(refine EvC.condF ?_ ?_;simp (config := { maxSteps := 2000000 }) (disch:=first|omega|rfl) only[sB,Za];refine z02 ?_))
   have hS:Srt M M.length:=fun a b x y hab hb=>hs a b x y hab (by omega)
   have hM:=zkh hfd hp hS;have hle:φ.sorted.length=φ.files.length:=z5c φ;exact z06 rfl (by simp only[sB,Za];rfl) ⟨hxG,.inr ⟨b,by rw[hle],by rw[←hM];exact gb,hbl⟩⟩
 ·exact⟨_,_,1,φ.files,rfl,rfl,Ze _,(by simp only[sG,Za,reduceCtorEq]),(by simp only[sB,Za,reduceCtorEq];rfl),hx2,g2,List.Perm.refl _,fun a b x y hab hb=>by omega⟩
end Go.Proofs.hq
end

section
namespace Go.Hb
open Go Go.RowKit
structure RdT (H:Heap) (L:List ByteArray) (a:Option Addr) (c:Nat):Prop where
 len:L.length≤c
 cap:c≤maxLen
 get:∀(i:Nat) (hi:i < L.length),∃b o,a=some ⟨b,o,none⟩∧H.load ⟨b,o+i,none⟩ 1=some [.string L[i]]
theorem RdT.keep {H H':Heap}{L:List ByteArray}{a:Option Addr}{c:Nat}(h:RdT H L a c) (hx:HX H H') (hw:H.wf):RdT H' L a c:=⟨h.len,h.cap,fun i hi=>by obtain⟨b,o,e,l⟩:=h.get i hi;exact⟨b,o,e,hx.load hw l⟩⟩
end Go.Hb
namespace Go.Proofs.hq
open Go Go.RowKit Go.Hb
variable {ok:Ok}
set_option maxRecDepth 10000
attribute [local irreducible] LX LG EL STG SOP SGO SGD SAL SRD SEF SEG SLK SCK ES
theorem z7x {P:Program}{α:Type}{a:α}:pureRun P (pure a)=some a:=rfl
theorem z3g {P:Program}:pureRun P program=some P:=rfl
theorem sihF:Tryz.prog.stoodInHeld 73=false:=by kernel_rfl
theorem unF:pureRun Tryz.prog (underlying 73)=some (.struct #[{ name := "Name", type:=9,offset:=0,embedded:=false,tag := "", pkgPath := "", byteOffset:=0 },{ name := "Data", type:=9,offset:=1,embedded:=false,tag := "", pkgPath := "", byteOffset:=16 }]):=by kernel_rfl
theorem zal {n:Nat}{cs:Array Value}{v:Value}(h:cs[n]?=some v):pureRun Tryz.prog (part 9 cs n)=some v:=by
 have h1:pureRun Tryz.prog (isAgg 9)=some false:=by kernel_rfl
 unfold part;rw[z0a,h1,Zq,h];rfl
theorem zei {d:Nat}{a b:ByteArray}:pureRun Tryz.prog (Op.equalIn (d+1) 9 (.string a) (.string b))=some (a == b):=by
 have hu:pureRun Tryz.prog (underlying 9)=some .string:=by kernel_rfl
 unfold Op.equalIn;rw[z0a,hu,Zq];rfl
theorem zou {a b m n:ByteArray}:pureRun Tryz.prog (Op.equal 73 (.agg #[.string a,.string n]) (.agg #[.string b,.string m]))=some (a == b && n == m):=by
 show pureRun Tryz.prog (Op.equalIn (9999+1) _ _ _)=_;unfold Op.equalIn;rw[z0a,unF,Zq];simp only[];rw[z0a,z3g,Zq,sihF];simp only[Zc,if_false];have p1:pureRun Tryz.prog (part 9 #[Value.string a,Value.string n] 0)=some (.string a):=zal rfl;have p2:pureRun Tryz.prog (part 9 #[Value.string b,Value.string m] 0)=some (.string b):=zal rfl;have p3:pureRun Tryz.prog (part 9 #[Value.string a,Value.string n] 1)=some (.string n):=zal rfl;have p4:pureRun Tryz.prog (part 9 #[Value.string b,Value.string m] 1)=some (.string m):=zal rfl;have e1:pureRun Tryz.prog (Op.equalIn 9999 9 (.string a) (.string b))=some (a == b):=zei;have e2:pureRun Tryz.prog (Op.equalIn 9999 9 (.string n) (.string m))=some (n == m):=zei;have nn:(("Name" : String) ≠ "_")=True:=by simp
 have na:(("Data" : String) ≠ "_")=True:=by simp
 simp only[←Array.forIn_toList,List.forIn_cons,List.forIn_nil,z0a,nn,na,if_true,p1,p2,e1,Zq];cases hab:a == b with
 |false=>simp [z0a,z7x]
 |true =>
  simp only[Zn,Zc,if_false,z0a,z7x,Zq,p3,p4,e2];cases hnm:n == m<;>simp [z0a,z7x]
end Go.Proofs.hq
end

section
namespace Go.Proofs.hq
open Go Go.RowKit Go.Hb
variable {ok:Ok}
set_option maxRecDepth 10000
attribute [local irreducible] LX LG EL STG SOP SGO SGD SAL SRD SEF SEG SLK SCK ES
theorem bNeF {H:Heap}{x y:Operand}{a n:ByteArray}:dBin Tryz.prog .neq 73 x y (.agg ⟨[.string a,.string n]⟩) (.agg ⟨[.string a,.string n]⟩) H=some (.val (.bool false) H):=by
 have h:=zou (a:=a) (b:=a) (n:=n) (m:=n);rw[z1z.2 rfl,z1z.2 rfl] at h;have hp:Tryz.prog.eqGuardType Tryz.prog.depth 73=false:=by kernel_rfl
 have hg:pureRun Tryz.prog (eqGuard .neq 73 x y (.agg #[.string a,.string n]) (.agg #[.string a,.string n]))=some ():=by
  unfold eqGuard;simp only[Zn,Zc,if_false];rw[z0a,z3g,Zq,z0a,z3g,Zq,hp];rfl
 have hb:pureRun Tryz.prog (binOp .neq 73 (.agg #[.string a,.string n]) (.agg #[.string a,.string n]))=some (.bool false):=by
  unfold binOp;simp only[];rw[z0a,h];rfl
 have hall:pureRun Tryz.prog (do let r ←(do eqGuard .neq 73 x y (.agg #[.string a,.string n]) (.agg #[.string a,.string n]);binOp .neq 73 (.agg #[.string a,.string n]) (.agg #[.string a,.string n]));pure (Next.value r))=some (.value (.bool false)):=by
  rw[z0a,z0a,hg,Zq,hb];rfl
 unfold dBin;have d0:dnil Tryz.prog .neq 73 (.agg ⟨[.string a,.string n]⟩) (.agg ⟨[.string a,.string n]⟩)=none:=rfl;rw[d0];simp only[hall];rfl
set_option maxHeartbeats 16000000 in
theorem zmc {A H:Heap}{p r:Nat}{φ:FSt}{N:Int}(h:Two A H p r φ φ.rf) (hI:Inv φ N) (hN:N≤1000000):EvF Tryz.prog okT 10 [ptrV p,ptrV r] H fun v H'=>v=.bool true∧HX H H':=by
 refine EvF.enter rfl Tryz.func10 (by decide) rfl ?_;obtain⟨fb,ob,blk,hv⟩:=h.v;obtain⟨f,l,hr⟩:=h.r;have hw:=h.hx.wf;have hno:=hI.no;have hnf:=hI.nf;have hnx:=hI.nx;have hrl:φ.rf.opens.length≤16:=by simp only[FSt.rf,Zv];exact hno
 have hrk:φ.rf.opens.map (·.1)=φ.opens.map (·.1):=by simp [FSt.rf,ZJ,Function.comp_def]
 repeat' (first|refine EvC.seq ?_|(refine EvC.reg ?_;simp (config := { maxSteps := 2000000 }) (disch:=first|omega|rfl) only[sB,initTm,Za,reduceCtorEq,cl26]))
 refine(zaj hv hw (fun o ho=>by have:=hI.lt o ho;unfold i64;omega) hI.asc hno).mono ?_;rintro v1 H1 ⟨hx1,hO1⟩;have w1:=hx1.wf
 repeat' (first|refine EvC.seq ?_|(refine EvC.reg ?_;simp (config := { maxSteps := 2000000 }) (disch:=first|omega|rfl) only[sB,Za,reduceCtorEq,cl45,cl44]))
 refine(zm8 (hr.keep hx1 hw) w1 hrl).mono ?_;rintro v2 H2 ⟨hx2,hO2⟩;have w2:=hx2.wf;rw[hrk] at hO2;have hml:(φ.opens.map (·.1)).length≤maxLen:=by rw[Zv];unfold maxLen;omega
 obtain⟨a1,rfl,rd1⟩:=hO1.rd hml;obtain⟨a2,rfl,rd2⟩:=hO2.rd hml
 skip
 refine(zeg (rd1.keep hx2 w1) rd2 w2).mono ?_;rintro v H3 ⟨rfl,hx3⟩;have hx02:=hx1.trans hx2;have hx03:=hx02.trans hx3;have w3:=hx3.wf;rw[decide_eq_true rfl];obtain⟨n,hn⟩:∃n,n=(φ.opens.map (·.1)).length:=⟨_,rfl⟩
 have hrow:n=0∨∃b cs,a1=some ⟨b,0,none⟩∧H3.get b=some (.row cs 3)∧cs.length=n∧H.next≤b:=by
  rcases hO1 with ⟨h0,-⟩|⟨b,hb,hg,hl⟩
  ·left;rw[hn,h0];rfl
  ·right;injection hb with hb1 hb2 hb3;exact⟨b,_,hb1,hx3.get w2 (hx2.get w1 hg),by simp [hn],hl⟩
 have hn16:n≤16:=by rw[hn,Zv];exact hno
 rw[←hn]
 repeat' (first|refine EvC.seq ?_|refine EvC.block ?_|(refine EvC.reg ?_;simp (config := { maxSteps := 2000000 }) (disch:=first|omega|rfl) only[sA]))
 refine EvC.loop (fun k st=>∃tm G i,st=⟨tm,[],G⟩∧k=n - i∧i≤n∧tm.get 0=some (ptrV p)∧tm.get 1=some (ptrV r)∧tm.get 5=some (.slice a1 n n)∧tm.get 6=some (.bool true)∧tm.get 7=some (.int .i64 (i:Nat))∧HX H G∧(n=0∨∃b cs,a1=some ⟨b,0,none⟩∧G.get b=some (.row cs 3)∧cs.length=n∧H.next≤b)) ?_ n _ ?_
 ·rintro k st ⟨tm,G,i,rfl,rfl,hi,t0,t1,t5,t6,t7,hxG,hrow⟩;have wG:=hxG.wf;by_cases hlt:i < n
  ·rcases hrow with h0|⟨b,cs,rfl,hg,hcl,hbl⟩
   ·omega
   have hw1:IntKind.i64.wrap ((i:Int)+1)=((i+1:Nat):Int):=by rw[z0e]<;>omega
   have hcl':i+1≤cs.length:=by omega
   repeat' (first|refine EvC.seq ?_|refine EvC.block ?_|(refine EvC.skip ?_;try simp only[z00])|(refine EvC.reg ?_;simp (config := { maxSteps := 2000000 }) (disch:=first|omega|rfl) only[sB,Za,one,ln66,ia66,st3,t5,t7,decl hlt,hg,hcl',hw1])|(refine EvC.condT ?_ ?_;simp (config := { maxSteps := 2000000 }) (disch:=first|omega|rfl) only[sB,Za];refine z02 ?_))
   exact⟨_,by omega,_,_,i+1,rfl,rfl,by omega,(by simp only[sG,reduceCtorEq,t0]),(by simp only[sG,Za,t1]),(by simp only[sG,Za,t5]),(by simp only[sG,Za,t6]),(by simp only[sG,Za]),hxG.pt hbl hg _,.inr ⟨b,_,rfl,by rw[get_put,if_pos rfl],by rw[za2 (by simpa using hcl')];exact hcl,hbl⟩⟩
  ·repeat' (first|refine EvC.seq ?_|(refine EvC.exit ?_;try simp only[sB])|(refine EvC.reg ?_;simp (config := { maxSteps := 2000000 }) (disch:=first|omega|rfl) only[sB,Za,reduceCtorEq,ln66,cl27,t0,t5,t7,decn hlt])|(refine EvC.condF ?_ ?_;simp (config := { maxSteps := 2000000 }) (disch:=first|omega|rfl) only[sB,Za];refine z02 ?_))
   refine(zg8 (hv.keep hxG hw) wG (fun x hx=>by have:=(hI.fn x hx).1;simp only[named,decide_eq_true_eq] at this;unfold maxLen;omega) hnf).mono ?_;rintro v3 H4 ⟨hx4,hO3⟩;have w4:=hx4.wf
   repeat' (first|refine EvC.seq ?_|(refine EvC.reg ?_;simp (config := { maxSteps := 2000000 }) (disch:=first|omega|rfl) only[sB,Za,cl46,t1]))
   refine(zeh (hr.keep (hxG.trans hx4) hw) w4 hnf hI.fd).mono ?_;rintro v4 H5 ⟨hx5,hO4⟩;have w5:=hx5.wf;have hS:φ.rf.sorted=φ.sorted:=rfl;rw[hS] at hO4;have hsl:=z5c φ;obtain⟨m,hm⟩:∃m,m=φ.sorted.length:=⟨_,rfl⟩
   have hm16:m≤16:=by omega
   obtain⟨a3,c3,rfl,hr3⟩:∃a3 c3,v3=.slice a3 m c3∧(m=0∨∃(b:Nat) (F:List (ByteArray × ByteArray)),a3=some ⟨b,0,none⟩∧H5.get b=some (.row (rowF F) 73)∧F.length=m∧(∀j:Nat,F[j]?=φ.sorted[j]?)∧H.next≤b):=by
    rcases hO3 with ⟨h0,rfl⟩|⟨b,rfl,hg,hl⟩
    ·exact⟨none,0,by rw[hm,h0];rfl,.inl (by rw[hm,h0];rfl)⟩
    ·exact⟨_,_,by rw[hm],.inr ⟨b,φ.sorted,rfl,hx5.get w4 hg,hm.symm,fun j=>rfl,by have:=hxG.next;omega⟩⟩
   obtain⟨a4,c4,rfl,hr4⟩:∃a4 c4,v4=.slice a4 m c4∧(m=0∨∃b,a4=some ⟨b,0,none⟩∧H5.get b=some (.row (rowF φ.sorted) 73)∧∀b',a3=some ⟨b',0,none⟩→b'≠b):=by
    rcases hO4 with ⟨h0,rfl⟩|⟨b,rfl,hg,hl⟩
    ·exact⟨none,0,by rw[hm,h0];rfl,.inl (by rw[hm,h0];rfl)⟩
    ·refine⟨_,_,by rw[hm],.inr ⟨b,rfl,hg,fun b' e=>?_⟩⟩;rcases hO3 with ⟨h0,h1⟩|⟨b3,h1,hg3,hl3⟩
     ·injection h1 with h2;rw[h2] at e;cases e
     ·injection h1 with h2;rw[h2] at e;cases e;have:=w4 _ _ hg3;omega
   have hx05:=(hxG.trans hx4).trans hx5;have hne0:((m:Int) != (m:Int))=false:=z17 rfl
   repeat' (first|refine EvC.seq ?_|refine EvC.block ?_|(refine EvC.skip ?_;try simp only[z00])|(refine EvC.reg ?_;simp (config := { maxSteps := 2000000 }) (disch:=first|omega|rfl) only[sB,Za,ln22,hne0])|(refine EvC.condF ?_ ?_;simp (config := { maxSteps := 2000000 }) (disch:=first|omega|rfl) only[sB,Za];refine z02 ?_))
   refine EvC.loop (fun k st=>∃tm G i,st=⟨tm,[],G⟩∧k=m - i∧i≤m∧tm.get 0=some (ptrV p)∧tm.get 1=some (ptrV r)∧tm.get 6=some (.bool true)∧tm.get 8=some (.slice a3 m c3)∧tm.get 9=some (.slice a4 m c4)∧tm.get 10=some (.int .i64 (i:Nat))∧HX H G∧(m=0∨∃(b b':Nat) (F:List (ByteArray × ByteArray)),a3=some ⟨b,0,none⟩∧a4=some ⟨b',0,none⟩∧b≠b'∧G.get b=some (.row (rowF F) 73)∧F.length=m∧(∀j:Nat,i≤j→F[j]?=φ.sorted[j]?)∧H.next≤b∧G.get b'=some (.row (rowF φ.sorted) 73))) ?_ m _ ?_
   ·clear t0 t1 t5 t6 t7 tm hrow hr3 hr4;rintro k st ⟨tm,G2,i2,rfl,rfl,hi2,t0,t1,t6,t8,t9,t10,hxG2,hrow⟩;have wG2:=hxG2.wf;by_cases hlt2:i2 < m
    ·rcases hrow with h0|⟨b,b',F,rfl,rfl,hbb,hg,hFl,hFe,hbl,hg'⟩
     ·omega
     have hx0:=Zd (l:=φ.sorted) (i:=i2) (by omega);obtain⟨x,hxe⟩:∃x,x=φ.sorted[i2]'(by omega):=⟨_,rfl⟩
     rw[←hxe] at hx0;have lu:=z6p hg ((hFe i2 (Ze _)).trans hx0);have lv:=z6p hg' hx0;have hw1:IntKind.i64.wrap ((i2:Int)+1)=((i2+1:Nat):Int):=by rw[z0e]<;>omega
     obtain⟨G3,e3,hx3',w3'⟩:=z5e wG2 9;have lu3:=hx3'.load wG2 lu;have lv3:=hx3'.load wG2 lv;have hg3:=hx3'.get wG2 hg;have sp:=z7w (u:=(Zg,Zg)) (l:=F) (i:=i2) (by omega);have sl:i2*2+2≤(rowF F).length:=by rw[z43];omega
     repeat' (first|refine EvC.seq ?_|refine EvC.block ?_|(refine EvC.skip ?_;try simp only[z00])|(refine EvC.reg ?_;simp (config := { maxSteps := 2000000 }) (disch:=first|omega|rfl) only[sB,Za,Zb,Value.cells,one,layC,ln22,ia22,bd73,st73,t8,t10,decl hlt2,hg3,sp,sl,hw1])|(refine EvC.drw (id:=14) [([(0,0),(1,0),(2,0),(3,0),(4,0),(5,0),(6,0),(7,0),(8,0)],none)] ?_ ?_;kernel_rfl;simp (config := { maxSteps := 2000000 }) (disch:=first|omega|rfl) only[sD,sB,Za,Zb,reduceCtorEq,ia22,ld73,t8,t9,t10,e3,lu3,lv3,bNeF,isAlloc,isRead])|(refine EvC.condT ?_ ?_;simp (config := { maxSteps := 2000000 }) (disch:=first|omega|rfl) only[sB,Za];refine z02 ?_)|(refine EvC.condF ?_ ?_;simp (config := { maxSteps := 2000000 }) (disch:=first|omega|rfl) only[sB,Za];refine z02 ?_))
     exact⟨_,by omega,_,_,i2+1,rfl,rfl,by omega,(by simp only[sG,reduceCtorEq,t0]),(by simp only[sG,Za,t1]),(by simp only[sG,Za,t6]),(by simp only[sG,Za,t8]),(by simp only[sG,Za,t9]),(by simp only[sG,Za]),(hxG2.trans hx3').pt hbl hg3 _,.inr ⟨b,b',_,rfl,rfl,hbb,by rw[get_put,if_pos rfl],by rw[List.length_set];exact hFl,fun j hj=>by rw[List.getElem?_set_ne (by omega)];exact hFe j (by omega),hbl,by rw[get_put,if_neg hbb.symm];exact hx3'.get wG2 hg'⟩⟩
    ·repeat' (first|refine EvC.seq ?_|(refine EvC.exit ?_;try simp only[sB])|(refine EvC.reg ?_;simp (config := { maxSteps := 2000000 }) (disch:=first|omega|rfl) only[sB,Za,ln22,t8,t10,decn hlt2])|(refine EvC.drw (id:=17) [([(0,0),(1,0),(2,0)],some 3),([(4,0),(5,0),(6,0),(7,0),(8,1),(9,1),(10,1),(11,1)],some 12),([(13,1),(14,1),(15,1),(16,1),(17,2),(18,2),(19,2),(20,2)],some 21),([(22,2),(23,2),(24,2),(25,2),(26,3),(27,3),(28,3)],none)] ?_ ?_;kernel_rfl;simp (config := { maxSteps := 2000000 }) (disch:=first|omega|rfl) only[sD,sB,Za,Zb,reduceCtorEq,cl29,t0,t6,isAlloc,isRead])|(refine EvC.condF ?_ ?_;simp (config := { maxSteps := 2000000 }) (disch:=first|omega|rfl) only[sB,Za];refine z02 ?_))
     obtain⟨G3,e3,hx3',w3'⟩:=z5e wG2 29;have hv3:=(hv.keep hxG2 hw).keep hx3' wG2;have hr3:=(hr.keep hxG2 hw).keep hx3' wG2;have q3:=row8 hr3.obj;have y1:(φ.inp == φ.rf.inp)=true:=z19 rfl;have y2:(φ.put == φ.rf.put)=true:=z19 rfl;simp only[e3];have t1':tm.get 1=some (.pointer (some ⟨r,0,none⟩)):=t1
     skip
     refine(zg5 hv3).mono ?_;rintro v Ha ⟨rfl,hq⟩;have hq':=hq.symm;subst hq'
     repeat' (first|(refine z2t ?_;simp (config := { maxSteps := 2000000 }) (disch:=first|omega|rfl) only[sV,sD,sB,Za,reduceCtorEq,za4,ld3,cl30,t0,t1',q3,z01,z04,y1,isAlloc,isRead]))
     refine(zd3 hv3).mono ?_;rintro v Hb ⟨rfl,hq⟩;have hq':=hq.symm;subst hq'
     repeat' (first|(refine z2t ?_;simp (config := { maxSteps := 2000000 }) (disch:=first|omega|rfl) only[sV,sD,sB,Za,Zb,reduceCtorEq,ld3,za5,cl28,t0,t1',q3,z01,z04,y2,isAlloc,isRead]))
     refine(znl hv3).mono ?_;rintro v Hc ⟨rfl,hq⟩;have hq':=hq.symm;subst hq';have hbq:(φ.out.data.toList == φ.rf.out.data.toList)=true:=beq_self_eq_true _
     repeat' (first|(refine EvC.ret ?_)|(refine z2t ?_;simp (config := { maxSteps := 2000000 }) (disch:=first|omega|rfl) only[sV,sD,sB,Za,Zb,reduceCtorEq,zjb,ld9,t1',q3,z01,z04,z16,hbq,isAlloc,isRead]))
     exact z06 rfl (by simp only[sG,Za]) ⟨rfl,hxG2.trans hx3'⟩
   ·exact⟨_,_,0,rfl,rfl,Zz _,(by simp only[sG,reduceCtorEq,t0]),(by simp only[sG,Za,t1]),(by simp only[sG,Za,t6]),(by simp only[sG,Za]),(by simp only[sG,Za]),(by simp only[sB,Za];rfl),hx05,by
     rcases hr3 with h0|⟨b,F,e,hg,hl,he,hb⟩
     ·exact .inl h0
     ·rcases hr4 with h0|⟨b',e',hg',hne⟩
      ·exact .inl h0
      ·exact .inr ⟨b,b',F,e,e',hne b e,hg,hl,fun j _=>he j,hb,hg'⟩⟩
 ·exact⟨_,_,0,rfl,rfl,Zz _,(by simp only[sG,reduceCtorEq]),(by simp only[sG,Za,reduceCtorEq]),(by simp only[sG,Za,reduceCtorEq]),(by simp only[sG,Za,reduceCtorEq]),(by simp only[sB,Za,reduceCtorEq];rfl),hx03,hrow⟩
end Go.Proofs.hq
end

section
namespace Go.Hb
open Go Go.RowKit
def cntNl (d:ByteArray) (i:Nat):Nat:=Lib.countByte (d.extract 0 i).data.toList 10
theorem z74 (d:ByteArray) (i:Nat):(d.extract 0 i).data.toList=d.data.toList.take i:=by
 rw[ByteArray.data_extract];simp
theorem zam (d:ByteArray):cntNl d 0=0:=by unfold cntNl Lib.countByte;rw[z74];simp
theorem zan {d:ByteArray}{i:Nat}(h:i < d.size):cntNl d (i+1)=cntNl d i+if byteAt d i=10 then 1 else 0:=by
 have h':i < d.data.toList.length:=by simpa using h
 unfold cntNl Lib.countByte;rw[z74,z74,←List.take_append_getElem h',List.count_append,List.count_singleton];congr 1;have e:byteAt d i=(d.data.toList[i]).toNat:=by unfold byteAt;rw[List.getD_eq_getElem?_getD,Zd h'];rfl
 rw[e];by_cases k:d.data.toList[i]=10
 ·rw[k];rfl
 ·rw[if_neg (by simpa using k),if_neg (show ¬(d.data.toList[i]).toNat=10 from fun q=>k (UInt8.toNat_inj.1 q))]
theorem zbm (d:ByteArray):∀i,i≤d.size→cntNl d i≤i
 |0,_=>by rw[zam];exact Ze _
 |i+1,h=>by
  have:=zbm d i (by omega);rw[zan (by omega)];split<;>omega
end Go.Hb
namespace Go.Proofs.hq
open Go Go.RowKit Go.Hb
variable {ok:Ok}
set_option maxRecDepth 10000
attribute [local irreducible] LX LG EL STG SOP SGO SGD SAL SRD SEF SEG SLK SCK ES
theorem zhv (d:ByteArray) (i:Nat) (h:i≤d.size) (hs:d.size≤100000):lineI d i=1+cntNl d i:=by
 have:=zbm d i h;unfold lineI cntNl at *;exact z0e (by omega) (by omega)
abbrev rowT (s:Strm) (pos line en:Int):List Value:=[.int .i64 s.id,.string s.file,.int .i64 s.mode,.bool s.bin,.string s.al,.int .i64 s.eof,.bool s.rep,.int .i64 pos,.int .i64 line,.int .i64 en]
set_option maxHeartbeats 16000000 in
theorem zej {H:Heap}{B:Nat→Prop}{r f l:Nat}{φ:FSt}{n:Int}(h:RfB H B r f l φ) (hI:RIn φ) (hw:H.wf) (hn:i64 n) :
  EvF Tryz.prog okT 42 [ptrV r,.int .i64 n] H fun v H'=>HX H H'∧((φ.get n=none∧v=.tuple ⟨[.agg ⟨zero10⟩,.bool false]⟩)∨∃s,φ.get n=some s∧v=.tuple ⟨[.agg ⟨φ.tell s⟩,.bool true]⟩):=by
 refine EvF.enter rfl Tryz.func42 (by decide) rfl ?_;have hno:=hI.no;have hnf:=hI.nf;(repeat refine EvC.seq ?_);refine EvC.reg ?_;simp (config := { maxSteps := 2000000 }) (disch:=first|omega|rfl) only[sA,initTm,dAlloc,zr61];obtain⟨H1,e1,hx1,g1,n1,w1⟩:=new1 hw (.row zero10 61);simp only[e1];clear e1;have h1:=h.keep hx1 hw
 repeat' (first|refine EvC.seq ?_|(refine EvC.reg ?_;simp (config := { maxSteps := 2000000 }) (disch:=first|omega|rfl) only[sB,Za,reduceCtorEq,cl74]))
 refine(z4j h1 w1 hn (by omega)).mono ?_;rintro v H2 ⟨hx2,bs,hor⟩;have w2:=hx2.wf;have g2:=hx2.get w1 g1;have h2:=h1.keep hx2 w1;rcases hor with ⟨i,hi,rfl,rfl⟩|⟨hi,rfl,a,c,rfl,hk⟩
 ·obtain⟨hil,hgt,hkey⟩:=z2w hi;obtain⟨H3,e3,hx3,g3,n3,w3⟩:=z18 w2 (.row bad8 90) (.row bad8 90);have l3:H3.load ⟨H2.next,0,none⟩ 8=some bad8:=by simp only[Heap.load,Heap.cells,g3];rfl
  have hbw:(false || ((0:Int) != 0))=false:=rfl
  repeat' (first|refine EvC.seq ?_|(refine EvC.reg ?_;simp (config := { maxSteps := 2000000 }) (disch:=first|omega|rfl) only[sB,Za,reduceCtorEq,ld90,cl75,l3])|(refine z08 ?_;simp (config := { maxSteps := 2000000 }) (disch:=first|omega|rfl) only[sB,dAlloc,Za,Zb,one,reduceCtorEq,zr90,st90,e3]))
  refine(z0m w3).mono ?_;rintro v H4 ⟨hx4,rfl⟩;have w4:=hx4.wf;have hx24:=hx3.trans hx4;have h4:=h2.keep hx24 w2;have lt:=z3c h4.ls (Zd hil);have q4:=row8 h4.obj;obtain⟨s,hsE⟩:∃s,s=(φ.opens[i]).2:=⟨_,rfl⟩
  rw[←hsE] at hgt lt;have hm:=ZE hil;have hD:=hI.dat _ hm;have hF:=hI.fl _ hm;obtain⟨p0,p1⟩:=hI.po _ hm;have hds:=hI.sz s;rw[←hsE] at hD hF p0 p1;obtain⟨H5,e5,hx5,g5,n5,w5⟩:=z18 w4 (.row zero10 61) (.row s.row10 61);have t5:=row10 g5
  repeat' (first|refine EvC.seq ?_|(refine EvC.skip ?_;try simp only[z00,hbw])|(refine EvC.reg ?_;simp (config := { maxSteps := 2000000 }) (disch:=first|omega|rfl) only[sB,dAlloc,Za,Zb,one,reduceCtorEq,zr61,st61,z0k,ld37,ia37,z0p,ld61,cl78,q4,z01,z04,lt,e5,t5])|(refine EvC.condF ?_ ?_;simp (config := { maxSteps := 2000000 }) (disch:=first|omega|rfl) only[sB,Za,reduceCtorEq,hbw];refine z02 ?_))
  refine(z52 (h4.keep hx5 w4) w5 (by omega) hF).mono ?_;rintro v H6 ⟨hx6,rfl⟩;rw[hD];have hx26:=(hx24.trans hx5).trans hx6;have hx06:=hx1.trans (hx2.trans hx26);have w6:=hx6.wf;have g6:=hx6.get w5 g5;have g61:=hx26.get w2 g2;have k2:H6.load ⟨H4.next,2,none⟩ 1=some [.int .i64 s.mode]:=z0i g6 rfl;have k7:H6.load ⟨H4.next,7,none⟩ 1=some [.int .i64 s.pos]:=z0i g6 rfl;have k9:H6.load ⟨H4.next,9,none⟩ 1=some [.int .i64 s.en]:=z0i g6 rfl;obtain⟨d,hd⟩:∃d,d=φ.data s:=⟨_,rfl⟩
  rw[←hd] at hds p1 ⊢;have hnx:H.next < H4.next:=by have:=hx1.next;have:=hx2.next;have:=hx24.next;omega
  repeat' (first|refine EvC.seq ?_|(refine EvC.reg ?_;simp (config := { maxSteps := 2000000 }) (disch:=first|omega|rfl) only[sB,Za,reduceCtorEq,z0o,ld3,k2]))
  refine EvC.join (fun st=>∃tm G,st=⟨tm,[],G⟩∧tm.get 4=some (.pointer (some ⟨H.next,0,none⟩))∧tm.get 8=some (.pointer (some ⟨H4.next,0,none⟩))∧tm.get 9=some (.string d)∧HX H G∧G.get H.next=some (.row zero10 61)∧G.get H4.next=some (.row (rowT s (φ.posR s) s.line (φ.endR s)) 61)) ?_ ?_
  ·by_cases hmo:s.mode=1
   ·have hpos:φ.posR s=s.pos:=by unfold FSt.posR;rw[if_pos hmo]
    by_cases h2':s.en=2
    ·have hend:φ.endR s=s.en:=by unfold FSt.endR;rw[if_neg fun q=>q.2.1 h2']
     repeat' (first|refine EvC.seq ?_|(refine EvC.skip ?_;try simp only[z00])|(refine EvC.reg ?_;simp (config := { maxSteps := 2000000 }) (disch:=first|omega|rfl) only[sB,Za,reduceCtorEq,ld3,z1w,k9,z17 hmo,z17 h2',Zc])|(refine EvC.condF ?_ ?_;simp (config := { maxSteps := 2000000 }) (disch:=first|omega|rfl) only[sB,Za,reduceCtorEq,z17 hmo];refine z02 ?_))
     exact⟨_,_,rfl,(by simp only[sG,Za,reduceCtorEq]),(by simp only[sG,Za,reduceCtorEq]),(by simp only[sG,Za,reduceCtorEq]),hx06,g61,by rw[hpos,hend];exact g6⟩
    ·by_cases h3':s.pos=(d.size:Int)
     ·have hend:φ.endR s=1:=by unfold FSt.endR;rw[←hd,if_pos ⟨hmo,h2',h3'⟩]
      repeat' (first|refine EvC.seq ?_|(refine EvC.reg ?_;simp (config := { maxSteps := 2000000 }) (disch:=first|omega|rfl) only[sB,Za,Zb,one,reduceCtorEq,ld3,ln9,z1c,st3,z1w,k7,k9,g6,z17 hmo,z3i h2',z19 h3'])|(refine EvC.condT ?_ ?_;simp (config := { maxSteps := 2000000 }) (disch:=first|omega|rfl) only[sB,Za,reduceCtorEq,z17 hmo];refine z02 ?_)|(refine EvC.condF ?_ ?_;simp (config := { maxSteps := 2000000 }) (disch:=first|omega|rfl) only[sB,Za,reduceCtorEq,z17 hmo];refine z02 ?_))
      exact⟨_,_,rfl,(by simp only[sG,Za,reduceCtorEq]),(by simp only[sG,Za,reduceCtorEq]),(by simp only[sG,Za,reduceCtorEq]),hx06.pt (by omega) g6 _,by rw[get_put,if_neg (by omega)];exact g61,by rw[hpos,hend,get_put,if_pos rfl]⟩
     ·have hend:φ.endR s=s.en:=by unfold FSt.endR;rw[←hd,if_neg fun q=>h3' q.2.2]
      repeat' (first|refine EvC.seq ?_|(refine EvC.skip ?_;try simp only[z00])|(refine EvC.reg ?_;simp (config := { maxSteps := 2000000 }) (disch:=first|omega|rfl) only[sB,Za,reduceCtorEq,ld3,ln9,z1c,z1w,k7,k9,z17 hmo,z3i h2',z0r h3'])|(refine EvC.condF ?_ ?_;simp (config := { maxSteps := 2000000 }) (disch:=first|omega|rfl) only[sB,Za,reduceCtorEq,z17 hmo];refine z02 ?_))
      exact⟨_,_,rfl,(by simp only[sG,Za,reduceCtorEq]),(by simp only[sG,Za,reduceCtorEq]),(by simp only[sG,Za,reduceCtorEq]),hx06,g61,by rw[hpos,hend];exact g6⟩
   ·have hpos:φ.posR s=d.size:=by unfold FSt.posR;rw[if_neg hmo,hd]
    have hend:φ.endR s=s.en:=by unfold FSt.endR;rw[if_neg fun q=>hmo q.1]
    repeat' (first|(refine EvC.reg ?_;simp (config := { maxSteps := 2000000 }) (disch:=first|omega|rfl) only[sB,Za,Zb,one,reduceCtorEq,Zh,ln9,z1c,st3,g6,z3i hmo])|(refine EvC.condT ?_ ?_;simp (config := { maxSteps := 2000000 }) (disch:=first|omega|rfl) only[sB,Za,reduceCtorEq,z3i hmo];refine z02 ?_))
    exact⟨_,_,rfl,(by simp only[sG,Za,reduceCtorEq]),(by simp only[sG,Za,reduceCtorEq]),(by simp only[sG,Za,reduceCtorEq]),hx06.pt (by omega) g6 _,by rw[get_put,if_neg (by omega)];exact g61,by rw[hpos,hend,get_put,if_pos rfl]⟩
  rintro st ⟨tm,G,rfl,t4,t8,t9,hxG,gG,gS⟩;obtain⟨p,hp,hpl⟩:∃p:Nat,φ.posR s=(p:Nat)∧p≤d.size:=by
   unfold FSt.posR;by_cases hmo:s.mode=1
   ·rw[if_pos hmo];obtain⟨k,hk⟩:=Int.eq_ofNat_of_zero_le p0;exact⟨k,hk,by omega⟩
   ·rw[if_neg hmo,←hd];exact⟨d.size,rfl,Ze _⟩
  have hln:=zhv d p hpl hds;rw[hp] at gS;have ne1:H.next≠H4.next:=by omega
  obtain⟨G1,e1⟩:∃G1,G.put H4.next (some (.row (rowT s p 1 (φ.endR s)) 61))=G1:=⟨_,rfl⟩
  have hxG1:HX H G1:=by rw[←e1];exact hxG.pt (by omega) gS _
  have gS1:G1.get H4.next=some (.row (rowT s p 1 (φ.endR s)) 61):=by rw[←e1,get_put,if_pos rfl]
  have gG1:G1.get H.next=some (.row zero10 61):=by rw[←e1,get_put,if_neg ne1];exact gG
  repeat' (first|refine EvC.seq ?_|refine EvC.block ?_|(refine EvC.reg ?_;simp (config := { maxSteps := 2000000 }) (disch:=first|omega|rfl) only[sB,Zb,one,Zh,st3,zaa,t8,gS,e1]))
  refine EvC.loop (fun k st=>∃tm G i,st=⟨tm,[],G⟩∧k=p - i∧i≤p∧tm.get 4=some (.pointer (some ⟨H.next,0,none⟩))∧tm.get 8=some (.pointer (some ⟨H4.next,0,none⟩))∧tm.get 9=some (.string d)∧tm.get 10=some (.int .i64 (i:Nat))∧HX H G∧G.get H.next=some (.row zero10 61)∧G.get H4.next=some (.row (rowT s p (1+cntNl d i) (φ.endR s)) 61)) ?_ p _ ?_
  ·clear gS gG hxG t4 t8 t9 gS1 gG1 hxG1 e1 tm;rintro k st ⟨tm,G,i,rfl,rfl,hip,t4,t8,t9,t10,hxG,gG,gS⟩;have k7:G.load ⟨H4.next,7,none⟩ 1=some [.int .i64 (p:Nat)]:=z0i gS rfl;have k8:G.load ⟨H4.next,8,none⟩ 1=some [.int .i64 (1+cntNl d i)]:=z0i gS rfl;have kA:G.load ⟨H4.next,0,none⟩ 10=some (rowT s p (1+cntNl d i) (φ.endR s)):=(row10 gS).1;by_cases hlt:i < p
   ·have hid:i < d.size:=by omega
    have hst:=zan hid;have hcl:=zbm d i (by omega);have hw1:IntKind.i64.wrap ((i:Int)+1)=((i+1:Nat):Int):=by rw[z0e]<;>omega
    by_cases hb:byteAt d i=10
    ·rw[if_pos hb] at hst;have hbi:(((byteAt d i:Nat):Int) == 10)=true:=by rw[hb];rfl
     have hw2:IntKind.i64.wrap (1+(cntNl d i:Int)+1)=1+((cntNl d (i+1):Nat):Int):=by rw[hst,z0e (by omega) (by omega)];omega
     repeat' (first|refine EvC.seq ?_|refine EvC.block ?_|(refine EvC.skip ?_;try simp only[z00])|(refine EvC.reg ?_;simp (config := { maxSteps := 2000000 }) (disch:=first|omega|rfl) only[sB,Za,Zb,one,Zh,ld3,z1c,st3,zaa,ix9,t8,t9,t10,k7,k8,gS,decl hlt,hbi,hw1,hw2])|(refine EvC.condT ?_ ?_;simp (config := { maxSteps := 2000000 }) (disch:=first|omega|rfl) only[sB,Za];refine z02 ?_))
     exact⟨_,by omega,_,_,i+1,rfl,rfl,by omega,(by simp only[sG,Za,t4]),(by simp only[sG,Za,t8]),(by simp only[sG,Za,t9]),(by simp only[sG,Za]),hxG.pt (by omega) gS _,by rw[get_put,if_neg ne1];exact gG,by rw[get_put,if_pos rfl]⟩
    ·rw[if_neg hb] at hst;have hbi:(((byteAt d i:Nat):Int) == 10)=false:=z0r (by omega)
     repeat' (first|refine EvC.seq ?_|refine EvC.block ?_|(refine EvC.skip ?_;try simp only[sA])|(refine EvC.reg ?_;simp (config := { maxSteps := 2000000 }) (disch:=first|omega|rfl) only[sB,Za,ld3,z1c,ix9,t8,t9,t10,k7,decl hlt,hbi,hw1])|(refine EvC.condT ?_ ?_;simp (config := { maxSteps := 2000000 }) (disch:=first|omega|rfl) only[sB,Za];refine z02 ?_)|(refine EvC.condF ?_ ?_;simp (config := { maxSteps := 2000000 }) (disch:=first|omega|rfl) only[sB,Za];refine z02 ?_))
     exact⟨_,by omega,_,_,i+1,rfl,rfl,by omega,(by simp only[sG,Za,t4]),(by simp only[sG,Za,t8]),(by simp only[sG,Za,t9]),(by simp only[sG,Za]),hxG,gG,by rw[hst];exact gS⟩
   ·obtain rfl:i=p:=by omega
    repeat' (first|refine EvC.seq ?_|(refine EvC.exit ?_;try simp only[sB])|(refine EvC.ret ?_)|(refine EvC.reg ?_;simp (config := { maxSteps := 2000000 }) (disch:=first|omega|rfl) only[sB,Za,Zb,one,st61,ld61,ld3,z1c,t4,t8,t10,k7,kA,gG,decn hlt])|(refine EvC.condF ?_ ?_;simp (config := { maxSteps := 2000000 }) (disch:=first|omega|rfl) only[sB,Za];refine z02 ?_))
    exact z1l rfl (by simp only[sB,Za,t4];rfl) (by simp only[if_true,z0b,ld61];rfl) (by simp only[sB,Za];rfl) ⟨hxG.pt (Ze _) gG _,.inr ⟨s,hgt,by simp only[FSt.tell,hp,←hd,Int.toNat_natCast,hln];rfl⟩⟩
  ·exact⟨_,_,0,rfl,rfl,Zz _,(by simp only[sG,Za,t4]),(by simp only[sG,Za,t8]),(by simp only[sG,Za,t9]),(by simp only[sB,Za];rfl),hxG1,gG1,by rw[zam];exact gS1⟩
 ·have hgn:=z2q hi;obtain⟨H3,e3,hx3,g3,n3,w3⟩:=z18 w2 (.row bad8 90) (.row (.int .i64 0 :: .bool true :: six (noStrT n) a c) 90);have l3:H3.load ⟨H2.next,0,none⟩ 8=some (.int .i64 0 :: .bool true :: six (noStrT n) a c):=by simp only[Heap.load,Heap.cells,g3];rfl
  repeat' (first|refine EvC.seq ?_|(refine EvC.reg ?_;simp (config := { maxSteps := 2000000 }) (disch:=first|omega|rfl) only[sB,Za,reduceCtorEq,ld90,cl75,l3])|(refine z08 ?_;simp (config := { maxSteps := 2000000 }) (disch:=first|omega|rfl) only[sB,dAlloc,Za,Zb,one,reduceCtorEq,zr90,st90,e3]))
  refine(z0m w3).mono ?_;rintro v H4 ⟨hx4,rfl⟩;have hb:=(hx2.trans hx3).trans hx4;have gb:=hb.get w1 g1
  repeat' (first|refine EvC.seq ?_|(refine EvC.ret ?_;try simp only[z05,z03])|(refine EvC.reg ?_;simp (config := { maxSteps := 2000000 }) (disch:=first|omega|rfl) only[sB,Za,Zb,Value.cells,one,reduceCtorEq,layC,bd61,st61,gb,Bool.true_or])|(refine EvC.condT ?_ ?_;simp (config := { maxSteps := 2000000 }) (disch:=first|omega|rfl) only[sB,Za,reduceCtorEq,Bool.true_or];refine z02 ?_))
  exact z1l rfl (by simp only[sB,Za,reduceCtorEq];rfl) (by simp only[if_true,z0b,ld61];rfl) (by simp only[sG,Za,reduceCtorEq]) ⟨(hx1.trans hb).pt (Ze _) gb _,.inl ⟨hgn,rfl⟩⟩
end Go.Proofs.hq
end
