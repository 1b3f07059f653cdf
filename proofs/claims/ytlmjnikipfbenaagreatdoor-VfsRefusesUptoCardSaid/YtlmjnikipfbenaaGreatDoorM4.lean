import Derived.Test.YtlmjnikipfbenaaGreatDoorM3
import Derived.Lib.DecodeN
import Derived.Lib.ValidLaws
import Derived.WalkKit
/- Lemmas on the program's own code, towards the laws of this folder, part 4. Conditions: as each lemma says. -/
open Bool renaming and_eq_true → Zi, false_eq_true → Zc, not_eq_true → ZB, not_false → Zm, not_true → Zn
open ByteArray renaming empty → Zg, size → Zf
open List renaming getElem?_eq_getElem → Zd, getElem?_eq_none → Zw, getElem?_map → Zr, getElem_mem → ZE, length_append → Zu, length_cons → ZF, length_map → Zv, map_append → ZI, map_cons → Zs, map_map → ZJ, mem_cons_of_mem → Zl, range → Zj, take_of_length_le → Zx
open Nat renaming beq → Zk, le_refl → Ze, le_trans → ZA, lt_of_lt_of_le → Zt, reduceAdd → Zb, reduceEqDiff → Za, reduceLeDiff → Zh, zero_le → Zz
open Option renaming map_some → Zo
section
namespace Go.Proofs.hq
open Go Go.RowKit Go.Hb
variable {ok:Ok}
set_option maxRecDepth 10000
attribute [local irreducible] LX LG EL STG SOP SGO SGD SAL SRD SEF SEG SLK SCK ES
def outS:ByteArray:=⟨#[111,117,116,112,117,116]⟩
def FSt.wrErr (φ:FSt) (n:Int) (bin:Bool):Option Tm:=match φ.get n with
 |none=>some (noStrT n)
 |some s=>if s.mode=1 then some (perT outS strS n) else if s.bin=true∧bin=false then some (perT outS binS n) else if s.bin=false∧bin=true then some (perT outS textS n) else none
set_option maxHeartbeats 4000000 in
theorem zcw {H:Heap}{B:Nat→Prop}{p fb ob:Nat}{blk:Int→Nat}{φ:FSt}{n:Int}{bin:Bool}(h:FsB H B p fb ob blk φ) (hw:H.wf) (hn:i64 n) :
  EvF Tryz.prog okT 60 [ptrV p,.int .i64 n,.bool bin] H fun v H'=>(φ.wrErr n bin=none∧v=.tuple ⟨[ptrV (blk n),.nilIface]⟩∧H'=H)∨(∃t e,φ.wrErr n bin=some t∧v=.tuple ⟨[.pointer none,e]⟩∧HX H H'∧ThrR H' t e):=by
 refine EvF.enter rfl Tryz.func60 (by decide) rfl ?_
 repeat' (first|refine EvC.seq ?_|(refine EvC.reg ?_;simp (config := { maxSteps := 2000000 }) (disch:=first|omega|rfl) only[sB,initTm,Za,Zb,reduceCtorEq,cl51]))
 refine(z5v h hw hn).mono ?_;rintro v H1 (⟨s,hg,rfl,rfl⟩|⟨hg,e,rfl,hx1,he⟩)
 ·have qs:=z2r (h.strm hg);obtain⟨sid,sf,sm,sb,sa,se,sr,sp,sl,sn,sc⟩:=s;simp only at qs;have hR:φ.wrErr n bin=if sm=1 then some (perT outS strS n) else if sb=true∧bin=false then some (perT outS binS n) else if sb=false∧bin=true then some (perT outS textS n) else none:=by
   unfold FSt.wrErr;rw[hg]
  by_cases hm:sm=1
  ·repeat' (first|refine EvC.seq ?_|refine EvC.block ?_|(refine EvC.reg ?_;simp (config := { maxSteps := 2000000 }) (disch:=first|omega|rfl) only[sB,Za,reduceCtorEq,z0l,z0o,ld3,cl52,cl47,z0w,qs,z01,z04,z19 hm])|(refine z08 ?_;simp (config := { maxSteps := 2000000 }) (disch:=first|omega|rfl) only[sB,Za,reduceCtorEq])|(refine EvC.condT ?_ ?_;simp (config := { maxSteps := 2000000 }) (disch:=first|omega|rfl) only[sB,Za,reduceCtorEq];refine z02 ?_)|(refine EvC.condF ?_ ?_;simp (config := { maxSteps := 2000000 }) (disch:=first|omega|rfl) only[sB,Za,reduceCtorEq];refine z02 ?_))
   refine(z1t hw hn).mono ?_;rintro v H2 ⟨hx2,cs,rfl,r2⟩
   skip
   refine(z0q hx2.wf (s:=outS) (u:=strS) (by simp [outS,maxLen,Zf]) (by simp [strS,maxLen,Zf]) r2).mono ?_;rintro v H3 ⟨hx3,ht⟩
   repeat' (first|(refine EvC.ret ?_;try simp only[z05,z03]))
   exact z09 rfl (by simp only[sG,Za,reduceCtorEq]) (by simp only[sG,Za,reduceCtorEq]) (.inr ⟨_,_,by rw[hR];simp [hm];rfl,rfl,hx2.trans hx3,ht⟩)
  ·cases sb<;>cases bin
   ·repeat' (first|refine EvC.seq ?_|refine EvC.block ?_|(refine EvC.skip ?_;try simp only[sA])|(refine EvC.ret ?_)|(refine EvC.reg ?_;simp (config := { maxSteps := 2000000 }) (disch:=first|omega|rfl) only[sB,Za,reduceCtorEq,z0l,z0o,ld3,z1x,ld4,z0w,qs,z01,z04,z0r hm,Zm,Zc])|(refine z08 ?_;simp (config := { maxSteps := 2000000 }) (disch:=first|omega|rfl) only[sB,Za,reduceCtorEq])|(refine EvC.condF ?_ ?_;simp (config := { maxSteps := 2000000 }) (disch:=first|omega|rfl) only[sB,Za,reduceCtorEq];refine z02 ?_))
    exact z09 rfl (by simp only[sG,Za,reduceCtorEq]) (by simp only[sG,Za,reduceCtorEq]) (.inl ⟨by rw[hR];simp [hm],rfl,rfl⟩)
   ·repeat' (first|refine EvC.seq ?_|refine EvC.block ?_|(refine EvC.reg ?_;simp (config := { maxSteps := 2000000 }) (disch:=first|omega|rfl) only[sB,Za,reduceCtorEq,z0l,z0o,ld3,cl52,cl47,z1x,ld4,z0w,qs,z01,z04,z0r hm,Zm,Zc])|(refine z08 ?_;simp (config := { maxSteps := 2000000 }) (disch:=first|omega|rfl) only[sB,Za,reduceCtorEq])|(refine EvC.condT ?_ ?_;simp (config := { maxSteps := 2000000 }) (disch:=first|omega|rfl) only[sB,Za,reduceCtorEq];refine z02 ?_)|(refine EvC.condF ?_ ?_;simp (config := { maxSteps := 2000000 }) (disch:=first|omega|rfl) only[sB,Za,reduceCtorEq];refine z02 ?_))
    refine(z1t hw hn).mono ?_;rintro v H2 ⟨hx2,cs,rfl,r2⟩
    skip
    refine(z0q hx2.wf (s:=outS) (u:=textS) (by simp [outS,maxLen,Zf]) (by simp [textS,maxLen,Zf]) r2).mono ?_;rintro v H3 ⟨hx3,ht⟩
    repeat' (first|(refine EvC.ret ?_;try simp only[z05,z03]))
    exact z09 rfl (by simp only[sG,Za,reduceCtorEq]) (by simp only[sG,Za,reduceCtorEq]) (.inr ⟨_,_,by rw[hR];simp [hm];rfl,rfl,hx2.trans hx3,ht⟩)
   ·repeat' (first|refine EvC.seq ?_|refine EvC.block ?_|(refine EvC.reg ?_;simp (config := { maxSteps := 2000000 }) (disch:=first|omega|rfl) only[sB,Za,reduceCtorEq,z0l,z0o,ld3,cl52,cl47,z1x,ld4,z0w,qs,z01,z04,z0r hm,Zm])|(refine z08 ?_;simp (config := { maxSteps := 2000000 }) (disch:=first|omega|rfl) only[sB,Za,reduceCtorEq])|(refine EvC.condT ?_ ?_;simp (config := { maxSteps := 2000000 }) (disch:=first|omega|rfl) only[sB,Za,reduceCtorEq];refine z02 ?_)|(refine EvC.condF ?_ ?_;simp (config := { maxSteps := 2000000 }) (disch:=first|omega|rfl) only[sB,Za,reduceCtorEq];refine z02 ?_))
    refine(z1t hw hn).mono ?_;rintro v H2 ⟨hx2,cs,rfl,r2⟩
    skip
    refine(z0q hx2.wf (s:=outS) (u:=binS) (by simp [outS,maxLen,Zf]) (by simp [binS,maxLen,Zf]) r2).mono ?_;rintro v H3 ⟨hx3,ht⟩
    repeat' (first|(refine EvC.ret ?_;try simp only[z05,z03]))
    exact z09 rfl (by simp only[sG,Za,reduceCtorEq]) (by simp only[sG,Za,reduceCtorEq]) (.inr ⟨_,_,by rw[hR];simp [hm];rfl,rfl,hx2.trans hx3,ht⟩)
   ·repeat' (first|refine EvC.seq ?_|refine EvC.block ?_|(refine EvC.skip ?_;try simp only[sA])|(refine EvC.ret ?_)|(refine EvC.reg ?_;simp (config := { maxSteps := 2000000 }) (disch:=first|omega|rfl) only[sB,Za,reduceCtorEq,z0l,z0o,ld3,z1x,ld4,z0w,qs,z01,z04,z0r hm,Zn,Zc])|(refine z08 ?_;simp (config := { maxSteps := 2000000 }) (disch:=first|omega|rfl) only[sB,Za,reduceCtorEq])|(refine EvC.condF ?_ ?_;simp (config := { maxSteps := 2000000 }) (disch:=first|omega|rfl) only[sB,Za,reduceCtorEq];refine z02 ?_))
    exact z09 rfl (by simp only[sG,Za,reduceCtorEq]) (by simp only[sG,Za,reduceCtorEq]) (.inl ⟨by rw[hR];simp [hm],rfl,rfl⟩)
 ·obtain⟨eb,ecs,rfl,-⟩:=id he
  repeat' (first|refine EvC.seq ?_|refine EvC.block ?_|(refine EvC.ret ?_;try simp only[z05,z03])|(refine EvC.reg ?_;simp (config := { maxSteps := 2000000 }) (disch:=first|omega|rfl) only[sB,Za,reduceCtorEq,z2e])|(refine z08 ?_;simp (config := { maxSteps := 2000000 }) (disch:=first|omega|rfl) only[sB,Za,reduceCtorEq])|(refine EvC.condT ?_ ?_;simp (config := { maxSteps := 2000000 }) (disch:=first|omega|rfl) only[sB,Za,reduceCtorEq];refine z02 ?_))
  exact z09 rfl (by simp only[sG,Za,reduceCtorEq]) (by simp only[sG,Za,reduceCtorEq]) (.inr ⟨_,_,by unfold FSt.wrErr;rw[hg],rfl,hx1,he⟩)
theorem FsB.field {H:Heap}{B:Nat→Prop}{p fb ob:Nat}{blk:Int→Nat}{φ ψ:FSt}(h:FsB H B p fb ob blk φ) (hf:ψ.files=φ.files) (ho:ψ.opens=φ.opens):FsB (H.put p (some (.row (fsRow fb ob ψ) 77))) B p fb ob blk ψ:=by
 have hs:=h.obj;have n2:fb≠p:=fun e=>by obtain⟨es,c,hm,-⟩:=h.fm;rw[e,hs] at hm;cases hm
 have n3:ob≠p:=fun e=>by obtain⟨es,c,hm,-⟩:=h.om;rw[e,hs] at hm;cases hm
 have hk:∀i,i≠p→(H.put p (some (.row (fsRow fb ob ψ) 77))).get i=H.get i:=fun i hi=>by rw[get_put,if_neg hi]
 refine⟨by rw[get_put,if_pos rfl],by rw[hf];exact h.fm.heap (hk fb n2),by rw[ho];exact h.om.heap (hk ob n3),h.bo.heap (hk ob n3),fun o q=>?_,by rw[ho];exact h.nd,by rw[ho];exact h.inj,h.lp,h.lf,h.lo,by rw[ho];exact h.lb,h.fo,h.bf.heap (hk fb n2),by rw[hf];exact h.fd⟩;rw[ho] at q;rw[hk _ fun e=>by have:=h.st o q;rw[e,hs] at this;simp at this];exact h.st o q
theorem FsB.file {H:Heap}{B:Nat→Prop}{p fb ob:Nat}{blk:Int→Nat}{φ:FSt}{n d:ByteArray}{Bm:Blk}(h:FsB H B p fb ob blk φ) (hm:MapS (H.put fb (some Bm)) fb (sSet (φ.files.map fun x=>(x.1,.string x.2)) n (.string d))) (hb:BornR H fb→BornR (H.put fb (some Bm)) fb) :
  FsB (H.put fb (some Bm)) B p fb ob blk { φ with files:=fset φ.files n d }:=by
 have n2:p≠fb:=fun e=>by obtain⟨es,c,hm,-⟩:=h.fm;rw[←e,h.obj] at hm;cases hm
 have hk:∀i,i≠fb→(H.put fb (some Bm)).get i=H.get i:=fun i hi=>by rw[get_put,if_neg hi]
 refine⟨(hk p n2).trans h.obj,by rw[zcv];exact hm,h.om.heap (hk ob h.fo.symm),h.bo.heap (hk ob h.fo.symm),fun o q=>?_,h.nd,h.inj,h.lp,h.lf,h.lo,h.lb,h.fo,hb h.bf,z70 h.fd⟩;rw[hk _ fun e=>by obtain⟨es,c,hm,-⟩:=h.fm;have:=h.st o q;rw[e,hm] at this;cases this];exact h.st o q
def resS:ByteArray:=⟨#[114,101,115,111,117,114,99,101,95,101,114,114,111,114]⟩
def flS:ByteArray:=⟨#[102,105,108,101]⟩
def resT (s:ByteArray):Tm:=ofT resS [atomT s]
def FSt.fileD (φ:FSt) (n:ByteArray):ByteArray:=(φ.file n).getD Zg
theorem FsB.bump {H:Heap}{B:Nat→Prop}{p fb ob:Nat}{blk:Int→Nat}{φ:FSt}(h:FsB H B p fb ob blk φ) (n':Nat):FsB ⟨n',H.t⟩ B p fb ob blk φ :=
 ⟨h.obj,h.fm.heap rfl,h.om.heap rfl,h.bo.heap rfl,h.st,h.nd,h.inj,h.lp,h.lf,h.lo,h.lb,h.fo,h.bf.heap rfl,h.fd⟩
theorem FsB.look {H:Heap}{B:Nat→Prop}{p fb ob:Nat}{blk:Int→Nat}{φ:FSt}(h:FsB H B p fb ob blk φ) (n:ByteArray) (ok:Bool) :
  dLk Tryz.prog 74 (.map (some fb)) (.string n) ok H=some (.val (if ok then .tuple #[.string (φ.fileD n),.bool (φ.file n).isSome] else .string (φ.fileD n)) H):=by
 have hmg:=z91 φ.files n;unfold FSt.fileD FSt.file at *;cases hg:(φ.files.find? fun o=>n == o.1).map (·.2) with
 |some d=>exact zbc (P:=Tryz.prog) (ok:=ok) spFl h.fm (n:=n) (v:=.string d) (by rw[hmg,hg];rfl)
 |none=>exact zbd (P:=Tryz.prog) (ok:=ok) spFl h.fm (n:=n) (by rw[hmg,hg];rfl)
def FSt.addR (φ:FSt) (s:Strm) (t:ByteArray):Option Tm × FSt :=
 if 100000 < φ.written+t.size then (some (resT outS),φ)
 else if s.con=false∧20000 < ((φ.fileD s.file).size:Int)+t.size then (some (resT flS),φ)
 else if s.con=true then (none,{ φ with written:=φ.written+t.size,out:=φ.out++t })
 else (none,{ φ with written:=φ.written+t.size,files:=fset φ.files s.file (φ.fileD s.file++t) })
set_option maxHeartbeats 8000000 in
theorem znj {H:Heap}{B:Nat→Prop}{p fb ob:Nat}{blk:Int→Nat}{φ:FSt}{n:Int}{s:Strm}{t:ByteArray}(h:FsB H B p fb ob blk φ) (hw:H.wf) (hs:φ.get n=some s) (h0:0≤φ.written) (h1:φ.written≤100000) (ht:t.size≤4611686018427387904)
  (hf:(φ.fileD s.file).size≤20000) (hu:φ.out.size≤100000) :
  EvF Tryz.prog okT 62 [ptrV p,ptrV (blk n),.string t] H fun e H'=>Hy B H H'∧ErrR H' (φ.addR s t).1 e∧FsB H' B p fb ob blk (φ.addR s t).2:=by
 have q:=row8 h.obj;have gs:=h.strm hs;have qs:=z2r gs;refine EvF.enter rfl Tryz.func62 (by decide) rfl ?_;have hw1:IntKind.i64.wrap (φ.written+(t.size:Int))=φ.written+t.size:=z0e (by omega) (by omega);by_cases c1:100000 < φ.written+(t.size:Int)
 ·have hR:φ.addR s t=(some (resT outS),φ):=by unfold FSt.addR;rw[if_pos c1]
  rw[hR]
  repeat' (first|refine EvC.seq ?_|(refine EvC.reg ?_;simp (config := { maxSteps := 2000000 }) (disch:=first|omega|rfl) only[sB,initTm,Za,Zb,Value.cells,reduceCtorEq,layC,zfy,ld3,ln9,cl49,z2y,q,z01,z04,hw1,gt_iff_lt,decide_eq_true c1])|(refine EvC.condT ?_ ?_;simp (config := { maxSteps := 2000000 }) (disch:=first|omega|rfl) only[sB,Za,reduceCtorEq];refine z02 ?_))
  refine(z2f hw (s:=outS) (by simp [outS,maxLen,Zf])).mono ?_;rintro v H4 ⟨rfl,hx4,-⟩;obtain⟨H5,e5,hx5,g5,n5,w5⟩:=new1 hx4.wf (.row (six (atomT outS) none 0) 88)
  repeat' (first|(refine z08 ?_;simp (config := { maxSteps := 2000000 }) (disch:=first|omega|rfl) only[sB,Za,Zb,one,reduceCtorEq,cl48,cl50,e5]))
  refine(z6h (s:=resS) w5).mono ?_;rintro v H6 ⟨rfl,hx6,-⟩;have rt:=z4n (H:=H6) (s:=resS) (t:=atomT outS) (by simp [resS,maxLen,Zf]) (z1n (by simp [outS,maxLen,Zf])) (hx6.get w5 g5)
  skip
  refine(z2v hx6.wf rt).mono ?_;rintro v H7 ⟨hx7,ht⟩
  repeat' (first|(refine EvC.ret ?_;try simp only[z05,z03]))
  have hxe:=((hx4.trans hx5).trans hx6).trans hx7;exact z06 rfl (by simp only[sG,Za,reduceCtorEq]) ⟨Hy.of hxe,ht,h.keep hxe hw⟩
 ·obtain⟨H1,e1,hx1,w1⟩:=z5e hw 22;have h1':=h.keep hx1 hw;have g1:=h1'.obj;have q1:=row8 g1;have q1s:=z2r (h1'.strm hs);have hl1:=fun ok=>h1'.look s.file ok
  obtain⟨H2,e2⟩:∃H2,H1.put p (some (.row [.map (some fb),.map (some ob),.int .i64 φ.next,.string φ.input,.string φ.out,.int .i64 φ.inp,.int .i64 φ.put,.int .i64 (φ.written+t.size)] 77))=H2:=⟨_,rfl⟩
  have h2:FsB H2 B p fb ob blk { φ with written:=φ.written+t.size }:=by rw[←e2];exact h1'.field (ψ:={ φ with written:=φ.written+t.size }) rfl rfl
  have hy2:Hy B H H2:=by rw[←e2];exact(Hy.of hx1).trans (Hy.put w1 h.lp g1 _)
  cases hc:s.con with
  |true =>
   have hR:φ.addR s t=(none,{ φ with written:=φ.written+t.size,out:=φ.out++t }):=by unfold FSt.addR;rw[if_neg c1,if_neg (by simp [hc]),if_pos hc]
   rw[hR];rw[hc] at qs;rw[hc] at q1s;have g2:=h2.obj;have q2:=row8 g2;have q2s:=z2r (h2.strm (n:=n) (s:=s) hs);rw[hc] at q2s;have hadd:=fun G T x y=>z6l (P:=Tryz.prog) (H:=G) (t:=T) (x:=x) (y:=y) (a:=φ.out) (b:=t) (by omega)
   repeat' (first|refine EvC.seq ?_|(refine EvC.skip ?_;try simp only[z00])|(refine EvC.ret ?_)|(refine EvC.reg ?_;simp (config := { maxSteps := 2000000 }) (disch:=first|omega|rfl) only[sB,initTm,Za,Zb,one,reduceCtorEq,Zh,zfy,ld3,ln9,z2u,ld4,ld9,st3,zjc,st9,q,z01,z04,hw1,gt_iff_lt,decide_eq_false c1,q1,g1,e2,q2,g2,q2s,hadd])|(refine EvC.drw (id:=3) [([(0,0),(1,0),(2,0),(3,0),(4,0),(5,0),(6,0),(7,0),(8,0),(9,0),(10,0),(11,0),(12,0),(13,0),(14,0),(15,0),(16,0),(17,0),(18,0),(19,0),(20,0),(21,0)],none)] ?_ ?_;kernel_rfl;simp (config := { maxSteps := 2000000 }) (disch:=first|omega|rfl) only[sD,sB,Za,Zb,reduceCtorEq,z2u,ld4,z01,z04,Zn,Zc,e1,q1s,isAlloc,isRead])|(refine EvC.condT ?_ ?_;simp (config := { maxSteps := 2000000 }) (disch:=first|omega|rfl) only[sB,Za,reduceCtorEq];refine z02 ?_)|(refine EvC.condF ?_ ?_;simp (config := { maxSteps := 2000000 }) (disch:=first|omega|rfl) only[sB,Za,reduceCtorEq];refine z02 ?_))
   exact z06 rfl (by simp only[sG,Za,reduceCtorEq]) ⟨hy2.trans (Hy.put hy2.1 h.lp g2 _),rfl,h2.field (ψ:={ φ with written:=φ.written+t.size,out:=φ.out++t }) rfl rfl⟩
  |false =>
   rw[hc] at qs q1s;have hl:=fun ok n'=>(h.bump n').look s.file ok
   have hw2:IntKind.i64.wrap (((φ.fileD s.file).size:Int)+(t.size:Int))=((φ.fileD s.file).size:Int)+t.size:=z0e (by omega) (by omega);by_cases c2:20000 < ((φ.fileD s.file).size:Int)+(t.size:Int)
   ·have hR:φ.addR s t=(some (resT flS),φ):=by unfold FSt.addR;rw[if_neg c1,if_pos ⟨hc,c2⟩]
    rw[hR]
    repeat' (first|refine EvC.seq ?_|(refine EvC.skip ?_;try simp only[z00])|(refine EvC.reg ?_;simp (config := { maxSteps := 2000000 }) (disch:=first|omega|rfl) only[sB,initTm,Za,Zb,Value.cells,reduceCtorEq,layC,zfy,ld3,ln9,cl49,z2y,q,z01,z04,hw1,gt_iff_lt,decide_eq_false c1])|(refine EvC.drw (id:=3) [([(0,0),(1,0),(2,0),(3,0),(4,0),(5,0),(6,0),(7,0),(8,0),(9,0),(10,0),(11,0),(12,0),(13,0),(14,0),(15,0),(16,0),(17,0),(18,0),(19,0),(20,0),(21,0)],none)] ?_ ?_;kernel_rfl;simp (config := { maxSteps := 2000000 }) (disch:=first|omega|rfl) only[sD,sB,Za,Zb,reduceCtorEq,ln9,z2u,ld4,z3z,ld74,z0l,z3u,ld9,z01,z04,hw2,gt_iff_lt,decide_eq_true c2,Zm,Zc,z1p,e1,q1,q1s,hl1,isAlloc,isRead])|(refine EvC.condT ?_ ?_;simp (config := { maxSteps := 2000000 }) (disch:=first|omega|rfl) only[sB,Za,reduceCtorEq];refine z02 ?_)|(refine EvC.condF ?_ ?_;simp (config := { maxSteps := 2000000 }) (disch:=first|omega|rfl) only[sB,Za,reduceCtorEq];refine z02 ?_))
    refine(z2f w1 (s:=flS) (by simp [flS,maxLen,Zf])).mono ?_;rintro v H4 ⟨rfl,hx4,-⟩;obtain⟨H5,e5,hx5,g5,n5,w5⟩:=new1 hx4.wf (.row (six (atomT flS) none 0) 88)
    repeat' (first|(refine z08 ?_;simp (config := { maxSteps := 2000000 }) (disch:=first|omega|rfl) only[sB,Za,Zb,one,reduceCtorEq,cl48,cl50,e5]))
    refine(z6h (s:=resS) w5).mono ?_;rintro v H6 ⟨rfl,hx6,-⟩;have rt:=z4n (H:=H6) (s:=resS) (t:=atomT flS) (by simp [resS,maxLen,Zf]) (z1n (by simp [flS,maxLen,Zf])) (hx6.get w5 g5)
    skip
    refine(z2v hx6.wf rt).mono ?_;rintro v H7 ⟨hx7,ht⟩
    repeat' (first|(refine EvC.ret ?_;try simp only[z05,z03]))
    have hxe:=(((hx1.trans hx4).trans hx5).trans hx6).trans hx7;exact z06 rfl (by simp only[sG,Za,reduceCtorEq]) ⟨Hy.of hxe,ht,h.keep hxe hw⟩
   ·have hR:φ.addR s t=(none,{ φ with written:=φ.written+t.size,files:=fset φ.files s.file (φ.fileD s.file++t) }):=by unfold FSt.addR;rw[if_neg c1,if_neg (fun q=>c2 q.2),if_neg (by simp [hc])]
    rw[hR];have g2:=h2.obj;have q2:=row8 g2;have q2s:=z2r (h2.strm (n:=n) (s:=s) hs);rw[hc] at q2s;have hadd:=fun G T x y=>z6l (P:=Tryz.prog) (H:=G) (t:=T) (x:=x) (y:=y) (a:=φ.fileD s.file) (b:=t) (by omega)
    have hl2:∀ok n',dLk Tryz.prog 74 (.map (some fb)) (.string s.file) ok ⟨n',H2.t⟩=some (.val (if ok then .tuple #[.string (φ.fileD s.file),.bool (φ.file s.file).isSome] else .string (φ.fileD s.file)) ⟨n',H2.t⟩):=fun ok n'=>(h2.bump n').look s.file ok
    obtain⟨H3,e3,hx3,w3⟩:=z5e hy2.1 13;have h3:=h2.keep hx3 hy2.1;obtain⟨Bm,hU,mf4,bf4⟩:=dUs (P:=Tryz.prog) (v:=.string (φ.fileD s.file++t)) spFl h3.fm (n:=s.file);have h4:=h3.file mf4 bf4;rw[←e3] at hU;obtain⟨_,_,hm3,-⟩:=h3.fm;have hy4:=(hy2.trans (Hy.of hx3)).trans (Hy.put w3 h.lf hm3 (some Bm));rw[←e3] at h4 hy4
    repeat' (first|refine EvC.seq ?_|(refine EvC.skip ?_;try simp only[z00])|(refine EvC.ret ?_)|(refine EvC.reg ?_;simp (config := { maxSteps := 2000000 }) (disch:=first|omega|rfl) only[sB,initTm,Za,Zb,one,reduceCtorEq,zfy,ld3,ln9,z2u,ld4,st3,q,z01,z04,hw1,gt_iff_lt,decide_eq_false c1,q1,g1,e2,q2s])|(refine EvC.drw (id:=3) [([(0,0),(1,0),(2,0),(3,0),(4,0),(5,0),(6,0),(7,0),(8,0),(9,0),(10,0),(11,0),(12,0),(13,0),(14,0),(15,0),(16,0),(17,0),(18,0),(19,0),(20,0),(21,0)],none)] ?_ ?_;kernel_rfl;simp (config := { maxSteps := 2000000 }) (disch:=first|omega|rfl) only[sD,sB,Za,Zb,reduceCtorEq,ln9,z2u,ld4,z3z,ld74,z0l,z3u,ld9,z01,z04,hw2,gt_iff_lt,decide_eq_false c2,Zm,Zc,z1p,e1,q1,q1s,hl1,isAlloc,isRead])|(refine EvC.drw (id:=8) [([(0,0),(1,0),(2,0),(3,0),(4,0),(5,0),(6,0),(7,0),(8,0),(9,0),(10,0),(11,0)],some 12),([],none)] ?_ ?_;kernel_rfl;simp (config := { maxSteps := 2000000 }) (disch:=first|omega|rfl) only[sD,sB,Za,Zb,reduceCtorEq,z3z,ld74,z0l,z3u,ld9,z01,z04,Zc,z1p,q2,q2s,hadd,hl2,z1j,hU,isAlloc,isRead])|(refine EvC.condF ?_ ?_;simp (config := { maxSteps := 2000000 }) (disch:=first|omega|rfl) only[sB,Za,reduceCtorEq];refine z02 ?_))
    exact z06 rfl (by simp only[sG,Za,reduceCtorEq]) ⟨hy4,rfl,h4⟩
def validB (t:ByteArray):Bool:=Lib.validD t.data.toList
theorem zjq {H:Heap}{t:ByteArray}(ht:t.size≤maxLen) (hw:H.wf):EvF Tryz.prog okT 61 [.string t] H fun v H'=>v=.bool (validB t)∧H'=H :=
 z6f (p:=(61,knValid)) rfl rfl (by have hm:maxLen=9223372036854775807:=rfl;simp only[knValid];rw[if_pos (by omega)];rfl) hw
def FSt.putR (φ:FSt) (n:Int) (t:ByteArray):Option Tm × FSt:=match φ.wrErr n false,φ.get n with
 |some e,_=>(some e,φ)
 |none,none=>(none,φ)
 |none,some s=>if validB t=true then φ.addR s t else (some reprT,φ)
theorem zcx {φ:FSt}{n:Int}{bin:Bool}(h:φ.wrErr n bin=none):∃s,φ.get n=some s:=by
 unfold FSt.wrErr at h;cases hg:φ.get n with
 |none=>rw[hg] at h;cases h
 |some s=>exact⟨s,rfl⟩
set_option maxHeartbeats 4000000 in
theorem znk {H:Heap}{B:Nat→Prop}{p fb ob:Nat}{blk:Int→Nat}{φ:FSt}{n:Int}{t:ByteArray}(h:FsB H B p fb ob blk φ) (hw:H.wf) (hn:i64 n) (h0:0≤φ.written) (h1:φ.written≤100000) (ht:t.size≤4611686018427387904)
  (hf:∀s,φ.get n=some s→(φ.fileD s.file).size≤20000) (hu:φ.out.size≤100000) :
  EvF Tryz.prog okT 19 [ptrV p,.int .i64 n,.string t] H fun e H'=>Hy B H H'∧ErrR H' (φ.putR n t).1 e∧FsB H' B p fb ob blk (φ.putR n t).2:=by
 refine EvF.enter rfl Tryz.func19 (by decide) rfl ?_;have hm:maxLen=9223372036854775807:=rfl
 repeat' (first|refine EvC.seq ?_|(refine EvC.reg ?_;simp (config := { maxSteps := 2000000 }) (disch:=first|omega|rfl) only[sB,initTm,Za,Zb,reduceCtorEq,cl60]))
 refine(zcw (bin:=false) h hw hn).mono ?_;rintro v H1 (⟨hr,rfl,rfl⟩|⟨t',e,hr,rfl,hx1,he⟩)
 ·obtain⟨s,hs⟩:=zcx hr;have hR:φ.putR n t=if validB t=true then φ.addR s t else (some reprT,φ):=by unfold FSt.putR;rw[hr,hs]
  repeat' (first|refine EvC.seq ?_|(refine EvC.skip ?_;try simp only[z00])|(refine EvC.reg ?_;simp (config := { maxSteps := 2000000 }) (disch:=first|omega|rfl) only[sB,Za,reduceCtorEq,cl61,z0w])|(refine z08 ?_;simp (config := { maxSteps := 2000000 }) (disch:=first|omega|rfl) only[sB,Za,reduceCtorEq])|(refine EvC.condF ?_ ?_;simp (config := { maxSteps := 2000000 }) (disch:=first|omega|rfl) only[sB,Za,reduceCtorEq];refine z02 ?_))
  refine(zjq (t:=t) (by omega) hw).mono ?_;rintro v H2 ⟨rfl,rfl⟩;by_cases hv:validB t=true
  ·rw[if_pos hv] at hR
   repeat' (first|refine EvC.seq ?_|(refine EvC.skip ?_;try simp only[z00])|(refine EvC.reg ?_;simp (config := { maxSteps := 2000000 }) (disch:=first|omega|rfl) only[sB,Za,reduceCtorEq,cl62])|(refine z08 ?_;simp (config := { maxSteps := 2000000 }) (disch:=first|omega|rfl) only[sA,hv,Zn])|(refine EvC.condF ?_ ?_;simp (config := { maxSteps := 2000000 }) (disch:=first|omega|rfl) only[sB,Za,reduceCtorEq];refine z02 ?_))
   refine(znj h hw hs h0 h1 ht (hf s hs) hu).mono ?_;rintro e H3 ⟨k1,k2,k3⟩
   repeat' (first|(refine EvC.ret ?_))
   exact z06 rfl (by simp only[sB,Za,reduceCtorEq];rfl) ⟨k1,by rw[hR];exact k2,by rw[hR];exact k3⟩
  ·rw[if_neg hv] at hR;have hv':validB t=false:=by simpa using hv
   repeat' (first|refine EvC.seq ?_|(refine EvC.reg ?_;simp (config := { maxSteps := 2000000 }) (disch:=first|omega|rfl) only[sB,Za,Zb,Value.cells,reduceCtorEq,layC,cl49,z2y])|(refine z08 ?_;simp (config := { maxSteps := 2000000 }) (disch:=first|omega|rfl) only[sA,hv',Zm])|(refine EvC.condT ?_ ?_;simp (config := { maxSteps := 2000000 }) (disch:=first|omega|rfl) only[sB,Za,reduceCtorEq];refine z02 ?_))
   refine(z2f hw (s:=charS) (by simp [charS,maxLen,Zf])).mono ?_;rintro v H4 ⟨rfl,hx4,-⟩;obtain⟨H5,e5,hx5,g5,n5,w5⟩:=new1 hx4.wf (.row (six (atomT charS) none 0) 88)
   repeat' (first|(refine z08 ?_;simp (config := { maxSteps := 2000000 }) (disch:=first|omega|rfl) only[sB,Za,Zb,one,reduceCtorEq,cl48,cl50,e5]))
   refine(z6h (s:=reprS) w5).mono ?_;rintro v H6 ⟨rfl,hx6,-⟩;have rt:=z4n (H:=H6) (s:=reprS) (t:=atomT charS) (by simp [reprS,maxLen,Zf]) (z1n (by simp [charS,maxLen,Zf])) (hx6.get w5 g5)
   skip
   refine(z2v hx6.wf rt).mono ?_;rintro v H7 ⟨hx7,ht⟩
   repeat' (first|(refine EvC.ret ?_;try simp only[z05,z03]))
   have hxe:=((hx4.trans hx5).trans hx6).trans hx7;exact z06 rfl (by simp only[sB,Za,reduceCtorEq];rfl) ⟨Hy.of hxe,by rw[hR];exact ht,by rw[hR];exact h.keep hxe hw⟩
 ·obtain⟨eb,ecs,rfl,-⟩:=id he;have hR:φ.putR n t=(some t',φ):=by unfold FSt.putR;rw[hr]
  repeat' (first|refine EvC.seq ?_|(refine EvC.ret ?_;try simp only[z05,z03])|(refine EvC.reg ?_;simp (config := { maxSteps := 2000000 }) (disch:=first|omega|rfl) only[sB,Za,reduceCtorEq,z2e])|(refine z08 ?_;simp (config := { maxSteps := 2000000 }) (disch:=first|omega|rfl) only[sB,Za,reduceCtorEq])|(refine EvC.condT ?_ ?_;simp (config := { maxSteps := 2000000 }) (disch:=first|omega|rfl) only[sB,Za,reduceCtorEq];refine z02 ?_))
  exact z06 rfl (by simp only[sB,Za,reduceCtorEq];rfl) ⟨Hy.of hx1,by rw[hR];exact he,by rw[hR];exact h.keep hx1 hw⟩
def FSt.drop (φ:FSt) (n:Int):FSt:={ φ with opens:=φ.opens.eraseP fun o=>o.1 == n }
theorem FsB.drop {H:Heap}{B:Nat→Prop}{p fb ob:Nat}{blk:Int→Nat}{φ:FSt}{n:Int}{Bm:Blk}(h:FsB H B p fb ob blk φ) (hm:MapR (H.put ob (some Bm)) ob ((φ.opens.map fun o=>(o.1,ptrV (blk o.1))).eraseP fun p=>p.1 == n)) (hb:BornR (H.put ob (some Bm)) ob) :
  FsB (H.put ob (some Bm)) B p fb ob blk (φ.drop n):=by
 have n2:p≠ob:=fun e=>by obtain⟨es,c,hm,-⟩:=h.om;rw[←e,h.obj] at hm;cases hm
 have hk:∀i,i≠ob→(H.put ob (some Bm)).get i=H.get i:=fun i hi=>by rw[get_put,if_neg hi]
 have hin:∀o∈(φ.drop n).opens,o∈φ.opens:=fun o ho=>List.mem_of_mem_eraseP ho
 refine⟨(hk p n2).trans h.obj,h.fm.heap (hk fb h.fo),?_,hb,fun o q=>?_,?_,fun o ho o' ho'=>h.inj o (hin o ho) o' (hin o' ho'),h.lp,h.lf,h.lo,fun o ho=>h.lb o (hin o ho),h.fo,h.bf.heap (hk fb h.fo),h.fd⟩
 ·unfold FSt.drop;rw[List.eraseP_map] at hm;exact hm
 ·rw[hk _ fun e=>by obtain⟨es,c,hm,-⟩:=h.om;have:=h.st o (hin o q);rw[e,hm] at this;cases this];exact h.st o (hin o q)
 ·exact h.nd.sublist ((List.eraseP_sublist).map _)
def FSt.closeR (φ:FSt) (n:Int):Option Tm × FSt:=match φ.get n with
 |none=>(some (noStrT n),φ)
 |some s=>if s.con=true then (none,φ) else (none,{ φ.drop n with inp:=if φ.inp=n then 0 else φ.inp,put:=if φ.put=n then 1 else φ.put })
set_option maxHeartbeats 8000000 in
theorem zg3 {H:Heap}{B:Nat→Prop}{p fb ob:Nat}{blk:Int→Nat}{φ:FSt}{n:Int}(h:FsB H B p fb ob blk φ) (hw:H.wf) (hn:i64 n) :
  EvF Tryz.prog okT 13 [ptrV p,.int .i64 n] H fun e H'=>Hy B H H'∧ErrR H' (φ.closeR n).1 e∧FsB H' B p fb ob blk (φ.closeR n).2:=by
 refine EvF.enter rfl Tryz.func13 (by decide) rfl ?_
 repeat' (first|refine EvC.seq ?_|(refine EvC.reg ?_;simp (config := { maxSteps := 2000000 }) (disch:=first|omega|rfl) only[sB,initTm,Za,reduceCtorEq,cl51]))
 refine(z5v h hw hn).mono ?_;rintro v H1 (⟨s,hs,rfl,rfl⟩|⟨hs,e,rfl,hx1,he⟩)
 ·have qs:=z2r (h.strm hs);have q:=row8 h.obj;have hR:φ.closeR n=if s.con=true then (none,φ) else (none,{ φ.drop n with inp:=if φ.inp=n then 0 else φ.inp,put:=if φ.put=n then 1 else φ.put }):=by unfold FSt.closeR;rw[hs]
  cases hc:s.con with
  |true =>
   rw[hc,if_pos rfl] at hR;rw[hc] at qs
   repeat' (first|refine EvC.seq ?_|(refine EvC.ret ?_;try simp only[z05,z03])|(refine EvC.reg ?_;simp (config := { maxSteps := 2000000 }) (disch:=first|omega|rfl) only[sB,Za,reduceCtorEq,z2u,ld4,z0w,qs,z01,z04])|(refine z08 ?_;simp (config := { maxSteps := 2000000 }) (disch:=first|omega|rfl) only[sB,Za,reduceCtorEq])|(refine EvC.condT ?_ ?_;simp (config := { maxSteps := 2000000 }) (disch:=first|omega|rfl) only[sB,Za,reduceCtorEq];refine z02 ?_))
   exact z06 rfl (by simp only[sB,Za,reduceCtorEq];rfl) ⟨Hy.of (HX.refl hw),by rw[hR];rfl,by rw[hR];exact h⟩
  |false =>
   rw[hc,if_neg (by simp)] at hR;rw[hc] at qs;have hv:(mGet (φ.opens.map fun o=>(o.1,ptrV (blk o.1))) n).isSome=true:=by rw[zbe];unfold FSt.get at hs;rw[hs];rfl
   obtain⟨Bm,hD,m2,b2⟩:=zlr (P:=Tryz.prog) mpSt h.om h.bo hv;obtain⟨H2,e2⟩:∃H2,H1.put ob (some Bm)=H2:=⟨_,rfl⟩
   have h2:FsB H2 B p fb ob blk (φ.drop n):=by rw[←e2];exact h.drop m2 b2
   have hy2:Hy B H1 H2:=by rw[←e2];obtain⟨_,_,hm,-⟩:=h.om;exact Hy.put hw h.lo hm _
   rw[e2] at hD;have g2:H2.get p=some (.row [.map (some fb),.map (some ob),.int .i64 φ.next,.string φ.input,.string φ.out,.int .i64 φ.inp,.int .i64 φ.put,.int .i64 φ.written] 77):=h2.obj;have q2:=row8 g2;obtain⟨H3,e3⟩:∃H3,H2.put p (some (.row [.map (some fb),.map (some ob),.int .i64 φ.next,.string φ.input,.string φ.out,.int .i64 0,.int .i64 φ.put,.int .i64 φ.written] 77))=H3:=⟨_,rfl⟩
   have h3:FsB H3 B p fb ob blk { φ.drop n with inp:=0 }:=by rw[←e3];exact h2.field (ψ:={ φ.drop n with inp:=0 }) rfl rfl
   have hy3:Hy B H1 H3:=by rw[←e3];exact hy2.trans (Hy.put hy2.1 h.lp g2 _)
   have g3:H3.get p=some (.row [.map (some fb),.map (some ob),.int .i64 φ.next,.string φ.input,.string φ.out,.int .i64 0,.int .i64 φ.put,.int .i64 φ.written] 77):=h3.obj;have q3:=row8 g3;by_cases c1:φ.inp=n<;>by_cases c2:φ.put=n
   ·repeat' (first|refine EvC.seq ?_|(refine EvC.skip ?_;try simp only[z00])|(refine EvC.ret ?_)|(refine EvC.reg ?_;simp (config := { maxSteps := 2000000 }) (disch:=first|omega|rfl) only[sB,Za,Zb,one,reduceCtorEq,Zh,z2u,ld4,z3t,ld75,za7,ld3,st3,za8,z0w,qs,q,z01,z04,Zc,z5a,hD,q2,g2,z19 c1,e3,q3,g3,z19 c2])|(refine z08 ?_;simp (config := { maxSteps := 2000000 }) (disch:=first|omega|rfl) only[sB,Za,reduceCtorEq])|(refine EvC.condT ?_ ?_;simp (config := { maxSteps := 2000000 }) (disch:=first|omega|rfl) only[sB,Za,reduceCtorEq];refine z02 ?_)|(refine EvC.condF ?_ ?_;simp (config := { maxSteps := 2000000 }) (disch:=first|omega|rfl) only[sB,Za,reduceCtorEq];refine z02 ?_))
    exact z06 rfl (by simp only[sB,Za,reduceCtorEq];rfl) ⟨hy3.trans (Hy.put hy3.1 h.lp g3 _),by rw[hR];rfl,by rw[hR,if_pos c1,if_pos c2];exact h3.field (ψ:={ φ.drop n with inp:=0,put:=1 }) rfl rfl⟩
   ·repeat' (first|refine EvC.seq ?_|(refine EvC.skip ?_;try simp only[z00])|(refine EvC.ret ?_)|(refine EvC.reg ?_;simp (config := { maxSteps := 2000000 }) (disch:=first|omega|rfl) only[sB,Za,Zb,one,reduceCtorEq,Zh,z2u,ld4,z3t,ld75,za7,ld3,st3,za8,z0w,qs,q,z01,z04,Zc,z5a,hD,q2,g2,z19 c1,e3,q3,z0r c2])|(refine z08 ?_;simp (config := { maxSteps := 2000000 }) (disch:=first|omega|rfl) only[sB,Za,reduceCtorEq])|(refine EvC.condT ?_ ?_;simp (config := { maxSteps := 2000000 }) (disch:=first|omega|rfl) only[sB,Za,reduceCtorEq];refine z02 ?_)|(refine EvC.condF ?_ ?_;simp (config := { maxSteps := 2000000 }) (disch:=first|omega|rfl) only[sB,Za,reduceCtorEq];refine z02 ?_))
    exact z06 rfl (by simp only[sB,Za,reduceCtorEq];rfl) ⟨hy3,by rw[hR];rfl,by rw[hR,if_pos c1,if_neg c2];exact h3⟩
   ·repeat' (first|refine EvC.seq ?_|(refine EvC.skip ?_;try simp only[z00])|(refine EvC.ret ?_)|(refine EvC.reg ?_;simp (config := { maxSteps := 2000000 }) (disch:=first|omega|rfl) only[sB,Za,Zb,one,reduceCtorEq,Zh,z2u,ld4,z3t,ld75,za7,ld3,st3,za8,z0w,qs,q,z01,z04,Zc,z5a,hD,q2,g2,z0r c1,z19 c2])|(refine z08 ?_;simp (config := { maxSteps := 2000000 }) (disch:=first|omega|rfl) only[sB,Za,reduceCtorEq])|(refine EvC.condT ?_ ?_;simp (config := { maxSteps := 2000000 }) (disch:=first|omega|rfl) only[sB,Za,reduceCtorEq];refine z02 ?_)|(refine EvC.condF ?_ ?_;simp (config := { maxSteps := 2000000 }) (disch:=first|omega|rfl) only[sB,Za,reduceCtorEq];refine z02 ?_))
    exact z06 rfl (by simp only[sB,Za,reduceCtorEq];rfl) ⟨hy2.trans (Hy.put hy2.1 h.lp g2 _),by rw[hR];rfl,by rw[hR,if_neg c1,if_pos c2];exact h2.field (ψ:={ φ.drop n with put:=1 }) rfl rfl⟩
   ·repeat' (first|refine EvC.seq ?_|(refine EvC.skip ?_;try simp only[z00])|(refine EvC.ret ?_)|(refine EvC.reg ?_;simp (config := { maxSteps := 2000000 }) (disch:=first|omega|rfl) only[sB,Za,reduceCtorEq,z2u,ld4,z3t,ld75,za7,ld3,za8,z0w,qs,q,z01,z04,Zc,z5a,hD,q2,z0r c1,z0r c2])|(refine z08 ?_;simp (config := { maxSteps := 2000000 }) (disch:=first|omega|rfl) only[sB,Za,reduceCtorEq])|(refine EvC.condF ?_ ?_;simp (config := { maxSteps := 2000000 }) (disch:=first|omega|rfl) only[sB,Za,reduceCtorEq];refine z02 ?_))
    exact z06 rfl (by simp only[sB,Za,reduceCtorEq];rfl) ⟨hy2,by rw[hR];rfl,by rw[hR,if_neg c1,if_neg c2];exact h2⟩
 ·obtain⟨eb,ecs,rfl,-⟩:=id he;have hR:φ.closeR n=(some (noStrT n),φ):=by unfold FSt.closeR;rw[hs]
  repeat' (first|refine EvC.seq ?_|(refine EvC.ret ?_;try simp only[z05,z03])|(refine EvC.reg ?_;simp (config := { maxSteps := 2000000 }) (disch:=first|omega|rfl) only[sB,Za,reduceCtorEq,z2e])|(refine z08 ?_;simp (config := { maxSteps := 2000000 }) (disch:=first|omega|rfl) only[sB,Za,reduceCtorEq])|(refine EvC.condT ?_ ?_;simp (config := { maxSteps := 2000000 }) (disch:=first|omega|rfl) only[sB,Za,reduceCtorEq];refine z02 ?_))
  exact z06 rfl (by simp only[sB,Za,reduceCtorEq];rfl) ⟨Hy.of hx1,by rw[hR];exact he,by rw[hR];exact h.keep hx1 hw⟩
theorem FsB.off {H0 H:Heap}{B:Nat→Prop}{p fb ob i:Nat}{blk:Int→Nat}{φ0 φ:FSt}{X:Option Blk}(h0:FsB H0 B p fb ob blk φ0) (w0:H0.wf) (hi:H0.next≤i) (ho:φ.opens=φ0.opens) (h:FsB H B p fb ob blk φ):FsB (H.put i X) B p fb ob blk φ:=by
 have hk:∀j,j < H0.next→(H.put i X).get j=H.get j:=fun j hj=>by rw[get_put,if_neg (by omega)]
 have l1:=w0 _ _ h0.obj;have l2:=MapS.lt h0.fm w0;have l3:=h0.om.lt w0;refine⟨(hk p l1).trans h.obj,h.fm.heap (hk fb l2),h.om.heap (hk ob l3),h.bo.heap (hk ob l3),fun o q=>?_,h.nd,h.inj,h.lp,h.lf,h.lo,h.lb,h.fo,h.bf.heap (hk fb l2),h.fd⟩;rw[hk _ (w0 _ _ (h0.st o (by rw[←ho];exact q)))];exact h.st o q
end Go.Proofs.hq
end

section
namespace Go.Hb
open Go Go.RowKit
theorem z5b (s:ByteArray) (i:Nat):(s.get! i).toNat=byteAt s i:=by
 by_cases h:i < s.size
 ·rw[z2o s i h];have h':i < s.data.size:=h;show (s.data[i]!).toNat=_;rw[getElem!_pos s.data i h'];rfl
 ·have h':¬i < s.data.size:=h;show (s.data[i]!).toNat=_;rw[getElem!_neg s.data i h'];unfold byteAt;rw[List.getD_eq_getElem?_getD,Zw (by simpa using h')];rfl
theorem ze8 (s:ByteArray) (i:Nat):Utf8.decode s i=Lib.decodeN (s.size - i) (byteAt s i) (byteAt s (i+1)) (byteAt s (i+2)) (byteAt s (i+3)):=by
 rw[Lib.decode_at,z5b,z5b,z5b,z5b]
theorem z3n (s:ByteArray) {i:Nat}(h:s.size≤i):byteAt s i=0:=by
 unfold byteAt;rw[List.getD_eq_getElem?_getD,Zw (by simpa using h)];rfl
theorem z5k (s:ByteArray) {i:Nat}(k:Nat) (h:i≤s.size):byteAt (s.extract i s.size) k=byteAt s (i+k):=by
 by_cases hk:i+k < s.size
 ·have h':k < (s.extract i s.size).size:=by rw[ByteArray.size_extract];omega
  rw[z2o _ _ h',z2o _ _ hk,ByteArray.getElem_extract]
 ·rw[z3n _ (by rw[ByteArray.size_extract];omega),z3n _ (by omega)]
theorem ze9 (s:ByteArray) {i:Nat}(h:i≤s.size):Utf8.decode (s.extract i s.size) 0=Utf8.decode s i:=by
 rw[ze8,ze8];simp only[z5k s _ h,ByteArray.size_extract,Nat.min_self,Nat.sub_zero,Nat.add_zero,Nat.zero_add]
def rlen (c:Nat):Int:=if c≤127 then 1 else if c≤2047 then 2 else if 55296≤c∧c≤57343 then -1 else if c≤65535 then 3 else if c≤1114111 then 4 else -1
set_option maxHeartbeats 4000000 in
theorem zls {n b0 b1 b2 b3:Nat}(h0:b0 < 256) (h1:b1 < 256) (h2:b2 < 256) (h3:b3 < 256) :
  ((Lib.decodeN n b0 b1 b2 b3).1≠65533→rlen (Lib.decodeN n b0 b1 b2 b3).1=(Lib.decodeN n b0 b1 b2 b3).2)∧((Lib.decodeN n b0 b1 b2 b3).1=65533 →
   ((Lib.decodeN n b0 b1 b2 b3).2=1∧¬(3≤n∧b0=239∧b1=191∧b2=189))∨((Lib.decodeN n b0 b1 b2 b3).2=3∧(3≤n∧b0=239∧b1=191∧b2=189))):=by
 obtain⟨x,hx⟩:∃x,x=Lib.decodeN n b0 b1 b2 b3:=⟨_,rfl⟩
 rw[←hx];unfold Lib.decodeN at hx
 repeat' split at hx
 all_goals (subst hx;simp only[rlen];refine⟨fun h=>?_,fun h=>?_⟩)
 all_goals (repeat' split)
 all_goals first|omega|(left;refine⟨by trivial,?_⟩;omega)|(right;refine⟨by trivial,?_⟩;omega)
theorem zbg {n b0 b1 b2 b3:Nat}(h0:b0 < 256) (h1:b1 < 256) (h2:b2 < 256) (h3:b3 < 256) (hn:1≤n):(Lib.decodeN n b0 b1 b2 b3).1≤1114111∧1≤(Lib.decodeN n b0 b1 b2 b3).2∧(Lib.decodeN n b0 b1 b2 b3).2≤n:=by
 unfold Lib.decodeN
 repeat' split
 all_goals simp only
 all_goals omega
end Go.Hb
namespace Go.Proofs.hq
open Go Go.RowKit Go.Hb
variable {ok:Ok}
set_option maxRecDepth 10000
attribute [local irreducible] LX LG EL STG SOP SGO SGD SAL SRD SEF SEG SLK SCK ES
theorem zhl {H:Heap}{c:Nat}(hc:c≤1114111):EvF Tryz.prog okT 55 [.int .i32 (c:Nat)] H fun v H'=>v=.int .i64 (rlen c)∧H'=H:=by
 refine EvF.enter rfl Tryz.func55 (by decide) rfl ?_;have d0:decide ((c:Int) < 0)=false:=decide_eq_false (by omega);unfold rlen;by_cases h1:c≤127
 ·have d1:decide ((c:Int)≤127)=true:=decide_eq_true (by omega);rw[if_pos h1]
  repeat' (first|refine EvC.seq ?_|refine EvC.block ?_|(refine EvC.ret ?_;try simp only[z05,z03])|(refine EvC.reg ?_;simp (config := { maxSteps := 2000000 }) (disch:=first|omega|rfl) only[sB,initTm,Za,reduceCtorEq,d0,d1])|(refine EvC.condT ?_ ?_;simp (config := { maxSteps := 2000000 }) (disch:=first|omega|rfl) only[sB,Za,reduceCtorEq];refine z02 ?_)|(refine EvC.condF ?_ ?_;simp (config := { maxSteps := 2000000 }) (disch:=first|omega|rfl) only[sB,Za,reduceCtorEq];refine z02 ?_))
  exact z06 rfl (by simp only[sG,Za,reduceCtorEq]) ⟨rfl,rfl⟩
 ·have d1:decide ((c:Int)≤127)=false:=decide_eq_false (by omega);rw[if_neg h1];by_cases h2:c≤2047
  ·have d2:decide ((c:Int)≤2047)=true:=decide_eq_true (by omega);rw[if_pos h2]
   repeat' (first|refine EvC.seq ?_|refine EvC.block ?_|(refine EvC.ret ?_;try simp only[z05,z03])|(refine EvC.reg ?_;simp (config := { maxSteps := 2000000 }) (disch:=first|omega|rfl) only[sB,initTm,Za,reduceCtorEq,d0,d1,d2])|(refine EvC.condT ?_ ?_;simp (config := { maxSteps := 2000000 }) (disch:=first|omega|rfl) only[sB,Za,reduceCtorEq];refine z02 ?_)|(refine EvC.condF ?_ ?_;simp (config := { maxSteps := 2000000 }) (disch:=first|omega|rfl) only[sB,Za,reduceCtorEq];refine z02 ?_))
   exact z06 rfl (by simp only[sG,Za,reduceCtorEq]) ⟨rfl,rfl⟩
  ·have d2:decide ((c:Int)≤2047)=false:=decide_eq_false (by omega);rw[if_neg h2];by_cases h3:c < 55296
   ·have d3:decide ((55296:Int)≤(c:Int))=false:=decide_eq_false (by omega);have d4:decide ((c:Int)≤65535)=true:=decide_eq_true (by omega);rw[if_neg (by omega),if_pos (by omega)]
    repeat' (first|refine EvC.seq ?_|refine EvC.block ?_|(refine EvC.ret ?_;try simp only[z05,z03])|(refine EvC.reg ?_;simp (config := { maxSteps := 2000000 }) (disch:=first|omega|rfl) only[sB,initTm,Za,reduceCtorEq,d0,d1,d2,d3,d4,Zc])|(refine EvC.condT ?_ ?_;simp (config := { maxSteps := 2000000 }) (disch:=first|omega|rfl) only[sB,Za,reduceCtorEq];refine z02 ?_)|(refine EvC.condF ?_ ?_;simp (config := { maxSteps := 2000000 }) (disch:=first|omega|rfl) only[sB,Za,reduceCtorEq];refine z02 ?_))
    exact z06 rfl (by simp only[sG,Za,reduceCtorEq]) ⟨rfl,rfl⟩
   ·have d3:decide ((55296:Int)≤(c:Int))=true:=decide_eq_true (by omega);by_cases h4:c≤57343
    ·have d5:decide ((c:Int)≤57343)=true:=decide_eq_true (by omega);rw[if_pos (by omega)]
     repeat' (first|refine EvC.seq ?_|refine EvC.block ?_|(refine EvC.ret ?_;try simp only[z05,z03])|(refine EvC.reg ?_;simp (config := { maxSteps := 2000000 }) (disch:=first|omega|rfl) only[sB,initTm,Za,reduceCtorEq,d0,d1,d2,d3,d5])|(refine EvC.condT ?_ ?_;simp (config := { maxSteps := 2000000 }) (disch:=first|omega|rfl) only[sB,Za,reduceCtorEq];refine z02 ?_)|(refine EvC.condF ?_ ?_;simp (config := { maxSteps := 2000000 }) (disch:=first|omega|rfl) only[sB,Za,reduceCtorEq];refine z02 ?_))
     exact z06 rfl (by simp only[sG,Za,reduceCtorEq]) ⟨rfl,rfl⟩
    ·have d5:decide ((c:Int)≤57343)=false:=decide_eq_false (by omega);rw[if_neg (by omega)];by_cases h5:c≤65535
     ·have d4:decide ((c:Int)≤65535)=true:=decide_eq_true (by omega);rw[if_pos h5]
      repeat' (first|refine EvC.seq ?_|refine EvC.block ?_|(refine EvC.ret ?_;try simp only[z05,z03])|(refine EvC.reg ?_;simp (config := { maxSteps := 2000000 }) (disch:=first|omega|rfl) only[sB,initTm,Za,reduceCtorEq,d0,d1,d2,d3,d5,d4])|(refine EvC.condT ?_ ?_;simp (config := { maxSteps := 2000000 }) (disch:=first|omega|rfl) only[sB,Za,reduceCtorEq];refine z02 ?_)|(refine EvC.condF ?_ ?_;simp (config := { maxSteps := 2000000 }) (disch:=first|omega|rfl) only[sB,Za,reduceCtorEq];refine z02 ?_))
      exact z06 rfl (by simp only[sG,Za,reduceCtorEq]) ⟨rfl,rfl⟩
     ·have d4:decide ((c:Int)≤65535)=false:=decide_eq_false (by omega);have d6:decide ((c:Int)≤1114111)=true:=decide_eq_true (by omega);rw[if_neg h5,if_pos hc]
      repeat' (first|refine EvC.seq ?_|refine EvC.block ?_|(refine EvC.ret ?_;try simp only[z05,z03])|(refine EvC.reg ?_;simp (config := { maxSteps := 2000000 }) (disch:=first|omega|rfl) only[sB,initTm,Za,reduceCtorEq,d0,d1,d2,d3,d5,d4,d6])|(refine EvC.condT ?_ ?_;simp (config := { maxSteps := 2000000 }) (disch:=first|omega|rfl) only[sB,Za,reduceCtorEq];refine z02 ?_)|(refine EvC.condF ?_ ?_;simp (config := { maxSteps := 2000000 }) (disch:=first|omega|rfl) only[sB,Za,reduceCtorEq];refine z02 ?_))
      exact z06 rfl (by simp only[sG,Za,reduceCtorEq]) ⟨rfl,rfl⟩
def preB (s u:ByteArray):Bool:=decide (u.size≤s.size) && ((s.extract 0 u.size).data.toList == u.data.toList)
theorem zjr {H:Heap}{s u:ByteArray}:EvF Tryz.prog okT 85 [.string s,.string u] H fun v H'=>v=.bool (preB s u)∧H'=H:=by
 refine EvF.enter rfl Tryz.func85 (by decide) rfl ?_;unfold preB;by_cases h:u.size≤s.size
 ·have d0:decide ((s.size:Int) ≥ (u.size:Int))=true:=decide_eq_true (by omega);have hs:=fun G (k:IntKind)=>z58 (P:=Tryz.prog) (H:=G) (k':=k) us9 h
  repeat' (first|refine EvC.seq ?_|(refine EvC.ret ?_)|(refine EvC.reg ?_;simp (config := { maxSteps := 2000000 }) (disch:=first|omega|rfl) only[sB,initTm,Za,reduceCtorEq,ln9,d0,hs,z16]))
  exact z06 rfl (by simp only[sB,Za,reduceCtorEq];rfl) ⟨by simp [h],rfl⟩
 ·have d0:decide ((s.size:Int) ≥ (u.size:Int))=false:=decide_eq_false (by omega)
  repeat' (first|refine EvC.seq ?_|(refine EvC.ret ?_)|(refine EvC.reg ?_;simp (config := { maxSteps := 2000000 }) (disch:=first|omega|rfl) only[sB,initTm,Za,reduceCtorEq,ln9,d0,Zc]))
  exact z06 rfl (by simp only[sB,Za,reduceCtorEq];rfl) ⟨by simp [h],rfl⟩
theorem zcy {H:Heap}{s u:ByteArray}:EvF Tryz.prog okT 56 [.string s,.string u] H fun v H'=>v=.bool (preB s u)∧H'=H:=by
 refine EvF.enter rfl Tryz.func56 (by decide) rfl ?_
 repeat' (first|refine EvC.seq ?_|(refine EvC.reg ?_;simp (config := { maxSteps := 2000000 }) (disch:=first|omega|rfl) only[sB,initTm,Za,reduceCtorEq,cl85]))
 refine zjr.mono ?_;rintro v H' ⟨rfl,rfl⟩
 repeat' (first|(refine EvC.ret ?_))
 exact z06 rfl (by simp only[sG,Za,reduceCtorEq]) ⟨rfl,rfl⟩
def oddS:ByteArray:=⟨#[239,191,189]⟩
theorem zjs (r:ByteArray):preB r oddS=true↔3≤r.size∧byteAt r 0=239∧byteAt r 1=191∧byteAt r 2=189:=by
 unfold preB;have h3:oddS.size=3:=rfl;rw[h3,Zi,decide_eq_true_eq,beq_iff_eq];constructor
 ·rintro ⟨h,e⟩;have hb:∀k,k < 3→byteAt r k=byteAt oddS k:=fun k hk=>by
   have:byteAt (r.extract 0 3) k=byteAt oddS k:=by unfold byteAt;rw[e]
   rw[←this];have a:k < (r.extract 0 3).size:=by rw[ByteArray.size_extract];omega
   rw[z2o _ _ a,z2o _ _ (by omega:k < r.size),ByteArray.getElem_extract];simp
  exact⟨h,hb 0 (by omega),hb 1 (by omega),hb 2 (by omega)⟩
 ·rintro ⟨h,h0,h1,h2⟩;refine⟨h,?_⟩;have hl:(r.extract 0 3).data.toList.length=3:=by
   have:(r.extract 0 3).size=3:=by rw[ByteArray.size_extract];omega
   rw[Array.length_toList];exact this
  have hb:∀k,k < 3→byteAt (r.extract 0 3) k=byteAt r k:=fun k hk=>by
   have a:k < (r.extract 0 3).size:=by rw[ByteArray.size_extract];omega
   rw[z2o _ _ a,z2o _ _ (by omega:k < r.size),ByteArray.getElem_extract];simp
  have e0:=(hb 0 (by omega)).trans h0;have e1:=(hb 1 (by omega)).trans h1;have e2:=(hb 2 (by omega)).trans h2;unfold byteAt at e0 e1 e2;generalize (r.extract 0 3).data.toList=l at *
  match l,hl with
  |[a,b,c],_ =>
   have f0:a=239:=UInt8.toNat_inj.1 e0;have f1:b=191:=UInt8.toNat_inj.1 e1;have f2:c=189:=UInt8.toNat_inj.1 e2;rw[f0,f1,f2];rfl
def cutC (r:ByteArray):Int × Int:=((Utf8.decode r 0).1,if (Utf8.decode r 0).1=65533∧(Utf8.decode r 0).2=1 then 0 else (Utf8.decode r 0).2)
set_option maxHeartbeats 4000000 in
theorem zod {H:Heap}{r:ByteArray}(h0:0 < r.size) (hw:H.wf):EvF Tryz.prog okT 54 [.string r] H fun v H'=>v=.tuple ⟨[.int .i64 (cutC r).1,.int .i64 (cutC r).2]⟩∧HX H H':=by
 refine EvF.enter rfl Tryz.func54 (by decide) rfl ?_;obtain⟨H1,e1,hx1,g1,n1,w1⟩:=new1 hw (.siter r 0);have hrg:=fun T (hT:Tryz.prog.underlying T=some .string)=>zoc (P:=Tryz.prog) (H:=H) (t:=T) (s:=r) hT
 have hrg9:=hrg _ Tryz.underlying9;have hnx:=zpt g1 h0;have hb:=fun i=>z3f r i
 have hN:=ze8 r 0;rw[Nat.sub_zero] at hN;obtain⟨k1,k2⟩:=zls (n:=r.size) (hb 0) (hb (0+1)) (hb (0+2)) (hb (0+3));obtain⟨k3,k4,k5⟩:=zbg (n:=r.size) (hb 0) (hb (0+1)) (hb (0+2)) (hb (0+3)) h0;rw[←hN] at k1 k2 k3 k4 k5;unfold cutC;generalize Utf8.decode r 0=dd at *;obtain⟨c,w⟩:=dd;simp only at k1 k2 k3 k4 k5 ⊢
 repeat' (first|refine EvC.seq ?_|refine EvC.block ?_|(refine EvC.reg ?_;simp (config := { maxSteps := 2000000 }) (disch:=first|omega|rfl) only[sB,initTm,Za,reduceCtorEq,z96,hrg9,e1]))
 refine EvC.loop1 rfl ?_;obtain⟨H2,e2⟩:∃H2,H1.put H.next (some (.siter r w))=H2:=⟨_,rfl⟩
 have hx2:HX H H2:=by rw[←e2];exact hx1.put (Ze _) (by omega) _
 repeat' (first|refine EvC.seq ?_|refine EvC.block ?_|(refine EvC.skip ?_;try simp only[z00])|(refine EvC.reg ?_;simp (config := { maxSteps := 2000000 }) (disch:=first|omega|rfl) only[sB,Za,reduceCtorEq,cl55,zjp,hnx,e2])|(refine EvC.condT ?_ ?_;simp (config := { maxSteps := 2000000 }) (disch:=first|omega|rfl) only[sB,Za,reduceCtorEq];refine z02 ?_))
 refine(zhl k3).mono ?_;rintro v H3 ⟨rfl,rfl⟩;have hwr:IntKind.i64.wrap (c:Int)=c:=z0e (by omega) (by omega);by_cases hc:c=65533
 ·have z1:((c:Int) == 65533)=true:=by rw[hc];rfl
  repeat' (first|refine EvC.seq ?_|(refine EvC.reg ?_;simp (config := { maxSteps := 2000000 }) (disch:=first|omega|rfl) only[sB,Za,reduceCtorEq,cl56,z1]))
  refine(zcy (u:=oddS)).mono ?_;rintro v H4 ⟨rfl,rfl⟩;rcases k2 hc with ⟨rfl,k6⟩|⟨rfl,k6⟩
  ·have hp:preB r oddS=false:=by rw[←ZB,zjs];exact k6
   repeat' (first|refine EvC.seq ?_|(refine EvC.ret ?_;try simp only[z05,z03])|(refine EvC.reg ?_;simp (config := { maxSteps := 2000000 }) (disch:=first|omega|rfl) only[sB,Za,reduceCtorEq,zje,hwr])|(refine z08 ?_;simp (config := { maxSteps := 2000000 }) (disch:=first|omega|rfl) only[sB,Za,reduceCtorEq,hp,Zm])|(refine EvC.condT ?_ ?_;simp (config := { maxSteps := 2000000 }) (disch:=first|omega|rfl) only[sB,Za,reduceCtorEq];refine z02 ?_))
   exact z09 rfl (by simp only[sB,Za,reduceCtorEq];rfl) (by simp only[sB,Za,reduceCtorEq];rfl) ⟨by simp [hc],hx2⟩
  ·have hp:preB r oddS=true:=(zjs r).2 k6
   repeat' (first|refine EvC.seq ?_|(refine EvC.skip ?_;try simp only[z00])|(refine EvC.ret ?_;try simp only[z05,z03])|(refine EvC.reg ?_;simp (config := { maxSteps := 2000000 }) (disch:=first|omega|rfl) only[sB,Za,reduceCtorEq,zje,hwr])|(refine z08 ?_;simp (config := { maxSteps := 2000000 }) (disch:=first|omega|rfl) only[sB,Za,reduceCtorEq,hp,Zn])|(refine EvC.condF ?_ ?_;simp (config := { maxSteps := 2000000 }) (disch:=first|omega|rfl) only[sB,Za,reduceCtorEq];refine z02 ?_))
   have hr3:rlen c=(if c=65533∧False then 0 else ((3:Nat):Int)):=by rw[if_neg (fun q=>q.2),hc];rfl
   rw[←hr3];exact z09 rfl (by simp only[sG,Za,reduceCtorEq]) (by simp only[sG,Za,reduceCtorEq]) ⟨rfl,hx2⟩
 ·have z1:((c:Int) == 65533)=false:=z0r (by omega)
  repeat' (first|refine EvC.seq ?_|(refine EvC.skip ?_;try simp only[z00])|(refine EvC.ret ?_;try simp only[z05,z03])|(refine EvC.reg ?_;simp (config := { maxSteps := 2000000 }) (disch:=first|omega|rfl) only[sB,Za,reduceCtorEq,zje,z1,hwr,Zc])|(refine EvC.condF ?_ ?_;simp (config := { maxSteps := 2000000 }) (disch:=first|omega|rfl) only[sB,Za,reduceCtorEq];refine z02 ?_))
  exact z09 rfl (by simp only[sB,Za,reduceCtorEq];rfl) (by simp only[sB,Za,reduceCtorEq];rfl) ⟨by rw[if_neg (fun q=>hc q.1),k1 hc],hx2⟩
theorem zjt {H:Heap}{B:Nat→Prop}{p fb ob:Nat}{blk:Int→Nat}{φ:FSt}{n:Int}{peek:Bool}(h:FsB H B p fb ob blk φ) (hw:H.wf) (hn:i64 n)
  (hp:∀s,φ.get n=some s→0≤s.pos∧s.pos≤((φ.data s).size:Int)∧(φ.data s).size≤maxLen) :
  EvF Tryz.prog okT 16 [ptrV p,.int .i64 n,.bool peek] H fun v H'=>∃e,v=.tuple ⟨[.int .i64 (φ.readR n false peek cutC).1,e]⟩∧Hy B H H'∧ErrR H' (φ.readR n false peek cutC).2.1 e∧FsB H' B p fb ob blk (φ.readR n false peek cutC).2.2:=by
 refine EvF.enter rfl Tryz.func16 (by decide) rfl ?_
 repeat' (first|refine EvC.seq ?_|(refine EvC.reg ?_;simp (config := { maxSteps := 2000000 }) (disch:=first|omega|rfl) only[sB,initTm,Za,Zb,reduceCtorEq,cl53]))
 refine(zjl (g:=54) (cut:=cutC) (peek:=peek) (bin:=false) h hw hn hp (by kernel_rfl) (fun H1 r w1 h0 hm=>⟨?_,?_,zod h0 w1⟩)).mono ?_
 ·unfold cutC;simp only;split<;>omega
 ·have hb:=fun i=>z3f r i
  have k:=(zbg (n:=r.size) (hb 0) (hb (0+1)) (hb (0+2)) (hb (0+3)) h0).2.2;have hN:=ze8 r 0;rw[Nat.sub_zero] at hN;rw[←hN] at k;unfold cutC;simp only;split<;>omega
 rintro v H1 ⟨e,rfl,k1,k2,k3⟩
 repeat' (first|(refine EvC.ret ?_)|(refine z08 ?_;simp (config := { maxSteps := 2000000 }) (disch:=first|omega|rfl) only[sB,Za,reduceCtorEq]))
 exact z09 rfl (by simp only[sG,Za,reduceCtorEq]) (by simp only[sG,Za,reduceCtorEq]) ⟨e,rfl,k1,k2,k3⟩
end Go.Proofs.hq
end

section
namespace Go.Hb
open Go Go.RowKit
def mayC (v:Nat):Bool:=decide (v≤1114111) && (decide (v < 55296) || decide (57343 < v))
def goodC (b:Nat):Prop:=128≤b∧b < 192
def accC (v0:Nat) (b:Nat→Nat) (j:Nat):Nat:=if j=0 then v0 else if j=1 then v0*64+b 1 - 128 else if j=2 then (v0*64+b 1 - 128)*64+b 2 - 128 else ((v0*64+b 1 - 128)*64+b 2 - 128)*64+b 3 - 128
theorem z97 (v0:Nat) (b:Nat→Nat) {j:Nat}(h:j < 3):accC v0 b (j+1)=accC v0 b j*64+b (j+1) - 128:=by
 have:j=0∨j=1∨j=2:=by omega
 rcases this with rfl|rfl|rfl<;>simp [accC]
def LeadC (c n v0 low:Nat):Prop:=(192≤c∧c < 224∧n=2∧v0=c - 192∧low=128)∨(224≤c∧c < 240∧n=3∧v0=c - 224∧low=2048)∨(240≤c∧c < 248∧n=4∧v0=c - 240∧low=65536)
def refC (n:Nat) (b:Nat→Nat):Nat × Nat:=if Lib.decodeN n (b 0) (b 1) (b 2) (b 3)=(65533,1) then (0,0) else Lib.decodeN n (b 0) (b 1) (b 2) (b 3)
theorem zea {c n v0 low:Nat}{b:Nat→Nat}(hl:LeadC c n v0 low) (hb:∀k,b k < 256) (j:Nat):accC v0 b j < 16777216:=by
 have c1:=hb 1;have c2:=hb 2;have c3:=hb 3;unfold LeadC at hl;unfold accC
 repeat' split
 all_goals omega
set_option maxHeartbeats 4000000 in
theorem zbh {c n m v0 low:Nat}{b:Nat→Nat}(hl:LeadC c n v0 low) (hb:∀k,b k < 256) (h0:b 0=c) {k:Nat}(h1:1≤k) (h2:k < n) (hk:¬goodC (b k)):refC m b=(0,0):=by
 unfold refC;refine if_pos ?_;have c1:=hb 1;have c2:=hb 2;have c3:=hb 3;unfold LeadC at hl;unfold goodC at hk;rw[h0];have hk3:k=1∨k=2∨k=3:=by omega
 unfold Lib.decodeN;rcases hk3 with rfl|rfl|rfl
 all_goals (repeat' split)
 all_goals first|rfl|(exfalso;omega)
set_option maxRecDepth 100000 in
set_option maxHeartbeats 8000000 in
theorem z98 {c n m v0 low:Nat}{b:Nat→Nat}(hl:LeadC c n v0 low) (hb:∀k,b k < 256) (h0:b 0=c) (hm:∀k,m≤k→b k=0) (hg:∀k,1≤k→k < n→goodC (b k)) :
  refC m b=if accC v0 b (n - 1) < low∨mayC (accC v0 b (n - 1))=false then (0,0) else (accC v0 b (n - 1),n):=by
 have c0:=hb 0;have c1:=hb 1;have c2:=hb 2;have c3:=hb 3;have hlt:∀k,goodC (b k)→k < m:=fun k hk=>by
  by_cases h:k < m
  ·exact h
  ·have:=hm k (by omega);unfold goodC at hk;omega
 unfold LeadC at hl;rcases hl with ⟨a1,a2,e1,e2,e3⟩|⟨a1,a2,e1,e2,e3⟩|⟨a1,a2,e1,e2,e3⟩<;>subst e1<;>subst e2<;>subst e3
 ·have g1:=hg 1 (by omega) (by omega);have m1:=hlt 1 g1;unfold goodC at g1;simp only[accC,show 2 - 1=1 from rfl,Za,if_true,if_false,mayC,Bool.and_eq_false_iff,Bool.or_eq_false_iff,decide_eq_false_iff_not];unfold refC;obtain⟨x,hx⟩:∃x,x=Lib.decodeN m (b 0) (b 1) (b 2) (b 3):=⟨_,rfl⟩
  rw[←hx];rw[h0] at hx;unfold Lib.decodeN at hx
  repeat' split at hx
  all_goals subst hx
  all_goals simp only[Prod.mk.injEq,Za,and_false,and_true,and_self,if_true,if_false]
  all_goals (repeat' split)
  all_goals first|rfl|(exfalso;omega)|(apply Prod.ext<;>simp only<;>omega)
 ·have g1:=hg 1 (by omega) (by omega);have g2:=hg 2 (by omega) (by omega);have m1:=hlt 2 g2;unfold goodC at g1 g2;simp only[accC,show 3 - 1=2 from rfl,Za,if_true,if_false,mayC,Bool.and_eq_false_iff,Bool.or_eq_false_iff,decide_eq_false_iff_not];unfold refC;obtain⟨x,hx⟩:∃x,x=Lib.decodeN m (b 0) (b 1) (b 2) (b 3):=⟨_,rfl⟩
  rw[←hx];rw[h0] at hx;unfold Lib.decodeN at hx
  repeat' split at hx
  all_goals subst hx
  all_goals simp only[Prod.mk.injEq,Za,and_false,and_true,and_self,if_true,if_false]
  all_goals (repeat' split)
  all_goals first|rfl|(exfalso;omega)|(apply Prod.ext<;>simp only<;>omega)
 ·have g1:=hg 1 (by omega) (by omega);have g2:=hg 2 (by omega) (by omega);have g3:=hg 3 (by omega) (by omega);have m1:=hlt 3 g3;unfold goodC at g1 g2 g3;simp only[accC,show 4 - 1=3 from rfl,Za,if_false,mayC,Bool.and_eq_false_iff,Bool.or_eq_false_iff,decide_eq_false_iff_not];unfold refC;obtain⟨x,hx⟩:∃x,x=Lib.decodeN m (b 0) (b 1) (b 2) (b 3):=⟨_,rfl⟩
  rw[←hx];rw[h0] at hx;unfold Lib.decodeN at hx
  repeat' split at hx
  all_goals subst hx
  all_goals simp only[Prod.mk.injEq,Za,and_false,and_true,and_self,if_true,if_false]
  all_goals (repeat' split)
  all_goals first|rfl|(exfalso;omega)|(apply Prod.ext<;>simp only<;>omega)
theorem zlt {c m:Nat}{b:Nat→Nat}(h0:b 0=c) (h:c < 128):refC m b=(c,1):=by
 unfold refC Lib.decodeN;rw[h0,if_pos h];exact if_neg (by intro q;have:=(Prod.mk.inj q).1;omega)
theorem zju {c m:Nat}{b:Nat→Nat}(h0:b 0=c) (h:(128≤c∧c < 192)∨248≤c) (hc:c < 256):refC m b=(0,0):=by
 unfold refC Lib.decodeN;rw[h0];refine if_pos ?_
 repeat' split
 all_goals first|rfl|(exfalso;omega)
end Go.Hb
end

section
namespace Go.Proofs.hq
open Go Go.RowKit Go.Hb
variable {ok:Ok}
set_option maxRecDepth 10000
attribute [local irreducible] LX LG EL STG SOP SGO SGD SAL SRD SEF SEG SLK SCK ES
theorem zg4 {H:Heap}{s:ByteArray}{i:Nat}:EvF Tryz.prog okT 97 [.string s,.int .i64 (i:Nat)] H fun v H'=>v=.int .u8 (byteAt s i:Nat)∧H'=H:=by
 refine EvF.enter rfl Tryz.func97 (by decide) rfl ?_;have d0:decide ((i:Int) < 0)=false:=decide_eq_false (by omega);by_cases h:i < s.size
 ·have d1:decide ((i:Int) ≥ (s.size:Int))=false:=decide_eq_false (by omega);have hi:=fun (k:IntKind)=>ix9 (s:=s) (k:=k) (i:=i) (H:=H) h
  repeat' (first|refine EvC.seq ?_|(refine EvC.skip ?_;try simp only[z00])|(refine EvC.ret ?_)|(refine EvC.reg ?_;simp (config := { maxSteps := 2000000 }) (disch:=first|omega|rfl) only[sB,initTm,Za,reduceCtorEq,ln9,d0,d1,hi,Zc])|(refine EvC.condF ?_ ?_;simp (config := { maxSteps := 2000000 }) (disch:=first|omega|rfl) only[sB,Za,reduceCtorEq];refine z02 ?_))
  exact z06 rfl (by simp only[sG,Za,reduceCtorEq]) ⟨rfl,rfl⟩
 ·have d1:decide ((i:Int) ≥ (s.size:Int))=true:=decide_eq_true (by omega)
  repeat' (first|refine EvC.seq ?_|(refine EvC.ret ?_;try simp only[z05,z03])|(refine EvC.reg ?_;simp (config := { maxSteps := 2000000 }) (disch:=first|omega|rfl) only[sB,initTm,Za,reduceCtorEq,ln9,d0,d1,Zc])|(refine EvC.condT ?_ ?_;simp (config := { maxSteps := 2000000 }) (disch:=first|omega|rfl) only[sB,Za,reduceCtorEq];refine z02 ?_))
  exact z06 rfl (by simp only[sB,Za,reduceCtorEq];rfl) ⟨by rw[z3n s (by omega)];rfl,rfl⟩
theorem zjv {H:Heap}{c:Nat}:EvF Tryz.prog okT 98 [.int .i64 (c:Nat)] H fun v H'=>v=.bool (mayC c)∧H'=H:=by
 refine EvF.enter rfl Tryz.func98 (by decide) rfl ?_;have d0:decide ((c:Int) ≥ 0)=true:=decide_eq_true (by omega);unfold mayC;by_cases h1:c≤1114111
 ·have d1:decide ((c:Int)≤1114111)=true:=decide_eq_true (by omega);by_cases h2:c < 55296
  ·have d2:decide ((c:Int) < 55296)=true:=decide_eq_true (by omega)
   repeat' (first|refine EvC.seq ?_|(refine EvC.ret ?_)|(refine EvC.reg ?_;simp (config := { maxSteps := 2000000 }) (disch:=first|omega|rfl) only[sB,initTm,Za,reduceCtorEq,d0,d1,d2]))
   exact z06 rfl (by simp only[sB,Za,reduceCtorEq];rfl) ⟨by simp [h1,h2],rfl⟩
  ·have d2:decide ((c:Int) < 55296)=false:=decide_eq_false (by omega);by_cases h3:57343 < c
   ·have d3:decide ((57343:Int) < (c:Int))=true:=decide_eq_true (by omega)
    repeat' (first|refine EvC.seq ?_|(refine EvC.ret ?_)|(refine EvC.reg ?_;simp (config := { maxSteps := 2000000 }) (disch:=first|omega|rfl) only[sB,initTm,Za,reduceCtorEq,d0,d1,d2,d3,gt_iff_lt,Zc]))
    exact z06 rfl (by simp only[sB,Za,reduceCtorEq];rfl) ⟨by simp [h1,h3],rfl⟩
   ·have d3:decide ((57343:Int) < (c:Int))=false:=decide_eq_false (by omega)
    repeat' (first|refine EvC.seq ?_|(refine EvC.ret ?_)|(refine EvC.reg ?_;simp (config := { maxSteps := 2000000 }) (disch:=first|omega|rfl) only[sB,initTm,Za,reduceCtorEq,d0,d1,d2,d3,gt_iff_lt,Zc]))
    exact z06 rfl (by simp only[sB,Za,reduceCtorEq];rfl) ⟨by simp [h2,h3],rfl⟩
 ·have d1:decide ((c:Int)≤1114111)=false:=decide_eq_false (by omega)
  repeat' (first|refine EvC.seq ?_|(refine EvC.ret ?_)|(refine EvC.reg ?_;simp (config := { maxSteps := 2000000 }) (disch:=first|omega|rfl) only[sB,initTm,Za,reduceCtorEq,d0,d1,Zc]))
  exact z06 rfl (by simp only[sB,Za,reduceCtorEq];rfl) ⟨by simp [h1],rfl⟩
def refCs (s:ByteArray) (i:Nat):Nat × Nat:=if s.size≤i then (0,0) else refC (s.size - i) fun k=>byteAt s (i+k)
set_option maxHeartbeats 8000000 in
theorem zcz {H:Heap}{s:ByteArray}{i:Nat}(hi:i≤s.size) (hs:s.size≤4611686018427387904) :
  EvF Tryz.prog okT 79 [.string s,.int .i64 (i:Nat)] H fun v H'=>v=.tuple ⟨[.int .i64 ((refCs s i).1:Nat),.int .i64 ((refCs s i).2:Nat)]⟩∧H'=H:=by
 refine EvF.enter rfl Tryz.func79 (by decide) rfl ?_
 repeat' (first|refine EvC.seq ?_|(refine EvC.reg ?_;simp (config := { maxSteps := 2000000 }) (disch:=first|omega|rfl) only[sB,initTm,Za,reduceCtorEq,cl97]))
 refine zg4.mono ?_;rintro v H' ⟨rfl,rfl⟩;obtain⟨c,hc⟩:∃c,c=byteAt s i:=⟨_,rfl⟩
 have h256:c < 256:=by rw[hc];exact z3f s i
 have hb:=fun k=>z3f s (i+k)
 have hb0:byteAt s (i+0)=c:=by rw[hc,Nat.add_zero]
 rw[←hc];have hw1:IntKind.i64.wrap (c:Int)=c:=z0e (by omega) (by omega);by_cases hend:s.size≤i
 ·have d0:decide ((i:Int) ≥ (s.size:Int))=true:=decide_eq_true (by omega)
  repeat' (first|refine EvC.seq ?_|(refine EvC.ret ?_;try simp only[z05,z03])|(refine EvC.reg ?_;simp (config := { maxSteps := 2000000 }) (disch:=first|omega|rfl) only[sB,Za,reduceCtorEq,ln9,d0])|(refine z08 ?_;simp (config := { maxSteps := 2000000 }) (disch:=first|omega|rfl) only[sB,Za,reduceCtorEq,z4h,hw1])|(refine EvC.condT ?_ ?_;simp (config := { maxSteps := 2000000 }) (disch:=first|omega|rfl) only[sB,Za,reduceCtorEq];refine z02 ?_))
  exact z09 rfl (by simp only[sB,Za,reduceCtorEq];rfl) (by simp only[sB,Za,reduceCtorEq];rfl) ⟨by rw[refCs,if_pos hend];rfl,rfl⟩
 have d0:decide ((i:Int) ≥ (s.size:Int))=false:=decide_eq_false (by omega);have hR:refCs s i=refC (s.size - i) fun k=>byteAt s (i+k):=by rw[refCs,if_neg hend]
 by_cases h128:c < 128
 ·have d1:decide ((c:Int) < 128)=true:=decide_eq_true (by omega)
  repeat' (first|refine EvC.seq ?_|(refine EvC.skip ?_;try simp only[z00])|(refine EvC.ret ?_;try simp only[z05,z03])|(refine EvC.reg ?_;simp (config := { maxSteps := 2000000 }) (disch:=first|omega|rfl) only[sB,Za,reduceCtorEq,ln9,d0,d1])|(refine z08 ?_;simp (config := { maxSteps := 2000000 }) (disch:=first|omega|rfl) only[sB,Za,reduceCtorEq,z4h,hw1])|(refine EvC.condT ?_ ?_;simp (config := { maxSteps := 2000000 }) (disch:=first|omega|rfl) only[sB,Za,reduceCtorEq];refine z02 ?_)|(refine EvC.condF ?_ ?_;simp (config := { maxSteps := 2000000 }) (disch:=first|omega|rfl) only[sB,Za,reduceCtorEq];refine z02 ?_))
  exact z09 rfl (by simp only[sB,Za,reduceCtorEq];rfl) (by simp only[sB,Za,reduceCtorEq];rfl) ⟨by rw[hR,zlt hb0 h128];rfl,rfl⟩
 have d1:decide ((c:Int) < 128)=false:=decide_eq_false (by omega);by_cases hno:(128≤c∧c < 192)∨248≤c
 ·have hR0:refCs s i=(0,0):=by rw[hR];exact zju hb0 hno h256
  rcases hno with ⟨h1,h2⟩|h1
  ·have q1:decide ((c:Int) ≥ 192)=false:=decide_eq_false (by omega);have q3:decide ((c:Int) ≥ 224)=false:=decide_eq_false (by omega);have q5:decide ((c:Int) ≥ 240)=false:=decide_eq_false (by omega)
   repeat' (first|refine EvC.seq ?_|refine EvC.block ?_|(refine EvC.skip ?_;try simp only[z00])|(refine EvC.ret ?_;try simp only[z05,z03])|(refine EvC.reg ?_;simp (config := { maxSteps := 2000000 }) (disch:=first|omega|rfl) only[sB,Za,reduceCtorEq,ln9,d0,d1,q1,q3,q5,Zc])|(refine z08 ?_;simp (config := { maxSteps := 2000000 }) (disch:=first|omega|rfl) only[sB,Za,reduceCtorEq,z4h,hw1])|(refine EvC.condF ?_ ?_;simp (config := { maxSteps := 2000000 }) (disch:=first|omega|rfl) only[sB,Za,reduceCtorEq];refine z02 ?_))
   exact z09 rfl (by simp only[sB,Za,reduceCtorEq];rfl) (by simp only[sB,Za,reduceCtorEq];rfl) ⟨by rw[hR0];rfl,rfl⟩
  ·have q1:decide ((c:Int) ≥ 192)=true:=decide_eq_true (by omega);have q2:decide ((c:Int) < 224)=false:=decide_eq_false (by omega);have q3:decide ((c:Int) ≥ 224)=true:=decide_eq_true (by omega);have q4:decide ((c:Int) < 240)=false:=decide_eq_false (by omega);have q5:decide ((c:Int) ≥ 240)=true:=decide_eq_true (by omega);have q6:decide ((c:Int) < 248)=false:=decide_eq_false (by omega)
   repeat' (first|refine EvC.seq ?_|refine EvC.block ?_|(refine EvC.skip ?_;try simp only[z00])|(refine EvC.ret ?_;try simp only[z05,z03])|(refine EvC.reg ?_;simp (config := { maxSteps := 2000000 }) (disch:=first|omega|rfl) only[sB,Za,reduceCtorEq,ln9,d0,d1,q1,q2,q3,q4,q5,q6])|(refine z08 ?_;simp (config := { maxSteps := 2000000 }) (disch:=first|omega|rfl) only[sB,Za,reduceCtorEq,z4h,hw1])|(refine EvC.condF ?_ ?_;simp (config := { maxSteps := 2000000 }) (disch:=first|omega|rfl) only[sB,Za,reduceCtorEq];refine z02 ?_))
   exact z09 rfl (by simp only[sB,Za,reduceCtorEq];rfl) (by simp only[sB,Za,reduceCtorEq];rfl) ⟨by rw[hR0];rfl,rfl⟩
 have hcs:(192≤c∧c < 224)∨(224≤c∧c < 240)∨(240≤c∧c < 248):=by omega
 rcases hcs with ⟨h1,h2⟩|⟨h1,h2⟩|⟨h1,h2⟩
 ·have q1:decide ((c:Int) ≥ 192)=true:=decide_eq_true (by omega);have q2:decide ((c:Int) < 224)=true:=decide_eq_true (by omega);have hw2:IntKind.i64.wrap ((c:Int) - 192)=((c - 192:Nat):Int):=by rw[z0e (by omega) (by omega)];omega
  repeat' (first|refine EvC.seq ?_|refine EvC.block ?_|(refine EvC.skip ?_;try simp only[z00])|(refine EvC.reg ?_;simp (config := { maxSteps := 2000000 }) (disch:=first|omega|rfl) only[sB,Za,reduceCtorEq,ln9,hw2,d0,d1,q1,q2])|(refine z08 ?_;simp (config := { maxSteps := 2000000 }) (disch:=first|omega|rfl) only[sB,Za,reduceCtorEq,z4h,hw1])|(refine EvC.condT ?_ ?_;simp (config := { maxSteps := 2000000 }) (disch:=first|omega|rfl) only[sB,Za,reduceCtorEq];refine z02 ?_)|(refine EvC.condF ?_ ?_;simp (config := { maxSteps := 2000000 }) (disch:=first|omega|rfl) only[sB,Za,reduceCtorEq];refine z02 ?_))
  refine EvC.frame (fun tm=>∃n v0 low,LeadC c n v0 low∧tm.get 0=some (.string s)∧tm.get 1=some (.int .i64 (i:Nat))∧tm.get 7=some (.int .i64 (n:Nat))∧tm.get 8=some (.int .i64 (v0:Nat))∧tm.get 9=some (.int .i64 (low:Nat))∧tm.get 10=some (.int .i64 1)) ⟨2,c - 192,128,.inl ⟨h1,h2,rfl,rfl,rfl⟩,(by simp only[sG,reduceCtorEq]),(by simp only[sG,Za,reduceCtorEq]),(by simp only[sB,Za,reduceCtorEq];rfl),(by simp only[sG,Za,reduceCtorEq]),(by simp only[sB,Za,reduceCtorEq];rfl),(by simp only[sG,Za,reduceCtorEq])⟩ ?_;rintro tm ⟨n,v0,low,hl,t0,t1,t7,t8,t9,t10⟩;have hn4:2≤n∧n≤4∧low≤65536:=by unfold LeadC at hl;omega
  refine EvC.loop (fun k st=>∃tm j,st=⟨tm,[],H'⟩∧k=n - 1 - j∧j+1≤n∧(∀k,1≤k→k≤j→goodC (byteAt s (i+k)))∧tm.get 0=some (.string s)∧tm.get 1=some (.int .i64 (i:Nat))∧tm.get 7=some (.int .i64 (n:Nat))∧tm.get 8=some (.int .i64 (accC v0 (fun k=>byteAt s (i+k)) j:Nat))∧tm.get 9=some (.int .i64 (low:Nat))∧tm.get 10=some (.int .i64 (j+1:Nat))) ?_ (n - 1) _ ?_
  ·rintro k st ⟨tm,j,rfl,rfl,hj,hg,t0,t1,t7,t8,t9,t10⟩;have hacc:=zea hl hb j;by_cases hjn:j+1 < n
   ·have hw3:IntKind.i64.wrap ((i:Int)+((j+1:Nat):Int))=((i+(j+1):Nat):Int):=by rw[z0e (by omega) (by omega)];omega
    repeat' (first|refine EvC.seq ?_|refine EvC.block ?_|(refine EvC.skip ?_;try simp only[z00])|(refine EvC.reg ?_;simp (config := { maxSteps := 2000000 }) (disch:=first|omega|rfl) only[sB,Za,reduceCtorEq,cl97,t0,t1,t7,t10,decl hjn,hw3])|(refine EvC.condT ?_ ?_;simp (config := { maxSteps := 2000000 }) (disch:=first|omega|rfl) only[sB,Za];refine z02 ?_))
    refine zg4.mono ?_;rintro v H2 ⟨rfl,rfl⟩;obtain⟨x,hx⟩:∃x,x=byteAt s (i+(j+1)):=⟨_,rfl⟩
    have hx256:x < 256:=by rw[hx];exact hb (j+1)
    rw[←hx];have ha:accC v0 (fun k=>byteAt s (i+k)) (j+1)=accC v0 (fun k=>byteAt s (i+k)) j*64+x - 128:=by rw[z97 _ _ (by omega),hx]
    obtain⟨a,hae⟩:∃a,a=accC v0 (fun k=>byteAt s (i+k)) j:=⟨_,rfl⟩
    rw[←hae] at ha hacc t8;have hw4:IntKind.i64.wrap (x:Int)=x:=z0e (by omega) (by omega);by_cases hbad:goodC x
    ·have hgx:=hbad;unfold goodC at hgx;have f1:decide ((x:Int) < 128)=false:=decide_eq_false (by omega);have f2:decide ((x:Int) ≥ 192)=false:=decide_eq_false (by omega);have hw5:IntKind.i64.wrap ((a:Int)*64)=(a:Int)*64:=z0e (by omega) (by omega);have hw6:IntKind.i64.wrap ((a:Int)*64+(x:Int))=(a:Int)*64+x:=z0e (by omega) (by omega);have hw7:IntKind.i64.wrap ((a:Int)*64+(x:Int) - 128)=((a*64+x - 128:Nat):Int):=by rw[z0e (by omega) (by omega)];omega
     have hw8:IntKind.i64.wrap (((j+1:Nat):Int)+1)=((j+1+1:Nat):Int):=by rw[z0e]<;>omega
     repeat' (first|refine EvC.seq ?_|(refine EvC.skip ?_;try simp only[z00])|(refine EvC.reg ?_;simp (config := { maxSteps := 2000000 }) (disch:=first|omega|rfl) only[sB,Za,f1,f2,t8,hw5,hw6,hw7,t10,hw8,Zc])|(refine z08 ?_;simp (config := { maxSteps := 2000000 }) (disch:=first|omega|rfl) only[sB,Za,z4h,hw4])|(refine EvC.condF ?_ ?_;simp (config := { maxSteps := 2000000 }) (disch:=first|omega|rfl) only[sB,Za];refine z02 ?_))
     refine⟨_,by omega,_,j+1,rfl,rfl,by omega,fun k k1 k2=>?_,(by simp only[sG,reduceCtorEq,t0]),(by simp only[sG,Za,t1]),(by simp only[sG,Za,t7]),?_,(by simp only[sG,Za,t9]),(by simp only[sG,Za])⟩
     ·by_cases hk:k≤j
      ·exact hg k k1 hk
      ·obtain rfl:k=j+1:=by omega
       rw[←hx];exact hbad
     ·rw[ha];exact(by simp only[sG,Za])
    ·have hR0:refCs s i=(0,0):=by rw[hR];exact zbh hl hb hb0 (k:=j+1) (by omega) hjn (by rw[←hx];exact hbad)
     unfold goodC at hbad;by_cases hx1:x < 128
     ·have f1:decide ((x:Int) < 128)=true:=decide_eq_true (by omega)
      repeat' (first|refine EvC.seq ?_|(refine EvC.ret ?_;try simp only[z05,z03])|(refine EvC.reg ?_;simp (config := { maxSteps := 2000000 }) (disch:=first|omega|rfl) only[sB,Za,f1])|(refine z08 ?_;simp (config := { maxSteps := 2000000 }) (disch:=first|omega|rfl) only[sB,Za,z4h,hw4])|(refine EvC.condT ?_ ?_;simp (config := { maxSteps := 2000000 }) (disch:=first|omega|rfl) only[sB,Za];refine z02 ?_))
      exact z09 rfl (by simp only[sB,Za];rfl) (by simp only[sB,Za];rfl) ⟨by rw[hR0];rfl,rfl⟩
     ·have f1:decide ((x:Int) < 128)=false:=decide_eq_false (by omega);have f2:decide ((x:Int) ≥ 192)=true:=decide_eq_true (by omega)
      repeat' (first|refine EvC.seq ?_|(refine EvC.ret ?_;try simp only[z05,z03])|(refine EvC.reg ?_;simp (config := { maxSteps := 2000000 }) (disch:=first|omega|rfl) only[sB,Za,f1,f2,Zc])|(refine z08 ?_;simp (config := { maxSteps := 2000000 }) (disch:=first|omega|rfl) only[sB,Za,z4h,hw4])|(refine EvC.condT ?_ ?_;simp (config := { maxSteps := 2000000 }) (disch:=first|omega|rfl) only[sB,Za];refine z02 ?_))
      exact z09 rfl (by simp only[sB,Za];rfl) (by simp only[sB,Za];rfl) ⟨by rw[hR0];rfl,rfl⟩
   ·obtain rfl:n=j+1:=by omega
    have hgd:=z98 hl hb hb0 (m:=s.size - i) (fun k hk=>z3n s (by omega)) (fun k k1 k2=>hg k k1 (by omega));rw[Nat.add_sub_cancel,←hR] at hgd;generalize accC v0 (fun k=>byteAt s (i+k)) j=a at *;by_cases hlo:a < low
    ·repeat' (first|refine EvC.seq ?_|(refine EvC.exit ?_;try simp only[sB])|(refine EvC.ret ?_;try simp only[z05,z03])|(refine EvC.reg ?_;simp (config := { maxSteps := 2000000 }) (disch:=first|omega|rfl) only[sB,Za,Zh,t7,t10,decn hjn,t8,t9,decl hlo])|(refine EvC.condT ?_ ?_;simp (config := { maxSteps := 2000000 }) (disch:=first|omega|rfl) only[sB,Za];refine z02 ?_)|(refine EvC.condF ?_ ?_;simp (config := { maxSteps := 2000000 }) (disch:=first|omega|rfl) only[sB,Za];refine z02 ?_))
     exact z09 rfl (by simp only[sB,Za];rfl) (by simp only[sB,Za];rfl) ⟨by rw[hgd,if_pos (.inl hlo)];rfl,rfl⟩
    ·repeat' (first|refine EvC.seq ?_|(refine EvC.exit ?_;try simp only[sB])|(refine EvC.reg ?_;simp (config := { maxSteps := 2000000 }) (disch:=first|omega|rfl) only[sB,Za,Zh,cl98,t7,t10,decn hjn,t8,t9,decn hlo])|(refine EvC.condF ?_ ?_;simp (config := { maxSteps := 2000000 }) (disch:=first|omega|rfl) only[sB,Za];refine z02 ?_))
     refine zjv.mono ?_;rintro v H2 ⟨rfl,rfl⟩;cases hmm:mayC a with
     |false =>
      repeat' (first|refine EvC.seq ?_|(refine EvC.ret ?_;try simp only[z05,z03])|(refine EvC.reg ?_;simp (config := { maxSteps := 2000000 }) (disch:=first|omega|rfl) only[sA])|(refine z08 ?_;simp (config := { maxSteps := 2000000 }) (disch:=first|omega|rfl) only[sB,Za,reduceCtorEq,Zm])|(refine EvC.condT ?_ ?_;simp (config := { maxSteps := 2000000 }) (disch:=first|omega|rfl) only[sB,Za];refine z02 ?_))
      exact z09 rfl (by simp only[sB,Za];rfl) (by simp only[sB,Za];rfl) ⟨by rw[hgd,if_pos (.inr hmm)];rfl,rfl⟩
     |true =>
      repeat' (first|refine EvC.seq ?_|(refine EvC.skip ?_;try simp only[z00])|(refine EvC.ret ?_)|(refine EvC.reg ?_;simp (config := { maxSteps := 2000000 }) (disch:=first|omega|rfl) only[sB,Za,t7,t8])|(refine z08 ?_;simp (config := { maxSteps := 2000000 }) (disch:=first|omega|rfl) only[sB,Za,Zn,Zc])|(refine EvC.condF ?_ ?_;simp (config := { maxSteps := 2000000 }) (disch:=first|omega|rfl) only[sB,Za];refine z02 ?_))
      exact z09 rfl (by simp only[sB,Za];rfl) (by simp only[sB,Za];rfl) ⟨by rw[hgd,if_neg (fun q=>q.elim hlo fun q=>by rw[hmm] at q;cases q)],rfl⟩
  ·exact⟨_,0,rfl,by omega,by omega,fun k k1 k2=>by omega,t0,t1,t7,t8,t9,t10⟩
 ·have q1:decide ((c:Int) ≥ 192)=true:=decide_eq_true (by omega);have q2:decide ((c:Int) < 224)=false:=decide_eq_false (by omega);have q3:decide ((c:Int) ≥ 224)=true:=decide_eq_true (by omega);have q4:decide ((c:Int) < 240)=true:=decide_eq_true (by omega);have hw2:IntKind.i64.wrap ((c:Int) - 224)=((c - 224:Nat):Int):=by rw[z0e (by omega) (by omega)];omega
  repeat' (first|refine EvC.seq ?_|refine EvC.block ?_|(refine EvC.skip ?_;try simp only[z00])|(refine EvC.reg ?_;simp (config := { maxSteps := 2000000 }) (disch:=first|omega|rfl) only[sB,Za,reduceCtorEq,ln9,hw2,d0,d1,q1,q2,q3,q4])|(refine z08 ?_;simp (config := { maxSteps := 2000000 }) (disch:=first|omega|rfl) only[sB,Za,reduceCtorEq,z4h,hw1])|(refine EvC.condT ?_ ?_;simp (config := { maxSteps := 2000000 }) (disch:=first|omega|rfl) only[sB,Za,reduceCtorEq];refine z02 ?_)|(refine EvC.condF ?_ ?_;simp (config := { maxSteps := 2000000 }) (disch:=first|omega|rfl) only[sB,Za,reduceCtorEq];refine z02 ?_))
  refine EvC.frame (fun tm=>∃n v0 low,LeadC c n v0 low∧tm.get 0=some (.string s)∧tm.get 1=some (.int .i64 (i:Nat))∧tm.get 7=some (.int .i64 (n:Nat))∧tm.get 8=some (.int .i64 (v0:Nat))∧tm.get 9=some (.int .i64 (low:Nat))∧tm.get 10=some (.int .i64 1)) ⟨3,c - 224,2048,.inr (.inl ⟨h1,h2,rfl,rfl,rfl⟩),(by simp only[sG,reduceCtorEq]),(by simp only[sG,Za,reduceCtorEq]),(by simp only[sB,Za,reduceCtorEq];rfl),(by simp only[sG,Za,reduceCtorEq]),(by simp only[sB,Za,reduceCtorEq];rfl),(by simp only[sG,Za,reduceCtorEq])⟩ ?_;rintro tm ⟨n,v0,low,hl,t0,t1,t7,t8,t9,t10⟩;have hn4:2≤n∧n≤4∧low≤65536:=by unfold LeadC at hl;omega
  refine EvC.loop (fun k st=>∃tm j,st=⟨tm,[],H'⟩∧k=n - 1 - j∧j+1≤n∧(∀k,1≤k→k≤j→goodC (byteAt s (i+k)))∧tm.get 0=some (.string s)∧tm.get 1=some (.int .i64 (i:Nat))∧tm.get 7=some (.int .i64 (n:Nat))∧tm.get 8=some (.int .i64 (accC v0 (fun k=>byteAt s (i+k)) j:Nat))∧tm.get 9=some (.int .i64 (low:Nat))∧tm.get 10=some (.int .i64 (j+1:Nat))) ?_ (n - 1) _ ?_
  ·rintro k st ⟨tm,j,rfl,rfl,hj,hg,t0,t1,t7,t8,t9,t10⟩;have hacc:=zea hl hb j;by_cases hjn:j+1 < n
   ·have hw3:IntKind.i64.wrap ((i:Int)+((j+1:Nat):Int))=((i+(j+1):Nat):Int):=by rw[z0e (by omega) (by omega)];omega
    repeat' (first|refine EvC.seq ?_|refine EvC.block ?_|(refine EvC.skip ?_;try simp only[z00])|(refine EvC.reg ?_;simp (config := { maxSteps := 2000000 }) (disch:=first|omega|rfl) only[sB,Za,reduceCtorEq,cl97,t0,t1,t7,t10,decl hjn,hw3])|(refine EvC.condT ?_ ?_;simp (config := { maxSteps := 2000000 }) (disch:=first|omega|rfl) only[sB,Za];refine z02 ?_))
    refine zg4.mono ?_;rintro v H2 ⟨rfl,rfl⟩;obtain⟨x,hx⟩:∃x,x=byteAt s (i+(j+1)):=⟨_,rfl⟩
    have hx256:x < 256:=by rw[hx];exact hb (j+1)
    rw[←hx];have ha:accC v0 (fun k=>byteAt s (i+k)) (j+1)=accC v0 (fun k=>byteAt s (i+k)) j*64+x - 128:=by rw[z97 _ _ (by omega),hx]
    obtain⟨a,hae⟩:∃a,a=accC v0 (fun k=>byteAt s (i+k)) j:=⟨_,rfl⟩
    rw[←hae] at ha hacc t8;have hw4:IntKind.i64.wrap (x:Int)=x:=z0e (by omega) (by omega);by_cases hbad:goodC x
    ·have hgx:=hbad;unfold goodC at hgx;have f1:decide ((x:Int) < 128)=false:=decide_eq_false (by omega);have f2:decide ((x:Int) ≥ 192)=false:=decide_eq_false (by omega);have hw5:IntKind.i64.wrap ((a:Int)*64)=(a:Int)*64:=z0e (by omega) (by omega);have hw6:IntKind.i64.wrap ((a:Int)*64+(x:Int))=(a:Int)*64+x:=z0e (by omega) (by omega);have hw7:IntKind.i64.wrap ((a:Int)*64+(x:Int) - 128)=((a*64+x - 128:Nat):Int):=by rw[z0e (by omega) (by omega)];omega
     have hw8:IntKind.i64.wrap (((j+1:Nat):Int)+1)=((j+1+1:Nat):Int):=by rw[z0e]<;>omega
     repeat' (first|refine EvC.seq ?_|(refine EvC.skip ?_;try simp only[z00])|(refine EvC.reg ?_;simp (config := { maxSteps := 2000000 }) (disch:=first|omega|rfl) only[sB,Za,f1,f2,t8,hw5,hw6,hw7,t10,hw8,Zc])|(refine z08 ?_;simp (config := { maxSteps := 2000000 }) (disch:=first|omega|rfl) only[sB,Za,z4h,hw4])|(refine EvC.condF ?_ ?_;simp (config := { maxSteps := 2000000 }) (disch:=first|omega|rfl) only[sB,Za];refine z02 ?_))
     refine⟨_,by omega,_,j+1,rfl,rfl,by omega,fun k k1 k2=>?_,(by simp only[sG,reduceCtorEq,t0]),(by simp only[sG,Za,t1]),(by simp only[sG,Za,t7]),?_,(by simp only[sG,Za,t9]),(by simp only[sG,Za])⟩
     ·by_cases hk:k≤j
      ·exact hg k k1 hk
      ·obtain rfl:k=j+1:=by omega
       rw[←hx];exact hbad
     ·rw[ha];exact(by simp only[sG,Za])
    ·have hR0:refCs s i=(0,0):=by rw[hR];exact zbh hl hb hb0 (k:=j+1) (by omega) hjn (by rw[←hx];exact hbad)
     unfold goodC at hbad;by_cases hx1:x < 128
     ·have f1:decide ((x:Int) < 128)=true:=decide_eq_true (by omega)
      repeat' (first|refine EvC.seq ?_|(refine EvC.ret ?_;try simp only[z05,z03])|(refine EvC.reg ?_;simp (config := { maxSteps := 2000000 }) (disch:=first|omega|rfl) only[sB,Za,f1])|(refine z08 ?_;simp (config := { maxSteps := 2000000 }) (disch:=first|omega|rfl) only[sB,Za,z4h,hw4])|(refine EvC.condT ?_ ?_;simp (config := { maxSteps := 2000000 }) (disch:=first|omega|rfl) only[sB,Za];refine z02 ?_))
      exact z09 rfl (by simp only[sB,Za];rfl) (by simp only[sB,Za];rfl) ⟨by rw[hR0];rfl,rfl⟩
     ·have f1:decide ((x:Int) < 128)=false:=decide_eq_false (by omega);have f2:decide ((x:Int) ≥ 192)=true:=decide_eq_true (by omega)
      repeat' (first|refine EvC.seq ?_|(refine EvC.ret ?_;try simp only[z05,z03])|(refine EvC.reg ?_;simp (config := { maxSteps := 2000000 }) (disch:=first|omega|rfl) only[sB,Za,f1,f2,Zc])|(refine z08 ?_;simp (config := { maxSteps := 2000000 }) (disch:=first|omega|rfl) only[sB,Za,z4h,hw4])|(refine EvC.condT ?_ ?_;simp (config := { maxSteps := 2000000 }) (disch:=first|omega|rfl) only[sB,Za];refine z02 ?_))
      exact z09 rfl (by simp only[sB,Za];rfl) (by simp only[sB,Za];rfl) ⟨by rw[hR0];rfl,rfl⟩
   ·obtain rfl:n=j+1:=by omega
    have hgd:=z98 hl hb hb0 (m:=s.size - i) (fun k hk=>z3n s (by omega)) (fun k k1 k2=>hg k k1 (by omega));rw[Nat.add_sub_cancel,←hR] at hgd;generalize accC v0 (fun k=>byteAt s (i+k)) j=a at *;by_cases hlo:a < low
    ·repeat' (first|refine EvC.seq ?_|(refine EvC.exit ?_;try simp only[sB])|(refine EvC.ret ?_;try simp only[z05,z03])|(refine EvC.reg ?_;simp (config := { maxSteps := 2000000 }) (disch:=first|omega|rfl) only[sB,Za,Zh,t7,t10,decn hjn,t8,t9,decl hlo])|(refine EvC.condT ?_ ?_;simp (config := { maxSteps := 2000000 }) (disch:=first|omega|rfl) only[sB,Za];refine z02 ?_)|(refine EvC.condF ?_ ?_;simp (config := { maxSteps := 2000000 }) (disch:=first|omega|rfl) only[sB,Za];refine z02 ?_))
     exact z09 rfl (by simp only[sB,Za];rfl) (by simp only[sB,Za];rfl) ⟨by rw[hgd,if_pos (.inl hlo)];rfl,rfl⟩
    ·repeat' (first|refine EvC.seq ?_|(refine EvC.exit ?_;try simp only[sB])|(refine EvC.reg ?_;simp (config := { maxSteps := 2000000 }) (disch:=first|omega|rfl) only[sB,Za,Zh,cl98,t7,t10,decn hjn,t8,t9,decn hlo])|(refine EvC.condF ?_ ?_;simp (config := { maxSteps := 2000000 }) (disch:=first|omega|rfl) only[sB,Za];refine z02 ?_))
     refine zjv.mono ?_;rintro v H2 ⟨rfl,rfl⟩;cases hmm:mayC a with
     |false =>
      repeat' (first|refine EvC.seq ?_|(refine EvC.ret ?_;try simp only[z05,z03])|(refine EvC.reg ?_;simp (config := { maxSteps := 2000000 }) (disch:=first|omega|rfl) only[sA])|(refine z08 ?_;simp (config := { maxSteps := 2000000 }) (disch:=first|omega|rfl) only[sB,Za,reduceCtorEq,Zm])|(refine EvC.condT ?_ ?_;simp (config := { maxSteps := 2000000 }) (disch:=first|omega|rfl) only[sB,Za];refine z02 ?_))
      exact z09 rfl (by simp only[sB,Za];rfl) (by simp only[sB,Za];rfl) ⟨by rw[hgd,if_pos (.inr hmm)];rfl,rfl⟩
     |true =>
      repeat' (first|refine EvC.seq ?_|(refine EvC.skip ?_;try simp only[z00])|(refine EvC.ret ?_)|(refine EvC.reg ?_;simp (config := { maxSteps := 2000000 }) (disch:=first|omega|rfl) only[sB,Za,t7,t8])|(refine z08 ?_;simp (config := { maxSteps := 2000000 }) (disch:=first|omega|rfl) only[sB,Za,Zn,Zc])|(refine EvC.condF ?_ ?_;simp (config := { maxSteps := 2000000 }) (disch:=first|omega|rfl) only[sB,Za];refine z02 ?_))
      exact z09 rfl (by simp only[sB,Za];rfl) (by simp only[sB,Za];rfl) ⟨by rw[hgd,if_neg (fun q=>q.elim hlo fun q=>by rw[hmm] at q;cases q)],rfl⟩
  ·exact⟨_,0,rfl,by omega,by omega,fun k k1 k2=>by omega,t0,t1,t7,t8,t9,t10⟩
 ·have q1:decide ((c:Int) ≥ 192)=true:=decide_eq_true (by omega);have q2:decide ((c:Int) < 224)=false:=decide_eq_false (by omega);have q3:decide ((c:Int) ≥ 224)=true:=decide_eq_true (by omega);have q4:decide ((c:Int) < 240)=false:=decide_eq_false (by omega);have q5:decide ((c:Int) ≥ 240)=true:=decide_eq_true (by omega);have q6:decide ((c:Int) < 248)=true:=decide_eq_true (by omega);have hw2:IntKind.i64.wrap ((c:Int) - 240)=((c - 240:Nat):Int):=by rw[z0e (by omega) (by omega)];omega
  repeat' (first|refine EvC.seq ?_|refine EvC.block ?_|(refine EvC.skip ?_;try simp only[z00])|(refine EvC.reg ?_;simp (config := { maxSteps := 2000000 }) (disch:=first|omega|rfl) only[sB,Za,reduceCtorEq,ln9,hw2,d0,d1,q1,q2,q3,q4,q5,q6])|(refine z08 ?_;simp (config := { maxSteps := 2000000 }) (disch:=first|omega|rfl) only[sB,Za,reduceCtorEq,z4h,hw1])|(refine EvC.condT ?_ ?_;simp (config := { maxSteps := 2000000 }) (disch:=first|omega|rfl) only[sB,Za,reduceCtorEq];refine z02 ?_)|(refine EvC.condF ?_ ?_;simp (config := { maxSteps := 2000000 }) (disch:=first|omega|rfl) only[sB,Za,reduceCtorEq];refine z02 ?_))
  refine EvC.frame (fun tm=>∃n v0 low,LeadC c n v0 low∧tm.get 0=some (.string s)∧tm.get 1=some (.int .i64 (i:Nat))∧tm.get 7=some (.int .i64 (n:Nat))∧tm.get 8=some (.int .i64 (v0:Nat))∧tm.get 9=some (.int .i64 (low:Nat))∧tm.get 10=some (.int .i64 1)) ⟨4,c - 240,65536,.inr (.inr ⟨h1,h2,rfl,rfl,rfl⟩),(by simp only[sG,reduceCtorEq]),(by simp only[sG,Za,reduceCtorEq]),(by simp only[sB,Za,reduceCtorEq];rfl),(by simp only[sG,Za,reduceCtorEq]),(by simp only[sB,Za,reduceCtorEq];rfl),(by simp only[sG,Za,reduceCtorEq])⟩ ?_;rintro tm ⟨n,v0,low,hl,t0,t1,t7,t8,t9,t10⟩;have hn4:2≤n∧n≤4∧low≤65536:=by unfold LeadC at hl;omega
  refine EvC.loop (fun k st=>∃tm j,st=⟨tm,[],H'⟩∧k=n - 1 - j∧j+1≤n∧(∀k,1≤k→k≤j→goodC (byteAt s (i+k)))∧tm.get 0=some (.string s)∧tm.get 1=some (.int .i64 (i:Nat))∧tm.get 7=some (.int .i64 (n:Nat))∧tm.get 8=some (.int .i64 (accC v0 (fun k=>byteAt s (i+k)) j:Nat))∧tm.get 9=some (.int .i64 (low:Nat))∧tm.get 10=some (.int .i64 (j+1:Nat))) ?_ (n - 1) _ ?_
  ·rintro k st ⟨tm,j,rfl,rfl,hj,hg,t0,t1,t7,t8,t9,t10⟩;have hacc:=zea hl hb j;by_cases hjn:j+1 < n
   ·have hw3:IntKind.i64.wrap ((i:Int)+((j+1:Nat):Int))=((i+(j+1):Nat):Int):=by rw[z0e (by omega) (by omega)];omega
    repeat' (first|refine EvC.seq ?_|refine EvC.block ?_|(refine EvC.skip ?_;try simp only[z00])|(refine EvC.reg ?_;simp (config := { maxSteps := 2000000 }) (disch:=first|omega|rfl) only[sB,Za,reduceCtorEq,cl97,t0,t1,t7,t10,decl hjn,hw3])|(refine EvC.condT ?_ ?_;simp (config := { maxSteps := 2000000 }) (disch:=first|omega|rfl) only[sB,Za];refine z02 ?_))
    refine zg4.mono ?_;rintro v H2 ⟨rfl,rfl⟩;obtain⟨x,hx⟩:∃x,x=byteAt s (i+(j+1)):=⟨_,rfl⟩
    have hx256:x < 256:=by rw[hx];exact hb (j+1)
    rw[←hx];have ha:accC v0 (fun k=>byteAt s (i+k)) (j+1)=accC v0 (fun k=>byteAt s (i+k)) j*64+x - 128:=by rw[z97 _ _ (by omega),hx]
    obtain⟨a,hae⟩:∃a,a=accC v0 (fun k=>byteAt s (i+k)) j:=⟨_,rfl⟩
    rw[←hae] at ha hacc t8;have hw4:IntKind.i64.wrap (x:Int)=x:=z0e (by omega) (by omega);by_cases hbad:goodC x
    ·have hgx:=hbad;unfold goodC at hgx;have f1:decide ((x:Int) < 128)=false:=decide_eq_false (by omega);have f2:decide ((x:Int) ≥ 192)=false:=decide_eq_false (by omega);have hw5:IntKind.i64.wrap ((a:Int)*64)=(a:Int)*64:=z0e (by omega) (by omega);have hw6:IntKind.i64.wrap ((a:Int)*64+(x:Int))=(a:Int)*64+x:=z0e (by omega) (by omega);have hw7:IntKind.i64.wrap ((a:Int)*64+(x:Int) - 128)=((a*64+x - 128:Nat):Int):=by rw[z0e (by omega) (by omega)];omega
     have hw8:IntKind.i64.wrap (((j+1:Nat):Int)+1)=((j+1+1:Nat):Int):=by rw[z0e]<;>omega
     repeat' (first|refine EvC.seq ?_|(refine EvC.skip ?_;try simp only[z00])|(refine EvC.reg ?_;simp (config := { maxSteps := 2000000 }) (disch:=first|omega|rfl) only[sB,Za,f1,f2,t8,hw5,hw6,hw7,t10,hw8,Zc])|(refine z08 ?_;simp (config := { maxSteps := 2000000 }) (disch:=first|omega|rfl) only[sB,Za,z4h,hw4])|(refine EvC.condF ?_ ?_;simp (config := { maxSteps := 2000000 }) (disch:=first|omega|rfl) only[sB,Za];refine z02 ?_))
     refine⟨_,by omega,_,j+1,rfl,rfl,by omega,fun k k1 k2=>?_,(by simp only[sG,reduceCtorEq,t0]),(by simp only[sG,Za,t1]),(by simp only[sG,Za,t7]),?_,(by simp only[sG,Za,t9]),(by simp only[sG,Za])⟩
     ·by_cases hk:k≤j
      ·exact hg k k1 hk
      ·obtain rfl:k=j+1:=by omega
       rw[←hx];exact hbad
     ·rw[ha];exact(by simp only[sG,Za])
    ·have hR0:refCs s i=(0,0):=by rw[hR];exact zbh hl hb hb0 (k:=j+1) (by omega) hjn (by rw[←hx];exact hbad)
     unfold goodC at hbad;by_cases hx1:x < 128
     ·have f1:decide ((x:Int) < 128)=true:=decide_eq_true (by omega)
      repeat' (first|refine EvC.seq ?_|(refine EvC.ret ?_;try simp only[z05,z03])|(refine EvC.reg ?_;simp (config := { maxSteps := 2000000 }) (disch:=first|omega|rfl) only[sB,Za,f1])|(refine z08 ?_;simp (config := { maxSteps := 2000000 }) (disch:=first|omega|rfl) only[sB,Za,z4h,hw4])|(refine EvC.condT ?_ ?_;simp (config := { maxSteps := 2000000 }) (disch:=first|omega|rfl) only[sB,Za];refine z02 ?_))
      exact z09 rfl (by simp only[sB,Za];rfl) (by simp only[sB,Za];rfl) ⟨by rw[hR0];rfl,rfl⟩
     ·have f1:decide ((x:Int) < 128)=false:=decide_eq_false (by omega);have f2:decide ((x:Int) ≥ 192)=true:=decide_eq_true (by omega)
      repeat' (first|refine EvC.seq ?_|(refine EvC.ret ?_;try simp only[z05,z03])|(refine EvC.reg ?_;simp (config := { maxSteps := 2000000 }) (disch:=first|omega|rfl) only[sB,Za,f1,f2,Zc])|(refine z08 ?_;simp (config := { maxSteps := 2000000 }) (disch:=first|omega|rfl) only[sB,Za,z4h,hw4])|(refine EvC.condT ?_ ?_;simp (config := { maxSteps := 2000000 }) (disch:=first|omega|rfl) only[sB,Za];refine z02 ?_))
      exact z09 rfl (by simp only[sB,Za];rfl) (by simp only[sB,Za];rfl) ⟨by rw[hR0];rfl,rfl⟩
   ·obtain rfl:n=j+1:=by omega
    have hgd:=z98 hl hb hb0 (m:=s.size - i) (fun k hk=>z3n s (by omega)) (fun k k1 k2=>hg k k1 (by omega));rw[Nat.add_sub_cancel,←hR] at hgd;generalize accC v0 (fun k=>byteAt s (i+k)) j=a at *;by_cases hlo:a < low
    ·repeat' (first|refine EvC.seq ?_|(refine EvC.exit ?_;try simp only[sB])|(refine EvC.ret ?_;try simp only[z05,z03])|(refine EvC.reg ?_;simp (config := { maxSteps := 2000000 }) (disch:=first|omega|rfl) only[sB,Za,Zh,t7,t10,decn hjn,t8,t9,decl hlo])|(refine EvC.condT ?_ ?_;simp (config := { maxSteps := 2000000 }) (disch:=first|omega|rfl) only[sB,Za];refine z02 ?_)|(refine EvC.condF ?_ ?_;simp (config := { maxSteps := 2000000 }) (disch:=first|omega|rfl) only[sB,Za];refine z02 ?_))
     exact z09 rfl (by simp only[sB,Za];rfl) (by simp only[sB,Za];rfl) ⟨by rw[hgd,if_pos (.inl hlo)];rfl,rfl⟩
    ·repeat' (first|refine EvC.seq ?_|(refine EvC.exit ?_;try simp only[sB])|(refine EvC.reg ?_;simp (config := { maxSteps := 2000000 }) (disch:=first|omega|rfl) only[sB,Za,Zh,cl98,t7,t10,decn hjn,t8,t9,decn hlo])|(refine EvC.condF ?_ ?_;simp (config := { maxSteps := 2000000 }) (disch:=first|omega|rfl) only[sB,Za];refine z02 ?_))
     refine zjv.mono ?_;rintro v H2 ⟨rfl,rfl⟩;cases hmm:mayC a with
     |false =>
      repeat' (first|refine EvC.seq ?_|(refine EvC.ret ?_;try simp only[z05,z03])|(refine EvC.reg ?_;simp (config := { maxSteps := 2000000 }) (disch:=first|omega|rfl) only[sA])|(refine z08 ?_;simp (config := { maxSteps := 2000000 }) (disch:=first|omega|rfl) only[sB,Za,reduceCtorEq,Zm])|(refine EvC.condT ?_ ?_;simp (config := { maxSteps := 2000000 }) (disch:=first|omega|rfl) only[sB,Za];refine z02 ?_))
      exact z09 rfl (by simp only[sB,Za];rfl) (by simp only[sB,Za];rfl) ⟨by rw[hgd,if_pos (.inr hmm)];rfl,rfl⟩
     |true =>
      repeat' (first|refine EvC.seq ?_|(refine EvC.skip ?_;try simp only[z00])|(refine EvC.ret ?_)|(refine EvC.reg ?_;simp (config := { maxSteps := 2000000 }) (disch:=first|omega|rfl) only[sB,Za,t7,t8])|(refine z08 ?_;simp (config := { maxSteps := 2000000 }) (disch:=first|omega|rfl) only[sB,Za,Zn,Zc])|(refine EvC.condF ?_ ?_;simp (config := { maxSteps := 2000000 }) (disch:=first|omega|rfl) only[sB,Za];refine z02 ?_))
      exact z09 rfl (by simp only[sB,Za];rfl) (by simp only[sB,Za];rfl) ⟨by rw[hgd,if_neg (fun q=>q.elim hlo fun q=>by rw[hmm] at q;cases q)],rfl⟩
  ·exact⟨_,0,rfl,by omega,by omega,fun k k1 k2=>by omega,t0,t1,t7,t8,t9,t10⟩
end Go.Proofs.hq
end

section
namespace Go.Hb
open Go Go.RowKit
theorem zoe (s:ByteArray):s.extract 0 s.size=s:=by
 apply ByteArray.ext;rw[ByteArray.data_extract];show s.data.extract 0 s.data.size=s.data;exact Array.extract_size
def utfL (c:Nat):List Nat:=if c < 128 then [c] else if c < 2048 then [192+c / 64,128+c % 64] else if c < 65536 then [224+c / 4096,128+c / 64 % 64,128+c % 64] else [240+c / 262144,128+c / 4096 % 64,128+c / 64 % 64,128+c % 64]
set_option maxRecDepth 100000 in
set_option maxHeartbeats 4000000 in
theorem zlu {n b0 b1 b2 b3:Nat}(h0:b0 < 256) (h1:b1 < 256) (h2:b2 < 256) (h3:b3 < 256) (hne:Lib.decodeN n b0 b1 b2 b3≠(65533,1)):utfL (Lib.decodeN n b0 b1 b2 b3).1=[b0,b1,b2,b3].take (Lib.decodeN n b0 b1 b2 b3).2:=by
 obtain⟨x,hx⟩:∃x,x=Lib.decodeN n b0 b1 b2 b3:=⟨_,rfl⟩
 rw[←hx] at hne ⊢;unfold Lib.decodeN at hx
 repeat' split at hx
 all_goals subst hx
 all_goals first|exact absurd rfl hne|skip
 all_goals simp only[utfL,List.take_succ_cons,List.take_zero,List.take_nil]
 all_goals (repeat' split)
 all_goals simp only[List.cons.injEq,and_true]
 all_goals first|omega|(exfalso;omega)
def upTo (s:ByteArray) (i:Nat):List Nat:=(Zj i).map (byteAt s)
theorem zd0 {s:ByteArray}{i:Nat}(h:i < s.size) (hne:Utf8.decode s i≠(65533,1)):upTo s (i+(Utf8.decode s i).2)=upTo s i++utfL (Utf8.decode s i).1∧i+(Utf8.decode s i).2≤s.size∧1≤(Utf8.decode s i).2∧(utfL (Utf8.decode s i).1).length=(Utf8.decode s i).2∧(Utf8.decode s i).1≤1114111:=by
 have hb:=fun k=>z3f s k
 have hN:=ze8 s i;have k1:=zbg (n:=s.size - i) (hb i) (hb (i+1)) (hb (i+2)) (hb (i+3)) (by omega);have k2:=zlu (n:=s.size - i) (hb i) (hb (i+1)) (hb (i+2)) (hb (i+3)) (by rw[←hN];exact hne);rw[←hN] at k1 k2;obtain⟨k3,k4,k5⟩:=k1;have k6:(Utf8.decode s i).2≤4:=by
  rw[hN];unfold Lib.decodeN
  repeat' split
  all_goals simp
 have hl:(utfL (Utf8.decode s i).1).length=(Utf8.decode s i).2:=by rw[k2];simp;omega
 refine⟨?_,by omega,k4,hl,k3⟩;rw[k2];generalize (Utf8.decode s i).2=w at *;unfold upTo;have hw:w=1∨w=2∨w=3∨w=4:=by omega
 rcases hw with rfl|rfl|rfl|rfl
 ·rw[List.range_succ];simp
 ·rw[List.range_succ,List.range_succ];simp
 ·rw[List.range_succ,List.range_succ,List.range_succ];simp
 ·rw[List.range_succ,List.range_succ,List.range_succ,List.range_succ];simp
theorem zhm {s:ByteArray}{i:Nat}(h:i < s.size):Lib.validD (s.data.toList.drop i)=if Utf8.decode s i=(65533,1) then false else Lib.validD (s.data.toList.drop (i+(Utf8.decode s i).2)):=by
 have hne:s.data.toList.drop i≠[]:=by
  intro e;have:=congrArg List.length e;simp at this;omega
 rw[Lib.validD_step _ hne,Lib.decodeL_drop,List.drop_drop];have e:((Utf8.decode s i).1=65533∧(Utf8.decode s i).2=1)=(Utf8.decode s i=(65533,1)):=by
  apply propext;constructor
  ·rintro ⟨a,b⟩;exact Prod.ext a b
  ·intro q;rw[q];exact⟨rfl,rfl⟩
 simp only[e]
theorem zjw (s:ByteArray):Lib.validD (s.data.toList.drop s.size)=true:=by
 rw[List.drop_of_length_le (by simp)];exact Lib.validD_nil
end Go.Hb
namespace Go.Proofs.hq
open Go Go.RowKit Go.Hb
variable {ok:Ok}
set_option maxRecDepth 10000
attribute [local irreducible] LX LG EL STG SOP SGO SGD SAL SRD SEF SEG SLK SCK ES
theorem zd1 {s:ByteArray}{i:Nat}(h:i < s.size):refCs s i=if Utf8.decode s i=(65533,1) then (0,0) else Utf8.decode s i:=by
 rw[refCs,if_neg (by omega),ze8];rfl
set_option maxHeartbeats 4000000 in
theorem zpu {H:Heap}{s:ByteArray}(hs:s.size≤4611686018427387904) :
  EvF Tryz.prog okT 82 [.string s,.int .i64 0,.int .i64 s.size] H fun v H'=>∃z,v=.int .i64 z∧H'=H∧(validB s=true→z=-1)∧(validB s=false→0≤z):=by
 refine EvF.enter rfl Tryz.func82 (by decide) rfl ?_
 repeat' (first|refine EvC.seq ?_|refine EvC.block ?_|(refine EvC.reg ?_;simp (config := { maxSteps := 2000000 }) (disch:=first|omega|rfl) only[sA,initTm,Zb]))
 refine EvC.loop (fun k st=>∃tm i,st=⟨tm,[],H⟩∧k=s.size - i∧i≤s.size∧tm.get 0=some (.string s)∧tm.get 1=some (.int .i64 (i:Nat))∧tm.get 2=some (.int .i64 s.size)∧Lib.validD (s.data.toList.drop i)=validB s) ?_ s.size _ ?_
 ·rintro k st ⟨tm,i,rfl,rfl,hi,t0,t1,t2,hv⟩;by_cases hlt:i < s.size
  ·have hsl:=fun G (k:IntKind)=>z58 (P:=Tryz.prog) (H:=G) (k':=k) (s:=s) us9 (Ze _)
   simp only[zoe] at hsl
   repeat' (first|refine EvC.seq ?_|refine EvC.block ?_|(refine EvC.skip ?_;try simp only[z00])|(refine EvC.reg ?_;simp (config := { maxSteps := 2000000 }) (disch:=first|omega|rfl) only[sB,Za,reduceCtorEq,cl79,t0,t1,t2,decl hlt,hsl])|(refine EvC.condT ?_ ?_;simp (config := { maxSteps := 2000000 }) (disch:=first|omega|rfl) only[sB,Za];refine z02 ?_))
   refine(zcz hi hs).mono ?_;rintro v H' ⟨rfl,rfl⟩;rw[zhm hlt] at hv;have hr:=zd1 hlt;by_cases hd:Utf8.decode s i=(65533,1)
   ·rw[if_pos hd] at hv hr;rw[hr];have z0:(((0:Nat):Int) == 0)=true:=rfl
    repeat' (first|refine EvC.seq ?_|(refine EvC.ret ?_;try simp only[z05,z03])|(refine EvC.reg ?_;simp (config := { maxSteps := 2000000 }) (disch:=first|omega|rfl) only[sB,Za,t1,z0])|(refine z08 ?_;simp (config := { maxSteps := 2000000 }) (disch:=first|omega|rfl) only[sB,Za])|(refine EvC.condT ?_ ?_;simp (config := { maxSteps := 2000000 }) (disch:=first|omega|rfl) only[sB,Za];refine z02 ?_))
    exact z06 rfl (by simp only[sB,Za];rfl) ⟨_,rfl,rfl,(fun q=>by rw[q] at hv;cases hv),fun _=>by omega⟩
   ·rw[if_neg hd] at hv hr;rw[hr];obtain⟨-,k2,k3,-,-⟩:=zd0 hlt hd;generalize Utf8.decode s i=dd at *;obtain⟨c,w⟩:=dd;simp only at hv k2 k3 ⊢;have z0:((w:Int) == 0)=false:=z0r (by omega);have hw1:IntKind.i64.wrap ((i:Int)+(w:Int))=((i+w:Nat):Int):=by rw[z0e (by omega) (by omega)];omega
    repeat' (first|refine EvC.seq ?_|(refine EvC.skip ?_;try simp only[z00])|(refine EvC.reg ?_;simp (config := { maxSteps := 2000000 }) (disch:=first|omega|rfl) only[sB,Za,t1,z0,hw1])|(refine z08 ?_;simp (config := { maxSteps := 2000000 }) (disch:=first|omega|rfl) only[sB,Za])|(refine EvC.condF ?_ ?_;simp (config := { maxSteps := 2000000 }) (disch:=first|omega|rfl) only[sB,Za];refine z02 ?_))
    exact⟨_,by omega,_,i+w,rfl,rfl,k2,(by simp only[sG,reduceCtorEq,t0]),(by simp only[sG,Za]),(by simp only[sG,Za,t2]),hv⟩
  ·obtain rfl:i=s.size:=by omega
   rw[zjw] at hv
   repeat' (first|refine EvC.seq ?_|(refine EvC.exit ?_;try simp only[sB])|(refine EvC.ret ?_)|(refine EvC.reg ?_;simp (config := { maxSteps := 2000000 }) (disch:=first|omega|rfl) only[sB,Za,t1,t2,decn hlt])|(refine EvC.condF ?_ ?_;simp (config := { maxSteps := 2000000 }) (disch:=first|omega|rfl) only[sB,Za];refine z02 ?_))
   exact z06 rfl (by simp only[sG,Za]) ⟨_,rfl,rfl,fun _=>rfl,(fun q=>by rw[←hv] at q;cases q)⟩
 ·exact⟨_,0,rfl,rfl,Zz _,(by simp only[sG,reduceCtorEq]),(by simp only[sB,Za,reduceCtorEq];rfl),(by simp only[sG,Za,reduceCtorEq]),rfl⟩
abbrev u8W (n:Nat):Value:=.int .u8 (n:Int)
end Go.Proofs.hq
end

section
namespace Go.Hb
open Go Go.RowKit
theorem row10 {H:Heap}{p:Nat}{T:TypeId}{x0 x1 x2 x3 x4 x5 x6 x7 x8 x9:Value}(h:H.get p=some (Blk.row [x0,x1,x2,x3,x4,x5,x6,x7,x8,x9] T)) :
  H.load ⟨p,0,none⟩ 10=some [x0,x1,x2,x3,x4,x5,x6,x7,x8,x9]∧H.load ⟨p,7,none⟩ 1=some [x7]∧H.load ⟨p,9,none⟩ 1=some [x9]:=by
 refine⟨?_,?_,?_⟩<;>simp only[Heap.load,Heap.cells,h]<;>rfl
theorem zpv {H:Heap}{p:Nat}{T:TypeId}{x0 x1 x2 x3 x4 x5 x6 x7 x8 x9 xa:Value}(h:H.get p=some (Blk.row [x0,x1,x2,x3,x4,x5,x6,x7,x8,x9,xa] T)) :
  H.load ⟨p,0,none⟩ 10=some [x0,x1,x2,x3,x4,x5,x6,x7,x8,x9]:=by
 simp only[Heap.load,Heap.cells,h];rfl
end Go.Hb
namespace Go.Proofs.hq
open Go Go.RowKit Go.Hb
variable {ok:Ok}
set_option maxRecDepth 10000
attribute [local irreducible] LX LG EL STG SOP SGO SGD SAL SRD SEF SEG SLK SCK ES
abbrev zero10:List Value:=[.int .i64 0,.string Zg,.int .i64 0,.bool false,.string Zg,.int .i64 0,.bool false,.int .i64 0,.int .i64 0,.int .i64 0]
def lineI (d:ByteArray) (i:Nat):Int:=IntKind.i64.wrap (1+(Lib.countByte (d.extract 0 i).data.toList 10:Nat))
def FSt.posR (φ:FSt) (s:Strm):Int:=if s.mode=1 then s.pos else (φ.data s).size
def FSt.endR (φ:FSt) (s:Strm):Int:=if s.mode=1∧s.en≠2∧s.pos=(φ.data s).size then 1 else s.en
def FSt.tell (φ:FSt) (s:Strm):List Value:=[.int .i64 s.id,.string s.file,.int .i64 s.mode,.bool s.bin,.string s.al,.int .i64 s.eof,.bool s.rep,.int .i64 (φ.posR s),.int .i64 (lineI (φ.data s) (φ.posR s).toNat),.int .i64 (φ.endR s)]
theorem z7u {H:Heap}{s:ByteArray}{c:UInt8}(hw:H.wf):EvF Tryz.prog okT 64 [.string s,.string ⟨#[c]⟩] H fun v H'=>v=.int .i64 (Lib.countByte s.data.toList c:Nat)∧H'=H :=
 z6f (p:=(64,knCount)) rfl rfl rfl hw
set_option maxHeartbeats 8000000 in
theorem zd2 {H:Heap}{B:Nat→Prop}{p fb ob:Nat}{blk:Int→Nat}{φ:FSt}{n:Int}(h:FsB H B p fb ob blk φ) (hw:H.wf) (hn:i64 n) (hp:∀s,φ.get n=some s→0≤s.pos∧s.pos≤((φ.data s).size:Int)) :
  EvF Tryz.prog okT 24 [ptrV p,.int .i64 n] H fun v H'=>HX H H'∧((φ.get n=none∧v=.tuple ⟨[.agg ⟨zero10⟩,.bool false]⟩)∨∃s,φ.get n=some s∧v=.tuple ⟨[.agg ⟨φ.tell s⟩,.bool true]⟩):=by
 refine EvF.enter rfl Tryz.func24 (by decide) rfl ?_;(repeat refine EvC.seq ?_);refine EvC.reg ?_;simp (config := { maxSteps := 2000000 }) (disch:=first|omega|rfl) only[sA,initTm,dAlloc,zr61];obtain⟨H1,e1,hx1,g1,n1,w1⟩:=new1 hw (.row zero10 61);simp only[e1];clear e1;have h1:=h.keep hx1 hw
 repeat' (first|refine EvC.seq ?_|(refine EvC.reg ?_;simp (config := { maxSteps := 2000000 }) (disch:=first|omega|rfl) only[sB,Za,reduceCtorEq,cl51]))
 refine(z5v h1 w1 hn).mono ?_;rintro v H2 (⟨s,hs,rfl,rfl⟩|⟨hs,e,rfl,hx2,he⟩)
 ·obtain⟨k0,k1⟩:=hp s hs;have gs:=h1.strm hs;have qs:=zpv gs;obtain⟨H3,e3,hx3,g3,n3,w3⟩:=z18 w1 (.row zero10 61) (.row [.int .i64 s.id,.string s.file,.int .i64 s.mode,.bool s.bin,.string s.al,.int .i64 s.eof,.bool s.rep,.int .i64 s.pos,.int .i64 s.line,.int .i64 s.en] 61)
  repeat' (first|refine EvC.seq ?_|(refine EvC.skip ?_;try simp only[z00])|(refine EvC.reg ?_;simp (config := { maxSteps := 2000000 }) (disch:=first|omega|rfl) only[sB,dAlloc,Za,Zb,one,reduceCtorEq,zr61,st61,z0l,ld61,cl59,z0w,qs,z01,z04,e3])|(refine z08 ?_;simp (config := { maxSteps := 2000000 }) (disch:=first|omega|rfl) only[sB,Za,reduceCtorEq])|(refine EvC.condF ?_ ?_;simp (config := { maxSteps := 2000000 }) (disch:=first|omega|rfl) only[sB,Za,reduceCtorEq];refine z02 ?_))
  have h3:=h1.keep hx3 w1;refine(z92 h3 w3 (h3.strm hs)).mono ?_;rintro v H4 ⟨rfl,hx4⟩;have w4:=hx4.wf;have g4:=hx4.get w3 g3;have h4:=h3.keep hx4 w3;have q4s:=z2r (h4.strm hs);have hx14:=hx3.trans hx4;have gA:=hx14.get w1 g1;have hxA:=hx1.trans hx14;have ne1:H2.next≠H.next:=by omega
  obtain⟨d,hd⟩:∃d,d=φ.data s:=⟨_,rfl⟩
  rw[←hd] at k1 ⊢;by_cases hm:s.mode=1
  ·have hpos:φ.posR s=s.pos:=by unfold FSt.posR;rw[if_pos hm]
   obtain⟨l,hl⟩:=Int.eq_ofNat_of_zero_le k0;rw[hl] at hpos;have hll:l≤d.size:=by omega
   have hsl:=fun G (k:IntKind)=>z58 (P:=Tryz.prog) (H:=G) (k':=k) us9 hll
   rw[hl] at g4;have q4:=row10 g4;by_cases h2:s.en=2
   ·have hend:φ.endR s=s.en:=by unfold FSt.endR;rw[if_neg fun q=>q.2.1 h2]
    have g5:=g4;have g5A:=gA
    repeat' (first|refine EvC.seq ?_|(refine EvC.skip ?_;try simp only[z00])|(refine EvC.reg ?_;simp (config := { maxSteps := 2000000 }) (disch:=first|omega|rfl) only[sB,Za,reduceCtorEq,z0l,z0o,ld3,z1c,z1w,cl64,q4s,z01,z04,z17 hm,z17 h2,q4,hsl,Zc])|(refine EvC.condF ?_ ?_;simp (config := { maxSteps := 2000000 }) (disch:=first|omega|rfl) only[sB,Za,reduceCtorEq];refine z02 ?_))
    refine(z7u hxA.wf).mono ?_;rintro v H6 ⟨rfl,rfl⟩;obtain⟨H7,e7⟩:∃H7,H6.put H2.next (some (.row [.int .i64 s.id,.string s.file,.int .i64 s.mode,.bool s.bin,.string s.al,.int .i64 s.eof,.bool s.rep,.int .i64 l,.int .i64 (IntKind.i64.wrap (1+((Lib.countByte (d.extract 0 l).data.toList 10:Nat):Int))),.int .i64 s.en] 61))=H7:=⟨_,rfl⟩
    have hx7:HX H H7:=by rw[←e7];exact hxA.pt (by omega) g5 _
    have g7:H7.get H2.next=some (.row [.int .i64 s.id,.string s.file,.int .i64 s.mode,.bool s.bin,.string s.al,.int .i64 s.eof,.bool s.rep,.int .i64 l,.int .i64 (IntKind.i64.wrap (1+((Lib.countByte (d.extract 0 l).data.toList 10:Nat):Int))),.int .i64 s.en] 61):=by rw[←e7,get_put,if_pos rfl]
    have g7A:H7.get H.next=some (.row zero10 61):=by rw[←e7,get_put,if_neg ne1.symm];exact g5A
    have q7:=row10 g7
    repeat' (first|refine EvC.seq ?_|(refine EvC.ret ?_)|(refine EvC.reg ?_;simp (config := { maxSteps := 2000000 }) (disch:=first|omega|rfl) only[sB,Za,Zb,one,reduceCtorEq,st61,ld61,q7,g7A])|(refine z08 ?_;simp (config := { maxSteps := 2000000 }) (disch:=first|omega|rfl) only[sB,Za,Zb,one,reduceCtorEq,Zh,st3,zaa,g5,e7]))
    exact z1l rfl (by simp only[sB,Za,reduceCtorEq];rfl) (by simp only[if_true,z0b,ld61];rfl) (by simp only[sB,Za,reduceCtorEq];rfl) ⟨hx7.pt (Ze _) g7A _,.inr ⟨s,hs,by simp only[FSt.tell,hpos,hend,←hd,lineI,Int.toNat_natCast];rfl⟩⟩
   ·by_cases h3:s.pos=d.size
    ·have hend:φ.endR s=1:=by unfold FSt.endR;rw[←hd,if_pos ⟨hm,h2,h3⟩]
     have h3':(l:Int)=d.size:=by omega
     obtain⟨H5,e5⟩:∃H5,H4.put H2.next (some (.row [.int .i64 s.id,.string s.file,.int .i64 s.mode,.bool s.bin,.string s.al,.int .i64 s.eof,.bool s.rep,.int .i64 l,.int .i64 s.line,.int .i64 1] 61))=H5:=⟨_,rfl⟩
     have hx5:HX H H5:=by rw[←e5];exact hxA.pt (by omega) g4 _
     have g5:H5.get H2.next=some (.row [.int .i64 s.id,.string s.file,.int .i64 s.mode,.bool s.bin,.string s.al,.int .i64 s.eof,.bool s.rep,.int .i64 l,.int .i64 s.line,.int .i64 1] 61):=by rw[←e5,get_put,if_pos rfl]
     have g5A:H5.get H.next=some (.row zero10 61):=by rw[←e5,get_put,if_neg ne1.symm];exact gA
     have q5:=row10 g5
     repeat' (first|refine EvC.seq ?_|(refine EvC.reg ?_;simp (config := { maxSteps := 2000000 }) (disch:=first|omega|rfl) only[sB,Za,Zb,one,reduceCtorEq,z0l,z0o,ld3,ln9,z1c,st3,z1w,cl64,q4s,z01,z04,z17 hm,z3i h2,q4,z19 h3',g4,e5,q5,hsl])|(refine EvC.condT ?_ ?_;simp (config := { maxSteps := 2000000 }) (disch:=first|omega|rfl) only[sB,Za,reduceCtorEq];refine z02 ?_)|(refine EvC.condF ?_ ?_;simp (config := { maxSteps := 2000000 }) (disch:=first|omega|rfl) only[sB,Za,reduceCtorEq];refine z02 ?_))
     refine(z7u hx5.wf).mono ?_;rintro v H6 ⟨rfl,rfl⟩;obtain⟨H7,e7⟩:∃H7,H6.put H2.next (some (.row [.int .i64 s.id,.string s.file,.int .i64 s.mode,.bool s.bin,.string s.al,.int .i64 s.eof,.bool s.rep,.int .i64 l,.int .i64 (IntKind.i64.wrap (1+((Lib.countByte (d.extract 0 l).data.toList 10:Nat):Int))),.int .i64 1] 61))=H7:=⟨_,rfl⟩
     have hx7:HX H H7:=by rw[←e7];exact hx5.pt (by omega) g5 _
     have g7:H7.get H2.next=some (.row [.int .i64 s.id,.string s.file,.int .i64 s.mode,.bool s.bin,.string s.al,.int .i64 s.eof,.bool s.rep,.int .i64 l,.int .i64 (IntKind.i64.wrap (1+((Lib.countByte (d.extract 0 l).data.toList 10:Nat):Int))),.int .i64 1] 61):=by rw[←e7,get_put,if_pos rfl]
     have g7A:H7.get H.next=some (.row zero10 61):=by rw[←e7,get_put,if_neg ne1.symm];exact g5A
     have q7:=row10 g7
     repeat' (first|refine EvC.seq ?_|(refine EvC.ret ?_)|(refine EvC.reg ?_;simp (config := { maxSteps := 2000000 }) (disch:=first|omega|rfl) only[sB,Za,Zb,one,reduceCtorEq,st61,ld61,q7,g7A])|(refine z08 ?_;simp (config := { maxSteps := 2000000 }) (disch:=first|omega|rfl) only[sB,Za,Zb,one,reduceCtorEq,Zh,st3,zaa,g5,e7]))
     exact z1l rfl (by simp only[sB,Za,reduceCtorEq];rfl) (by simp only[if_true,z0b,ld61];rfl) (by simp only[sB,Za,reduceCtorEq];rfl) ⟨hx7.pt (Ze _) g7A _,.inr ⟨s,hs,by simp only[FSt.tell,hpos,hend,←hd,lineI,Int.toNat_natCast];rfl⟩⟩
    ·have hend:φ.endR s=s.en:=by unfold FSt.endR;rw[←hd,if_neg fun q=>h3 q.2.2]
     have h3':¬(l:Int)=d.size:=by omega
     have g5:=g4;have g5A:=gA
     repeat' (first|refine EvC.seq ?_|(refine EvC.skip ?_;try simp only[z00])|(refine EvC.reg ?_;simp (config := { maxSteps := 2000000 }) (disch:=first|omega|rfl) only[sB,Za,reduceCtorEq,z0l,z0o,ld3,ln9,z1c,z1w,cl64,q4s,z01,z04,z17 hm,z3i h2,q4,z0r h3',hsl])|(refine EvC.condF ?_ ?_;simp (config := { maxSteps := 2000000 }) (disch:=first|omega|rfl) only[sB,Za,reduceCtorEq];refine z02 ?_))
     refine(z7u hxA.wf).mono ?_;rintro v H6 ⟨rfl,rfl⟩;obtain⟨H7,e7⟩:∃H7,H6.put H2.next (some (.row [.int .i64 s.id,.string s.file,.int .i64 s.mode,.bool s.bin,.string s.al,.int .i64 s.eof,.bool s.rep,.int .i64 l,.int .i64 (IntKind.i64.wrap (1+((Lib.countByte (d.extract 0 l).data.toList 10:Nat):Int))),.int .i64 s.en] 61))=H7:=⟨_,rfl⟩
     have hx7:HX H H7:=by rw[←e7];exact hxA.pt (by omega) g5 _
     have g7:H7.get H2.next=some (.row [.int .i64 s.id,.string s.file,.int .i64 s.mode,.bool s.bin,.string s.al,.int .i64 s.eof,.bool s.rep,.int .i64 l,.int .i64 (IntKind.i64.wrap (1+((Lib.countByte (d.extract 0 l).data.toList 10:Nat):Int))),.int .i64 s.en] 61):=by rw[←e7,get_put,if_pos rfl]
     have g7A:H7.get H.next=some (.row zero10 61):=by rw[←e7,get_put,if_neg ne1.symm];exact g5A
     have q7:=row10 g7
     repeat' (first|refine EvC.seq ?_|(refine EvC.ret ?_)|(refine EvC.reg ?_;simp (config := { maxSteps := 2000000 }) (disch:=first|omega|rfl) only[sB,Za,Zb,one,reduceCtorEq,st61,ld61,q7,g7A])|(refine z08 ?_;simp (config := { maxSteps := 2000000 }) (disch:=first|omega|rfl) only[sB,Za,Zb,one,reduceCtorEq,Zh,st3,zaa,g5,e7]))
     exact z1l rfl (by simp only[sB,Za,reduceCtorEq];rfl) (by simp only[if_true,z0b,ld61];rfl) (by simp only[sB,Za,reduceCtorEq];rfl) ⟨hx7.pt (Ze _) g7A _,.inr ⟨s,hs,by simp only[FSt.tell,hpos,hend,←hd,lineI,Int.toNat_natCast];rfl⟩⟩
  ·have hpos:φ.posR s=d.size:=by unfold FSt.posR;rw[if_neg hm,hd]
   have hend:φ.endR s=s.en:=by unfold FSt.endR;rw[if_neg fun q=>hm q.1]
   have hsl:=fun G (k:IntKind)=>z58 (P:=Tryz.prog) (H:=G) (k':=k) (s:=d) us9 (Ze _)
   obtain⟨H5,e5⟩:∃H5,H4.put H2.next (some (.row [.int .i64 s.id,.string s.file,.int .i64 s.mode,.bool s.bin,.string s.al,.int .i64 s.eof,.bool s.rep,.int .i64 d.size,.int .i64 s.line,.int .i64 s.en] 61))=H5:=⟨_,rfl⟩
   have hx5:HX H H5:=by rw[←e5];exact hxA.pt (by omega) g4 _
   have g5:H5.get H2.next=some (.row [.int .i64 s.id,.string s.file,.int .i64 s.mode,.bool s.bin,.string s.al,.int .i64 s.eof,.bool s.rep,.int .i64 d.size,.int .i64 s.line,.int .i64 s.en] 61):=by rw[←e5,get_put,if_pos rfl]
   have g5A:H5.get H.next=some (.row zero10 61):=by rw[←e5,get_put,if_neg ne1.symm];exact gA
   have q5:=row10 g5
   repeat' (first|refine EvC.seq ?_|(refine EvC.reg ?_;simp (config := { maxSteps := 2000000 }) (disch:=first|omega|rfl) only[sB,Za,Zb,one,reduceCtorEq,Zh,z0l,z0o,ld3,ln9,z1c,st3,cl64,q4s,z01,z04,z3i hm,g4,e5,q5,hsl])|(refine EvC.condT ?_ ?_;simp (config := { maxSteps := 2000000 }) (disch:=first|omega|rfl) only[sB,Za,reduceCtorEq];refine z02 ?_))
   refine(z7u hx5.wf).mono ?_;rintro v H6 ⟨rfl,rfl⟩;obtain⟨H7,e7⟩:∃H7,H6.put H2.next (some (.row [.int .i64 s.id,.string s.file,.int .i64 s.mode,.bool s.bin,.string s.al,.int .i64 s.eof,.bool s.rep,.int .i64 d.size,.int .i64 (IntKind.i64.wrap (1+((Lib.countByte (d.extract 0 d.size).data.toList 10:Nat):Int))),.int .i64 s.en] 61))=H7:=⟨_,rfl⟩
   have hx7:HX H H7:=by rw[←e7];exact hx5.pt (by omega) g5 _
   have g7:H7.get H2.next=some (.row [.int .i64 s.id,.string s.file,.int .i64 s.mode,.bool s.bin,.string s.al,.int .i64 s.eof,.bool s.rep,.int .i64 d.size,.int .i64 (IntKind.i64.wrap (1+((Lib.countByte (d.extract 0 d.size).data.toList 10:Nat):Int))),.int .i64 s.en] 61):=by rw[←e7,get_put,if_pos rfl]
   have g7A:H7.get H.next=some (.row zero10 61):=by rw[←e7,get_put,if_neg ne1.symm];exact g5A
   have q7:=row10 g7
   repeat' (first|refine EvC.seq ?_|(refine EvC.ret ?_)|(refine EvC.reg ?_;simp (config := { maxSteps := 2000000 }) (disch:=first|omega|rfl) only[sB,Za,Zb,one,reduceCtorEq,st61,ld61,q7,g7A])|(refine z08 ?_;simp (config := { maxSteps := 2000000 }) (disch:=first|omega|rfl) only[sB,Za,Zb,one,reduceCtorEq,Zh,st3,zaa,g5,e7]))
   exact z1l rfl (by simp only[sB,Za,reduceCtorEq];rfl) (by simp only[if_true,z0b,ld61];rfl) (by simp only[sB,Za,reduceCtorEq];rfl) ⟨hx7.pt (Ze _) g7A _,.inr ⟨s,hs,by simp only[FSt.tell,hpos,hend,←hd,lineI,Int.toNat_natCast];rfl⟩⟩
 ·obtain⟨eb,ecs,rfl,-⟩:=id he;have g2:=hx2.get w1 g1
  repeat' (first|refine EvC.seq ?_|(refine EvC.ret ?_;try simp only[z05,z03])|(refine EvC.reg ?_;simp (config := { maxSteps := 2000000 }) (disch:=first|omega|rfl) only[sB,Za,Zb,Value.cells,one,reduceCtorEq,layC,bd61,st61,z2e,g2])|(refine z08 ?_;simp (config := { maxSteps := 2000000 }) (disch:=first|omega|rfl) only[sB,Za,reduceCtorEq])|(refine EvC.condT ?_ ?_;simp (config := { maxSteps := 2000000 }) (disch:=first|omega|rfl) only[sB,Za,reduceCtorEq];refine z02 ?_))
  exact z1l rfl (by simp only[sB,Za,reduceCtorEq];rfl) (by simp only[if_true,z0b,ld61];rfl) (by simp only[sG,Za,reduceCtorEq]) ⟨(hx1.trans hx2).pt (Ze _) g2 _,.inl ⟨hs,rfl⟩⟩
end Go.Proofs.hq
end

section
namespace Go.Proofs.hq
open Go Go.RowKit Go.Hb
variable {ok:Ok}
set_option maxRecDepth 10000
attribute [local irreducible] LX LG EL STG SOP SGO SGD SAL SRD SEF SEG SLK SCK ES
inductive BadV where
 |none
 |ball (t:Tm)
 |code (n:Int)
def BadV.of:Option Tm→BadV
 |.none=>.none
 |.some t=>.ball t
def ErrB (H:Heap):BadV→Value→Prop
 |.none,e=>e=.nilIface
 |.ball t,e=>ThrR H t e
 |.code n,e=>e=.iface 26 (.int .i64 n)
theorem ErrR.b {H:Heap}{t:Option Tm}{e:Value}(h:ErrR H t e):ErrB H (BadV.of t) e:=by cases t<;>exact h
theorem zg5 {H:Heap}{B:Nat→Prop}{p fb ob:Nat}{blk:Int→Nat}{φ:FSt}(h:FsB H B p fb ob blk φ):EvF Tryz.prog okT 29 [ptrV p] H fun v H'=>v=.int .i64 φ.inp∧H'=H:=by
 have q:=row8 h.obj;refine EvF.enter rfl Tryz.func29 (by decide) rfl ?_
 repeat' (first|refine EvC.seq ?_|(refine EvC.skip ?_;try simp only[z00])|(refine EvC.ret ?_)|(refine EvC.reg ?_;simp (config := { maxSteps := 2000000 }) (disch:=first|omega|rfl) only[sB,initTm,Za,reduceCtorEq,za7,ld3,z6z,q,z01,z04])|(refine EvC.condF ?_ ?_;simp (config := { maxSteps := 2000000 }) (disch:=first|omega|rfl) only[sB,Za,reduceCtorEq];refine z02 ?_))
 exact z06 rfl (by simp only[sG,Za,reduceCtorEq]) ⟨rfl,rfl⟩
theorem zd3 {H:Heap}{B:Nat→Prop}{p fb ob:Nat}{blk:Int→Nat}{φ:FSt}(h:FsB H B p fb ob blk φ):EvF Tryz.prog okT 30 [ptrV p] H fun v H'=>v=.int .i64 φ.put∧H'=H:=by
 have q:=row8 h.obj;refine EvF.enter rfl Tryz.func30 (by decide) rfl ?_
 repeat' (first|refine EvC.seq ?_|(refine EvC.skip ?_;try simp only[z00])|(refine EvC.ret ?_)|(refine EvC.reg ?_;simp (config := { maxSteps := 2000000 }) (disch:=first|omega|rfl) only[sB,initTm,Za,reduceCtorEq,za8,ld3,z6z,q,z01,z04])|(refine EvC.condF ?_ ?_;simp (config := { maxSteps := 2000000 }) (disch:=first|omega|rfl) only[sB,Za,reduceCtorEq];refine z02 ?_))
 exact z06 rfl (by simp only[sG,Za,reduceCtorEq]) ⟨rfl,rfl⟩
theorem znl {H:Heap}{B:Nat→Prop}{p fb ob:Nat}{blk:Int→Nat}{φ:FSt}(h:FsB H B p fb ob blk φ):EvF Tryz.prog okT 28 [ptrV p] H fun v H'=>v=.string φ.out∧H'=H:=by
 have q:=row8 h.obj;refine EvF.enter rfl Tryz.func28 (by decide) rfl ?_
 repeat' (first|refine EvC.seq ?_|(refine EvC.skip ?_;try simp only[z00])|(refine EvC.ret ?_)|(refine EvC.reg ?_;simp (config := { maxSteps := 2000000 }) (disch:=first|omega|rfl) only[sB,initTm,Za,reduceCtorEq,zjc,ld9,z6z,q,z01,z04])|(refine EvC.condF ?_ ?_;simp (config := { maxSteps := 2000000 }) (disch:=first|omega|rfl) only[sB,Za,reduceCtorEq];refine z02 ?_))
 exact z06 rfl (by simp only[sG,Za,reduceCtorEq]) ⟨rfl,rfl⟩
def FSt.setInR (φ:FSt) (n:Int):Option Tm × FSt:=match φ.get n with
 |none=>(some (noStrT n),φ)
 |some s=>if s.mode=1 then (none,{ φ with inp:=n }) else (some (perT inS strS n),φ)
set_option maxHeartbeats 4000000 in
theorem zg6 {H:Heap}{B:Nat→Prop}{p fb ob:Nat}{blk:Int→Nat}{φ:FSt}{n:Int}(h:FsB H B p fb ob blk φ) (hw:H.wf) (hn:i64 n) :
  EvF Tryz.prog okT 14 [ptrV p,.int .i64 n] H fun e H'=>Hy B H H'∧ErrR H' (φ.setInR n).1 e∧FsB H' B p fb ob blk (φ.setInR n).2:=by
 refine EvF.enter rfl Tryz.func14 (by decide) rfl ?_
 repeat' (first|refine EvC.seq ?_|(refine EvC.reg ?_;simp (config := { maxSteps := 2000000 }) (disch:=first|omega|rfl) only[sB,initTm,Za,reduceCtorEq,cl51]))
 refine(z5v h hw hn).mono ?_;rintro v H1 (⟨s,hs,rfl,rfl⟩|⟨hs,e,rfl,hx1,he⟩)
 ·have qs:=z2r (h.strm hs);have g:=h.obj;have hR:φ.setInR n=if s.mode=1 then (none,{ φ with inp:=n }) else (some (perT inS strS n),φ):=by unfold FSt.setInR;rw[hs]
  by_cases hm:s.mode=1
  ·rw[if_pos hm] at hR
   repeat' (first|refine EvC.seq ?_|(refine EvC.skip ?_;try simp only[z00])|(refine EvC.ret ?_)|(refine EvC.reg ?_;simp (config := { maxSteps := 2000000 }) (disch:=first|omega|rfl) only[sB,Za,Zb,one,reduceCtorEq,Zh,z0l,z0o,ld3,za7,st3,z0w,qs,z01,z04,z17 hm,g])|(refine z08 ?_;simp (config := { maxSteps := 2000000 }) (disch:=first|omega|rfl) only[sB,Za,reduceCtorEq])|(refine EvC.condF ?_ ?_;simp (config := { maxSteps := 2000000 }) (disch:=first|omega|rfl) only[sB,Za,reduceCtorEq];refine z02 ?_))
   exact z06 rfl (by simp only[sB,Za,reduceCtorEq];rfl) ⟨Hy.put hw h.lp g _,by rw[hR];rfl,by rw[hR];exact h.field (ψ:={ φ with inp:=n }) rfl rfl⟩
  ·rw[if_neg hm] at hR
   repeat' (first|refine EvC.seq ?_|(refine EvC.skip ?_;try simp only[z00])|(refine EvC.reg ?_;simp (config := { maxSteps := 2000000 }) (disch:=first|omega|rfl) only[sB,Za,reduceCtorEq,z0l,z0o,ld3,cl52,cl47,z0w,qs,z01,z04,z3i hm])|(refine z08 ?_;simp (config := { maxSteps := 2000000 }) (disch:=first|omega|rfl) only[sB,Za,reduceCtorEq])|(refine EvC.condT ?_ ?_;simp (config := { maxSteps := 2000000 }) (disch:=first|omega|rfl) only[sB,Za,reduceCtorEq];refine z02 ?_)|(refine EvC.condF ?_ ?_;simp (config := { maxSteps := 2000000 }) (disch:=first|omega|rfl) only[sB,Za,reduceCtorEq];refine z02 ?_))
   refine(z1t hw hn).mono ?_;rintro v H2 ⟨hx2,cs,rfl,r2⟩
   skip
   refine(z0q hx2.wf (s:=inS) (u:=strS) (by simp [inS,maxLen,Zf]) (by simp [strS,maxLen,Zf]) r2).mono ?_;rintro v H3 ⟨hx3,ht⟩
   repeat' (first|(refine EvC.ret ?_;try simp only[z05,z03]))
   exact z06 rfl (by simp only[sB,Za,reduceCtorEq];rfl) ⟨Hy.of (hx2.trans hx3),by rw[hR];exact ht,by rw[hR];exact h.keep (hx2.trans hx3) hw⟩
 ·obtain⟨eb,ecs,rfl,-⟩:=id he;have hR:φ.setInR n=(some (noStrT n),φ):=by unfold FSt.setInR;rw[hs]
  repeat' (first|refine EvC.seq ?_|(refine EvC.ret ?_;try simp only[z05,z03])|(refine EvC.reg ?_;simp (config := { maxSteps := 2000000 }) (disch:=first|omega|rfl) only[sB,Za,reduceCtorEq,z2e])|(refine z08 ?_;simp (config := { maxSteps := 2000000 }) (disch:=first|omega|rfl) only[sB,Za,reduceCtorEq])|(refine EvC.condT ?_ ?_;simp (config := { maxSteps := 2000000 }) (disch:=first|omega|rfl) only[sB,Za,reduceCtorEq];refine z02 ?_))
  exact z06 rfl (by simp only[sB,Za,reduceCtorEq];rfl) ⟨Hy.of hx1,by rw[hR];exact he,by rw[hR];exact h.keep hx1 hw⟩
def FSt.setOutR (φ:FSt) (n:Int):Option Tm × FSt:=match φ.get n with
 |none=>(some (noStrT n),φ)
 |some s=>if s.mode=1 then (some (perT outS strS n),φ) else (none,{ φ with put:=n })
set_option maxHeartbeats 4000000 in
theorem zd4 {H:Heap}{B:Nat→Prop}{p fb ob:Nat}{blk:Int→Nat}{φ:FSt}{n:Int}(h:FsB H B p fb ob blk φ) (hw:H.wf) (hn:i64 n) :
  EvF Tryz.prog okT 15 [ptrV p,.int .i64 n] H fun e H'=>Hy B H H'∧ErrR H' (φ.setOutR n).1 e∧FsB H' B p fb ob blk (φ.setOutR n).2:=by
 refine EvF.enter rfl Tryz.func15 (by decide) rfl ?_
 repeat' (first|refine EvC.seq ?_|(refine EvC.reg ?_;simp (config := { maxSteps := 2000000 }) (disch:=first|omega|rfl) only[sB,initTm,Za,reduceCtorEq,cl51]))
 refine(z5v h hw hn).mono ?_;rintro v H1 (⟨s,hs,rfl,rfl⟩|⟨hs,e,rfl,hx1,he⟩)
 ·have qs:=z2r (h.strm hs);have g:=h.obj;have hR:φ.setOutR n=if s.mode=1 then (some (perT outS strS n),φ) else (none,{ φ with put:=n }):=by unfold FSt.setOutR;rw[hs]
  by_cases hm:s.mode=1
  ·rw[if_pos hm] at hR
   repeat' (first|refine EvC.seq ?_|(refine EvC.skip ?_;try simp only[z00])|(refine EvC.reg ?_;simp (config := { maxSteps := 2000000 }) (disch:=first|omega|rfl) only[sB,Za,reduceCtorEq,z0l,z0o,ld3,cl52,cl47,z0w,qs,z01,z04,z19 hm])|(refine z08 ?_;simp (config := { maxSteps := 2000000 }) (disch:=first|omega|rfl) only[sB,Za,reduceCtorEq])|(refine EvC.condT ?_ ?_;simp (config := { maxSteps := 2000000 }) (disch:=first|omega|rfl) only[sB,Za,reduceCtorEq];refine z02 ?_)|(refine EvC.condF ?_ ?_;simp (config := { maxSteps := 2000000 }) (disch:=first|omega|rfl) only[sB,Za,reduceCtorEq];refine z02 ?_))
   refine(z1t hw hn).mono ?_;rintro v H2 ⟨hx2,cs,rfl,r2⟩
   skip
   refine(z0q hx2.wf (s:=outS) (u:=strS) (by simp [outS,maxLen,Zf]) (by simp [strS,maxLen,Zf]) r2).mono ?_;rintro v H3 ⟨hx3,ht⟩
   repeat' (first|(refine EvC.ret ?_;try simp only[z05,z03]))
   exact z06 rfl (by simp only[sB,Za,reduceCtorEq];rfl) ⟨Hy.of (hx2.trans hx3),by rw[hR];exact ht,by rw[hR];exact h.keep (hx2.trans hx3) hw⟩
  ·rw[if_neg hm] at hR
   repeat' (first|refine EvC.seq ?_|(refine EvC.skip ?_;try simp only[z00])|(refine EvC.ret ?_)|(refine EvC.reg ?_;simp (config := { maxSteps := 2000000 }) (disch:=first|omega|rfl) only[sB,Za,Zb,one,reduceCtorEq,Zh,z0l,z0o,ld3,za8,st3,z0w,qs,z01,z04,z0r hm,g])|(refine z08 ?_;simp (config := { maxSteps := 2000000 }) (disch:=first|omega|rfl) only[sB,Za,reduceCtorEq])|(refine EvC.condF ?_ ?_;simp (config := { maxSteps := 2000000 }) (disch:=first|omega|rfl) only[sB,Za,reduceCtorEq];refine z02 ?_))
   exact z06 rfl (by simp only[sB,Za,reduceCtorEq];rfl) ⟨Hy.put hw h.lp g _,by rw[hR];rfl,by rw[hR];exact h.field (ψ:={ φ with put:=n }) rfl rfl⟩
 ·obtain⟨eb,ecs,rfl,-⟩:=id he;have hR:φ.setOutR n=(some (noStrT n),φ):=by unfold FSt.setOutR;rw[hs]
  repeat' (first|refine EvC.seq ?_|(refine EvC.ret ?_;try simp only[z05,z03])|(refine EvC.reg ?_;simp (config := { maxSteps := 2000000 }) (disch:=first|omega|rfl) only[sB,Za,reduceCtorEq,z2e])|(refine z08 ?_;simp (config := { maxSteps := 2000000 }) (disch:=first|omega|rfl) only[sB,Za,reduceCtorEq])|(refine EvC.condT ?_ ?_;simp (config := { maxSteps := 2000000 }) (disch:=first|omega|rfl) only[sB,Za,reduceCtorEq];refine z02 ?_))
  exact z06 rfl (by simp only[sB,Za,reduceCtorEq];rfl) ⟨Hy.of hx1,by rw[hR];exact he,by rw[hR];exact h.keep hx1 hw⟩
theorem zeb:mkiOk Tryz.prog 26=true:=by kernel_rfl
def FSt.sourceR (φ:FSt) (n:Int):ByteArray × Int × Option Tm:=match φ.rdErr n false,φ.get n with
 |some t,_=>(Zg,0,some t)
 |none,some s=>(φ.data s,s.pos,none)
 |none,none=>(Zg,0,none)
set_option maxHeartbeats 4000000 in
theorem zjx {H:Heap}{B:Nat→Prop}{p fb ob:Nat}{blk:Int→Nat}{φ:FSt}{n:Int}(h:FsB H B p fb ob blk φ) (hw:H.wf) (hn:i64 n) :
  EvF Tryz.prog okT 23 [ptrV p,.int .i64 n] H fun v H'=>∃e,v=.tuple ⟨[.string (φ.sourceR n).1,.int .i64 (φ.sourceR n).2.1,e]⟩∧HX H H'∧ErrR H' (φ.sourceR n).2.2 e:=by
 refine EvF.enter rfl Tryz.func23 (by decide) rfl ?_
 repeat' (first|refine EvC.seq ?_|(refine EvC.reg ?_;simp (config := { maxSteps := 2000000 }) (disch:=first|omega|rfl) only[sB,initTm,Za,reduceCtorEq,cl58]))
 refine(z93 (bin:=false) h hw hn).mono ?_;rintro v H1 (⟨hr,rfl,rfl⟩|⟨t,e,hr,rfl,hx1,he⟩)
 ·obtain⟨s,hs⟩:=z94 hr;have hR:φ.sourceR n=(φ.data s,s.pos,none):=by unfold FSt.sourceR;rw[hr,hs]
  have hrow:=h.strm hs;have hb:=(HX.refl hw).bump 11
  repeat' (first|refine EvC.seq ?_|(refine EvC.skip ?_;try simp only[z00])|(refine EvC.reg ?_;simp (config := { maxSteps := 2000000 }) (disch:=first|omega|rfl) only[sB,Za,reduceCtorEq,z0w])|(refine EvC.drw [([(0,0),(1,0)],some 2),([(3,0),(4,0),(5,0),(6,0),(7,0),(8,1),(9,1),(10,1)],none)] ?_ ?_;kernel_rfl;simp (config := { maxSteps := 2000000 }) (disch:=first|omega|rfl) only[sD,sB,Za,Zb,reduceCtorEq,cl59,isAlloc,isRead])|(refine z08 ?_;simp (config := { maxSteps := 2000000 }) (disch:=first|omega|rfl) only[sB,Za,reduceCtorEq])|(refine EvC.condF ?_ ?_;simp (config := { maxSteps := 2000000 }) (disch:=first|omega|rfl) only[sB,Za,reduceCtorEq];refine z02 ?_))
  refine(z92 (h.keep hb hw) hb.wf (hb.get hw hrow)).mono ?_;rintro v H2 ⟨rfl,hx2⟩;have qs:=z2r (hx2.get hb.wf (hb.get hw hrow));have qb:=z2r (hb.get hw hrow)
  repeat' (first|(refine EvC.ret ?_)|(refine z2t ?_;simp (config := { maxSteps := 2000000 }) (disch:=first|omega|rfl) only[sV,sD,sB,Za,reduceCtorEq,z0l,z1c,ld3,qs,qb,z01,z04,isAlloc,isRead]))
  exact z8o rfl (by simp only[sB,Za,reduceCtorEq];rfl) (by simp only[sB,Za,reduceCtorEq];rfl) (by simp only[sB,Za,reduceCtorEq];rfl) ⟨_,by rw[hR],hb.trans hx2,by rw[hR];rfl⟩
 ·obtain⟨eb,ecs,rfl,-⟩:=id he;have hR:φ.sourceR n=(Zg,0,some t):=by unfold FSt.sourceR;rw[hr]
  repeat' (first|refine EvC.seq ?_|(refine EvC.ret ?_;try simp only[z05,z03])|(refine EvC.reg ?_;simp (config := { maxSteps := 2000000 }) (disch:=first|omega|rfl) only[sB,Za,reduceCtorEq,z2e])|(refine z08 ?_;simp (config := { maxSteps := 2000000 }) (disch:=first|omega|rfl) only[sB,Za,reduceCtorEq])|(refine EvC.condT ?_ ?_;simp (config := { maxSteps := 2000000 }) (disch:=first|omega|rfl) only[sB,Za,reduceCtorEq];refine z02 ?_))
  exact z8o rfl (by simp only[sB,Za,reduceCtorEq];rfl) (by simp only[sB,Za,reduceCtorEq];rfl) (by simp only[sB,Za,reduceCtorEq];rfl) ⟨_,by rw[hR];rfl,hx1,by rw[hR];exact he⟩
def FSt.advR (φ:FSt) (n to:Int):BadV × FSt:=match φ.rdErr n false,φ.get n with
 |some t,_=>(.ball t,φ)
 |none,none=>(.none,φ)
 |none,some s=>if to < s.pos∨((φ.data s).size:Int) < to then (.code 1,φ) else (.none,φ.setS n { s with pos:=to,en:=if s.pos=(φ.data s).size then 2 else s.en })
set_option maxHeartbeats 8000000 in
theorem zac {H:Heap}{B:Nat→Prop}{p fb ob:Nat}{blk:Int→Nat}{φ:FSt}{n to:Int}(h:FsB H B p fb ob blk φ) (hw:H.wf) (hn:i64 n) :
  EvF Tryz.prog okT 18 [ptrV p,.int .i64 n,.int .i64 to] H fun e H'=>Hy B H H'∧ErrB H' (φ.advR n to).1 e∧FsB H' B p fb ob blk (φ.advR n to).2:=by
 refine EvF.enter rfl Tryz.func18 (by decide) rfl ?_
 repeat' (first|refine EvC.seq ?_|(refine EvC.reg ?_;simp (config := { maxSteps := 2000000 }) (disch:=first|omega|rfl) only[sB,initTm,Za,Zb,reduceCtorEq,cl58]))
 refine(z93 (bin:=false) h hw hn).mono ?_;rintro v H1 (⟨hr,rfl,rfl⟩|⟨t,e,hr,rfl,hx1,he⟩)
 ·obtain⟨s,hs⟩:=z94 hr;have hR:φ.advR n to=if to < s.pos∨((φ.data s).size:Int) < to then (.code 1,φ) else (.none,φ.setS n { s with pos:=to,en:=if s.pos=(φ.data s).size then 2 else s.en }):=by unfold FSt.advR;rw[hr,hs]
  have hrow:=h.strm hs
  repeat' (first|refine EvC.seq ?_|(refine EvC.skip ?_;try simp only[z00])|(refine EvC.reg ?_;simp (config := { maxSteps := 2000000 }) (disch:=first|omega|rfl) only[sB,Za,reduceCtorEq,cl59,z0w])|(refine z08 ?_;simp (config := { maxSteps := 2000000 }) (disch:=first|omega|rfl) only[sB,Za,reduceCtorEq])|(refine EvC.condF ?_ ?_;simp (config := { maxSteps := 2000000 }) (disch:=first|omega|rfl) only[sB,Za,reduceCtorEq];refine z02 ?_))
  refine(z92 h hw hrow).mono ?_;rintro v H2 ⟨rfl,hx2⟩;have w2:=hx2.wf;have h2:=h.keep hx2 hw;have g2:=h2.strm hs;have q2:=z2r g2;obtain⟨d,hd⟩:∃d,d=φ.data s:=⟨_,rfl⟩
  rw[←hd] at hR ⊢;by_cases c1:to < s.pos
  ·rw[if_pos (.inl c1)] at hR
   repeat' (first|refine EvC.seq ?_|(refine EvC.ret ?_;try simp only[z05,z03])|(refine EvC.reg ?_;simp (config := { maxSteps := 2000000 }) (disch:=first|omega|rfl) only[sB,Za,reduceCtorEq,z0l,z1c,ld3,q2,z01,z04,decide_eq_true c1,z0y,z4y zeb])|(refine z08 ?_;simp (config := { maxSteps := 2000000 }) (disch:=first|omega|rfl) only[sB,Za,reduceCtorEq,ln9])|(refine EvC.condT ?_ ?_;simp (config := { maxSteps := 2000000 }) (disch:=first|omega|rfl) only[sB,Za,reduceCtorEq];refine z02 ?_))
   exact z06 rfl (by simp only[sB,Za,reduceCtorEq];rfl) ⟨Hy.of hx2,by rw[hR];rfl,by rw[hR];exact h2⟩
  ·by_cases c2:(d.size:Int) < to
   ·rw[if_pos (.inr c2)] at hR
    repeat' (first|refine EvC.seq ?_|(refine EvC.ret ?_;try simp only[z05,z03])|(refine EvC.reg ?_;simp (config := { maxSteps := 2000000 }) (disch:=first|omega|rfl) only[sB,Za,reduceCtorEq,z0l,z1c,ld3,q2,z01,z04,decide_eq_false c1,decide_eq_true c2,gt_iff_lt,z0y,z4y zeb])|(refine z08 ?_;simp (config := { maxSteps := 2000000 }) (disch:=first|omega|rfl) only[sB,Za,reduceCtorEq,ln9])|(refine EvC.condT ?_ ?_;simp (config := { maxSteps := 2000000 }) (disch:=first|omega|rfl) only[sB,Za,reduceCtorEq];refine z02 ?_))
    exact z06 rfl (by simp only[sB,Za,reduceCtorEq];rfl) ⟨Hy.of hx2,by rw[hR];rfl,by rw[hR];exact h2⟩
   ·rw[if_neg (fun q=>q.elim c1 c2)] at hR;by_cases c3:s.pos=d.size
    ·rw[if_pos c3] at hR;obtain⟨H3,e3⟩:∃H3,H2.put (blk n) (some (.row [.int .i64 s.id,.string s.file,.int .i64 s.mode,.bool s.bin,.string s.al,.int .i64 s.eof,.bool s.rep,.int .i64 s.pos,.int .i64 s.line,.int .i64 2,.bool s.con] 82))=H3:=⟨_,rfl⟩
     have h3:FsB H3 B p fb ob blk (φ.setS n { s with en:=2 }):=by rw[←e3];exact h2.turn (s':={ s with en:=2 }) hs
     have hy3:Hy B H1 H3:=by rw[←e3];exact(Hy.of hx2).trans (Hy.put w2 (h2.lb _ (z1q hs)) g2 _)
     have hs3:(φ.setS n { s with en:=2 }).get n=some { s with en:=2 }:=by rw[z7t,if_pos rfl,hs];rfl
     have g3:H3.get (blk n)=some (.row [.int .i64 s.id,.string s.file,.int .i64 s.mode,.bool s.bin,.string s.al,.int .i64 s.eof,.bool s.rep,.int .i64 s.pos,.int .i64 s.line,.int .i64 2,.bool s.con] 82):=by rw[←e3,get_put,if_pos rfl]
     have q3:=z2r g3
     repeat' (first|refine EvC.seq ?_|(refine EvC.skip ?_;try simp only[z00])|(refine EvC.ret ?_)|(refine EvC.reg ?_;simp (config := { maxSteps := 2000000 }) (disch:=first|omega|rfl) only[sB,Za,Zb,one,reduceCtorEq,Zh,z0l,z1c,ld3,z1w,st3,q2,z01,z04,decide_eq_false c1,decide_eq_false c2,gt_iff_lt,z19 c3,g2,e3,g3,Zc])|(refine z08 ?_;simp (config := { maxSteps := 2000000 }) (disch:=first|omega|rfl) only[sB,Za,reduceCtorEq,ln9])|(refine EvC.condT ?_ ?_;simp (config := { maxSteps := 2000000 }) (disch:=first|omega|rfl) only[sB,Za,reduceCtorEq];refine z02 ?_)|(refine EvC.condF ?_ ?_;simp (config := { maxSteps := 2000000 }) (disch:=first|omega|rfl) only[sB,Za,reduceCtorEq];refine z02 ?_))
     have h4:=h3.turn (s':={ s with pos:=to,en:=2 }) hs3;rw[z6k] at h4;exact z06 rfl (by simp only[sB,Za,reduceCtorEq];rfl) ⟨hy3.trans (Hy.put hy3.1 (h3.lb _ (z1q hs3)) g3 _),by rw[hR];rfl,by rw[hR];exact h4⟩
    ·rw[if_neg c3] at hR
     repeat' (first|refine EvC.seq ?_|(refine EvC.skip ?_;try simp only[z00])|(refine EvC.ret ?_)|(refine EvC.reg ?_;simp (config := { maxSteps := 2000000 }) (disch:=first|omega|rfl) only[sB,Za,Zb,one,reduceCtorEq,Zh,z0l,z1c,ld3,st3,q2,z01,z04,decide_eq_false c1,decide_eq_false c2,gt_iff_lt,z0r c3,g2,Zc])|(refine z08 ?_;simp (config := { maxSteps := 2000000 }) (disch:=first|omega|rfl) only[sB,Za,reduceCtorEq,ln9])|(refine EvC.condF ?_ ?_;simp (config := { maxSteps := 2000000 }) (disch:=first|omega|rfl) only[sB,Za,reduceCtorEq];refine z02 ?_))
     exact z06 rfl (by simp only[sB,Za,reduceCtorEq];rfl) ⟨(Hy.of hx2).trans (Hy.put w2 (h2.lb _ (z1q hs)) g2 _),by rw[hR];rfl,by rw[hR];exact h2.turn (s':={ s with pos:=to }) hs⟩
 ·obtain⟨eb,ecs,rfl,-⟩:=id he;have hR:φ.advR n to=(.ball t,φ):=by unfold FSt.advR;rw[hr]
  repeat' (first|refine EvC.seq ?_|(refine EvC.ret ?_;try simp only[z05,z03])|(refine EvC.reg ?_;simp (config := { maxSteps := 2000000 }) (disch:=first|omega|rfl) only[sB,Za,reduceCtorEq,z2e])|(refine z08 ?_;simp (config := { maxSteps := 2000000 }) (disch:=first|omega|rfl) only[sB,Za,reduceCtorEq])|(refine EvC.condT ?_ ?_;simp (config := { maxSteps := 2000000 }) (disch:=first|omega|rfl) only[sB,Za,reduceCtorEq];refine z02 ?_))
  exact z06 rfl (by simp only[sB,Za,reduceCtorEq];rfl) ⟨Hy.of hx1,by rw[hR];exact he,by rw[hR];exact h.keep hx1 hw⟩
def byteS (b:Int):ByteArray:=⟨#[UInt8.ofNat b.toNat]⟩
def FSt.putByteR (φ:FSt) (n b:Int):BadV × FSt:=match φ.wrErr n true,φ.get n with
 |some e,_=>(.ball e,φ)
 |none,none=>(.none,φ)
 |none,some s=>if b < 0∨255 < b then (.code 83,φ) else (BadV.of (φ.addR s (byteS b)).1,(φ.addR s (byteS b)).2)
set_option maxHeartbeats 4000000 in
theorem zad {H:Heap}{B:Nat→Prop}{p fb ob:Nat}{blk:Int→Nat}{φ:FSt}{n b:Int}(h:FsB H B p fb ob blk φ) (hw:H.wf) (hn:i64 n) (h0:0≤φ.written) (h1:φ.written≤100000)
  (hf:∀s,φ.get n=some s→(φ.fileD s.file).size≤20000) (hu:φ.out.size≤100000) :
  EvF Tryz.prog okT 20 [ptrV p,.int .i64 n,.int .i64 b] H fun e H'=>Hy B H H'∧ErrB H' (φ.putByteR n b).1 e∧FsB H' B p fb ob blk (φ.putByteR n b).2:=by
 refine EvF.enter rfl Tryz.func20 (by decide) rfl ?_
 repeat' (first|refine EvC.seq ?_|(refine EvC.reg ?_;simp (config := { maxSteps := 2000000 }) (disch:=first|omega|rfl) only[sB,initTm,Za,Zb,reduceCtorEq,cl60]))
 refine(zcw (bin:=true) h hw hn).mono ?_;rintro v H1 (⟨hr,rfl,rfl⟩|⟨t',e,hr,rfl,hx1,he⟩)
 ·obtain⟨s,hs⟩:=zcx hr;have hR:φ.putByteR n b=if b < 0∨255 < b then (.code 83,φ) else (BadV.of (φ.addR s (byteS b)).1,(φ.addR s (byteS b)).2):=by unfold FSt.putByteR;rw[hr,hs]
  by_cases c1:b < 0
  ·rw[if_pos (.inl c1)] at hR
   repeat' (first|refine EvC.seq ?_|(refine EvC.skip ?_;try simp only[z00])|(refine EvC.ret ?_;try simp only[z05,z03])|(refine EvC.reg ?_;simp (config := { maxSteps := 2000000 }) (disch:=first|omega|rfl) only[sB,Za,reduceCtorEq,z0w,decide_eq_true c1,z0y,z4y zeb])|(refine z08 ?_;simp (config := { maxSteps := 2000000 }) (disch:=first|omega|rfl) only[sB,Za,reduceCtorEq])|(refine EvC.condT ?_ ?_;simp (config := { maxSteps := 2000000 }) (disch:=first|omega|rfl) only[sB,Za,reduceCtorEq];refine z02 ?_)|(refine EvC.condF ?_ ?_;simp (config := { maxSteps := 2000000 }) (disch:=first|omega|rfl) only[sB,Za,reduceCtorEq];refine z02 ?_))
   exact z06 rfl (by simp only[sB,Za,reduceCtorEq];rfl) ⟨Hy.of (HX.refl hw),by rw[hR];rfl,by rw[hR];exact h⟩
  ·by_cases c2:255 < b
   ·rw[if_pos (.inr c2)] at hR
    repeat' (first|refine EvC.seq ?_|(refine EvC.skip ?_;try simp only[z00])|(refine EvC.ret ?_;try simp only[z05,z03])|(refine EvC.reg ?_;simp (config := { maxSteps := 2000000 }) (disch:=first|omega|rfl) only[sB,Za,reduceCtorEq,z0w,decide_eq_false c1,decide_eq_true c2,gt_iff_lt,z0y,z4y zeb,Zc])|(refine z08 ?_;simp (config := { maxSteps := 2000000 }) (disch:=first|omega|rfl) only[sB,Za,reduceCtorEq])|(refine EvC.condT ?_ ?_;simp (config := { maxSteps := 2000000 }) (disch:=first|omega|rfl) only[sB,Za,reduceCtorEq];refine z02 ?_)|(refine EvC.condF ?_ ?_;simp (config := { maxSteps := 2000000 }) (disch:=first|omega|rfl) only[sB,Za,reduceCtorEq];refine z02 ?_))
    exact z06 rfl (by simp only[sB,Za,reduceCtorEq];rfl) ⟨Hy.of (HX.refl hw),by rw[hR];rfl,by rw[hR];exact h⟩
   ·rw[if_neg (fun q=>q.elim c1 c2)] at hR;obtain⟨k,rfl⟩:=Int.eq_ofNat_of_zero_le (by omega:0≤b);obtain⟨H2,e2,hx2,g2,n2,w2⟩:=new1 hw (.row [.int .u8 (k:Nat)] 5);have hl:H2.load ⟨H1.next,0,none⟩ 1=some (bytesV [k]):=by simp only[Heap.load,Heap.cells,g2];rfl
    obtain⟨t,hdb,ht⟩:=z6w (c:=1) hl (by omega);have hts:t=byteS (k:Int):=by
     cases t with
     |mk d=>cases d with
      |mk l=>simp only at ht;rw[ht];rfl
    rw[hts] at hdb;have hcon:=z6v (P:=Tryz.prog) (src:=116) (dst:=9) (e:=5) (by kernel_rfl) (by kernel_rfl) (by kernel_rfl) hdb
    repeat' (first|refine EvC.seq ?_|(refine EvC.skip ?_;try simp only[z00])|(refine EvC.reg ?_;simp (config := { maxSteps := 2000000 }) (disch:=first|omega|rfl) only[sB,Za,Value.cells,one,reduceCtorEq,layC,zpf,z8x,cl62,z0w,decide_eq_false c1,decide_eq_false c2,gt_iff_lt,ziy,e2,hcon,Zc])|(refine z08 ?_;simp (config := { maxSteps := 2000000 }) (disch:=first|omega|rfl) only[sB,Za,reduceCtorEq])|(refine EvC.condF ?_ ?_;simp (config := { maxSteps := 2000000 }) (disch:=first|omega|rfl) only[sB,Za,reduceCtorEq];refine z02 ?_))
    refine(znj (h.keep hx2 hw) w2 hs h0 h1 (t:=byteS (k:Int)) (by simp [byteS,Zf]) (hf s hs) hu).mono ?_;rintro e H3 ⟨k1,k2,k3⟩
    repeat' (first|(refine EvC.ret ?_))
    exact z06 rfl (by simp only[sB,Za,reduceCtorEq];rfl) ⟨(Hy.of hx2).trans k1,by rw[hR];exact k2.b,by rw[hR];exact k3⟩
 ·obtain⟨eb,ecs,rfl,-⟩:=id he;have hR:φ.putByteR n b=(.ball t',φ):=by unfold FSt.putByteR;rw[hr]
  repeat' (first|refine EvC.seq ?_|(refine EvC.ret ?_;try simp only[z05,z03])|(refine EvC.reg ?_;simp (config := { maxSteps := 2000000 }) (disch:=first|omega|rfl) only[sB,Za,reduceCtorEq,z2e])|(refine z08 ?_;simp (config := { maxSteps := 2000000 }) (disch:=first|omega|rfl) only[sB,Za,reduceCtorEq])|(refine EvC.condT ?_ ?_;simp (config := { maxSteps := 2000000 }) (disch:=first|omega|rfl) only[sB,Za,reduceCtorEq];refine z02 ?_))
  exact z06 rfl (by simp only[sB,Za,reduceCtorEq];rfl) ⟨Hy.of hx1,by rw[hR];exact he,by rw[hR];exact h.keep hx1 hw⟩
theorem z2g {a b:ByteArray}:(a.data.toList == b.data.toList)=(a == b):=by
 by_cases h:a=b
 ·rw[h,beq_self_eq_true,z1z.2 rfl]
 ·rw[z9i h];refine beq_eq_false_iff_ne.2 fun q=>h ?_
  cases a with
  |mk d=>cases b with
   |mk e=>cases d with
    |mk l=>cases e with
     |mk m=>simp only at q;rw[q]
theorem zd5 {l:List (Int × Strm)}(h:(l.map (·.1)).Nodup):∀{o o':Int × Strm},o∈l→o'∈l→o.1=o'.1→o=o':=by
 induction l with
 |nil=>intro o o' ho;cases ho
 |cons x l ih =>
  intro o o' ho ho' e;rw[Zs,List.nodup_cons] at h;rcases List.mem_cons.1 ho with h1|h1<;>rcases List.mem_cons.1 ho' with h2|h2
  ·rw[h1,h2]
  ·exact(h.1 (List.mem_map.2 ⟨o',h2,by rw[←e,h1]⟩)).elim
  ·exact(h.1 (List.mem_map.2 ⟨o,h1,by rw[e,h2]⟩)).elim
  ·exact ih h.2 h1 h2 e
def FSt.findA (φ:FSt) (a:ByteArray):Option Int:=if a.size=0 then none else (φ.opens.find? fun o=>o.2.al == a).map (·.1)
set_option maxHeartbeats 8000000 in
theorem zg7 {H:Heap}{B:Nat→Prop}{p fb ob:Nat}{blk:Int→Nat}{φ:FSt}{a:ByteArray}(h:FsB H B p fb ob blk φ) (hw:H.wf) (hu:∀o∈φ.opens,∀o'∈φ.opens,a.size≠0→o.2.al=a→o'.2.al=a→o=o') :
  EvF Tryz.prog okT 25 [ptrV p,.string a] H fun v H'=>HX H H'∧v=.tuple ⟨[.int .i64 ((φ.findA a).getD 0),.bool (φ.findA a).isSome]⟩:=by
 refine EvF.enter rfl Tryz.func25 (by decide) rfl ?_;have q:=row8 h.obj;by_cases ha:a.size=0
 ·have hR:φ.findA a=none:=by unfold FSt.findA;rw[if_pos ha]
  have hb:=fun t x y=>zlo (H:=H) (t:=t) (x:=x) (y:=y) ha
  repeat' (first|refine EvC.seq ?_|(refine EvC.ret ?_;try simp only[z05,z03])|(refine EvC.reg ?_;simp (config := { maxSteps := 2000000 }) (disch:=first|omega|rfl) only[sB,initTm,Za,reduceCtorEq,z6z,hb,Zc])|(refine EvC.condT ?_ ?_;simp (config := { maxSteps := 2000000 }) (disch:=first|omega|rfl) only[sB,Za,reduceCtorEq];refine z02 ?_))
  exact z09 rfl (by simp only[sB,Za,reduceCtorEq];rfl) (by simp only[sB,Za,reduceCtorEq];rfl) ⟨HX.refl hw,by rw[hR];rfl⟩
 have hR:φ.findA a=(φ.opens.find? fun o=>o.2.al == a).map (·.1):=by unfold FSt.findA;rw[if_neg ha]
 obtain⟨es,clk,hgm,hes⟩:=id h.om;obtain⟨es2,clk2,hgm2,hb1,hb2⟩:=id h.bo;rw[hgm] at hgm2;cases hgm2;have hrg:=zjo (P:=Tryz.prog) Tryz.underlying75 hgm;obtain⟨H2,e2,hx2,g2,n2,w2⟩:=new1 hw (.mit ob clk);have lob:ob < H.next:=hw _ _ hgm;have hev:∀e∈es,∃o∈φ.opens,e.key=.int .i64 o.1∧e.val=ptrV (blk o.1):=fun e he=>by
  have hm:(e.key,e.val)∈es.map fun e=>(e.key,e.val):=List.mem_map.2 ⟨e,he,rfl⟩
  rw[hes,ZJ] at hm;obtain⟨o,ho,hp⟩:=List.mem_map.1 hm;simp only[Function.comp,Prod.mk.injEq] at hp;exact⟨o,ho,hp.1.symm,hp.2.symm⟩
 have hev2:∀o∈φ.opens,∃e∈es,e.val=ptrV (blk o.1):=fun o ho=>by
  have hm:((.int .i64 o.1:Value),ptrV (blk o.1))∈es.map fun e=>(e.key,e.val):=by
   rw[hes,ZJ];exact List.mem_map.2 ⟨o,ho,rfl⟩
  obtain⟨e,he,hp⟩:=List.mem_map.1 hm;exact⟨e,he,(Prod.mk.inj hp).2⟩
 obtain⟨H3,e3⟩:∃H3,H2.put H.next none=H3:=⟨_,rfl⟩
 have hx3:HX H H3:=by rw[←e3];exact hx2.put (Ze _) (by omega) _
 have w3:=hx3.wf;have h3:=h.keep hx3 hw;have hb:=fun G t x y=>zlp (H:=G) (t:=t) (x:=x) (y:=y) ha
 have hsame:∀o∈φ.opens,o.2.al=a→φ.findA a=some o.1:=fun o ho hal=>by
  rw[hR];cases hf:φ.opens.find? fun o=>o.2.al == a with
  |none=>have:=List.find?_eq_none.1 hf o ho;rw[hal,z1z.2 rfl] at this;exact absurd rfl this
  |some o' =>
   have h1:=List.mem_of_find?_eq_some hf;have h2:o'.2.al=a:=z1z.1 (List.find?_some (p:=fun o:Int × Strm=>o.2.al == a) hf);rw[hu o ho o' h1 ha hal h2];rfl
 repeat' (first|refine EvC.seq ?_|refine EvC.block ?_|(refine EvC.skip ?_;try simp only[z00])|(refine EvC.reg ?_;simp (config := { maxSteps := 2000000 }) (disch:=first|omega|rfl) only[sB,initTm,Za,reduceCtorEq,z3t,ld75,z6z,hb,q,z01,z04,z96,hrg,e2,Zc])|(refine EvC.condF ?_ ?_;simp (config := { maxSteps := 2000000 }) (disch:=first|omega|rfl) only[sB,Za,reduceCtorEq];refine z02 ?_))
 refine EvC.frame (fun tm=>(tm.get 1=some (.string a)∧tm.get 18=some (ptrV H.next))∧tm.get 6=none∧tm.get 7=none∧tm.get 19=none∧tm.get 20=none∧tm.get 21=none∧tm.get 22=none∧tm.get 23=none∧tm.get 24=none∧tm.get 25=none∧tm.get 26=none∧tm.get 27=none∧tm.get 28=none∧tm.get 29=none∧tm.get 30=none) ⟨⟨(by simp only[sG,Za,reduceCtorEq]),(by simp only[sG,Za,reduceCtorEq])⟩,(by simp only[sG,Za,reduceCtorEq];rfl),(by simp only[sG,Za,reduceCtorEq];rfl),(by simp only[sG,Za,reduceCtorEq];rfl),(by simp only[sG,Za,reduceCtorEq];rfl),(by simp only[sG,Za,reduceCtorEq];rfl),(by simp only[sG,Za,reduceCtorEq];rfl),(by simp only[sG,Za,reduceCtorEq];rfl),(by simp only[sG,Za,reduceCtorEq];rfl),(by simp only[sG,Za,reduceCtorEq];rfl),(by simp only[sG,Za,reduceCtorEq];rfl),(by simp only[sG,Za,reduceCtorEq];rfl),(by simp only[sG,Za,reduceCtorEq];rfl),(by simp only[sG,Za,reduceCtorEq];rfl),(by simp only[sG,Za,reduceCtorEq];rfl)⟩ ?_
 rintro tm ⟨⟨t1,t18⟩,u6,u7,u19,u20,u21,u22,u23,u24,u25,u26,u27,u28,u29,u30⟩;refine EvC.mapLoop rfl (r:=H.next) (m:=ob) (since:=clk) (clk:=clk) (es:=es) t18 g2 (hx2.get hw hgm) (Ze _) hb1 (z90 hb2) (by omega) (by assumption) (by assumption) (fun e=>∃o∈φ.opens,e.val=ptrV (blk o.1)∧o.2.al=a)
  (.ret,⟨(Tr.nil.put 4 (some (.int .i64 ((φ.findA a).getD 0)))).put 5 (some (.bool true)),[],H3⟩) (fun e he=>?_) (fun hno=>?_) (fun hyes=>?_)
 ·obtain⟨o,ho,k1,k2⟩:=hev e he;have qs:=z2r (h3.st o ho);rw[k1,k2,e3];refine EvO.reg1 ?_;(try simp (config := { maxSteps := 2000000 }) (disch:=first|omega|rfl) only[sB,Za]);refine EvQ.one ?_;by_cases hal:o.2.al=a
  ·have hbe:(o.2.al == a)=true:=z1z.2 hal
   repeat' (first|refine EvC.seq ?_|(refine EvC.ret ?_)|(refine EvC.reg ?_;simp (config := { maxSteps := 2000000 }) (disch:=first|omega|rfl) only[sB,Za,z0l,zfu,ld9,t1,qs,z01,z04,z16,z2g,hbe])|(refine EvC.condT ?_ ?_;simp (config := { maxSteps := 2000000 }) (disch:=first|omega|rfl) only[sB,Za];refine z02 ?_))
   refine⟨⟨o,ho,rfl,hal⟩,?_⟩;have hf:Tryz.prog.funcs[25]?=some Tryz.f25:=Tryz.func25;simp only[onlyRes,hf];rw[hsame o ho hal];have hres:Tryz.f25.results.toList=[.tmp 4,.tmp 5]:=rfl;simp only[hres,List.foldl_cons,List.foldl_nil,resTmp,sG,Za,Option.getD_some]
  ·have hbe:(o.2.al == a)=false:=z9i hal
   repeat' (first|refine EvC.seq ?_|(refine EvC.skip ?_)|(refine EvC.reg ?_;simp (config := { maxSteps := 2000000 }) (disch:=first|omega|rfl) only[sB,Za,z0l,zfu,ld9,t1,qs,z01,z04,z16,z2g,hbe])|(refine EvC.condF ?_ ?_;simp (config := { maxSteps := 2000000 }) (disch:=first|omega|rfl) only[sB,Za];refine z02 ?_))
   refine⟨fun ⟨o',ho',k3,hal'⟩=>hal ?_,fun i hi=>rfl,?_,rfl⟩
   ·have hbk:blk o.1=blk o'.1:=by simpa using k3
    rw[zd5 h.nd ho ho' (h.inj o ho o' ho' hbk)];exact hal'
   ·show TmLe _ _
    repeat refine TmLe.put (by assumption) ?_
    with_reducible exact TmLe.refl _
 ·rw[e3];have hn:φ.findA a=none:=by
   rw[hR,Option.map_eq_none_iff];refine List.find?_eq_none.2 fun o ho q=>?_
   obtain⟨e,he,k⟩:=hev2 o ho;exact hno e he ⟨o,ho,k,z1z.1 q⟩
  repeat' (first|refine EvC.seq ?_|(refine EvC.ret ?_)|(refine EvC.reg ?_;simp (config := { maxSteps := 2000000 }) (disch:=first|omega|rfl) only[sA]))
  exact z09 rfl (by simp only[sB,Za];rfl) (by simp only[sB,Za];rfl) ⟨hx3,by rw[hn];rfl⟩
 ·obtain⟨e,he,o,ho,k2,hal⟩:=hyes;have hs:=hsame o ho hal;have e4:((Tr.nil.put 4 (some (Value.int .i64 ((φ.findA a).getD 0)))).put 5 (some (Value.bool true))).get 4=some (.int .i64 ((φ.findA a).getD 0)):=by rw[Tr.get_put,if_neg (by decide),Tr.get_put,if_pos rfl]
  have e5:((Tr.nil.put 4 (some (Value.int .i64 ((φ.findA a).getD 0)))).put 5 (some (Value.bool true))).get 5=some (.bool true):=by rw[Tr.get_put,if_pos rfl]
  have key:Ex.leave Tryz.prog okT Tryz.f25 (fun v H'=>HX H H'∧v=.tuple ⟨[.int .i64 ((φ.findA a).getD 0),.bool (φ.findA a).isSome]⟩) .ret ⟨(Tr.nil.put 4 (some (Value.int .i64 ((φ.findA a).getD 0)))).put 5 (some (Value.bool true)),[],H3⟩ :=
   z09 rfl e4 e5 ⟨hx3,by rw[hs];rfl⟩
  exact key
theorem zof {H:Heap}{m:Nat}(hw:H.wf):EvF Tryz.prog okT 68 [.map (some m)] H fun v H'=>v=.func (.func 96) #[] #[ptrV H.next]∧HX H H'∧H'.get H.next=some (.row [.map (some m)] 74):=by
 refine EvF.enter rfl Tryz.func68 (by decide) rfl ?_;(repeat refine EvC.seq ?_);refine EvC.reg ?_;simp (config := { maxSteps := 2000000 }) (disch:=first|omega|rfl) only[sB,initTm,dBox,Value.cells,one];obtain⟨H1,e1,hx1,g1,n1,w1⟩:=new1 hw (.row [.map (some m)] 74);simp only[e1]
 repeat' (first|refine EvC.seq ?_|(refine EvC.ret ?_)|(refine EvC.reg ?_;simp (config := { maxSteps := 2000000 }) (disch:=first|omega|rfl) only[sB,Za,reduceCtorEq,List.map_toArray]))
 exact z06 rfl (by simp only[sG,Za,reduceCtorEq]) ⟨rfl,hx1,g1⟩
abbrev rowF (l:List (ByteArray × ByteArray)):List Value:=l.flatMap fun x=>[.string x.1,.string x.2]
def OutF (H:Heap) (l:List (ByteArray × ByteArray)) (v:Value) (B:Nat):Prop:=(l=[]∧v=.slice none 0 0)∨∃b,v=.slice (some ⟨b,0,none⟩) l.length l.length∧H.get b=some (.row (rowF l) 73)∧B≤b
theorem zd6:apOk Tryz.prog 22 73 2:=z6u (by kernel_rfl)
theorem z43 (l:List (ByteArray × ByteArray)):(rowF l).length=l.length*2:=by
 induction l with
 |nil=>rfl
 |cons x l ih=>simp only[rowF,List.flatMap_cons,Zu,ZF,List.length_nil] at ih ⊢;omega
theorem z6m (l:List (ByteArray × ByteArray)):(rowF l).all one=true:=by
 induction l with
 |nil=>rfl
 |cons x l ih=>simp only[rowF,List.flatMap_cons,List.all_append,ih];rfl
theorem OutF.push {A H:Heap}{l:List (ByteArray × ByteArray)}{v:Value}{B c:Nat}{ad:Addr}{n d:ByteArray}(h:OutF H l v B) (hw:H.wf) (hx:HX A H) (hB:A.next≤B) (hB2:B≤H.next) (hl:H.load ad (1*2)=some [.string n,.string d]) (hm:l.length+1≤most) :
  ∃v' H',dAp Tryz.prog #[22,22] v (.slice (some ad) 1 c) H=some (.val v' H')∧OutF H' (l++[(n,d)]) v' B∧HX A H'∧H.next≤H'.next:=by
 rcases h with ⟨rfl,rfl⟩|⟨b,rfl,hg,hb⟩
 ·exact⟨_,_,z8r zd6 (by omega) (by simp [most]) hl rfl,.inr ⟨H.next,rfl,by rw[get_new,if_pos rfl];rfl,hB2⟩,hx.new _,Nat.le_succ _⟩
 ·have hlen:=z43 l;have htk:(rowF l).take (l.length*2)=rowF l:=Zx (by omega);refine⟨_,_,z5u zd6 (by omega) hm hl rfl hg (by omega) (by rw[htk];exact z6m l),.inr ⟨H.next,by simp,?_,hB2⟩,(hx.pt (by omega) hg none).new _,Nat.le_succ _⟩;rw[get_new,z1b,if_pos rfl,htk];simp [rowF]
theorem OutF.keep {H H':Heap}{l:List (ByteArray × ByteArray)}{v:Value}{B:Nat}(h:OutF H l v B) (hx:HX H H') (hw:H.wf):OutF H' l v B:=by
 rcases h with h|⟨b,e,hg,hb⟩
 ·exact .inl h
 ·exact .inr ⟨b,e,hx.get hw hg,hb⟩
theorem OutF.low {H:Heap}{l:List (ByteArray × ByteArray)}{v:Value}{B B':Nat}(h:OutF H l v B) (hB:B'≤B):OutF H l v B':=by
 rcases h with h|⟨b,e,hg,hb⟩
 ·exact .inl h
 ·exact .inr ⟨b,e,hg,ZA hB hb⟩
theorem z0i {H:Heap}{b i:Nat}{cs:List Value}{T:TypeId}{v:Value}(hg:H.get b=some (.row cs T)) (hi:cs[i]?=some v):H.load ⟨b,i,none⟩ 1=some [v]:=by
 have h1:(cs.drop i).take 1=[v]:=by
  obtain⟨hlt,he⟩:=List.getElem?_eq_some_iff.1 hi;rw[List.drop_eq_getElem_cons hlt,he];rfl
 simp only[Heap.load,Heap.cells,hg,h1];rfl
def FSt.sorted (φ:FSt):List (ByteArray × ByteArray):=((φ.files.map fun x=>x.1.data.toList).mergeSort leB).map fun b=>(⟨b.toArray⟩,φ.fileD ⟨b.toArray⟩)
theorem z5c (φ:FSt):φ.sorted.length=φ.files.length:=by simp [FSt.sorted]
theorem zjy (φ:FSt):∀x∈φ.sorted,x=(x.1,φ.fileD x.1):=fun x hx=>by
 unfold FSt.sorted at hx;obtain⟨b,-,rfl⟩:=List.mem_map.1 hx;rfl
theorem zjz:∀{es:List MapEntry}{l:List (ByteArray × ByteArray)},es.map (fun e=>(e.key,e.val))=(l.map fun x=>(x.1,Value.string x.2)).map (fun p=>(Value.string p.1,p.2))→(∀x∈l,x.1.size≤maxLen)→keyL es=some (l.map fun x=>x.1.data.toList)
 |[],[],_,_=>rfl
 |[],_ :: _,h,_=>by simp at h
 |_ :: _,[],h,_=>by simp at h
 |e :: es,x :: l,h,hs=>by
  simp only[Zs,List.cons.injEq,Prod.mk.injEq] at h;have ih:=zjz (es:=es) (l:=l) h.2 (fun y hy=>hs y (Zl _ hy));rw[keyL,h.1.1,ih];simp only[if_pos (hs x (by simp)),Zs]
set_option maxHeartbeats 8000000 in
theorem zg8 {H:Heap}{B:Nat→Prop}{p fb ob:Nat}{blk:Int→Nat}{φ:FSt}(h:FsB H B p fb ob blk φ) (hw:H.wf) (hs:∀x∈φ.files,x.1.size≤maxLen) (hl:φ.files.length≤16) :
  EvF Tryz.prog okT 27 [ptrV p] H fun v H'=>HX H H'∧OutF H' φ.sorted v H.next:=by
 refine EvF.enter rfl Tryz.func27 (by decide) rfl ?_;have q:=row8 h.obj
 repeat' (first|refine EvC.seq ?_|(refine EvC.skip ?_;try simp only[z00])|(refine EvC.reg ?_;simp (config := { maxSteps := 2000000 }) (disch:=first|omega|rfl) only[sB,initTm,Za,reduceCtorEq,z3z,ld74,cl68,cl67,z6z,q,z01,z04])|(refine EvC.condF ?_ ?_;simp (config := { maxSteps := 2000000 }) (disch:=first|omega|rfl) only[sB,Za,reduceCtorEq];refine z02 ?_))
 refine(zof hw).mono ?_;rintro v H1 ⟨rfl,hx1,g1⟩;have w1:=hx1.wf;have h1:=h.keep hx1 hw;obtain⟨es,clk,hg,he⟩:=id h1.fm;obtain⟨es2,clk2,hg2,hb1,hb2⟩:=id h1.bf;rw[hg] at hg2;cases hg2;have hk:=zjz he hs;have hlen:es.length=φ.files.length:=by have:=congrArg List.length he;simpa using this
 have hnd:(φ.files.map fun x=>x.1.data.toList).Nodup:=by
  have:=h.fd;rw[List.nodup_iff_pairwise_ne,List.pairwise_map] at this ⊢;refine this.imp fun {a b} hab e=>hab ?_
  obtain⟨⟨⟨a0⟩⟩,a1⟩:=a;obtain⟨⟨⟨b0⟩⟩,b1⟩:=b;simp only at e ⊢;rw[e]
 have hmx:φ.files.length≤most:=by unfold most;omega
 skip
 obtain⟨A,S,hA,hSx,hSv⟩:∃A S,HX H1 A∧A.wf∧EvF Tryz.prog okT 67 [.func (.func 96) #[] #[ptrV H.next]] H1 (fun v H'=>v=S∧H'=A ∧
   ((φ.files=[]∧S=.slice none 0 0)∨∃b,S=.slice (some ⟨b,0,none⟩) φ.files.length φ.files.length∧A.get b=some (.row (((φ.files.map fun x=>x.1.data.toList).mergeSort leB).map Go.Proofs.encStr) 9))):=by
  cases hf:φ.files with
  |nil =>
   rw[hf] at he;have:es=[]:=by simpa using he
   subst this;exact⟨H1,.slice none 0 0,HX.refl w1,w1,(zba g1 hg).mono fun v H' ⟨a,b⟩=>⟨a,b,.inl ⟨rfl,rfl⟩⟩⟩
  |cons x l =>
   rw[hf] at hk hnd hlen hmx;have hxa:=(HX.refl w1).new (some (.row (((x.1.data.toList :: l.map fun x=>x.1.data.toList).mergeSort leB).map Go.Proofs.encStr) 9));refine⟨_,.slice (some ⟨H1.next,0,none⟩) (l.length+1) (l.length+1),hxa,hxa.wf,(zj8 (T:=9) g1 hg hk (by omega) hb1 hb2 hnd).mono fun v H' ⟨a,b⟩=>⟨by rw[a,Zv],b,.inr ⟨H1.next,rfl,?_⟩⟩⟩;rw[get_new,if_pos rfl];rfl
 refine hSv.mono ?_;rintro v H2 ⟨rfl,rfl,hS⟩;have hsl:=z5c φ;have hsm:φ.sorted.map (fun x=>Value.string x.1)=((φ.files.map fun x=>x.1.data.toList).mergeSort leB).map Go.Proofs.encStr:=by
  simp only[FSt.sorted,ZJ];exact List.map_congr_left fun b _=>rfl
 obtain⟨a,c,rfl,hld⟩:∃a c,v=.slice a φ.sorted.length c∧∀(i:Nat) (hi:i < φ.sorted.length),∃b,a=some ⟨b,0,none⟩∧H2.load ⟨b,i,none⟩ 1=some [.string (φ.sorted[i]).1]:=by
  rcases hS with ⟨hf,rfl⟩|⟨b,rfl,hg3⟩
  ·have h0:φ.sorted.length=0:=by rw[hsl,hf];rfl
   exact⟨none,0,by rw[h0],fun i hi=>by omega⟩
  ·refine⟨some ⟨b,0,none⟩,φ.files.length,by rw[hsl],fun i hi=>⟨b,rfl,z0i hg3 ?_⟩⟩;rw[←hsm,Zr,Zd hi];rfl
 have w2:=hSx;have h2:=h1.keep hA w1;have hx2:=hx1.trans hA
 repeat' (first|refine EvC.block ?_|(refine z08 ?_;simp (config := { maxSteps := 2000000 }) (disch:=first|omega|rfl) only[sA,zqf]))
 refine EvC.loop (fun k st=>∃tm G i u,st=⟨tm,[],G⟩∧k=φ.sorted.length - i∧i≤φ.sorted.length∧tm.get 0=some (ptrV p)∧tm.get 3=some u∧tm.get 13=some (.slice a φ.sorted.length c)∧tm.get 14=some (.int .i64 φ.sorted.length)∧tm.get 15=some (.int .i64 (i:Nat))∧HX H2 G∧OutF G (φ.sorted.take i) u H2.next) ?_ φ.sorted.length _ ?_
 ·rintro k st ⟨tm,G,i,u,rfl,rfl,hi,t0,t3,t13,t14,t15,hxG,hO⟩;have wG:=hxG.wf;by_cases hlt:i < φ.sorted.length
  ·obtain⟨b,rfl,hld1⟩:=hld i hlt;have hld2:=hxG.load w2 hld1;have hG:=h2.keep hxG w2;have qG:=row8 hG.obj;have hnd1:φ.sorted[i]=((φ.sorted[i]).1,φ.fileD (φ.sorted[i]).1):=zjy φ _ (ZE hlt);obtain⟨nm,hnm⟩:∃nm,nm=(φ.sorted[i]).1:=⟨_,rfl⟩
   rw[←hnm] at hld2 hnd1;have hlk:=fun ok=>hG.look nm ok
   obtain⟨G1,e1,hxg1,gg1,ng1,wg1⟩:=new1 wG (.row [.string nm,.string (φ.fileD nm)] 73);have hl2:G1.load ⟨G.next,0,none⟩ (1*2)=some [.string nm,.string (φ.fileD nm)]:=by simp only[Heap.load,Heap.cells,gg1];rfl
   obtain⟨u',G2,hap,hO2,hx3,-⟩:=(hO.keep hxg1 wG).push (A:=H2) (c:=1) wg1 (hxG.trans hxg1) (Ze _) (hxG.trans hxg1).next hl2 (by rw[List.length_take];unfold most;omega);have hw1:IntKind.i64.wrap ((i:Int)+1)=((i+1:Nat):Int):=by rw[z0e]<;>omega
   repeat' (first|refine EvC.seq ?_|refine EvC.block ?_|(refine EvC.skip ?_;try simp only[z00])|(refine EvC.reg ?_;simp (config := { maxSteps := 2000000 }) (disch:=first|omega|rfl) only[sB,Za,Zb,Value.cells,one,reduceCtorEq,Zh,layC,z3z,ld74,zqg,ld9,bd73,znh,t0,t3,t13,t14,t15,decl hlt,hld2,qG,z01,z04,z1p,hlk,e1,hap,hw1])|(refine EvC.condT ?_ ?_;simp (config := { maxSteps := 2000000 }) (disch:=first|omega|rfl) only[sB];refine z02 ?_))
   refine⟨_,by omega,_,_,i+1,u',rfl,rfl,by omega,(by simp only[sG,reduceCtorEq,t0]),(by simp only[sG,Za]),(by simp only[sG,Za,t13]),(by simp only[sG,Za,t14]),(by simp only[sG,Za]),hx3,?_⟩;rw[←List.take_append_getElem hlt,hnd1];exact hO2
  ·obtain rfl:i=φ.sorted.length:=by omega
   rw[List.take_length] at hO
   repeat' (first|refine EvC.seq ?_|(refine EvC.exit ?_;try simp only[sB])|(refine EvC.ret ?_)|(refine EvC.reg ?_;simp (config := { maxSteps := 2000000 }) (disch:=first|omega|rfl) only[sB,Za,t3,t14,t15,decn hlt])|(refine EvC.condF ?_ ?_;simp (config := { maxSteps := 2000000 }) (disch:=first|omega|rfl) only[sB];refine z02 ?_))
   exact z06 rfl (by simp only[sG,Za]) ⟨hx2.trans hxG,hO.low hx2.next⟩
 ·exact⟨_,_,0,_,rfl,rfl,Zz _,(by simp only[sG,reduceCtorEq]),(by simp only[sG,Za,reduceCtorEq]),(by simp only[sG,Za,reduceCtorEq]),(by simp only[sG,Za,reduceCtorEq]),(by simp only[sB,Za,reduceCtorEq];rfl),HX.refl w2,.inl ⟨rfl,rfl⟩⟩
def opS:ByteArray:=⟨#[111,112,101,110]⟩
def srcS:ByteArray:=⟨#[115,111,117,114,99,101,95,115,105,110,107]⟩
def aliS:ByteArray:=⟨#[97,108,105,97,115]⟩
def truS:ByteArray:=⟨#[116,114,117,101]⟩
def strmsS:ByteArray:=⟨#[115,116,114,101,97,109,115]⟩
def filesS:ByteArray:=⟨#[102,105,108,101,115]⟩
def opT (t:Tm):Tm:=ofT permS [atomT opS,atomT srcS,t]
def noSrcT (n:ByteArray):Tm:=ofT existS [atomT srcS,atomT n]
def busyS (n:ByteArray) (m:Int) (s:Strm):Prop:=s.con=false∧s.file=n∧(s.mode≠1∨m≠1)
instance (n:ByteArray) (m:Int) (s:Strm):Decidable (busyS n m s):=by unfold busyS;exact inferInstance
def FSt.opErr (φ:FSt) (n:ByteArray) (m:Int) (al:ByteArray) (rep:Bool):BadV :=
 if m < 1∨3 < m then .code 1
 else if named n=false then .code 81
 else if (φ.findA al).isSome then .ball (opT (ofT aliS [atomT al]))
 else if rep=true∧m≠1 then .ball (opT (ofT repoS [atomT truS]))
 else if m=1∧φ.file n=none then .ball (noSrcT n)
 else if ∃o∈φ.opens,busyS n m o.2 then .ball (opT (atomT n))
 else if 16≤φ.opens.length then .ball (resT strmsS)
 else if φ.file n=none∧16≤φ.files.length then .ball (resT filesS)
 else .none
def FSt.opD (φ:FSt) (n:ByteArray) (m:Int):ByteArray:=if m=2 then e0 else φ.fileD n
def FSt.opened (φ:FSt) (n:ByteArray) (m:Int) (bin:Bool) (al:ByteArray) (eof:Int) (rep:Bool):Strm:=⟨φ.next,n,m,bin,al,eof,rep,if m=1 then 0 else (φ.opD n m).size,0,0,false⟩
def FSt.openF (φ:FSt) (n:ByteArray) (m:Int) (bin:Bool) (al:ByteArray) (eof:Int) (rep:Bool):FSt :=
 { φ with files:=if m=1 then φ.files else fset φ.files n (φ.opD n m),opens:=φ.opens++[(φ.next,φ.opened n m bin al eof rep)],next:=φ.next+1 }
def FSt.openA (φ:FSt) (n:ByteArray) (m:Int) (bin:Bool) (al:ByteArray) (eof:Int) (rep:Bool):Int × BadV × FSt:=match φ.opErr n m al rep with
 |.none=>(φ.next,.none,φ.openF n m bin al eof rep)
 |e=>(0,e,φ)
theorem zog {φ:FSt}{n al:ByteArray}{m eof:Int}{bin rep:Bool}:(φ.openA n m bin al eof rep).2.1=.none∨(φ.openA n m bin al eof rep).2.2=φ:=by
 unfold FSt.openA;cases φ.opErr n m al rep with
 |none=>exact .inl rfl
 |ball t=>exact .inr rfl
 |code c=>exact .inr rfl
theorem zlv {φ:FSt}{n:Int}:(φ.closeR n).1=none∨(φ.closeR n).2=φ:=by
 unfold FSt.closeR;split
 ·exact .inr rfl
 ·split
  ·exact .inl rfl
  ·exact .inl rfl
theorem zlw {φ:FSt}{n:Int}:(φ.setInR n).1=none∨(φ.setInR n).2=φ:=by
 unfold FSt.setInR;split
 ·exact .inr rfl
 ·split
  ·exact .inl rfl
  ·exact .inr rfl
theorem zk0 {φ:FSt}{n:Int}:(φ.setOutR n).1=none∨(φ.setOutR n).2=φ:=by
 unfold FSt.setOutR;split
 ·exact .inr rfl
 ·split
  ·exact .inr rfl
  ·exact .inl rfl
theorem zk1 {φ:FSt}{n:Int}{bin peek:Bool}{cut:ByteArray→Int × Int}:(φ.readR n bin peek cut).2.1=none∨(φ.readR n bin peek cut).2.2=φ:=by
 unfold FSt.readR;split
 ·exact .inr rfl
 ·exact .inl rfl
 ·simp only;split
  ·exact .inl rfl
  ·split
   ·exact .inr rfl
   ·exact .inl rfl
theorem zpw {φ:FSt}{n to:Int}:(φ.advR n to).1=.none∨(φ.advR n to).2=φ:=by
 unfold FSt.advR;split
 ·exact .inr rfl
 ·exact .inl rfl
 ·split
  ·exact .inr rfl
  ·exact .inl rfl
theorem znm {φ:FSt}{s:Strm}{t:ByteArray}:(φ.addR s t).1=none∨(φ.addR s t).2=φ:=by
 unfold FSt.addR;split
 ·exact .inr rfl
 ·split
  ·exact .inr rfl
  ·split
   ·exact .inl rfl
   ·exact .inl rfl
theorem zpx {φ:FSt}{n:Int}{t:ByteArray}:(φ.putR n t).1=none∨(φ.putR n t).2=φ:=by
 unfold FSt.putR;split
 ·exact .inr rfl
 ·exact .inl rfl
 ·split
  ·exact znm
  ·exact .inr rfl
theorem zhn {φ:FSt}{n b:Int}:(φ.putByteR n b).1=.none∨(φ.putByteR n b).2=φ:=by
 unfold FSt.putByteR;split
 ·exact .inr rfl
 ·exact .inl rfl
 ·split
  ·exact .inr rfl
  ·rename_i s _ _ _;rcases znm (φ:=φ) (s:=s) (t:=byteS b) with h|h
   ·left;simp only;rw[h];rfl
   ·exact .inr h
theorem zoh {φ:FSt}{n pos:Int}:(φ.seekR n pos).1=none∨(φ.seekR n pos).2=φ:=by
 unfold FSt.seekR;split
 ·exact .inr rfl
 ·split
  ·exact .inr rfl
  ·split
   ·exact .inr rfl
   ·exact .inl rfl
end Go.Proofs.hq
end

section
namespace Go.Hb
def valB (B:Nat):List Nat→Nat
 |[]=>0
 |x :: l=>x+B*valB B l
theorem z34 (B:Nat):∀a b:List Nat,valB B (a++b)=valB B a+B ^ a.length*valB B b
 |[],b=>by simp [valB]
 |x :: a,b=>by
  rw[List.cons_append,valB,z34 B a b,valB,ZF,Nat.pow_succ,Nat.mul_add];rw[show B ^ a.length*B*valB B b=B*(B ^ a.length*valB B b) by rw[Nat.mul_comm (B ^ a.length) B,Nat.mul_assoc]];omega
theorem zg9 (B x:Nat):valB B [x]=x:=by simp [valB]
theorem z4i (B:Nat):∀l:List Nat,(∀x∈l,x=0)→valB B l=0
 |[],_=>rfl
 |x :: l,h=>by rw[valB,h x (by simp),z4i B l fun y hy=>h y (Zl _ hy)];simp
theorem zk2 {B:Nat}{l:List Nat}{n:Nat}(h:∀x∈l.drop n,x=0):valB B (l.take n)=valB B l:=by
 conv=>rhs;rw[←List.take_append_drop n l]
 rw[z34,z4i B _ h];simp
theorem zoi {B x r:Nat}{low q:List Nat}:valB B (low++[x])+B ^ (low.length+1)*(10*valB B q+r)=valB B low+B ^ low.length*(10*valB B ((r*B+x) / 10 :: q)+(r*B+x) % 10):=by
 rw[z34,zg9,valB,Nat.pow_succ];have h:=Nat.mod_add_div (r*B+x) 10;generalize (r*B+x) % 10=m at h ⊢;generalize (r*B+x) / 10=z at h ⊢;generalize B ^ low.length=p;generalize valB B q=v;have e1:p*B*(10*v+r)=p*(B*(10*v+r)):=Nat.mul_assoc ..;have e2:p*(10*(z+B*v)+m)=p*x+p*(B*(10*v+r)):=by
  rw[←Nat.mul_add];congr 1;have e3:B*(10*v+r)=10*(B*v)+r*B:=by rw[Nat.mul_add,Nat.mul_left_comm,Nat.mul_comm B r]
  omega
 omega
def decR (n:Nat):List Nat:=if h:n=0 then [] else n % 10 :: decR (n / 10)
termination_by n
decreasing_by omega
theorem zd7:decR 0=[]:=by rw[decR];simp
theorem z7v {n:Nat}(h:n≠0):decR n=n % 10 :: decR (n / 10):=by rw[decR,dif_neg h]
def digV (b:Nat):Nat:=if 48≤b∧b≤57 then b - 48 else if 97≤b∧b≤122 then b - 97+10 else if 65≤b∧b≤90 then b - 65+10 else 99
def mostBits:Nat:=4096
@[irreducible] def big:Nat:=2 ^ mostBits
theorem zk3:big=2 ^ mostBits:=by unfold big;rfl
def numD:List Nat→Nat→Option Nat
 |[],n=>some n
 |d :: l,n=>if big≤n*10+d then none else numD l (n*10+d)
def textD (neg:Bool) (n:Nat):List Nat:=if n=0 then [48] else ((decR n).map (48+·)++if neg then [45] else []).reverse
def canonD (s:List Nat):Bool :=
 let neg:=s.head? == some 45;let b:=if neg then s.tail else s
 if b=[] then false else if b.any (fun x=>10≤digV x) then false else match numD (b.map digV) 0 with
  |none=>false
  |some n=>textD neg n == s
def nbits (n:Nat):Nat:=if n=0 then 0 else n.log2+1
theorem zae {e k m n:Nat}(hm:m≠0) (h:m*10 ^ k≤n) (hn:n < 2 ^ e):k < e:=by
 have h1:2 ^ k≤10 ^ k:=Nat.pow_le_pow_left (by omega) k;have h2:1*10 ^ k≤m*10 ^ k:=Nat.mul_le_mul_right _ (by omega);have h3:2 ^ k < 2 ^ e:=by omega
 exact(Nat.pow_lt_pow_iff_right (by omega)).1 h3
end Go.Hb
end

section
namespace Go.Proofs.hq
open Go Go.RowKit Go.Hb
variable {ok:Ok}
set_option maxRecDepth 10000
attribute [local irreducible] LX LG EL STG SOP SGO SGD SAL SRD SEF SEG SLK SCK ES
def u32V (n:Nat):Value:=.int .u32 (n:Int)
def i64V (n:Nat):Value:=.int .i64 (n:Int)
theorem znn (hk:∀args H,ok.K 109 args H=none) (hm:ok.testBit 109=true) {L:List Nat}{a:Option Addr}{c:Nat}{H:Heap}(r:RdS H (L.map i64V) a c) :
  EvF Tryz.prog ok 109 [.slice a L.length c] H fun v H'=>∃m,v=.slice a m c∧m≤L.length∧(∀x∈L.drop m,x=0)∧(m≠0→L[m - 1]?≠some 0)∧H'=H:=by
 have hL:L.length≤c:=by simpa using r.len
 have hc:c≤9223372036854775807:=r.cap;refine EvF.enter (hk _ _) Tryz.func109 hm rfl ?_
 repeat' (first|refine EvC.seq ?_|refine EvC.block ?_|(refine EvC.reg ?_;simp (config := { maxSteps := 2000000 }) (disch:=first|omega|rfl) only[sB,initTm,Za,reduceCtorEq,ln66]))
 refine EvC.loop (fun k st=>∃tm n,st=⟨tm,[],H⟩∧k=n∧n≤L.length∧(∀x∈L.drop n,x=0)∧tm.get 0=some (.slice a L.length c)∧tm.get 3=some (.int .i64 (n:Nat))) ?_ L.length _ ?_
 ·rintro k st ⟨tm,n,rfl,rfl,hn,hz,g0,g3⟩;by_cases h0:k=0
  ·subst h0
   repeat' (first|refine EvC.seq ?_|(refine EvC.exit ?_;try simp only[sB])|(refine EvC.ret ?_)|(refine EvC.reg ?_;simp (config := { maxSteps := 2000000 }) (disch:=first|omega|rfl) only[sB,Za,reduceCtorEq,g0,g3,decide_eq_false,Zc,ziw sl66])|(refine EvC.condF ?_ ?_;simp (config := { maxSteps := 2000000 }) (disch:=first|omega|rfl) only[sB,Za];refine z02 ?_))
   exact z06 rfl (by simp only[sG,Za]) ⟨0,rfl,by omega,hz,by simp,rfl⟩
  ·have hx:L[k - 1]?=some L[k - 1]:=Zd (by omega);generalize L[k - 1]=x at hx;obtain⟨b,o,rfl,hl⟩:=r.get (k - 1) (i64V x) (by simp [hx]);have e1:((k:Int) - 1)=((k - 1:Nat):Int):=by omega
   unfold i64V at hl;by_cases hx0:x=0
   ·repeat' (first|refine EvC.seq ?_|refine EvC.block ?_|(refine EvC.skip ?_;try simp only[z00])|(refine EvC.reg ?_;simp (config := { maxSteps := 2000000 }) (disch:=first|omega|rfl) only[sB,Za,reduceCtorEq,ia66,ld3,g0,g3,e1,hl,decide_eq_true,z0e,z19])|(refine EvC.condT ?_ ?_;simp (config := { maxSteps := 2000000 }) (disch:=first|omega|rfl) only[sB,Za];refine z02 ?_))
    refine⟨k - 1,by omega,_,k - 1,rfl,rfl,by omega,fun y hy=>?_,(by simp only[sG,reduceCtorEq,g0]),(by simp only[sG,Za])⟩;rw[List.drop_eq_getElem_cons (by omega)] at hy;rcases List.mem_cons.1 hy with h|h
    ·rw[h,←Option.some.inj ((Zd (by omega)).symm.trans hx)] at *;omega
    ·exact hz y (by rwa [show k - 1+1=k by omega] at h)
   ·repeat' (first|refine EvC.seq ?_|(refine EvC.exit ?_;try simp only[sB])|(refine EvC.ret ?_)|(refine EvC.reg ?_;simp (config := { maxSteps := 2000000 }) (disch:=first|omega|rfl) only[sB,Za,reduceCtorEq,ia66,ld3,g0,g3,e1,hl,decide_eq_true,z0e,z0r,ziw sl66])|(refine EvC.condF ?_ ?_;simp (config := { maxSteps := 2000000 }) (disch:=first|omega|rfl) only[sB,Za];refine z02 ?_))
    exact z06 rfl (by simp only[sG,Za]) ⟨k,rfl,hn,hz,fun _=>by rw[hx];simpa using hx0,rfl⟩
 ·exact⟨_,L.length,rfl,rfl,Ze _,by simp,(by simp only[sG,reduceCtorEq]),(by simp only[sG,Za,reduceCtorEq])⟩
end Go.Proofs.hq
end

section

end

section
namespace Go.Proofs.hq
open Go Go.RowKit Go.Hb
variable {ok:Ok}
set_option maxRecDepth 10000
attribute [local irreducible] LX LG EL STG SOP SGO SGD SAL SRD SEF SEG SLK SCK ES
theorem zk4 {B m:Nat}{L:List Nat}(hz:∀x∈L.drop m,x=0):valB B (L.take m)=valB B L:=zk2 hz
theorem zlx {L:List Nat}{neg:Bool}{a:Option Addr}{c:Nat}{H:Heap}(r:RdS H (L.map i64V) a c) (hw:H.wf) :
  EvF Tryz.prog okT 110 [.bool neg,.slice a L.length c] H fun v H'=>∃m,v=.agg ⟨[.bool (neg && decide (0 < m)),.slice a m c]⟩∧m≤L.length∧(∀x∈L.drop m,x=0)∧(m≠0→L[m - 1]?≠some 0)∧HX H H':=by
 refine EvF.enter rfl Tryz.func110 (by decide) rfl ?_
 repeat' (first|refine EvC.seq ?_|(refine EvC.reg ?_;simp (config := { maxSteps := 2000000 }) (disch:=first|omega|rfl) only[sB,initTm,dAlloc,Za,reduceCtorEq,zpp,zpo]))
 have hx:=(HX.refl hw).new (some (.row [.bool false,.slice none 0 0] 157));refine(znn (fun _ _=>rfl) (by decide) (r.keep hx hw)).mono ?_;rintro v H' ⟨m,rfl,hm,hz,hn0,rfl⟩;cases neg with
 |false =>
  repeat' (first|refine EvC.seq ?_|(refine EvC.ret ?_)|(refine EvC.reg ?_;simp (config := { maxSteps := 2000000 }) (disch:=first|omega|rfl) only[sB,Za,Zb,Value.cells,one,reduceCtorEq,Zh,layC,zo8,zll]))
  exact z0f rfl (by simp only[sB,Za,reduceCtorEq];rfl) (by simp only[sB,Zb,cutC,zlm];rfl) ⟨m,rfl,hm,hz,hn0,hx.put (Ze _) (Nat.lt_succ_self _) _⟩
 |true =>
  by_cases h0:0 < m
  ·repeat' (first|refine EvC.seq ?_|(refine EvC.ret ?_)|(refine EvC.reg ?_;simp (config := { maxSteps := 2000000 }) (disch:=first|omega|rfl) only[sB,Za,Zb,Value.cells,one,reduceCtorEq,Zh,layC,ln66,zo8,zll,decide_eq_true]))
   exact z0f rfl (by simp only[sB,Za,reduceCtorEq];rfl) (by simp only[sB,Zb,cutC,zlm];rfl) ⟨m,by first|rfl|simp [h0],hm,hz,hn0,hx.put (Ze _) (Nat.lt_succ_self _) _⟩
  ·repeat' (first|refine EvC.seq ?_|(refine EvC.ret ?_)|(refine EvC.reg ?_;simp (config := { maxSteps := 2000000 }) (disch:=first|omega|rfl) only[sB,Za,Zb,Value.cells,one,reduceCtorEq,Zh,layC,ln66,zo8,zll,decide_eq_false]))
   exact z0f rfl (by simp only[sB,Za,reduceCtorEq];rfl) (by simp only[sB,Zb,cutC,zlm];rfl) ⟨m,by first|rfl|simp [h0],hm,hz,hn0,hx.put (Ze _) (Nat.lt_succ_self _) _⟩
def bl (s:ByteArray):List Nat:=s.data.toList.map UInt8.toNat
def negS (l:List Nat):Bool:=l.head? == some 45
def bodyS (l:List Nat):List Nat:=if negS l then l.tail else l
def parseD (l:List Nat):Option Nat:=if bodyS l=[] then none else if (bodyS l).any (fun x=>10≤digV x) then none else numD ((bodyS l).map digV) 0
def limbsOK (L:List Nat):Prop:=(∀y∈L,y < 4294967296)∧L.getLast?≠some 0
def ParseT (H':Heap) (V:Nat→Value) (B:Nat) (l:List Nat) (v:Value):Prop :=
 (parseD l=none∧∃e:Int,e≠0∧v=.tuple ⟨[.agg ⟨[.bool false,.slice none 0 0]⟩,.int .i64 e]⟩) ∨
 ∃n L a c,parseD l=some n∧v=.tuple ⟨[.agg ⟨[.bool (negS l && decide (0 < L.length)),.slice a L.length c]⟩,.int .i64 0]⟩∧RdS H' (L.map V) a c∧(∀y∈L,y < B)∧valB B L=n∧L.getLast?≠some 0∧L.length≤4096
def u8V (n:Nat):Value:=.int .u8 (n:Int)
theorem zoj {s:ByteArray}(h:∀i:Fin 10,byteAt s i=48+i) {y:Nat}(hy:y < 10):byteAt s y=48+y:=h ⟨y,hy⟩
theorem zga {B:Nat}(hB:0 < B) {M:List Nat}(h0:M≠[]) (h:M.getLast?≠some 0):valB B M≠0:=by
 rcases List.eq_nil_or_concat M with rfl|⟨l,x,rfl⟩
 ·exact absurd rfl h0
 ·rw[List.concat_eq_append] at *;have hx:x≠0:=by simpa using h
  rw[z34,zg9];have:0 < B ^ l.length*x:=Nat.mul_pos (Nat.pow_pos hB) (by omega);omega
def bitsOK (L:List Nat):Prop:=(∀y∈L,y < 2)∧L.getLast?≠some 0
theorem zgb {H H2:Heap}{vs:List Value}{a:Option Addr}{c:Nat}(h:RdS H vs a c) (hg:vs≠[]→∀b o s,a=some ⟨b,o,s⟩→H2.get b=H.get b):RdS H2 vs a c :=
 ⟨h.len,h.cap,fun i v hv=>by
  obtain⟨b,o,ha,hl⟩:=h.get i v hv;refine⟨b,o,ha,?_⟩;have:=hg (fun h0=>by rw[h0] at hv;simp at hv) b o none ha;rw[←hl];unfold Heap.load Heap.cells;rw[this]⟩
theorem zpy {H:Heap}{vs:List Value}{a:Option Addr}{c:Nat}(h:RdS H vs a c) (hw:H.wf) (h0:vs≠[]) {ad:Addr}(ha:a=some ad):ad.block < H.next:=by
 obtain⟨v,r,rfl⟩:=List.exists_cons_of_ne_nil h0;obtain⟨b',o',ha',hl⟩:=h.get 0 v rfl;rw[ha] at ha';cases ha';unfold Heap.load Heap.cells at hl;cases hg:H.get b' with
 |none=>simp only[hg] at hl;cases hl
 |some B=>exact hw b' B hg
theorem zho:∀l:List Nat,(∀y∈l,y < 256)→l.map (UInt8.toNat ∘ UInt8.ofNat)=l:=by
 intro l hl
 conv=>rhs;rw[←List.map_id l]
 apply List.map_congr_left;intro y hy;have:=hl y hy;simp [UInt8.toNat_ofNat];omega
set_option maxHeartbeats 4000000 in
theorem zly {L:List Nat}{neg:Bool}{a:Option Addr}{c n:Nat}{H:Heap}(hw:H.wf) (r:RdS H (L.map i64V) a c) (hL:∀y∈L,y < 2) (hlen:L.length≤4096) (hlast:L.getLast?≠some 0) (hval:valB 2 L=n) (hn:n < big) :
  EvF Tryz.prog okT 100 [.agg ⟨[.bool neg,.slice a L.length c]⟩,.int .i64 10] H fun v H'=>(∃t:ByteArray,v=.string t∧bl t=textD neg n)∧HX H H':=by
 refine EvF.enter rfl Tryz.func100 (by decide) rfl ?_;(repeat refine EvC.seq ?_);refine EvC.reg ?_;simp (config := { maxSteps := 2000000 }) (disch:=first|omega|rfl) only[sB,initTm,dBox,Value.cells,one,reduceCtorEq];have hx0:=(HX.refl hw).new (some (.row [.bool neg,.slice a L.length c] 157));obtain⟨H1,hH1⟩:∃H1,H1=H.new (some (.row [.bool neg,.slice a L.length c] 157)):=⟨_,rfl⟩
 have hlb:H1.load ⟨H.next,0,none⟩ 1=some [.bool neg]:=by rw[hH1];exact z8p
 have hls:H1.load ⟨H.next,1,none⟩ 1=some [.slice a L.length c]:=by rw[hH1];exact z8p
 rw[←hH1] at hx0 ⊢;have hw1:=hx0.wf;by_cases h0:L.length=0
 ·have hM:L=[]:=List.length_eq_zero_iff.1 h0;subst hM
  repeat' (first|refine EvC.seq ?_|(refine EvC.ret ?_;try simp only[z05,z03])|(refine EvC.reg ?_;simp (config := { maxSteps := 2000000 }) (disch:=first|omega|rfl) only[sB,Za,reduceCtorEq,zjg,ld66,ln66,hls,z19])|(refine EvC.condT ?_ ?_;simp (config := { maxSteps := 2000000 }) (disch:=first|omega|rfl) only[sB,Za,reduceCtorEq];refine z02 ?_))
  refine z06 rfl (by simp only[sB,Za,reduceCtorEq];rfl) ⟨⟨_,rfl,?_⟩,hx0⟩;rw[←hval];rfl
 have hnz:=zga (B:=2) (by omega) (fun h=>h0 (by rw[h];rfl)) hlast;rw[hval] at hnz;have hLc:L.length≤c:=by simpa using r.len
 repeat' (first|refine EvC.seq ?_|refine EvC.block ?_|(refine EvC.skip ?_;try simp only[z00])|(refine EvC.reg ?_;simp (config := { maxSteps := 2000000 }) (disch:=first|omega|rfl) only[sB,Za,reduceCtorEq,zjg,ld66,ln66,hls,z0r])|(refine EvC.condF ?_ ?_;simp (config := { maxSteps := 2000000 }) (disch:=first|omega|rfl) only[sB,Za,reduceCtorEq];refine z02 ?_))
 have hr1:=r.keep hx0 hw;refine EvC.loop (fun k st=>∃(tm:Tr Value) (M od:List Nat) (a:Option Addr) (c:Nat) (v5:Value) (Hc:Heap),st=⟨tm,[],Hc⟩∧k=valB 2 M∧(∀y∈M,y < 2)∧M.length≤4096∧M.getLast?≠some 0∧decR n=od++decR (valB 2 M)∧(M≠[]→valB 2 M*10 ^ od.length≤n)∧od.length≤4096 ∧
   (∀y∈od,y < 10)∧HX H1 Hc∧RdS Hc (M.map i64V) a c∧(M≠[]→∀b o s,a=some ⟨b,o,s⟩→b < H1.next∨∃cs,Hc.get b=some (.row cs 3))∧RepO Hc 5 1 H1.next (od.map fun x=>[u8V (48+x)]) v5∧tm.get 1=some (.int .i64 10)∧tm.get 2=some (.pointer (some ⟨H.next,0,none⟩)) ∧
   tm.get 5=some v5∧tm.get 6=some (.slice a M.length c)) ?_ (valB 2 L) _ ?_
 ·clear hr1;rintro k st ⟨tm,M,od,a,c,v5,Hc,rfl,rfl,hMb,hMl,hMn,hdec,hle,hol,hod,hxc,hrM,hra,hr7,g1,g2,g7,g6⟩;have hMc:M.length≤c:=by simpa using hrM.len
  by_cases hM0:M=[]
  ·subst hM0;have hlbc:=hxc.load hw1 hlb;have hdec':decR n=od:=by rw[hdec];simp [valB,zd7]
   repeat' (first|refine EvC.seq ?_|(refine EvC.exit ?_;try simp only[sB])|(refine EvC.reg ?_;simp (config := { maxSteps := 2000000 }) (disch:=first|omega|rfl) only[sB,Za,ln66,zo7,ld4,g2,g6,hlbc,decide_eq_false])|(refine EvC.condF ?_ ?_;simp (config := { maxSteps := 2000000 }) (disch:=first|omega|rfl) only[sB,Za];refine z02 ?_))
   refine EvC.join (fun st=>∃tm o v Hd,st=⟨tm,[],Hd⟩∧o=(od.map fun x=>48+x)++(if neg then [45] else [])∧HX H1 Hd∧RepO Hd 5 1 H1.next (o.map fun x=>[u8V x]) v∧tm.get 5=some v) ?_ ?_
   ·cases neg with
    |true =>
     obtain⟨H5,v5,hap,hr7b,-,hx5,-⟩:=hr7.push zo6 (y:=[u8V 45]) rfl rfl (by simp [most];omega) hxc.next;have h45:u8V 45=.int .u8 45:=rfl;rw[h45] at hap;refine EvC.condT (by simp only[sB,Za]) ?_
     repeat' (first|(refine EvC.reg ?_;simp (config := { maxSteps := 2000000 }) (disch:=first|omega|rfl) only[sB,Za,Value.cells,one,layC,z8x,g7,hap]))
     refine⟨_,_,_,_,rfl,rfl,hx5 _ hxc (Ze _),?_,(by simp only[sB,Za];rfl)⟩
     first|(rw[ZI,ZJ];exact hr7b)|(simp only[if_true,ZI,ZJ];exact hr7b)
    |false =>
     refine EvC.condF (by simp only[sB,Za]) ?_
     repeat' (first|(refine EvC.skip ?_;try simp only[sB,reduceCtorEq]))
     exact⟨_,_,_,_,rfl,rfl,hxc,by first|(rw[List.append_nil,ZJ];exact hr7)|(simp only[Zc,if_false,List.append_nil,ZJ];exact hr7),(by simp only[sG,Za,g7])⟩
   clear g1 g2 g6 g7 hr7 hxc hlbc tm;rintro st ⟨tm,o,v,Hd,rfl,ho',hxc,hr7,g7⟩;have hob:∀y∈o,y < 256:=by
    intro y hy;rw[ho'] at hy;rcases List.mem_append.1 hy with h|h
    ·obtain⟨x,hx,rfl⟩:=List.mem_map.1 h;have:=hod x hx;omega
    ·cases neg<;>simp at h
     omega
   have hon:0 < o.length:=by
    have:od≠[]:=by rw[←hdec',z7v hnz];simp
    rw[ho',Zu,Zv];have:=List.length_pos_iff.2 this;omega
   have hol2:o.length≤4097:=by
    rw[ho',Zu,Zv];cases neg<;>simp<;>omega
   have htx:textD neg n=o.reverse:=by
    unfold textD;rw[if_neg hnz,hdec',ho']
   obtain⟨b7,c7,ho7,rfl⟩:=hr7.own (by intro h;rw[List.map_eq_nil_iff] at h;rw[h] at hon;simp at hon);rw[Zv] at g7
   repeat' (first|refine EvC.seq ?_|refine EvC.block ?_|(refine EvC.reg ?_;simp (config := { maxSteps := 2000000 }) (disch:=first|omega|rfl) only[sB,Za,zqk,g7,z0e]))
   have hxw:=hxc.wf;refine EvC.loop (fun k st=>∃(tm:Tr Value) (v:Value) (He:Heap),st=⟨tm,[],He⟩∧k≤o.length∧HX Hd He∧RepO He 5 1 Hd.next ((o.drop k).reverse.map fun x=>[u8V x]) v∧tm.get 5=some (.slice (some ⟨b7,0,none⟩) o.length c7)∧tm.get 10=some v∧tm.get 11=some (.int .i64 ((k:Int) - 1))) ?_ o.length _ ?_
   ·clear g7 tm;rintro k st ⟨tm,v,He,rfl,hk,hxe,hre,g5,g10,g11⟩;have ho8:=ho7.keep hxe;cases k with
    |zero =>
     rw[List.drop_zero] at hre;obtain⟨b9,c9,ho9,rfl⟩:=hre.own (by intro h;rw[List.map_eq_nil_iff,List.reverse_eq_nil_iff] at h;rw[h] at hon;simp at hon);rw[Zv,List.length_reverse] at g10;have hrd:RdS He (o.reverse.map u8V) (some ⟨b9,0,none⟩) c9:=OwnS.rds (by rw[ZJ];exact ho9);obtain⟨b8,o8,h8,hload⟩:=hrd.all (by intro h;rw[List.map_eq_nil_iff,List.reverse_eq_nil_iff] at h;rw[h] at hon;simp at hon);cases h8;rw[Zv,List.length_reverse] at hload;obtain⟨t,hdb,ht⟩:=z6w (c:=c9) (l:=o.reverse) hload (by omega);have hcon:=z6v (P:=Tryz.prog) (src:=116) (dst:=9) (e:=5) (by kernel_rfl) (by kernel_rfl) (by kernel_rfl) hdb
     repeat' (first|refine EvC.seq ?_|(refine EvC.exit ?_;try simp only[sB])|(refine EvC.ret ?_)|(refine EvC.reg ?_;simp (config := { maxSteps := 2000000 }) (disch:=first|omega|rfl) only[sB,Za,g10,g11,hcon,decide_eq_false])|(refine EvC.condF ?_ ?_;simp (config := { maxSteps := 2000000 }) (disch:=first|omega|rfl) only[sB,Za];refine z02 ?_))
     refine z06 rfl (by simp only[sG,Za]) ⟨⟨t,rfl,?_⟩,(hx0.trans hxc).trans hxe⟩;unfold bl;rw[ht,ZJ,htx];exact zho _ fun y hy=>hob y (List.mem_reverse.1 hy)
    |succ j =>
     have e0:(((j+1:Nat):Int) - 1)=(j:Int):=by omega
     rw[e0] at g11;have hx:o[j]?=some o[j]:=Zd (by omega);have hdr:o.drop j=o[j] :: o.drop (j+1):=List.drop_eq_getElem_cons (by omega);generalize o[j]=x at hx hdr;have hld:=ho8.load (i:=j) (x:=[u8V x]) (by rw[Zr,hx];rfl);rw[Nat.mul_one] at hld;obtain⟨H5,v5,hap,hre5,-,hx5,-⟩:=hre.push zo6 (y:=[u8V x]) rfl rfl (by simp [most];omega) hxe.next;unfold u8V at hap hld
     repeat' (first|refine EvC.seq ?_|refine EvC.block ?_|(refine EvC.skip ?_;try simp only[z00])|(refine EvC.reg ?_;simp (config := { maxSteps := 2000000 }) (disch:=first|omega|rfl) only[sB,Za,Value.cells,one,layC,z8x,zql,ld5,g5,g10,g11,hld,hap,decide_eq_true,z0e])|(refine EvC.condT ?_ ?_;simp (config := { maxSteps := 2000000 }) (disch:=first|omega|rfl) only[sB,Za];refine z02 ?_))
     refine⟨j,by omega,_,_,_,rfl,by omega,hx5 _ hxe (Ze _),?_,(by simp only[sG,Za,g5]),(by simp only[sB,Za];rfl),(by simp only[sG,Za])⟩;have:(o.drop j).reverse.map (fun x=>[u8V x])=(o.drop (j+1)).reverse.map (fun x=>[u8V x])++[[u8V x]]:=by rw[hdr];simp
     rw[this];exact hre5
   ·exact⟨_,_,_,rfl,Ze _,HX.refl hxw,by rw[List.drop_length];exact RepO.empty,(by simp only[sG,Za,g7]),(by simp only[sG,Za]),(by simp only[sG,Za])⟩
  ·have hM1:0 < M.length:=List.length_pos_iff.2 hM0;have hvM:=zga (B:=2) (by omega) hM0 hMn;have hmost:M.length≤most:=by simp [most];omega
   have hmax:M.length≤maxLen:=ZA hMl (by simp [maxLen])
   repeat' (first|refine EvC.seq ?_|refine EvC.block ?_|(refine EvC.skip ?_;try simp only[z00])|(refine EvC.reg ?_;simp (config := { maxSteps := 2000000 }) (disch:=first|omega|rfl) only[sB,Za,ln66,g6,decide_eq_true,z0e,zo2 mk66 hmost,zlg])|(refine EvC.condT ?_ ?_;simp (config := { maxSteps := 2000000 }) (disch:=first|omega|rfl) only[sB,Za];refine z02 ?_))
   have hxq:=(HX.refl hxc.wf).new (some (.row (List.replicate M.length (Value.int .i64 0)) 3));have hoq:=OwnS.ones (H:=Hc.new (some (.row (List.replicate M.length (Value.int .i64 0)) 3))) (base:=Hc.next) (c:=M.length) z4g (Ze _) (Nat.lt_succ_self _) (by simp) hmax (by simp [one]);refine EvC.loop (fun k st=>∃(tm:Tr Value) (q:List Nat) (r:Nat) (Hd:Heap),st=⟨tm,[],Hd⟩∧k≤M.length∧q.length=M.length - k∧(∀y∈q,y < 2)∧r < 10∧valB 2 (M.take k)+2 ^ k*(10*valB 2 q+r)=valB 2 M∧HX Hc Hd ∧
    OwnS Hd 3 1 Hc.next ((List.replicate k 0++q).map fun x=>[i64V x]) Hc.next M.length∧tm.get 1=some (.int .i64 10)∧tm.get 2=some (.pointer (some ⟨H.next,0,none⟩)) ∧
    tm.get 5=some v5∧tm.get 6=some (.slice a M.length c)∧tm.get 7=some (.int .i64 (r:Nat))∧tm.get 8=some (.slice (some ⟨Hc.next,0,none⟩) M.length M.length)∧tm.get 9=some (.int .i64 ((k:Int) - 1))) ?_ M.length _ ?_
   ·clear g1 g2 g6 g7 tm;rintro k st ⟨tm,q,r,Hd,rfl,hk,hq,hqb,hr,hinv,hxd,hoq,g1,g2,g5,g6,g7,g8,g9⟩;cases k with
    |zero =>
     rw[List.replicate_zero,List.nil_append] at hoq;simp only[List.take_zero,valB,Nat.pow_zero,Nat.one_mul,Nat.zero_add] at hinv;have hqM:q.length=M.length:=by omega
     repeat' (first|refine EvC.seq ?_|(refine EvC.exit ?_;try simp only[sB,Za,reduceCtorEq])|(refine EvC.reg ?_;simp (config := { maxSteps := 2000000 }) (disch:=first|omega|rfl) only[sB,Za,zpo,g8,g9,decide_eq_false])|(refine EvC.condF ?_ ?_;simp (config := { maxSteps := 2000000 }) (disch:=first|omega|rfl) only[sB,Za];refine z02 ?_))
     have hrq:RdS Hd (q.map i64V) (some ⟨Hc.next,0,none⟩) M.length:=OwnS.rds (by rw[ZJ];exact hoq);have hct:=znn (ok:=okT) (fun _ _=>rfl) (by decide) hrq;rw[hqM] at hct;refine hct.mono ?_;rintro v H' ⟨m,rfl,hm,hz,hn0,rfl⟩;have hmost2:od.length+1≤most:=by
      have:=zae (e:=mostBits) hvM (hle hM0) (by rw[←zk3];exact hn);simp [mostBits] at this;simp [most];omega
     have hr7d:=hr7.keep hxd;have hx1d:=hxc.trans hxd;obtain⟨H5,v5',hap,hr7b,hn5,hx5,hk5⟩:=hr7d.push zo6 (y:=[u8V (48+r)]) rfl rfl (by simpa using hmost2) hx1d.next;unfold u8V at hap
     repeat' (first|(refine EvC.reg ?_;simp (config := { maxSteps := 2000000 }) (disch:=first|omega|rfl) only[sB,Za,g5,g7]))
     rw[zch us9 (show r < _ from by show _ < 36;omega),zoj (by decide) hr]
     repeat' (first|(refine z08 ?_;simp (config := { maxSteps := 2000000 }) (disch:=first|omega|rfl) only[sB,Za,Value.cells,one,layC,z8x,hap]))
     have hvq:valB 2 (q.take m)=valB 2 q:=zk4 hz;have hq10:valB 2 q=valB 2 M / 10:=by omega
     have hr10:r=valB 2 M % 10:=by omega
     have hod2:((od++[r]).map fun x=>[u8V (48+x)])=(od.map fun x=>[u8V (48+x)])++[[u8V (48+r)]]:=by simp
     have hml:(q.take m).length=m:=by rw[List.length_take,Nat.min_eq_left (by omega)]
     obtain⟨csq,hgq,_⟩:=hoq.row;have hgq5:H5.get Hc.next=some (.row csq 3):=by rw[hk5 _ hoq.hi (fun cs h=>by rw[hgq] at h;cases h)];exact hgq
     have hrq5:RdS H5 ((q.take m).map i64V) (some ⟨Hc.next,0,none⟩) M.length:=by
      have h1:=(hrq.take m)
      rw[←List.map_take] at h1;exact zgb h1 fun _ b o s hb=>by cases hb;rw[hgq5,hgq]
     refine⟨valB 2 (q.take m),by rw[hvq];omega,_,q.take m,od++[r],some ⟨Hc.next,0,none⟩,M.length,_,_,rfl,rfl,fun y hy=>hqb y (List.mem_of_mem_take hy),by rw[hml];omega,?_,?_,?_,?_,?_,hx5 _ hx1d (Ze _),hrq5,fun _ b o s hb=>.inr ⟨csq,by cases hb;exact hgq5⟩,by rw[hod2];exact hr7b,(by simp only[sG,Za,g1]),(by simp only[sG,Za,g2]),(by simp only[sG,Za]),by rw[hml];first|(simp only[sG,Za];rfl)|simp only[sG,Za]⟩
     ·rw[List.getLast?_eq_getElem?,hml];by_cases h0:m=0
      ·subst h0;simp
      ·rw[List.getElem?_take,if_pos (by omega)];exact hn0 h0
     ·rw[hdec,z7v hvM,hvq,hq10,←hr10];simp
     ·intro _;rw[hvq,Zu,List.length_singleton,Nat.pow_succ];have h1:=hle hM0;have h2:valB 2 q*(10 ^ od.length*10)=(valB 2 q*10)*10 ^ od.length:=by rw[Nat.mul_comm (10 ^ od.length) 10,Nat.mul_assoc]
      rw[h2];exact ZA (Nat.mul_le_mul_right _ (by omega)) h1
     ·have:=zae (e:=mostBits) hvM (hle hM0) (by rw[←zk3];exact hn);simp [mostBits] at this;simp;omega
     ·intro y hy;rcases List.mem_append.1 hy with h|h
      ·exact hod y h
      ·simp at h;omega
    |succ j =>
     have e0:(((j+1:Nat):Int) - 1)=(j:Int):=by omega
     rw[e0] at g9;have hx:M[j]?=some M[j]:=Zd (by omega);have hxb:M[j] < 2:=hMb _ (ZE _);have htk:M.take (j+1)=M.take j++[M[j]]:=by rw[List.take_add_one,hx];rfl
     generalize M[j]=x at hx hxb htk;rw[htk] at hinv;have hlj:(M.take j).length=j:=by rw[List.length_take];omega
     obtain⟨b,o,rfl,hld⟩:=(hrM.keep hxd hxc.wf).get j (i64V x) (by simp [hx]);unfold i64V at hld;have e1:(2*(r:Int)+(x:Int))=((r*2+x:Nat):Int):=by omega
     have hinv2:=zoi (B:=2) (x:=x) (r:=r) (low:=M.take j) (q:=q);rw[hlj,hinv] at hinv2;obtain⟨csq,hgq,hclq,_⟩:=hoq.row;have hlq:((List.replicate (j+1) 0++q).map fun x=>[i64V x]).length=M.length:=by simp;omega
     rw[hlq,Nat.mul_one] at hclq;have hk1:j+1≤csq.length:=by omega
     have hrep:List.replicate (j+1) 0++q=List.replicate j 0++(0 :: q):=by rw[List.replicate_succ'];simp
     by_cases hge:10≤r*2+x
     ·have e2:(((r*2+x:Nat):Int) - 10)=((r*2+x - 10:Nat):Int):=by omega
      repeat' (first|refine EvC.seq ?_|refine EvC.block ?_|(refine EvC.skip ?_;try simp only[z00])|(refine EvC.reg ?_;simp (config := { maxSteps := 2000000 }) (disch:=first|omega|rfl) only[sB,Za,one,ia66,ld3,st3,g1,g6,g7,g8,g9,hld,e1,e2,hgq,hk1,decide_eq_true,z0e])|(refine EvC.condT ?_ ?_;simp (config := { maxSteps := 2000000 }) (disch:=first|omega|rfl) only[sB,Za];refine z02 ?_))
      have hset:=hoq.set hgq (i:=j) (y:=[i64V 1]) (by rw[hlq];omega) rfl rfl;rw[Nat.mul_one] at hset;have hset2:((List.replicate (j+1) 0++q).map fun x=>[i64V x]).set j [i64V 1]=(List.replicate j 0++(1 :: q)).map fun x=>[i64V x]:=by
       rw[hrep,ZI,List.set_append_right _ _ (by simp),Zv,List.length_replicate,Nat.sub_self];simp
      rw[hset2] at hset;have h1:(r*2+x) / 10=1:=by omega
      have h2:(r*2+x) % 10=r*2+x - 10:=by omega
      rw[h1,h2] at hinv2;exact⟨j,by omega,_,1 :: q,r*2+x - 10,_,rfl,by omega,by simp;omega,by simpa using hqb,by omega,hinv2.symm,hxd.put hoq.lo hoq.hi _,hset,(by simp only[sG,Za,g1]),(by simp only[sG,Za,g2]),(by simp only[sG,Za,g5]),(by simp only[sG,Za,g6]),(by simp only[sG,Za]),(by simp only[sG,Za,g8]),(by simp only[sG,Za])⟩
     ·repeat' (first|refine EvC.seq ?_|refine EvC.block ?_|(refine EvC.skip ?_;try simp only[sA])|(refine EvC.reg ?_;simp (config := { maxSteps := 2000000 }) (disch:=first|omega|rfl) only[sB,Za,ia66,ld3,g1,g6,g7,g9,hld,e1,decide_eq_true,decide_eq_false,z0e])|(refine EvC.condT ?_ ?_;simp (config := { maxSteps := 2000000 }) (disch:=first|omega|rfl) only[sB,Za];refine z02 ?_)|(refine EvC.condF ?_ ?_;simp (config := { maxSteps := 2000000 }) (disch:=first|omega|rfl) only[sB,Za];refine z02 ?_))
      have h1:(r*2+x) / 10=0:=by omega
      have h2:(r*2+x) % 10=r*2+x:=by omega
      rw[h1,h2] at hinv2;exact⟨j,by omega,_,0 :: q,r*2+x,_,rfl,by omega,by simp;omega,by simpa using hqb,by omega,hinv2.symm,hxd,by rw[←hrep];exact hoq,(by simp only[sG,Za,g1]),(by simp only[sG,Za,g2]),(by simp only[sG,Za,g5]),(by simp only[sG,Za,g6]),(by simp only[sG,Za]),(by simp only[sG,Za,g8]),(by simp only[sG,Za])⟩
   ·refine⟨_,[],0,_,rfl,Ze _,by simp,by simp,by omega,by simp [valB],hxq,?_,(by simp only[sG,Za,g1]),(by simp only[sG,Za,g2]),(by simp only[sG,Za,g7]),(by simp only[sG,Za,g6]),(by simp only[sB,Za];rfl),(by simp only[sG,Za]),(by simp only[sG,Za])⟩;have:(List.replicate M.length 0++[]).map (fun x=>[i64V x])=(List.replicate M.length (Value.int .i64 0)).map fun v=>[v]:=by simp [i64V]
    rw[this];exact hoq
 ·exact⟨_,L,[],a,c,_,_,rfl,rfl,hL,hlen,hlast,by rw[hval];rfl,fun _=>by rw[hval];simp,by simp,by simp,HX.refl hw1,hr1,fun hne b o s ha=>.inl (by have h1:=zpy r hw (by simpa using hne) ha;have h2:=hx0.next;exact Zt h1 h2),RepO.empty,(by simp only[sG,Za,reduceCtorEq]),(by simp only[sG,Za,reduceCtorEq]),(by simp only[sG,Za,reduceCtorEq]),(by simp only[sG,Za,reduceCtorEq])⟩
end Go.Proofs.hq
end

section
namespace Go.Hb
open Go Go.RowKit
end Go.Hb
namespace Go.Proofs.hq
open Go Go.RowKit Go.Hb
variable {ok:Ok}
set_option maxRecDepth 10000
attribute [local irreducible] LX LG EL STG SOP SGO SGD SAL SRD SEF SEG SLK SCK ES
theorem zno (u:Nat):(Lib.decDigits u).map UInt8.toNat=if u=0 then [48] else ((decR u).map (48+·)).reverse:=by
 induction u using Nat.strongRecOn with
 |_ u ih =>
  rw[Lib.decDigits];by_cases h:u < 10
  ·rw[dif_pos h];by_cases h0:u=0
   ·subst h0;rfl
   ·rw[if_neg h0,z7v h0,show u / 10=0 by omega,zd7];have:u % 10=u:=by omega
    simp [UInt8.toNat_ofNat,this];omega
  ·have h1:u / 10≠0:=by omega
   rw[dif_neg h,ZI,ih (u / 10) (by omega),if_neg h1,if_neg (by omega),z7v (by omega:u≠0)];simp [UInt8.toNat_ofNat];omega
theorem zhp (n:Int):textD (decide (n < 0)) n.natAbs=(Lib.itoa n).map UInt8.toNat:=by
 unfold textD Lib.itoa;by_cases h:n < 0
 ·have hn0:n.natAbs≠0:=by omega
  rw[if_neg hn0,if_pos h,Zs,zno,if_neg hn0];simp [h]
 ·have e:n.toNat=n.natAbs:=by omega
  rw[if_neg h,zno,e];by_cases h0:n.natAbs=0
  ·rw[if_pos h0,if_pos h0]
  ·rw[if_neg h0,if_neg h0];simp [h]
def OutI (H:Heap) (l:List Nat) (v:Value):Prop:=(l=[]∧v=.slice none 0 0)∨∃b,v=.slice (some ⟨b,0,none⟩) l.length l.length∧H.get b=some (.row (l.map i64V) 3)
theorem zlz:apOk Tryz.prog 66 3 1:=z6u (by kernel_rfl)
theorem zm0 (l:List Nat):(l.map i64V).all one=true:=by
 induction l with
 |nil=>rfl
 |cons x l ih=>rw[Zs,List.all_cons,ih];rfl
theorem OutI.hx {H H':Heap}{l:List Nat}{v:Value}(h:OutI H l v) (hx:HX H H') (hw:H.wf):OutI H' l v:=by
 rcases h with h|⟨b,e,hg⟩
 ·exact .inl h
 ·exact .inr ⟨b,e,hx.get hw hg⟩
theorem OutI.push {A H:Heap}{l:List Nat}{m:Nat}{v:Value}{ad:Addr}(h:OutI H l v) (hl:∀b n c,v=.slice (some ⟨b,0,none⟩) n c→A.next≤b) (hw:H.wf) (hx:HX A H) (hg2:H.load ad (1*1)=some [i64V m]) (hm:l.length+1≤most) :
  ∃v' H',dAp Tryz.prog #[66,66] v (.slice (some ad) 1 1) H=some (.val v' H')∧OutI H' (l++[m]) v'∧HX A H'∧(∀b n c,v'=.slice (some ⟨b,0,none⟩) n c→A.next≤b):=by
 rcases h with ⟨rfl,rfl⟩|⟨b,rfl,hg⟩
 ·exact⟨_,_,z8r zlz (by omega) (by simp [most]) hg2 rfl,.inr ⟨H.next,by simp,by rw[get_new,if_pos rfl];rfl⟩,hx.new _,fun b n c e=>by cases e;exact hx.next⟩
 ·have htk:(l.map i64V).take (l.length*1)=l.map i64V:=Zx (by simp);refine⟨_,_,z5u zlz (by omega) hm hg2 rfl hg (by simp) (by rw[htk];exact zm0 l),.inr ⟨H.next,by simp,?_⟩,(hx.pt (hl _ _ _ rfl) hg none).new _,fun b' n c e=>by cases e;exact hx.next⟩;rw[get_new,z1b,if_pos rfl,htk];simp
theorem OutI.rd {H:Heap}{l:List Nat}{v:Value}(h:OutI H l v) (hm:l.length≤maxLen):∃a,v=.slice a l.length l.length∧RdS H (l.map i64V) a l.length:=by
 rcases h with ⟨rfl,rfl⟩|⟨b,rfl,hg⟩
 ·exact⟨none,rfl,Ze _,Zz _,fun i v hv=>by simp at hv⟩
 ·exact⟨_,rfl,by simp,hm,fun i v hv=>⟨b,0,rfl,by rw[Nat.zero_add];exact z0i hg hv⟩⟩
theorem zd8 {H:Heap}{b:Nat}{v:Value}{T:TypeId}(hg:H.get b=some (.row [v] T)):H.load ⟨b,0,none⟩ (1*1)=some [v]:=by
 simp only[Heap.load,Heap.cells,hg];rfl
theorem z4i:∀l:List Nat,(∀x∈l,x=0)→valB 2 l=0
 |[],_=>rfl
 |x :: l,h=>by rw[valB,z4i l fun y hy=>h y (Zl _ hy),h x (by simp)]
set_option maxHeartbeats 4000000 in
theorem zm1 {H:Heap}{n:Int}(hn:i64 n) (hw:H.wf):EvF Tryz.prog okT 101 [.int .i64 n] H fun v H'=>HX H H'∧∃L a c,v=.agg ⟨[.bool (decide (n < 0)),.slice a L.length c]⟩∧RdS H' (L.map i64V) a c∧(∀y∈L,y < 2)∧L.length≤64∧L.getLast?≠some 0∧valB 2 L=n.natAbs:=by
 unfold i64 at hn;refine EvF.enter rfl Tryz.func101 (by decide) rfl ?_;(repeat refine EvC.seq ?_);refine EvC.reg ?_;simp (config := { maxSteps := 2000000 }) (disch:=first|omega|rfl) only[sA,initTm,dAlloc,zpp];obtain⟨H1,e1,hx1,g1,n1,w1⟩:=new1 hw (.row [.bool false,.slice none 0 0] 157);simp only[e1];clear e1
 repeat' (first|refine EvC.seq ?_|refine EvC.block ?_|(refine EvC.reg ?_;simp (config := { maxSteps := 2000000 }) (disch:=first|omega|rfl) only[sB,Za,reduceCtorEq]))
 refine EvC.loop (fun k st=>∃tm G m L u,st=⟨tm,[],G⟩∧k=m.natAbs∧tm.get 0=some (.int .i64 m)∧tm.get 2=some (.pointer (some ⟨H.next,0,none⟩))∧tm.get 3=some (.bool (decide (n < 0)))∧tm.get 4=some u∧HX H1 G∧OutI G L u∧(∀b n c,u=.slice (some ⟨b,0,none⟩) n c→H1.next≤b) ∧
  (∀y∈L,y < 2)∧n.natAbs=valB 2 L+2 ^ L.length*m.natAbs∧L.length≤64) ?_ n.natAbs _ ?_
 ·rintro k st ⟨tm,G,m,L,u,rfl,rfl,t0,t2,t3,t4,hxG,hO,hlow,hL2,hval,hlen⟩;have wG:=hxG.wf;by_cases hm0:m=0
  ·subst hm0;obtain⟨a,rfl,hr⟩:=hO.rd (by unfold maxLen;omega)
   repeat' (first|refine EvC.seq ?_|(refine EvC.exit ?_;try simp only[sB])|(refine EvC.reg ?_;simp (config := { maxSteps := 2000000 }) (disch:=first|omega|rfl) only[sB,Za,zqm,t0,t3,t4,z17 rfl])|(refine EvC.condF ?_ ?_;simp (config := { maxSteps := 2000000 }) (disch:=first|omega|rfl) only[sB,Za];refine z02 ?_))
   refine(zlx hr wG).mono ?_;rintro v G2 ⟨m',rfl,hm',hz,hl0,hx2⟩;have g2:=(hxG.trans hx2).get w1 g1;have hxA:=(hx1.trans (hxG.trans hx2))
   have hv0:valB 2 (L.take m')=n.natAbs:=by
    have:=z34 2 (L.take m') (L.drop m');rw[List.take_append_drop,z4i _ hz] at this;simp only[Int.natAbs_zero,Nat.mul_zero,Nat.add_zero] at hval this;omega
   have hneg:(decide (n < 0) && decide (0 < m'))=decide (n < 0):=by
    by_cases h:n < 0
    ·have h1:0 < m':=by
      by_cases h2:0 < m'
      ·exact h2
      ·have:m'=0:=by omega
       rw[this,List.take_zero,valB] at hv0;omega
     simp [h,h1]
    ·simp [h]
   rw[hneg]
   repeat' (first|(refine EvC.ret ?_)|(refine z08 ?_;simp (config := { maxSteps := 2000000 }) (disch:=first|omega|rfl) only[sB,Zb,one,zll,t2,g2]))
   have hlt:(L.take m').length=m':=by rw[List.length_take];omega
   refine z0f rfl (by simp only[sB,Za,t2];rfl) (by simp only[if_true,z0b,zlm];rfl) ⟨hxA.pt (Ze _) g2 _,L.take m',a,L.length,by rw[hlt];rfl,?_,fun y hy=>hL2 y (List.mem_of_mem_take hy),by rw[hlt];omega,?_,hv0⟩
   ·have h3:=(hr.keep hx2 wG).take m';rw[←List.map_take] at h3;have hne:∀b o s,a=some ⟨b,o,s⟩→L.length≠0→b≠H.next:=fun b o s e hl=>by
     rcases hO with ⟨h4,-⟩|⟨b',h4,-⟩
     ·rw[h4] at hl;exact absurd rfl hl
     ·have h5:=hlow b' L.length L.length h4;cases h4;cases e;have:=hx1.next;omega
    refine zgb h3 fun hnn b o s e=>?_
    rw[get_put,if_neg];refine hne b o s e fun h0=>hnn ?_
    rw[List.length_eq_zero_iff.1 h0];simp
   ·by_cases h0:m'=0
    ·rw[h0,List.take_zero];simp
    ·have:=hl0 h0;rw[List.getLast?_eq_getElem?,hlt,List.getElem?_take_of_lt (by omega)];exact this
  ·have hma:0 < m.natAbs:=by omega
   have hlen63:L.length≤63:=by
    by_cases h:L.length≤63
    ·exact h
    ·have h1:2 ^ 64≤2 ^ L.length:=Nat.pow_le_pow_right (by omega) (by omega);have h2:2 ^ L.length≤2 ^ L.length*m.natAbs:=Nat.le_mul_of_pos_right _ hma;have h3:(2:Nat) ^ 64=18446744073709551616:=by decide
     omega
   have hmb:m.natAbs≤n.natAbs:=by
    have h2:m.natAbs≤2 ^ L.length*m.natAbs:=Nat.le_mul_of_pos_left _ (Nat.pos_of_ne_zero (by simp));omega
   have hq:(m.tdiv 2).natAbs=m.natAbs / 2:=Int.natAbs_tdiv m 2;have hwq:IntKind.i64.wrap (m.tdiv 2)=m.tdiv 2:=z0e (by omega) (by omega);have hr:(m.tmod 2).natAbs=m.natAbs % 2:=Int.natAbs_tmod m 2;obtain⟨G1,e1,hxg1,gg1,ng1,wg1⟩:=new1 wG (.row [.int .i64 ((m.natAbs % 2:Nat):Int)] 3);have hl2:G1.load ⟨G.next,0,none⟩ (1*1)=some [i64V (m.natAbs % 2)]:=zd8 gg1;obtain⟨u',G2,hap,hO2,hx2,hlow2⟩:=(hO.hx hxg1 wG).push (A:=H1) hlow wg1 (hxG.trans hxg1) hl2 (by unfold most;omega);have hval2:n.natAbs=valB 2 (L++[m.natAbs % 2])+2 ^ (L++[m.natAbs % 2]).length*(m.tdiv 2).natAbs:=by
    rw[z34,hq,Zu,List.length_singleton,Nat.pow_succ,valB,valB];have:m.natAbs=m.natAbs % 2+2*(m.natAbs / 2):=by omega
    rw[hval]
    conv=>lhs;rw[this]
    rw[Nat.mul_add,Nat.mul_zero,Nat.add_zero,Nat.mul_assoc];omega
   have hfin:∀y∈L++[m.natAbs % 2],y < 2:=fun y hy=>by
    rcases List.mem_append.1 hy with h|h
    ·exact hL2 y h
    ·rw[List.mem_singleton.1 h];omega
   by_cases hs:m.tmod 2 < 0
   ·have hb:IntKind.i64.wrap (0 - m.tmod 2)=((m.natAbs % 2:Nat):Int):=by rw[z0e (by omega) (by omega)];omega
    repeat' (first|refine EvC.seq ?_|refine EvC.block ?_|(refine EvC.skip ?_;try simp only[z00])|(refine EvC.reg ?_;simp (config := { maxSteps := 2000000 }) (disch:=first|omega|rfl) only[sB,Za,Value.cells,one,reduceCtorEq,layC,zjd,t0,t4,z3i hm0,bRem,decide_eq_true hs,zqe,hb,e1,hap,bQuo,hwq])|(refine EvC.condT ?_ ?_;simp (config := { maxSteps := 2000000 }) (disch:=first|omega|rfl) only[sB,Za];refine z02 ?_))
    exact⟨_,by omega,_,_,m.tdiv 2,_,u',rfl,rfl,(by simp only[sG,reduceCtorEq]),(by simp only[sG,Za,reduceCtorEq,t2]),(by simp only[sG,Za,reduceCtorEq,t3]),(by simp only[sG,Za,reduceCtorEq]),hx2,hO2,hlow2,hfin,hval2,by simp;omega⟩
   ·have hb:m.tmod 2=((m.natAbs % 2:Nat):Int):=by omega
    have hs2:decide (((m.natAbs % 2:Nat):Int) < 0)=false:=decide_eq_false (by omega)
    repeat' (first|refine EvC.seq ?_|refine EvC.block ?_|(refine EvC.skip ?_;try simp only[z00])|(refine EvC.reg ?_;simp (config := { maxSteps := 2000000 }) (disch:=first|omega|rfl) only[sB,Za,Value.cells,one,reduceCtorEq,layC,zjd,t0,t4,z3i hm0,bRem,hs2,hb,e1,hap,bQuo,hwq])|(refine EvC.condT ?_ ?_;simp (config := { maxSteps := 2000000 }) (disch:=first|omega|rfl) only[sB,Za];refine z02 ?_)|(refine EvC.condF ?_ ?_;simp (config := { maxSteps := 2000000 }) (disch:=first|omega|rfl) only[sB,Za];refine z02 ?_))
    exact⟨_,by omega,_,_,m.tdiv 2,_,u',rfl,rfl,(by simp only[sG,reduceCtorEq]),(by simp only[sG,Za,reduceCtorEq,t2]),(by simp only[sG,Za,reduceCtorEq,t3]),(by simp only[sG,Za,reduceCtorEq]),hx2,hO2,hlow2,hfin,hval2,by simp;omega⟩
 ·exact⟨_,_,n,[],_,rfl,rfl,(by simp only[sG,reduceCtorEq]),(by simp only[sG,Za,reduceCtorEq]),(by simp only[sG,Za,reduceCtorEq]),(by simp only[sG,Za,reduceCtorEq]),HX.refl w1,.inl ⟨rfl,rfl⟩,(fun b n c e=>by cases e),by simp,by simp [valB],by simp⟩
end Go.Proofs.hq
end

section
namespace Go.Proofs.hq
open Go Go.RowKit Go.Hb
variable {ok:Ok}
set_option maxRecDepth 10000
attribute [local irreducible] LX LG EL STG SOP SGO SGD SAL SRD SEF SEG SLK SCK ES
theorem zaf:∀{a b:List UInt8},a.map UInt8.toNat=b.map UInt8.toNat→a=b
 |[],[],_=>rfl
 |x :: a,y :: b,h=>by
  simp only[Zs,List.cons.injEq] at h;rw[UInt8.toNat_inj.1 h.1,zaf h.2]
 |[],_ :: _,h=>by simp at h
 |_ :: _,[],h=>by simp at h
theorem z2h {H:Heap}{s:ByteArray}(hw:H.wf):EvF Tryz.prog okT 72 [.string s] H fun v H'=>v=.agg ⟨six (atomT s) none 0⟩∧HX H H':=by
 refine EvF.enter rfl Tryz.func72 (by decide) rfl ?_;(repeat refine EvC.seq ?_);refine EvC.reg ?_;simp (config := { maxSteps := 2000000 }) (disch:=first|omega|rfl) only[sA,initTm,dAlloc,zr88];obtain⟨H1,e1,hx1,g1,n1,w1⟩:=new1 hw (.row zero6 88);simp only[e1]
 repeat' (first|refine EvC.seq ?_|(refine EvC.ret ?_)|(refine EvC.reg ?_;simp (config := { maxSteps := 2000000 }) (disch:=first|omega|rfl) only[sB,Za,Zb,Value.cells,one,reduceCtorEq,Zh,layC,bd88,st88,g1]))
 exact z0f rfl (by simp only[sB,Za,reduceCtorEq];rfl) (by simp only[if_true,z0b,ld88];rfl) ⟨rfl,hx1.pt (Ze _) g1 _⟩
theorem zok {H:Heap}{n:Int}(hw:H.wf):EvF Tryz.prog okT 99 [.string (itoaB n)] H fun v H'=>v=.agg ⟨six (intT n) none 0⟩∧HX H H':=by
 refine EvF.enter rfl Tryz.func99 (by decide) rfl ?_;(repeat refine EvC.seq ?_);refine EvC.reg ?_;simp (config := { maxSteps := 2000000 }) (disch:=first|omega|rfl) only[sA,initTm,dAlloc,zr88];obtain⟨H1,e1,hx1,g1,n1,w1⟩:=new1 hw (.row zero6 88);simp only[e1]
 repeat' (first|refine EvC.seq ?_|(refine EvC.ret ?_)|(refine EvC.reg ?_;simp (config := { maxSteps := 2000000 }) (disch:=first|omega|rfl) only[sB,Za,Zb,Value.cells,one,reduceCtorEq,Zh,layC,bd88,st88,g1]))
 exact z0f rfl (by simp only[sB,Za,reduceCtorEq];rfl) (by simp only[if_true,z0b,ld88];rfl) ⟨rfl,hx1.pt (Ze _) g1 _⟩
theorem zol {n:Int}(hn:i64 n):n.natAbs < big:=by
 unfold i64 at hn;rw[zk3];have h1:(2:Nat) ^ 64≤2 ^ mostBits:=Nat.pow_le_pow_right (by omega) (by unfold mostBits;omega);have h2:(2:Nat) ^ 64=18446744073709551616:=by decide
 omega
theorem z99 {H:Heap}{n:Int}(hn:i64 n) (hw:H.wf):EvF Tryz.prog okT 84 [.int .i64 n] H fun v H'=>v=.agg ⟨six (intT n) none 0⟩∧HX H H':=by
 refine EvF.enter rfl Tryz.func84 (by decide) rfl ?_;(repeat refine EvC.seq ?_);refine EvC.reg ?_;simp (config := { maxSteps := 2000000 }) (disch:=first|omega|rfl) only[sA,initTm,dAlloc,zr88];obtain⟨H1,e1,hx1,g1,n1,w1⟩:=new1 hw (.row zero6 88);simp only[e1]
 repeat' (first|refine EvC.seq ?_|(refine EvC.reg ?_;simp (config := { maxSteps := 2000000 }) (disch:=first|omega|rfl) only[sB,Za,reduceCtorEq,zqi,zqj,cl99]))
 refine(zm1 hn w1).mono ?_;rintro v H2 ⟨hx2,L,a,c,rfl,hr,hL,hlen,hlast,hval⟩
 skip
 refine(zly hx2.wf hr hL (by omega) hlast hval (zol hn)).mono ?_;rintro v H3 ⟨⟨t,rfl,ht⟩,hx3⟩;have hts:t=itoaB n:=by
  rw[zhp] at ht;have h1:t.data.toList=Lib.itoa n:=zaf ht;cases t with
  |mk d=>cases d with
   |mk l=>simp only at h1;rw[h1];rfl
 subst hts
 skip
 refine(zok hx3.wf).mono ?_;rintro v H4 ⟨rfl,hx4⟩;have hxA:=(hx2.trans hx3).trans hx4;have g4:=hxA.get w1 g1
 repeat' (first|(refine EvC.ret ?_)|(refine z08 ?_;simp (config := { maxSteps := 2000000 }) (disch:=first|omega|rfl) only[sB,Zb,one,st88,g4]))
 exact z0f rfl (by simp only[sB,Za,reduceCtorEq];rfl) (by simp only[if_true,z0b,ld88];rfl) ⟨rfl,(hx1.trans hxA).pt (Ze _) g4 _⟩
theorem zpz:apOk Tryz.prog 86 88 6:=z6u (by kernel_rfl)
theorem zbi {H:Heap}{s:ByteArray}{b m:Nat}{cells:List Value}(hw:H.wf) (hg:H.get b=some (.row cells 88)) (hc:cells.length=m*6) (h0:0 < m) (hm:m≤1000) (hone:cells.all one=true) :
  EvF Tryz.prog okT 71 [.string s,.slice (some ⟨b,0,none⟩) m m] H fun v H'=>HX H H'∧∃b2,v=.agg ⟨[.int .i64 5,.string s,.string e0,.int .u64 0,.int .i64 0,.slice (some ⟨b2,0,none⟩) m m]⟩∧H'.get b2=some (.row cells 88):=by
 refine EvF.enter rfl Tryz.func71 (by decide) rfl ?_;(repeat refine EvC.seq ?_);refine EvC.reg ?_;simp (config := { maxSteps := 2000000 }) (disch:=first|omega|rfl) only[sA,initTm,dAlloc,zr88];obtain⟨H1,e1,hx1,g1,n1,w1⟩:=new1 hw (.row zero6 88);simp only[e1];obtain⟨H2,e2,hx2,g2,n2,w2⟩:=new1 w1 (.row [] 88);have hgb:=hx2.get w1 (hx1.get hw hg);have hl:H2.load ⟨b,0,none⟩ (m*6)=some cells:=by
  have e:cells.take (m*6)=cells:=Zx (by omega);simp only[Heap.load,Heap.cells,hgb,List.drop_zero,e];simp [hc]
 have hap:=z5u (P:=Tryz.prog) (n:=0) (c:=0) (m:=m) (c':=m) (ad:=⟨b,0,none⟩) zpz h0 (by unfold most;omega) hl hone g2 (by simp) (by simp);simp only[Nat.zero_add,Nat.zero_mul,List.take_zero,List.nil_append] at hap;obtain⟨H3,e3⟩:∃H3,(H2.put H1.next none).new (some (.row cells 88))=H3:=⟨_,rfl⟩
 have hx3:HX H1 H3:=by rw[←e3];exact(hx2.pt (Ze _) g2 none).new _
 rw[e3] at hap;have g3:H3.get H2.next=some (.row cells 88):=by rw[←e3,get_new,z1b,if_pos rfl]
 have g31:=hx3.get w1 g1
 repeat' (first|refine EvC.seq ?_|(refine EvC.ret ?_)|(refine EvC.reg ?_;simp (config := { maxSteps := 2000000 }) (disch:=first|omega|rfl) only[sB,Za,Zb,Value.cells,one,reduceCtorEq,Zh,layC,zpm,bd88,st88,e2,hap,g31]))
 have hne:H2.next≠H.next:=by omega
 exact z0f rfl (by simp only[sB,Za,reduceCtorEq];rfl) (by simp only[if_true,z0b,ld88];rfl) ⟨(hx1.trans hx3).pt (Ze _) g31 _,_,rfl,by rw[get_put,if_neg hne];exact g3⟩
abbrev bad8:List Value:=[.int .i64 0,.bool false,.int .i64 0,.string Zg,.string Zg,.int .u64 0,.int .i64 0,.slice none 0 0]
def BadR (H:Heap):BadV→List Value→Prop
 |.none,cs=>cs=bad8
 |.ball t,cs=>∃a c,cs=.int .i64 0 :: .bool true :: six t a c∧RepK H 88 t (six t a c)
 |.code n,cs=>cs=.int .i64 n :: .bool false :: zero6
theorem BadR.keep {H H':Heap}{b:BadV}{cs:List Value}(h:BadR H b cs) (hx:HX H H') (hw:H.wf):BadR H' b cs:=by
 cases b with
 |none=>exact h
 |code n=>exact h
 |ball t=>obtain⟨a,c,e,r⟩:=h;exact⟨a,c,e,r.keep hx hw⟩
theorem BadR.eight {H:Heap}{b:BadV}{cs:List Value}(h:BadR H b cs):∃(c:Int) (o:Bool) (k:Int) (s u:ByteArray) (bt v:Int) (a:Option Addr) (n m:Nat),cs=[.int .i64 c,.bool o,.int .i64 k,.string s,.string u,.int .u64 bt,.int .i64 v,.slice a n m]:=by
 cases b with
 |none=>obtain rfl:cs=bad8:=h;exact⟨_,_,_,_,_,_,_,_,_,_,rfl⟩
 |code n=>obtain rfl:cs=_:=h;exact⟨_,_,_,_,_,_,_,_,_,_,rfl⟩
 |ball t=>obtain⟨a,c,rfl,r⟩:=h;exact⟨_,_,_,_,_,_,_,_,_,_,rfl⟩
theorem BadR.put {H:Heap}{b:BadV}{cs ds:List Value}{i:Nat}{T:TypeId}(h:BadR H b cs) (g:H.get i=some (.row ds T)) (hn:Zk T 88=false) (X:Option Blk):BadR (H.put i X) b cs:=by
 cases b with
 |none=>exact h
 |code n=>exact h
 |ball t=>obtain⟨a,c,e,r⟩:=h;exact⟨a,c,e,r.put g hn X⟩
theorem z4s {H:Heap}{n:Int}{b:Nat}(hn:i64 n) (g:H.get b=some (.row (six (intT n) none 0) 88)):RepK H 88 (handT n) (six (handT n) (some ⟨b,0,none⟩) 1) :=
 zji (by simp [handS,maxLen,Zf]) (zhk hn) g
theorem z1d {H:Heap}{n:Int}(hn:i64 n) (hw:H.wf):EvF Tryz.prog okT 76 [.int .i64 n] H fun v H'=>HX H H'∧∃b2,v=.agg ⟨six (handT n) (some ⟨b2,0,none⟩) 1⟩∧H'.get b2=some (.row (six (intT n) none 0) 88):=by
 refine EvF.enter rfl Tryz.func76 (by decide) rfl ?_;(repeat refine EvC.seq ?_);refine EvC.reg ?_;simp (config := { maxSteps := 2000000 }) (disch:=first|omega|rfl) only[sA,initTm,dAlloc,zr88];obtain⟨H1,e1,hx1,g1,n1,w1⟩:=new1 hw (.row zero6 88);simp only[e1]
 repeat' (first|refine EvC.seq ?_|(refine EvC.reg ?_;simp (config := { maxSteps := 2000000 }) (disch:=first|omega|rfl) only[sB,Za,Zb,Value.cells,reduceCtorEq,layC,cl84,z2y]))
 refine(z99 hn w1).mono ?_;rintro v H2 ⟨rfl,hx2⟩;obtain⟨H3,e3,hx3,g3,n3,w3⟩:=new1 hx2.wf (.row (six (intT n) none 0) 88)
 repeat' (first|(refine z08 ?_;simp (config := { maxSteps := 2000000 }) (disch:=first|omega|rfl) only[sB,Za,Zb,one,reduceCtorEq,cl71,e3]))
 refine(zbi (m:=1) w3 g3 rfl (by omega) (by omega) rfl).mono ?_;rintro v H4 ⟨hx4,b2,rfl,g4⟩;have hxA:=(hx2.trans hx3).trans hx4;have g41:=hxA.get w1 g1
 repeat' (first|(refine EvC.ret ?_)|(refine z08 ?_;simp (config := { maxSteps := 2000000 }) (disch:=first|omega|rfl) only[sB,Zb,one,st88,g41]))
 have hlt:=hx4.wf _ _ g4;have hb2:b2≠H.next:=fun e=>by
  rw[e,g41] at g4;have h1:=Option.some.inj g4;injection h1 with h2 h3;have h4:=congrArg (·[0]?) h2;have h5:(some (Value.int .i64 0):Option Value)=some (Value.int .i64 3):=h4;simp at h5
 have hx5:=(hx1.trans hxA).pt (Ze _) g41 (some (.row [.int .i64 5,.string ⟨#[36,115,116,114,101,97,109]⟩,.string e0,.int .u64 0,.int .i64 0,.slice (some ⟨b2,0,none⟩) 1 1] 88));refine z0f rfl (by simp only[sB,Za,reduceCtorEq];rfl) (by simp only[if_true,z0b,ld88];rfl) ⟨hx5,b2,rfl,by rw[get_put,if_neg hb2];exact g4⟩
theorem z1r {H:Heap}{s:ByteArray}{b m:Nat}{cells:List Value}(hw:H.wf) (hg:H.get b=some (.row cells 88)) (hc:cells.length=m*6) (h0:0 < m) (hm:m≤1000) (hone:cells.all one=true) :
  EvF Tryz.prog okT 73 [.string s,.slice (some ⟨b,0,none⟩) m m] H fun v H'=>HX H H'∧∃b2,v=.agg ⟨[.int .i64 0,.bool true,.int .i64 5,.string s,.string e0,.int .u64 0,.int .i64 0,.slice (some ⟨b2,0,none⟩) m m]⟩∧H'.get b2=some (.row cells 88):=by
 refine EvF.enter rfl Tryz.func73 (by decide) rfl ?_;(repeat refine EvC.seq ?_);refine EvC.reg ?_;simp (config := { maxSteps := 2000000 }) (disch:=first|omega|rfl) only[sA,initTm,dAlloc,zr90];obtain⟨H1,e1,hx1,g1,n1,w1⟩:=new1 hw (.row bad8 90);simp only[e1]
 repeat' (first|refine EvC.seq ?_|(refine EvC.reg ?_;simp (config := { maxSteps := 2000000 }) (disch:=first|omega|rfl) only[sB,Za,Zb,Value.cells,one,reduceCtorEq,Zh,layC,cl71,bd90]))
 refine(zbi w1 (hx1.get hw hg) hc h0 hm hone).mono ?_;rintro v H2 ⟨hx2,b2,rfl,g2⟩;have g21:=hx2.get w1 g1
 repeat' (first|(refine EvC.ret ?_)|(refine z08 ?_;simp (config := { maxSteps := 2000000 }) (disch:=first|omega|rfl) only[sB,Za,Zb,one,reduceCtorEq,st90,g21]))
 have hne:b2≠H.next:=fun e=>by
  rw[e,g21] at g2;have h1:=Option.some.inj g2;injection h1 with h2 h3;exact absurd h3 (by decide)
 exact z0f rfl (by simp only[sB,Za,reduceCtorEq];rfl) (by simp only[if_true,z0b,ld90];rfl) ⟨(hx1.trans hx2).pt (Ze _) g21 _,b2,rfl,by rw[get_put,if_neg hne];exact g2⟩
set_option maxHeartbeats 4000000 in
theorem z1k {H:Heap}{s u:ByteArray}{t:Tm}{a:Option Addr}{c:Nat}(hw:H.wf) :
  EvF Tryz.prog okT 70 [.string s,.string u,.agg ⟨six t a c⟩] H fun v H'=>HX H H'∧∃b7,v=.agg ⟨[.int .i64 0,.bool true,.int .i64 5,.string permS,.string e0,.int .u64 0,.int .i64 0,.slice (some ⟨b7,0,none⟩) 3 3]⟩∧H'.get b7=some (.row (six (atomT s) none 0++six (atomT u) none 0++six t a c) 88):=by
 refine EvF.enter rfl Tryz.func70 (by decide) rfl ?_;(repeat refine EvC.seq ?_);refine EvC.reg ?_;simp (config := { maxSteps := 2000000 }) (disch:=first|omega|rfl) only[sB,initTm,dBox,dAlloc,Za,Zb,Value.cells,one,reduceCtorEq,zr90];obtain⟨H1,e1,hx1,g1,gb1,n1,w1⟩:=new2 hw (.row (six t a c) 88) (.row bad8 90);simp only[e1]
 repeat' (first|refine EvC.seq ?_|(refine EvC.drw [([(0,0)],some 1),([(2,0)],some 3),([(4,0),(5,2)],some 6),([],some 7),([],none)] ?_ ?_;kernel_rfl;simp (config := { maxSteps := 2000000 }) (disch:=first|omega|rfl) only[sD,sB,Za,Zb,reduceCtorEq,cl72,isAlloc,isRead]))
 obtain⟨H2,f2,hx2,w2⟩:=z5e w1 8;simp only[f2];refine(z2h w2).mono ?_;rintro v H3 ⟨rfl,hx3⟩
 repeat' (first|(refine z2t ?_;simp (config := { maxSteps := 2000000 }) (disch:=first|omega|rfl) only[sD,sB,Za,reduceCtorEq,cl72,isAlloc,isRead,zfn]))
 refine(z2h hx3.wf).mono ?_;rintro v H4 ⟨rfl,hx4⟩;have w3:=hx3.wf;have w4:=hx4.wf;have q2:=(row6 (hx2.get w1 g1)).2.2.2.2.2.2;have q3:=(row6 (hx3.get w2 (hx2.get w1 g1))).2.2.2.2.2.2;have q4:=(row6 (hx4.get w3 (hx3.get w2 (hx2.get w1 g1)))).2.2.2.2.2.2
 repeat' (first|(refine z2t ?_;simp (config := { maxSteps := 2000000 }) (disch:=first|omega|rfl) only[sV,sD,sB,Za,Zb,Value.cells,one,reduceCtorEq,Zh,layC,ld88,zni,cl73,q2,q3,q4,isAlloc,isRead,dalloc]))
 have hx24:=(hx2.trans hx3).trans hx4;have n2:H2.next=H1.next+8:=by rw[←f2]
 have n4:=(hx3.trans hx4).next;have hx5:=hx24.put (i:=H1.next+5) (Nat.le_add_right _ _) (show H1.next+5 < H4.next by omega) (some (.row (six (atomT s) none 0++six (atomT u) none 0++six t a c) 88));have g5:(H4.put (H1.next+5) (some (.row (six (atomT s) none 0++six (atomT u) none 0++six t a c) 88))).get (H1.next+5)=some (.row (six (atomT s) none 0++six (atomT u) none 0++six t a c) 88):=by rw[get_put,if_pos rfl]
 have w5:=hx5.wf;refine(z1r (m:=3) w5 g5 rfl (by omega) (by omega) rfl).mono ?_;rintro v H6 ⟨hx6,b6,rfl,g6⟩;have hx16:=hx5.trans hx6;have gb6:=hx16.get w1 gb1
 repeat' (first|(refine EvC.ret ?_)|(refine z2t ?_;simp (config := { maxSteps := 2000000 }) (disch:=first|omega|rfl) only[sD,sB,Za,Zb,one,reduceCtorEq,st90,gb6]))
 have hne:b6≠H.next+1:=fun e=>by
  rw[e,gb6] at g6;have h1:=Option.some.inj g6;injection h1 with h2 h3;exact absurd h3 (by decide)
 have hxe:=(hx1.trans hx16).pt (i:=H.next+1) (by omega) gb6 (some (.row [.int .i64 0,.bool true,.int .i64 5,.string permS,.string e0,.int .u64 0,.int .i64 0,.slice (some ⟨b6,0,none⟩) 3 3] 90));exact z0f rfl (by simp only[sB,Za,reduceCtorEq];rfl) (by simp only[if_true,z0b,ld90];rfl) ⟨hxe,b6,rfl,by rw[get_put,if_neg hne];exact g6⟩
theorem z1y {H:Heap}{s u:ByteArray}{t:Tm}{a:Option Addr}{c b:Nat}(hs:s.size≤maxLen) (hu:u.size≤maxLen) (r:RepK H 88 t (six t a c)) (g:H.get b=some (.row (six (atomT s) none 0++six (atomT u) none 0++six t a c) 88)) :
  BadR H (.ball (ofT permS [atomT s,atomT u,t])) [.int .i64 0,.bool true,.int .i64 5,.string permS,.string e0,.int .u64 0,.int .i64 0,.slice (some ⟨b,0,none⟩) 3 3] :=
 ⟨some ⟨b,0,none⟩,3,rfl,zjk (by simp [permS,maxLen,Zf]) (z4q hs) (z4q hu) r g⟩
end Go.Proofs.hq
end

section
namespace Go.Hb
open Go Go.RowKit
section
variable {P:Program}{ok:Ok}{fn:Func}{tm:Tr Value}{H:Heap}{K:Value→Heap→Prop}
theorem z0d {a q:Tmp}{t:TypeId}{ad:Addr}{v u:Value}(h:fn.results.toList=[.tmp q,.cell a t]) (hu:tm.get q=some u) (hv:tm.get a=some (.pointer (some ad))) (hd:dLoad P t (.pointer (some ad)) H=some (.val v H))
  (hk:K (.tuple ⟨[u,v]⟩) H):Ex.leave P ok fn K .ret ⟨tm,[],H⟩:=by
 refine EvV.now (v:=.tuple ⟨[u,v]⟩) ?_ hk;have hd':dload P t ad H=some v:=by
  simp only[dLoad] at hd;cases hx:dload P t ad H with
  |none=>rw[hx] at hd;cases hd
  |some u=>rw[hx] at hd;simp only[Zo,Option.some.injEq,Dr.val.injEq] at hd;rw[hd.1]
 simp only[dres,h,dresL,dres1,hv,hd',hu,Option.getD_some]
end
end Go.Hb
namespace Go.Proofs.hq
open Go Go.RowKit Go.Hb
variable {ok:Ok}
set_option maxRecDepth 10000
attribute [local irreducible] LX LG EL STG SOP SGO SGD SAL SRD SEF SEG SLK SCK ES
abbrev Strm.row10 (s:Strm):List Value:=[.int .i64 s.id,.string s.file,.int .i64 s.mode,.bool s.bin,.string s.al,.int .i64 s.eof,.bool s.rep,.int .i64 s.pos,.int .i64 s.line,.int .i64 s.en]
abbrev rowO (l:List (Int × Strm)):List Value:=l.flatMap fun o=>o.2.row10
structure RfB (H:Heap) (B:Nat→Prop) (r f l:Nat) (φ:FSt):Prop where
 obj:H.get r=some (.row [.slice (some ⟨f,0,none⟩) φ.files.length φ.files.length,.slice (some ⟨l,0,none⟩) φ.opens.length φ.opens.length,.int .i64 φ.next,.string φ.input,.string φ.out,.int .i64 φ.inp,.int .i64 φ.put,.int .i64 φ.written] 39)
 fs:H.get f=some (.row (rowF φ.files) 73)
 ls:H.get l=some (.row (rowO φ.opens) 84)
 ids:∀o∈φ.opens,o.2.id=o.1
 br:B r
 bf:B f
 bl:B l
theorem RfB.keep {H H':Heap}{B:Nat→Prop}{r f l:Nat}{φ:FSt}(h:RfB H B r f l φ) (hx:HX H H') (hw:H.wf):RfB H' B r f l φ:=⟨hx.get hw h.obj,hx.get hw h.fs,hx.get hw h.ls,h.ids,h.br,h.bf,h.bl⟩
theorem z9a {l:List (ByteArray × ByteArray)}:∀{i:Nat}{x:ByteArray × ByteArray},l[i]?=some x→(rowF l)[i*2]?=some (.string x.1)∧(rowF l)[i*2+1]?=some (.string x.2):=by
 induction l with
 |nil=>intro i x h;simp at h
 |cons y l ih =>
  intro i x h;cases i with
  |zero=>simp at h;subst h;exact⟨rfl,rfl⟩
  |succ i =>
   have:=ih (by simpa using h);have e1:(i+1)*2=i*2+2:=by omega
   have e2:(i+1)*2+1=(i*2+1)+2:=by omega
   rw[e1,show i*2+2+1=(i*2+1)+2 by omega];exact this
theorem z50 {l:List (Int × Strm)}{k:Nat}(hk:k < 10):∀{i:Nat}{o:Int × Strm},l[i]?=some o→(rowO l)[i*10+k]?=o.2.row10[k]?:=by
 induction l with
 |nil=>intro i x h;simp at h
 |cons y l ih =>
  intro i x h;have e0:rowO (y :: l)=y.2.row10++rowO l:=rfl;cases i with
  |zero =>
   simp at h;subst h;rw[e0,Nat.zero_mul,Nat.zero_add,List.getElem?_append_left (by simpa using hk)]
  |succ i =>
   have:=ih (by simpa using h);rw[e0,List.getElem?_append_right (by simp;omega),←this];congr 1;simp;omega
set_option maxHeartbeats 4000000 in
theorem z9b {H:Heap}{B:Nat→Prop}{r f l:Nat}{φ:FSt}{n:ByteArray}(h:RfB H B r f l φ) (hm:φ.files.length≤100) :
  EvF Tryz.prog okT 69 [ptrV r,.string n] H fun v H'=>H'=H∧v=.int .i64 (match φ.files.findIdx? fun x=>n == x.1 with|some i=>(i:Int)|none=>-1):=by
 refine EvF.enter rfl Tryz.func69 (by decide) rfl ?_;have q:=row8 h.obj
 repeat' (first|refine EvC.seq ?_|refine EvC.block ?_|(refine EvC.reg ?_;simp (config := { maxSteps := 2000000 }) (disch:=first|omega|rfl) only[sA,initTm]))
 refine EvC.loop (fun k st=>∃tm i,st=⟨tm,[],H⟩∧k=φ.files.length - i∧i≤φ.files.length∧tm.get 0=some (ptrV r)∧tm.get 1=some (.string n)∧tm.get 5=some (.int .i64 (i:Nat))∧∀j x,j < i→φ.files[j]?=some x→(n == x.1)=false) ?_ φ.files.length _ ?_
 ·rintro k st ⟨tm,i,rfl,rfl,hi,t0,t1,t5,hno⟩;by_cases hlt:i < φ.files.length
  ·have hx0:=Zd hlt;have hld:=z0i h.fs (z9a hx0).1;have hw1:IntKind.i64.wrap ((i:Int)+1)=((i+1:Nat):Int):=by rw[z0e]<;>omega
   cases hb:n == (φ.files[i]).1 with
   |true =>
    have hb':((φ.files[i]).1 == n)=true:=z1z.2 (z1z.1 hb).symm
    repeat' (first|refine EvC.seq ?_|refine EvC.block ?_|(refine EvC.skip ?_;try simp only[z00])|(refine EvC.ret ?_;try simp only[z05,z03])|(refine EvC.reg ?_;simp (config := { maxSteps := 2000000 }) (disch:=first|omega|rfl) only[sB,Za,reduceCtorEq,z4z,ld22,ln22,ia22,z40,ld9,t0,t1,t5,q,z01,z04,decl hlt,hld,z16,z2g,hb'])|(refine EvC.condT ?_ ?_;simp (config := { maxSteps := 2000000 }) (disch:=first|omega|rfl) only[sB,Za];refine z02 ?_))
    refine z06 rfl (by simp only[sB,Za];rfl) ⟨rfl,?_⟩;have hf:(φ.files.findIdx? fun x=>n == x.1)=some i:=List.findIdx?_eq_some_iff_getElem.2 ⟨hlt,hb,fun j hj=>by rw[hno j _ hj (Zd (by omega))];simp⟩;rw[hf]
   |false =>
    have hb':((φ.files[i]).1 == n)=false:=z9i fun e=>by rw[z1z.2 e.symm] at hb;cases hb
    repeat' (first|refine EvC.seq ?_|refine EvC.block ?_|(refine EvC.skip ?_;try simp only[sA])|(refine EvC.reg ?_;simp (config := { maxSteps := 2000000 }) (disch:=first|omega|rfl) only[sB,Za,reduceCtorEq,z4z,ld22,ln22,ia22,z40,ld9,t0,t1,t5,q,z01,z04,decl hlt,hld,z16,z2g,hb',hw1])|(refine EvC.condT ?_ ?_;simp (config := { maxSteps := 2000000 }) (disch:=first|omega|rfl) only[sB,Za];refine z02 ?_)|(refine EvC.condF ?_ ?_;simp (config := { maxSteps := 2000000 }) (disch:=first|omega|rfl) only[sB,Za];refine z02 ?_))
    refine⟨_,by omega,_,i+1,rfl,rfl,by omega,(by simp only[sG,reduceCtorEq,t0]),(by simp only[sG,Za,t1]),(by simp only[sG,Za]),fun j x hj hx=>?_⟩;by_cases hji:j=i
    ·subst hji;have e:φ.files[j]=x:=by rw[Zd hlt] at hx;exact Option.some.inj hx
     rw[←e];exact hb
    ·exact hno j x (by omega) hx
  ·obtain rfl:i=φ.files.length:=by omega
   repeat' (first|refine EvC.seq ?_|(refine EvC.exit ?_;try simp only[sB])|(refine EvC.ret ?_)|(refine EvC.reg ?_;simp (config := { maxSteps := 2000000 }) (disch:=first|omega|rfl) only[sB,Za,reduceCtorEq,z4z,ld22,ln22,t0,t5,q,z01,z04,decn hlt])|(refine EvC.condF ?_ ?_;simp (config := { maxSteps := 2000000 }) (disch:=first|omega|rfl) only[sB,Za];refine z02 ?_))
   refine z06 rfl (by simp only[sB,Za];rfl) ⟨rfl,?_⟩;have hf:(φ.files.findIdx? fun x=>n == x.1)=none:=List.findIdx?_eq_none_iff.2 fun x hx=>by
    obtain⟨j,hj,rfl⟩:=List.mem_iff_getElem.1 hx;exact hno j _ hj (Zd hj)
   rw[hf]
 ·exact⟨_,0,rfl,rfl,Zz _,(by simp only[sG,reduceCtorEq]),(by simp only[sG,Za,reduceCtorEq]),(by simp only[sB,Za,reduceCtorEq];rfl),fun j x hj=>by omega⟩
set_option maxHeartbeats 4000000 in
theorem z4j {H:Heap}{B:Nat→Prop}{r f l:Nat}{φ:FSt}{n:Int}(h:RfB H B r f l φ) (hw:H.wf) (hn:i64 n) (hm:φ.opens.length≤100) :
  EvF Tryz.prog okT 74 [ptrV r,.int .i64 n] H fun v H'=>HX H H'∧∃bs,((∃i,(φ.opens.findIdx? fun o=>o.1 == n)=some i∧v=.tuple ⟨[.int .i64 (i:Nat),.agg ⟨bs⟩]⟩∧BadR H' .none bs)∨((φ.opens.findIdx? fun o=>o.1 == n)=none∧v=.tuple ⟨[.int .i64 (-1),.agg ⟨bs⟩]⟩∧BadR H' (.ball (noStrT n)) bs)):=by
 refine EvF.enter rfl Tryz.func74 (by decide) rfl ?_;(repeat refine EvC.seq ?_);refine EvC.reg ?_;simp (config := { maxSteps := 2000000 }) (disch:=first|omega|rfl) only[sA,initTm,dAlloc,zr90];obtain⟨H1,e1,hx1,g1,n1,w1⟩:=new1 hw (.row bad8 90);simp only[e1];clear e1;have h1:=h.keep hx1 hw;have q:=row8 h1.obj
 repeat' (first|refine EvC.seq ?_|refine EvC.block ?_|(refine EvC.reg ?_;simp (config := { maxSteps := 2000000 }) (disch:=first|omega|rfl) only[sA]))
 refine EvC.loop (fun k st=>∃tm i,st=⟨tm,[],H1⟩∧k=φ.opens.length - i∧i≤φ.opens.length∧tm.get 0=some (ptrV r)∧tm.get 1=some (.int .i64 n)∧tm.get 5=some (.pointer (some ⟨H.next,0,none⟩))∧tm.get 6=some (.int .i64 (i:Nat))∧∀j o,j < i→φ.opens[j]?=some o→(o.1 == n)=false) ?_ φ.opens.length _ ?_
 ·rintro k st ⟨tm,i,rfl,rfl,hi,t0,t1,t5,t6,hno⟩;by_cases hlt:i < φ.opens.length
  ·have hx0:=Zd hlt;have hid:=h.ids _ (ZE hlt);have hld:=z0i h1.ls ((z50 (k:=0) (by omega) hx0).trans (show (φ.opens[i]).2.row10[0]?=some (.int .i64 (φ.opens[i]).2.id) from rfl));rw[hid,Nat.add_zero] at hld;have hw1:IntKind.i64.wrap ((i:Int)+1)=((i+1:Nat):Int):=by rw[z0e]<;>omega
   cases hb:(φ.opens[i]).1 == n with
   |true =>
    repeat' (first|refine EvC.seq ?_|refine EvC.block ?_|(refine EvC.skip ?_;try simp only[z00])|(refine EvC.ret ?_;try simp only[z05,z03])|(refine EvC.reg ?_;simp (config := { maxSteps := 2000000 }) (disch:=first|omega|rfl) only[sB,Za,Zb,Value.cells,one,reduceCtorEq,layC,z0k,ld37,ln37,ia37,z0p,z2p,ld3,bd90,st90,t0,t1,t5,t6,q,z01,z04,decl hlt,hld,hb,g1])|(refine EvC.condT ?_ ?_;simp (config := { maxSteps := 2000000 }) (disch:=first|omega|rfl) only[sB,Za];refine z02 ?_))
    have hf:(φ.opens.findIdx? fun o=>o.1 == n)=some i:=List.findIdx?_eq_some_iff_getElem.2 ⟨hlt,hb,fun j hj=>by rw[hno j _ hj (Zd (by omega))];simp⟩;exact z0d rfl (by simp only[sG,Za]) (by simp only[sB,Za,t5];rfl) (by simp only[if_true,z0b,ld90];rfl) ⟨hx1.pt (Ze _) g1 _,_,.inl ⟨i,hf,rfl,rfl⟩⟩
   |false =>
    repeat' (first|refine EvC.seq ?_|refine EvC.block ?_|(refine EvC.skip ?_;try simp only[sA])|(refine EvC.reg ?_;simp (config := { maxSteps := 2000000 }) (disch:=first|omega|rfl) only[sB,Za,reduceCtorEq,z0k,ld37,ln37,ia37,z0p,z2p,ld3,t0,t1,t6,q,z01,z04,decl hlt,hld,hb,hw1])|(refine EvC.condT ?_ ?_;simp (config := { maxSteps := 2000000 }) (disch:=first|omega|rfl) only[sB,Za];refine z02 ?_)|(refine EvC.condF ?_ ?_;simp (config := { maxSteps := 2000000 }) (disch:=first|omega|rfl) only[sB,Za];refine z02 ?_))
    refine⟨_,by omega,_,i+1,rfl,rfl,by omega,(by simp only[sG,reduceCtorEq,t0]),(by simp only[sG,Za,t1]),(by simp only[sG,Za,t5]),(by simp only[sG,Za]),fun j o hj hx=>?_⟩;by_cases hji:j=i
    ·subst hji;have e:φ.opens[j]=o:=by rw[Zd hlt] at hx;exact Option.some.inj hx
     rw[←e];exact hb
    ·exact hno j o (by omega) hx
  ·obtain rfl:i=φ.opens.length:=by omega
   have hf:(φ.opens.findIdx? fun o=>o.1 == n)=none:=List.findIdx?_eq_none_iff.2 fun x hx=>by
    obtain⟨j,hj,rfl⟩:=List.mem_iff_getElem.1 hx;exact hno j _ hj (Zd hj)
   repeat' (first|refine EvC.seq ?_|(refine EvC.exit ?_;try simp only[sB])|(refine EvC.reg ?_;simp (config := { maxSteps := 2000000 }) (disch:=first|omega|rfl) only[sB,Za,Zb,Value.cells,reduceCtorEq,layC,z0k,ld37,ln37,cl72,cl76,z7i,t0,t1,t6,q,z01,z04,decn hlt])|(refine EvC.condF ?_ ?_;simp (config := { maxSteps := 2000000 }) (disch:=first|omega|rfl) only[sB,Za];refine z02 ?_))
   refine(z2h w1).mono ?_;rintro v H2 ⟨rfl,hx2⟩
   skip
   refine(z1d hn hx2.wf).mono ?_;rintro v H3 ⟨hx3,b3,rfl,g3⟩;have hx4:=(HX.refl hx3.wf).new (some (.row (six (atomT strS) none 0++six (handT n) (some ⟨b3,0,none⟩) 1) 88));have g4:(H3.new (some (.row (six (atomT strS) none 0++six (handT n) (some ⟨b3,0,none⟩) 1) 88))).get H3.next=some (.row (six (atomT strS) none 0++six (handT n) (some ⟨b3,0,none⟩) 1) 88):=z4g;have w4:=hx4.wf
   repeat' (first|(refine z08 ?_;simp (config := { maxSteps := 2000000 }) (disch:=first|omega|rfl) only[sB,Za,Zb,one,Zh,cl73]))
   refine(z1r (m:=2) (s:=existS) w4 g4 rfl (by omega) (by omega) rfl).mono ?_;rintro v H5 ⟨hx5,b2,rfl,g5⟩;have hxB:=((hx2.trans hx3).trans hx4).trans hx5;have g51:=hxB.get w1 g1
   repeat' (first|(refine EvC.ret ?_)|(refine z08 ?_;simp (config := { maxSteps := 2000000 }) (disch:=first|omega|rfl) only[sB,Zb,one,st90,t5,g51]))
   have hne:b2≠H.next:=fun e=>by
    rw[e,g51] at g5;have k1:=Option.some.inj g5;injection k1 with k2 k3;exact absurd k3 (by decide)
   have hxe:=(hx1.trans hxB).pt (i:=H.next) (Ze _) g51 (some (.row [.int .i64 0,.bool true,.int .i64 5,.string existS,.string e0,.int .u64 0,.int .i64 0,.slice (some ⟨b2,0,none⟩) 2 2] 90));have g35:=hx5.get w4 (hx4.get hx3.wf g3);have hne3:b3≠H.next:=fun e=>by
    rw[e,g51] at g35;have k1:=Option.some.inj g35;injection k1 with k2 k3;exact absurd k3 (by decide)
   exact z0d rfl (by simp only[sG,Za]) (by simp only[sB,Za,t5];rfl) (by simp only[if_true,z0b,ld90];rfl) ⟨hxe,_,.inr ⟨hf,rfl,some ⟨b2,0,none⟩,2,rfl,zjj (by simp [existS,maxLen,Zf]) (z4q (by simp [strS,maxLen,Zf])) (z4s hn (by rw[get_put,if_neg hne3];exact g35)) (by rw[get_put,if_neg hne];exact g5)⟩⟩
 ·exact⟨_,0,rfl,rfl,Zz _,(by simp only[sG,reduceCtorEq]),(by simp only[sG,Za,reduceCtorEq]),(by simp only[sG,Za,reduceCtorEq]),(by simp only[sB,Za,reduceCtorEq];rfl),fun j x hj=>by omega⟩
end Go.Proofs.hq
end

section
namespace Go.Proofs.hq
open Go Go.RowKit Go.Hb
variable {ok:Ok}
set_option maxRecDepth 10000
attribute [local irreducible] LX LG EL STG SOP SGO SGD SAL SRD SEF SEG SLK SCK ES
def FSt.dataR (φ:FSt) (s:Strm):ByteArray:=if s.id=0 then φ.input else if s.id=1 then φ.out else φ.fileD s.file
theorem z9c {φ:FSt}{n:ByteArray}{i:Nat}(h:(φ.files.findIdx? fun x=>n == x.1)=some i):∃hi:i < φ.files.length,φ.fileD n=(φ.files[i]).2:=by
 obtain⟨hi,hp,hno⟩:=List.findIdx?_eq_some_iff_getElem.1 h;refine⟨hi,?_⟩;have hf:(φ.files.find? fun o=>n == o.1)=some φ.files[i]:=by
  rw[List.find?_eq_some_iff_getElem];exact⟨hp,i,hi,rfl,fun j hj=>by simpa using hno j hj⟩
 unfold FSt.fileD FSt.file;rw[hf];rfl
set_option maxHeartbeats 4000000 in
theorem z52 {H:Heap}{B:Nat→Prop}{r f l:Nat}{φ:FSt}{s:Strm}(h:RfB H B r f l φ) (hw:H.wf) (hm:φ.files.length≤100) (hs:s.id≠0→s.id≠1→∃i,(φ.files.findIdx? fun x=>s.file == x.1)=some i) :
  EvF Tryz.prog okT 78 [ptrV r,.agg ⟨s.row10⟩] H fun v H'=>HX H H'∧v=.string (φ.dataR s):=by
 refine EvF.enter rfl Tryz.func78 (by decide) rfl ?_;(repeat refine EvC.seq ?_);refine EvC.reg ?_;simp (config := { maxSteps := 2000000 }) (disch:=first|omega|rfl) only[sB,initTm,dBox,Value.cells,one,reduceCtorEq];obtain⟨H1,e1,hx1,g1,n1,w1⟩:=new1 hw (.row s.row10 61);simp only[e1];clear e1;have h1:=h.keep hx1 hw;have q:=row8 h1.obj;have l0:H1.load ⟨H.next,0,none⟩ 1=some [.int .i64 s.id]:=z0i g1 rfl;have l1:H1.load ⟨H.next,1,none⟩ 1=some [.string s.file]:=z0i g1 rfl;by_cases c0:s.id=0
 ·repeat' (first|refine EvC.seq ?_|(refine EvC.ret ?_;try simp only[z05,z03])|(refine EvC.reg ?_;simp (config := { maxSteps := 2000000 }) (disch:=first|omega|rfl) only[sB,Za,reduceCtorEq,z2p,ld3,zpn,ld9,l0,q,z01,z04,z19 c0])|(refine EvC.condT ?_ ?_;simp (config := { maxSteps := 2000000 }) (disch:=first|omega|rfl) only[sB,Za,reduceCtorEq];refine z02 ?_))
  exact z06 rfl (by simp only[sB,Za,reduceCtorEq];rfl) ⟨hx1,by unfold FSt.dataR;rw[if_pos c0]⟩
 by_cases c1:s.id=1
 ·repeat' (first|refine EvC.seq ?_|(refine EvC.skip ?_;try simp only[z00])|(refine EvC.ret ?_;try simp only[z05,z03])|(refine EvC.reg ?_;simp (config := { maxSteps := 2000000 }) (disch:=first|omega|rfl) only[sB,Za,reduceCtorEq,z2p,ld3,ld9,zjb,l0,q,z01,z04,z0r c0,z19 c1])|(refine EvC.condT ?_ ?_;simp (config := { maxSteps := 2000000 }) (disch:=first|omega|rfl) only[sB,Za,reduceCtorEq];refine z02 ?_)|(refine EvC.condF ?_ ?_;simp (config := { maxSteps := 2000000 }) (disch:=first|omega|rfl) only[sB,Za,reduceCtorEq];refine z02 ?_))
  exact z06 rfl (by simp only[sB,Za,reduceCtorEq];rfl) ⟨hx1,by unfold FSt.dataR;rw[if_neg c0,if_pos c1]⟩
 obtain⟨i,hi⟩:=hs c0 c1;obtain⟨hil,hfd⟩:=z9c hi;obtain⟨H2,e2,hx2,w2⟩:=z5e w1 12;have h2:=h1.keep hx2 w1;have q2:=row8 h2.obj;have l02:=hx2.load w1 l0;have l12:=hx2.load w1 l1
 repeat' (first|refine EvC.seq ?_|(refine EvC.skip ?_;try simp only[z00])|(refine EvC.reg ?_;simp (config := { maxSteps := 2000000 }) (disch:=first|omega|rfl) only[sB,Za,reduceCtorEq,z2p,ld3,l0,z0r c0,z0r c1])|(refine EvC.drw [([(4,0),(5,0),(6,0)],some 7),([(0,0),(1,0),(2,0),(3,0),(8,1),(9,1),(10,1),(11,1)],none)] ?_ ?_;kernel_rfl;simp (config := { maxSteps := 2000000 }) (disch:=first|omega|rfl) only[sD,sB,Za,Zb,reduceCtorEq,ld9,z3u,cl69,e2,l12,isAlloc,isRead])|(refine EvC.condF ?_ ?_;simp (config := { maxSteps := 2000000 }) (disch:=first|omega|rfl) only[sB,Za,reduceCtorEq];refine z02 ?_))
 refine(z9b h2 hm).mono ?_;rintro v H3 ⟨rfl,rfl⟩;rw[hi];simp only;have ld:=z0i h2.fs (z9a (Zd hil)).2
 repeat' (first|(refine EvC.ret ?_)|(refine z2t ?_;simp (config := { maxSteps := 2000000 }) (disch:=first|omega|rfl) only[sV,sD,sB,Za,reduceCtorEq,ld9,z4z,ld22,ia22,z5i,q2,ld,z01,z04,isAlloc,isRead]))
 exact z06 rfl (by simp only[sB,Za,reduceCtorEq];rfl) ⟨hx1.trans hx2,by unfold FSt.dataR;rw[if_neg c0,if_neg c1,hfd]⟩
end Go.Proofs.hq
end
