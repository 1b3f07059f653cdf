import Derived.Test.YtlmjnikipfbenaaDoorM3
import Derived.Lib.DecodeN
import Derived.Lib.ValidLaws
/- Lemmas on the program's own code, towards the laws of this folder, part 4. Conditions: as each lemma says. -/
open Bool renaming and_eq_true → Zd, false_eq_true → Zb, not_eq_true → Zr, not_true → Zp
open ByteArray renaming empty → Zg, size → Zm
open List renaming getElem?_eq_getElem → Zh, getElem?_eq_none → Zu, getElem?_map → Zq, map_cons → Zv, mem_cons_of_mem → Zi, range → Zf
open Nat renaming le_refl → Ze, lt_of_lt_of_le → Zn, reduceAdd → Zc, reduceEqDiff → Za, reduceLeDiff → Zj
open Option renaming bind_some → Zo
section
namespace Go.Proofs.hq
open Go Go.RowKit Go.Hb
variable {ok:Ok}
set_option maxRecDepth 10000
attribute [local irreducible] LX LG EL STG SOP SGO SGD SAL SRD SEF SEG SLK SCK ES
def validB (t:ByteArray):Bool:=Lib.validD t.data.toList
theorem zep {H:Heap}{t:ByteArray}(ht:t.size≤maxLen) (hw:H.wf):EvF Tryd.prog okT 31 [.string t] H fun v H'=>v=.bool (validB t)∧H'=H :=
 z3z (p:=(31,knValid)) rfl rfl (by have hm:maxLen=9223372036854775807:=rfl;simp only[knValid];rw[if_pos (by omega)];rfl) hw
def FSt.putR (φ:FSt) (n:Int) (t:ByteArray):Option Tm × FSt:=match φ.wrErr n false,φ.get n with
 |some e,_=>(some e,φ)
 |none,none=>(none,φ)
 |none,some s=>if validB t=true then φ.addR s t else (some reprT,φ)
theorem zeq {φ:FSt}{n:Int}{bin:Bool}(h:φ.wrErr n bin=none):∃s,φ.get n=some s:=by
 unfold FSt.wrErr at h;cases hg:φ.get n with
 |none=>rw[hg] at h;cases h
 |some s=>exact⟨s,rfl⟩
set_option maxHeartbeats 4000000 in
theorem zh8 {H:Heap}{B p fb ob:Nat}{blk:Int→Nat}{φ:FSt}{n:Int}{t:ByteArray}(h:FsB H B p fb ob blk φ) (hw:H.wf) (hn:i64 n) (h0:0≤φ.written) (h1:φ.written≤100000) (ht:t.size≤4611686018427387904)
  (hf:∀s,φ.get n=some s→(φ.fileD s.file).size≤20000) (hu:φ.out.size≤100000) :
  EvF Tryd.prog okT 11 [ptrV p,.int .i64 n,.string t] H fun e H'=>Hy B H H'∧ErrR H' (φ.putR n t).1 e∧FsB H' B p fb ob blk (φ.putR n t).2:=by
 refine EvF.enter rfl Tryd.func11 (by decide) rfl ?_;have hm:maxLen=9223372036854775807:=rfl
 repeat' (first|refine EvC.seq ?_|(refine EvC.reg ?_;simp (config := { maxSteps := 2000000 }) (disch:=first|omega|rfl) only[sB,initTm,Za,Zc,reduceCtorEq,cl30]))
 refine(zeo (bin:=false) h hw hn).mono ?_;rintro v H1 (⟨hr,rfl,rfl⟩|⟨t',e,hr,rfl,hx1,he⟩)
 ·obtain⟨s,hs⟩:=zeq hr;have hR:φ.putR n t=if validB t=true then φ.addR s t else (some reprT,φ):=by unfold FSt.putR;rw[hr,hs]
  repeat' (first|refine EvC.seq ?_|(refine EvC.skip ?_;try simp only[z00])|(refine EvC.reg ?_;simp (config := { maxSteps := 2000000 }) (disch:=first|omega|rfl) only[sB,Za,reduceCtorEq,cl31,z0v])|(refine z0b ?_;simp (config := { maxSteps := 2000000 }) (disch:=first|omega|rfl) only[sB,Za,reduceCtorEq])|(refine EvC.condF ?_ ?_;simp (config := { maxSteps := 2000000 }) (disch:=first|omega|rfl) only[sB,Za,reduceCtorEq];refine z02 ?_))
  refine(zep (t:=t) (by omega) hw).mono ?_;rintro v H2 ⟨rfl,rfl⟩;by_cases hv:validB t=true
  ·rw[if_pos hv] at hR
   repeat' (first|refine EvC.seq ?_|(refine EvC.skip ?_;try simp only[z00])|(refine EvC.reg ?_;simp (config := { maxSteps := 2000000 }) (disch:=first|omega|rfl) only[sB,Za,reduceCtorEq,cl32])|(refine z0b ?_;simp (config := { maxSteps := 2000000 }) (disch:=first|omega|rfl) only[sA,hv,Zp])|(refine EvC.condF ?_ ?_;simp (config := { maxSteps := 2000000 }) (disch:=first|omega|rfl) only[sB,Za,reduceCtorEq];refine z02 ?_))
   refine(zij h hw hs h0 h1 ht (hf s hs) hu).mono ?_;rintro e H3 ⟨k1,k2,k3⟩
   repeat' (first|(refine EvC.ret ?_))
   exact z08 rfl (by simp only[sB,Za,reduceCtorEq];rfl) ⟨k1,by rw[hR];exact k2,by rw[hR];exact k3⟩
  ·rw[if_neg hv] at hR;have hv':validB t=false:=by simpa using hv
   repeat' (first|refine EvC.seq ?_|(refine EvC.reg ?_;simp (config := { maxSteps := 2000000 }) (disch:=first|omega|rfl) only[sB,Za,Zc,Value.cells,reduceCtorEq,layC,cl21,z9h])|(refine z0b ?_;simp (config := { maxSteps := 2000000 }) (disch:=first|omega|rfl) only[sA,hv',Bool.not_false])|(refine EvC.condT ?_ ?_;simp (config := { maxSteps := 2000000 }) (disch:=first|omega|rfl) only[sB,Za,reduceCtorEq];refine z02 ?_))
   refine(z3i hw (s:=charS) (by simp [charS,maxLen,Zm])).mono ?_;rintro v H4 ⟨rfl,hx4,-⟩;obtain⟨H5,e5,hx5,g5,n5,w5⟩:=new1 hx4.wf (.row (six (atomT charS) none 0) 66)
   repeat' (first|(refine z0b ?_;simp (config := { maxSteps := 2000000 }) (disch:=first|omega|rfl) only[sB,Za,Zc,one,reduceCtorEq,cl20,cl22,e5]))
   refine(zaj (s:=reprS) w5).mono ?_;rintro v H6 ⟨rfl,hx6,-⟩;have rt:=z68 (H:=H6) (s:=reprS) (t:=atomT charS) (by simp [reprS,maxLen,Zm]) (z2f (by simp [charS,maxLen,Zm])) (hx6.get w5 g5)
   skip
   refine(z2x hx6.wf rt).mono ?_;rintro v H7 ⟨hx7,ht⟩
   repeat' (first|(refine EvC.ret ?_;try simp only[z05,z03]))
   have hxe:=((hx4.trans hx5).trans hx6).trans hx7;exact z08 rfl (by simp only[sB,Za,reduceCtorEq];rfl) ⟨Hy.of hxe,by rw[hR];exact ht,by rw[hR];exact h.keep hxe hw⟩
 ·obtain⟨eb,ecs,rfl,-⟩:=id he;have hR:φ.putR n t=(some t',φ):=by unfold FSt.putR;rw[hr]
  repeat' (first|refine EvC.seq ?_|(refine EvC.ret ?_;try simp only[z05,z03])|(refine EvC.reg ?_;simp (config := { maxSteps := 2000000 }) (disch:=first|omega|rfl) only[sB,Za,reduceCtorEq,z6b])|(refine z0b ?_;simp (config := { maxSteps := 2000000 }) (disch:=first|omega|rfl) only[sB,Za,reduceCtorEq])|(refine EvC.condT ?_ ?_;simp (config := { maxSteps := 2000000 }) (disch:=first|omega|rfl) only[sB,Za,reduceCtorEq];refine z02 ?_))
  exact z08 rfl (by simp only[sB,Za,reduceCtorEq];rfl) ⟨Hy.of hx1,by rw[hR];exact he,by rw[hR];exact h.keep hx1 hw⟩
def FSt.drop (φ:FSt) (n:Int):FSt:={ φ with opens:=φ.opens.eraseP fun o=>o.1 == n }
theorem FsB.drop {H:Heap}{B p fb ob:Nat}{blk:Int→Nat}{φ:FSt}{n:Int}{Bm:Blk}(h:FsB H B p fb ob blk φ) (hm:MapR (H.put ob (some Bm)) ob ((φ.opens.map fun o=>(o.1,ptrV (blk o.1))).eraseP fun p=>p.1 == n)) (hb:BornR (H.put ob (some Bm)) ob) :
  FsB (H.put ob (some Bm)) B p fb ob blk (φ.drop n):=by
 have n2:p≠ob:=fun e=>by obtain⟨es,c,hm,-⟩:=h.om;rw[←e,h.obj] at hm;cases hm
 have hk:∀i,i≠ob→(H.put ob (some Bm)).get i=H.get i:=fun i hi=>by rw[get_put,if_neg hi]
 have hin:∀o∈(φ.drop n).opens,o∈φ.opens:=fun o ho=>List.mem_of_mem_eraseP ho
 refine⟨(hk p n2).trans h.obj,h.fm.heap (hk fb h.fo),?_,hb,fun o q=>?_,?_,fun o ho o' ho'=>h.inj o (hin o ho) o' (hin o' ho'),h.lp,h.lf,h.lo,fun o ho=>h.lb o (hin o ho),h.fo,h.bf.heap (hk fb h.fo),h.fd⟩
 ·unfold FSt.drop;rw[List.eraseP_map] at hm;exact hm
 ·rw[hk _ fun e=>by obtain⟨es,c,hm,-⟩:=h.om;have:=h.st o (hin o q);rw[e,hm] at this;cases this];exact h.st o (hin o q)
 ·exact h.nd.sublist ((List.eraseP_sublist).map _)
def FSt.closeR (φ:FSt) (n:Int):Option Tm × FSt:=match φ.get n with
 |none=>(some (noStrT n),φ)
 |some s=>if s.con=true then (none,φ) else (none,{ φ.drop n with inp:=if φ.inp=n then 0 else φ.inp,put:=if φ.put=n then 1 else φ.put })
set_option maxHeartbeats 8000000 in
theorem zfz {H:Heap}{B p fb ob:Nat}{blk:Int→Nat}{φ:FSt}{n:Int}(h:FsB H B p fb ob blk φ) (hw:H.wf) (hn:i64 n) :
  EvF Tryd.prog okT 12 [ptrV p,.int .i64 n] H fun e H'=>Hy B H H'∧ErrR H' (φ.closeR n).1 e∧FsB H' B p fb ob blk (φ.closeR n).2:=by
 refine EvF.enter rfl Tryd.func12 (by decide) rfl ?_
 repeat' (first|refine EvC.seq ?_|(refine EvC.reg ?_;simp (config := { maxSteps := 2000000 }) (disch:=first|omega|rfl) only[sB,initTm,Za,reduceCtorEq,cl23]))
 refine(z84 h hw hn).mono ?_;rintro v H1 (⟨s,hs,rfl,rfl⟩|⟨hs,e,rfl,hx1,he⟩)
 ·have qs:=z2g (h.strm hs);have q:=row8 h.obj;have hR:φ.closeR n=if s.con=true then (none,φ) else (none,{ φ.drop n with inp:=if φ.inp=n then 0 else φ.inp,put:=if φ.put=n then 1 else φ.put }):=by unfold FSt.closeR;rw[hs]
  cases hc:s.con with
  |true =>
   rw[hc,if_pos rfl] at hR;rw[hc] at qs
   repeat' (first|refine EvC.seq ?_|(refine EvC.ret ?_;try simp only[z05,z03])|(refine EvC.reg ?_;simp (config := { maxSteps := 2000000 }) (disch:=first|omega|rfl) only[sB,Za,reduceCtorEq,z1g,ld4,z0v,qs,z01,z04])|(refine z0b ?_;simp (config := { maxSteps := 2000000 }) (disch:=first|omega|rfl) only[sB,Za,reduceCtorEq])|(refine EvC.condT ?_ ?_;simp (config := { maxSteps := 2000000 }) (disch:=first|omega|rfl) only[sB,Za,reduceCtorEq];refine z02 ?_))
   exact z08 rfl (by simp only[sB,Za,reduceCtorEq];rfl) ⟨Hy.of (HX.refl hw),by rw[hR];rfl,by rw[hR];exact h⟩
  |false =>
   rw[hc,if_neg (by simp)] at hR;rw[hc] at qs;have hv:(mGet (φ.opens.map fun o=>(o.1,ptrV (blk o.1))) n).isSome=true:=by rw[z54];unfold FSt.get at hs;rw[hs];rfl
   obtain⟨Bm,hD,m2,b2⟩:=zfy (P:=Tryd.prog) mpSt h.om h.bo hv;obtain⟨H2,e2⟩:∃H2,H1.put ob (some Bm)=H2:=⟨_,rfl⟩
   have h2:FsB H2 B p fb ob blk (φ.drop n):=by rw[←e2];exact h.drop m2 b2
   have hy2:Hy B H1 H2:=by rw[←e2];obtain⟨_,_,hm,-⟩:=h.om;exact Hy.put hw h.lo hm _
   rw[e2] at hD;have g2:H2.get p=some (.row [.map (some fb),.map (some ob),.int .i64 φ.next,.string φ.input,.string φ.out,.int .i64 φ.inp,.int .i64 φ.put,.int .i64 φ.written] 56):=h2.obj;have q2:=row8 g2;obtain⟨H3,e3⟩:∃H3,H2.put p (some (.row [.map (some fb),.map (some ob),.int .i64 φ.next,.string φ.input,.string φ.out,.int .i64 0,.int .i64 φ.put,.int .i64 φ.written] 56))=H3:=⟨_,rfl⟩
   have h3:FsB H3 B p fb ob blk { φ.drop n with inp:=0 }:=by rw[←e3];exact h2.field (ψ:={ φ.drop n with inp:=0 }) rfl rfl
   have hy3:Hy B H1 H3:=by rw[←e3];exact hy2.trans (Hy.put hy2.1 h.lp g2 _)
   have g3:H3.get p=some (.row [.map (some fb),.map (some ob),.int .i64 φ.next,.string φ.input,.string φ.out,.int .i64 0,.int .i64 φ.put,.int .i64 φ.written] 56):=h3.obj;have q3:=row8 g3;by_cases c1:φ.inp=n<;>by_cases c2:φ.put=n
   ·repeat' (first|refine EvC.seq ?_|(refine EvC.skip ?_;try simp only[z00])|(refine EvC.ret ?_)|(refine EvC.reg ?_;simp (config := { maxSteps := 2000000 }) (disch:=first|omega|rfl) only[sB,Za,Zc,one,reduceCtorEq,Zj,z1g,ld4,z1h,ld54,zbs,ld3,st3,zbt,z0v,qs,q,z01,z04,Zb,z2y,hD,q2,g2,z3x c1,e3,q3,g3,z3x c2])|(refine z0b ?_;simp (config := { maxSteps := 2000000 }) (disch:=first|omega|rfl) only[sB,Za,reduceCtorEq])|(refine EvC.condT ?_ ?_;simp (config := { maxSteps := 2000000 }) (disch:=first|omega|rfl) only[sB,Za,reduceCtorEq];refine z02 ?_)|(refine EvC.condF ?_ ?_;simp (config := { maxSteps := 2000000 }) (disch:=first|omega|rfl) only[sB,Za,reduceCtorEq];refine z02 ?_))
    exact z08 rfl (by simp only[sB,Za,reduceCtorEq];rfl) ⟨hy3.trans (Hy.put hy3.1 h.lp g3 _),by rw[hR];rfl,by rw[hR,if_pos c1,if_pos c2];exact h3.field (ψ:={ φ.drop n with inp:=0,put:=1 }) rfl rfl⟩
   ·repeat' (first|refine EvC.seq ?_|(refine EvC.skip ?_;try simp only[z00])|(refine EvC.ret ?_)|(refine EvC.reg ?_;simp (config := { maxSteps := 2000000 }) (disch:=first|omega|rfl) only[sB,Za,Zc,one,reduceCtorEq,Zj,z1g,ld4,z1h,ld54,zbs,ld3,st3,zbt,z0v,qs,q,z01,z04,Zb,z2y,hD,q2,g2,z3x c1,e3,q3,z2j c2])|(refine z0b ?_;simp (config := { maxSteps := 2000000 }) (disch:=first|omega|rfl) only[sB,Za,reduceCtorEq])|(refine EvC.condT ?_ ?_;simp (config := { maxSteps := 2000000 }) (disch:=first|omega|rfl) only[sB,Za,reduceCtorEq];refine z02 ?_)|(refine EvC.condF ?_ ?_;simp (config := { maxSteps := 2000000 }) (disch:=first|omega|rfl) only[sB,Za,reduceCtorEq];refine z02 ?_))
    exact z08 rfl (by simp only[sB,Za,reduceCtorEq];rfl) ⟨hy3,by rw[hR];rfl,by rw[hR,if_pos c1,if_neg c2];exact h3⟩
   ·repeat' (first|refine EvC.seq ?_|(refine EvC.skip ?_;try simp only[z00])|(refine EvC.ret ?_)|(refine EvC.reg ?_;simp (config := { maxSteps := 2000000 }) (disch:=first|omega|rfl) only[sB,Za,Zc,one,reduceCtorEq,Zj,z1g,ld4,z1h,ld54,zbs,ld3,st3,zbt,z0v,qs,q,z01,z04,Zb,z2y,hD,q2,g2,z2j c1,z3x c2])|(refine z0b ?_;simp (config := { maxSteps := 2000000 }) (disch:=first|omega|rfl) only[sB,Za,reduceCtorEq])|(refine EvC.condT ?_ ?_;simp (config := { maxSteps := 2000000 }) (disch:=first|omega|rfl) only[sB,Za,reduceCtorEq];refine z02 ?_)|(refine EvC.condF ?_ ?_;simp (config := { maxSteps := 2000000 }) (disch:=first|omega|rfl) only[sB,Za,reduceCtorEq];refine z02 ?_))
    exact z08 rfl (by simp only[sB,Za,reduceCtorEq];rfl) ⟨hy2.trans (Hy.put hy2.1 h.lp g2 _),by rw[hR];rfl,by rw[hR,if_neg c1,if_pos c2];exact h2.field (ψ:={ φ.drop n with put:=1 }) rfl rfl⟩
   ·repeat' (first|refine EvC.seq ?_|(refine EvC.skip ?_;try simp only[z00])|(refine EvC.ret ?_)|(refine EvC.reg ?_;simp (config := { maxSteps := 2000000 }) (disch:=first|omega|rfl) only[sB,Za,reduceCtorEq,z1g,ld4,z1h,ld54,zbs,ld3,zbt,z0v,qs,q,z01,z04,Zb,z2y,hD,q2,z2j c1,z2j c2])|(refine z0b ?_;simp (config := { maxSteps := 2000000 }) (disch:=first|omega|rfl) only[sB,Za,reduceCtorEq])|(refine EvC.condF ?_ ?_;simp (config := { maxSteps := 2000000 }) (disch:=first|omega|rfl) only[sB,Za,reduceCtorEq];refine z02 ?_))
    exact z08 rfl (by simp only[sB,Za,reduceCtorEq];rfl) ⟨hy2,by rw[hR];rfl,by rw[hR,if_neg c1,if_neg c2];exact h2⟩
 ·obtain⟨eb,ecs,rfl,-⟩:=id he;have hR:φ.closeR n=(some (noStrT n),φ):=by unfold FSt.closeR;rw[hs]
  repeat' (first|refine EvC.seq ?_|(refine EvC.ret ?_;try simp only[z05,z03])|(refine EvC.reg ?_;simp (config := { maxSteps := 2000000 }) (disch:=first|omega|rfl) only[sB,Za,reduceCtorEq,z6b])|(refine z0b ?_;simp (config := { maxSteps := 2000000 }) (disch:=first|omega|rfl) only[sB,Za,reduceCtorEq])|(refine EvC.condT ?_ ?_;simp (config := { maxSteps := 2000000 }) (disch:=first|omega|rfl) only[sB,Za,reduceCtorEq];refine z02 ?_))
  exact z08 rfl (by simp only[sB,Za,reduceCtorEq];rfl) ⟨Hy.of hx1,by rw[hR];exact he,by rw[hR];exact h.keep hx1 hw⟩
theorem FsB.off {H0 H:Heap}{B p fb ob i:Nat}{blk:Int→Nat}{φ0 φ:FSt}{X:Option Blk}(h0:FsB H0 B p fb ob blk φ0) (w0:H0.wf) (hi:H0.next≤i) (ho:φ.opens=φ0.opens) (h:FsB H B p fb ob blk φ):FsB (H.put i X) B p fb ob blk φ:=by
 have hk:∀j,j < H0.next→(H.put i X).get j=H.get j:=fun j hj=>by rw[get_put,if_neg (by omega)]
 have l1:=w0 _ _ h0.obj;have l2:=MapS.lt h0.fm w0;have l3:=h0.om.lt w0;refine⟨(hk p l1).trans h.obj,h.fm.heap (hk fb l2),h.om.heap (hk ob l3),h.bo.heap (hk ob l3),fun o q=>?_,h.nd,h.inj,h.lp,h.lf,h.lo,h.lb,h.fo,h.bf.heap (hk fb l2),h.fd⟩;rw[hk _ (w0 _ _ (h0.st o (by rw[←ho];exact q)))];exact h.st o q
def FSt.openW (φ:FSt) (n d:ByteArray) (s:Strm):FSt:={ φ with files:=fset φ.files n d,opens:=φ.opens++[(φ.next,s)],next:=φ.next+1 }
set_option maxHeartbeats 8000000 in
theorem zg0 {H:Heap}{B p fb ob:Nat}{blk:Int→Nat}{φ:FSt}{name d d':ByteArray}{bin:Bool}{eof m:Int}(h:FsB H B p fb ob blk φ) (hw:H.wf) (hB:B≤H.next) (hf:φ.file name=some d) (hn:named name=true)
  (hc:∀o∈φ.opens,o.2.con=true) (hl:φ.opens.length < 16) (hk:∀o∈φ.opens,o.1 < φ.next) (h63:φ.next < 9223372036854775807) (h0:0≤φ.next) (hm:(m=2∧d'=⟨#[]⟩)∨(m=3∧d'=d)) :
  EvF Tryd.prog okT 7 [ptrV p,.string name,.int .i64 m,.agg ⟨[.bool bin,.string ⟨#[]⟩,.int .i64 eof,.bool false]⟩] H fun v H'=>v=.tuple ⟨[.int .i64 φ.next,.nilIface]⟩∧Hy B H H' ∧
   ∃blk',FsB H' B p fb ob blk' (φ.openW name d' ⟨φ.next,name,m,bin,⟨#[]⟩,eof,false,d'.size,0,0,false⟩):=by
 refine EvF.enter rfl Tryd.func7 (by decide) rfl ?_;(repeat refine EvC.seq ?_);refine EvC.reg ?_;simp (config := { maxSteps := 2000000 }) (disch:=first|omega|rfl) only[sB,initTm,dBox,Za,Zc,Value.cells,one,reduceCtorEq];obtain⟨H1,e1,hx1,g1,n1,w1⟩:=new1 hw (.row [.bool bin,.string ⟨#[]⟩,.int .i64 eof,.bool false] 35);simp only[e1];have l1:H1.load ⟨H.next,1,none⟩ 1=some [.string ⟨#[]⟩]:=by simp only[Heap.load,Heap.cells,g1];rfl
 have l3:H1.load ⟨H.next,3,none⟩ 1=some [.bool false]:=by simp only[Heap.load,Heap.cells,g1];rfl
 have h1:=h.keep hx1 hw;have q1:=row8 h1.obj;obtain⟨es,clk,hgm,hes⟩:=id h1.om;obtain⟨es2,clk2,hgm2,hb1,hb2⟩:=id h1.bo;rw[hgm] at hgm2;cases hgm2;have hrg:=zek (P:=Tryd.prog) Tryd.underlying54 hgm;obtain⟨H2,e2,hx2,g2,n2,w2⟩:=new1 w1 (.mit ob clk);have lob:ob < H1.next:=w1 _ _ hgm;have hev:∀e∈es,∃o∈φ.opens,e.key=.int .i64 o.1∧e.val=ptrV (blk o.1):=fun e he=>by
  have hm:(e.key,e.val)∈es.map fun e=>(e.key,e.val):=List.mem_map.2 ⟨e,he,rfl⟩
  rw[hes,List.map_map] at hm;obtain⟨o,ho,hp⟩:=List.mem_map.1 hm;simp only[Function.comp,Prod.mk.injEq] at hp;exact⟨o,ho,hp.1.symm,hp.2.symm⟩
 obtain⟨H3,e3⟩:∃H3,H2.put H1.next none=H3:=⟨_,rfl⟩
 have hx3:HX H1 H3:=by rw[←e3];exact hx2.put (Ze _) (by omega) _
 have w3:=hx3.wf;have h3:=h1.keep hx3 w1;have q3:=row8 h3.obj;have g3:=hx3.get w1 g1;have n3:H3.next=H1.next+1:=by rw[←e3,z0t];exact n2
 have lq:=row4 g3;have hmg:=z45 φ.files name;have hlk:=fun ok=>z50 (P:=Tryd.prog) (H:=H1) (ok:=ok) spFl h1.fm (n:=name) (v:=.string d) (by rw[hmg];unfold FSt.file at hf;rw[hf];rfl)
 have hln:=fun ty=>zel (P:=Tryd.prog) (ty:=ty) Tryd.underlying54 (h3.om)
 have hlt:decide ((16:Int)≤((φ.opens.map fun o=>(o.1,ptrV (blk o.1))).length:Int))=false:=decide_eq_false (by rw[List.length_map];omega);obtain⟨H4,e4,hx4,g4,w4⟩:=zi7 w3 18 16 (by omega) (.row [.int .i64 φ.next,.string name,.int .i64 m,.bool bin,.string ⟨#[]⟩,.int .i64 eof,.bool false,.int .i64 0,.int .i64 0,.int .i64 0,.bool false] 61);have h4:=h3.keep hx4 w3;have q4:=row8 h4.obj;obtain⟨Bf,hV,mfb,bfb⟩:=dUs (P:=Tryd.prog) (v:=.string d') spFl h4.fm (n:=name);obtain⟨Hb,eb⟩:∃Hb,H4.put fb (some Bf)=Hb:=⟨_,rfl⟩
 have hb:FsB Hb B p fb ob blk { φ with files:=fset φ.files name d' }:=by rw[←eb];exact h4.file mfb bfb
 rw[eb] at hV;obtain⟨_,_,hfm4,-⟩:=id h4.fm;have lf4:fb < H3.next:=MapS.lt h3.fm w3;have hyb:Hy B H4 Hb:=by rw[←eb];exact Hy.put w4 h.lf hfm4 _
 have gb:Hb.get (H3.next+16)=some (.row [.int .i64 φ.next,.string name,.int .i64 m,.bool bin,.string ⟨#[]⟩,.int .i64 eof,.bool false,.int .i64 0,.int .i64 0,.int .i64 0,.bool false] 61):=by rw[←eb,get_put,if_neg (by omega)];exact g4
 obtain⟨Hc,ec⟩:∃Hc,Hb.put (H3.next+16) (some (.row [.int .i64 φ.next,.string name,.int .i64 m,.bool bin,.string ⟨#[]⟩,.int .i64 eof,.bool false,.int .i64 d'.size,.int .i64 0,.int .i64 0,.bool false] 61))=Hc:=⟨_,rfl⟩
 have hc':FsB Hc B p fb ob blk { φ with files:=fset φ.files name d' }:=by rw[←ec];exact FsB.off h3 w3 (Nat.le_add_right _ _) rfl hb
 have hyc:Hy B Hb Hc:=by rw[←ec];exact Hy.put hyb.1 (by have:=hx1.next;have:=hx3.next;omega) gb _
 have gc:Hc.get (H3.next+16)=some (.row [.int .i64 φ.next,.string name,.int .i64 m,.bool bin,.string ⟨#[]⟩,.int .i64 eof,.bool false,.int .i64 d'.size,.int .i64 0,.int .i64 0,.bool false] 61):=by rw[←ec,get_put,if_pos rfl]
 have gcr:=z2g gc;have gcp:Hc.get p=some (.row [.map (some fb),.map (some ob),.int .i64 φ.next,.string φ.input,.string φ.out,.int .i64 φ.inp,.int .i64 φ.put,.int .i64 φ.written] 56):=hc'.obj;have qc:=row8 gcp;have wc:=hyc.1;obtain⟨H5,e5,hx5,w5⟩:=z9f wc 11;have h5:=hc'.keep hx5 wc;have hnone:mGet (φ.opens.map fun o=>(o.1,ptrV (blk o.1))) φ.next=none:=by
  rw[z54];have:φ.opens.find? (fun o=>o.1 == φ.next)=none:=List.find?_eq_none.2 fun o ho=>by have:=hk o ho;simp;omega
  rw[this];rfl
 obtain⟨B6,hU,mo6,bo6⟩:=z52 (P:=Tryd.prog) mpSt h5.om h5.bo (v:=ptrV (H3.next+16)) (n:=φ.next) hnone;obtain⟨H6,e6⟩:∃H6,H5.put ob (some B6)=H6:=⟨_,rfl⟩
 rw[e6] at hU mo6 bo6;rw[←e5] at hU;have hpo:p≠ob:=fun e=>by obtain⟨_,_,hm,-⟩:=h5.om;rw[←e,h5.obj] at hm;cases hm
 have hpf:p≠fb:=fun e=>by obtain⟨_,_,hm,-⟩:=h5.fm;rw[←e,h5.obj] at hm;cases hm
 have lp1:=w1 _ _ h1.obj;have ln3:=hx3.next;have k6:∀i,i≠ob→H6.get i=H5.get i:=fun i hi=>by rw[←e6,get_put,if_neg hi]
 have g6:H6.get p=some (.row [.map (some fb),.map (some ob),.int .i64 φ.next,.string φ.input,.string φ.out,.int .i64 φ.inp,.int .i64 φ.put,.int .i64 φ.written] 56):=(k6 p hpo).trans h5.obj;have q6:=row8 g6;have b6:=(k6 (H3.next+16) (by omega)).trans (hx5.get wc gc);have hwr:IntKind.i64.wrap (φ.next+1)=φ.next+1:=z0d (by omega) (by omega);obtain⟨H7,e7⟩:∃H7,H6.put p (some (.row [.map (some fb),.map (some ob),.int .i64 (φ.next+1),.string φ.input,.string φ.out,.int .i64 φ.inp,.int .i64 φ.put,.int .i64 φ.written] 56))=H7:=⟨_,rfl⟩
 have k7:∀i,i≠p→H7.get i=H6.get i:=fun i hi=>by rw[←e7,get_put,if_neg hi]
 have b7:=(k7 (H3.next+16) (by omega)).trans b6;have r7:=z2g b7;have hyA:Hy B H H4:=Hy.of ((hx1.trans hx3).trans hx4);have hy5:Hy B H H5:=((hyA.trans hyb).trans hyc).trans (Hy.of hx5);have hyB:Hy B H5 H6:=by rw[←e6];obtain⟨_,_,hm,-⟩:=h5.om;exact Hy.put w5 h.lo hm _
 have hyC:Hy B H6 H7:=by rw[←e7];exact Hy.put hyB.1 h.lp g6 _
 have nof:fb≠p:=fun e=>hpf e.symm
 have mf7:=h5.fm.heap ((k7 fb nof).trans (k6 fb h.fo));have bf7:=h5.bf.heap ((k7 fb nof).trans (k6 fb h.fo));have mo7:=mo6.heap (k7 ob (fun e=>hpo e.symm));have bo7:=bo6.heap (k7 ob (fun e=>hpo e.symm));have fin:∃blk',FsB H7 B p fb ob blk' (φ.openW name d' ⟨φ.next,name,m,bin,⟨#[]⟩,eof,false,d'.size,0,0,false⟩):=by
  refine h3.add (H':=H7) w3 hk rfl (by rw[←e7,get_put,if_pos rfl];rfl) mf7 bf7 (z7d h.fd) mo7 bo7 (fun o ho=>?_) b7 (Nat.le_add_right _ _) (by have:=hx1.next;omega);have hs3:=h3.st o ho;have a1:blk o.1≠p:=fun e=>by rw[e,h3.obj] at hs3;simp at hs3
  have a2:blk o.1≠ob:=fun e=>by obtain⟨_,_,hm,-⟩:=h3.om;rw[e,hm] at hs3;cases hs3
  have a4:blk o.1≠fb:=fun e=>by obtain⟨_,_,hm,-⟩:=h3.fm;rw[e,hm] at hs3;cases hs3
  have a3:=w3 _ _ hs3;have nc:Hc.next=H4.next:=by rw[←ec,z0t,←eb,z0t]
  have n4:=hx4.next;rw[k7 _ a1,k6 _ a2,hx5.keep _ (by omega),←ec,get_put,if_neg (by omega),←eb,get_put,if_neg a4,hx4.keep _ a3]
 have z3:((1:Int) == 1)=true:=rfl;rcases hm with ⟨rfl,rfl⟩|⟨rfl,rfl⟩
 ·have z1:decide ((2:Int) < 1)=false:=rfl;have z2:decide ((3:Int) < 2)=false:=rfl;have z4:((2:Int) == 1)=false:=rfl;have z5:((2:Int) == 2)=true:=rfl;have z6:((2:Int) == 3)=false:=rfl
  repeat' (first|refine EvC.seq ?_|refine EvC.block ?_|(refine EvC.reg ?_;simp (config := { maxSteps := 2000000 }) (disch:=first|omega|rfl) only[sB,Za,reduceCtorEq,cl18,z9k,z1,z2,Zb])|(refine EvC.condF ?_ ?_;simp (config := { maxSteps := 2000000 }) (disch:=first|omega|rfl) only[sB,Za,reduceCtorEq];refine z02 ?_))
  refine(z55 w1).mono ?_;rintro v H' ⟨rfl,rfl⟩
  repeat' (first|refine EvC.seq ?_|(refine EvC.skip ?_;try simp only[sA])|(refine EvC.reg ?_;simp (config := { maxSteps := 2000000 }) (disch:=first|omega|rfl) only[sB,Za,reduceCtorEq,z79,ld9,cl17,l1,z4])|(refine z0b ?_;simp (config := { maxSteps := 2000000 }) (disch:=first|omega|rfl) only[sB,Za,reduceCtorEq,hn,Zp])|(refine EvC.condF ?_ ?_;simp (config := { maxSteps := 2000000 }) (disch:=first|omega|rfl) only[sB,Za,reduceCtorEq];refine z02 ?_))
  refine z85.mono ?_;rintro v H' ⟨rfl,rfl⟩
  repeat' (first|refine EvC.seq ?_|refine EvC.block ?_|(refine EvC.skip ?_;try simp only[z00])|(refine EvC.reg ?_;simp (config := { maxSteps := 2000000 }) (disch:=first|omega|rfl) only[sB,Za,reduceCtorEq,z7a,ld4,z1t,ld53,z1h,ld54,l3,q1,z01,z04,z0p,hlk,z47,hrg,e2,Zb])|(refine z0b ?_;simp (config := { maxSteps := 2000000 }) (disch:=first|omega|rfl) only[sB,Za,reduceCtorEq])|(refine EvC.condF ?_ ?_;simp (config := { maxSteps := 2000000 }) (disch:=first|omega|rfl) only[sB,Za,reduceCtorEq];refine z02 ?_))
  refine EvC.frame (fun tm=>(tm.get 0=some (ptrV p)∧tm.get 1=some (.string name)∧tm.get 2=some (.int .i64 2)∧tm.get 7=some (ptrV H.next)∧tm.get 10=some (.bool false)∧tm.get 13=some (.string d)∧tm.get 14=some (.bool true)∧tm.get 85=some (ptrV H'.next))∧tm.get 16=none∧tm.get 86=none∧tm.get 87=none∧tm.get 88=none∧tm.get 89=none∧tm.get 90=none∧tm.get 91=none∧tm.get 92=none∧tm.get 93=none∧tm.get 94=none∧tm.get 95=none∧tm.get 96=none∧tm.get 97=none∧tm.get 98=none∧tm.get 99=none∧tm.get 100=none∧tm.get 101=none∧tm.get 102=none∧tm.get 103=none∧tm.get 104=none∧tm.get 105=none∧tm.get 106=none∧tm.get 107=none∧tm.get 108=none∧tm.get 109=none∧tm.get 110=none∧tm.get 111=none∧tm.get 112=none∧tm.get 113=none∧tm.get 114=none∧tm.get 115=none) ⟨⟨(by simp only[sG,reduceCtorEq]),(by simp only[sG,Za,reduceCtorEq]),(by simp only[sG,Za,reduceCtorEq]),(by simp only[sG,Za,reduceCtorEq]),(by simp only[sG,Za,reduceCtorEq]),(by simp only[sG,Za,reduceCtorEq]),(by simp only[sG,Za,reduceCtorEq]),(by simp only[sG,Za,reduceCtorEq])⟩,(by simp only[sG,Za,reduceCtorEq];rfl),(by simp only[sG,Za,reduceCtorEq];rfl),(by simp only[sG,Za,reduceCtorEq];rfl),(by simp only[sG,Za,reduceCtorEq];rfl),(by simp only[sG,Za,reduceCtorEq];rfl),(by simp only[sG,Za,reduceCtorEq];rfl),(by simp only[sG,Za,reduceCtorEq];rfl),(by simp only[sG,Za,reduceCtorEq];rfl),(by simp only[sG,Za,reduceCtorEq];rfl),(by simp only[sG,Za,reduceCtorEq];rfl),(by simp only[sG,Za,reduceCtorEq];rfl),(by simp only[sG,Za,reduceCtorEq];rfl),(by simp only[sG,Za,reduceCtorEq];rfl),(by simp only[sG,Za,reduceCtorEq];rfl),(by simp only[sG,Za,reduceCtorEq];rfl),(by simp only[sG,Za,reduceCtorEq];rfl),(by simp only[sG,Za,reduceCtorEq];rfl),(by simp only[sG,Za,reduceCtorEq];rfl),(by simp only[sG,Za,reduceCtorEq];rfl),(by simp only[sG,Za,reduceCtorEq];rfl),(by simp only[sG,Za,reduceCtorEq];rfl),(by simp only[sG,Za,reduceCtorEq];rfl),(by simp only[sG,Za,reduceCtorEq];rfl),(by simp only[sG,Za,reduceCtorEq];rfl),(by simp only[sG,Za,reduceCtorEq];rfl),(by simp only[sG,Za,reduceCtorEq];rfl),(by simp only[sG,Za,reduceCtorEq];rfl),(by simp only[sG,Za,reduceCtorEq];rfl),(by simp only[sG,Za,reduceCtorEq];rfl),(by simp only[sG,Za,reduceCtorEq];rfl),(by simp only[sG,Za,reduceCtorEq];rfl)⟩ ?_
  rintro tm ⟨⟨t0,t1,t2,t7,t10,t13,t14,t85⟩,u16,u86,u87,u88,u89,u90,u91,u92,u93,u94,u95,u96,u97,u98,u99,u100,u101,u102,u103,u104,u105,u106,u107,u108,u109,u110,u111,u112,u113,u114,u115⟩;refine EvC.mapLoop rfl (r:=H'.next) (m:=ob) (since:=clk) (clk:=clk) (es:=es) t85 g2 (hx2.get w1 hgm) (Ze _) hb1 (z43 hb2) (by omega) (by assumption) (by assumption) (fun _=>False) (.normal,⟨Tr.nil,[],H⟩) (fun e he=>?_) (fun _=>?_) (fun hL=>by obtain⟨_,_,q⟩:=hL;exact q.elim)
  ·obtain⟨o,ho,k1,k2⟩:=hev e he;have qs:=z2g (h3.st o ho);have hcon:=hc o ho;obtain⟨on,os⟩:=o;obtain⟨sid,sf,sm,sb,sa,se,sr,sp,sl,sn,sc⟩:=os;simp only at hcon k1 k2 qs;subst hcon;rw[k1,k2,e3];refine EvO.reg1 ?_;(try simp (config := { maxSteps := 2000000 }) (disch:=first|omega|rfl) only[sB,Za]);refine EvQ.one ?_
   repeat' (first|refine EvC.seq ?_|(refine EvC.skip ?_)|(refine EvC.reg ?_;simp (config := { maxSteps := 2000000 }) (disch:=first|omega|rfl) only[sB,Za,ld4,z1g,qs,z01,z04,Zp,Zb])|(refine EvC.condF ?_ ?_;simp (config := { maxSteps := 2000000 }) (disch:=first|omega|rfl) only[sB,Za];refine z02 ?_))
   refine⟨fun q=>q.elim,fun i hi=>rfl,?_,rfl⟩;show TmLe _ _
   repeat refine TmLe.put (by assumption) ?_
   with_reducible exact TmLe.refl _
  ·rw[e3]
   repeat' (first|refine EvC.seq ?_|refine EvC.block ?_|(refine EvC.skip ?_;try simp only[z00])|(refine EvC.exit ?_;try simp only[sB,Za])|(refine EvC.ret ?_)|(refine EvC.reg ?_;simp (config := { maxSteps := 2000000 }) (disch:=first|omega|rfl) only[sB,Za,Zc,one,reduceCtorEq,Zj,z1t,ld53,z1h,ld54,z0m,ld3,z7b,ln9,z2r,st3,z7c,t0,t1,t2,t13,t14,q3,z01,z04,hln,hlt,z5,Zp,Zb,ge_iff_le,q4,z0r,hV,gb,ec,q6,g6,hwr,e7,r7])|(refine EvC.drw (id:=23) [([(0,0),(1,0),(2,0),(3,0),(4,0),(5,0),(6,0),(7,0),(8,0),(9,0),(10,0),(11,0),(12,0),(13,0),(14,0),(15,0),(16,0),(17,0)],none)] ?_ ?_;kernel_rfl;simp (config := { maxSteps := 2000000 }) (disch:=first|omega|rfl) only[sD,sB,dBox,Za,Zc,Value.cells,one,reduceCtorEq,Zj,layC,z79,ld9,z7a,ld4,ld3,z7b,zec,zed,bd47,bd61,t0,t1,t2,t7,q3,z01,z04,lq,e4,isAlloc,isRead,dalloc])|(refine EvC.drw (id:=30) [([(0,0),(1,0),(2,0),(3,0),(4,0),(5,0),(6,0),(7,0),(8,0),(9,0)],some 10),([],none)] ?_ ?_;kernel_rfl;simp (config := { maxSteps := 2000000 }) (disch:=first|omega|rfl) only[sD,sB,Za,Zc,reduceCtorEq,z1h,ld54,z0m,ld3,z7c,t0,z01,z04,z0r,qc,gcr,hU,isAlloc,isRead])|(refine EvC.condT ?_ ?_;simp (config := { maxSteps := 2000000 }) (disch:=first|omega|rfl) only[sB,Za];refine z02 ?_)|(refine EvC.condF ?_ ?_;simp (config := { maxSteps := 2000000 }) (disch:=first|omega|rfl) only[sB,Za];refine z02 ?_))
   refine z06 rfl (by simp only[sG,Za]) (by simp only[sG,Za]) ⟨rfl,(hy5.trans hyB).trans hyC,fin⟩
 ·have z1:decide ((3:Int) < 1)=false:=rfl;have z2:decide ((3:Int) < 3)=false:=rfl;have z4:((3:Int) == 1)=false:=rfl;have z5:((3:Int) == 2)=false:=rfl;have z6:((3:Int) == 3)=true:=rfl
  repeat' (first|refine EvC.seq ?_|refine EvC.block ?_|(refine EvC.reg ?_;simp (config := { maxSteps := 2000000 }) (disch:=first|omega|rfl) only[sB,Za,reduceCtorEq,cl18,z9k,z1,z2,Zb])|(refine EvC.condF ?_ ?_;simp (config := { maxSteps := 2000000 }) (disch:=first|omega|rfl) only[sB,Za,reduceCtorEq];refine z02 ?_))
  refine(z55 w1).mono ?_;rintro v H' ⟨rfl,rfl⟩
  repeat' (first|refine EvC.seq ?_|(refine EvC.skip ?_;try simp only[sA])|(refine EvC.reg ?_;simp (config := { maxSteps := 2000000 }) (disch:=first|omega|rfl) only[sB,Za,reduceCtorEq,z79,ld9,cl17,l1,z4])|(refine z0b ?_;simp (config := { maxSteps := 2000000 }) (disch:=first|omega|rfl) only[sB,Za,reduceCtorEq,hn,Zp])|(refine EvC.condF ?_ ?_;simp (config := { maxSteps := 2000000 }) (disch:=first|omega|rfl) only[sB,Za,reduceCtorEq];refine z02 ?_))
  refine z85.mono ?_;rintro v H' ⟨rfl,rfl⟩
  repeat' (first|refine EvC.seq ?_|refine EvC.block ?_|(refine EvC.skip ?_;try simp only[z00])|(refine EvC.reg ?_;simp (config := { maxSteps := 2000000 }) (disch:=first|omega|rfl) only[sB,Za,reduceCtorEq,z7a,ld4,z1t,ld53,z1h,ld54,l3,q1,z01,z04,z0p,hlk,z47,hrg,e2,Zb])|(refine z0b ?_;simp (config := { maxSteps := 2000000 }) (disch:=first|omega|rfl) only[sB,Za,reduceCtorEq])|(refine EvC.condF ?_ ?_;simp (config := { maxSteps := 2000000 }) (disch:=first|omega|rfl) only[sB,Za,reduceCtorEq];refine z02 ?_))
  refine EvC.frame (fun tm=>(tm.get 0=some (ptrV p)∧tm.get 1=some (.string name)∧tm.get 2=some (.int .i64 3)∧tm.get 7=some (ptrV H.next)∧tm.get 10=some (.bool false)∧tm.get 13=some (.string d')∧tm.get 14=some (.bool true)∧tm.get 85=some (ptrV H'.next))∧tm.get 16=none∧tm.get 86=none∧tm.get 87=none∧tm.get 88=none∧tm.get 89=none∧tm.get 90=none∧tm.get 91=none∧tm.get 92=none∧tm.get 93=none∧tm.get 94=none∧tm.get 95=none∧tm.get 96=none∧tm.get 97=none∧tm.get 98=none∧tm.get 99=none∧tm.get 100=none∧tm.get 101=none∧tm.get 102=none∧tm.get 103=none∧tm.get 104=none∧tm.get 105=none∧tm.get 106=none∧tm.get 107=none∧tm.get 108=none∧tm.get 109=none∧tm.get 110=none∧tm.get 111=none∧tm.get 112=none∧tm.get 113=none∧tm.get 114=none∧tm.get 115=none) ⟨⟨(by simp only[sG,reduceCtorEq]),(by simp only[sG,Za,reduceCtorEq]),(by simp only[sG,Za,reduceCtorEq]),(by simp only[sG,Za,reduceCtorEq]),(by simp only[sG,Za,reduceCtorEq]),(by simp only[sG,Za,reduceCtorEq]),(by simp only[sG,Za,reduceCtorEq]),(by simp only[sG,Za,reduceCtorEq])⟩,(by simp only[sG,Za,reduceCtorEq];rfl),(by simp only[sG,Za,reduceCtorEq];rfl),(by simp only[sG,Za,reduceCtorEq];rfl),(by simp only[sG,Za,reduceCtorEq];rfl),(by simp only[sG,Za,reduceCtorEq];rfl),(by simp only[sG,Za,reduceCtorEq];rfl),(by simp only[sG,Za,reduceCtorEq];rfl),(by simp only[sG,Za,reduceCtorEq];rfl),(by simp only[sG,Za,reduceCtorEq];rfl),(by simp only[sG,Za,reduceCtorEq];rfl),(by simp only[sG,Za,reduceCtorEq];rfl),(by simp only[sG,Za,reduceCtorEq];rfl),(by simp only[sG,Za,reduceCtorEq];rfl),(by simp only[sG,Za,reduceCtorEq];rfl),(by simp only[sG,Za,reduceCtorEq];rfl),(by simp only[sG,Za,reduceCtorEq];rfl),(by simp only[sG,Za,reduceCtorEq];rfl),(by simp only[sG,Za,reduceCtorEq];rfl),(by simp only[sG,Za,reduceCtorEq];rfl),(by simp only[sG,Za,reduceCtorEq];rfl),(by simp only[sG,Za,reduceCtorEq];rfl),(by simp only[sG,Za,reduceCtorEq];rfl),(by simp only[sG,Za,reduceCtorEq];rfl),(by simp only[sG,Za,reduceCtorEq];rfl),(by simp only[sG,Za,reduceCtorEq];rfl),(by simp only[sG,Za,reduceCtorEq];rfl),(by simp only[sG,Za,reduceCtorEq];rfl),(by simp only[sG,Za,reduceCtorEq];rfl),(by simp only[sG,Za,reduceCtorEq];rfl),(by simp only[sG,Za,reduceCtorEq];rfl),(by simp only[sG,Za,reduceCtorEq];rfl)⟩ ?_
  rintro tm ⟨⟨t0,t1,t2,t7,t10,t13,t14,t85⟩,u16,u86,u87,u88,u89,u90,u91,u92,u93,u94,u95,u96,u97,u98,u99,u100,u101,u102,u103,u104,u105,u106,u107,u108,u109,u110,u111,u112,u113,u114,u115⟩;refine EvC.mapLoop rfl (r:=H'.next) (m:=ob) (since:=clk) (clk:=clk) (es:=es) t85 g2 (hx2.get w1 hgm) (Ze _) hb1 (z43 hb2) (by omega) (by assumption) (by assumption) (fun _=>False) (.normal,⟨Tr.nil,[],H⟩) (fun e he=>?_) (fun _=>?_) (fun hL=>by obtain⟨_,_,q⟩:=hL;exact q.elim)
  ·obtain⟨o,ho,k1,k2⟩:=hev e he;have qs:=z2g (h3.st o ho);have hcon:=hc o ho;obtain⟨on,os⟩:=o;obtain⟨sid,sf,sm,sb,sa,se,sr,sp,sl,sn,sc⟩:=os;simp only at hcon k1 k2 qs;subst hcon;rw[k1,k2,e3];refine EvO.reg1 ?_;(try simp (config := { maxSteps := 2000000 }) (disch:=first|omega|rfl) only[sB,Za]);refine EvQ.one ?_
   repeat' (first|refine EvC.seq ?_|(refine EvC.skip ?_)|(refine EvC.reg ?_;simp (config := { maxSteps := 2000000 }) (disch:=first|omega|rfl) only[sB,Za,ld4,z1g,qs,z01,z04,Zp,Zb])|(refine EvC.condF ?_ ?_;simp (config := { maxSteps := 2000000 }) (disch:=first|omega|rfl) only[sB,Za];refine z02 ?_))
   refine⟨fun q=>q.elim,fun i hi=>rfl,?_,rfl⟩;show TmLe _ _
   repeat refine TmLe.put (by assumption) ?_
   with_reducible exact TmLe.refl _
  ·rw[e3]
   repeat' (first|refine EvC.seq ?_|refine EvC.block ?_|(refine EvC.skip ?_;try simp only[z00])|(refine EvC.exit ?_;try simp only[sB,Za])|(refine EvC.ret ?_)|(refine EvC.reg ?_;simp (config := { maxSteps := 2000000 }) (disch:=first|omega|rfl) only[sB,Za,Zc,one,reduceCtorEq,Zj,z1t,ld53,z1h,ld54,z0m,ld3,z7b,ln9,z2r,st3,z7c,t0,t1,t2,t13,t14,q3,z01,z04,hln,hlt,z5,z6,Zp,Zb,ge_iff_le,q4,z0r,hV,gb,ec,q6,g6,hwr,e7,r7])|(refine EvC.drw (id:=23) [([(0,0),(1,0),(2,0),(3,0),(4,0),(5,0),(6,0),(7,0),(8,0),(9,0),(10,0),(11,0),(12,0),(13,0),(14,0),(15,0),(16,0),(17,0)],none)] ?_ ?_;kernel_rfl;simp (config := { maxSteps := 2000000 }) (disch:=first|omega|rfl) only[sD,sB,dBox,Za,Zc,Value.cells,one,reduceCtorEq,Zj,layC,z79,ld9,z7a,ld4,ld3,z7b,zec,zed,bd47,bd61,t0,t1,t2,t7,q3,z01,z04,lq,e4,isAlloc,isRead,dalloc])|(refine EvC.drw (id:=30) [([(0,0),(1,0),(2,0),(3,0),(4,0),(5,0),(6,0),(7,0),(8,0),(9,0)],some 10),([],none)] ?_ ?_;kernel_rfl;simp (config := { maxSteps := 2000000 }) (disch:=first|omega|rfl) only[sD,sB,Za,Zc,reduceCtorEq,z1h,ld54,z0m,ld3,z7c,t0,z01,z04,z0r,qc,gcr,hU,isAlloc,isRead])|(refine EvC.condT ?_ ?_;simp (config := { maxSteps := 2000000 }) (disch:=first|omega|rfl) only[sB,Za];refine z02 ?_)|(refine EvC.condF ?_ ?_;simp (config := { maxSteps := 2000000 }) (disch:=first|omega|rfl) only[sB,Za];refine z02 ?_))
   refine z06 rfl (by simp only[sG,Za]) (by simp only[sG,Za]) ⟨rfl,(hy5.trans hyB).trans hyC,fin⟩
end Go.Proofs.hq
end

section
namespace Go.Hb
open Go Go.RowKit
theorem z2z (s:ByteArray) (i:Nat):(s.get! i).toNat=byteAt s i:=by
 by_cases h:i < s.size
 ·rw[z15 s i h];have h':i < s.data.size:=h;show (s.data[i]!).toNat=_;rw[getElem!_pos s.data i h'];rfl
 ·have h':¬i < s.data.size:=h;show (s.data[i]!).toNat=_;rw[getElem!_neg s.data i h'];unfold byteAt;rw[List.getD_eq_getElem?_getD,Zu (by simpa using h')];rfl
theorem zcu (s:ByteArray) (i:Nat):Utf8.decode s i=Lib.decodeN (s.size - i) (byteAt s i) (byteAt s (i+1)) (byteAt s (i+2)) (byteAt s (i+3)):=by
 rw[Lib.decode_at,z2z,z2z,z2z,z2z]
theorem z1l (s:ByteArray) {i:Nat}(h:s.size≤i):byteAt s i=0:=by
 unfold byteAt;rw[List.getD_eq_getElem?_getD,Zu (by simpa using h)];rfl
theorem z6o (s:ByteArray) {i:Nat}(k:Nat) (h:i≤s.size):byteAt (s.extract i s.size) k=byteAt s (i+k):=by
 by_cases hk:i+k < s.size
 ·have h':k < (s.extract i s.size).size:=by rw[ByteArray.size_extract];omega
  rw[z15 _ _ h',z15 _ _ hk,ByteArray.getElem_extract]
 ·rw[z1l _ (by rw[ByteArray.size_extract];omega),z1l _ (by omega)]
theorem zak (s:ByteArray) {i:Nat}(h:i≤s.size):Utf8.decode (s.extract i s.size) 0=Utf8.decode s i:=by
 rw[zcu,zcu];simp only[z6o s _ h,ByteArray.size_extract,Nat.min_self,Nat.sub_zero,Nat.add_zero,Nat.zero_add]
def rlen (c:Nat):Int:=if c≤127 then 1 else if c≤2047 then 2 else if 55296≤c∧c≤57343 then -1 else if c≤65535 then 3 else if c≤1114111 then 4 else -1
set_option maxHeartbeats 4000000 in
theorem zg1 {n b0 b1 b2 b3:Nat}(h0:b0 < 256) (h1:b1 < 256) (h2:b2 < 256) (h3:b3 < 256) :
  ((Lib.decodeN n b0 b1 b2 b3).1≠65533→rlen (Lib.decodeN n b0 b1 b2 b3).1=(Lib.decodeN n b0 b1 b2 b3).2)∧((Lib.decodeN n b0 b1 b2 b3).1=65533 →
   ((Lib.decodeN n b0 b1 b2 b3).2=1∧¬(3≤n∧b0=239∧b1=191∧b2=189))∨((Lib.decodeN n b0 b1 b2 b3).2=3∧(3≤n∧b0=239∧b1=191∧b2=189))):=by
 obtain⟨x,hx⟩:∃x,x=Lib.decodeN n b0 b1 b2 b3:=⟨_,rfl⟩
 rw[←hx];unfold Lib.decodeN at hx
 repeat' split at hx
 all_goals (subst hx;simp only[rlen];refine⟨fun h=>?_,fun h=>?_⟩)
 all_goals (repeat' split)
 all_goals first|omega|(left;refine⟨by trivial,?_⟩;omega)|(right;refine⟨by trivial,?_⟩;omega)
theorem zal {n b0 b1 b2 b3:Nat}(h0:b0 < 256) (h1:b1 < 256) (h2:b2 < 256) (h3:b3 < 256) (hn:1≤n):(Lib.decodeN n b0 b1 b2 b3).1≤1114111∧1≤(Lib.decodeN n b0 b1 b2 b3).2∧(Lib.decodeN n b0 b1 b2 b3).2≤n:=by
 unfold Lib.decodeN
 repeat' split
 all_goals simp only
 all_goals omega
end Go.Hb
namespace Go.Proofs.hq
open Go Go.RowKit Go.Hb
variable {ok:Ok}
set_option maxRecDepth 10000
attribute [local irreducible] LX LG EL STG SOP SGO SGD SAL SRD SEF SEG SLK SCK ES
theorem zcv {H:Heap}{c:Nat}(hc:c≤1114111):EvF Tryd.prog okT 34 [.int .i32 (c:Nat)] H fun v H'=>v=.int .i64 (rlen c)∧H'=H:=by
 refine EvF.enter rfl Tryd.func34 (by decide) rfl ?_;have d0:decide ((c:Int) < 0)=false:=decide_eq_false (by omega);unfold rlen;by_cases h1:c≤127
 ·have d1:decide ((c:Int)≤127)=true:=decide_eq_true (by omega);rw[if_pos h1]
  repeat' (first|refine EvC.seq ?_|refine EvC.block ?_|(refine EvC.ret ?_;try simp only[z05,z03])|(refine EvC.reg ?_;simp (config := { maxSteps := 2000000 }) (disch:=first|omega|rfl) only[sB,initTm,Za,reduceCtorEq,d0,d1])|(refine EvC.condT ?_ ?_;simp (config := { maxSteps := 2000000 }) (disch:=first|omega|rfl) only[sB,Za,reduceCtorEq];refine z02 ?_)|(refine EvC.condF ?_ ?_;simp (config := { maxSteps := 2000000 }) (disch:=first|omega|rfl) only[sB,Za,reduceCtorEq];refine z02 ?_))
  exact z08 rfl (by simp only[sG,Za,reduceCtorEq]) ⟨rfl,rfl⟩
 ·have d1:decide ((c:Int)≤127)=false:=decide_eq_false (by omega);rw[if_neg h1];by_cases h2:c≤2047
  ·have d2:decide ((c:Int)≤2047)=true:=decide_eq_true (by omega);rw[if_pos h2]
   repeat' (first|refine EvC.seq ?_|refine EvC.block ?_|(refine EvC.ret ?_;try simp only[z05,z03])|(refine EvC.reg ?_;simp (config := { maxSteps := 2000000 }) (disch:=first|omega|rfl) only[sB,initTm,Za,reduceCtorEq,d0,d1,d2])|(refine EvC.condT ?_ ?_;simp (config := { maxSteps := 2000000 }) (disch:=first|omega|rfl) only[sB,Za,reduceCtorEq];refine z02 ?_)|(refine EvC.condF ?_ ?_;simp (config := { maxSteps := 2000000 }) (disch:=first|omega|rfl) only[sB,Za,reduceCtorEq];refine z02 ?_))
   exact z08 rfl (by simp only[sG,Za,reduceCtorEq]) ⟨rfl,rfl⟩
  ·have d2:decide ((c:Int)≤2047)=false:=decide_eq_false (by omega);rw[if_neg h2];by_cases h3:c < 55296
   ·have d3:decide ((55296:Int)≤(c:Int))=false:=decide_eq_false (by omega);have d4:decide ((c:Int)≤65535)=true:=decide_eq_true (by omega);rw[if_neg (by omega),if_pos (by omega)]
    repeat' (first|refine EvC.seq ?_|refine EvC.block ?_|(refine EvC.ret ?_;try simp only[z05,z03])|(refine EvC.reg ?_;simp (config := { maxSteps := 2000000 }) (disch:=first|omega|rfl) only[sB,initTm,Za,reduceCtorEq,d0,d1,d2,d3,d4,Zb])|(refine EvC.condT ?_ ?_;simp (config := { maxSteps := 2000000 }) (disch:=first|omega|rfl) only[sB,Za,reduceCtorEq];refine z02 ?_)|(refine EvC.condF ?_ ?_;simp (config := { maxSteps := 2000000 }) (disch:=first|omega|rfl) only[sB,Za,reduceCtorEq];refine z02 ?_))
    exact z08 rfl (by simp only[sG,Za,reduceCtorEq]) ⟨rfl,rfl⟩
   ·have d3:decide ((55296:Int)≤(c:Int))=true:=decide_eq_true (by omega);by_cases h4:c≤57343
    ·have d5:decide ((c:Int)≤57343)=true:=decide_eq_true (by omega);rw[if_pos (by omega)]
     repeat' (first|refine EvC.seq ?_|refine EvC.block ?_|(refine EvC.ret ?_;try simp only[z05,z03])|(refine EvC.reg ?_;simp (config := { maxSteps := 2000000 }) (disch:=first|omega|rfl) only[sB,initTm,Za,reduceCtorEq,d0,d1,d2,d3,d5])|(refine EvC.condT ?_ ?_;simp (config := { maxSteps := 2000000 }) (disch:=first|omega|rfl) only[sB,Za,reduceCtorEq];refine z02 ?_)|(refine EvC.condF ?_ ?_;simp (config := { maxSteps := 2000000 }) (disch:=first|omega|rfl) only[sB,Za,reduceCtorEq];refine z02 ?_))
     exact z08 rfl (by simp only[sG,Za,reduceCtorEq]) ⟨rfl,rfl⟩
    ·have d5:decide ((c:Int)≤57343)=false:=decide_eq_false (by omega);rw[if_neg (by omega)];by_cases h5:c≤65535
     ·have d4:decide ((c:Int)≤65535)=true:=decide_eq_true (by omega);rw[if_pos h5]
      repeat' (first|refine EvC.seq ?_|refine EvC.block ?_|(refine EvC.ret ?_;try simp only[z05,z03])|(refine EvC.reg ?_;simp (config := { maxSteps := 2000000 }) (disch:=first|omega|rfl) only[sB,initTm,Za,reduceCtorEq,d0,d1,d2,d3,d5,d4])|(refine EvC.condT ?_ ?_;simp (config := { maxSteps := 2000000 }) (disch:=first|omega|rfl) only[sB,Za,reduceCtorEq];refine z02 ?_)|(refine EvC.condF ?_ ?_;simp (config := { maxSteps := 2000000 }) (disch:=first|omega|rfl) only[sB,Za,reduceCtorEq];refine z02 ?_))
      exact z08 rfl (by simp only[sG,Za,reduceCtorEq]) ⟨rfl,rfl⟩
     ·have d4:decide ((c:Int)≤65535)=false:=decide_eq_false (by omega);have d6:decide ((c:Int)≤1114111)=true:=decide_eq_true (by omega);rw[if_neg h5,if_pos hc]
      repeat' (first|refine EvC.seq ?_|refine EvC.block ?_|(refine EvC.ret ?_;try simp only[z05,z03])|(refine EvC.reg ?_;simp (config := { maxSteps := 2000000 }) (disch:=first|omega|rfl) only[sB,initTm,Za,reduceCtorEq,d0,d1,d2,d3,d5,d4,d6])|(refine EvC.condT ?_ ?_;simp (config := { maxSteps := 2000000 }) (disch:=first|omega|rfl) only[sB,Za,reduceCtorEq];refine z02 ?_)|(refine EvC.condF ?_ ?_;simp (config := { maxSteps := 2000000 }) (disch:=first|omega|rfl) only[sB,Za,reduceCtorEq];refine z02 ?_))
      exact z08 rfl (by simp only[sG,Za,reduceCtorEq]) ⟨rfl,rfl⟩
def preB (s u:ByteArray):Bool:=decide (u.size≤s.size) && ((s.extract 0 u.size).data.toList == u.data.toList)
theorem zer {H:Heap}{s u:ByteArray}:EvF Tryd.prog okT 44 [.string s,.string u] H fun v H'=>v=.bool (preB s u)∧H'=H:=by
 refine EvF.enter rfl Tryd.func44 (by decide) rfl ?_;unfold preB;by_cases h:u.size≤s.size
 ·have d0:decide ((s.size:Int) ≥ (u.size:Int))=true:=decide_eq_true (by omega);have hs:=fun G (k:IntKind)=>z2v (P:=Tryd.prog) (H:=G) (k':=k) us9 h
  repeat' (first|refine EvC.seq ?_|(refine EvC.ret ?_)|(refine EvC.reg ?_;simp (config := { maxSteps := 2000000 }) (disch:=first|omega|rfl) only[sB,initTm,Za,reduceCtorEq,ln9,d0,hs,z98]))
  exact z08 rfl (by simp only[sB,Za,reduceCtorEq];rfl) ⟨by simp [h],rfl⟩
 ·have d0:decide ((s.size:Int) ≥ (u.size:Int))=false:=decide_eq_false (by omega)
  repeat' (first|refine EvC.seq ?_|(refine EvC.ret ?_)|(refine EvC.reg ?_;simp (config := { maxSteps := 2000000 }) (disch:=first|omega|rfl) only[sB,initTm,Za,reduceCtorEq,ln9,d0,Zb]))
  exact z08 rfl (by simp only[sB,Za,reduceCtorEq];rfl) ⟨by simp [h],rfl⟩
theorem z9m {H:Heap}{s u:ByteArray}:EvF Tryd.prog okT 35 [.string s,.string u] H fun v H'=>v=.bool (preB s u)∧H'=H:=by
 refine EvF.enter rfl Tryd.func35 (by decide) rfl ?_
 repeat' (first|refine EvC.seq ?_|(refine EvC.reg ?_;simp (config := { maxSteps := 2000000 }) (disch:=first|omega|rfl) only[sB,initTm,Za,reduceCtorEq,cl44]))
 refine zer.mono ?_;rintro v H' ⟨rfl,rfl⟩
 repeat' (first|(refine EvC.ret ?_))
 exact z08 rfl (by simp only[sG,Za,reduceCtorEq]) ⟨rfl,rfl⟩
def oddS:ByteArray:=⟨#[239,191,189]⟩
theorem zes (r:ByteArray):preB r oddS=true↔3≤r.size∧byteAt r 0=239∧byteAt r 1=191∧byteAt r 2=189:=by
 unfold preB;have h3:oddS.size=3:=rfl;rw[h3,Zd,decide_eq_true_eq,beq_iff_eq];constructor
 ·rintro ⟨h,e⟩;have hb:∀k,k < 3→byteAt r k=byteAt oddS k:=fun k hk=>by
   have:byteAt (r.extract 0 3) k=byteAt oddS k:=by unfold byteAt;rw[e]
   rw[←this];have a:k < (r.extract 0 3).size:=by rw[ByteArray.size_extract];omega
   rw[z15 _ _ a,z15 _ _ (by omega:k < r.size),ByteArray.getElem_extract];simp
  exact⟨h,hb 0 (by omega),hb 1 (by omega),hb 2 (by omega)⟩
 ·rintro ⟨h,h0,h1,h2⟩;refine⟨h,?_⟩;have hl:(r.extract 0 3).data.toList.length=3:=by
   have:(r.extract 0 3).size=3:=by rw[ByteArray.size_extract];omega
   rw[Array.length_toList];exact this
  have hb:∀k,k < 3→byteAt (r.extract 0 3) k=byteAt r k:=fun k hk=>by
   have a:k < (r.extract 0 3).size:=by rw[ByteArray.size_extract];omega
   rw[z15 _ _ a,z15 _ _ (by omega:k < r.size),ByteArray.getElem_extract];simp
  have e0:=(hb 0 (by omega)).trans h0;have e1:=(hb 1 (by omega)).trans h1;have e2:=(hb 2 (by omega)).trans h2;unfold byteAt at e0 e1 e2;generalize (r.extract 0 3).data.toList=l at *
  match l,hl with
  |[a,b,c],_ =>
   have f0:a=239:=UInt8.toNat_inj.1 e0;have f1:b=191:=UInt8.toNat_inj.1 e1;have f2:c=189:=UInt8.toNat_inj.1 e2;rw[f0,f1,f2];rfl
def cutC (r:ByteArray):Int × Int:=((Utf8.decode r 0).1,if (Utf8.decode r 0).1=65533∧(Utf8.decode r 0).2=1 then 0 else (Utf8.decode r 0).2)
set_option maxHeartbeats 4000000 in
theorem zhs {H:Heap}{r:ByteArray}(h0:0 < r.size) (hw:H.wf):EvF Tryd.prog okT 33 [.string r] H fun v H'=>v=.tuple ⟨[.int .i64 (cutC r).1,.int .i64 (cutC r).2]⟩∧HX H H':=by
 refine EvF.enter rfl Tryd.func33 (by decide) rfl ?_;obtain⟨H1,e1,hx1,g1,n1,w1⟩:=new1 hw (.siter r 0);have hrg:=fun T (hT:Tryd.prog.underlying T=some .string)=>zhr (P:=Tryd.prog) (H:=H) (t:=T) (s:=r) hT
 have hrg9:=hrg _ Tryd.underlying9;have hnx:=zii g1 h0;have hb:=fun i=>z2p r i
 have hN:=zcu r 0;rw[Nat.sub_zero] at hN;obtain⟨k1,k2⟩:=zg1 (n:=r.size) (hb 0) (hb (0+1)) (hb (0+2)) (hb (0+3));obtain⟨k3,k4,k5⟩:=zal (n:=r.size) (hb 0) (hb (0+1)) (hb (0+2)) (hb (0+3)) h0;rw[←hN] at k1 k2 k3 k4 k5;unfold cutC;generalize Utf8.decode r 0=dd at *;obtain⟨c,w⟩:=dd;simp only at k1 k2 k3 k4 k5 ⊢
 repeat' (first|refine EvC.seq ?_|refine EvC.block ?_|(refine EvC.reg ?_;simp (config := { maxSteps := 2000000 }) (disch:=first|omega|rfl) only[sB,initTm,Za,reduceCtorEq,z47,hrg9,e1]))
 refine EvC.loop1 rfl ?_;obtain⟨H2,e2⟩:∃H2,H1.put H.next (some (.siter r w))=H2:=⟨_,rfl⟩
 have hx2:HX H H2:=by rw[←e2];exact hx1.put (Ze _) (by omega) _
 repeat' (first|refine EvC.seq ?_|refine EvC.block ?_|(refine EvC.skip ?_;try simp only[z00])|(refine EvC.reg ?_;simp (config := { maxSteps := 2000000 }) (disch:=first|omega|rfl) only[sB,Za,reduceCtorEq,cl34,zem,hnx,e2])|(refine EvC.condT ?_ ?_;simp (config := { maxSteps := 2000000 }) (disch:=first|omega|rfl) only[sB,Za,reduceCtorEq];refine z02 ?_))
 refine(zcv k3).mono ?_;rintro v H3 ⟨rfl,rfl⟩;have hwr:IntKind.i64.wrap (c:Int)=c:=z0d (by omega) (by omega);by_cases hc:c=65533
 ·have z1:((c:Int) == 65533)=true:=by rw[hc];rfl
  repeat' (first|refine EvC.seq ?_|(refine EvC.reg ?_;simp (config := { maxSteps := 2000000 }) (disch:=first|omega|rfl) only[sB,Za,reduceCtorEq,cl35,z1]))
  refine(z9m (u:=oddS)).mono ?_;rintro v H4 ⟨rfl,rfl⟩;rcases k2 hc with ⟨rfl,k6⟩|⟨rfl,k6⟩
  ·have hp:preB r oddS=false:=by rw[←Zr,zes];exact k6
   repeat' (first|refine EvC.seq ?_|(refine EvC.ret ?_;try simp only[z05,z03])|(refine EvC.reg ?_;simp (config := { maxSteps := 2000000 }) (disch:=first|omega|rfl) only[sB,Za,reduceCtorEq,zee,hwr])|(refine z0b ?_;simp (config := { maxSteps := 2000000 }) (disch:=first|omega|rfl) only[sB,Za,reduceCtorEq,hp,Bool.not_false])|(refine EvC.condT ?_ ?_;simp (config := { maxSteps := 2000000 }) (disch:=first|omega|rfl) only[sB,Za,reduceCtorEq];refine z02 ?_))
   exact z06 rfl (by simp only[sB,Za,reduceCtorEq];rfl) (by simp only[sB,Za,reduceCtorEq];rfl) ⟨by simp [hc],hx2⟩
  ·have hp:preB r oddS=true:=(zes r).2 k6
   repeat' (first|refine EvC.seq ?_|(refine EvC.skip ?_;try simp only[z00])|(refine EvC.ret ?_;try simp only[z05,z03])|(refine EvC.reg ?_;simp (config := { maxSteps := 2000000 }) (disch:=first|omega|rfl) only[sB,Za,reduceCtorEq,zee,hwr])|(refine z0b ?_;simp (config := { maxSteps := 2000000 }) (disch:=first|omega|rfl) only[sB,Za,reduceCtorEq,hp,Zp])|(refine EvC.condF ?_ ?_;simp (config := { maxSteps := 2000000 }) (disch:=first|omega|rfl) only[sB,Za,reduceCtorEq];refine z02 ?_))
   have hr3:rlen c=(if c=65533∧False then 0 else ((3:Nat):Int)):=by rw[if_neg (fun q=>q.2),hc];rfl
   rw[←hr3];exact z06 rfl (by simp only[sG,Za,reduceCtorEq]) (by simp only[sG,Za,reduceCtorEq]) ⟨rfl,hx2⟩
 ·have z1:((c:Int) == 65533)=false:=z2j (by omega)
  repeat' (first|refine EvC.seq ?_|(refine EvC.skip ?_;try simp only[z00])|(refine EvC.ret ?_;try simp only[z05,z03])|(refine EvC.reg ?_;simp (config := { maxSteps := 2000000 }) (disch:=first|omega|rfl) only[sB,Za,reduceCtorEq,zee,z1,hwr,Zb])|(refine EvC.condF ?_ ?_;simp (config := { maxSteps := 2000000 }) (disch:=first|omega|rfl) only[sB,Za,reduceCtorEq];refine z02 ?_))
  exact z06 rfl (by simp only[sB,Za,reduceCtorEq];rfl) (by simp only[sB,Za,reduceCtorEq];rfl) ⟨by rw[if_neg (fun q=>hc q.1),k1 hc],hx2⟩
end Go.Proofs.hq
end

section
namespace Go.Hb
open Go Go.RowKit
def mayC (v:Nat):Bool:=decide (v≤1114111) && (decide (v < 55296) || decide (57343 < v))
def goodC (b:Nat):Prop:=128≤b∧b < 192
def accC (v0:Nat) (b:Nat→Nat) (j:Nat):Nat:=if j=0 then v0 else if j=1 then v0*64+b 1 - 128 else if j=2 then (v0*64+b 1 - 128)*64+b 2 - 128 else ((v0*64+b 1 - 128)*64+b 2 - 128)*64+b 3 - 128
theorem z6e (v0:Nat) (b:Nat→Nat) {j:Nat}(h:j < 3):accC v0 b (j+1)=accC v0 b j*64+b (j+1) - 128:=by
 have:j=0∨j=1∨j=2:=by omega
 rcases this with rfl|rfl|rfl<;>simp [accC]
def LeadC (c n v0 low:Nat):Prop:=(192≤c∧c < 224∧n=2∧v0=c - 192∧low=128)∨(224≤c∧c < 240∧n=3∧v0=c - 224∧low=2048)∨(240≤c∧c < 248∧n=4∧v0=c - 240∧low=65536)
def refC (n:Nat) (b:Nat→Nat):Nat × Nat:=if Lib.decodeN n (b 0) (b 1) (b 2) (b 3)=(65533,1) then (0,0) else Lib.decodeN n (b 0) (b 1) (b 2) (b 3)
theorem zam {c n v0 low:Nat}{b:Nat→Nat}(hl:LeadC c n v0 low) (hb:∀k,b k < 256) (j:Nat):accC v0 b j < 16777216:=by
 have c1:=hb 1;have c2:=hb 2;have c3:=hb 3;unfold LeadC at hl;unfold accC
 repeat' split
 all_goals omega
set_option maxHeartbeats 4000000 in
theorem z86 {c n m v0 low:Nat}{b:Nat→Nat}(hl:LeadC c n v0 low) (hb:∀k,b k < 256) (h0:b 0=c) {k:Nat}(h1:1≤k) (h2:k < n) (hk:¬goodC (b k)):refC m b=(0,0):=by
 unfold refC;refine if_pos ?_;have c1:=hb 1;have c2:=hb 2;have c3:=hb 3;unfold LeadC at hl;unfold goodC at hk;rw[h0];have hk3:k=1∨k=2∨k=3:=by omega
 unfold Lib.decodeN;rcases hk3 with rfl|rfl|rfl
 all_goals (repeat' split)
 all_goals first|rfl|(exfalso;omega)
set_option maxRecDepth 100000 in
set_option maxHeartbeats 8000000 in
theorem z6f {c n m v0 low:Nat}{b:Nat→Nat}(hl:LeadC c n v0 low) (hb:∀k,b k < 256) (h0:b 0=c) (hm:∀k,m≤k→b k=0) (hg:∀k,1≤k→k < n→goodC (b k)) :
  refC m b=if accC v0 b (n - 1) < low∨mayC (accC v0 b (n - 1))=false then (0,0) else (accC v0 b (n - 1),n):=by
 have c0:=hb 0;have c1:=hb 1;have c2:=hb 2;have c3:=hb 3;have hlt:∀k,goodC (b k)→k < m:=fun k hk=>by
  by_cases h:k < m
  ·exact h
  ·have:=hm k (by omega);unfold goodC at hk;omega
 unfold LeadC at hl;rcases hl with ⟨a1,a2,e1,e2,e3⟩|⟨a1,a2,e1,e2,e3⟩|⟨a1,a2,e1,e2,e3⟩<;>subst e1<;>subst e2<;>subst e3
 ·have g1:=hg 1 (by omega) (by omega);have m1:=hlt 1 g1;unfold goodC at g1;simp only[accC,show 2 - 1=1 from rfl,Za,if_true,if_false,mayC,Bool.and_eq_false_iff,Bool.or_eq_false_iff,decide_eq_false_iff_not];unfold refC;obtain⟨x,hx⟩:∃x,x=Lib.decodeN m (b 0) (b 1) (b 2) (b 3):=⟨_,rfl⟩
  rw[←hx];rw[h0] at hx;unfold Lib.decodeN at hx
  repeat' split at hx
  all_goals subst hx
  all_goals simp only[Prod.mk.injEq,Za,and_false,and_true,and_self,if_true,if_false]
  all_goals (repeat' split)
  all_goals first|rfl|(exfalso;omega)|(apply Prod.ext<;>simp only<;>omega)
 ·have g1:=hg 1 (by omega) (by omega);have g2:=hg 2 (by omega) (by omega);have m1:=hlt 2 g2;unfold goodC at g1 g2;simp only[accC,show 3 - 1=2 from rfl,Za,if_true,if_false,mayC,Bool.and_eq_false_iff,Bool.or_eq_false_iff,decide_eq_false_iff_not];unfold refC;obtain⟨x,hx⟩:∃x,x=Lib.decodeN m (b 0) (b 1) (b 2) (b 3):=⟨_,rfl⟩
  rw[←hx];rw[h0] at hx;unfold Lib.decodeN at hx
  repeat' split at hx
  all_goals subst hx
  all_goals simp only[Prod.mk.injEq,Za,and_false,and_true,and_self,if_true,if_false]
  all_goals (repeat' split)
  all_goals first|rfl|(exfalso;omega)|(apply Prod.ext<;>simp only<;>omega)
 ·have g1:=hg 1 (by omega) (by omega);have g2:=hg 2 (by omega) (by omega);have g3:=hg 3 (by omega) (by omega);have m1:=hlt 3 g3;unfold goodC at g1 g2 g3;simp only[accC,show 4 - 1=3 from rfl,Za,if_false,mayC,Bool.and_eq_false_iff,Bool.or_eq_false_iff,decide_eq_false_iff_not];unfold refC;obtain⟨x,hx⟩:∃x,x=Lib.decodeN m (b 0) (b 1) (b 2) (b 3):=⟨_,rfl⟩
  rw[←hx];rw[h0] at hx;unfold Lib.decodeN at hx
  repeat' split at hx
  all_goals subst hx
  all_goals simp only[Prod.mk.injEq,Za,and_false,and_true,and_self,if_true,if_false]
  all_goals (repeat' split)
  all_goals first|rfl|(exfalso;omega)|(apply Prod.ext<;>simp only<;>omega)
theorem zg2 {c m:Nat}{b:Nat→Nat}(h0:b 0=c) (h:c < 128):refC m b=(c,1):=by
 unfold refC Lib.decodeN;rw[h0,if_pos h];exact if_neg (by intro q;have:=(Prod.mk.inj q).1;omega)
theorem zet {c m:Nat}{b:Nat→Nat}(h0:b 0=c) (h:(128≤c∧c < 192)∨248≤c) (hc:c < 256):refC m b=(0,0):=by
 unfold refC Lib.decodeN;rw[h0];refine if_pos ?_
 repeat' split
 all_goals first|rfl|(exfalso;omega)
end Go.Hb
end

section
namespace Go.Proofs.hq
open Go Go.RowKit Go.Hb
variable {ok:Ok}
set_option maxRecDepth 10000
attribute [local irreducible] LX LG EL STG SOP SGO SGD SAL SRD SEF SEG SLK SCK ES
theorem zbz {H:Heap}{s:ByteArray}{i:Nat}:EvF Tryd.prog okT 41 [.string s,.int .i64 (i:Nat)] H fun v H'=>v=.int .u8 (byteAt s i:Nat)∧H'=H:=by
 refine EvF.enter rfl Tryd.func41 (by decide) rfl ?_;have d0:decide ((i:Int) < 0)=false:=decide_eq_false (by omega);by_cases h:i < s.size
 ·have d1:decide ((i:Int) ≥ (s.size:Int))=false:=decide_eq_false (by omega);have hi:=fun (k:IntKind)=>ix9 (s:=s) (k:=k) (i:=i) (H:=H) h
  repeat' (first|refine EvC.seq ?_|(refine EvC.skip ?_;try simp only[z00])|(refine EvC.ret ?_)|(refine EvC.reg ?_;simp (config := { maxSteps := 2000000 }) (disch:=first|omega|rfl) only[sB,initTm,Za,reduceCtorEq,ln9,d0,d1,hi,Zb])|(refine EvC.condF ?_ ?_;simp (config := { maxSteps := 2000000 }) (disch:=first|omega|rfl) only[sB,Za,reduceCtorEq];refine z02 ?_))
  exact z08 rfl (by simp only[sG,Za,reduceCtorEq]) ⟨rfl,rfl⟩
 ·have d1:decide ((i:Int) ≥ (s.size:Int))=true:=decide_eq_true (by omega)
  repeat' (first|refine EvC.seq ?_|(refine EvC.ret ?_;try simp only[z05,z03])|(refine EvC.reg ?_;simp (config := { maxSteps := 2000000 }) (disch:=first|omega|rfl) only[sB,initTm,Za,reduceCtorEq,ln9,d0,d1,Zb])|(refine EvC.condT ?_ ?_;simp (config := { maxSteps := 2000000 }) (disch:=first|omega|rfl) only[sB,Za,reduceCtorEq];refine z02 ?_))
  exact z08 rfl (by simp only[sB,Za,reduceCtorEq];rfl) ⟨by rw[z1l s (by omega)];rfl,rfl⟩
theorem zeu {H:Heap}{c:Nat}:EvF Tryd.prog okT 42 [.int .i64 (c:Nat)] H fun v H'=>v=.bool (mayC c)∧H'=H:=by
 refine EvF.enter rfl Tryd.func42 (by decide) rfl ?_;have d0:decide ((c:Int) ≥ 0)=true:=decide_eq_true (by omega);unfold mayC;by_cases h1:c≤1114111
 ·have d1:decide ((c:Int)≤1114111)=true:=decide_eq_true (by omega);by_cases h2:c < 55296
  ·have d2:decide ((c:Int) < 55296)=true:=decide_eq_true (by omega)
   repeat' (first|refine EvC.seq ?_|(refine EvC.ret ?_)|(refine EvC.reg ?_;simp (config := { maxSteps := 2000000 }) (disch:=first|omega|rfl) only[sB,initTm,Za,reduceCtorEq,d0,d1,d2]))
   exact z08 rfl (by simp only[sB,Za,reduceCtorEq];rfl) ⟨by simp [h1,h2],rfl⟩
  ·have d2:decide ((c:Int) < 55296)=false:=decide_eq_false (by omega);by_cases h3:57343 < c
   ·have d3:decide ((57343:Int) < (c:Int))=true:=decide_eq_true (by omega)
    repeat' (first|refine EvC.seq ?_|(refine EvC.ret ?_)|(refine EvC.reg ?_;simp (config := { maxSteps := 2000000 }) (disch:=first|omega|rfl) only[sB,initTm,Za,reduceCtorEq,d0,d1,d2,d3,gt_iff_lt,Zb]))
    exact z08 rfl (by simp only[sB,Za,reduceCtorEq];rfl) ⟨by simp [h1,h3],rfl⟩
   ·have d3:decide ((57343:Int) < (c:Int))=false:=decide_eq_false (by omega)
    repeat' (first|refine EvC.seq ?_|(refine EvC.ret ?_)|(refine EvC.reg ?_;simp (config := { maxSteps := 2000000 }) (disch:=first|omega|rfl) only[sB,initTm,Za,reduceCtorEq,d0,d1,d2,d3,gt_iff_lt,Zb]))
    exact z08 rfl (by simp only[sB,Za,reduceCtorEq];rfl) ⟨by simp [h2,h3],rfl⟩
 ·have d1:decide ((c:Int)≤1114111)=false:=decide_eq_false (by omega)
  repeat' (first|refine EvC.seq ?_|(refine EvC.ret ?_)|(refine EvC.reg ?_;simp (config := { maxSteps := 2000000 }) (disch:=first|omega|rfl) only[sB,initTm,Za,reduceCtorEq,d0,d1,Zb]))
  exact z08 rfl (by simp only[sB,Za,reduceCtorEq];rfl) ⟨by simp [h1],rfl⟩
def refCs (s:ByteArray) (i:Nat):Nat × Nat:=if s.size≤i then (0,0) else refC (s.size - i) fun k=>byteAt s (i+k)
set_option maxHeartbeats 8000000 in
theorem zev {H:Heap}{s:ByteArray}{i:Nat}(hi:i≤s.size) (hs:s.size≤4611686018427387904) :
  EvF Tryd.prog okT 29 [.string s,.int .i64 (i:Nat)] H fun v H'=>v=.tuple ⟨[.int .i64 ((refCs s i).1:Nat),.int .i64 ((refCs s i).2:Nat)]⟩∧H'=H:=by
 refine EvF.enter rfl Tryd.func29 (by decide) rfl ?_
 repeat' (first|refine EvC.seq ?_|(refine EvC.reg ?_;simp (config := { maxSteps := 2000000 }) (disch:=first|omega|rfl) only[sB,initTm,Za,reduceCtorEq,cl41]))
 refine zbz.mono ?_;rintro v H' ⟨rfl,rfl⟩;obtain⟨c,hc⟩:∃c,c=byteAt s i:=⟨_,rfl⟩
 have h256:c < 256:=by rw[hc];exact z2p s i
 have hb:=fun k=>z2p s (i+k)
 have hb0:byteAt s (i+0)=c:=by rw[hc,Nat.add_zero]
 rw[←hc];have hw1:IntKind.i64.wrap (c:Int)=c:=z0d (by omega) (by omega);by_cases hend:s.size≤i
 ·have d0:decide ((i:Int) ≥ (s.size:Int))=true:=decide_eq_true (by omega)
  repeat' (first|refine EvC.seq ?_|(refine EvC.ret ?_;try simp only[z05,z03])|(refine EvC.reg ?_;simp (config := { maxSteps := 2000000 }) (disch:=first|omega|rfl) only[sB,Za,reduceCtorEq,ln9,d0])|(refine z0b ?_;simp (config := { maxSteps := 2000000 }) (disch:=first|omega|rfl) only[sB,Za,reduceCtorEq,z30,hw1])|(refine EvC.condT ?_ ?_;simp (config := { maxSteps := 2000000 }) (disch:=first|omega|rfl) only[sB,Za,reduceCtorEq];refine z02 ?_))
  exact z06 rfl (by simp only[sB,Za,reduceCtorEq];rfl) (by simp only[sB,Za,reduceCtorEq];rfl) ⟨by rw[refCs,if_pos hend];rfl,rfl⟩
 have d0:decide ((i:Int) ≥ (s.size:Int))=false:=decide_eq_false (by omega);have hR:refCs s i=refC (s.size - i) fun k=>byteAt s (i+k):=by rw[refCs,if_neg hend]
 by_cases h128:c < 128
 ·have d1:decide ((c:Int) < 128)=true:=decide_eq_true (by omega)
  repeat' (first|refine EvC.seq ?_|(refine EvC.skip ?_;try simp only[z00])|(refine EvC.ret ?_;try simp only[z05,z03])|(refine EvC.reg ?_;simp (config := { maxSteps := 2000000 }) (disch:=first|omega|rfl) only[sB,Za,reduceCtorEq,ln9,d0,d1])|(refine z0b ?_;simp (config := { maxSteps := 2000000 }) (disch:=first|omega|rfl) only[sB,Za,reduceCtorEq,z30,hw1])|(refine EvC.condT ?_ ?_;simp (config := { maxSteps := 2000000 }) (disch:=first|omega|rfl) only[sB,Za,reduceCtorEq];refine z02 ?_)|(refine EvC.condF ?_ ?_;simp (config := { maxSteps := 2000000 }) (disch:=first|omega|rfl) only[sB,Za,reduceCtorEq];refine z02 ?_))
  exact z06 rfl (by simp only[sB,Za,reduceCtorEq];rfl) (by simp only[sB,Za,reduceCtorEq];rfl) ⟨by rw[hR,zg2 hb0 h128];rfl,rfl⟩
 have d1:decide ((c:Int) < 128)=false:=decide_eq_false (by omega);by_cases hno:(128≤c∧c < 192)∨248≤c
 ·have hR0:refCs s i=(0,0):=by rw[hR];exact zet hb0 hno h256
  rcases hno with ⟨h1,h2⟩|h1
  ·have q1:decide ((c:Int) ≥ 192)=false:=decide_eq_false (by omega);have q3:decide ((c:Int) ≥ 224)=false:=decide_eq_false (by omega);have q5:decide ((c:Int) ≥ 240)=false:=decide_eq_false (by omega)
   repeat' (first|refine EvC.seq ?_|refine EvC.block ?_|(refine EvC.skip ?_;try simp only[z00])|(refine EvC.ret ?_;try simp only[z05,z03])|(refine EvC.reg ?_;simp (config := { maxSteps := 2000000 }) (disch:=first|omega|rfl) only[sB,Za,reduceCtorEq,ln9,d0,d1,q1,q3,q5,Zb])|(refine z0b ?_;simp (config := { maxSteps := 2000000 }) (disch:=first|omega|rfl) only[sB,Za,reduceCtorEq,z30,hw1])|(refine EvC.condF ?_ ?_;simp (config := { maxSteps := 2000000 }) (disch:=first|omega|rfl) only[sB,Za,reduceCtorEq];refine z02 ?_))
   exact z06 rfl (by simp only[sB,Za,reduceCtorEq];rfl) (by simp only[sB,Za,reduceCtorEq];rfl) ⟨by rw[hR0];rfl,rfl⟩
  ·have q1:decide ((c:Int) ≥ 192)=true:=decide_eq_true (by omega);have q2:decide ((c:Int) < 224)=false:=decide_eq_false (by omega);have q3:decide ((c:Int) ≥ 224)=true:=decide_eq_true (by omega);have q4:decide ((c:Int) < 240)=false:=decide_eq_false (by omega);have q5:decide ((c:Int) ≥ 240)=true:=decide_eq_true (by omega);have q6:decide ((c:Int) < 248)=false:=decide_eq_false (by omega)
   repeat' (first|refine EvC.seq ?_|refine EvC.block ?_|(refine EvC.skip ?_;try simp only[z00])|(refine EvC.ret ?_;try simp only[z05,z03])|(refine EvC.reg ?_;simp (config := { maxSteps := 2000000 }) (disch:=first|omega|rfl) only[sB,Za,reduceCtorEq,ln9,d0,d1,q1,q2,q3,q4,q5,q6])|(refine z0b ?_;simp (config := { maxSteps := 2000000 }) (disch:=first|omega|rfl) only[sB,Za,reduceCtorEq,z30,hw1])|(refine EvC.condF ?_ ?_;simp (config := { maxSteps := 2000000 }) (disch:=first|omega|rfl) only[sB,Za,reduceCtorEq];refine z02 ?_))
   exact z06 rfl (by simp only[sB,Za,reduceCtorEq];rfl) (by simp only[sB,Za,reduceCtorEq];rfl) ⟨by rw[hR0];rfl,rfl⟩
 have hcs:(192≤c∧c < 224)∨(224≤c∧c < 240)∨(240≤c∧c < 248):=by omega
 rcases hcs with ⟨h1,h2⟩|⟨h1,h2⟩|⟨h1,h2⟩
 ·have q1:decide ((c:Int) ≥ 192)=true:=decide_eq_true (by omega);have q2:decide ((c:Int) < 224)=true:=decide_eq_true (by omega);have hw2:IntKind.i64.wrap ((c:Int) - 192)=((c - 192:Nat):Int):=by rw[z0d (by omega) (by omega)];omega
  repeat' (first|refine EvC.seq ?_|refine EvC.block ?_|(refine EvC.skip ?_;try simp only[z00])|(refine EvC.reg ?_;simp (config := { maxSteps := 2000000 }) (disch:=first|omega|rfl) only[sB,Za,reduceCtorEq,ln9,hw2,d0,d1,q1,q2])|(refine z0b ?_;simp (config := { maxSteps := 2000000 }) (disch:=first|omega|rfl) only[sB,Za,reduceCtorEq,z30,hw1])|(refine EvC.condT ?_ ?_;simp (config := { maxSteps := 2000000 }) (disch:=first|omega|rfl) only[sB,Za,reduceCtorEq];refine z02 ?_)|(refine EvC.condF ?_ ?_;simp (config := { maxSteps := 2000000 }) (disch:=first|omega|rfl) only[sB,Za,reduceCtorEq];refine z02 ?_))
  refine EvC.frame (fun tm=>∃n v0 low,LeadC c n v0 low∧tm.get 0=some (.string s)∧tm.get 1=some (.int .i64 (i:Nat))∧tm.get 7=some (.int .i64 (n:Nat))∧tm.get 8=some (.int .i64 (v0:Nat))∧tm.get 9=some (.int .i64 (low:Nat))∧tm.get 10=some (.int .i64 1)) ⟨2,c - 192,128,.inl ⟨h1,h2,rfl,rfl,rfl⟩,(by simp only[sG,reduceCtorEq]),(by simp only[sG,Za,reduceCtorEq]),(by simp only[sB,Za,reduceCtorEq];rfl),(by simp only[sG,Za,reduceCtorEq]),(by simp only[sB,Za,reduceCtorEq];rfl),(by simp only[sG,Za,reduceCtorEq])⟩ ?_;rintro tm ⟨n,v0,low,hl,t0,t1,t7,t8,t9,t10⟩;have hn4:2≤n∧n≤4∧low≤65536:=by unfold LeadC at hl;omega
  refine EvC.loop (fun k st=>∃tm j,st=⟨tm,[],H'⟩∧k=n - 1 - j∧j+1≤n∧(∀k,1≤k→k≤j→goodC (byteAt s (i+k)))∧tm.get 0=some (.string s)∧tm.get 1=some (.int .i64 (i:Nat))∧tm.get 7=some (.int .i64 (n:Nat))∧tm.get 8=some (.int .i64 (accC v0 (fun k=>byteAt s (i+k)) j:Nat))∧tm.get 9=some (.int .i64 (low:Nat))∧tm.get 10=some (.int .i64 (j+1:Nat))) ?_ (n - 1) _ ?_
  ·rintro k st ⟨tm,j,rfl,rfl,hj,hg,t0,t1,t7,t8,t9,t10⟩;have hacc:=zam hl hb j;by_cases hjn:j+1 < n
   ·have hw3:IntKind.i64.wrap ((i:Int)+((j+1:Nat):Int))=((i+(j+1):Nat):Int):=by rw[z0d (by omega) (by omega)];omega
    repeat' (first|refine EvC.seq ?_|refine EvC.block ?_|(refine EvC.skip ?_;try simp only[z00])|(refine EvC.reg ?_;simp (config := { maxSteps := 2000000 }) (disch:=first|omega|rfl) only[sB,Za,reduceCtorEq,cl41,t0,t1,t7,t10,decl hjn,hw3])|(refine EvC.condT ?_ ?_;simp (config := { maxSteps := 2000000 }) (disch:=first|omega|rfl) only[sB,Za];refine z02 ?_))
    refine zbz.mono ?_;rintro v H2 ⟨rfl,rfl⟩;obtain⟨x,hx⟩:∃x,x=byteAt s (i+(j+1)):=⟨_,rfl⟩
    have hx256:x < 256:=by rw[hx];exact hb (j+1)
    rw[←hx];have ha:accC v0 (fun k=>byteAt s (i+k)) (j+1)=accC v0 (fun k=>byteAt s (i+k)) j*64+x - 128:=by rw[z6e _ _ (by omega),hx]
    obtain⟨a,hae⟩:∃a,a=accC v0 (fun k=>byteAt s (i+k)) j:=⟨_,rfl⟩
    rw[←hae] at ha hacc t8;have hw4:IntKind.i64.wrap (x:Int)=x:=z0d (by omega) (by omega);by_cases hbad:goodC x
    ·have hgx:=hbad;unfold goodC at hgx;have f1:decide ((x:Int) < 128)=false:=decide_eq_false (by omega);have f2:decide ((x:Int) ≥ 192)=false:=decide_eq_false (by omega);have hw5:IntKind.i64.wrap ((a:Int)*64)=(a:Int)*64:=z0d (by omega) (by omega);have hw6:IntKind.i64.wrap ((a:Int)*64+(x:Int))=(a:Int)*64+x:=z0d (by omega) (by omega);have hw7:IntKind.i64.wrap ((a:Int)*64+(x:Int) - 128)=((a*64+x - 128:Nat):Int):=by rw[z0d (by omega) (by omega)];omega
     have hw8:IntKind.i64.wrap (((j+1:Nat):Int)+1)=((j+1+1:Nat):Int):=by rw[z0d]<;>omega
     repeat' (first|refine EvC.seq ?_|(refine EvC.skip ?_;try simp only[z00])|(refine EvC.reg ?_;simp (config := { maxSteps := 2000000 }) (disch:=first|omega|rfl) only[sB,Za,f1,f2,t8,hw5,hw6,hw7,t10,hw8,Zb])|(refine z0b ?_;simp (config := { maxSteps := 2000000 }) (disch:=first|omega|rfl) only[sB,Za,z30,hw4])|(refine EvC.condF ?_ ?_;simp (config := { maxSteps := 2000000 }) (disch:=first|omega|rfl) only[sB,Za];refine z02 ?_))
     refine⟨_,by omega,_,j+1,rfl,rfl,by omega,fun k k1 k2=>?_,(by simp only[sG,reduceCtorEq,t0]),(by simp only[sG,Za,t1]),(by simp only[sG,Za,t7]),?_,(by simp only[sG,Za,t9]),(by simp only[sG,Za])⟩
     ·by_cases hk:k≤j
      ·exact hg k k1 hk
      ·obtain rfl:k=j+1:=by omega
       rw[←hx];exact hbad
     ·rw[ha];exact(by simp only[sG,Za])
    ·have hR0:refCs s i=(0,0):=by rw[hR];exact z86 hl hb hb0 (k:=j+1) (by omega) hjn (by rw[←hx];exact hbad)
     unfold goodC at hbad;by_cases hx1:x < 128
     ·have f1:decide ((x:Int) < 128)=true:=decide_eq_true (by omega)
      repeat' (first|refine EvC.seq ?_|(refine EvC.ret ?_;try simp only[z05,z03])|(refine EvC.reg ?_;simp (config := { maxSteps := 2000000 }) (disch:=first|omega|rfl) only[sB,Za,f1])|(refine z0b ?_;simp (config := { maxSteps := 2000000 }) (disch:=first|omega|rfl) only[sB,Za,z30,hw4])|(refine EvC.condT ?_ ?_;simp (config := { maxSteps := 2000000 }) (disch:=first|omega|rfl) only[sB,Za];refine z02 ?_))
      exact z06 rfl (by simp only[sB,Za];rfl) (by simp only[sB,Za];rfl) ⟨by rw[hR0];rfl,rfl⟩
     ·have f1:decide ((x:Int) < 128)=false:=decide_eq_false (by omega);have f2:decide ((x:Int) ≥ 192)=true:=decide_eq_true (by omega)
      repeat' (first|refine EvC.seq ?_|(refine EvC.ret ?_;try simp only[z05,z03])|(refine EvC.reg ?_;simp (config := { maxSteps := 2000000 }) (disch:=first|omega|rfl) only[sB,Za,f1,f2,Zb])|(refine z0b ?_;simp (config := { maxSteps := 2000000 }) (disch:=first|omega|rfl) only[sB,Za,z30,hw4])|(refine EvC.condT ?_ ?_;simp (config := { maxSteps := 2000000 }) (disch:=first|omega|rfl) only[sB,Za];refine z02 ?_))
      exact z06 rfl (by simp only[sB,Za];rfl) (by simp only[sB,Za];rfl) ⟨by rw[hR0];rfl,rfl⟩
   ·obtain rfl:n=j+1:=by omega
    have hgd:=z6f hl hb hb0 (m:=s.size - i) (fun k hk=>z1l s (by omega)) (fun k k1 k2=>hg k k1 (by omega));rw[Nat.add_sub_cancel,←hR] at hgd;generalize accC v0 (fun k=>byteAt s (i+k)) j=a at *;by_cases hlo:a < low
    ·repeat' (first|refine EvC.seq ?_|(refine EvC.exit ?_;try simp only[sB])|(refine EvC.ret ?_;try simp only[z05,z03])|(refine EvC.reg ?_;simp (config := { maxSteps := 2000000 }) (disch:=first|omega|rfl) only[sB,Za,Zj,t7,t10,decn hjn,t8,t9,decl hlo])|(refine EvC.condT ?_ ?_;simp (config := { maxSteps := 2000000 }) (disch:=first|omega|rfl) only[sB,Za];refine z02 ?_)|(refine EvC.condF ?_ ?_;simp (config := { maxSteps := 2000000 }) (disch:=first|omega|rfl) only[sB,Za];refine z02 ?_))
     exact z06 rfl (by simp only[sB,Za];rfl) (by simp only[sB,Za];rfl) ⟨by rw[hgd,if_pos (.inl hlo)];rfl,rfl⟩
    ·repeat' (first|refine EvC.seq ?_|(refine EvC.exit ?_;try simp only[sB])|(refine EvC.reg ?_;simp (config := { maxSteps := 2000000 }) (disch:=first|omega|rfl) only[sB,Za,Zj,cl42,t7,t10,decn hjn,t8,t9,decn hlo])|(refine EvC.condF ?_ ?_;simp (config := { maxSteps := 2000000 }) (disch:=first|omega|rfl) only[sB,Za];refine z02 ?_))
     refine zeu.mono ?_;rintro v H2 ⟨rfl,rfl⟩;cases hmm:mayC a with
     |false =>
      repeat' (first|refine EvC.seq ?_|(refine EvC.ret ?_;try simp only[z05,z03])|(refine EvC.reg ?_;simp (config := { maxSteps := 2000000 }) (disch:=first|omega|rfl) only[sA])|(refine z0b ?_;simp (config := { maxSteps := 2000000 }) (disch:=first|omega|rfl) only[sB,Za,reduceCtorEq,Bool.not_false])|(refine EvC.condT ?_ ?_;simp (config := { maxSteps := 2000000 }) (disch:=first|omega|rfl) only[sB,Za];refine z02 ?_))
      exact z06 rfl (by simp only[sB,Za];rfl) (by simp only[sB,Za];rfl) ⟨by rw[hgd,if_pos (.inr hmm)];rfl,rfl⟩
     |true =>
      repeat' (first|refine EvC.seq ?_|(refine EvC.skip ?_;try simp only[z00])|(refine EvC.ret ?_)|(refine EvC.reg ?_;simp (config := { maxSteps := 2000000 }) (disch:=first|omega|rfl) only[sB,Za,t7,t8])|(refine z0b ?_;simp (config := { maxSteps := 2000000 }) (disch:=first|omega|rfl) only[sB,Za,Zp,Zb])|(refine EvC.condF ?_ ?_;simp (config := { maxSteps := 2000000 }) (disch:=first|omega|rfl) only[sB,Za];refine z02 ?_))
      exact z06 rfl (by simp only[sB,Za];rfl) (by simp only[sB,Za];rfl) ⟨by rw[hgd,if_neg (fun q=>q.elim hlo fun q=>by rw[hmm] at q;cases q)],rfl⟩
  ·exact⟨_,0,rfl,by omega,by omega,fun k k1 k2=>by omega,t0,t1,t7,t8,t9,t10⟩
 ·have q1:decide ((c:Int) ≥ 192)=true:=decide_eq_true (by omega);have q2:decide ((c:Int) < 224)=false:=decide_eq_false (by omega);have q3:decide ((c:Int) ≥ 224)=true:=decide_eq_true (by omega);have q4:decide ((c:Int) < 240)=true:=decide_eq_true (by omega);have hw2:IntKind.i64.wrap ((c:Int) - 224)=((c - 224:Nat):Int):=by rw[z0d (by omega) (by omega)];omega
  repeat' (first|refine EvC.seq ?_|refine EvC.block ?_|(refine EvC.skip ?_;try simp only[z00])|(refine EvC.reg ?_;simp (config := { maxSteps := 2000000 }) (disch:=first|omega|rfl) only[sB,Za,reduceCtorEq,ln9,hw2,d0,d1,q1,q2,q3,q4])|(refine z0b ?_;simp (config := { maxSteps := 2000000 }) (disch:=first|omega|rfl) only[sB,Za,reduceCtorEq,z30,hw1])|(refine EvC.condT ?_ ?_;simp (config := { maxSteps := 2000000 }) (disch:=first|omega|rfl) only[sB,Za,reduceCtorEq];refine z02 ?_)|(refine EvC.condF ?_ ?_;simp (config := { maxSteps := 2000000 }) (disch:=first|omega|rfl) only[sB,Za,reduceCtorEq];refine z02 ?_))
  refine EvC.frame (fun tm=>∃n v0 low,LeadC c n v0 low∧tm.get 0=some (.string s)∧tm.get 1=some (.int .i64 (i:Nat))∧tm.get 7=some (.int .i64 (n:Nat))∧tm.get 8=some (.int .i64 (v0:Nat))∧tm.get 9=some (.int .i64 (low:Nat))∧tm.get 10=some (.int .i64 1)) ⟨3,c - 224,2048,.inr (.inl ⟨h1,h2,rfl,rfl,rfl⟩),(by simp only[sG,reduceCtorEq]),(by simp only[sG,Za,reduceCtorEq]),(by simp only[sB,Za,reduceCtorEq];rfl),(by simp only[sG,Za,reduceCtorEq]),(by simp only[sB,Za,reduceCtorEq];rfl),(by simp only[sG,Za,reduceCtorEq])⟩ ?_;rintro tm ⟨n,v0,low,hl,t0,t1,t7,t8,t9,t10⟩;have hn4:2≤n∧n≤4∧low≤65536:=by unfold LeadC at hl;omega
  refine EvC.loop (fun k st=>∃tm j,st=⟨tm,[],H'⟩∧k=n - 1 - j∧j+1≤n∧(∀k,1≤k→k≤j→goodC (byteAt s (i+k)))∧tm.get 0=some (.string s)∧tm.get 1=some (.int .i64 (i:Nat))∧tm.get 7=some (.int .i64 (n:Nat))∧tm.get 8=some (.int .i64 (accC v0 (fun k=>byteAt s (i+k)) j:Nat))∧tm.get 9=some (.int .i64 (low:Nat))∧tm.get 10=some (.int .i64 (j+1:Nat))) ?_ (n - 1) _ ?_
  ·rintro k st ⟨tm,j,rfl,rfl,hj,hg,t0,t1,t7,t8,t9,t10⟩;have hacc:=zam hl hb j;by_cases hjn:j+1 < n
   ·have hw3:IntKind.i64.wrap ((i:Int)+((j+1:Nat):Int))=((i+(j+1):Nat):Int):=by rw[z0d (by omega) (by omega)];omega
    repeat' (first|refine EvC.seq ?_|refine EvC.block ?_|(refine EvC.skip ?_;try simp only[z00])|(refine EvC.reg ?_;simp (config := { maxSteps := 2000000 }) (disch:=first|omega|rfl) only[sB,Za,reduceCtorEq,cl41,t0,t1,t7,t10,decl hjn,hw3])|(refine EvC.condT ?_ ?_;simp (config := { maxSteps := 2000000 }) (disch:=first|omega|rfl) only[sB,Za];refine z02 ?_))
    refine zbz.mono ?_;rintro v H2 ⟨rfl,rfl⟩;obtain⟨x,hx⟩:∃x,x=byteAt s (i+(j+1)):=⟨_,rfl⟩
    have hx256:x < 256:=by rw[hx];exact hb (j+1)
    rw[←hx];have ha:accC v0 (fun k=>byteAt s (i+k)) (j+1)=accC v0 (fun k=>byteAt s (i+k)) j*64+x - 128:=by rw[z6e _ _ (by omega),hx]
    obtain⟨a,hae⟩:∃a,a=accC v0 (fun k=>byteAt s (i+k)) j:=⟨_,rfl⟩
    rw[←hae] at ha hacc t8;have hw4:IntKind.i64.wrap (x:Int)=x:=z0d (by omega) (by omega);by_cases hbad:goodC x
    ·have hgx:=hbad;unfold goodC at hgx;have f1:decide ((x:Int) < 128)=false:=decide_eq_false (by omega);have f2:decide ((x:Int) ≥ 192)=false:=decide_eq_false (by omega);have hw5:IntKind.i64.wrap ((a:Int)*64)=(a:Int)*64:=z0d (by omega) (by omega);have hw6:IntKind.i64.wrap ((a:Int)*64+(x:Int))=(a:Int)*64+x:=z0d (by omega) (by omega);have hw7:IntKind.i64.wrap ((a:Int)*64+(x:Int) - 128)=((a*64+x - 128:Nat):Int):=by rw[z0d (by omega) (by omega)];omega
     have hw8:IntKind.i64.wrap (((j+1:Nat):Int)+1)=((j+1+1:Nat):Int):=by rw[z0d]<;>omega
     repeat' (first|refine EvC.seq ?_|(refine EvC.skip ?_;try simp only[z00])|(refine EvC.reg ?_;simp (config := { maxSteps := 2000000 }) (disch:=first|omega|rfl) only[sB,Za,f1,f2,t8,hw5,hw6,hw7,t10,hw8,Zb])|(refine z0b ?_;simp (config := { maxSteps := 2000000 }) (disch:=first|omega|rfl) only[sB,Za,z30,hw4])|(refine EvC.condF ?_ ?_;simp (config := { maxSteps := 2000000 }) (disch:=first|omega|rfl) only[sB,Za];refine z02 ?_))
     refine⟨_,by omega,_,j+1,rfl,rfl,by omega,fun k k1 k2=>?_,(by simp only[sG,reduceCtorEq,t0]),(by simp only[sG,Za,t1]),(by simp only[sG,Za,t7]),?_,(by simp only[sG,Za,t9]),(by simp only[sG,Za])⟩
     ·by_cases hk:k≤j
      ·exact hg k k1 hk
      ·obtain rfl:k=j+1:=by omega
       rw[←hx];exact hbad
     ·rw[ha];exact(by simp only[sG,Za])
    ·have hR0:refCs s i=(0,0):=by rw[hR];exact z86 hl hb hb0 (k:=j+1) (by omega) hjn (by rw[←hx];exact hbad)
     unfold goodC at hbad;by_cases hx1:x < 128
     ·have f1:decide ((x:Int) < 128)=true:=decide_eq_true (by omega)
      repeat' (first|refine EvC.seq ?_|(refine EvC.ret ?_;try simp only[z05,z03])|(refine EvC.reg ?_;simp (config := { maxSteps := 2000000 }) (disch:=first|omega|rfl) only[sB,Za,f1])|(refine z0b ?_;simp (config := { maxSteps := 2000000 }) (disch:=first|omega|rfl) only[sB,Za,z30,hw4])|(refine EvC.condT ?_ ?_;simp (config := { maxSteps := 2000000 }) (disch:=first|omega|rfl) only[sB,Za];refine z02 ?_))
      exact z06 rfl (by simp only[sB,Za];rfl) (by simp only[sB,Za];rfl) ⟨by rw[hR0];rfl,rfl⟩
     ·have f1:decide ((x:Int) < 128)=false:=decide_eq_false (by omega);have f2:decide ((x:Int) ≥ 192)=true:=decide_eq_true (by omega)
      repeat' (first|refine EvC.seq ?_|(refine EvC.ret ?_;try simp only[z05,z03])|(refine EvC.reg ?_;simp (config := { maxSteps := 2000000 }) (disch:=first|omega|rfl) only[sB,Za,f1,f2,Zb])|(refine z0b ?_;simp (config := { maxSteps := 2000000 }) (disch:=first|omega|rfl) only[sB,Za,z30,hw4])|(refine EvC.condT ?_ ?_;simp (config := { maxSteps := 2000000 }) (disch:=first|omega|rfl) only[sB,Za];refine z02 ?_))
      exact z06 rfl (by simp only[sB,Za];rfl) (by simp only[sB,Za];rfl) ⟨by rw[hR0];rfl,rfl⟩
   ·obtain rfl:n=j+1:=by omega
    have hgd:=z6f hl hb hb0 (m:=s.size - i) (fun k hk=>z1l s (by omega)) (fun k k1 k2=>hg k k1 (by omega));rw[Nat.add_sub_cancel,←hR] at hgd;generalize accC v0 (fun k=>byteAt s (i+k)) j=a at *;by_cases hlo:a < low
    ·repeat' (first|refine EvC.seq ?_|(refine EvC.exit ?_;try simp only[sB])|(refine EvC.ret ?_;try simp only[z05,z03])|(refine EvC.reg ?_;simp (config := { maxSteps := 2000000 }) (disch:=first|omega|rfl) only[sB,Za,Zj,t7,t10,decn hjn,t8,t9,decl hlo])|(refine EvC.condT ?_ ?_;simp (config := { maxSteps := 2000000 }) (disch:=first|omega|rfl) only[sB,Za];refine z02 ?_)|(refine EvC.condF ?_ ?_;simp (config := { maxSteps := 2000000 }) (disch:=first|omega|rfl) only[sB,Za];refine z02 ?_))
     exact z06 rfl (by simp only[sB,Za];rfl) (by simp only[sB,Za];rfl) ⟨by rw[hgd,if_pos (.inl hlo)];rfl,rfl⟩
    ·repeat' (first|refine EvC.seq ?_|(refine EvC.exit ?_;try simp only[sB])|(refine EvC.reg ?_;simp (config := { maxSteps := 2000000 }) (disch:=first|omega|rfl) only[sB,Za,Zj,cl42,t7,t10,decn hjn,t8,t9,decn hlo])|(refine EvC.condF ?_ ?_;simp (config := { maxSteps := 2000000 }) (disch:=first|omega|rfl) only[sB,Za];refine z02 ?_))
     refine zeu.mono ?_;rintro v H2 ⟨rfl,rfl⟩;cases hmm:mayC a with
     |false =>
      repeat' (first|refine EvC.seq ?_|(refine EvC.ret ?_;try simp only[z05,z03])|(refine EvC.reg ?_;simp (config := { maxSteps := 2000000 }) (disch:=first|omega|rfl) only[sA])|(refine z0b ?_;simp (config := { maxSteps := 2000000 }) (disch:=first|omega|rfl) only[sB,Za,reduceCtorEq,Bool.not_false])|(refine EvC.condT ?_ ?_;simp (config := { maxSteps := 2000000 }) (disch:=first|omega|rfl) only[sB,Za];refine z02 ?_))
      exact z06 rfl (by simp only[sB,Za];rfl) (by simp only[sB,Za];rfl) ⟨by rw[hgd,if_pos (.inr hmm)];rfl,rfl⟩
     |true =>
      repeat' (first|refine EvC.seq ?_|(refine EvC.skip ?_;try simp only[z00])|(refine EvC.ret ?_)|(refine EvC.reg ?_;simp (config := { maxSteps := 2000000 }) (disch:=first|omega|rfl) only[sB,Za,t7,t8])|(refine z0b ?_;simp (config := { maxSteps := 2000000 }) (disch:=first|omega|rfl) only[sB,Za,Zp,Zb])|(refine EvC.condF ?_ ?_;simp (config := { maxSteps := 2000000 }) (disch:=first|omega|rfl) only[sB,Za];refine z02 ?_))
      exact z06 rfl (by simp only[sB,Za];rfl) (by simp only[sB,Za];rfl) ⟨by rw[hgd,if_neg (fun q=>q.elim hlo fun q=>by rw[hmm] at q;cases q)],rfl⟩
  ·exact⟨_,0,rfl,by omega,by omega,fun k k1 k2=>by omega,t0,t1,t7,t8,t9,t10⟩
 ·have q1:decide ((c:Int) ≥ 192)=true:=decide_eq_true (by omega);have q2:decide ((c:Int) < 224)=false:=decide_eq_false (by omega);have q3:decide ((c:Int) ≥ 224)=true:=decide_eq_true (by omega);have q4:decide ((c:Int) < 240)=false:=decide_eq_false (by omega);have q5:decide ((c:Int) ≥ 240)=true:=decide_eq_true (by omega);have q6:decide ((c:Int) < 248)=true:=decide_eq_true (by omega);have hw2:IntKind.i64.wrap ((c:Int) - 240)=((c - 240:Nat):Int):=by rw[z0d (by omega) (by omega)];omega
  repeat' (first|refine EvC.seq ?_|refine EvC.block ?_|(refine EvC.skip ?_;try simp only[z00])|(refine EvC.reg ?_;simp (config := { maxSteps := 2000000 }) (disch:=first|omega|rfl) only[sB,Za,reduceCtorEq,ln9,hw2,d0,d1,q1,q2,q3,q4,q5,q6])|(refine z0b ?_;simp (config := { maxSteps := 2000000 }) (disch:=first|omega|rfl) only[sB,Za,reduceCtorEq,z30,hw1])|(refine EvC.condT ?_ ?_;simp (config := { maxSteps := 2000000 }) (disch:=first|omega|rfl) only[sB,Za,reduceCtorEq];refine z02 ?_)|(refine EvC.condF ?_ ?_;simp (config := { maxSteps := 2000000 }) (disch:=first|omega|rfl) only[sB,Za,reduceCtorEq];refine z02 ?_))
  refine EvC.frame (fun tm=>∃n v0 low,LeadC c n v0 low∧tm.get 0=some (.string s)∧tm.get 1=some (.int .i64 (i:Nat))∧tm.get 7=some (.int .i64 (n:Nat))∧tm.get 8=some (.int .i64 (v0:Nat))∧tm.get 9=some (.int .i64 (low:Nat))∧tm.get 10=some (.int .i64 1)) ⟨4,c - 240,65536,.inr (.inr ⟨h1,h2,rfl,rfl,rfl⟩),(by simp only[sG,reduceCtorEq]),(by simp only[sG,Za,reduceCtorEq]),(by simp only[sB,Za,reduceCtorEq];rfl),(by simp only[sG,Za,reduceCtorEq]),(by simp only[sB,Za,reduceCtorEq];rfl),(by simp only[sG,Za,reduceCtorEq])⟩ ?_;rintro tm ⟨n,v0,low,hl,t0,t1,t7,t8,t9,t10⟩;have hn4:2≤n∧n≤4∧low≤65536:=by unfold LeadC at hl;omega
  refine EvC.loop (fun k st=>∃tm j,st=⟨tm,[],H'⟩∧k=n - 1 - j∧j+1≤n∧(∀k,1≤k→k≤j→goodC (byteAt s (i+k)))∧tm.get 0=some (.string s)∧tm.get 1=some (.int .i64 (i:Nat))∧tm.get 7=some (.int .i64 (n:Nat))∧tm.get 8=some (.int .i64 (accC v0 (fun k=>byteAt s (i+k)) j:Nat))∧tm.get 9=some (.int .i64 (low:Nat))∧tm.get 10=some (.int .i64 (j+1:Nat))) ?_ (n - 1) _ ?_
  ·rintro k st ⟨tm,j,rfl,rfl,hj,hg,t0,t1,t7,t8,t9,t10⟩;have hacc:=zam hl hb j;by_cases hjn:j+1 < n
   ·have hw3:IntKind.i64.wrap ((i:Int)+((j+1:Nat):Int))=((i+(j+1):Nat):Int):=by rw[z0d (by omega) (by omega)];omega
    repeat' (first|refine EvC.seq ?_|refine EvC.block ?_|(refine EvC.skip ?_;try simp only[z00])|(refine EvC.reg ?_;simp (config := { maxSteps := 2000000 }) (disch:=first|omega|rfl) only[sB,Za,reduceCtorEq,cl41,t0,t1,t7,t10,decl hjn,hw3])|(refine EvC.condT ?_ ?_;simp (config := { maxSteps := 2000000 }) (disch:=first|omega|rfl) only[sB,Za];refine z02 ?_))
    refine zbz.mono ?_;rintro v H2 ⟨rfl,rfl⟩;obtain⟨x,hx⟩:∃x,x=byteAt s (i+(j+1)):=⟨_,rfl⟩
    have hx256:x < 256:=by rw[hx];exact hb (j+1)
    rw[←hx];have ha:accC v0 (fun k=>byteAt s (i+k)) (j+1)=accC v0 (fun k=>byteAt s (i+k)) j*64+x - 128:=by rw[z6e _ _ (by omega),hx]
    obtain⟨a,hae⟩:∃a,a=accC v0 (fun k=>byteAt s (i+k)) j:=⟨_,rfl⟩
    rw[←hae] at ha hacc t8;have hw4:IntKind.i64.wrap (x:Int)=x:=z0d (by omega) (by omega);by_cases hbad:goodC x
    ·have hgx:=hbad;unfold goodC at hgx;have f1:decide ((x:Int) < 128)=false:=decide_eq_false (by omega);have f2:decide ((x:Int) ≥ 192)=false:=decide_eq_false (by omega);have hw5:IntKind.i64.wrap ((a:Int)*64)=(a:Int)*64:=z0d (by omega) (by omega);have hw6:IntKind.i64.wrap ((a:Int)*64+(x:Int))=(a:Int)*64+x:=z0d (by omega) (by omega);have hw7:IntKind.i64.wrap ((a:Int)*64+(x:Int) - 128)=((a*64+x - 128:Nat):Int):=by rw[z0d (by omega) (by omega)];omega
     have hw8:IntKind.i64.wrap (((j+1:Nat):Int)+1)=((j+1+1:Nat):Int):=by rw[z0d]<;>omega
     repeat' (first|refine EvC.seq ?_|(refine EvC.skip ?_;try simp only[z00])|(refine EvC.reg ?_;simp (config := { maxSteps := 2000000 }) (disch:=first|omega|rfl) only[sB,Za,f1,f2,t8,hw5,hw6,hw7,t10,hw8,Zb])|(refine z0b ?_;simp (config := { maxSteps := 2000000 }) (disch:=first|omega|rfl) only[sB,Za,z30,hw4])|(refine EvC.condF ?_ ?_;simp (config := { maxSteps := 2000000 }) (disch:=first|omega|rfl) only[sB,Za];refine z02 ?_))
     refine⟨_,by omega,_,j+1,rfl,rfl,by omega,fun k k1 k2=>?_,(by simp only[sG,reduceCtorEq,t0]),(by simp only[sG,Za,t1]),(by simp only[sG,Za,t7]),?_,(by simp only[sG,Za,t9]),(by simp only[sG,Za])⟩
     ·by_cases hk:k≤j
      ·exact hg k k1 hk
      ·obtain rfl:k=j+1:=by omega
       rw[←hx];exact hbad
     ·rw[ha];exact(by simp only[sG,Za])
    ·have hR0:refCs s i=(0,0):=by rw[hR];exact z86 hl hb hb0 (k:=j+1) (by omega) hjn (by rw[←hx];exact hbad)
     unfold goodC at hbad;by_cases hx1:x < 128
     ·have f1:decide ((x:Int) < 128)=true:=decide_eq_true (by omega)
      repeat' (first|refine EvC.seq ?_|(refine EvC.ret ?_;try simp only[z05,z03])|(refine EvC.reg ?_;simp (config := { maxSteps := 2000000 }) (disch:=first|omega|rfl) only[sB,Za,f1])|(refine z0b ?_;simp (config := { maxSteps := 2000000 }) (disch:=first|omega|rfl) only[sB,Za,z30,hw4])|(refine EvC.condT ?_ ?_;simp (config := { maxSteps := 2000000 }) (disch:=first|omega|rfl) only[sB,Za];refine z02 ?_))
      exact z06 rfl (by simp only[sB,Za];rfl) (by simp only[sB,Za];rfl) ⟨by rw[hR0];rfl,rfl⟩
     ·have f1:decide ((x:Int) < 128)=false:=decide_eq_false (by omega);have f2:decide ((x:Int) ≥ 192)=true:=decide_eq_true (by omega)
      repeat' (first|refine EvC.seq ?_|(refine EvC.ret ?_;try simp only[z05,z03])|(refine EvC.reg ?_;simp (config := { maxSteps := 2000000 }) (disch:=first|omega|rfl) only[sB,Za,f1,f2,Zb])|(refine z0b ?_;simp (config := { maxSteps := 2000000 }) (disch:=first|omega|rfl) only[sB,Za,z30,hw4])|(refine EvC.condT ?_ ?_;simp (config := { maxSteps := 2000000 }) (disch:=first|omega|rfl) only[sB,Za];refine z02 ?_))
      exact z06 rfl (by simp only[sB,Za];rfl) (by simp only[sB,Za];rfl) ⟨by rw[hR0];rfl,rfl⟩
   ·obtain rfl:n=j+1:=by omega
    have hgd:=z6f hl hb hb0 (m:=s.size - i) (fun k hk=>z1l s (by omega)) (fun k k1 k2=>hg k k1 (by omega));rw[Nat.add_sub_cancel,←hR] at hgd;generalize accC v0 (fun k=>byteAt s (i+k)) j=a at *;by_cases hlo:a < low
    ·repeat' (first|refine EvC.seq ?_|(refine EvC.exit ?_;try simp only[sB])|(refine EvC.ret ?_;try simp only[z05,z03])|(refine EvC.reg ?_;simp (config := { maxSteps := 2000000 }) (disch:=first|omega|rfl) only[sB,Za,Zj,t7,t10,decn hjn,t8,t9,decl hlo])|(refine EvC.condT ?_ ?_;simp (config := { maxSteps := 2000000 }) (disch:=first|omega|rfl) only[sB,Za];refine z02 ?_)|(refine EvC.condF ?_ ?_;simp (config := { maxSteps := 2000000 }) (disch:=first|omega|rfl) only[sB,Za];refine z02 ?_))
     exact z06 rfl (by simp only[sB,Za];rfl) (by simp only[sB,Za];rfl) ⟨by rw[hgd,if_pos (.inl hlo)];rfl,rfl⟩
    ·repeat' (first|refine EvC.seq ?_|(refine EvC.exit ?_;try simp only[sB])|(refine EvC.reg ?_;simp (config := { maxSteps := 2000000 }) (disch:=first|omega|rfl) only[sB,Za,Zj,cl42,t7,t10,decn hjn,t8,t9,decn hlo])|(refine EvC.condF ?_ ?_;simp (config := { maxSteps := 2000000 }) (disch:=first|omega|rfl) only[sB,Za];refine z02 ?_))
     refine zeu.mono ?_;rintro v H2 ⟨rfl,rfl⟩;cases hmm:mayC a with
     |false =>
      repeat' (first|refine EvC.seq ?_|(refine EvC.ret ?_;try simp only[z05,z03])|(refine EvC.reg ?_;simp (config := { maxSteps := 2000000 }) (disch:=first|omega|rfl) only[sA])|(refine z0b ?_;simp (config := { maxSteps := 2000000 }) (disch:=first|omega|rfl) only[sB,Za,reduceCtorEq,Bool.not_false])|(refine EvC.condT ?_ ?_;simp (config := { maxSteps := 2000000 }) (disch:=first|omega|rfl) only[sB,Za];refine z02 ?_))
      exact z06 rfl (by simp only[sB,Za];rfl) (by simp only[sB,Za];rfl) ⟨by rw[hgd,if_pos (.inr hmm)];rfl,rfl⟩
     |true =>
      repeat' (first|refine EvC.seq ?_|(refine EvC.skip ?_;try simp only[z00])|(refine EvC.ret ?_)|(refine EvC.reg ?_;simp (config := { maxSteps := 2000000 }) (disch:=first|omega|rfl) only[sB,Za,t7,t8])|(refine z0b ?_;simp (config := { maxSteps := 2000000 }) (disch:=first|omega|rfl) only[sB,Za,Zp,Zb])|(refine EvC.condF ?_ ?_;simp (config := { maxSteps := 2000000 }) (disch:=first|omega|rfl) only[sB,Za];refine z02 ?_))
      exact z06 rfl (by simp only[sB,Za];rfl) (by simp only[sB,Za];rfl) ⟨by rw[hgd,if_neg (fun q=>q.elim hlo fun q=>by rw[hmm] at q;cases q)],rfl⟩
  ·exact⟨_,0,rfl,by omega,by omega,fun k k1 k2=>by omega,t0,t1,t7,t8,t9,t10⟩
end Go.Proofs.hq
end

section
namespace Go.Hb
open Go Go.RowKit
theorem zht (s:ByteArray):s.extract 0 s.size=s:=by
 apply ByteArray.ext;rw[ByteArray.data_extract];show s.data.extract 0 s.data.size=s.data;exact Array.extract_size
def utfL (c:Nat):List Nat:=if c < 128 then [c] else if c < 2048 then [192+c / 64,128+c % 64] else if c < 65536 then [224+c / 4096,128+c / 64 % 64,128+c % 64] else [240+c / 262144,128+c / 4096 % 64,128+c / 64 % 64,128+c % 64]
theorem zg3 (c:Nat):0 < (utfL c).length∧(utfL c).length≤4:=by
 unfold utfL
 repeat' split
 all_goals simp
set_option maxRecDepth 100000 in
set_option maxHeartbeats 4000000 in
theorem zg4 {n b0 b1 b2 b3:Nat}(h0:b0 < 256) (h1:b1 < 256) (h2:b2 < 256) (h3:b3 < 256) (hne:Lib.decodeN n b0 b1 b2 b3≠(65533,1)):utfL (Lib.decodeN n b0 b1 b2 b3).1=[b0,b1,b2,b3].take (Lib.decodeN n b0 b1 b2 b3).2:=by
 obtain⟨x,hx⟩:∃x,x=Lib.decodeN n b0 b1 b2 b3:=⟨_,rfl⟩
 rw[←hx] at hne ⊢;unfold Lib.decodeN at hx
 repeat' split at hx
 all_goals subst hx
 all_goals first|exact absurd rfl hne|skip
 all_goals simp only[utfL,List.take_succ_cons,List.take_zero,List.take_nil]
 all_goals (repeat' split)
 all_goals simp only[List.cons.injEq,and_true]
 all_goals first|omega|(exfalso;omega)
def upTo (s:ByteArray) (i:Nat):List Nat:=(Zf i).map (byteAt s)
theorem z6g {s:ByteArray}{i:Nat}(h:i < s.size) (hne:Utf8.decode s i≠(65533,1)):upTo s (i+(Utf8.decode s i).2)=upTo s i++utfL (Utf8.decode s i).1∧i+(Utf8.decode s i).2≤s.size∧1≤(Utf8.decode s i).2∧(utfL (Utf8.decode s i).1).length=(Utf8.decode s i).2∧(Utf8.decode s i).1≤1114111:=by
 have hb:=fun k=>z2p s k
 have hN:=zcu s i;have k1:=zal (n:=s.size - i) (hb i) (hb (i+1)) (hb (i+2)) (hb (i+3)) (by omega);have k2:=zg4 (n:=s.size - i) (hb i) (hb (i+1)) (hb (i+2)) (hb (i+3)) (by rw[←hN];exact hne);rw[←hN] at k1 k2;obtain⟨k3,k4,k5⟩:=k1;have k6:(Utf8.decode s i).2≤4:=by
  rw[hN];unfold Lib.decodeN
  repeat' split
  all_goals simp
 have hl:(utfL (Utf8.decode s i).1).length=(Utf8.decode s i).2:=by rw[k2];simp;omega
 refine⟨?_,by omega,k4,hl,k3⟩;rw[k2];generalize (Utf8.decode s i).2=w at *;unfold upTo;have hw:w=1∨w=2∨w=3∨w=4:=by omega
 rcases hw with rfl|rfl|rfl|rfl
 ·rw[List.range_succ];simp
 ·rw[List.range_succ,List.range_succ];simp
 ·rw[List.range_succ,List.range_succ,List.range_succ];simp
 ·rw[List.range_succ,List.range_succ,List.range_succ,List.range_succ];simp
theorem z87 (s:ByteArray):(upTo s s.size).map UInt8.ofNat=s.data.toList:=by
 apply List.ext_getElem?;intro i;unfold upTo;rw[List.map_map,Zq];by_cases h:i < s.size
 ·have h':i < s.data.toList.length:=by simpa using h
  rw[List.getElem?_range h,Zh h'];simp only[sA,Function.comp,byteAt,List.getD_eq_getElem?_getD,Zh h'];exact UInt8.ofNat_toNat
 ·rw[Zu (by simpa using h),Zu (by simpa using h)];rfl
theorem z88 (s:ByteArray) (i:Nat):(upTo s i).length=i:=by simp [upTo]
theorem z7e {s:ByteArray}{i:Nat}(h:i < s.size):Lib.validD (s.data.toList.drop i)=if Utf8.decode s i=(65533,1) then false else Lib.validD (s.data.toList.drop (i+(Utf8.decode s i).2)):=by
 have hne:s.data.toList.drop i≠[]:=by
  intro e;have:=congrArg List.length e;simp at this;omega
 rw[Lib.validD_step _ hne,Lib.decodeL_drop,List.drop_drop];have e:((Utf8.decode s i).1=65533∧(Utf8.decode s i).2=1)=(Utf8.decode s i=(65533,1)):=by
  apply propext;constructor
  ·rintro ⟨a,b⟩;exact Prod.ext a b
  ·intro q;rw[q];exact⟨rfl,rfl⟩
 simp only[e]
theorem zew (s:ByteArray):Lib.validD (s.data.toList.drop s.size)=true:=by
 rw[List.drop_of_length_le (by simp)];exact Lib.validD_nil
end Go.Hb
namespace Go.Proofs.hq
open Go Go.RowKit Go.Hb
variable {ok:Ok}
set_option maxRecDepth 10000
attribute [local irreducible] LX LG EL STG SOP SGO SGD SAL SRD SEF SEG SLK SCK ES
theorem zex {s:ByteArray}{i:Nat}(h:i < s.size):refCs s i=if Utf8.decode s i=(65533,1) then (0,0) else Utf8.decode s i:=by
 rw[refCs,if_neg (by omega),zcu];rfl
set_option maxHeartbeats 4000000 in
theorem zh9 {H:Heap}{s:ByteArray}(hs:s.size≤4611686018427387904) :
  EvF Tryd.prog okT 10 [.string s,.int .i64 0,.int .i64 s.size] H fun v H'=>∃z,v=.int .i64 z∧H'=H∧(validB s=true→z=-1)∧(validB s=false→0≤z):=by
 refine EvF.enter rfl Tryd.func10 (by decide) rfl ?_
 repeat' (first|refine EvC.seq ?_|refine EvC.block ?_|(refine EvC.reg ?_;simp (config := { maxSteps := 2000000 }) (disch:=first|omega|rfl) only[sA,initTm,Zc]))
 refine EvC.loop (fun k st=>∃tm i,st=⟨tm,[],H⟩∧k=s.size - i∧i≤s.size∧tm.get 0=some (.string s)∧tm.get 1=some (.int .i64 (i:Nat))∧tm.get 2=some (.int .i64 s.size)∧Lib.validD (s.data.toList.drop i)=validB s) ?_ s.size _ ?_
 ·rintro k st ⟨tm,i,rfl,rfl,hi,t0,t1,t2,hv⟩;by_cases hlt:i < s.size
  ·have hsl:=fun G (k:IntKind)=>z2v (P:=Tryd.prog) (H:=G) (k':=k) (s:=s) us9 (Ze _)
   simp only[zht] at hsl
   repeat' (first|refine EvC.seq ?_|refine EvC.block ?_|(refine EvC.skip ?_;try simp only[z00])|(refine EvC.reg ?_;simp (config := { maxSteps := 2000000 }) (disch:=first|omega|rfl) only[sB,Za,reduceCtorEq,cl29,t0,t1,t2,decl hlt,hsl])|(refine EvC.condT ?_ ?_;simp (config := { maxSteps := 2000000 }) (disch:=first|omega|rfl) only[sB,Za];refine z02 ?_))
   refine(zev hi hs).mono ?_;rintro v H' ⟨rfl,rfl⟩;rw[z7e hlt] at hv;have hr:=zex hlt;by_cases hd:Utf8.decode s i=(65533,1)
   ·rw[if_pos hd] at hv hr;rw[hr];have z0:(((0:Nat):Int) == 0)=true:=rfl
    repeat' (first|refine EvC.seq ?_|(refine EvC.ret ?_;try simp only[z05,z03])|(refine EvC.reg ?_;simp (config := { maxSteps := 2000000 }) (disch:=first|omega|rfl) only[sB,Za,t1,z0])|(refine z0b ?_;simp (config := { maxSteps := 2000000 }) (disch:=first|omega|rfl) only[sB,Za])|(refine EvC.condT ?_ ?_;simp (config := { maxSteps := 2000000 }) (disch:=first|omega|rfl) only[sB,Za];refine z02 ?_))
    exact z08 rfl (by simp only[sB,Za];rfl) ⟨_,rfl,rfl,(fun q=>by rw[q] at hv;cases hv),fun _=>by omega⟩
   ·rw[if_neg hd] at hv hr;rw[hr];obtain⟨-,k2,k3,-,-⟩:=z6g hlt hd;generalize Utf8.decode s i=dd at *;obtain⟨c,w⟩:=dd;simp only at hv k2 k3 ⊢;have z0:((w:Int) == 0)=false:=z2j (by omega);have hw1:IntKind.i64.wrap ((i:Int)+(w:Int))=((i+w:Nat):Int):=by rw[z0d (by omega) (by omega)];omega
    repeat' (first|refine EvC.seq ?_|(refine EvC.skip ?_;try simp only[z00])|(refine EvC.reg ?_;simp (config := { maxSteps := 2000000 }) (disch:=first|omega|rfl) only[sB,Za,t1,z0,hw1])|(refine z0b ?_;simp (config := { maxSteps := 2000000 }) (disch:=first|omega|rfl) only[sB,Za])|(refine EvC.condF ?_ ?_;simp (config := { maxSteps := 2000000 }) (disch:=first|omega|rfl) only[sB,Za];refine z02 ?_))
    exact⟨_,by omega,_,i+w,rfl,rfl,k2,(by simp only[sG,reduceCtorEq,t0]),(by simp only[sG,Za]),(by simp only[sG,Za,t2]),hv⟩
  ·obtain rfl:i=s.size:=by omega
   rw[zew] at hv
   repeat' (first|refine EvC.seq ?_|(refine EvC.exit ?_;try simp only[sB])|(refine EvC.ret ?_)|(refine EvC.reg ?_;simp (config := { maxSteps := 2000000 }) (disch:=first|omega|rfl) only[sB,Za,t1,t2,decn hlt])|(refine EvC.condF ?_ ?_;simp (config := { maxSteps := 2000000 }) (disch:=first|omega|rfl) only[sB,Za];refine z02 ?_))
   exact z08 rfl (by simp only[sG,Za]) ⟨_,rfl,rfl,fun _=>rfl,(fun q=>by rw[←hv] at q;cases q)⟩
 ·exact⟨_,0,rfl,rfl,Nat.zero_le _,(by simp only[sG,reduceCtorEq]),(by simp only[sB,Za,reduceCtorEq];rfl),(by simp only[sG,Za,reduceCtorEq]),rfl⟩
abbrev u8W (n:Nat):Value:=.int .u8 (n:Int)
set_option maxHeartbeats 4000000 in
theorem zik {H:Heap}{c:Nat}(hc:c≤1114111) (hw:H.wf) :
  EvF Tryd.prog okT 14 [.int .i64 (c:Nat)] H fun v H'=>∃b,v=.slice (some ⟨b,0,none⟩) (utfL c).length (utfL c).length∧HX H H'∧H.next≤b∧H'.get b=some (.row ((utfL c).map u8W) 5):=by
 refine EvF.enter rfl Tryd.func14 (by decide) rfl ?_;have e1:(c:Int).tdiv 64=((c / 64:Nat):Int):=rfl;have e2:(c:Int).tdiv 4096=((c / 4096:Nat):Int):=rfl;have e3:(c:Int).tdiv 262144=((c / 262144:Nat):Int):=rfl;have e4:(c:Int).tmod 64=((c % 64:Nat):Int):=rfl;have e5:((c / 64:Nat):Int).tmod 64=((c / 64 % 64:Nat):Int):=rfl;have e6:((c / 4096:Nat):Int).tmod 64=((c / 4096 % 64:Nat):Int):=rfl;by_cases h1:c < 128
 ·have d1:decide ((c:Int) < 128)=true:=decide_eq_true (by omega);have hl:utfL c=[c]:=by unfold utfL;rw[if_pos h1]
  obtain⟨H1,f1,hx1,g1,n1,w1⟩:=new1 hw (.row [u8W c] 5)
  repeat' (first|refine EvC.seq ?_|refine EvC.block ?_|(refine EvC.ret ?_;try simp only[z05,z03])|(refine EvC.reg ?_;simp (config := { maxSteps := 2000000 }) (disch:=first|omega|rfl) only[sB,initTm,Za,Value.cells,one,reduceCtorEq,layC,zfw,zi9,d1,z7z,f1])|(refine EvC.condT ?_ ?_;simp (config := { maxSteps := 2000000 }) (disch:=first|omega|rfl) only[sB,Za,reduceCtorEq];refine z02 ?_))
  exact z08 rfl (by simp only[sB,Za,reduceCtorEq];rfl) ⟨_,by rw[hl];rfl,hx1,Ze _,by rw[hl];exact g1⟩
 ·have d1:decide ((c:Int) < 128)=false:=decide_eq_false (by omega);by_cases h2:c < 2048
  ·have d2:decide ((c:Int) < 2048)=true:=decide_eq_true (by omega);have hl:utfL c=[192+c / 64,128+c % 64]:=by unfold utfL;rw[if_neg h1,if_pos h2]
   obtain⟨H1,f1,hx1,g1,n1,w1⟩:=new1 hw (.row [.int .u8 (192+((c / 64:Nat):Int)),.int .u8 (128+((c % 64:Nat):Int))] 5)
   repeat' (first|refine EvC.seq ?_|refine EvC.block ?_|(refine EvC.ret ?_;try simp only[z05,z03])|(refine EvC.reg ?_;simp (config := { maxSteps := 2000000 }) (disch:=first|omega|rfl) only[sB,initTm,Za,Zc,Value.cells,one,reduceCtorEq,Zj,layC,zfw,zia,d1,d2,bQuo,bRem,e1,e4,z0d,z7z,f1])|(refine EvC.condT ?_ ?_;simp (config := { maxSteps := 2000000 }) (disch:=first|omega|rfl) only[sB,Za,reduceCtorEq];refine z02 ?_)|(refine EvC.condF ?_ ?_;simp (config := { maxSteps := 2000000 }) (disch:=first|omega|rfl) only[sB,Za,reduceCtorEq];refine z02 ?_))
   exact z08 rfl (by simp only[sB,Za,reduceCtorEq];rfl) ⟨_,by rw[hl];rfl,hx1,Ze _,by rw[hl];exact g1⟩
  ·have d2:decide ((c:Int) < 2048)=false:=decide_eq_false (by omega);by_cases h3:c < 65536
   ·have d3:decide ((c:Int) < 65536)=true:=decide_eq_true (by omega);have hl:utfL c=[224+c / 4096,128+c / 64 % 64,128+c % 64]:=by unfold utfL;rw[if_neg h1,if_neg h2,if_pos h3]
    obtain⟨H1,f1,hx1,g1,n1,w1⟩:=new1 hw (.row [.int .u8 (224+((c / 4096:Nat):Int)),.int .u8 (128+((c / 64 % 64:Nat):Int)),.int .u8 (128+((c % 64:Nat):Int))] 5)
    repeat' (first|refine EvC.seq ?_|refine EvC.block ?_|(refine EvC.ret ?_;try simp only[z05,z03])|(refine EvC.reg ?_;simp (config := { maxSteps := 2000000 }) (disch:=first|omega|rfl) only[sB,initTm,Za,Zc,Value.cells,one,reduceCtorEq,Zj,layC,zfw,zib,d1,d2,d3,bQuo,bRem,e1,e2,e4,e5,z0d,z7z,f1])|(refine EvC.condT ?_ ?_;simp (config := { maxSteps := 2000000 }) (disch:=first|omega|rfl) only[sB,Za,reduceCtorEq];refine z02 ?_)|(refine EvC.condF ?_ ?_;simp (config := { maxSteps := 2000000 }) (disch:=first|omega|rfl) only[sB,Za,reduceCtorEq];refine z02 ?_))
    exact z08 rfl (by simp only[sB,Za,reduceCtorEq];rfl) ⟨_,by rw[hl];rfl,hx1,Ze _,by rw[hl];exact g1⟩
   ·have d3:decide ((c:Int) < 65536)=false:=decide_eq_false (by omega);have hl:utfL c=[240+c / 262144,128+c / 4096 % 64,128+c / 64 % 64,128+c % 64]:=by unfold utfL;rw[if_neg h1,if_neg h2,if_neg h3]
    obtain⟨H1,f1,hx1,g1,n1,w1⟩:=new1 hw (.row [.int .u8 (240+((c / 262144:Nat):Int)),.int .u8 (128+((c / 4096 % 64:Nat):Int)),.int .u8 (128+((c / 64 % 64:Nat):Int)),.int .u8 (128+((c % 64:Nat):Int))] 5)
    repeat' (first|refine EvC.seq ?_|refine EvC.block ?_|(refine EvC.skip ?_;try simp only[sA])|(refine EvC.ret ?_)|(refine EvC.reg ?_;simp (config := { maxSteps := 2000000 }) (disch:=first|omega|rfl) only[sB,initTm,Za,Zc,Value.cells,one,reduceCtorEq,Zj,layC,zfw,zic,d1,d2,d3,bQuo,bRem,e1,e2,e3,e4,e5,e6,z0d,z7z,f1])|(refine EvC.condF ?_ ?_;simp (config := { maxSteps := 2000000 }) (disch:=first|omega|rfl) only[sB,Za,reduceCtorEq];refine z02 ?_))
    exact z08 rfl (by simp only[sB,Za,reduceCtorEq];rfl) ⟨_,by rw[hl];rfl,hx1,Ze _,by rw[hl];exact g1⟩
end Go.Proofs.hq
end

section
namespace Go.Hb
open Go Go.RowKit
theorem z9n {H:Heap}{p:Nat}{T:TypeId}{x0 x1 x2 x3 x4 x5 x6 x7 x8 x9:Value}(h:H.get p=some (Blk.row [x0,x1,x2,x3,x4,x5,x6,x7,x8,x9] T)) :
  H.load ⟨p,0,none⟩ 10=some [x0,x1,x2,x3,x4,x5,x6,x7,x8,x9]∧H.load ⟨p,7,none⟩ 1=some [x7]∧H.load ⟨p,9,none⟩ 1=some [x9]:=by
 refine⟨?_,?_,?_⟩<;>simp only[Heap.load,Heap.cells,h]<;>rfl
theorem zil {H:Heap}{p:Nat}{T:TypeId}{x0 x1 x2 x3 x4 x5 x6 x7 x8 x9 xa:Value}(h:H.get p=some (Blk.row [x0,x1,x2,x3,x4,x5,x6,x7,x8,x9,xa] T)) :
  H.load ⟨p,0,none⟩ 10=some [x0,x1,x2,x3,x4,x5,x6,x7,x8,x9]:=by
 simp only[Heap.load,Heap.cells,h];rfl
end Go.Hb
namespace Go.Proofs.hq
open Go Go.RowKit Go.Hb
variable {ok:Ok}
set_option maxRecDepth 10000
attribute [local irreducible] LX LG EL STG SOP SGO SGD SAL SRD SEF SEG SLK SCK ES
abbrev zero10:List Value:=[.int .i64 0,.string Zg,.int .i64 0,.bool false,.string Zg,.int .i64 0,.bool false,.int .i64 0,.int .i64 0,.int .i64 0]
def lineI (d:ByteArray) (i:Nat):Int:=IntKind.i64.wrap (1+(Lib.countByte (d.extract 0 i).data.toList 10:Nat))
def FSt.posR (φ:FSt) (s:Strm):Int:=if s.mode=1 then s.pos else (φ.data s).size
def FSt.endR (φ:FSt) (s:Strm):Int:=if s.mode=1∧s.en≠2∧s.pos=(φ.data s).size then 1 else s.en
def FSt.tell (φ:FSt) (s:Strm):List Value:=[.int .i64 s.id,.string s.file,.int .i64 s.mode,.bool s.bin,.string s.al,.int .i64 s.eof,.bool s.rep,.int .i64 (φ.posR s),.int .i64 (lineI (φ.data s) (φ.posR s).toNat),.int .i64 (φ.endR s)]
theorem z56 {H:Heap}{s:ByteArray}{c:UInt8}(hw:H.wf):EvF Tryd.prog okT 38 [.string s,.string ⟨#[c]⟩] H fun v H'=>v=.int .i64 (Lib.countByte s.data.toList c:Nat)∧H'=H :=
 z3z (p:=(38,knCount)) rfl rfl rfl hw
set_option maxHeartbeats 8000000 in
theorem zey {H:Heap}{B p fb ob:Nat}{blk:Int→Nat}{φ:FSt}{n:Int}(h:FsB H B p fb ob blk φ) (hw:H.wf) (hn:i64 n) (hp:∀s,φ.get n=some s→0≤s.pos∧s.pos≤((φ.data s).size:Int)) :
  EvF Tryd.prog okT 16 [ptrV p,.int .i64 n] H fun v H'=>HX H H'∧((φ.get n=none∧v=.tuple ⟨[.agg ⟨zero10⟩,.bool false]⟩)∨∃s,φ.get n=some s∧v=.tuple ⟨[.agg ⟨φ.tell s⟩,.bool true]⟩):=by
 refine EvF.enter rfl Tryd.func16 (by decide) rfl ?_;(repeat refine EvC.seq ?_);refine EvC.reg ?_;simp (config := { maxSteps := 2000000 }) (disch:=first|omega|rfl) only[sA,initTm,dAlloc,zr47];obtain⟨H1,e1,hx1,g1,n1,w1⟩:=new1 hw (.row zero10 47);simp only[e1];clear e1;have h1:=h.keep hx1 hw
 repeat' (first|refine EvC.seq ?_|(refine EvC.reg ?_;simp (config := { maxSteps := 2000000 }) (disch:=first|omega|rfl) only[sB,Za,reduceCtorEq,cl23]))
 refine(z84 h1 w1 hn).mono ?_;rintro v H2 (⟨s,hs,rfl,rfl⟩|⟨hs,e,rfl,hx2,he⟩)
 ·obtain⟨k0,k1⟩:=hp s hs;have gs:=h1.strm hs;have qs:=zil gs;obtain⟨H3,e3,hx3,g3,n3,w3⟩:=zef w1 (.row zero10 47) (.row [.int .i64 s.id,.string s.file,.int .i64 s.mode,.bool s.bin,.string s.al,.int .i64 s.eof,.bool s.rep,.int .i64 s.pos,.int .i64 s.line,.int .i64 s.en] 47)
  repeat' (first|refine EvC.seq ?_|(refine EvC.skip ?_;try simp only[z00])|(refine EvC.reg ?_;simp (config := { maxSteps := 2000000 }) (disch:=first|omega|rfl) only[sB,dAlloc,Za,Zc,one,reduceCtorEq,zr47,st47,z0m,ld47,cl25,z0v,qs,z01,z04,e3])|(refine z0b ?_;simp (config := { maxSteps := 2000000 }) (disch:=first|omega|rfl) only[sB,Za,reduceCtorEq])|(refine EvC.condF ?_ ?_;simp (config := { maxSteps := 2000000 }) (disch:=first|omega|rfl) only[sB,Za,reduceCtorEq];refine z02 ?_))
  have h3:=h1.keep hx3 w1;refine(zeh h3 w3 (h3.strm hs)).mono ?_;rintro v H4 ⟨rfl,hx4⟩;have w4:=hx4.wf;have g4:=hx4.get w3 g3;have h4:=h3.keep hx4 w3;have q4s:=z2g (h4.strm hs);have hx14:=hx3.trans hx4;have gA:=hx14.get w1 g1;have hxA:=hx1.trans hx14;have ne1:H2.next≠H.next:=by omega
  obtain⟨d,hd⟩:∃d,d=φ.data s:=⟨_,rfl⟩
  rw[←hd] at k1 ⊢;by_cases hm:s.mode=1
  ·have hpos:φ.posR s=s.pos:=by unfold FSt.posR;rw[if_pos hm]
   obtain⟨l,hl⟩:=Int.eq_ofNat_of_zero_le k0;rw[hl] at hpos;have hll:l≤d.size:=by omega
   have hsl:=fun G (k:IntKind)=>z2v (P:=Tryd.prog) (H:=G) (k':=k) us9 hll
   rw[hl] at g4;have q4:=z9n g4;by_cases h2:s.en=2
   ·have hend:φ.endR s=s.en:=by unfold FSt.endR;rw[if_neg fun q=>q.2.1 h2]
    have g5:=g4;have g5A:=gA
    repeat' (first|refine EvC.seq ?_|(refine EvC.skip ?_;try simp only[z00])|(refine EvC.reg ?_;simp (config := { maxSteps := 2000000 }) (disch:=first|omega|rfl) only[sB,Za,reduceCtorEq,z0m,z16,ld3,z2r,z2q,cl38,q4s,z01,z04,z4c hm,z4c h2,q4,hsl,Zb])|(refine EvC.condF ?_ ?_;simp (config := { maxSteps := 2000000 }) (disch:=first|omega|rfl) only[sB,Za,reduceCtorEq];refine z02 ?_))
    refine(z56 hxA.wf).mono ?_;rintro v H6 ⟨rfl,rfl⟩;obtain⟨H7,e7⟩:∃H7,H6.put H2.next (some (.row [.int .i64 s.id,.string s.file,.int .i64 s.mode,.bool s.bin,.string s.al,.int .i64 s.eof,.bool s.rep,.int .i64 l,.int .i64 (IntKind.i64.wrap (1+((Lib.countByte (d.extract 0 l).data.toList 10:Nat):Int))),.int .i64 s.en] 47))=H7:=⟨_,rfl⟩
    have hx7:HX H H7:=by rw[←e7];exact hxA.pt (by omega) g5 _
    have g7:H7.get H2.next=some (.row [.int .i64 s.id,.string s.file,.int .i64 s.mode,.bool s.bin,.string s.al,.int .i64 s.eof,.bool s.rep,.int .i64 l,.int .i64 (IntKind.i64.wrap (1+((Lib.countByte (d.extract 0 l).data.toList 10:Nat):Int))),.int .i64 s.en] 47):=by rw[←e7,get_put,if_pos rfl]
    have g7A:H7.get H.next=some (.row zero10 47):=by rw[←e7,get_put,if_neg ne1.symm];exact g5A
    have q7:=z9n g7
    repeat' (first|refine EvC.seq ?_|(refine EvC.ret ?_)|(refine EvC.reg ?_;simp (config := { maxSteps := 2000000 }) (disch:=first|omega|rfl) only[sB,Za,Zc,one,reduceCtorEq,st47,ld47,q7,g7A])|(refine z0b ?_;simp (config := { maxSteps := 2000000 }) (disch:=first|omega|rfl) only[sB,Za,Zc,one,reduceCtorEq,Zj,st3,zbu,g5,e7]))
    exact z11 rfl (by simp only[sB,Za,reduceCtorEq];rfl) (by simp only[if_true,z2c,ld47];rfl) (by simp only[sB,Za,reduceCtorEq];rfl) ⟨hx7.pt (Ze _) g7A _,.inr ⟨s,hs,by simp only[FSt.tell,hpos,hend,←hd,lineI,Int.toNat_natCast];rfl⟩⟩
   ·by_cases h3:s.pos=d.size
    ·have hend:φ.endR s=1:=by unfold FSt.endR;rw[←hd,if_pos ⟨hm,h2,h3⟩]
     have h3':(l:Int)=d.size:=by omega
     obtain⟨H5,e5⟩:∃H5,H4.put H2.next (some (.row [.int .i64 s.id,.string s.file,.int .i64 s.mode,.bool s.bin,.string s.al,.int .i64 s.eof,.bool s.rep,.int .i64 l,.int .i64 s.line,.int .i64 1] 47))=H5:=⟨_,rfl⟩
     have hx5:HX H H5:=by rw[←e5];exact hxA.pt (by omega) g4 _
     have g5:H5.get H2.next=some (.row [.int .i64 s.id,.string s.file,.int .i64 s.mode,.bool s.bin,.string s.al,.int .i64 s.eof,.bool s.rep,.int .i64 l,.int .i64 s.line,.int .i64 1] 47):=by rw[←e5,get_put,if_pos rfl]
     have g5A:H5.get H.next=some (.row zero10 47):=by rw[←e5,get_put,if_neg ne1.symm];exact gA
     have q5:=z9n g5
     repeat' (first|refine EvC.seq ?_|(refine EvC.reg ?_;simp (config := { maxSteps := 2000000 }) (disch:=first|omega|rfl) only[sB,Za,Zc,one,reduceCtorEq,z0m,z16,ld3,ln9,z2r,st3,z2q,cl38,q4s,z01,z04,z4c hm,zfr h2,q4,z3x h3',g4,e5,q5,hsl])|(refine EvC.condT ?_ ?_;simp (config := { maxSteps := 2000000 }) (disch:=first|omega|rfl) only[sB,Za,reduceCtorEq];refine z02 ?_)|(refine EvC.condF ?_ ?_;simp (config := { maxSteps := 2000000 }) (disch:=first|omega|rfl) only[sB,Za,reduceCtorEq];refine z02 ?_))
     refine(z56 hx5.wf).mono ?_;rintro v H6 ⟨rfl,rfl⟩;obtain⟨H7,e7⟩:∃H7,H6.put H2.next (some (.row [.int .i64 s.id,.string s.file,.int .i64 s.mode,.bool s.bin,.string s.al,.int .i64 s.eof,.bool s.rep,.int .i64 l,.int .i64 (IntKind.i64.wrap (1+((Lib.countByte (d.extract 0 l).data.toList 10:Nat):Int))),.int .i64 1] 47))=H7:=⟨_,rfl⟩
     have hx7:HX H H7:=by rw[←e7];exact hx5.pt (by omega) g5 _
     have g7:H7.get H2.next=some (.row [.int .i64 s.id,.string s.file,.int .i64 s.mode,.bool s.bin,.string s.al,.int .i64 s.eof,.bool s.rep,.int .i64 l,.int .i64 (IntKind.i64.wrap (1+((Lib.countByte (d.extract 0 l).data.toList 10:Nat):Int))),.int .i64 1] 47):=by rw[←e7,get_put,if_pos rfl]
     have g7A:H7.get H.next=some (.row zero10 47):=by rw[←e7,get_put,if_neg ne1.symm];exact g5A
     have q7:=z9n g7
     repeat' (first|refine EvC.seq ?_|(refine EvC.ret ?_)|(refine EvC.reg ?_;simp (config := { maxSteps := 2000000 }) (disch:=first|omega|rfl) only[sB,Za,Zc,one,reduceCtorEq,st47,ld47,q7,g7A])|(refine z0b ?_;simp (config := { maxSteps := 2000000 }) (disch:=first|omega|rfl) only[sB,Za,Zc,one,reduceCtorEq,Zj,st3,zbu,g5,e7]))
     exact z11 rfl (by simp only[sB,Za,reduceCtorEq];rfl) (by simp only[if_true,z2c,ld47];rfl) (by simp only[sB,Za,reduceCtorEq];rfl) ⟨hx7.pt (Ze _) g7A _,.inr ⟨s,hs,by simp only[FSt.tell,hpos,hend,←hd,lineI,Int.toNat_natCast];rfl⟩⟩
    ·have hend:φ.endR s=s.en:=by unfold FSt.endR;rw[←hd,if_neg fun q=>h3 q.2.2]
     have h3':¬(l:Int)=d.size:=by omega
     have g5:=g4;have g5A:=gA
     repeat' (first|refine EvC.seq ?_|(refine EvC.skip ?_;try simp only[z00])|(refine EvC.reg ?_;simp (config := { maxSteps := 2000000 }) (disch:=first|omega|rfl) only[sB,Za,reduceCtorEq,z0m,z16,ld3,ln9,z2r,z2q,cl38,q4s,z01,z04,z4c hm,zfr h2,q4,z2j h3',hsl])|(refine EvC.condF ?_ ?_;simp (config := { maxSteps := 2000000 }) (disch:=first|omega|rfl) only[sB,Za,reduceCtorEq];refine z02 ?_))
     refine(z56 hxA.wf).mono ?_;rintro v H6 ⟨rfl,rfl⟩;obtain⟨H7,e7⟩:∃H7,H6.put H2.next (some (.row [.int .i64 s.id,.string s.file,.int .i64 s.mode,.bool s.bin,.string s.al,.int .i64 s.eof,.bool s.rep,.int .i64 l,.int .i64 (IntKind.i64.wrap (1+((Lib.countByte (d.extract 0 l).data.toList 10:Nat):Int))),.int .i64 s.en] 47))=H7:=⟨_,rfl⟩
     have hx7:HX H H7:=by rw[←e7];exact hxA.pt (by omega) g5 _
     have g7:H7.get H2.next=some (.row [.int .i64 s.id,.string s.file,.int .i64 s.mode,.bool s.bin,.string s.al,.int .i64 s.eof,.bool s.rep,.int .i64 l,.int .i64 (IntKind.i64.wrap (1+((Lib.countByte (d.extract 0 l).data.toList 10:Nat):Int))),.int .i64 s.en] 47):=by rw[←e7,get_put,if_pos rfl]
     have g7A:H7.get H.next=some (.row zero10 47):=by rw[←e7,get_put,if_neg ne1.symm];exact g5A
     have q7:=z9n g7
     repeat' (first|refine EvC.seq ?_|(refine EvC.ret ?_)|(refine EvC.reg ?_;simp (config := { maxSteps := 2000000 }) (disch:=first|omega|rfl) only[sB,Za,Zc,one,reduceCtorEq,st47,ld47,q7,g7A])|(refine z0b ?_;simp (config := { maxSteps := 2000000 }) (disch:=first|omega|rfl) only[sB,Za,Zc,one,reduceCtorEq,Zj,st3,zbu,g5,e7]))
     exact z11 rfl (by simp only[sB,Za,reduceCtorEq];rfl) (by simp only[if_true,z2c,ld47];rfl) (by simp only[sB,Za,reduceCtorEq];rfl) ⟨hx7.pt (Ze _) g7A _,.inr ⟨s,hs,by simp only[FSt.tell,hpos,hend,←hd,lineI,Int.toNat_natCast];rfl⟩⟩
  ·have hpos:φ.posR s=d.size:=by unfold FSt.posR;rw[if_neg hm,hd]
   have hend:φ.endR s=s.en:=by unfold FSt.endR;rw[if_neg fun q=>hm q.1]
   have hsl:=fun G (k:IntKind)=>z2v (P:=Tryd.prog) (H:=G) (k':=k) (s:=d) us9 (Ze _)
   obtain⟨H5,e5⟩:∃H5,H4.put H2.next (some (.row [.int .i64 s.id,.string s.file,.int .i64 s.mode,.bool s.bin,.string s.al,.int .i64 s.eof,.bool s.rep,.int .i64 d.size,.int .i64 s.line,.int .i64 s.en] 47))=H5:=⟨_,rfl⟩
   have hx5:HX H H5:=by rw[←e5];exact hxA.pt (by omega) g4 _
   have g5:H5.get H2.next=some (.row [.int .i64 s.id,.string s.file,.int .i64 s.mode,.bool s.bin,.string s.al,.int .i64 s.eof,.bool s.rep,.int .i64 d.size,.int .i64 s.line,.int .i64 s.en] 47):=by rw[←e5,get_put,if_pos rfl]
   have g5A:H5.get H.next=some (.row zero10 47):=by rw[←e5,get_put,if_neg ne1.symm];exact gA
   have q5:=z9n g5
   repeat' (first|refine EvC.seq ?_|(refine EvC.reg ?_;simp (config := { maxSteps := 2000000 }) (disch:=first|omega|rfl) only[sB,Za,Zc,one,reduceCtorEq,Zj,z0m,z16,ld3,ln9,z2r,st3,cl38,q4s,z01,z04,zfr hm,g4,e5,q5,hsl])|(refine EvC.condT ?_ ?_;simp (config := { maxSteps := 2000000 }) (disch:=first|omega|rfl) only[sB,Za,reduceCtorEq];refine z02 ?_))
   refine(z56 hx5.wf).mono ?_;rintro v H6 ⟨rfl,rfl⟩;obtain⟨H7,e7⟩:∃H7,H6.put H2.next (some (.row [.int .i64 s.id,.string s.file,.int .i64 s.mode,.bool s.bin,.string s.al,.int .i64 s.eof,.bool s.rep,.int .i64 d.size,.int .i64 (IntKind.i64.wrap (1+((Lib.countByte (d.extract 0 d.size).data.toList 10:Nat):Int))),.int .i64 s.en] 47))=H7:=⟨_,rfl⟩
   have hx7:HX H H7:=by rw[←e7];exact hx5.pt (by omega) g5 _
   have g7:H7.get H2.next=some (.row [.int .i64 s.id,.string s.file,.int .i64 s.mode,.bool s.bin,.string s.al,.int .i64 s.eof,.bool s.rep,.int .i64 d.size,.int .i64 (IntKind.i64.wrap (1+((Lib.countByte (d.extract 0 d.size).data.toList 10:Nat):Int))),.int .i64 s.en] 47):=by rw[←e7,get_put,if_pos rfl]
   have g7A:H7.get H.next=some (.row zero10 47):=by rw[←e7,get_put,if_neg ne1.symm];exact g5A
   have q7:=z9n g7
   repeat' (first|refine EvC.seq ?_|(refine EvC.ret ?_)|(refine EvC.reg ?_;simp (config := { maxSteps := 2000000 }) (disch:=first|omega|rfl) only[sB,Za,Zc,one,reduceCtorEq,st47,ld47,q7,g7A])|(refine z0b ?_;simp (config := { maxSteps := 2000000 }) (disch:=first|omega|rfl) only[sB,Za,Zc,one,reduceCtorEq,Zj,st3,zbu,g5,e7]))
   exact z11 rfl (by simp only[sB,Za,reduceCtorEq];rfl) (by simp only[if_true,z2c,ld47];rfl) (by simp only[sB,Za,reduceCtorEq];rfl) ⟨hx7.pt (Ze _) g7A _,.inr ⟨s,hs,by simp only[FSt.tell,hpos,hend,←hd,lineI,Int.toNat_natCast];rfl⟩⟩
 ·obtain⟨eb,ecs,rfl,-⟩:=id he;have g2:=hx2.get w1 g1
  repeat' (first|refine EvC.seq ?_|(refine EvC.ret ?_;try simp only[z05,z03])|(refine EvC.reg ?_;simp (config := { maxSteps := 2000000 }) (disch:=first|omega|rfl) only[sB,Za,Zc,Value.cells,one,reduceCtorEq,layC,bd47,st47,z6b,g2])|(refine z0b ?_;simp (config := { maxSteps := 2000000 }) (disch:=first|omega|rfl) only[sB,Za,reduceCtorEq])|(refine EvC.condT ?_ ?_;simp (config := { maxSteps := 2000000 }) (disch:=first|omega|rfl) only[sB,Za,reduceCtorEq];refine z02 ?_))
  exact z11 rfl (by simp only[sB,Za,reduceCtorEq];rfl) (by simp only[if_true,z2c,ld47];rfl) (by simp only[sG,Za,reduceCtorEq]) ⟨(hx1.trans hx2).pt (Ze _) g2 _,.inl ⟨hs,rfl⟩⟩
end Go.Proofs.hq
end

section
namespace Go.Proofs.hq
open Go Go.RowKit Go.Hb
variable {ok:Ok}
set_option maxRecDepth 10000
attribute [local irreducible] LX LG EL STG SOP SGO SGD SAL SRD SEF SEG SLK SCK ES
theorem zhu {H:Heap}{m:Nat}(hw:H.wf):EvF Tryd.prog okT 37 [.map (some m)] H fun v H'=>v=.func (.func 47) #[] #[ptrV H.next]∧HX H H'∧H'.get H.next=some (.row [.map (some m)] 53):=by
 refine EvF.enter rfl Tryd.func37 (by decide) rfl ?_;(repeat refine EvC.seq ?_);refine EvC.reg ?_;simp (config := { maxSteps := 2000000 }) (disch:=first|omega|rfl) only[sB,initTm,dBox,Value.cells,one];obtain⟨H1,e1,hx1,g1,n1,w1⟩:=new1 hw (.row [.map (some m)] 53);simp only[e1]
 repeat' (first|refine EvC.seq ?_|(refine EvC.ret ?_)|(refine EvC.reg ?_;simp (config := { maxSteps := 2000000 }) (disch:=first|omega|rfl) only[sB,Za,reduceCtorEq,List.map_toArray]))
 exact z08 rfl (by simp only[sG,Za,reduceCtorEq]) ⟨rfl,hx1,g1⟩
abbrev rowF (l:List (ByteArray × ByteArray)):List Value:=l.flatMap fun x=>[.string x.1,.string x.2]
def OutF (H:Heap) (l:List (ByteArray × ByteArray)) (v:Value) (B:Nat):Prop:=(l=[]∧v=.slice none 0 0)∨∃b,v=.slice (some ⟨b,0,none⟩) l.length l.length∧H.get b=some (.row (rowF l) 28)∧B≤b
theorem zha:apOk Tryd.prog 29 28 2:=zdy (by kernel_rfl)
theorem zg5 (l:List (ByteArray × ByteArray)):(rowF l).length=l.length*2:=by
 induction l with
 |nil=>rfl
 |cons x l ih=>simp only[rowF,List.flatMap_cons,List.length_append,List.length_cons,List.length_nil] at ih ⊢;omega
theorem zg6 (l:List (ByteArray × ByteArray)):(rowF l).all one=true:=by
 induction l with
 |nil=>rfl
 |cons x l ih=>simp only[rowF,List.flatMap_cons,List.all_append,ih];rfl
theorem OutF.push {A H:Heap}{l:List (ByteArray × ByteArray)}{v:Value}{B c:Nat}{ad:Addr}{n d:ByteArray}(h:OutF H l v B) (hw:H.wf) (hx:HX A H) (hB:A.next≤B) (hB2:B≤H.next) (hl:H.load ad (1*2)=some [.string n,.string d]) (hm:l.length+1≤most) :
  ∃v' H',dAp Tryd.prog #[29,29] v (.slice (some ad) 1 c) H=some (.val v' H')∧OutF H' (l++[(n,d)]) v' B∧HX A H'∧H.next≤H'.next:=by
 rcases h with ⟨rfl,rfl⟩|⟨b,rfl,hg,hb⟩
 ·exact⟨_,_,za8 zha (by omega) (by simp [most]) hl rfl,.inr ⟨H.next,rfl,by rw[get_new,if_pos rfl];rfl,hB2⟩,hx.new _,Nat.le_succ _⟩
 ·have hlen:=zg5 l;have htk:(rowF l).take (l.length*2)=rowF l:=List.take_of_length_le (by omega);refine⟨_,_,za9 zha (by omega) hm hl rfl hg (by omega) (by rw[htk];exact zg6 l),.inr ⟨H.next,by simp,?_,hB2⟩,(hx.pt (by omega) hg none).new _,Nat.le_succ _⟩;rw[get_new,z0t,if_pos rfl,htk];simp [rowF]
theorem OutF.keep {H H':Heap}{l:List (ByteArray × ByteArray)}{v:Value}{B:Nat}(h:OutF H l v B) (hx:HX H H') (hw:H.wf):OutF H' l v B:=by
 rcases h with h|⟨b,e,hg,hb⟩
 ·exact .inl h
 ·exact .inr ⟨b,e,hx.get hw hg,hb⟩
theorem OutF.low {H:Heap}{l:List (ByteArray × ByteArray)}{v:Value}{B B':Nat}(h:OutF H l v B) (hB:B'≤B):OutF H l v B':=by
 rcases h with h|⟨b,e,hg,hb⟩
 ·exact .inl h
 ·exact .inr ⟨b,e,hg,Nat.le_trans hB hb⟩
theorem zg7 {H:Heap}{b i:Nat}{cs:List Value}{T:TypeId}{v:Value}(hg:H.get b=some (.row cs T)) (hi:cs[i]?=some v):H.load ⟨b,i,none⟩ 1=some [v]:=by
 have h1:(cs.drop i).take 1=[v]:=by
  obtain⟨hlt,he⟩:=List.getElem?_eq_some_iff.1 hi;rw[List.drop_eq_getElem_cons hlt,he];rfl
 simp only[Heap.load,Heap.cells,hg,h1];rfl
def FSt.sorted (φ:FSt):List (ByteArray × ByteArray):=((φ.files.map fun x=>x.1.data.toList).mergeSort leB).map fun b=>(⟨b.toArray⟩,φ.fileD ⟨b.toArray⟩)
theorem zcw (φ:FSt):φ.sorted.length=φ.files.length:=by simp [FSt.sorted]
theorem zez (φ:FSt):∀x∈φ.sorted,x=(x.1,φ.fileD x.1):=fun x hx=>by
 unfold FSt.sorted at hx;obtain⟨b,-,rfl⟩:=List.mem_map.1 hx;rfl
theorem zf0:∀{es:List MapEntry}{l:List (ByteArray × ByteArray)},es.map (fun e=>(e.key,e.val))=(l.map fun x=>(x.1,Value.string x.2)).map (fun p=>(Value.string p.1,p.2))→(∀x∈l,x.1.size≤maxLen)→keyL es=some (l.map fun x=>x.1.data.toList)
 |[],[],_,_=>rfl
 |[],_ :: _,h,_=>by simp at h
 |_ :: _,[],h,_=>by simp at h
 |e :: es,x :: l,h,hs=>by
  simp only[Zv,List.cons.injEq,Prod.mk.injEq] at h;have ih:=zf0 (es:=es) (l:=l) h.2 (fun y hy=>hs y (Zi _ hy));rw[keyL,h.1.1,ih];simp only[if_pos (hs x (by simp)),Zv]
set_option maxHeartbeats 8000000 in
theorem zg8 {H:Heap}{B p fb ob:Nat}{blk:Int→Nat}{φ:FSt}(h:FsB H B p fb ob blk φ) (hw:H.wf) (hs:∀x∈φ.files,x.1.size≤maxLen) (hl:φ.files.length≤16) :
  EvF Tryd.prog okT 15 [ptrV p] H fun v H'=>HX H H'∧OutF H' φ.sorted v H.next:=by
 refine EvF.enter rfl Tryd.func15 (by decide) rfl ?_;have q:=row8 h.obj
 repeat' (first|refine EvC.seq ?_|(refine EvC.skip ?_;try simp only[z00])|(refine EvC.reg ?_;simp (config := { maxSteps := 2000000 }) (disch:=first|omega|rfl) only[sB,initTm,Za,reduceCtorEq,z1t,ld53,cl37,cl36,z9k,q,z01,z04])|(refine EvC.condF ?_ ?_;simp (config := { maxSteps := 2000000 }) (disch:=first|omega|rfl) only[sB,Za,reduceCtorEq];refine z02 ?_))
 refine(zhu hw).mono ?_;rintro v H1 ⟨rfl,hx1,g1⟩;have w1:=hx1.wf;have h1:=h.keep hx1 hw;obtain⟨es,clk,hg,he⟩:=id h1.fm;obtain⟨es2,clk2,hg2,hb1,hb2⟩:=id h1.bf;rw[hg] at hg2;cases hg2;have hk:=zf0 he hs;have hlen:es.length=φ.files.length:=by have:=congrArg List.length he;simpa using this
 have hnd:(φ.files.map fun x=>x.1.data.toList).Nodup:=by
  have:=h.fd;rw[List.nodup_iff_pairwise_ne,List.pairwise_map] at this ⊢;refine this.imp fun {a b} hab e=>hab ?_
  obtain⟨⟨⟨a0⟩⟩,a1⟩:=a;obtain⟨⟨⟨b0⟩⟩,b1⟩:=b;simp only at e ⊢;rw[e]
 have hmx:φ.files.length≤most:=by unfold most;omega
 skip
 obtain⟨A,S,hA,hSx,hSv⟩:∃A S,HX H1 A∧A.wf∧EvF Tryd.prog okT 36 [.func (.func 47) #[] #[ptrV H.next]] H1 (fun v H'=>v=S∧H'=A ∧
   ((φ.files=[]∧S=.slice none 0 0)∨∃b,S=.slice (some ⟨b,0,none⟩) φ.files.length φ.files.length∧A.get b=some (.row (((φ.files.map fun x=>x.1.data.toList).mergeSort leB).map Go.Proofs.encStr) 9))):=by
  cases hf:φ.files with
  |nil =>
   rw[hf] at he;have:es=[]:=by simpa using he
   subst this;exact⟨H1,.slice none 0 0,HX.refl w1,w1,(z81 g1 hg).mono fun v H' ⟨a,b⟩=>⟨a,b,.inl ⟨rfl,rfl⟩⟩⟩
  |cons x l =>
   rw[hf] at hk hnd hlen hmx;have hxa:=(HX.refl w1).new (some (.row (((x.1.data.toList :: l.map fun x=>x.1.data.toList).mergeSort leB).map Go.Proofs.encStr) 9));refine⟨_,.slice (some ⟨H1.next,0,none⟩) (l.length+1) (l.length+1),hxa,hxa.wf,(zea (T:=9) g1 hg hk (by omega) hb1 hb2 hnd).mono fun v H' ⟨a,b⟩=>⟨by rw[a,List.length_map],b,.inr ⟨H1.next,rfl,?_⟩⟩⟩;rw[get_new,if_pos rfl];rfl
 refine hSv.mono ?_;rintro v H2 ⟨rfl,rfl,hS⟩;have hsl:=zcw φ;have hsm:φ.sorted.map (fun x=>Value.string x.1)=((φ.files.map fun x=>x.1.data.toList).mergeSort leB).map Go.Proofs.encStr:=by
  simp only[FSt.sorted,List.map_map];exact List.map_congr_left fun b _=>rfl
 obtain⟨a,c,rfl,hld⟩:∃a c,v=.slice a φ.sorted.length c∧∀(i:Nat) (hi:i < φ.sorted.length),∃b,a=some ⟨b,0,none⟩∧H2.load ⟨b,i,none⟩ 1=some [.string (φ.sorted[i]).1]:=by
  rcases hS with ⟨hf,rfl⟩|⟨b,rfl,hg3⟩
  ·have h0:φ.sorted.length=0:=by rw[hsl,hf];rfl
   exact⟨none,0,by rw[h0],fun i hi=>by omega⟩
  ·refine⟨some ⟨b,0,none⟩,φ.files.length,by rw[hsl],fun i hi=>⟨b,rfl,zg7 hg3 ?_⟩⟩;rw[←hsm,Zq,Zh hi];rfl
 have w2:=hSx;have h2:=h1.keep hA w1;have hx2:=hx1.trans hA
 repeat' (first|refine EvC.block ?_|(refine z0b ?_;simp (config := { maxSteps := 2000000 }) (disch:=first|omega|rfl) only[sA,ln39]))
 refine EvC.loop (fun k st=>∃tm G i u,st=⟨tm,[],G⟩∧k=φ.sorted.length - i∧i≤φ.sorted.length∧tm.get 0=some (ptrV p)∧tm.get 3=some u∧tm.get 13=some (.slice a φ.sorted.length c)∧tm.get 14=some (.int .i64 φ.sorted.length)∧tm.get 15=some (.int .i64 (i:Nat))∧HX H2 G∧OutF G (φ.sorted.take i) u H2.next) ?_ φ.sorted.length _ ?_
 ·rintro k st ⟨tm,G,i,u,rfl,rfl,hi,t0,t3,t13,t14,t15,hxG,hO⟩;have wG:=hxG.wf;by_cases hlt:i < φ.sorted.length
  ·obtain⟨b,rfl,hld1⟩:=hld i hlt;have hld2:=hxG.load w2 hld1;have hG:=h2.keep hxG w2;have qG:=row8 hG.obj;have hnd1:φ.sorted[i]=((φ.sorted[i]).1,φ.fileD (φ.sorted[i]).1):=zez φ _ (List.getElem_mem hlt);obtain⟨nm,hnm⟩:∃nm,nm=(φ.sorted[i]).1:=⟨_,rfl⟩
   rw[←hnm] at hld2 hnd1;have hlk:=fun ok=>hG.look nm ok
   obtain⟨G1,e1,hxg1,gg1,ng1,wg1⟩:=new1 wG (.row [.string nm,.string (φ.fileD nm)] 28);have hl2:G1.load ⟨G.next,0,none⟩ (1*2)=some [.string nm,.string (φ.fileD nm)]:=by simp only[Heap.load,Heap.cells,gg1];rfl
   obtain⟨u',G2,hap,hO2,hx3,-⟩:=(hO.keep hxg1 wG).push (A:=H2) (c:=1) wg1 (hxG.trans hxg1) (Ze _) (hxG.trans hxg1).next hl2 (by rw[List.length_take];unfold most;omega);have hw1:IntKind.i64.wrap ((i:Int)+1)=((i+1:Nat):Int):=by rw[z0d]<;>omega
   repeat' (first|refine EvC.seq ?_|refine EvC.block ?_|(refine EvC.skip ?_;try simp only[z00])|(refine EvC.reg ?_;simp (config := { maxSteps := 2000000 }) (disch:=first|omega|rfl) only[sB,Za,Zc,Value.cells,one,reduceCtorEq,Zj,layC,z1t,ld53,ia39,ld9,bd28,zh5,t0,t3,t13,t14,t15,decl hlt,hld2,qG,z01,z04,z0p,hlk,e1,hap,hw1])|(refine EvC.condT ?_ ?_;simp (config := { maxSteps := 2000000 }) (disch:=first|omega|rfl) only[sB];refine z02 ?_))
   refine⟨_,by omega,_,_,i+1,u',rfl,rfl,by omega,(by simp only[sG,reduceCtorEq,t0]),(by simp only[sG,Za]),(by simp only[sG,Za,t13]),(by simp only[sG,Za,t14]),(by simp only[sG,Za]),hx3,?_⟩;rw[←List.take_append_getElem hlt,hnd1];exact hO2
  ·obtain rfl:i=φ.sorted.length:=by omega
   rw[List.take_length] at hO
   repeat' (first|refine EvC.seq ?_|(refine EvC.exit ?_;try simp only[sB])|(refine EvC.ret ?_)|(refine EvC.reg ?_;simp (config := { maxSteps := 2000000 }) (disch:=first|omega|rfl) only[sB,Za,t3,t14,t15,decn hlt])|(refine EvC.condF ?_ ?_;simp (config := { maxSteps := 2000000 }) (disch:=first|omega|rfl) only[sB];refine z02 ?_))
   exact z08 rfl (by simp only[sG,Za]) ⟨hx2.trans hxG,hO.low hx2.next⟩
 ·exact⟨_,_,0,_,rfl,rfl,Nat.zero_le _,(by simp only[sG,reduceCtorEq]),(by simp only[sG,Za,reduceCtorEq]),(by simp only[sG,Za,reduceCtorEq]),(by simp only[sG,Za,reduceCtorEq]),(by simp only[sB,Za,reduceCtorEq];rfl),HX.refl w2,.inl ⟨rfl,rfl⟩⟩
end Go.Proofs.hq
end

section
namespace Go.Hb
open Go Go.RowKit
structure RdT (H:Heap) (L:List ByteArray) (a:Option Addr) (c:Nat):Prop where
 len:L.length≤c
 cap:c≤maxLen
 get:∀(i:Nat) (hi:i < L.length),∃b o,a=some ⟨b,o,none⟩∧H.load ⟨b,o+i,none⟩ 1=some [.string L[i]]
theorem RdT.keep {H H':Heap}{L:List ByteArray}{a:Option Addr}{c:Nat}(h:RdT H L a c) (hx:HX H H') (hw:H.wf):RdT H' L a c:=⟨h.len,h.cap,fun i hi=>by obtain⟨b,o,e,l⟩:=h.get i hi;exact⟨b,o,e,hx.load hw l⟩⟩
end Go.Hb
namespace Go.Proofs.hq
open Go Go.RowKit Go.Hb
variable {ok:Ok}
set_option maxRecDepth 10000
attribute [local irreducible] LX LG EL STG SOP SGO SGD SAL SRD SEF SEG SLK SCK ES
theorem z89 {P:Program}{α:Type}{a:α}:pureRun P (pure a)=some a:=rfl
theorem z6h {P:Program}:pureRun P program=some P:=rfl
theorem sihF:Tryd.prog.stoodInHeld 28=false:=by kernel_rfl
theorem unF:pureRun Tryd.prog (underlying 28)=some (.struct #[{ name := "Name", type:=9,offset:=0,embedded:=false,tag := "", pkgPath := "", byteOffset:=0 },{ name := "Data", type:=9,offset:=1,embedded:=false,tag := "", pkgPath := "", byteOffset:=16 }]):=by kernel_rfl
theorem zc0 {n:Nat}{cs:Array Value}{v:Value}(h:cs[n]?=some v):pureRun Tryd.prog (part 9 cs n)=some v:=by
 have h1:pureRun Tryd.prog (isAgg 9)=some false:=by kernel_rfl
 unfold part;rw[z07,h1,Zo,h];rfl
theorem zf1 {d:Nat}{a b:ByteArray}:pureRun Tryd.prog (Op.equalIn (d+1) 9 (.string a) (.string b))=some (a == b):=by
 have hu:pureRun Tryd.prog (underlying 9)=some .string:=by kernel_rfl
 unfold Op.equalIn;rw[z07,hu,Zo];rfl
theorem zhv {a b m n:ByteArray}:pureRun Tryd.prog (Op.equal 28 (.agg #[.string a,.string n]) (.agg #[.string b,.string m]))=some (a == b && n == m):=by
 show pureRun Tryd.prog (Op.equalIn (9999+1) _ _ _)=_;unfold Op.equalIn;rw[z07,unF,Zo];simp only[];rw[z07,z6h,Zo,sihF];simp only[Zb,if_false];have p1:pureRun Tryd.prog (part 9 #[Value.string a,Value.string n] 0)=some (.string a):=zc0 rfl;have p2:pureRun Tryd.prog (part 9 #[Value.string b,Value.string m] 0)=some (.string b):=zc0 rfl;have p3:pureRun Tryd.prog (part 9 #[Value.string a,Value.string n] 1)=some (.string n):=zc0 rfl;have p4:pureRun Tryd.prog (part 9 #[Value.string b,Value.string m] 1)=some (.string m):=zc0 rfl;have e1:pureRun Tryd.prog (Op.equalIn 9999 9 (.string a) (.string b))=some (a == b):=zf1;have e2:pureRun Tryd.prog (Op.equalIn 9999 9 (.string n) (.string m))=some (n == m):=zf1;have nn:(("Name" : String) ≠ "_")=True:=by simp
 have na:(("Data" : String) ≠ "_")=True:=by simp
 simp only[←Array.forIn_toList,List.forIn_cons,List.forIn_nil,z07,nn,na,if_true,p1,p2,e1,Zo];cases hab:a == b with
 |false=>simp [z07,z89]
 |true =>
  simp only[Zp,Zb,if_false,z07,z89,Zo,p3,p4,e2];cases hnm:n == m<;>simp [z07,z89]
theorem bEqF {H:Heap}{x y:Operand}{a n:ByteArray}:dBin Tryd.prog .eql 28 x y (.agg ⟨[.string a,.string n]⟩) (.agg ⟨[.string a,.string n]⟩) H=some (.val (.bool true) H):=by
 have h:=zhv (a:=a) (b:=a) (n:=n) (m:=n);rw[z9j.2 rfl,z9j.2 rfl] at h;have hp:Tryd.prog.eqGuardType Tryd.prog.depth 28=false:=by kernel_rfl
 have hg:pureRun Tryd.prog (eqGuard .eql 28 x y (.agg #[.string a,.string n]) (.agg #[.string a,.string n]))=some ():=by
  unfold eqGuard;simp only[Zp,Zb,if_false];rw[z07,z6h,Zo,z07,z6h,Zo,hp];rfl
 have hb:pureRun Tryd.prog (binOp .eql 28 (.agg #[.string a,.string n]) (.agg #[.string a,.string n]))=some (.bool true):=by
  unfold binOp;simp only[];rw[z07,h];rfl
 have hall:pureRun Tryd.prog (do let r ←(do eqGuard .eql 28 x y (.agg #[.string a,.string n]) (.agg #[.string a,.string n]);binOp .eql 28 (.agg #[.string a,.string n]) (.agg #[.string a,.string n]));pure (Next.value r))=some (.value (.bool true)):=by
  rw[z07,z07,hg,Zo,hb];rfl
 unfold dBin;have d0:dnil Tryd.prog .eql 28 (.agg ⟨[.string a,.string n]⟩) (.agg ⟨[.string a,.string n]⟩)=none:=rfl;rw[d0];simp only[hall];rfl
end Go.Proofs.hq
end

section
namespace Go.Proofs.hq
open Go Go.RowKit Go.Hb
variable {ok:Ok}
set_option maxRecDepth 10000
attribute [local irreducible] LX LG EL STG SOP SGO SGD SAL SRD SEF SEG SLK SCK ES
def fS:ByteArray:=⟨#[102]⟩
abbrev bSt (i en:Int):Strm:=⟨2,fS,1,true,⟨#[]⟩,1,true,i,0,en,false⟩
def bFS (d:ByteArray) (i en:Int):FSt:=⟨[(fS,d)],[(0,str0),(1,str1),(2,bSt i en)],3,⟨#[]⟩,e0,0,1,0⟩
end Go.Proofs.hq
end

section
namespace Go.Hb
open Go Go.RowKit
theorem z58 (a b:ByteArray):(a++b).size=a.size+b.size:=ByteArray.size_append
def joinB (w:ByteArray) (l:List ByteArray):ByteArray:=l.foldl (fun w p=>if w.size < 20000 then w++p else w) w
theorem z8a:∀(l:List ByteArray) (w:ByteArray),w.size≤(joinB w l).size
 |[],w=>Ze _
 |p :: l,w=>by
  unfold joinB;rw[List.foldl_cons];refine Nat.le_trans ?_ (z8a l _);split
  ·rw[z58];omega
  ·exact Ze _
theorem z4e {w:ByteArray}{l:List ByteArray}{i:Nat}(h:i < l.length):joinB w (l.take (i+1))=if (joinB w (l.take i)).size < 20000 then joinB w (l.take i)++l[i] else joinB w (l.take i):=by
 rw[←List.take_append_getElem h];unfold joinB;rw[List.foldl_append,List.foldl_cons,List.foldl_nil]
theorem zf2 {w:ByteArray}{l:List ByteArray}(i:Nat):(joinB w (l.take i)).size≤(joinB w l).size:=by
 have:joinB w l=joinB (joinB w (l.take i)) (l.drop i):=by
  unfold joinB;rw[←List.foldl_append,List.take_append_drop]
 rw[this];exact z8a _ _
theorem z6i {M:Nat}{l:List ByteArray}(hl:∀p∈l,p.size≤M) {w:ByteArray}(hw:w.size≤20000+M):∀i,i≤l.length→(joinB w (l.take i)).size≤20000+M
 |0,_=>by rw[List.take_zero];exact hw
 |i+1,hi=>by
  have ih:=z6i hl hw i (by omega);rw[z4e (by omega)];split
  ·have:=hl l[i] (List.getElem_mem _);rw[z58];omega
  ·exact ih
end Go.Hb
namespace Go.Proofs.hq
open Go Go.RowKit Go.Hb
variable {ok:Ok}
set_option maxRecDepth 10000
attribute [local irreducible] LX LG EL STG SOP SGO SGD SAL SRD SEF SEG SLK SCK ES
abbrev wStr (m:Int) (n0:Nat):Strm:=⟨2,fS,m,false,⟨#[]⟩,0,false,n0,0,0,false⟩
def wSt (m:Int) (n0:Nat) (d:ByteArray) (wr:Int):FSt:=⟨[(fS,d)],[(0,str0),(1,str1),(2,wStr m n0)],3,⟨#[]⟩,e0,0,1,wr⟩
def cSt (d:ByteArray) (wr:Int):FSt:=⟨[(fS,d)],[(0,str0),(1,str1)],3,⟨#[]⟩,e0,0,1,wr⟩
abbrev rStr (i en:Int):Strm:=⟨3,fS,1,false,⟨#[]⟩,0,false,i,0,en,false⟩
def rSt (d:ByteArray) (wr i en:Int):FSt:=⟨[(fS,d)],[(0,str0),(1,str1),(3,rStr i en)],4,⟨#[]⟩,e0,0,1,wr⟩
theorem fsS:(fS == fS)=true:=z9j.2 rfl
theorem zc1 (d d':ByteArray):fset [(fS,d)] fS d'=[(fS,d')]:=by
 unfold fset;simp [List.findIdx?_cons,fsS]
theorem zg9 (m:Int) (d d':ByteArray):(fs1 fS d ⟨#[]⟩).openW fS d' ⟨2,fS,m,false,⟨#[]⟩,0,false,d'.size,0,0,false⟩=wSt m d'.size d' 0:=by
 unfold FSt.openW fs1 wSt;simp only[zc1];rfl
theorem zc2 (m:Int) (n0:Nat) (d:ByteArray) (wr:Int):(wSt m n0 d wr).fileD fS=d:=by
 unfold FSt.fileD FSt.file wSt;simp [fsS]
theorem z6j (m:Int) (n0:Nat) (d:ByteArray) (wr:Int):(wSt m n0 d wr).get 2=some (wStr m n0):=_root_.id rfl
theorem zhb {m:Int}(hm:m≠1) (n0:Nat) (d:ByteArray) (wr:Int):(wSt m n0 d wr).wrErr 2 false=none:=by
 unfold FSt.wrErr;rw[z6j];simp [hm]
theorem zhw {m:Int}(hm:m≠1) {n0:Nat}{d p:ByteArray}{wr:Int}(hv:validB p=true) (h1:wr+p.size≤100000) (h2:d.size+p.size≤20000):(wSt m n0 d wr).putR 2 p=(none,wSt m n0 (d++p) (wr+p.size)):=by
 unfold FSt.putR;rw[zhb hm,z6j];simp only[hv,if_true];unfold FSt.addR;rw[zc2,if_neg (show ¬ 100000 < (wSt m n0 d wr).written+(p.size:Int) from by show ¬ 100000 < wr+(p.size:Int);omega),if_neg (fun q=>by have:=q.2;omega),if_neg (by simp)];show (none,({ wSt m n0 d wr with written:=wr+p.size,files:=fset [(fS,d)] fS (d++p) }:FSt))=_;rw[zc1];rfl
theorem zhx {m:Int}(hm:m≠1) {n0:Nat}{d p:ByteArray}{wr:Int}(hv:validB p=false):(wSt m n0 d wr).putR 2 p=(some reprT,wSt m n0 d wr):=by
 unfold FSt.putR;rw[zhb hm,z6j];simp [hv]
theorem zf3 (m:Int) (n0:Nat) (d:ByteArray) (wr:Int):(wSt m n0 d wr).closeR 2=(none,cSt d wr):=by
 unfold FSt.closeR;rw[z6j];rfl
theorem zga (d:ByteArray) (wr:Int):(cSt d wr).file fS=some d:=by
 unfold FSt.file cSt;simp [fsS]
theorem z2h (d:ByteArray) (wr i en:Int):(rSt d wr i en).get 3=some (rStr i en):=_root_.id rfl
theorem zgb (d:ByteArray) (wr i en:Int):(rSt d wr i en).fileD fS=d:=by
 unfold FSt.fileD FSt.file rSt;simp [fsS]
theorem z8b (d:ByteArray) (wr i en:Int):(rSt d wr i en).data (rStr i en)=d:=by
 unfold FSt.data FSt.file rSt;simp [fsS]
theorem zhy (d:ByteArray) (wr i en j em:Int):(rSt d wr i en).setS 3 (rStr j em)=rSt d wr j em:=_root_.id rfl
theorem zhc (d:ByteArray) (wr i en:Int):(rSt d wr i en).rdErr 3 false=none:=by
 unfold FSt.rdErr;rw[z2h];simp
theorem z6k {d:ByteArray}{wr:Int}{j:Nat}{en:Int}(hd:d.size≤maxLen) (hj:j≤d.size):∀s,(rSt d wr j en).get 3=some s→0≤s.pos∧s.pos≤(((rSt d wr j en).data s).size:Int)∧((rSt d wr j en).data s).size≤maxLen:=fun s hs=>by
 rw[z2h] at hs;cases hs;rw[z8b];exact⟨by simp,by simp;omega,hd⟩
theorem zc3 {d:ByteArray}{wr:Int}{i:Nat}{peek:Bool}(h:i < d.size) (hv:Utf8.decode d i≠(65533,1)) :
  (rSt d wr i 0).readR 3 false peek cutC=((((Utf8.decode d i).1:Nat):Int),none,if peek then rSt d wr i 0 else rSt d wr ((i+(Utf8.decode d i).2:Nat):Int) 0):=by
 obtain⟨-,-,hw,-,-⟩:=z6g h hv;unfold FSt.readR;rw[zhc,z2h];simp only[z8b,Int.toNat_natCast,cutC,zak d (Nat.le_of_lt h)];have hne:¬((Utf8.decode d i).1=65533∧(Utf8.decode d i).2=1):=fun q=>hv (Prod.ext q.1 q.2)
 rw[if_neg (by rw[ByteArray.size_extract];omega)];simp only[if_neg hne];rw[if_neg (by omega),zhy];have e:((i:Int)+((Utf8.decode d i).2:Int))=((i+(Utf8.decode d i).2:Nat):Int):=by omega
 rw[e]
theorem zf4 (d:ByteArray) (wr:Int) (peek:Bool):(rSt d wr d.size 0).readR 3 false peek cutC=(-1,none,if peek then rSt d wr d.size 0 else rSt d wr d.size 2):=by
 unfold FSt.readR;rw[zhc,z2h];simp only[z8b,Int.toNat_natCast];rw[if_pos (by rw[ByteArray.size_extract];omega)];rfl
theorem zcx (d:ByteArray) (wr i en:Int):(rSt d wr i en).sorted=[(fS,d)]:=by
 have e:(rSt d wr i en).files=[(fS,d)]:=rfl;unfold FSt.sorted;rw[e];simp only[Zv,List.map_nil,List.mergeSort_singleton];have hf:(⟨fS.data.toList.toArray⟩:ByteArray)=fS:=rfl;rw[hf,zgb]
end Go.Proofs.hq
end

section
namespace Go.Proofs.hq
open Go Go.RowKit Go.Hb
variable {ok:Ok}
set_option maxRecDepth 10000
attribute [local irreducible] LX LG EL STG SOP SGO SGD SAL SRD SEF SEG SLK SCK ES
def Hw (q:Nat) (H H':Heap):Prop:=H'.wf∧H.next≤H'.next∧∀i,i < H.next→i≠q→H'.get i=H.get i
structure Hz (B q:Nat) (H H':Heap):Prop where
 y:Hy B H H'
 w:Hw q H H'
theorem Hz.of {B q:Nat}{H H':Heap}(h:HX H H'):Hz B q H H':=⟨Hy.of h,h.wf,h.next,fun i hi _=>h.keep i hi⟩
theorem Hz.trans {B q:Nat}{H H1 H2:Heap}(h:Hz B q H H1) (k:Hz B q H1 H2):Hz B q H H2 :=
 ⟨h.y.trans k.y,k.w.1,Nat.le_trans h.w.2.1 k.w.2.1,fun i hi hq=>(k.w.2.2 i (Zn hi h.w.2.1) hq).trans (h.w.2.2 i hi hq)⟩
theorem Hz.put {B q:Nat}{H:Heap}(hw:H.wf) {B0:Blk}(hi:B≤q) (hg:H.get q=some B0) (X:Option Blk):Hz B q H (H.put q X) :=
 ⟨Hy.put hw hi hg X,(Hy.put hw hi hg X).1,by rw[z0t];exact Ze _,fun i _ hq=>by rw[get_put,if_neg hq]⟩
set_option maxHeartbeats 4000000 in
theorem zgc {H:Heap}{B p fb ob:Nat}{blk:Int→Nat}{φ:FSt}{n:Int}{bin peek:Bool}{g:FuncId}{cut:ByteArray→Int × Int}(h:FsB H B p fb ob blk φ) (hw:H.wf) (hn:i64 n)
  (hp:∀s,φ.get n=some s→0≤s.pos∧s.pos≤((φ.data s).size:Int)∧(φ.data s).size≤maxLen) (hg:callable Tryd.prog g=true)
  (hc:∀(H1:Heap) (r:ByteArray),H1.wf→0 < r.size→r.size≤maxLen→0≤(cut r).2∧(cut r).2≤r.size∧EvF Tryd.prog okT g [.string r] H1 fun v H'=>v=.tuple ⟨[.int .i64 (cut r).1,.int .i64 (cut r).2]⟩∧HX H1 H') :
  EvF Tryd.prog okT 27 [ptrV p,.int .i64 n,.bool bin,.bool peek,.func (.func g) #[] #[]] H fun v H'=>∃e,v=.tuple ⟨[.int .i64 (φ.readR n bin peek cut).1,e]⟩∧Hz B (blk n) H H'∧ErrR H' (φ.readR n bin peek cut).2.1 e∧FsB H' B p fb ob blk (φ.readR n bin peek cut).2.2:=by
 refine EvF.enter rfl Tryd.func27 (by decide) rfl ?_
 repeat' (first|refine EvC.seq ?_|(refine EvC.reg ?_;simp (config := { maxSteps := 2000000 }) (disch:=first|omega|rfl) only[sB,initTm,Za,Zc,reduceCtorEq,cl40]))
 refine(zei h hw hn).mono ?_;rintro v H1 (⟨hr,rfl,rfl⟩|⟨t,e,hr,rfl,hx1,he⟩)
 ·obtain⟨s,hs⟩:=zej hr;obtain⟨hp0,hp1,hp2⟩:=hp s hs;have hR:φ.readR n bin peek cut=(let r:=(φ.data s).extract s.pos.toNat (φ.data s).size
   if r.size=0 then (-1,none,if peek then φ else φ.setS n { s with en:=2 })
   else if (cut r).2=0 then (0,some reprT,φ)
   else ((cut r).1,none,if peek then φ else φ.setS n { s with pos:=s.pos+(cut r).2 })):=by unfold FSt.readR;rw[hr,hs]
  have hrow:=h.strm hs
  repeat' (first|refine EvC.seq ?_|(refine EvC.skip ?_;try simp only[z00])|(refine EvC.reg ?_;simp (config := { maxSteps := 2000000 }) (disch:=first|omega|rfl) only[sB,Za,reduceCtorEq,z0v])|(refine EvC.drw [([(0,0),(1,0)],some 2),([(3,0),(4,0),(5,0),(6,0),(7,0),(8,1),(9,1)],none)] ?_ ?_;kernel_rfl;simp (config := { maxSteps := 2000000 }) (disch:=first|omega|rfl) only[sD,sB,Za,Zc,reduceCtorEq,cl25,isAlloc,isRead])|(refine z0b ?_;simp (config := { maxSteps := 2000000 }) (disch:=first|omega|rfl) only[sB,Za,reduceCtorEq])|(refine EvC.condF ?_ ?_;simp (config := { maxSteps := 2000000 }) (disch:=first|omega|rfl) only[sB,Za,reduceCtorEq];refine z02 ?_))
  have hb:=(HX.refl hw).bump 10;refine(zeh (h.keep hb hw) hb.wf (hb.get hw hrow)).mono ?_;rintro v H2 ⟨rfl,hx2⟩;have hx12:=hb.trans hx2;have w2:=hx2.wf;have h2:=h.keep hx12 hw;have qs:=z2g (hx12.get hw hrow);have qb:=z2g (hb.get hw hrow);generalize hd:φ.data s=d at *;obtain⟨sid,sf,sm,sb,sa,se,sr,sp,sl,sn,sc⟩:=s;simp only at qs qb hp0 hp1 hR;obtain⟨l,rfl⟩:=Int.eq_ofNat_of_zero_le hp0;have hl:l≤d.size:=by omega
  have hsl:=fun G=>zcp (P:=Tryd.prog) (H:=G) (k:=.i64) us9 hl
  rw[Int.toNat_natCast] at hR;generalize hre:d.extract l d.size=r at *;have hrs:r.size=d.size - l:=by rw[←hre,ByteArray.size_extract];omega
  by_cases h0:r.size=0
  ·have hbe:=fun G t x y=>zih (H:=G) (t:=t) (x:=x) (y:=y) h0
   rw[if_pos h0] at hR;cases peek
   ·have g2:=h2.strm hs
    repeat' (first|refine EvC.seq ?_|(refine EvC.ret ?_;try simp only[z05,z03])|(refine EvC.reg ?_;simp (config := { maxSteps := 2000000 }) (disch:=first|omega|rfl) only[sB,Za,Zc,one,reduceCtorEq,Zj,z0m,z2q,st3,g2,z01,z04,hbe,Bool.not_false])|(refine z3y ?_;simp (config := { maxSteps := 2000000 }) (disch:=first|omega|rfl) only[sV,sD,sB,Za,reduceCtorEq,z0m,z2r,ld3,qs,qb,z01,z04,hsl,isAlloc,isRead])|(refine EvC.condT ?_ ?_;simp (config := { maxSteps := 2000000 }) (disch:=first|omega|rfl) only[sB,Za,reduceCtorEq];refine z02 ?_))
    exact z06 rfl (by simp only[sB,Za,reduceCtorEq];rfl) (by simp only[sB,Za,reduceCtorEq];rfl) ⟨_,by rw[hR],(Hz.of hx12).trans (Hz.put w2 (h2.lb _ (z6a hs)) (h2.strm hs) _),by rw[hR];rfl,by rw[hR];exact h2.turn (s':=⟨sid,sf,sm,sb,sa,se,sr,l,sl,2,sc⟩) hs⟩
   ·repeat' (first|refine EvC.seq ?_|(refine EvC.skip ?_;try simp only[z00])|(refine EvC.ret ?_;try simp only[z05,z03])|(refine EvC.reg ?_;simp (config := { maxSteps := 2000000 }) (disch:=first|omega|rfl) only[sB,Za,reduceCtorEq,hbe,Zp])|(refine z3y ?_;simp (config := { maxSteps := 2000000 }) (disch:=first|omega|rfl) only[sV,sD,sB,Za,reduceCtorEq,z0m,z2r,ld3,qs,qb,z01,z04,hsl,isAlloc,isRead])|(refine EvC.condT ?_ ?_;simp (config := { maxSteps := 2000000 }) (disch:=first|omega|rfl) only[sB,Za,reduceCtorEq];refine z02 ?_)|(refine EvC.condF ?_ ?_;simp (config := { maxSteps := 2000000 }) (disch:=first|omega|rfl) only[sB,Za,reduceCtorEq];refine z02 ?_))
    exact z06 rfl (by simp only[sB,Za,reduceCtorEq];rfl) (by simp only[sB,Za,reduceCtorEq];rfl) ⟨_,by rw[hR],Hz.of hx12,by rw[hR];rfl,by rw[hR];exact h2⟩
  ·have hbe:=fun G t x y=>ziq (H:=G) (t:=t) (x:=x) (y:=y) h0
   obtain⟨c0,c1,c2⟩:=hc H2 r w2 (by omega) (by omega);rw[if_neg h0] at hR
   repeat' (first|refine EvC.seq ?_|(refine EvC.skip ?_;try simp only[z00])|(refine EvC.reg ?_;simp (config := { maxSteps := 2000000 }) (disch:=first|omega|rfl) only[sB,Za,reduceCtorEq,hbe,zdz,zaa hg])|(refine z3y ?_;simp (config := { maxSteps := 2000000 }) (disch:=first|omega|rfl) only[sV,sD,sB,Za,reduceCtorEq,z0m,z2r,ld3,qs,qb,z01,z04,hsl,isAlloc,isRead])|(refine EvC.condF ?_ ?_;simp (config := { maxSteps := 2000000 }) (disch:=first|omega|rfl) only[sB,Za,reduceCtorEq];refine z02 ?_))
   refine c2.mono ?_;rintro v H3 ⟨rfl,hx3⟩;have hx13:=hx12.trans hx3;have w3:=hx3.wf;have h3:=h2.keep hx3 w2;have q3:=z2g (hx13.get hw hrow);simp only at q3;generalize hcu:cut r=cr at *;obtain⟨cc,ck⟩:=cr;simp only at c0 c1 hR;by_cases hk0:ck=0
   ·rw[if_pos hk0] at hR
    repeat' (first|refine EvC.seq ?_|(refine EvC.reg ?_;simp (config := { maxSteps := 2000000 }) (disch:=first|omega|rfl) only[sB,Za,Zc,Value.cells,reduceCtorEq,layC,cl21,z9h,z3x hk0])|(refine z0b ?_;simp (config := { maxSteps := 2000000 }) (disch:=first|omega|rfl) only[sB,Za,reduceCtorEq])|(refine EvC.condT ?_ ?_;simp (config := { maxSteps := 2000000 }) (disch:=first|omega|rfl) only[sB,Za,reduceCtorEq];refine z02 ?_))
    refine(z3i w3 (s:=charS) (by simp [charS,maxLen,Zm])).mono ?_;rintro v H4 ⟨rfl,hx4,-⟩;obtain⟨H5,e5,hx5,g5,n5,w5⟩:=new1 hx4.wf (.row (six (atomT charS) none 0) 66)
    repeat' (first|(refine z0b ?_;simp (config := { maxSteps := 2000000 }) (disch:=first|omega|rfl) only[sB,Za,Zc,one,reduceCtorEq,cl20,cl22,e5]))
    refine(zaj (s:=reprS) w5).mono ?_;rintro v H6 ⟨rfl,hx6,-⟩;have rt:=z68 (H:=H6) (s:=reprS) (t:=atomT charS) (by simp [reprS,maxLen,Zm]) (z2f (by simp [charS,maxLen,Zm])) (hx6.get w5 g5)
    skip
    refine(z2x hx6.wf rt).mono ?_;rintro v H7 ⟨hx7,ht⟩
    repeat' (first|(refine EvC.ret ?_;try simp only[z05,z03]))
    have hxe:=(((hx13.trans hx4).trans hx5).trans hx6).trans hx7;exact z06 rfl (by simp only[sB,Za,reduceCtorEq];rfl) (by simp only[sB,Za,reduceCtorEq];rfl) ⟨_,by rw[hR],Hz.of hxe,by rw[hR];exact ht,by rw[hR];exact h.keep hxe hw⟩
   ·rw[if_neg hk0] at hR;have hwr:IntKind.i64.wrap ((l:Int)+ck)=(l:Int)+ck:=z0d (by omega) (by have:maxLen=9223372036854775807:=rfl;omega);cases peek
    ·have g2:=h3.strm hs
     repeat' (first|refine EvC.seq ?_|(refine EvC.skip ?_;try simp only[z00])|(refine EvC.ret ?_)|(refine EvC.reg ?_;simp (config := { maxSteps := 2000000 }) (disch:=first|omega|rfl) only[sB,Za,Zc,one,reduceCtorEq,Zj,z0m,z2r,ld3,st3,q3,g2,z2j hk0,z01,z04,hwr,Bool.not_false])|(refine z0b ?_;simp (config := { maxSteps := 2000000 }) (disch:=first|omega|rfl) only[sB,Za,reduceCtorEq])|(refine EvC.condT ?_ ?_;simp (config := { maxSteps := 2000000 }) (disch:=first|omega|rfl) only[sB,Za,reduceCtorEq];refine z02 ?_)|(refine EvC.condF ?_ ?_;simp (config := { maxSteps := 2000000 }) (disch:=first|omega|rfl) only[sB,Za,reduceCtorEq];refine z02 ?_))
     exact z06 rfl (by simp only[sB,Za,reduceCtorEq];rfl) (by simp only[sB,Za,reduceCtorEq];rfl) ⟨_,by rw[hR],(Hz.of hx13).trans (Hz.put w3 (h3.lb _ (z6a hs)) (h3.strm hs) _),by rw[hR];rfl,by rw[hR];exact h3.turn (s':=⟨sid,sf,sm,sb,sa,se,sr,l+ck,sl,sn,sc⟩) hs⟩
    ·repeat' (first|refine EvC.seq ?_|(refine EvC.skip ?_;try simp only[z00])|(refine EvC.ret ?_)|(refine EvC.reg ?_;simp (config := { maxSteps := 2000000 }) (disch:=first|omega|rfl) only[sB,Za,reduceCtorEq,z2j hk0,Zp])|(refine z0b ?_;simp (config := { maxSteps := 2000000 }) (disch:=first|omega|rfl) only[sB,Za,reduceCtorEq])|(refine EvC.condF ?_ ?_;simp (config := { maxSteps := 2000000 }) (disch:=first|omega|rfl) only[sB,Za,reduceCtorEq];refine z02 ?_))
     exact z06 rfl (by simp only[sB,Za,reduceCtorEq];rfl) (by simp only[sB,Za,reduceCtorEq];rfl) ⟨_,by rw[hR],Hz.of hx13,by rw[hR];rfl,by rw[hR];exact h3⟩
 ·obtain⟨eb,ecs,rfl,-⟩:=id he;have hR:φ.readR n bin peek cut=(0,some t,φ):=by unfold FSt.readR;rw[hr]
  repeat' (first|refine EvC.seq ?_|(refine EvC.ret ?_;try simp only[z05,z03])|(refine EvC.reg ?_;simp (config := { maxSteps := 2000000 }) (disch:=first|omega|rfl) only[sB,Za,reduceCtorEq,z6b])|(refine z0b ?_;simp (config := { maxSteps := 2000000 }) (disch:=first|omega|rfl) only[sB,Za,reduceCtorEq])|(refine EvC.condT ?_ ?_;simp (config := { maxSteps := 2000000 }) (disch:=first|omega|rfl) only[sB,Za,reduceCtorEq];refine z02 ?_))
  exact z06 rfl (by simp only[sB,Za,reduceCtorEq];rfl) (by simp only[sB,Za,reduceCtorEq];rfl) ⟨_,by rw[hR],Hz.of hx1,by rw[hR];exact he,by rw[hR];exact h.keep hx1 hw⟩
theorem z8c {H:Heap}{B p fb ob:Nat}{blk:Int→Nat}{φ:FSt}{n:Int}{peek:Bool}(h:FsB H B p fb ob blk φ) (hw:H.wf) (hn:i64 n)
  (hp:∀s,φ.get n=some s→0≤s.pos∧s.pos≤((φ.data s).size:Int)∧(φ.data s).size≤maxLen) :
  EvF Tryd.prog okT 13 [ptrV p,.int .i64 n,.bool peek] H fun v H'=>∃e,v=.tuple ⟨[.int .i64 (φ.readR n false peek cutC).1,e]⟩∧Hz B (blk n) H H'∧ErrR H' (φ.readR n false peek cutC).2.1 e∧FsB H' B p fb ob blk (φ.readR n false peek cutC).2.2:=by
 refine EvF.enter rfl Tryd.func13 (by decide) rfl ?_
 repeat' (first|refine EvC.seq ?_|(refine EvC.reg ?_;simp (config := { maxSteps := 2000000 }) (disch:=first|omega|rfl) only[sB,initTm,Za,Zc,reduceCtorEq,cl27]))
 refine(zgc (g:=33) (cut:=cutC) (peek:=peek) (bin:=false) h hw hn hp (by kernel_rfl) (fun H1 r w1 h0 hm=>⟨?_,?_,zhs h0 w1⟩)).mono ?_
 ·unfold cutC;simp only;split<;>omega
 ·have hb:=fun i=>z2p r i
  have k:=(zal (n:=r.size) (hb 0) (hb (0+1)) (hb (0+2)) (hb (0+3)) h0).2.2;have hN:=zcu r 0;rw[Nat.sub_zero] at hN;rw[←hN] at k;unfold cutC;simp only;split<;>omega
 rintro v H1 ⟨e,rfl,k1,k2,k3⟩
 repeat' (first|(refine EvC.ret ?_)|(refine z0b ?_;simp (config := { maxSteps := 2000000 }) (disch:=first|omega|rfl) only[sB,Za,reduceCtorEq]))
 exact z06 rfl (by simp only[sG,Za,reduceCtorEq]) (by simp only[sG,Za,reduceCtorEq]) ⟨e,rfl,k1,k2,k3⟩
theorem bNeB {H:Heap}{x y:Operand}{a b:Bool}:dBin Tryd.prog .neq 4 x y (.bool a) (.bool b) H=some (.val (.bool (a != b)) H):=by
 cases a<;>cases b<;>kernel_rfl
theorem zhd:apOk Tryd.prog 43 5 1:=zdy (by kernel_rfl)
def OutB (H:Heap) (l:List Nat) (v:Value):Prop:=(l=[]∧v=.slice none 0 0)∨∃b,v=.slice (some ⟨b,0,none⟩) l.length l.length∧H.get b=some (.row (l.map u8W) 5)
theorem zan (l:List Nat):(l.map u8W).all one=true:=by
 induction l with
 |nil=>rfl
 |cons x l ih=>rw[Zv,List.all_cons,ih];rfl
theorem OutB.hx {H H':Heap}{l:List Nat}{v:Value}(h:OutB H l v) (hx:HX H H') (hw:H.wf):OutB H' l v:=by
 rcases h with h|⟨b,e,hg⟩
 ·exact .inl h
 ·exact .inr ⟨b,e,hx.get hw hg⟩
theorem OutB.hz {H H':Heap}{B p fb ob:Nat}{blk:Int→Nat}{φ:FSt}{n:Int}{s:Strm}{l:List Nat}{v:Value}(h:OutB H l v) (hF:FsB H B p fb ob blk φ) (hn:φ.get n=some s) (hz:Hz B (blk n) H H') (hw:H.wf):OutB H' l v:=by
 rcases h with h|⟨b,e,hg⟩
 ·exact .inl h
 ·refine .inr ⟨b,e,(hz.w.2.2 b (hw _ _ hg) fun q=>?_).trans hg⟩;have:=hF.strm hn;rw[←q,hg] at this;simp at this
theorem FsB.bytes {H:Heap}{B p fb ob i:Nat}{blk:Int→Nat}{φ:FSt}{cs:List Value}{X:Option Blk}(h:FsB H B p fb ob blk φ) (hi:H.get i=some (.row cs 5)):FsB (H.put i X) B p fb ob blk φ:=by
 have hk:∀j,H.get j≠some (.row cs 5)→(H.put i X).get j=H.get j:=fun j hj=>by rw[get_put,if_neg (fun e=>hj (by rw[e];exact hi))]
 have l1:H.get p≠some (.row cs 5):=by rw[h.obj];simp
 have l2:H.get fb≠some (.row cs 5):=by obtain⟨_,_,hm,-⟩:=h.fm;rw[hm];simp
 have l3:H.get ob≠some (.row cs 5):=by obtain⟨_,_,hm,-⟩:=h.om;rw[hm];simp
 refine⟨(hk p l1).trans h.obj,h.fm.heap (hk fb l2),h.om.heap (hk ob l3),h.bo.heap (hk ob l3),fun o q=>?_,h.nd,h.inj,h.lp,h.lf,h.lo,h.lb,h.fo,h.bf.heap (hk fb l2),h.fd⟩;rw[hk _ (by rw[h.st o q];simp)];exact h.st o q
theorem OutB.push {H:Heap}{B p fb ob b2:Nat}{blk:Int→Nat}{φ:FSt}{l m:List Nat}{v:Value}(h:OutB H l v) (hF:FsB H B p fb ob blk φ) (hw:H.wf) (hg2:H.get b2=some (.row (m.map u8W) 5)) (hm0:0 < m.length) (hm:l.length+m.length≤most) :
  ∃v' H',dAp Tryd.prog #[43,43] v (.slice (some ⟨b2,0,none⟩) m.length m.length) H=some (.val v' H')∧OutB H' (l++m) v'∧FsB H' B p fb ob blk φ∧H'.wf:=by
 have hl2:H.load ⟨b2,0,none⟩ (m.length*1)=some (m.map u8W):=by
  have e:(m.map u8W).take (m.length*1)=m.map u8W:=List.take_of_length_le (by simp);simp only[Heap.load,Heap.cells,hg2,List.drop_zero,e];simp
 rcases h with ⟨rfl,rfl⟩|⟨b,rfl,hg⟩
 ·have hx:=(HX.refl hw).new (some (.row (m.map u8W) 5));exact⟨_,_,za8 zhd hm0 (by simpa using hm) hl2 (zan m),.inr ⟨H.next,by simp,by rw[get_new,if_pos rfl];rfl⟩,hF.keep hx hw,hx.wf⟩
 ·have htk:(l.map u8W).take (l.length*1)=l.map u8W:=List.take_of_length_le (by simp);have hF2:=hF.bytes (X:=none) hg;have hw2:(H.put b none).wf:=(Hz.put (B:=0) (q:=b) hw (Nat.zero_le _) hg none).y.1;have hx:=(HX.refl hw2).new (some (.row ((l.map u8W).take (l.length*1)++m.map u8W) 5));refine⟨_,_,za9 zhd hm0 hm hl2 (zan m) hg (by simp) (by rw[htk];exact zan l),.inr ⟨H.next,by simp,?_⟩,hF2.keep hx hw2,hx.wf⟩;rw[get_new,z0t,if_pos rfl,htk];simp
theorem OutB.text {H:Heap}{s:ByteArray}{v:Value}(h:OutB H (upTo s s.size) v):dCon Tryd.prog 43 9 v H=some (.val (.string s) H):=by
 rcases h with ⟨h0,rfl⟩|⟨b,rfl,hg⟩
 ·have hs:s.data.toList=[]:=by rw[←z87,h0];rfl
  have hs2:s=Zg:=by
   cases s with
   |mk d=>cases d with
    |mk l=>simp only at hs;rw[hs];rfl
  rw[hs2];exact z4b (e:=5) (by kernel_rfl) (by kernel_rfl) (by kernel_rfl) rfl
 ·by_cases h0:s.size=0
  ·have hl:upTo s s.size=[]:=List.eq_nil_of_length_eq_zero (by rw[z88];exact h0);have hs:s.data.toList=[]:=by rw[←z87,hl];rfl
   have hs2:s=Zg:=by
    cases s with
    |mk d=>cases d with
     |mk l=>simp only at hs;rw[hs];rfl
   rw[hl,hs2];exact z4b (e:=5) (by kernel_rfl) (by kernel_rfl) (by kernel_rfl) rfl
  ·have hload:H.load ⟨b,0,none⟩ (upTo s s.size).length=some (bytesV (upTo s s.size)):=by
    have e:((upTo s s.size).map u8W).take (upTo s s.size).length=(upTo s s.size).map u8W:=List.take_of_length_le (by simp);simp only[Heap.load,Heap.cells,hg,List.drop_zero,e];simp [bytesV]
   obtain⟨t,hdb,ht⟩:=zcq (c:=(upTo s s.size).length) hload (by rw[z88];exact h0);rw[z87] at ht;have hts:t=s:=by
    cases t with
    |mk d=>cases s with
     |mk d'=>cases d with
      |mk l=>cases d' with
       |mk l'=>simp only at ht;rw[ht]
   rw[hts] at hdb;exact z4b (e:=5) (by kernel_rfl) (by kernel_rfl) (by kernel_rfl) hdb
set_option maxHeartbeats 16000000 in
theorem zcy {H:Heap}{L:List ByteArray}{a:Option Addr}{c:Nat}{ahead:ByteArray}{ext:Bool}(hR:RdT H L a c) (hL:∀p∈L,p.size≤1048576) (ha:ahead.size≤1048576) (hw:H.wf) :
  EvF Tryd.prog okT 4 [.slice a L.length c,.string ahead,.bool ext] H fun v _=>v=.bool true:=by
 refine EvF.enter rfl Tryd.func4 (by decide) rfl ?_
 repeat' (first|refine EvC.seq ?_|(refine EvC.reg ?_;simp (config := { maxSteps := 2000000 }) (disch:=first|omega|rfl) only[sB,initTm,Za,Zc,reduceCtorEq,cl5]))
 refine(zah hw).mono ?_;rintro v A0 ⟨rfl,rfl⟩;obtain⟨W0,hW0⟩:∃W0,W0=if ext=true then ahead else ⟨#[]⟩:=⟨_,rfl⟩
 have hWs:W0.size≤1048576:=by
  rw[hW0];split
  ·exact ha
  ·exact Nat.zero_le _
 repeat' (first|refine EvC.seq ?_|(refine EvC.reg ?_;simp (config := { maxSteps := 2000000 }) (disch:=first|omega|rfl) only[sB,Za,reduceCtorEq]))
 refine EvC.join (fun st=>∃tm,st=⟨tm,[],A0⟩∧tm.get 0=some (.slice a L.length c)∧tm.get 1=some (.string ahead)∧tm.get 2=some (.bool ext)∧tm.get 7=some (.bool true)∧tm.get 8=some (.string W0)) ?_ ?_
 ·cases ext
  ·repeat' (first|(refine EvC.skip ?_;try simp only[z00])|(refine EvC.condF ?_ ?_;simp (config := { maxSteps := 2000000 }) (disch:=first|omega|rfl) only[sB,Za,reduceCtorEq];refine z02 ?_))
   exact⟨_,rfl,(by simp only[sG,reduceCtorEq]),(by simp only[sG,Za,reduceCtorEq]),(by simp only[sG,Za,reduceCtorEq]),(by simp only[sG,Za,reduceCtorEq]),by rw[hW0];exact(by simp only[sG,Za,reduceCtorEq])⟩
  ·repeat' (first|(refine EvC.reg ?_;simp (config := { maxSteps := 2000000 }) (disch:=first|omega|rfl) only[sB,Za,reduceCtorEq])|(refine EvC.condT ?_ ?_;simp (config := { maxSteps := 2000000 }) (disch:=first|omega|rfl) only[sB,Za,reduceCtorEq];refine z02 ?_))
   exact⟨_,rfl,(by simp only[sG,reduceCtorEq]),(by simp only[sG,Za,reduceCtorEq]),(by simp only[sG,Za,reduceCtorEq]),(by simp only[sG,Za,reduceCtorEq]),by rw[hW0];exact(by simp only[sG,Za,reduceCtorEq])⟩
 rintro st ⟨tm,rfl,t0,t1,t2,t7,t8⟩
 repeat' (first|refine EvC.seq ?_|refine EvC.block ?_|(refine EvC.reg ?_;simp (config := { maxSteps := 2000000 }) (disch:=first|omega|rfl) only[sA]))
 refine EvC.loop (fun k st=>∃tm i,st=⟨tm,[],A0⟩∧k=L.length - i∧i≤L.length∧tm.get 0=some (.slice a L.length c)∧tm.get 1=some (.string ahead)∧tm.get 2=some (.bool ext)∧tm.get 7=some (.bool true)∧tm.get 8=some (.string (joinB W0 (L.take i)))∧tm.get 9=some (.int .i64 (i:Nat))) ?_ L.length _ ?_
 ·rintro k st ⟨tm,i,rfl,rfl,hi,t0,t1,t2,t7,t8,t9⟩;have hjb:=z6i (M:=1048576) hL (w:=W0) (by omega) i hi;by_cases hlt:i < L.length
  ·obtain⟨b,o,rfl,hld⟩:=hR.get i hlt;have hpi:=hL L[i] (List.getElem_mem hlt);have hlc:=hR.len;have hcm:=hR.cap;have hm:maxLen=9223372036854775807:=rfl;have hw1:IntKind.i64.wrap ((i:Int)+1)=((i+1:Nat):Int):=by rw[z0d]<;>omega
   have hst:=z4e (w:=W0) hlt;by_cases hsh:(joinB W0 (L.take i)).size < 20000
   ·rw[if_pos hsh] at hst;have d1:decide (((joinB W0 (L.take i)).size:Int) < 20000)=true:=decide_eq_true (by omega);have hadd:=fun G T x y=>z6d (P:=Tryd.prog) (H:=G) (t:=T) (x:=x) (y:=y) (a:=joinB W0 (L.take i)) (b:=L[i]) (by omega)
    repeat' (first|refine EvC.seq ?_|refine EvC.block ?_|(refine EvC.skip ?_;try simp only[z00])|(refine EvC.reg ?_;simp (config := { maxSteps := 2000000 }) (disch:=first|omega|rfl) only[sB,Za,reduceCtorEq,ln39,ln9,ia39,ld9,t0,t8,t9,decl hlt,d1,hld,hadd,hw1])|(refine EvC.condT ?_ ?_;simp (config := { maxSteps := 2000000 }) (disch:=first|omega|rfl) only[sB,Za];refine z02 ?_))
    exact⟨_,by omega,_,i+1,rfl,rfl,by omega,(by simp only[sG,reduceCtorEq,t0]),(by simp only[sG,Za,t1]),(by simp only[sG,Za,t2]),(by simp only[sG,Za,t7]),by rw[hst];exact(by simp only[sG,Za]),(by simp only[sG,Za])⟩
   ·rw[if_neg hsh] at hst;have d1:decide (((joinB W0 (L.take i)).size:Int) < 20000)=false:=decide_eq_false (by omega)
    repeat' (first|refine EvC.seq ?_|refine EvC.block ?_|(refine EvC.skip ?_;try simp only[sA])|(refine EvC.reg ?_;simp (config := { maxSteps := 2000000 }) (disch:=first|omega|rfl) only[sB,Za,reduceCtorEq,ln39,ln9,t0,t8,t9,decl hlt,d1,hw1])|(refine EvC.condT ?_ ?_;simp (config := { maxSteps := 2000000 }) (disch:=first|omega|rfl) only[sB,Za];refine z02 ?_)|(refine EvC.condF ?_ ?_;simp (config := { maxSteps := 2000000 }) (disch:=first|omega|rfl) only[sB,Za];refine z02 ?_))
    exact⟨_,by omega,_,i+1,rfl,rfl,by omega,(by simp only[sG,reduceCtorEq,t0]),(by simp only[sG,Za,t1]),(by simp only[sG,Za,t2]),(by simp only[sG,Za,t7]),by rw[hst];exact(by simp only[sG,Za,t8]),(by simp only[sG,Za])⟩
  ·obtain rfl:i=L.length:=by omega
   rw[List.take_length] at t8 hjb;obtain⟨D,hD⟩:∃D,D=joinB W0 L:=⟨_,rfl⟩
   rw[←hD] at t8 hjb
   repeat' (first|refine EvC.seq ?_|(refine EvC.exit ?_;try simp only[sB])|(refine EvC.reg ?_;simp (config := { maxSteps := 2000000 }) (disch:=first|omega|rfl) only[sB,Za,reduceCtorEq,ln39,ln9,cl10,t0,t8,t9,decn hlt])|(refine EvC.condF ?_ ?_;simp (config := { maxSteps := 2000000 }) (disch:=first|omega|rfl) only[sB,Za];refine z02 ?_))
   refine(zh9 (s:=D) (by omega)).mono ?_;rintro v A1 ⟨z,rfl,rfl,hz1,hz2⟩;cases hv:validB D with
   |false =>
    have hz:=hz2 hv;have d1:decide (z ≥ 0)=true:=decide_eq_true hz
    repeat' (first|refine EvC.seq ?_|(refine EvC.ret ?_;try simp only[z05,z03])|(refine EvC.reg ?_;simp (config := { maxSteps := 2000000 }) (disch:=first|omega|rfl) only[sB,Za,t7])|(refine z0b ?_;simp (config := { maxSteps := 2000000 }) (disch:=first|omega|rfl) only[sB,Za,d1])|(refine EvC.condT ?_ ?_;simp (config := { maxSteps := 2000000 }) (disch:=first|omega|rfl) only[sB,Za];refine z02 ?_))
    exact z08 rfl (by simp only[sG,Za]) rfl
   |true =>
    obtain rfl:=hz1 hv;have d0:decide ((-1:Int) ≥ 0)=false:=rfl;by_cases h6:(6000:Int) < D.size
    ·have d1:decide ((6000:Int) < (D.size:Int))=true:=decide_eq_true h6
     repeat' (first|refine EvC.seq ?_|(refine EvC.ret ?_;try simp only[z05,z03])|(refine EvC.reg ?_;simp (config := { maxSteps := 2000000 }) (disch:=first|omega|rfl) only[sB,Za,t7])|(refine z0b ?_;simp (config := { maxSteps := 2000000 }) (disch:=first|omega|rfl) only[sB,Za,ln9,d0,d1,t8,gt_iff_lt,Zb])|(refine EvC.condT ?_ ?_;simp (config := { maxSteps := 2000000 }) (disch:=first|omega|rfl) only[sB,Za];refine z02 ?_))
     exact z08 rfl (by simp only[sG,Za]) rfl
    have d1:decide ((6000:Int) < (D.size:Int))=false:=decide_eq_false h6;by_cases h7:(6000:Int) < ahead.size
    ·have d2:decide ((6000:Int) < (ahead.size:Int))=true:=decide_eq_true h7
     repeat' (first|refine EvC.seq ?_|(refine EvC.ret ?_;try simp only[z05,z03])|(refine EvC.reg ?_;simp (config := { maxSteps := 2000000 }) (disch:=first|omega|rfl) only[sB,Za,t7])|(refine z0b ?_;simp (config := { maxSteps := 2000000 }) (disch:=first|omega|rfl) only[sB,Za,ln9,d0,d1,d2,t1,t8,gt_iff_lt,Zb])|(refine EvC.condT ?_ ?_;simp (config := { maxSteps := 2000000 }) (disch:=first|omega|rfl) only[sB,Za];refine z02 ?_))
     exact z08 rfl (by simp only[sG,Za]) rfl
    have d2:decide ((6000:Int) < (ahead.size:Int))=false:=decide_eq_false h7;obtain⟨H1,e1,hx1,g1,n1,w1⟩:=new1 hw (.row [.string ⟨#[102]⟩,.string ahead] 28);have z1:((0:Int) != 0)=false:=rfl
    repeat' (first|refine EvC.seq ?_|(refine EvC.skip ?_;try simp only[z00])|(refine EvC.reg ?_;simp (config := { maxSteps := 2000000 }) (disch:=first|omega|rfl) only[sB,Za,Zc,Value.cells,one,Zj,layC,bd28,zh5,cl6,t1,e1])|(refine z0b ?_;simp (config := { maxSteps := 2000000 }) (disch:=first|omega|rfl) only[sB,Za,ln9,d0,d1,d2,t1,t8,gt_iff_lt,Zb])|(refine EvC.condF ?_ ?_;simp (config := { maxSteps := 2000000 }) (disch:=first|omega|rfl) only[sB,Za];refine z02 ?_))
    refine(zfx (f:=fS) (d:=ahead) (u:=⟨#[]⟩) w1 g1 (by decide) (by omega) (by decide)).mono ?_;rintro v H2 ⟨p,fb,ob,blk,rfl,hx2,hF⟩;have w2:=hx2.wf;have hR1:=hR.keep hx1 hw
    repeat' (first|refine EvC.seq ?_|(refine EvC.skip ?_;try simp only[z00])|(refine EvC.reg ?_;simp (config := { maxSteps := 2000000 }) (disch:=first|omega|rfl) only[sB,Za,t2,t7,z9k,z1,Zp,Zb])|(refine z0b ?_;simp (config := { maxSteps := 2000000 }) (disch:=first|omega|rfl) only[sB,Za])|(refine EvC.condF ?_ ?_;simp (config := { maxSteps := 2000000 }) (disch:=first|omega|rfl) only[sB,Za];refine z02 ?_))
    refine EvC.join (fun st=>∃tm m,st=⟨tm,[],H2⟩∧((m=2∧W0=⟨#[]⟩)∨(m=3∧W0=ahead))∧tm.get 0=some (.slice a L.length c)∧tm.get 8=some (.string D)∧tm.get 10=some (ptrV p)∧tm.get 12=some (.int .i64 m)) ?_ ?_
    ·cases ext
     ·repeat' (first|(refine EvC.skip ?_;try simp only[z00])|(refine EvC.condF ?_ ?_;simp (config := { maxSteps := 2000000 }) (disch:=first|omega|rfl) only[sB,Za];refine z02 ?_))
      exact⟨_,2,rfl,.inl ⟨rfl,by rw[hW0];rfl⟩,(by simp only[sG,reduceCtorEq,t0]),(by simp only[sG,Za,t8]),(by simp only[sG,Za]),(by simp only[sG,Za])⟩
     ·repeat' (first|(refine EvC.reg ?_;simp (config := { maxSteps := 2000000 }) (disch:=first|omega|rfl) only[sA])|(refine EvC.condT ?_ ?_;simp (config := { maxSteps := 2000000 }) (disch:=first|omega|rfl) only[sB,Za];refine z02 ?_))
      exact⟨_,3,rfl,.inr ⟨rfl,by rw[hW0];rfl⟩,(by simp only[sG,reduceCtorEq,t0]),(by simp only[sG,Za,t8]),(by simp only[sG,Za]),(by simp only[sG,Za])⟩
    clear t0 t1 t2 t7 t8 t9 tm;rintro st ⟨tm,m,rfl,hm,t0,t8,t10,t12⟩;have hm1:m≠1:=by rcases hm with ⟨h,-⟩|⟨h,-⟩<;>omega
    repeat' (first|refine EvC.seq ?_|(refine EvC.reg ?_;simp (config := { maxSteps := 2000000 }) (disch:=first|omega|rfl) only[sB,Za,Value.cells,layC,bd35,cl7,t10,t12]))
    refine(zg0 (name:=fS) (d:=ahead) (d':=W0) hF w2 hx2.next rfl (by decide) (fun o ho=>?_) (show (2:Nat) < 16 by decide) (fun o ho=>?_) (show (2:Int) < 9223372036854775807 by decide) (show (0:Int)≤2 by decide) hm).mono ?_
    ·simp only[fs1,List.mem_cons,List.not_mem_nil,or_false] at ho;rcases ho with rfl|rfl<;>rfl
    ·simp only[fs1,List.mem_cons,List.not_mem_nil,or_false] at ho;rcases ho with rfl|rfl
     ·show (0:Int) < 2;decide
     ·show (1:Int) < 2;decide
    rintro v H3 ⟨rfl,hy3,blk',hF0⟩;have hF3:FsB H3 H1.next p fb ob blk' (wSt m W0.size W0 0):=by rw[←zg9 m ahead W0];exact hF0
    clear hF0;have w3:=hy3.1;have hx3:HX H1 H3:=hy3.2.2 H1 (Ze _) hx2;have i2:i64 2:=by unfold i64;omega
    have hjs:∀i,(joinB W0 (L.take i)).size≤6000:=fun i=>by
     have:=zf2 (w:=W0) (l:=L) i;rw[←hD] at this;omega
    repeat' (first|refine EvC.seq ?_|refine EvC.block ?_|(refine EvC.reg ?_;simp (config := { maxSteps := 2000000 }) (disch:=first|omega|rfl) only[sA])|(refine z0b ?_;simp (config := { maxSteps := 2000000 }) (disch:=first|omega|rfl) only[sB,Za]))
    refine EvC.loop (fun k st=>∃tm G i,st=⟨tm,[],G⟩∧k=L.length - i∧i≤L.length∧tm.get 0=some (.slice a L.length c)∧tm.get 8=some (.string D)∧tm.get 10=some (ptrV p)∧tm.get 13=some (.int .i64 2)∧tm.get 14=some .nilIface∧tm.get 15=some (.int .i64 (i:Nat))∧HX H1 G ∧
     FsB G H1.next p fb ob blk' (wSt m W0.size (joinB W0 (L.take i)) ((joinB W0 (L.take i)).size - W0.size))) ?_ L.length _ ?_
    ·rintro k st ⟨tm,G,i,rfl,rfl,hi,t0,t8,t10,t13,t14,t15,hxG,hFG⟩;have wG:=hxG.wf;have hsz:=hjs i;by_cases hlt2:i < L.length
     ·obtain⟨b,o,rfl,hld⟩:=(hR1.keep hxG w1).get i hlt2;have hpi:=hL L[i] (List.getElem_mem hlt2);have hlc:=hR.len;have hcm:=hR.cap;have hmx:maxLen=9223372036854775807:=rfl;have hw1:IntKind.i64.wrap ((i:Int)+1)=((i+1:Nat):Int):=by rw[z0d]<;>omega
      have hst:=z4e (w:=W0) hlt2;rw[if_pos (by omega)] at hst;have hs2:=hjs (i+1);rw[hst,z58] at hs2;have hww:W0.size≤(joinB W0 (L.take i)).size:=z8a _ _
      repeat' (first|refine EvC.seq ?_|refine EvC.block ?_|(refine EvC.skip ?_;try simp only[z00])|(refine EvC.reg ?_;simp (config := { maxSteps := 2000000 }) (disch:=first|omega|rfl) only[sB,Za,reduceCtorEq,ln39,t0,t15,decl hlt2])|(refine EvC.drw [([(0,0),(1,0),(2,0),(3,0),(4,0),(5,0),(6,0),(7,0),(8,0)],some 9),([(10,1),(11,1)],none)] ?_ ?_;kernel_rfl;simp (config := { maxSteps := 2000000 }) (disch:=first|omega|rfl) only[sD,sB,Za,Zc,reduceCtorEq,ln9,ia39,ld9,cl10,t0,t15,hld,isAlloc,isRead])|(refine EvC.condT ?_ ?_;simp (config := { maxSteps := 2000000 }) (disch:=first|omega|rfl) only[sB,Za];refine z02 ?_))
      refine(zh9 (s:=L[i]) (by omega)).mono ?_;rintro v G1 ⟨z,rfl,rfl,hz1,hz2⟩;obtain⟨Gb,eb,hxb,wb⟩:=z9f wG 12;have hFb:=hFG.keep hxb wG;have hldb:=hxb.load wG hld;have hxb1:=hxG.trans hxb;have p0:0≤(wSt m W0.size (joinB W0 (L.take i)) ((joinB W0 (L.take i)).size - W0.size)).written:=by
       show 0≤((joinB W0 (L.take i)).size:Int) - W0.size;omega
      have p1:(wSt m W0.size (joinB W0 (L.take i)) ((joinB W0 (L.take i)).size - W0.size)).written≤100000:=by
       show ((joinB W0 (L.take i)).size:Int) - W0.size≤100000;omega
      have p2:∀s,(wSt m W0.size (joinB W0 (L.take i)) ((joinB W0 (L.take i)).size - W0.size)).get 2=some s→((wSt m W0.size (joinB W0 (L.take i)) ((joinB W0 (L.take i)).size - W0.size)).fileD s.file).size≤20000:=fun s hs=>by
       rw[z6j] at hs;cases hs;rw[zc2];omega
      have p3:(wSt m W0.size (joinB W0 (L.take i)) ((joinB W0 (L.take i)).size - W0.size)).out.size≤100000:=by
       show e0.size≤100000;decide
      cases hv2:validB L[i] with
      |false =>
       have d3:decide (z ≥ 0)=true:=decide_eq_true (hz2 hv2)
       repeat' (first|refine EvC.seq ?_|(refine EvC.reg ?_;simp (config := { maxSteps := 2000000 }) (disch:=first|omega|rfl) only[sB,Za,reduceCtorEq,ia39,ld9,cl11,t0,t10,t13,t15,hldb])|(refine z3y ?_;simp (config := { maxSteps := 2000000 }) (disch:=first|omega|rfl) only[sD,sB,Za,d3,eb,isAlloc,isRead]))
       refine(zh8 hFb wb i2 p0 p1 (by omega) p2 p3).mono ?_;rintro e G2 ⟨hy4,he,hF4⟩;rw[zhx hm1 hv2] at he;obtain⟨ebx,ecs,rfl,-⟩:=id he;have bn:(true != true)=false:=rfl
       repeat' (first|refine EvC.seq ?_|(refine EvC.skip ?_;try simp only[z00])|(refine EvC.ret ?_;try simp only[z05,z03])|(refine EvC.reg ?_;simp (config := { maxSteps := 2000000 }) (disch:=first|omega|rfl) only[sB,Za,z6b,bNeB,bn])|(refine EvC.condT ?_ ?_;simp (config := { maxSteps := 2000000 }) (disch:=first|omega|rfl) only[sB,Za];refine z02 ?_)|(refine EvC.condF ?_ ?_;simp (config := { maxSteps := 2000000 }) (disch:=first|omega|rfl) only[sB,Za];refine z02 ?_))
       exact z08 rfl (by simp only[sG,Za]) rfl
      |true =>
       obtain rfl:=hz1 hv2
       repeat' (first|refine EvC.seq ?_|(refine EvC.reg ?_;simp (config := { maxSteps := 2000000 }) (disch:=first|omega|rfl) only[sB,Za,reduceCtorEq,ia39,ld9,cl11,t0,t10,t13,t15,hldb])|(refine z3y ?_;simp (config := { maxSteps := 2000000 }) (disch:=first|omega|rfl) only[sD,sB,Za,d0,eb,isAlloc,isRead]))
       refine(zh8 hFb wb i2 p0 p1 (by omega) p2 p3).mono ?_;rintro e G2 ⟨hy4,he,hF4⟩;rw[zhw hm1 hv2 (by omega) (by omega)] at he hF4;obtain rfl:e=.nilIface:=he;have bn:(false != false)=false:=rfl
       repeat' (first|refine EvC.seq ?_|(refine EvC.skip ?_;try simp only[sA])|(refine EvC.reg ?_;simp (config := { maxSteps := 2000000 }) (disch:=first|omega|rfl) only[sB,Za,t15,z0v,bNeB,bn,hw1])|(refine EvC.condF ?_ ?_;simp (config := { maxSteps := 2000000 }) (disch:=first|omega|rfl) only[sB,Za];refine z02 ?_))
       have hwr:(((joinB W0 (L.take i)++L[i]).size:Nat):Int) - W0.size=((joinB W0 (L.take i)).size:Int) - W0.size+L[i].size:=by rw[z58];omega
       exact⟨_,by omega,_,_,i+1,rfl,rfl,by omega,(by simp only[sG,reduceCtorEq,t0]),(by simp only[sG,Za,t8]),(by simp only[sG,Za,t10]),(by simp only[sG,Za,t13]),(by simp only[sG,Za,t14]),(by simp only[sG,Za]),hy4.2.2 H1 (Ze _) hxb1,by rw[hst,hwr];exact hF4⟩
     ·obtain rfl:i=L.length:=by omega
      rw[List.take_length,←hD] at hFG;obtain⟨wr,hwr⟩:∃wr,wr=(D.size:Int) - W0.size:=⟨_,rfl⟩
      rw[←hwr] at hFG
      repeat' (first|refine EvC.seq ?_|(refine EvC.exit ?_;try simp only[sB])|(refine EvC.reg ?_;simp (config := { maxSteps := 2000000 }) (disch:=first|omega|rfl) only[sB,Za,reduceCtorEq,ln39,cl12,t0,t10,t13,t15,decn hlt2])|(refine EvC.condF ?_ ?_;simp (config := { maxSteps := 2000000 }) (disch:=first|omega|rfl) only[sB,Za];refine z02 ?_))
      refine(zfz hFG wG i2).mono ?_;rintro e G1 ⟨hy4,he,hF4⟩;rw[zf3] at he hF4;obtain rfl:e=.nilIface:=he;have hx4:=hy4.2.2 H1 (Ze _) hxG
      repeat' (first|refine EvC.seq ?_|(refine EvC.reg ?_;simp (config := { maxSteps := 2000000 }) (disch:=first|omega|rfl) only[sB,Za,Value.cells,layC,bd35,cl7,t10]))
      refine(zhq (name:=fS) (d:=D) hF4 hy4.1 hx4.next (zga D wr) (by decide) (fun o ho=>?_) (show (2:Nat) < 16 by decide) (fun o ho=>?_) (show (3:Int) < 9223372036854775807 by decide) (show (0:Int)≤3 by decide)).mono ?_
      ·simp only[cSt,List.mem_cons,List.not_mem_nil,or_false] at ho;rcases ho with rfl|rfl<;>rfl
      ·simp only[cSt,List.mem_cons,List.not_mem_nil,or_false] at ho;rcases ho with rfl|rfl
       ·show (0:Int) < 3;decide
       ·show (1:Int) < 3;decide
      rintro v G2 ⟨rfl,hy5,blk2,hF0⟩;have hF5:FsB G2 H1.next p fb ob blk2 (rSt D wr (0:Nat) 0):=hF0;clear hF0;have hx5:=hy5.2.2 H1 (Ze _) hx4
      repeat' (first|refine EvC.seq ?_|refine EvC.block ?_|(refine EvC.skip ?_;try simp only[z00])|(refine EvC.reg ?_;simp (config := { maxSteps := 2000000 }) (disch:=first|omega|rfl) only[sB,Za,t14,z0v,Zb])|(refine z0b ?_;simp (config := { maxSteps := 2000000 }) (disch:=first|omega|rfl) only[sB,Za])|(refine EvC.condF ?_ ?_;simp (config := { maxSteps := 2000000 }) (disch:=first|omega|rfl) only[sB,Za];refine z02 ?_))
      have i3:i64 3:=by unfold i64;omega
      have hDs:D.size≤6000:=by omega
      have hDm:D.size≤maxLen:=by unfold maxLen;omega
      have hvD:Lib.validD (D.data.toList.drop 0)=true:=hv;refine EvC.loop (fun k st=>∃tm G i q u,st=⟨tm,[],G⟩∧k=D.size - i∧i≤D.size∧q≤i∧tm.get 8=some (.string D)∧tm.get 10=some (ptrV p)∧tm.get 19=some (.int .i64 3)∧tm.get 21=some u∧tm.get 22=some (.int .i64 (q:Nat))∧G.wf∧OutB G (upTo D i) u∧Lib.validD (D.data.toList.drop i)=true ∧
       FsB G H1.next p fb ob blk2 (rSt D wr (i:Nat) 0)) ?_ D.size _ ?_
      ·clear t0 t8 t10 t13 t14 t15 hFG hF4 hF5 hx4 hx5;rintro k st ⟨tm,G,i,q,u,rfl,rfl,hi,hq,t8,t10,t19,t21,t22,wG,hO,hvi,hFG⟩;have d3:decide ((q:Int)≤(D.size:Int))=true:=decide_eq_true (by omega)
       repeat' (first|refine EvC.seq ?_|refine EvC.block ?_|(refine EvC.skip ?_;try simp only[z00])|(refine EvC.reg ?_;simp (config := { maxSteps := 2000000 }) (disch:=first|omega|rfl) only[sB,Za,ln9,cl13,t8,t10,t19,t22,d3])|(refine EvC.condT ?_ ?_;simp (config := { maxSteps := 2000000 }) (disch:=first|omega|rfl) only[sB,Za];refine z02 ?_))
       refine(z8c (peek:=true) hFG wG i3 (z6k hDm hi)).mono ?_;rintro v G3 ⟨e,rfl,hz3,he3,hF3⟩;have w3:=hz3.y.1;have hO3:=hO.hz hFG (z2h D wr i 0) hz3 wG;by_cases hlt3:i < D.size
       ·rw[z7e hlt3] at hvi;have hne:Utf8.decode D i≠(65533,1):=fun q=>by rw[if_pos q] at hvi;cases hvi
        rw[if_neg hne] at hvi;rw[zc3 hlt3 hne] at he3 hF3 ⊢;simp only[if_true] at he3 hF3 ⊢;obtain rfl:e=.nilIface:=he3
        repeat' (first|refine EvC.seq ?_|(refine EvC.reg ?_;simp (config := { maxSteps := 2000000 }) (disch:=first|omega|rfl) only[sB,Za,cl13,t10,t19])|(refine z0b ?_;simp (config := { maxSteps := 2000000 }) (disch:=first|omega|rfl) only[sB,Za]))
        refine(z8c (peek:=false) hF3 w3 i3 (z6k hDm hi)).mono ?_;rintro v G4 ⟨e,rfl,hz4,he4,hF4⟩;have w4:=hz4.y.1;have hO4:=hO3.hz hF3 (z2h D wr i 0) hz4 w3;rw[zc3 hlt3 hne] at he4 hF4 ⊢;simp only[Zb,if_false] at he4 hF4 ⊢;obtain rfl:e=.nilIface:=he4;obtain⟨s1,s2,s3,s4,s5⟩:=z6g hlt3 hne;generalize Utf8.decode D i=dd at *;obtain⟨ch,cw⟩:=dd;simp only at hvi hF4 s1 s2 s3 s4 s5 ⊢;have d4:decide ((ch:Int) < 0)=false:=decide_eq_false (by omega)
        repeat' (first|refine EvC.seq ?_|(refine EvC.skip ?_;try simp only[z00])|(refine EvC.reg ?_;simp (config := { maxSteps := 2000000 }) (disch:=first|omega|rfl) only[sB,Za,cl14,z0v,z4c rfl,d4,Zb])|(refine z0b ?_;simp (config := { maxSteps := 2000000 }) (disch:=first|omega|rfl) only[sB,Za])|(refine EvC.condF ?_ ?_;simp (config := { maxSteps := 2000000 }) (disch:=first|omega|rfl) only[sB,Za];refine z02 ?_))
        refine(zik s5 w4).mono ?_;rintro v G5 ⟨b5,rfl,hx5,-,g5⟩;obtain⟨u',G6,hap,hO6,hF6,w6⟩:=(hO4.hx hx5 w4).push (hF4.keep hx5 w4) hx5.wf g5 (zg3 ch).1 (by rw[z88];unfold most;omega);rw[←s1] at hO6;have hw1:IntKind.i64.wrap ((q:Int)+1)=((q+1:Nat):Int):=by rw[z0d]<;>omega
        repeat' (first|(refine EvC.reg ?_;simp (config := { maxSteps := 2000000 }) (disch:=first|omega|rfl) only[sB,Za,t22,hw1])|(refine z0b ?_;simp (config := { maxSteps := 2000000 }) (disch:=first|omega|rfl) only[sB,Za,t21,hap]))
        exact⟨_,by omega,_,_,i+cw,q+1,u',rfl,rfl,s2,by omega,(by simp only[sG,Za,t8]),(by simp only[sG,Za,t10]),(by simp only[sG,Za,t19]),(by simp only[sG,Za]),(by simp only[sG,Za]),w6,hO6,hvi,hF6⟩
       ·obtain rfl:i=D.size:=by omega
        rw[zf4] at he3 hF3 ⊢;simp only[if_true] at he3 hF3 ⊢;obtain rfl:e=.nilIface:=he3
        repeat' (first|refine EvC.seq ?_|(refine EvC.reg ?_;simp (config := { maxSteps := 2000000 }) (disch:=first|omega|rfl) only[sB,Za,cl13,t10,t19])|(refine z0b ?_;simp (config := { maxSteps := 2000000 }) (disch:=first|omega|rfl) only[sB,Za]))
        refine(z8c (peek:=false) hF3 w3 i3 (z6k hDm hi)).mono ?_;rintro v G4 ⟨e,rfl,hz4,he4,hF4⟩;have w4:=hz4.y.1;have hO4:=hO3.hz hF3 (z2h D wr D.size 0) hz4 w3;rw[zf4] at he4 hF4 ⊢;simp only[Zb,if_false] at he4 hF4 ⊢;obtain rfl:e=.nilIface:=he4;have d4:decide ((-1:Int) < 0)=true:=rfl;have zz:((-1:Int) != -1)=false:=rfl
        repeat' (first|refine EvC.seq ?_|(refine EvC.skip ?_;try simp only[z00])|(refine EvC.exit ?_;try simp only[sB,Za])|(refine EvC.reg ?_;simp (config := { maxSteps := 2000000 }) (disch:=first|omega|rfl) only[sB,Za,cl15,z0v,zz,d4,t10,Zb])|(refine z0b ?_;simp (config := { maxSteps := 2000000 }) (disch:=first|omega|rfl) only[sB,Za])|(refine EvC.condT ?_ ?_;simp (config := { maxSteps := 2000000 }) (disch:=first|omega|rfl) only[sB,Za];refine z02 ?_)|(refine EvC.condF ?_ ?_;simp (config := { maxSteps := 2000000 }) (disch:=first|omega|rfl) only[sB,Za];refine z02 ?_))
        refine(zg8 hF4 w4 (fun x hx=>?_) (show (1:Nat)≤16 by decide)).mono ?_
        ·have e1:(rSt D wr (D.size:Nat) 2).files=[(fS,D)]:=rfl;rw[e1,List.mem_singleton] at hx;rw[hx];show fS.size≤maxLen;decide
        rintro v G5 ⟨hx5,hOF⟩;rw[zcx] at hOF;obtain⟨b5,rfl,g5⟩:∃b5,v=.slice (some ⟨b5,0,none⟩) 1 1∧G5.get b5=some (.row [.string ⟨#[102]⟩,.string D] 28):=by
         rcases hOF with ⟨h,-⟩|⟨b5,h,g5,-⟩
         ·cases h
         ·exact⟨b5,h,g5⟩
        have w5:=hx5.wf;have hF5:=hF4.keep hx5 w4
        repeat' (first|refine EvC.seq ?_|(refine EvC.reg ?_;simp (config := { maxSteps := 2000000 }) (disch:=first|omega|rfl) only[sB,Za,cl16,t10,t19]))
        refine(zey hF5 w5 i3 (fun s hs=>⟨((z6k (wr:=wr) (en:=2) hDm hi) s hs).1,((z6k (wr:=wr) (en:=2) hDm hi) s hs).2.1⟩)).mono ?_;rintro v G6 ⟨hx6,hT⟩;rcases hT with ⟨h,-⟩|⟨s,hs,rfl⟩
        ·rw[z2h] at h;cases h
        rw[z2h] at hs;cases hs;have w6:=hx6.wf;obtain⟨ln,hTl⟩:∃ln,(rSt D wr (D.size:Nat) 2).tell (rStr (D.size:Nat) 2)=[.int .i64 3,.string fS,.int .i64 1,.bool false,.string ⟨#[]⟩,.int .i64 0,.bool false,.int .i64 D.size,.int .i64 ln,.int .i64 2]:=⟨_,rfl⟩
        rw[hTl];obtain⟨G7,e7,hx7,g7,n7,w7⟩:=zef w6 (.row zero10 47) (.row [.int .i64 3,.string fS,.int .i64 1,.bool false,.string ⟨#[]⟩,.int .i64 0,.bool false,.int .i64 D.size,.int .i64 ln,.int .i64 2] 47);have q7:=z9n g7;have htx:=(((hO4.hx hx5 w4).hx hx6 w5).hx hx7 w6).text;have hbq:(D.data.toList == D.data.toList)=true:=beq_self_eq_true _;have g57:=hx7.get w6 (hx6.get w5 g5);have lf:G7.load ⟨b5,0,none⟩ 2=some [.string ⟨#[102]⟩,.string D]:=by simp only[Heap.load,Heap.cells,g57];rfl
        have ix:=fun G k=>iz29 (b:=b5) (o:=0) (n:=1) (c:=1) (k:=k) (i:=0) (H:=G) (by omega) (by decide)
        have z1n:(((1:Nat):Int) == 1)=true:=rfl;have z2n:((2:Int) == 2)=true:=rfl
        repeat' (first|refine EvC.seq ?_|(refine EvC.ret ?_)|(refine EvC.reg ?_;simp (config := { maxSteps := 2000000 }) (disch:=first|omega|rfl) only[sB,Za,Zc,Value.cells,one,Zj,layC,Int.reduceToNat,ln9,bd28,ln29,ld28,z2q,ld3,z2r,t8,t21,htx,z98,hbq,z1n,z2n,ix,Nat.zero_mul,lf,bEqF,q7,z3x rfl])|(refine z0b ?_;simp (config := { maxSteps := 2000000 }) (disch:=first|omega|rfl) only[sB,dAlloc,Za,Zc,one,zr47,st47,e7]))
        exact z08 rfl (by simp only[sG,Za]) rfl
      ·exact⟨_,_,0,0,_,rfl,rfl,Nat.zero_le _,Ze _,(by simp only[sG,Za,t8]),(by simp only[sG,Za,t10]),(by simp only[sB,Za];rfl),(by simp only[sG,Za]),(by simp only[sB,Za];rfl),hy5.1,.inl ⟨rfl,rfl⟩,hvD,hF5⟩
    ·refine⟨_,_,0,rfl,rfl,Nat.zero_le _,(by simp only[sG,reduceCtorEq,t0]),(by simp only[sG,Za,t8]),(by simp only[sG,Za,t10]),(by simp only[sB,Za];rfl),(by simp only[sG,Za]),(by simp only[sB,Za];rfl),hx3,?_⟩;rw[List.take_zero];show FsB H3 H1.next p fb ob blk' (wSt m W0.size W0 ((W0.size:Int) - W0.size));rw[Int.sub_self];exact hF3
 ·exact⟨_,0,rfl,rfl,Nat.zero_le _,(by simp only[sG,reduceCtorEq,t0]),(by simp only[sG,Za,t1]),(by simp only[sG,Za,t2]),(by simp only[sG,Za,t7]),by rw[List.take_zero];show _=some (Value.string W0);exact(by simp only[sG,Za,t8]),(by simp only[sB];rfl)⟩
end Go.Proofs.hq
end

section
namespace Go.Hb
open Go Go.RowKit
section
variable {P:Program}
def okVal (mask:Nat) (fv:FuncId):Ok:=⟨mask,fun f args H=>if f=fv then (match args with|[.string s]=>if s.size≤9223372036854775807 then some (.ret (.bool (Lib.validD s.data.toList)),H) else none|_=>none) else none⟩
theorem zf5 {N mask:Nat}{w0:World}{fv:FuncId}(hok:((Zf P.funcs.size).all fun f=>!mask.testBit f || okFn P f)=true)
  (hv:∀(s:ByteArray) w,s.size≤9223372036854775807→Below N w0 w→Calls P fv #[.string s] w fun e w'=>e=.returned (.bool (Lib.validD s.data.toList))∧Below w.heap.size w w'):OkFns P N w0 (okVal mask fv):=by
 refine⟨z4a hok,fun τ f args args' H en H' w σ _ hk hl hH _=>?_⟩;simp only[okVal] at hk;split at hk
 ·rename_i hf;subst hf;split at hk
  ·rename_i s;split at hk
   ·rename_i hs;cases hk;have hlen:args'.size=1:=by have:=hl.1;simpa using this.symm
    obtain⟨v,rfl⟩:∃v,args'=#[v]:=by
     match args',hlen with
     |⟨[v]⟩,_=>exact⟨v,rfl⟩
    have hvr:=hl.2 0 (.string s) v rfl rfl;rw[VR.flat_eq hvr rfl];exact z9e rfl (hv s w hs hH.below) hH
   ·cases hk
  ·cases hk
 ·cases hk
theorem zao {ok:Ok}{n nx:Nat}{f:FuncId}{args:List Value}{args':Array Value}{τ:Nat→Value}(hτ:∀j,(τ j).oneCell'=true) (hm:P.follows .mixedOrders=true) (W:World)
  (hOK:OkFns P W.heap.size W ok) (hnx:P.globals.size≤nx) (hrun:retTrue (dcall P ok n f args ⟨nx,.nil⟩)=true) (hl:LR (sig0 nx) τ args args'.toList) :
  Calls P f args' W fun e W'=>e=.returned (.bool true)∧Below W.heap.size W W':=by
 obtain⟨H',h⟩:=za5 hrun;refine(z4n hτ hm hOK h hl (HR.start nx W) (GR.start hnx)).mono fun e w' he=>?_
 obtain⟨σ',hen,hH,_⟩:=he;cases e with
 |returned v'=>exact⟨by rw[show v'=.bool true from VR.flat_eq hen rfl],hH.below⟩
 |panicked _=>exact hen.elim
 |outgrown=>exact hen.elim
end
end Go.Hb
end

section
namespace Go.Hb
open Go Go.RowKit
section
variable {H:Type}{enc:TypeId × Value→H}{P:Program}{W:World}{sp:Nat→Bool}{fuel:Nat}{t e:TypeId}{cs:List Value}{d:DataW H}{ps:List MemPlace}
theorem trod_slice (ht:P.underlying t=some (.slice e)) (h:DataW.trod enc P W 0 sp true fuel t cs=some (d,ps)) :
  cs=[.slice none 0 0]∨∃a len cap m,fuel=m+1∧cs=[.slice (some a) len cap]∧len≤cap∧cap≤maxLen ∧
   ∀i,i < len→∃es d' ps',W.cells? 0 (a.add (i*P.cellsOf e)) (P.cellsOf e)=some es∧DataW.trod enc P W 0 sp true m e es=some (d',ps'):=by
 cases fuel with
 |zero=>simp [DataW.trod] at h
 |succ m =>
  unfold DataW.trod at h;rw[ht] at h;split at h<;>simp_all
  obtain⟨⟨hl,hc⟩,h⟩:=h;simp only[Option.bind_eq_some_iff,Option.map_eq_some_iff] at h;obtain⟨elems,he,_⟩:=h;refine⟨_,_,_,⟨rfl,rfl,rfl⟩,hl,hc,fun i hi=>?_⟩;have hlen:=mapM_some_length he;have:=mapM_some_get he i i (by simp [hi]);rw[Zh (by rw[hlen];simpa using hi)] at this;simp only[Option.bind_eq_some_iff] at this;obtain⟨es,h1,h2⟩:=this;exact⟨es,h1,_,_,h2⟩
theorem zhz (a:Addr) (i:Nat):(a.add i).block=a.block:=by unfold Addr.add;split<;>rfl
theorem z9o {a:Addr}{s i:Nat}{es:List Value}(hs:0 < s) (h:W.cells? 0 (a.add (i*s)) s=some es) (hsp:a.spot=none):(heapW P W).load ⟨a.block,a.off+i*s,none⟩ s=some (es.map (ab P W))∧es.length=s∧a.block < W.heap.size:=by
 obtain⟨_,hl,hc⟩:=World.cells?_some h;obtain⟨b,o,sp⟩:=a;obtain rfl:sp=none:=hsp;have hb:=World.cells?_block h hs;rw[zhz] at hb;refine⟨zcl hs hl fun j v hj=>?_,hl,hb⟩;have hjl:j < es.length:=(List.getElem?_eq_some_iff.1 hj).1;have:=hc j (by omega);rw[add0,add0] at this;rw[this];exact hj
theorem zcz {a:Addr}{s:Nat}{es:List Value}(hs:0 < s) (h:W.cells? 0 (a.add (0*s)) s=some es):a.spot=none:=by
 obtain⟨_,hl,hc⟩:=World.cells?_some h;have e0:∀a:Addr,a.add 0=a:=fun a=>by unfold Addr.add;simp
 have:=hc 0 hs;rw[Nat.zero_mul,e0,e0,Zh (by omega)] at this;unfold World.cell? at this;split at this
 ·split at this
  ·cases this
  ·rename_i hn;simpa using hn
 ·cases this
end
section
variable {H:Type}{enc:TypeId × Value→H}{P:Program}{W:World}{sp:Nat→Bool}
structure TermTypes (P:Program) (tT tS tI tG tU:TypeId):Prop where
 fields:∃fs:Array Field,P.underlying tT=some (.struct fs)∧(fs.toList.map fun f=>(f.offset,f.type))=[(0,tI),(1,tG),(2,tG),(3,tU),(4,tI),(5,tS)]
 slice:P.underlying tS=some (.slice tT)
 int:P.underlying tI=some (.int .i64)
 str:P.underlying tG=some .string
 u64:P.underlying tU=some (.int .u64)
 cT:P.cellsOf tT=6
 cS:P.cellsOf tS=1
 cI:P.cellsOf tI=1
 cG:P.cellsOf tG=1
 cU:P.cellsOf tU=1
end
end Go.Hb
end

section
namespace Go.Hb
open Go Go.RowKit
theorem zhe:∀{l:List Nat}{a:Nat},a∈l→a≤l.sum
 |b :: l,a,h=>by
  rw[List.sum_cons];rcases List.mem_cons.1 h with rfl|h
  ·omega
  ·have:=zhe h;omega
section
variable {H:Type}{enc:TypeId × Value→H}{P:Program}{W:World}{sp:Nat→Bool}
theorem z48 {fuel:Nat}{t:TypeId}{cs:List Value}{d:DataW H}{ps:List MemPlace}(ht:P.underlying t=some .string) (h:DataW.trod enc P W 0 sp true fuel t cs=some (d,ps)):∃s:ByteArray,cs=[.string s]∧s.size≤maxLen∧d=.lit (.string s.data.toList):=by
 cases fuel with
 |zero=>simp [DataW.trod] at h
 |succ m =>
  unfold DataW.trod at h;rw[ht] at h;split at h<;>simp_all
theorem zf6 {tS tG:TypeId}(hS:P.underlying tS=some (.slice tG)) (hG:P.underlying tG=some .string) (hc1:P.cellsOf tG=1) {w:DataW H→Nat}(hws:∀es rest,(es.map w).sum≤w (.slice es rest)) (hwl:∀b,b.length≤w (.lit (.string b)))
  {v:Value}{fuel:Nat}{d:DataW H}{ps:List MemPlace}(h:DataW.trod enc P W 0 sp true fuel tS v.cells.toList=some (d,ps)) (hv:∀cs,v≠.agg cs) :
  ∃L a c,abV P W v=.slice a L.length c∧RdT (heapW P W) L a c∧∀p∈L,p.size≤w d:=by
 have hcv:v.cells.toList=[v]:=by
  unfold Value.cells;split
  ·rename_i cs;exact absurd rfl (hv cs)
  ·rfl
 rw[hcv] at h;have hab:abV P W v=ab P W v:=by
  unfold abV;split
  ·rename_i cs;exact absurd rfl (hv _)
  ·rfl
 rw[hab];rcases DataW.trod_slice hS h with ⟨h1,-⟩|⟨a,len,cap,elems,rest,n,rfl,he,hx,-,hl,hm,rfl,hel,-⟩
 ·cases h1;exact⟨[],none,0,rfl,⟨Ze _,Nat.zero_le _,fun i hi=>by simp at hi⟩,fun p hp=>by simp at hp⟩
 ·cases he;cases hx;rw[hc1] at hel;have hl':elems.length≤cap:=hl;have hget:∀i x,elems[i]?=some x→∃es,W.cells? 0 (a.add (i*1)) 1=some es∧DataW.trod enc P W 0 sp true n tG es=some x:=fun i x hx=>by
   have hi:=(List.getElem?_eq_some_iff.1 hx).1;have:=hel i hi;rw[hx,Option.bind_eq_some_iff] at this;exact this
  have key:∀i,∃s:ByteArray,i < elems.length→a.spot=none→(heapW P W).load ⟨a.block,a.off+i,none⟩ 1=some [.string s]∧s.size≤w (.slice (elems.map (·.1)) (rest.map (·.1))):=fun i=>by
   by_cases hi:i < elems.length
   ·obtain⟨es,h1,h2⟩:=hget i elems[i] (Zh hi);obtain⟨s,rfl,-,h3⟩:=z48 (d:=elems[i].1) (ps:=elems[i].2) hG h2;refine⟨s,fun _ hsp=>⟨?_,?_⟩⟩
    ·have:=(z9o (P:=P) (by omega) h1 hsp).1;rw[Nat.mul_one] at this;exact this
    ·have h4:=hws (elems.map (·.1)) (rest.map (·.1));have h5:w elems[i].1≤((elems.map (·.1)).map w).sum:=zhe (List.mem_map.2 ⟨elems[i].1,List.mem_map.2 ⟨elems[i],List.getElem_mem hi,rfl⟩,rfl⟩);rw[h3] at h5;have h6:=hwl s.data.toList;have h7:s.data.toList.length=s.size:=by simp
     omega
   ·exact⟨Zg,fun h=>absurd h hi⟩
  obtain⟨f,hf⟩:=Classical.axiomOfChoice key;have hlen:((Zf elems.length).map f).length=elems.length:=by simp
  by_cases hn:0 < elems.length
  ·obtain⟨es0,h1,-⟩:=hget 0 elems[0] (Zh hn);have hsp:a.spot=none:=zcz (by omega) h1;have hbl:a.block < W.heap.size:=(z9o (P:=P) (by omega) h1 hsp).2.2;have hab2:ab P W (.slice (some a) elems.length cap)=.slice (some a) ((Zf elems.length).map f).length cap:=by
    unfold ab;rw[hlen];simp only;rw[if_pos ⟨hl',hm⟩,if_pos ⟨hsp,hbl⟩]
   refine⟨(Zf elems.length).map f,some a,cap,hab2,⟨by rw[hlen];exact hl',hm,fun i hi=>⟨a.block,a.off,?_,?_⟩⟩,fun p hp=>?_⟩
   ·obtain⟨b,o,sp⟩:=a;obtain rfl:sp=none:=hsp;rfl
   ·rw[hlen] at hi;rw[(hf i hi hsp).1];simp
   ·obtain⟨i,hi,rfl⟩:=List.mem_map.1 hp;exact(hf i (List.mem_range.1 hi) hsp).2
  ·have hn0:elems.length=0:=by omega
   obtain⟨a',hab2⟩:∃a',ab P W (.slice (some a) elems.length cap)=.slice (some a') 0 cap:=by
    rw[hn0] at hl' ⊢;unfold ab;simp only;rw[if_pos ⟨hl',hm⟩];split
    ·exact⟨_,rfl⟩
    ·exact⟨_,rfl⟩
   exact⟨[],some a',cap,hab2,⟨Nat.zero_le _,hm,fun i hi=>by simp at hi⟩,fun p hp=>by simp at hp⟩
end
end Go.Hb
end
