import Derived.Test.YtopekindmbjeoaaGreatDoorM3
import Derived.Test.YtopekindmbjeoaaGreatDoorM2
import Derived.Lib.ValidLaws
/- Lemmas on the program's own code, towards the laws of this folder, part 4. Conditions: as each lemma says. -/
open Bool renaming and_eq_true → Zm, false_eq_true → Zd, not_false → Zt, not_true → Zp
open ByteArray renaming empty → Ze
open List renaming cons_append → ZK, drop_eq_getElem_cons → ZB, drop_of_length_le → ZM, getElem?_eq_getElem → Zc, getElem?_eq_none → Zy, getElem?_map → ZG, getElem?_take → ZF, getElem_mem → Zx, length_append → Zw, length_cons → ZE, length_map → Zq, length_take → Zl, map_append → ZD, map_cons → ZC, mem_cons_of_mem → Zn, range → Zj, take_append_getElem → ZA, take_of_length_le → Zi
open Nat renaming beq → Zz, beq_eq → Zr, le_refl → Zg, le_trans → Zo, lt_of_lt_of_le → Zh, lt_succ_self → Zf, reduceAdd → Zb, reduceEqDiff → Za, reduceLeDiff → Zk, zero_le → Zs
section
namespace Go.Proofs.hq
open Go Go.RowKit Go.Hb
def nodeE (utf num:ByteArray→Bool) (flt:Int→Bool) (t:Tm):Int :=
  if t.kind < 1∨5 < t.kind then 20 else if blankB t=false then 20 else if t.var < 0 then 20 else if t.kind=5∧(t.args.length=0∨64 < t.args.length) then 20
  else if utf t.name=false then 21 else if 1000 < t.name.size then 21 else if t.kind=3∧num t.num=false then 22 else if t.kind=4∧flt t.bits=false then 23 else 0
def bndB (t:Tm):Bool:=decide (t.var < 0) || (t.kind == 5 && ((t.args.length:Int) == 0 || decide ((t.args.length:Int) > 64)))
theorem z9g {utf num:ByteArray→Bool}{flt:Int→Bool}{t:Tm}(h1:¬(t.kind < 1∨5 < t.kind)) (h2:blankB t=true) (h3:bndB t=true):nodeE utf num flt t=20:=by
  rw[nodeE,if_neg h1,if_neg (by rw[h2];simp)];unfold bndB at h3;simp only[Bool.or_eq_true,Zm,beq_iff_eq,decide_eq_true_eq] at h3;by_cases hv:t.var < 0
  · rw[if_pos hv]
  · rw[if_neg hv,if_pos];rcases h3 with h|⟨h,h'|h'⟩
    · exact absurd h hv
    · exact⟨h,.inl (by omega)⟩
    · exact⟨h,.inr (by omega)⟩
theorem zay {utf num:ByteArray→Bool}{flt:Int→Bool}{t:Tm}(h1:¬(t.kind < 1∨5 < t.kind)) (h2:blankB t=true) (h3:bndB t=false) :
    nodeE utf num flt t=if utf t.name=false then 21 else if 1000 < t.name.size then 21 else if t.kind=3∧num t.num=false then 22 else if t.kind=4∧flt t.bits=false then 23 else 0:=by
  rw[nodeE,if_neg h1,if_neg (by rw[h2];simp)];unfold bndB at h3;simp only[Bool.or_eq_false_iff,Bool.and_eq_false_iff,beq_eq_false_iff_ne,decide_eq_false_iff_not] at h3;rw[if_neg h3.1,if_neg (fun h=>by rcases h3.2 with h'|h'<;>first|exact h' h.1|(have:=h.2;omega))]
theorem zr6:callable Tryz.prog 93=true:=by kernel_rfl
theorem zr7:callable Tryz.prog 94=true:=by kernel_rfl
theorem zr8:callable Tryz.prog 95=true:=by kernel_rfl
theorem zr9:callable Tryz.prog 88=true:=by kernel_rfl
theorem zra:callable Tryz.prog 89=true:=by kernel_rfl
theorem zrb:callable Tryz.prog 90=true:=by kernel_rfl
def TellsS (ok:Ok) (f:FuncId) (g:ByteArray→Bool):Prop:=∀(s:ByteArray) (H:Heap),s.size≤maxLen→H.wf→EvF Tryz.prog ok f [.string s] H fun v H'=>v=.bool (g s)∧HX H H'
def TellsU (ok:Ok) (f:FuncId) (g:Int→Bool):Prop:=∀(n:Int) (H:Heap),u64 n→H.wf→EvF Tryz.prog ok f [.int .u64 n] H fun v H'=>v=.bool (g n)∧HX H H'
variable {ok:Ok}
set_option maxRecDepth 10000 in
set_option maxHeartbeats 4000000 in
theorem zsx {utf num:ByteArray→Bool}{flt:Int→Bool}(hk:∀args H,ok.K 76 args H=none) (hm:ok.testBit 76=true) (hU:TellsS ok 88 utf) (hN:TellsS ok 89 num) (hF:TellsU ok 90 flt)
    {t:Tm}{cs:List Value}{H:Heap}(r:RepT H t cs) (hw:H.wf):EvF Tryz.prog ok 76 [.agg ⟨cs⟩] H fun v H'=>v=.int .i64 (nodeE utf num flt t)∧HX H H':=by
  obtain⟨a,c,cells,rfl,b1,b2,b3,b4,b5,rl⟩:=r.inv;have hx:=(HX.refl hw).new (some (Blk.row [Value.int IntKind.i64 t.kind,Value.string t.name,Value.string t.num,Value.int IntKind.u64 t.bits,Value.int IntKind.i64 t.var,Value.slice a t.args.length c] 25));refine EvF.enter (hk _ _) Tryz.func76 hm rfl ?_;(repeat refine EvC.seq ?_);refine EvC.reg ?_;simp only[sB,initTm,dBox,Value.cells,one];(repeat refine EvC.seq ?_);refine EvC.reg ?_;simp only[sB,Za,reduceCtorEq,cutC,z05 z28 one3,z0c agg3];(repeat refine EvC.seq ?_);refine EvC.reg ?_;simp only[sB,Za,reduceCtorEq,cutC,z05 z28 one3,z0c agg3];(repeat refine EvC.seq ?_);refine EvC.reg ?_;simp only[sB,Za,reduceCtorEq,cutC,z05 z28 one3,z0c agg3];(repeat refine EvC.seq ?_);refine EvC.reg ?_;simp only[sB,Za,reduceCtorEq,cutC,z05 z28 one3,z0c agg3];(repeat refine EvC.seq ?_);refine EvC.reg ?_;simp only[sB,Za,reduceCtorEq,cutC,z05 z28 one3,z0c agg3]
  refine EvC.frame (fun tm=>tm.get 1=some (.pointer (some ⟨H.next,0,none⟩))∧tm.get 3=some (.bool (t.kind == 2))∧tm.get 4=some (.bool (t.kind == 5))∧tm.get 5=some (.bool (t.kind == 3))∧tm.get 6=some (.bool (t.kind == 4))∧tm.get 7=some (.bool (t.kind == 1))) ⟨by simp only[sG,Za,reduceCtorEq],by simp only[sG,Za,reduceCtorEq],by simp only[sG,Za,reduceCtorEq],by simp only[sG,Za,reduceCtorEq],by simp only[sG,Za,reduceCtorEq],by simp only[sG,Za,reduceCtorEq]⟩ ?_;rintro tm ⟨g1,g3,g4,g5,g6,g7⟩;refine EvC.seq ?_;refine EvC.join (fun st=>(1≤t.kind∧t.kind≤5)∧∃tm,st=⟨tm,[],H.new (some (Blk.row [Value.int IntKind.i64 t.kind,Value.string t.name,Value.string t.num,Value.int IntKind.u64 t.bits,Value.int IntKind.i64 t.var,Value.slice a t.args.length c] 25))⟩∧tm.get 1=some (.pointer (some ⟨H.next,0,none⟩))∧tm.get 3=some (.bool (t.kind == 2))∧tm.get 4=some (.bool (t.kind == 5))∧tm.get 5=some (.bool (t.kind == 3))∧tm.get 6=some (.bool (t.kind == 4))∧tm.get 7=some (.bool (t.kind == 1))) ?_ ?_
  ·
    have hk6:t.kind=1∨t.kind=2∨t.kind=3∨t.kind=4∨t.kind=5∨(t.kind < 1∨5 < t.kind):=by omega
    rcases hk6 with h|h|h|h|h|h
    iterate 5
      · (repeat refine EvC.seq ?_);refine EvC.reg ?_;simp only[sB,Za,g3,g4,g5,g6,g7,h,Int.reduceBEq,Zp,Zt,Zd];refine EvC.condF (by simp only[sB,Za]) (EvC.skip ?_);try simp only[z00]
        exact⟨by omega,_,rfl,by simp only[sG,Za,g1],by simp only[sG,Za,g3,h,Int.reduceBEq],by simp only[sG,Za,g4,h,Int.reduceBEq],by simp only[sG,Za,g5,h,Int.reduceBEq],by simp only[sG,Za,g6,h,Int.reduceBEq],by simp only[sG,Za,g7,h,Int.reduceBEq]⟩
    · have q1:(t.kind == 1)=false:=by simp;omega
      have q2:(t.kind == 2)=false:=by simp;omega
      have q3:(t.kind == 3)=false:=by simp;omega
      have q4:(t.kind == 4)=false:=by simp;omega
      have q5:(t.kind == 5)=false:=by simp;omega
      (repeat refine EvC.seq ?_);refine EvC.reg ?_;simp only[sB,Za,g3,g4,g5,g6,g7,q1,q2,q3,q4,q5,Zt];refine EvC.condT (by simp only[sB,Za]) ?_;(repeat refine EvC.seq ?_);refine EvC.reg ?_;simp only[sA];refine EvC.ret ?_;try simp only[z04]
      exact z03 rfl (by simp only[sG,Za];rfl) ⟨by rw[nodeE,if_pos h],hx⟩
  rintro st ⟨⟨hk1,hk5⟩,tm1,rfl,f1,f3,f4,f5,f6,f7⟩;clear g1 g3 g4 g5 g6 g7 tm;have hno:¬(t.kind < 1∨5 < t.kind):=by omega
  try simp only[z00]
  refine EvC.seq ?_;refine EvC.join (fun st=>blankB t=true∧∃tm,st=⟨tm,[],H.new (some (Blk.row [Value.int IntKind.i64 t.kind,Value.string t.name,Value.string t.num,Value.int IntKind.u64 t.bits,Value.int IntKind.i64 t.var,Value.slice a t.args.length c] 25))⟩∧tm.get 1=some (.pointer (some ⟨H.next,0,none⟩))∧tm.get 3=some (.bool (t.kind == 2))∧tm.get 4=some (.bool (t.kind == 5))∧tm.get 5=some (.bool (t.kind == 3))∧tm.get 6=some (.bool (t.kind == 4))∧tm.get 7=some (.bool (t.kind == 1))) ?_ ?_
  ·
    refine EvC.seq (EvC.reg ?_);refine EL.join 11 (fun tm=>tm.get 54=some (.bool (!(t.name.toList == []) && (!(t.kind == 2) && !(t.kind == 5))))∧tm.get 1=some (.pointer (some ⟨H.next,0,none⟩))∧tm.get 3=some (.bool (t.kind == 2))∧tm.get 4=some (.bool (t.kind == 5))∧tm.get 5=some (.bool (t.kind == 3))∧tm.get 6=some (.bool (t.kind == 4))∧tm.get 7=some (.bool (t.kind == 1))) ?_ ?_
    · cases h1:(t.name.toList == [])<;>cases h2:(t.kind == 2)<;>cases h3:(t.kind == 5)
      all_goals
        try simp only[sB,Za,cutC,z0y,f1,f3,f4,f5,f6,f7,h1,h2,h3,z05 z2h one9,z0c agg9,z19,Zp,Zt,Zd,Bool.and_true,Bool.and_false]
    clear f1 f3 f4 f5 f6 f7;rintro tm2 ⟨g,f1,f3,f4,f5,f6,f7⟩;obtain⟨x0,hy0⟩:∃x,x=(!(t.name.toList == []) && (!(t.kind == 2) && !(t.kind == 5))):=⟨_,rfl⟩
    rw[←hy0] at g;refine EL.join 9 (fun tm=>tm.get 63=some (.bool (x0 || (!(t.num.toList == []) && !(t.kind == 3))))∧tm.get 1=some (.pointer (some ⟨H.next,0,none⟩))∧tm.get 3=some (.bool (t.kind == 2))∧tm.get 4=some (.bool (t.kind == 5))∧tm.get 5=some (.bool (t.kind == 3))∧tm.get 6=some (.bool (t.kind == 4))∧tm.get 7=some (.bool (t.kind == 1))) ?_ ?_
    · clear hy0;cases h1:(t.num.toList == [])<;>cases h2:(t.kind == 3)<;>cases x0
      all_goals
        try simp only[sB,Za,cutC,z0y,g,f1,f3,f4,f5,f6,f7,h1,h2,z05 z4v one9,z0c agg9,z19,Zp,Zt,Zd,Bool.and_true,Bool.and_false,Bool.or_false,Bool.or_true]
    clear f1 f3 f4 f5 f6 f7 g;rintro tm3 ⟨g,f1,f3,f4,f5,f6,f7⟩;obtain⟨x1,hx1⟩:∃x,x=(x0 || (!(t.num.toList == []) && !(t.kind == 3))):=⟨_,rfl⟩
    rw[←hx1] at g;refine EL.join 9 (fun tm=>tm.get 72=some (.bool (x1 || (!(t.bits == 0) && !(t.kind == 4))))∧tm.get 1=some (.pointer (some ⟨H.next,0,none⟩))∧tm.get 3=some (.bool (t.kind == 2))∧tm.get 4=some (.bool (t.kind == 5))∧tm.get 5=some (.bool (t.kind == 3))∧tm.get 6=some (.bool (t.kind == 4))∧tm.get 7=some (.bool (t.kind == 1))) ?_ ?_
    · clear hx1;cases h1:(t.bits == 0)<;>cases h2:(t.kind == 4)<;>cases x1
      all_goals
        try simp only[sB,Za,cutC,g,f1,f3,f4,f5,f6,f7,h1,h2,z05 z4f zcd,z0c ze5,Zp,Zt,Zd,bne,Bool.and_true,Bool.and_false,Bool.or_false,Bool.or_true]
    clear f1 f3 f4 f5 f6 f7 g;rintro tm4 ⟨g,f1,f3,f4,f5,f6,f7⟩;obtain⟨x2,hx2⟩:∃x,x=(x1 || (!(t.bits == 0) && !(t.kind == 4))):=⟨_,rfl⟩
    rw[←hx2] at g;refine EL.join 9 (fun tm=>tm.get 81=some (.bool (x2 || (!(t.var == 0) && !(t.kind == 1))))∧tm.get 1=some (.pointer (some ⟨H.next,0,none⟩))∧tm.get 3=some (.bool (t.kind == 2))∧tm.get 4=some (.bool (t.kind == 5))∧tm.get 5=some (.bool (t.kind == 3))∧tm.get 6=some (.bool (t.kind == 4))∧tm.get 7=some (.bool (t.kind == 1))) ?_ ?_
    · clear hx2;cases h1:(t.var == 0)<;>cases h2:(t.kind == 1)<;>cases x2
      all_goals
        try simp only[sB,Za,cutC,g,f1,f3,f4,f5,f6,f7,h1,h2,z05 z65 one3,z0c agg3,Zp,Zt,Zd,bne,Bool.and_true,Bool.and_false,Bool.or_false,Bool.or_true]
    clear f1 f3 f4 f5 f6 f7 g;rintro tm5 ⟨g,f1,f3,f4,f5,f6,f7⟩;obtain⟨x3,hx3⟩:∃x,x=(x2 || (!(t.var == 0) && !(t.kind == 1))):=⟨_,rfl⟩
    rw[←hx3] at g;refine EL.join 10 (fun tm=>tm.get 91=some (.bool (x3 || (decide ((t.args.length:Int) > 0) && !(t.kind == 5))))∧tm.get 1=some (.pointer (some ⟨H.next,0,none⟩))∧tm.get 3=some (.bool (t.kind == 2))∧tm.get 4=some (.bool (t.kind == 5))∧tm.get 5=some (.bool (t.kind == 3))∧tm.get 6=some (.bool (t.kind == 4))∧tm.get 7=some (.bool (t.kind == 1))) ?_ ?_
    · clear hx3;cases h1:decide ((t.args.length:Int) > 0)<;>cases h2:(t.kind == 5)<;>cases x3
      all_goals
        try simp only[sB,Za,cutC,g,f1,f3,f4,f5,f6,f7,h1,h2,z05 z2g z6v,z0c z7n,z0x Tryz.underlying23,Zp,Zt,Zd,Bool.and_true,Bool.and_false,Bool.or_false,Bool.or_true]
    clear f1 f3 f4 f5 f6 f7 g;rintro tm6 ⟨g,f1,f3,f4,f5,f6,f7⟩;obtain⟨x4,hx4⟩:∃x,x=(x3 || (decide ((t.args.length:Int) > 0) && !(t.kind == 5))):=⟨_,rfl⟩
    rw[←hx4] at g;try simp only[sA]
    have hb:blankB t=!x4:=by
      have hgt:((t.args.length:Int) == 0)=!decide ((t.args.length:Int) > 0):=by
        rw[Bool.eq_iff_iff];simp
      rw[hx4,hx3,hx2,hx1,hy0];unfold blankB isE;rw[hgt];cases (t.name.toList == [])<;>cases (t.num.toList == [])<;>cases (t.bits == 0)<;>cases (t.var == 0)<;>cases decide ((t.args.length:Int) > 0)<;>cases (t.kind == 1)<;>cases (t.kind == 2)<;>cases (t.kind == 3)<;>cases (t.kind == 4)<;>cases (t.kind == 5)<;>rfl
    cases x4 with
    |true =>
      refine EvC.condT (by simp only[sA,g]) ?_;(repeat refine EvC.seq ?_);refine EvC.reg ?_;simp only[sA];refine EvC.ret ?_;try simp only[z04]
      exact z03 rfl (by simp only[sG];rfl) ⟨by rw[nodeE,if_neg hno,if_pos (show blankB t=false from hb)],hx⟩
    |false =>
      refine EvC.condF (by simp only[sA,g]) (EvC.skip ?_);try simp only[z00]
      exact⟨hb,_,rfl,f1,f3,f4,f5,f6,f7⟩
  rintro st ⟨hbl,tm,rfl,f1,f3,f4,f5,f6,f7⟩;try simp only[z00]
  refine EvC.seq ?_;refine EvC.join (fun st=>bndB t=false∧∃tm,st=⟨tm,[],H.new (some (Blk.row [Value.int IntKind.i64 t.kind,Value.string t.name,Value.string t.num,Value.int IntKind.u64 t.bits,Value.int IntKind.i64 t.var,Value.slice a t.args.length c] 25))⟩∧tm.get 1=some (.pointer (some ⟨H.next,0,none⟩))∧tm.get 3=some (.bool (t.kind == 2))∧tm.get 4=some (.bool (t.kind == 5))∧tm.get 5=some (.bool (t.kind == 3))∧tm.get 6=some (.bool (t.kind == 4))∧tm.get 7=some (.bool (t.kind == 1))) ?_ ?_
  ·
    refine EvC.seq (EvC.reg ?_);cases h1:decide (t.var < 0)<;>cases h2:(t.kind == 5)<;>cases h3:((t.args.length:Int) == 0)<;>cases h4:decide ((t.args.length:Int) > 64)
    all_goals
      try simp only[sB,Za,cutC,f1,f4,h1,h2,h3,h4,z05 z65 one3,z05 z2g z6v,z0c agg3,z0c z7n,z0x Tryz.underlying23,Zd]
    all_goals
      first
      | (have hb:bndB t=true:=by unfold bndB;rw[h1,h2,h3,h4];rfl
         refine EvC.condT (by simp only[sB,Za];done) ?_;(repeat refine EvC.seq ?_);refine EvC.reg ?_;simp only[sA];refine EvC.ret ?_;try simp only[z04]
         exact z03 rfl (by simp only[sG,Za];rfl) ⟨by rw[z9g hno hbl hb],hx⟩)
      | (have hb:bndB t=false:=by unfold bndB;rw[h1,h2,h3,h4];rfl
         refine EvC.condF (by simp only[sB,Za];done) (EvC.skip ?_);try simp only[z00]
         exact⟨hb,_,rfl,by simp only[sG,Za];exact f1,by simp only[sG,Za];exact f3,by simp only[sG,Za,f4,h2],by simp only[sG,Za];exact f5,by simp only[sG,Za];exact f6,by simp only[sG,Za];exact f7⟩)
  rintro st ⟨hbd,tm,rfl,f1,f3,f4,f5,f6,f7⟩;try simp only[z00]
  have hne:=zay (utf:=utf) (num:=num) (flt:=flt) hno hbl hbd;(repeat refine EvC.seq ?_);refine EvC.reg ?_;simp only[sB,Za,cutC,f1,z05 z2h one9,z0c agg9,z08 zr9];refine(hU t.name _ b2 hx.wf).mono ?_;rintro v H2 ⟨rfl,hx2⟩;have hxx:=hx.trans hx2;have hb2:H2.get H.next=some (Blk.row [Value.int IntKind.i64 t.kind,Value.string t.name,Value.string t.num,Value.int IntKind.u64 t.bits,Value.int IntKind.i64 t.var,Value.slice a t.args.length c] 25):=by rw[hx2.keep _ (Zf _),Heap.get_new,if_pos rfl]
  have l1:H2.load ⟨H.next,1,none⟩ 1=some [.string t.name]:=by simp only[Heap.load,Heap.cells,hb2];rfl
  have l2:H2.load ⟨H.next,2,none⟩ 1=some [.string t.num]:=by simp only[Heap.load,Heap.cells,hb2];rfl
  have l3:H2.load ⟨H.next,3,none⟩ 1=some [.int .u64 t.bits]:=by simp only[Heap.load,Heap.cells,hb2];rfl
  try simp only[]
  refine EvC.frame (fun tm=>tm.get 8=some (.bool (utf t.name))∧tm.get 1=some (.pointer (some ⟨H.next,0,none⟩))∧tm.get 3=some (.bool (t.kind == 2))∧tm.get 4=some (.bool (t.kind == 5))∧tm.get 5=some (.bool (t.kind == 3))∧tm.get 6=some (.bool (t.kind == 4))∧tm.get 7=some (.bool (t.kind == 1))) ⟨by simp only[sG,Za],by simp only[sG,Za];exact f1,by simp only[sG,Za];exact f3,by simp only[sG,Za];exact f4,by simp only[sG,Za];exact f5,by simp only[sG,Za];exact f6,by simp only[sG,Za];exact f7⟩ ?_;clear f1 f3 f4 f5 f6 f7;rintro tm ⟨f8,f1,f3,f4,f5,f6,f7⟩;cases hu:utf t.name with
  |false =>
    rw[hu] at f8;(repeat refine EvC.seq ?_);refine EvC.reg ?_;simp only[sB,Za,f8,Zt];refine EvC.condT (by simp only[sB,Za]) ?_;(repeat refine EvC.seq ?_);refine EvC.reg ?_;simp only[sA];refine EvC.ret ?_;try simp only[z04]
    exact z03 rfl (by simp only[sG,Za];rfl) ⟨by rw[hne,if_pos hu],hxx⟩
  |true =>
  rw[hu] at f8;rw[if_neg (by rw[hu];simp)] at hne;by_cases hlen:1000 < t.name.size
  · have hd:decide ((t.name.size:Int) > 1000)=true:=decide_eq_true (by omega);(repeat refine EvC.seq ?_);refine EvC.reg ?_;simp only[sB,Za,f8,f1,l1,hd,z05 z2h one9,z0c agg9,z1n Tryz.underlying9,Zp,Zd];refine EvC.condT (by simp only[sB,Za]) ?_;(repeat refine EvC.seq ?_);refine EvC.reg ?_;simp only[sA];refine EvC.ret ?_;try simp only[z04]
    exact z03 rfl (by simp only[sG,Za];rfl) ⟨by rw[hne,if_pos hlen],hxx⟩
  rw[if_neg hlen] at hne;have hd:decide ((t.name.size:Int) > 1000)=false:=decide_eq_false (by omega);(repeat refine EvC.seq ?_);refine EvC.reg ?_;simp only[sB,Za,f8,f1,l1,hd,z05 z2h one9,z0c agg9,z1n Tryz.underlying9,Zp,Zd];refine EvC.condF (by simp only[sB,Za]) (EvC.skip ?_);try simp only[z00]
  refine EvC.frame (fun tm=>tm.get 1=some (.pointer (some ⟨H.next,0,none⟩))∧tm.get 3=some (.bool (t.kind == 2))∧tm.get 4=some (.bool (t.kind == 5))∧tm.get 5=some (.bool (t.kind == 3))∧tm.get 6=some (.bool (t.kind == 4))∧tm.get 7=some (.bool (t.kind == 1))) ⟨by simp only[sG,Za];exact f1,by simp only[sG,Za];exact f3,by simp only[sG,Za];exact f4,by simp only[sG,Za];exact f5,by simp only[sG,Za];exact f6,by simp only[sG,Za];exact f7⟩ ?_;clear f1 f3 f4 f5 f6 f7 f8;rintro tm ⟨f1,f3,f4,f5,f6,f7⟩;by_cases k3:t.kind=3
  · have q3:(t.kind == 3)=true:=by simp [k3]
    have q4:(t.kind == 4)=false:=by simp [k3]
    rw[q3] at f5;rw[q4] at f6;(repeat refine EvC.seq ?_);refine EvC.reg ?_;simp only[sA,f5];refine EvC.condT (by simp only[sB]) ?_;(repeat refine EvC.seq ?_);refine EvC.reg ?_;simp only[sB,Za,f1,l2,z05 z4v one9,z0c agg9,z08 zra];refine(hN t.num _ b3 hx2.wf).mono ?_;rintro v H3 ⟨rfl,hx3⟩;try simp only[]
    (repeat refine EvC.seq ?_);refine EvC.reg ?_;simp only[sB,Za];cases hn:num t.num with
    |false =>
      refine EvC.condT (by simp only[sB,Za];rfl) ?_;(repeat refine EvC.seq ?_);refine EvC.reg ?_;simp only[sA];refine EvC.ret ?_;try simp only[z04]
      exact z03 rfl (by simp only[sG,Za];rfl) ⟨by rw[hne,if_pos ⟨k3,hn⟩],hxx.trans hx3⟩
    |true =>
      refine EvC.condF (by simp only[sB,Za];rfl) (EvC.skip ?_);try simp only[z00]
      (repeat refine EvC.seq ?_);refine EvC.reg ?_;simp only[sB,Za,f6];refine EvC.condF (by simp only[sB,Za]) (EvC.skip ?_);try simp only[z00]
      (repeat refine EvC.seq ?_);refine EvC.reg ?_;simp only[sA];refine EvC.ret ?_;try simp only[]
      exact z03 rfl (by simp only[sG,Za];rfl) ⟨by rw[hne,if_neg (by rw[hn];simp),if_neg (by rw[k3];simp)],hxx.trans hx3⟩
  have q3:(t.kind == 3)=false:=by simp [k3]
  rw[q3] at f5;rw[if_neg (fun h=>k3 h.1)] at hne;(repeat refine EvC.seq ?_);refine EvC.reg ?_;simp only[sA,f5];refine EvC.condF (by simp only[sB]) (EvC.skip ?_);try simp only[z00]
  by_cases k4:t.kind=4
  · have q4:(t.kind == 4)=true:=by simp [k4]
    rw[q4] at f6;(repeat refine EvC.seq ?_);refine EvC.reg ?_;simp only[sB,Za,f6];refine EvC.condT (by simp only[sB,Za]) ?_;(repeat refine EvC.seq ?_);refine EvC.reg ?_;simp only[sB,Za,f1,l3,z05 z4f zcd,z0c ze5,z08 zrb];refine(hF t.bits _ b4 hx2.wf).mono ?_;rintro v H3 ⟨rfl,hx3⟩;try simp only[]
    (repeat refine EvC.seq ?_);refine EvC.reg ?_;simp only[sB,Za];cases hn:flt t.bits with
    |false =>
      refine EvC.condT (by simp only[sB,Za];rfl) ?_;(repeat refine EvC.seq ?_);refine EvC.reg ?_;simp only[sA];refine EvC.ret ?_;try simp only[z04]
      exact z03 rfl (by simp only[sG,Za];rfl) ⟨by rw[hne,if_pos ⟨k4,hn⟩],hxx.trans hx3⟩
    |true =>
      refine EvC.condF (by simp only[sB,Za];rfl) (EvC.skip ?_);try simp only[z00]
      (repeat refine EvC.seq ?_);refine EvC.reg ?_;simp only[sA];refine EvC.ret ?_;try simp only[]
      exact z03 rfl (by simp only[sG,Za];rfl) ⟨by rw[hne,if_neg (by rw[hn];simp)],hxx.trans hx3⟩
  have q4:(t.kind == 4)=false:=by simp [k4]
  rw[q4] at f6;(repeat refine EvC.seq ?_);refine EvC.reg ?_;simp only[sB,Za,f6];refine EvC.condF (by simp only[sB,Za]) (EvC.skip ?_);try simp only[z00]
  (repeat refine EvC.seq ?_);refine EvC.reg ?_;simp only[sA];refine EvC.ret ?_;try simp only[]
  exact z03 rfl (by simp only[sG,Za];rfl) ⟨by rw[hne,if_neg (fun h=>k4 h.1)],hxx⟩
end Go.Proofs.hq
end

section
namespace Go.Proofs.hq
open Go Go.RowKit Go.Hb
def rho0 (n:Int):Operand→Value
 |.func f=>.func (.func f) #[] #[]
 |_=>.int .u64 n
theorem ze6 (n:Int) (d:Option Tmp) (k:Tmp) (ats:Array TypeId) (ty:TypeId) (pos:String) (af:Array Edge) (g:Option (Nat × Bool)) :
  pureRun Tryz.prog (execOp (rho0 n) ⟨d,.call ⟨.value (.func 96),#[.tmp k],ats⟩,ty,pos,af,g⟩)=some (.value (.float .f64 n.toNat)):=by kernel_rfl
theorem zo3 (l:List Value):dcall1 Tryz.prog 96 l=none:=by
 unfold dcall1;rw[Tryz.func96];rfl
theorem z83 {d:Option Tmp}{k:Tmp}{ats:Array TypeId}{ty:TypeId}{pos:String}{af:Array Edge}{g:Option (Nat × Bool)}{tm:Tr Value}{H:Heap}{n:Int}(hv:tm.get k=some (.int .u64 n)) :
  dop Tryz.prog ⟨d,.call ⟨.value (.func 96),#[.tmp k],ats⟩,ty,pos,af,g⟩ (ev tm) H=some (.val (.float .f64 n.toNat) H):=by
 have hρ:∀y∈(⟨d,.call ⟨.value (.func 96),#[.tmp k],ats⟩,ty,pos,af,g⟩:Oper).op.operands,ev tm y=rho0 n y:=by
  intro y hy;simp [Op.operands,Call.operands] at hy;rcases hy with rfl|rfl
  ·rfl
  ·show (tm.get k).getD junk=_;rw[hv];rfl
 have e:dop Tryz.prog ⟨d,.call ⟨.value (.func 96),#[.tmp k],ats⟩,ty,pos,af,g⟩ (ev tm) H=dflat Tryz.prog ⟨d,.call ⟨.value (.func 96),#[.tmp k],ats⟩,ty,pos,af,g⟩ (ev tm) H:=by
  simp only[dop,ev,zo3]
 have hf:allFlat (ev tm) (⟨d,.call ⟨.value (.func 96),#[.tmp k],ats⟩,ty,pos,af,g⟩:Oper)=true:=by
  unfold allFlat;rw[List.all_eq_true];intro y hy;rw[hρ y (Array.mem_toList_iff.1 hy)];simp [Op.operands,Call.operands] at hy;rcases hy with rfl|rfl<;>rfl
 rw[e];unfold dflat;rw[hf,execOp_congr _ (by intro cs b h;cases h) hρ,ze6];rfl
end Go.Proofs.hq
end

section
namespace Go.Proofs.hq
open Go Go.RowKit Go.Hb
def TellsN (ok:Ok) (f g h:FuncId) (fn fi:Int→Bool):Prop:=∀(n:Int) (H:Heap) , u64 n→H.wf→EvF Tryz.prog ok g [.float .f64 n.toNat] H (fun v H'=>v=.bool (fn n)∧HX H H')∧EvF Tryz.prog ok h [.float .f64 n.toNat,.int .i64 0] H (fun v H'=>v=.bool (fi n)∧HX H H')
theorem zrc:callable Tryz.prog 97=true:=by kernel_rfl
theorem zrd:callable Tryz.prog 98=true:=by kernel_rfl
variable {ok:Ok}
set_option maxRecDepth 10000 in
set_option maxHeartbeats 8000000 in
theorem zre {utf num:ByteArray→Bool}{fn fi:Int→Bool}(hk:∀args H,ok.K 82 args H=none) (hm:ok.testBit 82=true) (hk2:∀args H,ok.K 93 args H=none) (hm2:ok.testBit 93=true)
  (hU:TellsS ok 94 utf) (hN:TellsS ok 95 num) (hF:TellsN ok 96 97 98 fn fi)
  {t:Tm}{cs:List Value}{H:Heap}(r:RepT H t cs) (hw:H.wf):EvF Tryz.prog ok 82 [.agg ⟨cs⟩] H fun v H'=>v=.int .i64 (nodeE utf num (fun n=>!(fn n || fi n || n == 9223372036854775808)) t)∧HX H H':=by
 have rr:=r;obtain⟨a,c,cells,rfl,b1,b2,b3,b4,b5,rl⟩:=r.inv;have hx:=(HX.refl hw).new (some (Blk.row [Value.int IntKind.i64 t.kind,Value.string t.name,Value.string t.num,Value.int IntKind.u64 t.bits,Value.int IntKind.i64 t.var,Value.slice a t.args.length c] 25));refine EvF.enter (hk _ _) Tryz.func82 hm rfl ?_;(repeat refine EvC.seq ?_);refine EvC.reg ?_;simp only[sB,initTm,dBox,Value.cells,one];(repeat refine EvC.seq ?_);refine EvC.block ?_;refine EvC.seq (EvC.reg ?_);by_cases hno:t.kind < 1∨5 < t.kind
 ·have hlt:decide (t.kind < 1)=true∨(decide (t.kind < 1)=false∧decide (t.kind > 5)=true):=by
   by_cases h:t.kind < 1
   ·exact .inl (by simp [h])
   ·exact .inr ⟨by simp [h],by simp;omega⟩
  rcases hlt with h|⟨h,h'⟩
  ·try simp only[sB,Za,reduceCtorEq,cutC,h,z05 z28 one3,z0c agg3]
   refine EvC.condT (by simp only[sB,Za,reduceCtorEq]) ?_;(repeat refine EvC.seq ?_);refine EvC.reg ?_;simp only[sA];refine EvC.ret ?_;try simp only[sA]
   exact z03 rfl (by simp only[sG,Za,reduceCtorEq];rfl) ⟨by rw[nodeE,if_pos hno],hx⟩
  ·try simp only[sB,Za,reduceCtorEq,cutC,h,h',z05 z28 one3,z0c agg3,Zd]
   refine EvC.condT (by simp only[sB,Za,reduceCtorEq]) ?_;(repeat refine EvC.seq ?_);refine EvC.reg ?_;simp only[sA];refine EvC.ret ?_;try simp only[sA]
   exact z03 rfl (by simp only[sG,Za,reduceCtorEq];rfl) ⟨by rw[nodeE,if_pos hno],hx⟩
 have q1:decide (t.kind < 1)=false:=by simp;omega
 have q2:decide (t.kind > 5)=false:=by simp;omega
 try simp only[sB,Za,Zb,reduceCtorEq,cutC,q1,q2,z05 z28 one3,z0c agg3,Zd,z11 z64,z27,z08 zr6]
 refine(zo2 hk2 hm2 (rr.mono hx hw) hx.wf).mono ?_;rintro v H2 ⟨rfl,hx2⟩;have hxx:=hx.trans hx2;have hb2:H2.get H.next=some (Blk.row [Value.int IntKind.i64 t.kind,Value.string t.name,Value.string t.num,Value.int IntKind.u64 t.bits,Value.int IntKind.i64 t.var,Value.slice a t.args.length c] 25):=by rw[hx2.keep _ (Zf _),Heap.get_new,if_pos rfl]
 have l0:H2.load ⟨H.next,0,none⟩ 1=some [.int .i64 t.kind]:=by simp only[Heap.load,Heap.cells,hb2];rfl
 have l1:H2.load ⟨H.next,1,none⟩ 1=some [.string t.name]:=by simp only[Heap.load,Heap.cells,hb2];rfl
 have l2:H2.load ⟨H.next,2,none⟩ 1=some [.string t.num]:=by simp only[Heap.load,Heap.cells,hb2];rfl
 have l3:H2.load ⟨H.next,3,none⟩ 1=some [.int .u64 t.bits]:=by simp only[Heap.load,Heap.cells,hb2];rfl
 have l4:H2.load ⟨H.next,4,none⟩ 1=some [.int .i64 t.var]:=by simp only[Heap.load,Heap.cells,hb2];rfl
 have l5:H2.load ⟨H.next,5,none⟩ 1=some [.slice a t.args.length c]:=by simp only[Heap.load,Heap.cells,hb2];rfl
 cases hbl:blankB t with
 |false =>
  try simp only[sB,Za,reduceCtorEq,Zt,Zd]
  refine EvC.condT (by simp only[sB,Za,reduceCtorEq]) ?_;(repeat refine EvC.seq ?_);refine EvC.reg ?_;simp only[sA];refine EvC.ret ?_;try simp only[sA]
  exact z03 rfl (by simp only[sG,Za,reduceCtorEq];rfl) ⟨by rw[nodeE,if_neg hno,if_pos hbl],hxx⟩
 |true =>
 by_cases hv:t.var < 0
 ·have hd:decide (t.var < 0)=true:=decide_eq_true hv;try simp only[sB,Za,reduceCtorEq,l4,hd,z05 z65 one3,z0c agg3,Zp,Zd]
  refine EvC.condT (by simp only[sB,Za,reduceCtorEq]) ?_;(repeat refine EvC.seq ?_);refine EvC.reg ?_;simp only[sA];refine EvC.ret ?_;try simp only[sA]
  exact z03 rfl (by simp only[sG,Za,reduceCtorEq];rfl) ⟨by rw[z9g hno hbl (by unfold bndB;rw[hd];rfl)],hxx⟩
 have hd:decide (t.var < 0)=false:=decide_eq_false hv;try simp only[sB,Za,reduceCtorEq,l4,hd,z05 z65 one3,z0c agg3,Zp,Zd]
 refine EvC.condF (by simp only[sB,Za,reduceCtorEq]) ?_;refine EvC.frame (fun tm=>tm.get 1=some (.pointer (some ⟨H.next,0,none⟩))) (by simp only[sG,Za,reduceCtorEq]) ?_;rintro tm g1;refine EvC.seq ?_;refine EvC.join (fun st=>∃tm,st=⟨tm,[],H2⟩∧tm.get 1=some (.pointer (some ⟨H.next,0,none⟩))∧tm.get 23=some (.bool (t.kind == 5 && ((t.args.length:Int) == 0 || decide ((t.args.length:Int) > 64))))) ?_ ?_
 ·refine EvC.reg ?_;cases h2:(t.kind == 5)<;>cases h3:((t.args.length:Int) == 0)<;>cases h4:decide ((t.args.length:Int) > 64)
  all_goals
   try simp only[sB,Za,g1,l0,l5,h2,h3,h4,z05 z28 one3,z05 z2g z6v,z0c agg3,z0c z7n,z0x Tryz.underlying23,Zd]
   exact⟨_,rfl,by simp only[sG,Za];exact g1,by simp only[sG,Za];rfl⟩
 clear g1 tm;rintro st ⟨tm,rfl,g1,g23⟩;try simp only[z00]
 cases hbad:(t.kind == 5 && ((t.args.length:Int) == 0 || decide ((t.args.length:Int) > 64))) with
 |true =>
  rw[hbad] at g23;refine EvC.condT (by simp only[sA,g23]) ?_;(repeat refine EvC.seq ?_);refine EvC.reg ?_;simp only[sA];refine EvC.ret ?_;try simp only[sA]
  exact z03 rfl (by simp only[sG];rfl) ⟨by rw[z9g hno hbl (by unfold bndB;rw[hd,hbad];rfl)],hxx⟩
 |false =>
 rw[hbad] at g23;have hne:=zay (utf:=utf) (num:=num) (flt:=fun n=>!(fn n || fi n || n == 9223372036854775808)) hno hbl (by unfold bndB;rw[hd,hbad];rfl);refine EvC.condF (by simp only[sA,g23]) ?_;(repeat refine EvC.seq ?_);refine EvC.reg ?_;simp only[sB,Za,g1,l1,z05 z2h one9,z0c agg9,z08 zr7];refine(hU t.name _ b2 hx2.wf).mono ?_;rintro v H3 ⟨rfl,hx3⟩;have hxx3:=hxx.trans hx3;have hlt2:H.next < H2.next:=Zh (Zf _) hx2.next;have hb3:H3.get H.next=some (Blk.row [Value.int IntKind.i64 t.kind,Value.string t.name,Value.string t.num,Value.int IntKind.u64 t.bits,Value.int IntKind.i64 t.var,Value.slice a t.args.length c] 25):=by rw[hx3.keep _ hlt2];exact hb2
 have m0:H3.load ⟨H.next,0,none⟩ 1=some [.int .i64 t.kind]:=by simp only[Heap.load,Heap.cells,hb3];rfl
 have m1:H3.load ⟨H.next,1,none⟩ 1=some [.string t.name]:=by simp only[Heap.load,Heap.cells,hb3];rfl
 have m2:H3.load ⟨H.next,2,none⟩ 1=some [.string t.num]:=by simp only[Heap.load,Heap.cells,hb3];rfl
 have m3:H3.load ⟨H.next,3,none⟩ 1=some [.int .u64 t.bits]:=by simp only[Heap.load,Heap.cells,hb3];rfl
 cases hu:utf t.name with
 |false =>
  try simp only[sB,Za,Zt]
  refine EvC.condT (by simp only[sB,Za]) ?_;(repeat refine EvC.seq ?_);refine EvC.reg ?_;simp only[sA];refine EvC.ret ?_;try simp only[sA]
  exact z03 rfl (by simp only[sG,Za];rfl) ⟨by rw[hne,if_pos hu],hxx3⟩
 |true =>
 rw[if_neg (by rw[hu];simp)] at hne;by_cases hlen:1000 < t.name.size
 ·have hd:decide ((t.name.size:Int) > 1000)=true:=decide_eq_true (by omega);try simp only[sB,Za,g1,m1,hd,z05 z2h one9,z0c agg9,z1n Tryz.underlying9,Zp,Zd]
  refine EvC.condT (by simp only[sB,Za]) ?_;(repeat refine EvC.seq ?_);refine EvC.reg ?_;simp only[sA];refine EvC.ret ?_;try simp only[sA]
  exact z03 rfl (by simp only[sG,Za];rfl) ⟨by rw[hne,if_pos hlen],hxx3⟩
 rw[if_neg hlen] at hne;have hd2:decide ((t.name.size:Int) > 1000)=false:=decide_eq_false (by omega);try simp only[sB,Za,g1,m1,hd2,z05 z2h one9,z0c agg9,z1n Tryz.underlying9,Zp,Zd]
 refine EvC.condF (by simp only[sB,Za]) ?_;refine EvC.frame (fun tm=>tm.get 1=some (.pointer (some ⟨H.next,0,none⟩))) (by simp only[sG,Za];exact g1) ?_;clear g1 g23 tm;rintro tm g1;refine EvC.seq (EvC.reg ?_);by_cases k3:t.kind=3
 ·have q3:(t.kind == 3)=true:=by simp [k3]
  have q4:(t.kind == 4)=false:=by simp [k3]
  try simp only[sB,Za,g1,m0,m2,q3,z05 z28 one3,z05 z4v one9,z0c agg9,z0c agg3,z08 zr8]
  refine(hN t.num _ b3 hx3.wf).mono ?_;rintro v H4 ⟨rfl,hx4⟩;have hb4:H4.get H.next=some (Blk.row [Value.int IntKind.i64 t.kind,Value.string t.name,Value.string t.num,Value.int IntKind.u64 t.bits,Value.int IntKind.i64 t.var,Value.slice a t.args.length c] 25):=by rw[hx4.keep _ (Zh hlt2 hx3.next)];exact hb3
  have n0:H4.load ⟨H.next,0,none⟩ 1=some [.int .i64 t.kind]:=by simp only[Heap.load,Heap.cells,hb4];rfl
  cases hn:num t.num with
  |false =>
   try simp only[sB,Za,Zt]
   refine EvC.condT (by simp only[sB,Za]) ?_;(repeat refine EvC.seq ?_);refine EvC.reg ?_;simp only[sA];refine EvC.ret ?_;try simp only[sA]
   exact z03 rfl (by simp only[sG,Za];rfl) ⟨by rw[hne,if_pos ⟨k3,hn⟩],hxx3.trans hx4⟩
  |true =>
   try simp only[sB,Za,Zp]
   refine EvC.condF (by simp only[sB,Za]) (EvC.skip ?_);try simp only[sA]
   (repeat refine EvC.seq ?_);refine EvC.reg ?_;simp only[sB,Za,g1,n0,q4,z05 z28 one3,z0c agg3];refine EvC.condF (by simp only[sB,Za]) (EvC.skip ?_);try simp only[z00]
   (repeat refine EvC.seq ?_);refine EvC.reg ?_;simp only[sA];refine EvC.ret ?_;try simp only[]
   exact z03 rfl (by simp only[sG,Za];rfl) ⟨by rw[hne,if_neg (by rw[hn];simp),if_neg (by rw[k3];simp)],hxx3.trans hx4⟩
 have q3:(t.kind == 3)=false:=by simp [k3]
 rw[if_neg (fun h=>k3 h.1)] at hne;try simp only[sB,Za,g1,m0,q3,z05 z28 one3,z0c agg3,Zd]
 refine EvC.condF (by simp only[sB,Za]) (EvC.skip ?_);try simp only[sA]
 by_cases k4:t.kind=4
 ·have q4:(t.kind == 4)=true:=by simp [k4]
  (repeat refine EvC.seq ?_);refine EvC.reg ?_;simp only[sB,Za,g1,m0,q4,z05 z28 one3,z0c agg3];refine EvC.condT (by simp only[sB,Za]) ?_;(repeat refine EvC.seq ?_);refine EvC.reg ?_;simp only[sB,Za,g1,m3,z05 z4f zcd,z0c ze5];rw[z83 (n:=t.bits) (by simp only[sG,Za])];try simp only[sB,Za]
  refine EvC.frame (fun tm=>tm.get 1=some (.pointer (some ⟨H.next,0,none⟩))∧tm.get 3=some (.float .f64 t.bits.toNat)) ⟨by simp only[sG,Za];exact g1,by simp only[sG,Za]⟩ ?_;clear g1 tm;rintro tm ⟨g1,g3⟩;(repeat refine EvC.seq ?_);refine EvC.reg ?_;simp only[sB,Za,g3,z08 zrc];refine(hF t.bits _ b4 hx3.wf).1.mono ?_;rintro v H4 ⟨rfl,hx4⟩;have hb4:H4.get H.next=some (Blk.row [Value.int IntKind.i64 t.kind,Value.string t.name,Value.string t.num,Value.int IntKind.u64 t.bits,Value.int IntKind.i64 t.var,Value.slice a t.args.length c] 25):=by rw[hx4.keep _ (Zh hlt2 hx3.next)];exact hb3
  cases hn:fn t.bits with
  |true =>
   try simp only[sB,Za]
   refine EvC.condT (by simp only[sB,Za]) ?_;(repeat refine EvC.seq ?_);refine EvC.reg ?_;simp only[sA];refine EvC.ret ?_;try simp only[z04]
   exact z03 rfl (by simp only[sG,Za];rfl) ⟨by rw[hne,if_pos ⟨k4,by rw[hn];rfl⟩],hxx3.trans hx4⟩
  |false =>
  try simp only[sB,Za,g3,Zd,z08 zrd]
  refine(hF t.bits _ b4 hx4.wf).2.mono ?_;rintro v H5 ⟨rfl,hx5⟩;have hb5:H5.get H.next=some (Blk.row [Value.int IntKind.i64 t.kind,Value.string t.name,Value.string t.num,Value.int IntKind.u64 t.bits,Value.int IntKind.i64 t.var,Value.slice a t.args.length c] 25):=by rw[hx5.keep _ (Zh (Zh hlt2 hx3.next) hx4.next)];exact hb4
  have n3:H5.load ⟨H.next,3,none⟩ 1=some [.int .u64 t.bits]:=by simp only[Heap.load,Heap.cells,hb5];rfl
  cases hi:fi t.bits with
  |true =>
   try simp only[sB,Za]
   refine EvC.condT (by simp only[sB,Za]) ?_;(repeat refine EvC.seq ?_);refine EvC.reg ?_;simp only[sA];refine EvC.ret ?_;try simp only[z04]
   exact z03 rfl (by simp only[sG,Za];rfl) ⟨by rw[hne,if_pos ⟨k4,by rw[hn,hi];rfl⟩],(hxx3.trans hx4).trans hx5⟩
  |false =>
  cases hz:(t.bits == 9223372036854775808) with
  |true =>
   try simp only[sB,Za,g1,n3,hz,z05 z4f zcd,z0c ze5,Zd]
   refine EvC.condT (by simp only[sB,Za]) ?_;(repeat refine EvC.seq ?_);refine EvC.reg ?_;simp only[sA];refine EvC.ret ?_;try simp only[z04]
   exact z03 rfl (by simp only[sG,Za];rfl) ⟨by rw[hne,if_pos ⟨k4,by rw[hn,hi,hz];rfl⟩],(hxx3.trans hx4).trans hx5⟩
  |false =>
   try simp only[sB,Za,g1,n3,hz,z05 z4f zcd,z0c ze5,Zd]
   refine EvC.condF (by simp only[sB,Za]) (EvC.skip ?_);try simp only[z00]
   (repeat refine EvC.seq ?_);refine EvC.reg ?_;simp only[sA];refine EvC.ret ?_;try simp only[]
   exact z03 rfl (by simp only[sG,Za];rfl) ⟨by rw[hne,if_neg (by rw[hn,hi,hz];simp)],(hxx3.trans hx4).trans hx5⟩
 have q4:(t.kind == 4)=false:=by simp [k4]
 (repeat refine EvC.seq ?_);refine EvC.reg ?_;simp only[sB,Za,g1,m0,q4,z05 z28 one3,z0c agg3];refine EvC.condF (by simp only[sB,Za]) (EvC.skip ?_);try simp only[z00]
 (repeat refine EvC.seq ?_);refine EvC.reg ?_;simp only[sA];refine EvC.ret ?_;try simp only[]
 exact z03 rfl (by simp only[sG,Za];rfl) ⟨by rw[hne,if_neg (fun h=>k4 h.1)],hxx3⟩
end Go.Proofs.hq
end

section
namespace Go.Proofs.hq
open Go Go.RowKit Go.Hb
theorem zpt:callable Tryz.prog 64=true:=by kernel_rfl
theorem zpu:callable Tryz.prog 52=true:=by kernel_rfl
theorem zsy:callable Tryz.prog 82=true:=by kernel_rfl
theorem zsz:callable Tryz.prog 76=true:=by kernel_rfl
mutual
def allE (E:Tm→Int):Tm→Int
 |.mk k s u b v l=>if E (.mk k s u b v l)=0 then allL E l else E (.mk k s u b v l)
def allL (E:Tm→Int):List Tm→Int
 |[]=>0
 |t :: l=>if allE E t=0 then allL E l else allE E t
end
theorem z4w (E:Tm→Int) (t:Tm):allE E t=if E t=0 then allL E t.args else E t:=by
 obtain⟨k,s,u,b,v,l⟩:=t;rw[allE];rfl
theorem ze7 {E:Tm→Int}{l:List Tm}{i:Nat}{t:Tm}(h:l[i]?=some t):allL E (l.drop i)=if allE E t=0 then allL E (l.drop (i+1)) else allE E t:=by
 have hlt:=(List.getElem?_eq_some_iff.1 h).1;have he:l[i]=t:=(List.getElem?_eq_some_iff.1 h).2;rw[ZB hlt,allL,he]
def checkE (E:Tm→Int) (t:Tm):Int:=if 4000 < cnt t 0 then 24 else allE E t
def TellsT (ok:Ok) (f:FuncId) (E:Tm→Int):Prop:=∀(t:Tm) (cs:List Value) (H:Heap),RepT H t cs→H.wf→EvF Tryz.prog ok f [.agg ⟨cs⟩] H fun v H'=>v=.int .i64 (E t)∧HX H H'
theorem zpv {n:Int}(h:n≠0):(n != 0)=true:=by simp [h]
theorem zpw {n:Int}(h:n=0):(n != 0)=false:=by simp [h]
variable {ok:Ok}
set_option maxRecDepth 10000 in
set_option maxHeartbeats 2000000 in
theorem ze8 {E:Tm→Int}(hE:TellsT ok 82 E) (hk:∀args H,ok.K 64 args H=none) (hm:ok.testBit 64=true):TellsT ok 64 (allE E):=by
 have main:∀(m:Nat) {t:Tm}{cs:List Value}{H:Heap},SizeOf.sizeOf t < m→RepT H t cs→H.wf→EvF Tryz.prog ok 64 [.agg ⟨cs⟩] H fun v H'=>v=.int .i64 (allE E t)∧HX H H':=by
  intro m
  induction m with
  |zero=>intro t cs H h;omega
  |succ m ih =>
  intro t cs H hsz r hw;have rr:=r;obtain⟨a,c,cells,rfl,b1,b2,b3,b4,b5,rl⟩:=r.inv;have hx:=(HX.refl hw).new (some (Blk.row [Value.int IntKind.i64 t.kind,Value.string t.name,Value.string t.num,Value.int IntKind.u64 t.bits,Value.int IntKind.i64 t.var,Value.slice a t.args.length c] 25));refine EvF.enter (hk _ _) Tryz.func64 hm rfl ?_;(repeat refine EvC.seq ?_);refine EvC.reg ?_;simp (disch:=first|omega|rfl) only[sB,initTm,dBox,Value.cells,one];(repeat refine EvC.seq ?_);refine EvC.reg ?_;simp only[sB,Za,Zb,reduceCtorEq,cutC,z11 z64,z27,z08 zsy];refine(hE t _ _ (rr.mono hx hw) hx.wf).mono ?_;rintro v H2 ⟨rfl,hx2⟩;have hxx:=hx.trans hx2;have hb2:H2.get H.next=some (Blk.row [Value.int IntKind.i64 t.kind,Value.string t.name,Value.string t.num,Value.int IntKind.u64 t.bits,Value.int IntKind.i64 t.var,Value.slice a t.args.length c] 25):=by rw[hx2.keep _ (Zf _),Heap.get_new,if_pos rfl]
  have l5:H2.load ⟨H.next,5,none⟩ 1=some [.slice a t.args.length c]:=by simp only[Heap.load,Heap.cells,hb2];rfl
  try simp only[]
  by_cases he:E t=0
  ·(repeat refine EvC.seq ?_);refine EvC.reg ?_;simp only[sB,Za,reduceCtorEq,zpw he];refine EvC.condF (by simp only[sB,Za,reduceCtorEq]) (EvC.skip ?_);try simp only[z00]
   (repeat refine EvC.seq ?_);refine EvC.reg ?_;simp only[sB,Za,reduceCtorEq,z05 z2g z6v,z0c z7n,l5,z0x Tryz.underlying23];refine EvC.block (EvC.loop (fun k st=>∃tm H' i,st=⟨tm,[],H'⟩∧k=t.args.length - i∧i≤t.args.length∧allL E (t.args.drop i)=allE E t ∧
    tm.get 13=some (.slice a t.args.length c)∧tm.get 14=some (.int .i64 t.args.length)∧tm.get 15=some (.int .i64 (i:Nat))∧HX H H') ?_ t.args.length _ ?_)
   ·rintro k st ⟨tm,H',i,rfl,hk',hi,hc,g13,g14,g15,hx'⟩;(repeat refine EvC.seq ?_);refine EvC.reg ?_;simp only[sA,g14,g15];by_cases hlt:i < t.args.length
    ·(repeat refine EvC.seq ?_);refine EvC.condT (by simp only[sB];exact congrArg _ (decide_eq_true (by omega))) (EvC.skip ?_);obtain⟨b,o,rfl,hload,hrep⟩:=rl.at (i:=i) (Zc hlt);obtain⟨a',c',cells',hcell,-⟩:=hrep.inv;have hld:=hx'.load hw hload;rw[hcell] at hld hrep;try simp only[z00]
     (repeat refine EvC.seq ?_);refine EvC.block ?_;(repeat refine EvC.seq ?_);refine EvC.reg ?_;simp (disch:=first|omega|rfl) only[sB,dAlloc,Za,Zb,one,g13,g15,z1i Tryz.underlying23 zaw hlt,z11 z64,z27,hld,zpr,z7i zaw];(repeat refine EvC.seq ?_);refine EvC.reg ?_;simp only[sB,Za,Zb,cutC,z11 z64,z27,z08 zpt];have hx3:=(hx'.new (some (Blk.row [Value.int IntKind.i64 0,Value.string Ze,Value.string Ze,Value.int IntKind.u64 0,Value.int IntKind.i64 0,Value.slice none 0 0] 25))).put (i:=H'.next) hx'.next (Zf _)
      (some (.row [Value.int IntKind.i64 t.args[i].kind,Value.string t.args[i].name,Value.string t.args[i].num,Value.int IntKind.u64 t.args[i].bits,Value.int IntKind.i64 t.args[i].var,Value.slice a' t.args[i].args.length c'] 25))
     have ht:t.args[i]?=some t.args[i]:=Zc hlt;have hs:=z15 ht;refine(ih (t:=t.args[i]) (by omega) (hrep.mono hx3 hw) hx3.wf).mono ?_;rintro v H4 ⟨rfl,hx4⟩;have hL:t.args.length≤9223372036854775807:=Zo rl.len rl.cap;have hd:=ze7 (E:=E) ht;try simp only[]
     by_cases hz:allE E t.args[i]=0
     ·(repeat refine EvC.seq ?_);refine EvC.reg ?_;simp only[sB,Za,zpw hz];refine EvC.condF (by simp only[sB,Za]) (EvC.skip ?_);try simp only[sA]
      refine EvC.reg ?_;simp (disch:=first|omega|rfl) only[sB,Za,g15,z0b];exact⟨t.args.length - (i+1),by omega,_,_,i+1,rfl,rfl,by omega,by rw[←hc,hd,if_pos hz],by simp only[sG,Za];exact g13,by simp only[sG,Za];exact g14,by simp only[sG,Za];rfl,hx3.trans hx4⟩
     ·(repeat refine EvC.seq ?_);refine EvC.reg ?_;simp only[sB,Za,zpv hz];refine EvC.condT (by simp only[sB,Za]) ?_;(repeat refine EvC.seq ?_);refine EvC.reg ?_;simp only[sB,Za];refine EvC.ret ?_;try simp only[sA]
      exact z03 rfl (by simp only[sG,Za];rfl) ⟨by rw[←hc,hd,if_neg hz],hx3.trans hx4⟩
    ·(repeat refine EvC.seq ?_);refine EvC.condF (by simp only[sB];exact congrArg _ (decide_eq_false (by omega))) (EvC.exit ?_);try simp only[sB]
     (repeat refine EvC.seq ?_);refine EvC.reg ?_;simp only[sA];refine EvC.ret (z03 rfl (by simp only[sG,Za];rfl) ⟨?_,hx'⟩);rw[←hc,ZM (by omega),allL]
   ·exact⟨_,_,0,rfl,rfl,by omega,by rw[z4w,if_pos he];rfl,by simp only[sG,Za,reduceCtorEq],by simp only[sG,Za,reduceCtorEq],by simp only[sG,Za,reduceCtorEq];rfl,hxx⟩
  ·(repeat refine EvC.seq ?_);refine EvC.reg ?_;simp only[sB,Za,reduceCtorEq,zpv he];refine EvC.condT (by simp only[sB,Za,reduceCtorEq]) ?_;(repeat refine EvC.seq ?_);refine EvC.reg ?_;simp only[sB,Za,reduceCtorEq];refine EvC.ret ?_;try simp only[z04]
   exact z03 rfl (by simp only[sG,Za,reduceCtorEq];rfl) ⟨by rw[z4w,if_neg he],hxx⟩
 exact fun t cs H r hw=>main _ (Zf _) r hw
end Go.Proofs.hq
end

section
namespace Go.Proofs.hq
open Go Go.RowKit Go.Hb
theorem zt0 {n:Int}(h:n=0):(n == 0)=true:=by simp [h]
theorem zt1 {n:Int}(h:n≠0):(n == 0)=false:=by simp [h]
variable {ok:Ok}
set_option maxRecDepth 10000 in
set_option maxHeartbeats 2000000 in
theorem zj7 {E:Tm→Int}(hE:TellsT ok 76 E) (hk:∀args H,ok.K 52 args H=none) (hm:ok.testBit 52=true):TellsT ok 52 (allE E):=by
 have main:∀(m:Nat) {t:Tm}{cs:List Value}{H:Heap},SizeOf.sizeOf t < m→RepT H t cs→H.wf→EvF Tryz.prog ok 52 [.agg ⟨cs⟩] H fun v H'=>v=.int .i64 (allE E t)∧HX H H':=by
  intro m
  induction m with
  |zero=>intro t cs H h;omega
  |succ m ih =>
  intro t cs H hsz r hw;have rr:=r;obtain⟨a,c,cells,rfl,b1,b2,b3,b4,b5,rl⟩:=r.inv;have hx:=(HX.refl hw).new (some (Blk.row [Value.int IntKind.i64 t.kind,Value.string t.name,Value.string t.num,Value.int IntKind.u64 t.bits,Value.int IntKind.i64 t.var,Value.slice a t.args.length c] 25));refine EvF.enter (hk _ _) Tryz.func52 hm rfl ?_;(repeat refine EvC.seq ?_);refine EvC.reg ?_;simp (disch:=first|omega|rfl) only[sB,initTm,dBox,Value.cells,one];(repeat refine EvC.seq ?_);refine EvC.reg ?_;simp only[sB,Za,Zb,reduceCtorEq,cutC,z11 z64,z27,z08 zsz];refine(hE t _ _ (rr.mono hx hw) hx.wf).mono ?_;rintro v H2 ⟨rfl,hx2⟩;have hxx:=hx.trans hx2;have hb2:H2.get H.next=some (Blk.row [Value.int IntKind.i64 t.kind,Value.string t.name,Value.string t.num,Value.int IntKind.u64 t.bits,Value.int IntKind.i64 t.var,Value.slice a t.args.length c] 25):=by rw[hx2.keep _ (Zf _),Heap.get_new,if_pos rfl]
  try simp only[]
  (repeat refine EvC.seq ?_);refine EvC.reg ?_;simp only[sA];have hlt2:H.next < H2.next:=Zh (Zf _) hx2.next;refine EvC.block (EvC.loop (fun k st=>∃tm H' i e,st=⟨tm,[],H'⟩∧k=t.args.length - i∧i≤t.args.length∧(if e=0 then allL E (t.args.drop i) else e)=allE E t ∧
    tm.get 1=some (.pointer (some ⟨H.next,0,none⟩))∧tm.get 3=some (.int .i64 e)∧tm.get 4=some (.int .i64 (i:Nat))∧H'.get H.next=some (Blk.row [Value.int IntKind.i64 t.kind,Value.string t.name,Value.string t.num,Value.int IntKind.u64 t.bits,Value.int IntKind.i64 t.var,Value.slice a t.args.length c] 25)∧H.next < H'.next∧HX H H') ?_ t.args.length _ ?_)
  ·rintro k st ⟨tm,H',i,e,rfl,hk',hi,hc,g1,g3,g4,hb,hlt0,hx'⟩;have l5:H'.load ⟨H.next,5,none⟩ 1=some [.slice a t.args.length c]:=by simp only[Heap.load,Heap.cells,hb];rfl
   by_cases hlt:i < t.args.length
   ·have hd1:decide ((i:Int) < (t.args.length:Int))=true:=decide_eq_true (by omega);by_cases he:e=0
    ·(repeat refine EvC.seq ?_);refine EvC.reg ?_;simp only[sB,Za,g1,g3,g4,z05 z2g z6v,z0c z7n,l5,z0x Tryz.underlying23,hd1,zt0 he];refine EvC.condT (by simp only[sB,Za]) (EvC.skip ?_);obtain⟨b,o,rfl,hload,hrep⟩:=rl.at (i:=i) (Zc hlt);obtain⟨a',c',cells',hcell,-⟩:=hrep.inv;have hld:=hx'.load hw hload;rw[hcell] at hld hrep;try simp only[z00]
     (repeat refine EvC.seq ?_);refine EvC.block ?_;refine EvC.reg ?_;simp only[sB,Za,g1,g4,z05 z2g z6v,z0c z7n,l5,z1i Tryz.underlying23 zaw hlt,z11 z64,z27,hld,z08 zpu];have ht:t.args[i]?=some t.args[i]:=Zc hlt;have hs:=z15 ht;refine(ih (t:=t.args[i]) (by omega) (hrep.mono hx' hw) hx'.wf).mono ?_;rintro v H4 ⟨rfl,hx4⟩;have hL:t.args.length≤9223372036854775807:=Zo rl.len rl.cap;try simp only[]
     refine EvC.reg ?_;simp (disch:=first|omega|rfl) only[sB,Za,g4,z0b];exact⟨t.args.length - (i+1),by omega,_,_,i+1,allE E t.args[i],rfl,rfl,by omega,by rw[←hc,if_pos he,ze7 (E:=E) ht],by simp only[sG,Za];exact g1,by simp only[sG,Za],by simp only[sG,Za];rfl,by rw[hx4.keep _ hlt0];exact hb,Zh hlt0 hx4.next,hx'.trans hx4⟩
    ·(repeat refine EvC.seq ?_);refine EvC.reg ?_;simp only[sB,Za,g1,g3,g4,z05 z2g z6v,z0c z7n,l5,z0x Tryz.underlying23,hd1,zt1 he];refine EvC.condF (by simp only[sB,Za]) (EvC.exit ?_);try simp only[sB]
     (repeat refine EvC.seq ?_);refine EvC.reg ?_;simp only[sB,Za,g3];refine EvC.ret (z03 rfl (by simp only[sG,Za];rfl) ⟨by rw[←hc,if_neg he],hx'⟩)
   ·have hd1:decide ((i:Int) < (t.args.length:Int))=false:=decide_eq_false (by omega);(repeat refine EvC.seq ?_);refine EvC.reg ?_;simp only[sB,Za,g1,g4,z05 z2g z6v,z0c z7n,l5,z0x Tryz.underlying23,hd1,Zd];refine EvC.condF (by simp only[sB,Za]) (EvC.exit ?_);try simp only[sB]
    (repeat refine EvC.seq ?_);refine EvC.reg ?_;simp only[sB,Za,g3];refine EvC.ret (z03 rfl (by simp only[sG,Za];rfl) ⟨?_,hx'⟩);rw[←hc,ZM (by omega),allL];split
    ·rename_i h;rw[h]
    ·rfl
  ·exact⟨_,_,0,E t,rfl,rfl,by omega,by rw[z4w];rfl,by simp only[sG,Za,reduceCtorEq],by simp only[sG,Za,reduceCtorEq],by simp only[sG,Za,reduceCtorEq];rfl,hb2,hlt2,hxx⟩
 exact fun t cs H r hw=>main _ (Zf _) r hw
set_option maxRecDepth 10000 in
theorem zo4 {E:Tm→Int}(hN:TellsT ok 35 fun t=>cnt t 0) (hE:TellsT ok 64 (allE E)) (hk:∀args H,ok.K 29 args H=none) (hm:ok.testBit 29=true):TellsT ok 29 (checkE E):=by
 intro t cs H r hw;have rr:=r;obtain⟨a,c,cells,rfl,b1,b2,b3,b4,b5,rl⟩:=r.inv;have hx:=(HX.refl hw).new (some (Blk.row [Value.int IntKind.i64 t.kind,Value.string t.name,Value.string t.num,Value.int IntKind.u64 t.bits,Value.int IntKind.i64 t.var,Value.slice a t.args.length c] 25));refine EvF.enter (hk _ _) Tryz.func29 hm rfl ?_;(repeat refine EvC.seq ?_);refine EvC.reg ?_;simp only[sB,initTm,dBox,Value.cells,one];(repeat refine EvC.seq ?_);refine EvC.reg ?_;simp only[sB,Za,Zb,reduceCtorEq,cutC,z11 z64,z27,z08 zst];refine(hN t _ _ (rr.mono hx hw) hx.wf).mono ?_;rintro v H2 ⟨rfl,hx2⟩;have hxx:=hx.trans hx2;have hb2:H2.get H.next=some (Blk.row [Value.int IntKind.i64 t.kind,Value.string t.name,Value.string t.num,Value.int IntKind.u64 t.bits,Value.int IntKind.i64 t.var,Value.slice a t.args.length c] 25):=by rw[hx2.keep _ (Zf _),Heap.get_new,if_pos rfl]
 have l6:H2.load ⟨H.next,0,none⟩ 6=some [Value.int IntKind.i64 t.kind,Value.string t.name,Value.string t.num,Value.int IntKind.u64 t.bits,Value.int IntKind.i64 t.var,Value.slice a t.args.length c]:=by simp only[Heap.load,Heap.cells,hb2];rfl
 by_cases hov:4000 < cnt t 0
 ·refine EvC.condT (by simp only[sB,Za,reduceCtorEq];exact congrArg _ (decide_eq_true (by omega))) ?_;(repeat refine EvC.seq ?_);refine EvC.reg ?_;simp only[sA];refine EvC.ret ?_;try simp only[z04]
  exact z03 rfl (by simp only[sG,Za,reduceCtorEq];rfl) ⟨by rw[checkE,if_pos hov],hxx⟩
 ·refine EvC.condF (by simp only[sB,Za,reduceCtorEq];exact congrArg _ (decide_eq_false (by omega))) (EvC.skip ?_);try simp only[sA]
  (repeat refine EvC.seq ?_);refine EvC.reg ?_;simp only[sB,Za,reduceCtorEq,z11 z64,z27,l6,z08 zpt];refine(hE t _ _ (rr.mono hxx hw) hx2.wf).mono ?_;rintro v H3 ⟨rfl,hx3⟩;try simp only[]
  refine EvC.ret ?_;try simp only[]
  exact z03 rfl (by simp only[sG,Za,reduceCtorEq];rfl) ⟨by rw[checkE,if_neg hov],hxx.trans hx3⟩
set_option maxRecDepth 10000 in
theorem ze9 {E:Tm→Int}(hN:TellsT ok 46 fun t=>cnt t 0) (hE:TellsT ok 52 (allE E)) (hk:∀args H,ok.K 14 args H=none) (hm:ok.testBit 14=true):TellsT ok 14 (checkE E):=by
 intro t cs H r hw;have rr:=r;obtain⟨a,c,cells,rfl,b1,b2,b3,b4,b5,rl⟩:=r.inv;have hx:=(HX.refl hw).new (some (Blk.row [Value.int IntKind.i64 t.kind,Value.string t.name,Value.string t.num,Value.int IntKind.u64 t.bits,Value.int IntKind.i64 t.var,Value.slice a t.args.length c] 25));refine EvF.enter (hk _ _) Tryz.func14 hm rfl ?_;(repeat refine EvC.seq ?_);refine EvC.reg ?_;simp only[sB,initTm,dBox,Value.cells,one];(repeat refine EvC.seq ?_);refine EvC.reg ?_;simp only[sB,Za,Zb,reduceCtorEq,cutC,z11 z64,z27,z08 zsu];refine(hN t _ _ (rr.mono hx hw) hx.wf).mono ?_;rintro v H2 ⟨rfl,hx2⟩;have hxx:=hx.trans hx2;have hb2:H2.get H.next=some (Blk.row [Value.int IntKind.i64 t.kind,Value.string t.name,Value.string t.num,Value.int IntKind.u64 t.bits,Value.int IntKind.i64 t.var,Value.slice a t.args.length c] 25):=by rw[hx2.keep _ (Zf _),Heap.get_new,if_pos rfl]
 have l6:H2.load ⟨H.next,0,none⟩ 6=some [Value.int IntKind.i64 t.kind,Value.string t.name,Value.string t.num,Value.int IntKind.u64 t.bits,Value.int IntKind.i64 t.var,Value.slice a t.args.length c]:=by simp only[Heap.load,Heap.cells,hb2];rfl
 by_cases hov:4000 < cnt t 0
 ·refine EvC.condT (by simp only[sB,Za,reduceCtorEq];exact congrArg _ (decide_eq_true (by omega))) ?_;(repeat refine EvC.seq ?_);refine EvC.reg ?_;simp only[sA];refine EvC.ret ?_;try simp only[z04]
  exact z03 rfl (by simp only[sG,Za,reduceCtorEq];rfl) ⟨by rw[checkE,if_pos hov],hxx⟩
 ·refine EvC.condF (by simp only[sB,Za,reduceCtorEq];exact congrArg _ (decide_eq_false (by omega))) (EvC.skip ?_);try simp only[sA]
  (repeat refine EvC.seq ?_);refine EvC.reg ?_;simp only[sB,Za,reduceCtorEq,z11 z64,z27,l6,z08 zpu];refine(hE t _ _ (rr.mono hxx hw) hx2.wf).mono ?_;rintro v H3 ⟨rfl,hx3⟩;try simp only[]
  refine EvC.ret ?_;try simp only[]
  exact z03 rfl (by simp only[sG,Za,reduceCtorEq];rfl) ⟨by rw[checkE,if_neg hov],hxx.trans hx3⟩
end Go.Proofs.hq
end

section
namespace Go.Proofs.hq
open Go Go.RowKit Go.Hb
section
variable {P:Program}{H:Heap}
theorem zlb {t:TypeId}{x y:Operand}{k:FloatKind}{a b:Nat}:dBin P .neq t x y (.float k a) (.float k b) H=some (.val (.bool (k.format.order a b != some .eq)) H):=by
 simp [dBin,dnil,flat,eqGuard,binOp,Op.floatCmp,Sem.bind];rfl
theorem zlc {t:TypeId}{x y:Operand}{k:FloatKind}{a b:Nat}:dBin P .gtr t x y (.float k a) (.float k b) H=some (.val (.bool (k.format.order a b == some .gt)) H):=by
 simp [dBin,dnil,flat,eqGuard,binOp,Op.floatCmp,Sem.bind];rfl
def iAndNot (k:IntKind) (a b:Int):Int:=k.wrap (BitVec.ofInt k.bits a &&& ~~~BitVec.ofInt k.bits b).toNat
def iAnd (k:IntKind) (a b:Int):Int:=k.wrap (BitVec.ofInt k.bits a &&& BitVec.ofInt k.bits b).toNat
theorem zfx {t:TypeId}{x y:Operand}{k:IntKind}{a b:Int}:dBin P .andNot t x y (.int k a) (.int k b) H=some (.val (.int k (iAndNot k a b)) H):=by
 simp [dBin,dnil,flat,eqGuard,binOp,Op.intBits,Sem.bind,-BitVec.toNat_and,-BitVec.toNat_not,-BitVec.toNat_ofInt];rfl
theorem zhn {t:TypeId}{x y:Operand}{k:IntKind}{a b:Int}:dBin P .and t x y (.int k a) (.int k b) H=some (.val (.int k (iAnd k a b)) H):=by
 simp [dBin,dnil,flat,eqGuard,binOp,Op.intBits,Sem.bind];rfl
theorem zho {t:TypeId}{x y:Operand}{k k':IntKind}{a b:Int}(h:0≤b):dBin P .shr t x y (.int k a) (.int k' b) H=some (.val (.int k (a.fdiv (2 ^ (min b.toNat k.bits)))) H):=by
 have hb:¬b < 0:=by omega
 simp [dBin,dnil,flat,eqGuard,binOp,Op.shift,hb,Sem.bind];rfl
end
def rhoF (n:Nat):Operand→Value
 |.func f=>.func (.func f) #[] #[]
 |_=>.float .f64 n
theorem zo5 (n:Nat) (d:Option Tmp) (k:Tmp) (ats:Array TypeId) (ty:TypeId) (pos:String) (af:Array Edge) (g:Option (Nat × Bool)) :
  pureRun Tryz.prog (execOp (rhoF n) ⟨d,.call ⟨.value (.func 116),#[.tmp k],ats⟩,ty,pos,af,g⟩)=some (.value (.int .u64 n)):=by kernel_rfl
theorem zld (l:List Value):dcall1 Tryz.prog 116 l=none:=by
 unfold dcall1;rw[Tryz.func116];rfl
theorem zo6 {d:Option Tmp}{k:Tmp}{ats:Array TypeId}{ty:TypeId}{pos:String}{af:Array Edge}{g:Option (Nat × Bool)}{tm:Tr Value}{H:Heap}{n:Nat}(hv:tm.get k=some (.float .f64 n)) :
  dop Tryz.prog ⟨d,.call ⟨.value (.func 116),#[.tmp k],ats⟩,ty,pos,af,g⟩ (ev tm) H=some (.val (.int .u64 n) H):=by
 have hρ:∀y∈(⟨d,.call ⟨.value (.func 116),#[.tmp k],ats⟩,ty,pos,af,g⟩:Oper).op.operands,ev tm y=rhoF n y:=by
  intro y hy;simp [Op.operands,Call.operands] at hy;rcases hy with rfl|rfl
  ·rfl
  ·show (tm.get k).getD junk=_;rw[hv];rfl
 have e:dop Tryz.prog ⟨d,.call ⟨.value (.func 116),#[.tmp k],ats⟩,ty,pos,af,g⟩ (ev tm) H=dflat Tryz.prog ⟨d,.call ⟨.value (.func 116),#[.tmp k],ats⟩,ty,pos,af,g⟩ (ev tm) H:=by
  simp only[dop,ev,zld]
 have hf:allFlat (ev tm) (⟨d,.call ⟨.value (.func 116),#[.tmp k],ats⟩,ty,pos,af,g⟩:Oper)=true:=by
  unfold allFlat;rw[List.all_eq_true];intro y hy;rw[hρ y (Array.mem_toList_iff.1 hy)];simp [Op.operands,Call.operands] at hy;rcases hy with rfl|rfl<;>rfl
 rw[e];unfold dflat;rw[hf,execOp_congr _ (by intro cs b h;cases h) hρ,zo5];rfl
theorem zrf:callable Tryz.prog 104=true:=by kernel_rfl
def fnB (n:Int):Bool:=FloatKind.f64.format.order n.toNat n.toNat != some .eq
def absN (m:Nat):Nat:=(iAndNot .u64 m 9223372036854775808).toNat
def fiB (n:Int):Bool:=FloatKind.f64.format.order (absN n.toNat) 9218868437227405311 == some .gt
variable {ok:Ok}
set_option maxRecDepth 10000
theorem zt2 (hk:∀args H,ok.K 104 args H=none) (hm:ok.testBit 104=true) (m:Nat) (H:Heap) (hw:H.wf):EvF Tryz.prog ok 104 [.float .f64 m] H fun v H'=>v=.float .f64 (absN m)∧HX H H':=by
 refine EvF.enter (hk _ _) Tryz.func104 hm rfl ?_;(repeat refine EvC.seq ?_);refine EvC.reg ?_;simp only[sA,initTm];(repeat refine EvC.seq ?_);refine EvC.reg ?_;simp only[sB,reduceCtorEq];rw[zo6 (n:=m) (by simp only[sG,Za,reduceCtorEq])];try simp only[sB,Za,reduceCtorEq,zfx]
 rw[z83 (n:=iAndNot .u64 m 9223372036854775808) (by simp only[sG,Za,reduceCtorEq])];try simp only[sB,Za,reduceCtorEq]
 refine EvC.ret ?_;exact z03 rfl (by simp only[sG,Za,reduceCtorEq];rfl) ⟨rfl,HX.refl hw⟩
theorem zo7 (hk:∀args H,ok.K 97 args H=none) (hm:ok.testBit 97=true) (n:Int) (H:Heap) (hw:H.wf):EvF Tryz.prog ok 97 [.float .f64 n.toNat] H fun v H'=>v=.bool (fnB n)∧HX H H':=by
 refine EvF.enter (hk _ _) Tryz.func97 hm rfl ?_;(repeat refine EvC.seq ?_);refine EvC.reg ?_;simp only[sA,initTm];(repeat refine EvC.seq ?_);refine EvC.reg ?_;simp only[sB,Za,reduceCtorEq,zlb];refine EvC.ret ?_;exact z03 rfl (by simp only[sG,Za,reduceCtorEq];rfl) ⟨rfl,HX.refl hw⟩
theorem zo8 (hk:∀f args H,(f=98∨f=104)→ok.K f args H=none) (hm:ok.testBit 98=true) (hm2:ok.testBit 104=true) (n:Int) (H:Heap) (hw:H.wf) :
  EvF Tryz.prog ok 98 [.float .f64 n.toNat,.int .i64 0] H fun v H'=>v=.bool (fiB n)∧HX H H':=by
 refine EvF.enter (hk _ _ _ (.inl rfl)) Tryz.func98 hm rfl ?_;(repeat refine EvC.seq ?_);refine EvC.reg ?_;simp only[sA,initTm];(repeat refine EvC.seq ?_);refine EvC.reg ?_;simp only[sB,Za,reduceCtorEq];refine EvC.condT (by simp only[sB,Za,reduceCtorEq];rfl) ?_;refine EvC.reg ?_;simp only[sB,Za,reduceCtorEq,z08 zrf];refine(zt2 (hk 104 · · (.inr rfl)) hm2 n.toNat H hw).mono ?_;rintro v H2 ⟨rfl,hx⟩;try simp only[]
 (repeat refine EvC.seq ?_);refine EvC.reg ?_;simp only[sB,Za,reduceCtorEq,zlc];refine EvC.ret ?_;exact z03 rfl (by simp only[sG,Za,reduceCtorEq];rfl) ⟨rfl,hx⟩
def flB (n:Int):Bool:=!(iAnd .u64 (n.fdiv (2 ^ (min (Int.toNat 52) IntKind.u64.bits))) 2047 == 2047) && !(n == 9223372036854775808)
theorem zle (hk:∀args H,ok.K 90 args H=none) (hm:ok.testBit 90=true):TellsU ok 90 flB:=by
 intro n H hn hw;refine EvF.enter (hk _ _) Tryz.func90 hm rfl ?_;(repeat refine EvC.seq ?_);refine EvC.reg ?_;simp only[sA,initTm];cases h1:(iAnd .u64 (n.fdiv (2 ^ (min (Int.toNat 52) IntKind.u64.bits))) 2047 == 2047) with
 |true =>
  (repeat refine EvC.seq ?_);refine EvC.reg ?_;simp (disch:=first|omega|rfl) only[sB,Za,reduceCtorEq,zho,zhn,bne,h1,Zp,Zd];refine EvC.ret ?_;exact z03 rfl (by simp only[sG,Za,reduceCtorEq];rfl) ⟨by unfold flB;rw[h1];rfl,HX.refl hw⟩
 |false =>
  (repeat refine EvC.seq ?_);refine EvC.reg ?_;simp (disch:=first|omega|rfl) only[sB,Za,reduceCtorEq,zho,zhn,bne,h1,Zt];refine EvC.ret ?_;exact z03 rfl (by simp only[sG,Za,reduceCtorEq];rfl) ⟨by unfold flB;rw[h1];rfl,HX.refl hw⟩
end Go.Proofs.hq
end

section
namespace Go.Proofs.hq
open Go Go.RowKit Go.Hb
theorem z84 (q:Nat) (h:q < 18446744073709551616):IntKind.u64.wrap (q:Int)=(q:Int):=by
 rw[IntKind.wrap_u64];omega
theorem zo9 (q:Nat) (h:q < 18446744073709551616):iAnd .u64 (q:Int) 2047=((q % 2048:Nat):Int):=by
 unfold iAnd;have e:(BitVec.ofInt IntKind.u64.bits (q:Int) &&& BitVec.ofInt IntKind.u64.bits 2047).toNat=q % 2048:=by
  rw[BitVec.toNat_and];have h1:(BitVec.ofInt IntKind.u64.bits (q:Int)).toNat=q:=by
   rw[BitVec.ofInt_natCast,BitVec.toNat_ofNat];exact Nat.mod_eq_of_lt h
  have h2:(BitVec.ofInt IntKind.u64.bits 2047).toNat=2047:=rfl;rw[h1,h2];exact Nat.and_two_pow_sub_one_eq_mod q 11
 rw[e,z84 _ (by omega)]
theorem zrg (m:Nat) (h:m < 18446744073709551616):absN m=m % 9223372036854775808:=by
 unfold absN iAndNot;have e:(BitVec.ofInt IntKind.u64.bits (m:Int) &&& ~~~BitVec.ofInt IntKind.u64.bits 9223372036854775808).toNat=m % 9223372036854775808:=by
  rw[BitVec.toNat_and];have h1:(BitVec.ofInt IntKind.u64.bits (m:Int)).toNat=m:=by
   rw[BitVec.ofInt_natCast,BitVec.toNat_ofNat];exact Nat.mod_eq_of_lt h
  have h2:(~~~BitVec.ofInt IntKind.u64.bits 9223372036854775808).toNat=9223372036854775807:=rfl;rw[h1,h2];exact Nat.and_two_pow_sub_one_eq_mod m 63
 rw[e,z84 _ (by omega)];exact Int.toNat_natCast _
theorem zfy (w:Nat):Ieee.double.read w =
  if w % 9223372036854775808 < 4503599627370496 then .number (w / 9223372036854775808 % 2 == 1) (w % 9223372036854775808) (-1074)
  else if w % 9223372036854775808 < 9218868437227405312 then .number (w / 9223372036854775808 % 2 == 1) (4503599627370496+w % 9223372036854775808 % 4503599627370496) (-1074+((w % 9223372036854775808 / 4503599627370496 - 1:Nat):Int))
  else if w % 9223372036854775808=9218868437227405312 then .infinity (w / 9223372036854775808 % 2 == 1)
  else .nan (w / 9223372036854775808 % 2 == 1) (w % 9223372036854775808 - 9218868437227405312):=rfl
theorem zt3 (m:Nat):(FloatKind.f64.format.order m m != some .eq)=decide (9218868437227405312 < m % 9223372036854775808):=by
 show (Ieee.Datum.order (Ieee.double.read m) (Ieee.double.read m) != some .eq)=_;rw[zfy];split
 ·rename_i h;rw[decide_eq_false (by omega)];simp [Ieee.Datum.order]
 ·split
  ·rename_i h;rw[decide_eq_false (by omega)];simp [Ieee.Datum.order]
  ·split
   ·rename_i h;rw[decide_eq_false (by omega)];simp [Ieee.Datum.order]
   ·rw[decide_eq_true (by omega)];simp [Ieee.Datum.order]
theorem zt4 (m k:Nat):m≤m <<< k:=by
 rw[Nat.shiftLeft_eq];exact Nat.le_mul_of_pos_right m (Nat.two_pow_pos k)
theorem zt5 (g:Nat) (hg:g < 9223372036854775808):(FloatKind.f64.format.order g 9218868437227405311 == some .gt)=decide (g=9218868437227405312):=by
 show (Ieee.Datum.order (Ieee.double.read g) (Ieee.double.read 9218868437227405311) == some .gt)=_;have hM:Ieee.double.read 9218868437227405311=.number false 9007199254740991 971:=by rw[zfy];rfl
 have hmod:g % 9223372036854775808=g:=Nat.mod_eq_of_lt hg;have hneg:(g / 9223372036854775808 % 2 == 1)=false:=by
  rw[Nat.div_eq_of_lt hg];rfl
 have key:∀(m:Nat) (p:Int),m≤9007199254740991→p≤971→(Ieee.Datum.order (.number false m p) (.number false 9007199254740991 971) == some .gt)=false:=by
  intro m p hm hp;simp only[Ieee.Datum.order,Ieee.signed];have h1:min p 971=p:=by omega
  rw[h1];have h2:(p - p).toNat=0:=by omega
  rw[h2];have hle:=zt4 9007199254740991 (971 - p).toNat;have hng:compare ((m <<< 0:Nat):Int) ((9007199254740991 <<< (971 - p).toNat:Nat):Int)≠.gt:=by
   rw[Ne,Int.compare_eq_gt];have:m <<< 0=m:=rfl;rw[this];omega
  simpa using hng
 rw[zfy,hM,hmod,hneg];split
 ·rename_i h;rw[decide_eq_false (by omega)];exact key _ _ (by omega) (by omega)
 ·split
  ·rename_i h;rw[decide_eq_false (by omega)];exact key _ _ (by omega) (by omega)
  ·split
   ·rename_i h;rw[decide_eq_true h];rfl
   ·rename_i h;rw[decide_eq_false h];rfl
theorem zfz (n:Int) (hn:u64 n):flB n=!(fnB n || fiB n || n == 9223372036854775808):=by
 obtain⟨m,rfl⟩:∃m:Nat,n=m:=⟨n.toNat,by unfold u64 at hn;omega⟩
 have hm:m < 18446744073709551616:=by unfold u64 at hn;omega
 unfold flB fnB fiB;have hd:(m:Int).fdiv (2 ^ (min (Int.toNat 52) IntKind.u64.bits))=((m / 4503599627370496:Nat):Int):=by
  show (m:Int).fdiv 4503599627370496=_;rw[Int.fdiv_eq_ediv_of_nonneg _ (by omega)];rfl
 rw[hd,zo9 _ (by omega),Int.toNat_natCast,zt3,zrg m hm,zt5 _ (Nat.mod_lt _ (by omega))];have hc:((((m / 4503599627370496 % 2048:Nat):Int) == 2047))=(decide (9218868437227405312 < m % 9223372036854775808) || decide (m % 9223372036854775808=9218868437227405312)):=by
  rw[Bool.eq_iff_iff];simp only[beq_iff_eq,Bool.or_eq_true,decide_eq_true_eq];omega
 rw[hc];cases decide (9218868437227405312 < m % 9223372036854775808)<;>cases decide (m % 9223372036854775808=9218868437227405312)<;>cases ((m:Int) == 9223372036854775808)<;>rfl
end Go.Proofs.hq
end

section
namespace Go.Proofs.hq
end Go.Proofs.hq
end

section
namespace Go.Hb
open Go.Lib
def contR:Nat→List UInt8→Nat→Option Nat
 |0,_,c=>some c
 |_+1,[],_=>none
 |n+1,b :: l,c=>if b.toNat < 128∨192≤b.toNat then none else contR n l (c*64+b.toNat - 128)
def leadR (b:Nat):Option (Nat × Nat × Nat) :=
 if 192≤b∧b < 224 then some (1,128,b - 192) else if 224≤b∧b < 240 then some (2,2048,b - 224) else if 240≤b∧b < 248 then some (3,65536,b - 240) else none
abbrev badR (lo c:Nat):Prop:=c < lo∨1114111 < c∨(55296≤c∧c < 57344)
def stepR (l:List UInt8):Option Nat :=
 match l with
 |[]=>none
 |b :: l=>match leadR b.toNat with
  |none=>none
  |some (n,lo,c)=>match contR n l c with
   |none=>none
   |some c=>if badR lo c then none else some (n+1)
def utfR:Nat→List UInt8→Bool
 |0,_=>true
 |_+1,[]=>true
 |k+1,b :: l=>if b.toNat < 128 then utfR k l else match stepR (b :: l) with
  |none=>false
  |some n=>utfR k ((b :: l).drop n)
def stepN (n m b1 b2 b3:Nat):Option Nat :=
 if 192≤m∧m < 224 then (if n < 2∨b1 < 128∨192≤b1 then none else if badR 128 ((m - 192)*64+b1 - 128) then none else some 2)
 else if 224≤m∧m < 240 then (if n < 3∨b1 < 128∨192≤b1∨b2 < 128∨192≤b2 then none else if badR 2048 (((m - 224)*64+b1 - 128)*64+b2 - 128) then none else some 3)
 else if 240≤m∧m < 248 then (if n < 4∨b1 < 128∨192≤b1∨b2 < 128∨192≤b2∨b3 < 128∨192≤b3 then none else if badR 65536 ((((m - 240)*64+b1 - 128)*64+b2 - 128)*64+b3 - 128) then none else some 4)
 else none
theorem zua (l:List UInt8) (c:Nat):contR 1 l c=if l.length+1 < 2∨(l.getD 0 0).toNat < 128∨192≤(l.getD 0 0).toNat then none else some (c*64+(l.getD 0 0).toNat - 128):=by
 cases l with
 |nil=>simp [contR]
 |cons b l =>
  simp only[contR,ZE,List.getD_cons_zero]
  repeat' split
  all_goals first|rfl|(exfalso;omega)
theorem zub (l:List UInt8) (c:Nat):contR 2 l c=if l.length+1 < 3∨(l.getD 0 0).toNat < 128∨192≤(l.getD 0 0).toNat∨(l.getD 1 0).toNat < 128∨192≤(l.getD 1 0).toNat then none else some ((c*64+(l.getD 0 0).toNat - 128)*64+(l.getD 1 0).toNat - 128):=by
 match l with
 |[]=>simp [contR]
 |[b]=>simp [contR]
 |a :: b :: l =>
  simp only[contR,ZE,List.getD_cons_zero,List.getD_cons_succ]
  repeat' split
  all_goals first|rfl|(exfalso;omega)
theorem zuc (l:List UInt8) (c:Nat):contR 3 l c=if l.length+1 < 4∨(l.getD 0 0).toNat < 128∨192≤(l.getD 0 0).toNat∨(l.getD 1 0).toNat < 128∨192≤(l.getD 1 0).toNat∨(l.getD 2 0).toNat < 128∨192≤(l.getD 2 0).toNat then none
  else some (((c*64+(l.getD 0 0).toNat - 128)*64+(l.getD 1 0).toNat - 128)*64+(l.getD 2 0).toNat - 128):=by
 match l with
 |[]=>simp [contR]
 |[b]=>simp [contR]
 |[a,b]=>simp [contR]
 |a :: b :: e :: l =>
  simp only[contR,ZE,List.getD_cons_zero,List.getD_cons_succ]
  repeat' split
  all_goals first|rfl|(exfalso;omega)
theorem mif {C:Prop} [Decidable C] (x lo k:Nat):(match (if C then (none:Option Nat) else some x) with|none=>none|some c=>if badR lo c then none else some k)=if C then none else if badR lo x then none else some k:=by
 by_cases h:C<;>simp [h]
theorem zlf (b:UInt8) (l:List UInt8):stepR (b :: l)=stepN (b :: l).length b.toNat ((b :: l).getD 1 0).toNat ((b :: l).getD 2 0).toNat ((b :: l).getD 3 0).toNat:=by
 unfold stepR stepN leadR;simp only[ZE,List.getD_cons_succ];by_cases h1:192≤b.toNat∧b.toNat < 224
 ·simp only[if_pos h1];rw[zua];exact mif ..
 ·simp only[if_neg h1];by_cases h2:224≤b.toNat∧b.toNat < 240
  ·simp only[if_pos h2];rw[zub];exact mif ..
  ·simp only[if_neg h2];by_cases h3:240≤b.toNat∧b.toNat < 248
   ·simp only[if_pos h3];rw[zuc];exact mif ..
   ·simp only[if_neg h3]
theorem z9h (n m b1 b2 b3:Nat) (h:¬m < 128) (hb:m < 256) (h1:b1 < 256) (h2:b2 < 256) (h3:b3 < 256) :
  stepN n m b1 b2 b3=checkN n b1 b2 b3 (firstT m % 8) (accLo (firstT m / 16)) (accHi (firstT m / 16)):=by
 have key:∀(f:Nat),firstT m=f→stepN n m b1 b2 b3=checkN n b1 b2 b3 (f % 8) (accLo (f / 16)) (accHi (f / 16)) → 
   stepN n m b1 b2 b3=checkN n b1 b2 b3 (firstT m % 8) (accLo (firstT m / 16)) (accHi (firstT m / 16)):=by
  rintro f rfl h;exact h
 by_cases c0:m < 194
 ·refine key 241 (by simp [firstT,h,c0]) ?_;unfold stepN badR;simp only[accLo,accHi,checkN,Nat.reduceMod,Nat.reduceDiv,Za,reduceIte]
  repeat' split
  all_goals first|(exfalso;omega)|rfl
 by_cases c1:m < 224
 ·refine key 2 (by simp [firstT,h,c0,c1]) ?_;unfold stepN badR;simp only[accLo,accHi,checkN,Nat.reduceMod,Nat.reduceDiv,Za,reduceIte]
  repeat' split
  all_goals first|(exfalso;omega)|rfl
 by_cases c2:m=224
 ·subst c2;refine key 19 (by decide) ?_;unfold stepN badR;simp only[accLo,accHi,checkN,Nat.reduceMod,Nat.reduceDiv,Za,reduceIte]
  repeat' split
  all_goals first|(exfalso;omega)|rfl
 by_cases c3:m < 237
 ·refine key 3 (by simp [firstT,h,c0,c1,c2,c3]) ?_;unfold stepN badR;simp only[accLo,accHi,checkN,Nat.reduceMod,Nat.reduceDiv,Za,reduceIte]
  repeat' split
  all_goals first|(exfalso;omega)|rfl
 by_cases c4:m=237
 ·subst c4;refine key 35 (by decide) ?_;unfold stepN badR;simp only[accLo,accHi,checkN,Nat.reduceMod,Nat.reduceDiv,Za,reduceIte]
  repeat' split
  all_goals first|(exfalso;omega)|rfl
 by_cases c5:m < 240
 ·refine key 3 (by simp [firstT,h,c0,c1,c2,c3,c4,c5]) ?_;unfold stepN badR;simp only[accLo,accHi,checkN,Nat.reduceMod,Nat.reduceDiv,Za,reduceIte]
  repeat' split
  all_goals first|(exfalso;omega)|rfl
 by_cases c6:m=240
 ·subst c6;refine key 52 (by decide) ?_;unfold stepN badR;simp only[accLo,accHi,checkN,Nat.reduceMod,Nat.reduceDiv,Za,reduceIte]
  repeat' split
  all_goals first|(exfalso;omega)|rfl
 by_cases c7:m < 244
 ·refine key 4 (by simp [firstT,h,c0,c1,c2,c3,c4,c5,c6,c7]) ?_;unfold stepN badR;simp only[accLo,accHi,checkN,Nat.reduceMod,Nat.reduceDiv,Za,reduceIte]
  repeat' split
  all_goals first|(exfalso;omega)|rfl
 by_cases c8:m=244
 ·subst c8;refine key 68 (by decide) ?_;unfold stepN badR;simp only[accLo,accHi,checkN,Nat.reduceMod,Nat.reduceDiv,Za,reduceIte]
  repeat' split
  all_goals first|(exfalso;omega)|rfl
 refine key 241 (by simp [firstT,h,c0,c1,c2,c3,c4,c5,c6,c7,c8]) ?_;unfold stepN badR;simp only[accLo,accHi,checkN,Nat.reduceMod,Nat.reduceDiv,Za,reduceIte]
 repeat' split
 all_goals first|(exfalso;omega)|rfl
theorem zlg {l:List UInt8}{n:Nat}(h:stepR l=some n):1≤n:=by
 unfold stepR at h;split at h
 ·cases h
 ·split at h
  ·cases h
  ·split at h
   ·cases h
   ·split at h
    ·cases h
    ·cases h;omega
theorem z3x:∀(k:Nat) (l:List UInt8),l.length≤k→utfR k l=validD l
 |0,[],_=>rfl
 |0,_ :: _,h=>by simp at h
 |k+1,[],_=>rfl
 |k+1,b :: l,h=>by
  rw[utfR];split
  ·rename_i hb;rw[validD_cons b l hb];exact z3x k l (by simpa using h)
  ·rename_i hb;rw[validD_lead (b :: l) (by simp) (by simpa using Nat.not_lt.1 hb),zlf,z9h _ _ _ _ _ hb b.toNat_lt (UInt8.toNat_lt _) (UInt8.toNat_lt _) (UInt8.toNat_lt _)];have he:stepR (b :: l)=_:=zlf b l;rw[z9h _ _ _ _ _ hb b.toNat_lt (UInt8.toNat_lt _) (UInt8.toNat_lt _) (UInt8.toNat_lt _)] at he;simp only[List.getD_cons_zero];cases hc:checkN (b :: l).length ((b :: l).getD 1 0).toNat ((b :: l).getD 2 0).toNat ((b :: l).getD 3 0).toNat (firstT b.toNat % 8) (accLo (firstT b.toNat / 16)) (accHi (firstT b.toNat / 16)) with
   |none=>rfl
   |some n =>
    rw[hc] at he;have hp:=zlg he;refine z3x k _ ?_;rw[List.length_drop];simp at h ⊢;omega
end Go.Hb
end

section
namespace Go.Proofs.hq
open Go Go.RowKit Go.Hb
theorem zhp (s:ByteArray) (i:Nat) (h:i < s.size):s.data.toList.drop i=(s[i]'h) :: s.data.toList.drop (i+1):=by
 have h':i < s.data.toList.length:=by simpa using h
 rw[ZB h'];rfl
theorem z9i (s:ByteArray):s.data.toList.length=s.size:=by simp
theorem zrh {m n lo c:Nat}(h:leadR m=some (n,lo,c)):1≤n∧n≤3∧c < 32∧lo≤65536:=by
 unfold leadR at h;split at h
 ·cases h;omega
 ·split at h
  ·cases h;omega
  ·split at h
   ·cases h;omega
   ·cases h
variable {ok:Ok}
set_option maxRecDepth 10000
set_option maxHeartbeats 4000000 in
theorem zj8 (hk:∀args H,ok.K 88 args H=none) (hm:ok.testBit 88=true):TellsS ok 88 fun s=>utfR s.size s.data.toList:=by
 intro s H hs hw;have hs':s.size≤9223372036854775807:=hs;refine EvF.enter (hk _ _) Tryz.func88 hm rfl ?_;(repeat refine EvC.seq ?_);refine EvC.reg ?_;simp only[sA,initTm];(repeat refine EvC.seq ?_);refine EvC.reg ?_;simp only[sA];(repeat refine EvC.seq ?_);refine EvC.block (EvC.loop (fun k st=>∃tm i,st=⟨tm,[],H⟩∧k=s.size - i∧i≤s.size∧utfR (s.size - i) (s.data.toList.drop i)=utfR s.size s.data.toList∧tm.get 0=some (.string s)∧tm.get 3=some (.int .i64 (i:Nat))) ?_ s.size _ ?_)
 ·rintro k st ⟨tm,i,rfl,hk',hi,hc,g0,g3⟩;(repeat refine EvC.seq ?_);refine EvC.reg ?_;simp only[sB,Za,reduceCtorEq,g0,g3,z1n Tryz.underlying9];by_cases hlt:i < s.size
  ·refine EvC.condT (by simp only[sB,Za];exact congrArg _ (decide_eq_true (by omega))) (EvC.skip ?_);try simp only[z00]
   refine EvC.block ?_;have hat:=zhp s i hlt;have hbt:=(s[i]'hlt).toNat_lt;obtain⟨m,hm'⟩:∃m,m=(s[i]'hlt).toNat:=⟨_,rfl⟩
   rw[←hm'] at hbt;have hmB:byteAt s i=m:=by rw[z7k s i hlt,hm']
   have hf:s.size - i=(s.size - (i+1))+1:=by omega
   rw[hf,hat,utfR,←hm'] at hc;(repeat refine EvC.seq ?_);refine EvC.reg ?_;simp only[sB,Za,reduceCtorEq,g0,g3,z1b Tryz.underlying9 hlt,hmB];(repeat refine EvC.seq ?_);refine EvC.reg ?_;simp only[sA];(repeat refine EvC.seq ?_);refine EvC.reg ?_;simp only[sA];(repeat refine EvC.seq ?_);refine EvC.reg ?_;simp only[sA];(repeat refine EvC.seq ?_);refine EvC.reg ?_;simp only[sB,Za];refine EvC.frame (fun tm=>tm.get 0=some (.string s)∧tm.get 3=some (.int .i64 (i:Nat))∧tm.get 4=some (.int .u8 (m:Nat))∧tm.get 17=some (.bool (decide ((m:Int) < 128)))) ⟨by simp only[sG,reduceCtorEq];exact g0,by simp only[sG,Za];exact g3,by simp only[sG,Za],by simp only[sG,Za]⟩ ?_;clear g0 g3 tm;rintro tm ⟨g0,g3,g4,g17⟩;(repeat refine EvC.seq ?_);by_cases hasc:m < 128
   ·refine EvC.condT (by simp only[sA,g17,decide_eq_true (show (m:Int) < 128 by omega)]) ?_;(repeat refine EvC.seq ?_);refine EvC.reg ?_;simp (disch:=first|omega|rfl) only[sB,Za,g3,z0b];refine EvC.exit ?_;try simp only[sB,reduceCtorEq]
    refine⟨s.size - (i+1),by omega,_,i+1,rfl,rfl,by omega,by rw[←hc,if_pos hasc],by simp only[sG,reduceCtorEq];exact g0,by simp only[sG,Za];rfl⟩
   rw[if_neg hasc] at hc;refine EvC.condF (by simp only[sA,g17,decide_eq_false (show ¬(m:Int) < 128 by omega)]) ?_;refine EvC.join (fun st=>∃n lo c tm,leadR m=some (n,lo,c)∧st=⟨tm,[],H⟩∧tm.get 0=some (.string s)∧tm.get 3=some (.int .i64 (i:Nat))∧tm.get 5=some (.int .i64 (n:Nat))∧tm.get 6=some (.int .i64 (lo:Nat))∧tm.get 7=some (.int .i64 (c:Nat))) ?_ ?_
   ·have hcs:m < 192∨(192≤m∧m < 224)∨(224≤m∧m < 240)∨(240≤m∧m < 248)∨248≤m:=by omega
    rcases hcs with h|⟨h,h'⟩|⟨h,h'⟩|⟨h,h'⟩|h
    ·have q1:decide ((m:Int) ≥ 192)=false:=decide_eq_false (by omega);have q3:decide ((m:Int) ≥ 224)=false:=decide_eq_false (by omega);have q5:decide ((m:Int) ≥ 240)=false:=decide_eq_false (by omega);have hl:leadR m=none:=by unfold leadR;rw[if_neg (by omega),if_neg (by omega),if_neg (by omega)]
     (repeat refine EvC.seq ?_);refine EvC.reg ?_;simp only[sB,Za,g4,q1,Zd];refine EvC.condF (by simp only[sB,Za]) ?_;(repeat refine EvC.seq ?_);refine EvC.reg ?_;simp only[sB,Za,g4,q3,Zd];refine EvC.condF (by simp only[sB,Za]) ?_;(repeat refine EvC.seq ?_);refine EvC.reg ?_;simp only[sB,Za,g4,q5,Zd];refine EvC.condF (by simp only[sB,Za]) ?_;(repeat refine EvC.seq ?_);refine EvC.reg ?_;simp only[sA];refine EvC.ret ?_;try simp only[sA]
     exact z03 rfl (by simp only[sG,Za];rfl) ⟨by rw[←hc];simp only[stepR,←hm',hl],HX.refl hw⟩
    ·have q1:decide ((m:Int) ≥ 192)=true:=decide_eq_true (by omega);have q2:decide ((m:Int) < 224)=true:=decide_eq_true (by omega);have hl:leadR m=some (1,128,m - 192):=by unfold leadR;rw[if_pos (by omega)]
     (repeat refine EvC.seq ?_);refine EvC.reg ?_;simp only[sB,Za,g4,q1,q2];refine EvC.condT (by simp only[sB,Za]) ?_;(repeat refine EvC.seq ?_);refine EvC.reg ?_;simp only[sA];(repeat refine EvC.seq ?_);refine EvC.reg ?_;simp only[sA];refine EvC.reg ?_;simp (disch:=first|omega|rfl) only[sB,Za,g4,z2x Tryz.underlying5 Tryz.underlying3,z0b];exact⟨1,128,m - 192,_,hl,rfl,by simp only[sG,reduceCtorEq];exact g0,by simp only[sG,Za];exact g3,by simp only[sG,Za];rfl,by simp only[sG,Za];rfl,by simp only[sG,Za];exact congrArg (fun z=>some (Value.int .i64 z)) (by omega)⟩
    ·have q1:decide ((m:Int) ≥ 192)=true:=decide_eq_true (by omega);have q2:decide ((m:Int) < 224)=false:=decide_eq_false (by omega);have q3:decide ((m:Int) ≥ 224)=true:=decide_eq_true (by omega);have q4:decide ((m:Int) < 240)=true:=decide_eq_true (by omega);have hl:leadR m=some (2,2048,m - 224):=by unfold leadR;rw[if_neg (by omega),if_pos (by omega)]
     (repeat refine EvC.seq ?_);refine EvC.reg ?_;simp only[sB,Za,g4,q1,q2];refine EvC.condF (by simp only[sB,Za]) ?_;(repeat refine EvC.seq ?_);refine EvC.reg ?_;simp only[sB,Za,g4,q3,q4];refine EvC.condT (by simp only[sB,Za]) ?_;(repeat refine EvC.seq ?_);refine EvC.reg ?_;simp only[sA];(repeat refine EvC.seq ?_);refine EvC.reg ?_;simp only[sA];refine EvC.reg ?_;simp (disch:=first|omega|rfl) only[sB,Za,g4,z2x Tryz.underlying5 Tryz.underlying3,z0b];exact⟨2,2048,m - 224,_,hl,rfl,by simp only[sG,reduceCtorEq];exact g0,by simp only[sG,Za];exact g3,by simp only[sG,Za];rfl,by simp only[sG,Za];rfl,by simp only[sG,Za];exact congrArg (fun z=>some (Value.int .i64 z)) (by omega)⟩
    ·have q1:decide ((m:Int) ≥ 192)=true:=decide_eq_true (by omega);have q2:decide ((m:Int) < 224)=false:=decide_eq_false (by omega);have q3:decide ((m:Int) ≥ 224)=true:=decide_eq_true (by omega);have q4:decide ((m:Int) < 240)=false:=decide_eq_false (by omega);have q5:decide ((m:Int) ≥ 240)=true:=decide_eq_true (by omega);have q6:decide ((m:Int) < 248)=true:=decide_eq_true (by omega);have hl:leadR m=some (3,65536,m - 240):=by unfold leadR;rw[if_neg (by omega),if_neg (by omega),if_pos (by omega)]
     (repeat refine EvC.seq ?_);refine EvC.reg ?_;simp only[sB,Za,g4,q1,q2];refine EvC.condF (by simp only[sB,Za]) ?_;(repeat refine EvC.seq ?_);refine EvC.reg ?_;simp only[sB,Za,g4,q3,q4];refine EvC.condF (by simp only[sB,Za]) ?_;(repeat refine EvC.seq ?_);refine EvC.reg ?_;simp only[sB,Za,g4,q5,q6];refine EvC.condT (by simp only[sB,Za]) ?_;(repeat refine EvC.seq ?_);refine EvC.reg ?_;simp only[sA];(repeat refine EvC.seq ?_);refine EvC.reg ?_;simp only[sA];refine EvC.reg ?_;simp (disch:=first|omega|rfl) only[sB,Za,g4,z2x Tryz.underlying5 Tryz.underlying3,z0b];exact⟨3,65536,m - 240,_,hl,rfl,by simp only[sG,reduceCtorEq];exact g0,by simp only[sG,Za];exact g3,by simp only[sG,Za];rfl,by simp only[sG,Za];rfl,by simp only[sG,Za];exact congrArg (fun z=>some (Value.int .i64 z)) (by omega)⟩
    ·have q1:decide ((m:Int) ≥ 192)=true:=decide_eq_true (by omega);have q2:decide ((m:Int) < 224)=false:=decide_eq_false (by omega);have q3:decide ((m:Int) ≥ 224)=true:=decide_eq_true (by omega);have q4:decide ((m:Int) < 240)=false:=decide_eq_false (by omega);have q5:decide ((m:Int) ≥ 240)=true:=decide_eq_true (by omega);have q6:decide ((m:Int) < 248)=false:=decide_eq_false (by omega);have hl:leadR m=none:=by unfold leadR;rw[if_neg (by omega),if_neg (by omega),if_neg (by omega)]
     (repeat refine EvC.seq ?_);refine EvC.reg ?_;simp only[sB,Za,g4,q1,q2];refine EvC.condF (by simp only[sB,Za]) ?_;(repeat refine EvC.seq ?_);refine EvC.reg ?_;simp only[sB,Za,g4,q3,q4];refine EvC.condF (by simp only[sB,Za]) ?_;(repeat refine EvC.seq ?_);refine EvC.reg ?_;simp only[sB,Za,g4,q5,q6];refine EvC.condF (by simp only[sB,Za]) ?_;(repeat refine EvC.seq ?_);refine EvC.reg ?_;simp only[sA];refine EvC.ret ?_;try simp only[sA]
     exact z03 rfl (by simp only[sG,Za];rfl) ⟨by rw[←hc];simp only[stepR,←hm',hl],HX.refl hw⟩
   rintro st ⟨n,lo,c,tm1,hlead,rfl,f0,f3,f5,f6,f7⟩;clear g0 g3 g4 g17 tm;try simp only[z00]
   have hle:=zrh hlead;(repeat refine EvC.seq ?_);refine EvC.reg ?_;simp only[sA];(repeat refine EvC.seq ?_);refine EvC.join (fun st=>∃c' tm,contR n (s.data.toList.drop (i+1)) c=some c'∧c' < 8388608∧i+1+n≤s.size∧st=⟨tm,[],H⟩∧tm.get 0=some (.string s)∧tm.get 3=some (.int .i64 (i:Nat))∧tm.get 5=some (.int .i64 (n:Nat))∧tm.get 6=some (.int .i64 (lo:Nat))∧tm.get 7=some (.int .i64 (c':Nat))) ?_ ?_
   ·refine EvC.block (EvC.loop (fun k st=>∃tm j c',st=⟨tm,[],H⟩∧k=n - j∧j≤n∧((j=0∧c' < 32)∨(j=1∧c' < 2048)∨(j=2∧c' < 131072)∨(j=3∧c' < 8388608))∧i+1+j≤s.size∧contR (n - j) (s.data.toList.drop (i+1+j)) c'=contR n (s.data.toList.drop (i+1)) c∧tm.get 0=some (.string s)∧tm.get 3=some (.int .i64 (i:Nat))∧tm.get 5=some (.int .i64 (n:Nat))∧tm.get 6=some (.int .i64 (lo:Nat))∧tm.get 7=some (.int .i64 (c':Nat))∧tm.get 8=some (.int .i64 ((j+1:Nat):Int))) ?_ n _ ?_)
    ·rintro k st ⟨tm,j,c',rfl,hkj,hj,hcl,hij,hcc,e0,e3,e5,e6,e7,e8⟩;have hcb:c' < 8388608:=by omega
     (repeat refine EvC.seq ?_);refine EvC.reg ?_;simp only[sB,Za,e5,e8];(repeat refine EvC.seq ?_);by_cases hjn:j+1≤n
     ·refine EvC.condT (by simp only[sB,Za];exact congrArg _ (decide_eq_true (by omega))) (EvC.skip ?_);try simp only[z00]
      refine EvC.seq ?_;have hw1:IntKind.i64.wrap ((i:Int)+((j+1:Nat):Int))=((i+1+j:Nat):Int):=by rw[z0b (by omega) (by omega)];omega
      have hnj:n - j=(n - (j+1))+1:=by omega
      by_cases hend:i+1+j < s.size
      ·have hat2:=zhp s (i+1+j) hend;have hbt2:=(s[i+1+j]'hend).toNat_lt;obtain⟨b,hb'⟩:∃b,b=(s[i+1+j]'hend).toNat:=⟨_,rfl⟩
       rw[←hb'] at hbt2;have hbB:byteAt s (i+1+j)=b:=by rw[z7k s _ hend,hb']
       rw[hnj,hat2,contR,←hb'] at hcc;have q1:decide (((i+1+j:Nat):Int) ≥ (s.size:Int))=false:=decide_eq_false (by omega);refine EvC.block ?_;by_cases hbad:b < 128∨192≤b
       ·rw[if_pos hbad] at hcc;have hst:stepR (s[i] :: s.data.toList.drop (i+1))=none:=by simp only[stepR,←hm',hlead,←hcc]
        have fin:utfR s.size s.data.toList=false:=by rw[←hc,hst]
        by_cases h2:b < 128
        ·have q2:decide ((b:Int) < 128)=true:=decide_eq_true (by omega);(repeat refine EvC.seq ?_);refine EvC.reg ?_;simp only[sB,Za,reduceCtorEq,e0,e3,e8,hw1,q1,q2,z1n Tryz.underlying9,z1b Tryz.underlying9 hend,hbB,Zd];refine EvC.condT (by simp only[sB,Za]) ?_;(repeat refine EvC.seq ?_);refine EvC.reg ?_;simp only[sA];refine EvC.ret ?_;try simp only[sA]
         exact z03 rfl (by simp only[sG,Za];rfl) ⟨by rw[fin],HX.refl hw⟩
        ·have q2:decide ((b:Int) < 128)=false:=decide_eq_false (by omega);have q3:decide ((b:Int) ≥ 192)=true:=decide_eq_true (by omega);(repeat refine EvC.seq ?_);refine EvC.reg ?_;simp only[sB,Za,reduceCtorEq,e0,e3,e8,hw1,q1,q2,q3,z1n Tryz.underlying9,z1b Tryz.underlying9 hend,hbB,Zd];refine EvC.condT (by simp only[sB,Za]) ?_;(repeat refine EvC.seq ?_);refine EvC.reg ?_;simp only[sA];refine EvC.ret ?_;try simp only[sA]
         exact z03 rfl (by simp only[sG,Za];rfl) ⟨by rw[fin],HX.refl hw⟩
       ·rw[if_neg hbad] at hcc;have q2:decide ((b:Int) < 128)=false:=decide_eq_false (by omega);have q3:decide ((b:Int) ≥ 192)=false:=decide_eq_false (by omega);(repeat refine EvC.seq ?_);refine EvC.reg ?_;simp only[sB,Za,reduceCtorEq,e0,e3,e8,hw1,q1,q2,q3,z1n Tryz.underlying9,z1b Tryz.underlying9 hend,hbB,Zd];refine EvC.condF (by simp only[sB,Za]) (EvC.skip ?_);try simp only[z00]
        refine EvC.reg ?_;simp (disch:=first|omega|rfl) only[sB,Za,reduceCtorEq,e0,e3,e7,e8,hw1,z1b Tryz.underlying9 hend,hbB,z2x Tryz.underlying5 Tryz.underlying3,z0b];refine EvC.reg ?_;simp (disch:=first|omega|rfl) only[sB,Za,e8,z0b];exact⟨n - (j+1),by omega,_,j+1,c'*64+b - 128,rfl,rfl,hjn,by omega,by omega,hcc,by simp only[sG,reduceCtorEq];exact e0,by simp only[sG,Za];exact e3,by simp only[sG,Za];exact e5,by simp only[sG,Za];exact e6,by simp only[sG,Za];exact congrArg (fun z=>some (Value.int .i64 z)) (by omega),by simp only[sG,Za];rfl⟩
      ·have q1:decide (((i+1+j:Nat):Int) ≥ (s.size:Int))=true:=decide_eq_true (by omega);have hnil:s.data.toList.drop (i+1+j)=[]:=ZM (by rw[z9i];omega);rw[hnj,hnil,contR] at hcc;have hst:stepR (s[i] :: s.data.toList.drop (i+1))=none:=by simp only[stepR,←hm',hlead,←hcc]
       have fin:utfR s.size s.data.toList=false:=by rw[←hc,hst]
       refine EvC.block ?_;(repeat refine EvC.seq ?_);refine EvC.reg ?_;simp only[sB,Za,reduceCtorEq,e0,e3,e8,hw1,q1,z1n Tryz.underlying9];refine EvC.condT (by simp only[sB,Za]) ?_;(repeat refine EvC.seq ?_);refine EvC.reg ?_;simp only[sA];refine EvC.ret ?_;try simp only[sA]
       exact z03 rfl (by simp only[sG,Za];rfl) ⟨by rw[fin],HX.refl hw⟩
     ·refine EvC.condF (by simp only[sB,Za];exact congrArg _ (decide_eq_false (by omega))) (EvC.exit ?_);try simp only[sB,Za,reduceCtorEq]
      have hjn':n - j=0:=by omega
      have hjn2:j=n:=by omega
      rw[hjn',contR] at hcc;exact⟨c',_,hcc.symm,hcb,by omega,rfl,by simp only[sG,reduceCtorEq];exact e0,by simp only[sG,Za];exact e3,by simp only[sG,Za];exact e5,by simp only[sG,Za];exact e6,by simp only[sG,Za];exact e7⟩
    ·exact⟨_,0,c,rfl,by omega,by omega,by omega,by omega,by simp only[Nat.sub_zero,Nat.add_zero],by simp only[sG,reduceCtorEq];exact f0,by simp only[sG,Za];exact f3,by simp only[sG,Za];exact f5,by simp only[sG,Za];exact f6,by simp only[sG,Za];exact f7,by simp only[sB];rfl⟩
   rintro st ⟨c',tm,hcont,hcb,hin,rfl,e0,e3,e5,e6,e7⟩;clear f0 f3 f5 f6 f7;try simp only[z00]
   by_cases hbad:badR lo c'
   ·have hst:stepR (s[i] :: s.data.toList.drop (i+1))=none:=by simp only[stepR,←hm',hlead,hcont,if_pos hbad]
    have fin:utfR s.size s.data.toList=false:=by rw[←hc,hst]
    rcases hbad with h1|h1
    ·have q1:decide ((c':Int) < (lo:Int))=true:=decide_eq_true (by omega);(repeat refine EvC.seq ?_);refine EvC.reg ?_;simp only[sB,Za,e6,e7,q1];refine EvC.condT (by simp only[sB,Za]) ?_;(repeat refine EvC.seq ?_);refine EvC.reg ?_;simp only[sA];refine EvC.ret ?_;try simp only[sA]
     exact z03 rfl (by simp only[sG,Za];rfl) ⟨by rw[fin],HX.refl hw⟩
    ·by_cases h0:c' < lo
     ·have q1:decide ((c':Int) < (lo:Int))=true:=decide_eq_true (by omega);(repeat refine EvC.seq ?_);refine EvC.reg ?_;simp only[sB,Za,e6,e7,q1];refine EvC.condT (by simp only[sB,Za]) ?_;(repeat refine EvC.seq ?_);refine EvC.reg ?_;simp only[sA];refine EvC.ret ?_;try simp only[sA]
      exact z03 rfl (by simp only[sG,Za];rfl) ⟨by rw[fin],HX.refl hw⟩
     have q1:decide ((c':Int) < (lo:Int))=false:=decide_eq_false (by omega);by_cases h2:1114111 < c'
     ·have q2:decide ((c':Int) > 1114111)=true:=decide_eq_true (by omega);(repeat refine EvC.seq ?_);refine EvC.reg ?_;simp only[sB,Za,e6,e7,q1,q2,Zd];refine EvC.condT (by simp only[sB,Za]) ?_;(repeat refine EvC.seq ?_);refine EvC.reg ?_;simp only[sA];refine EvC.ret ?_;try simp only[sA]
      exact z03 rfl (by simp only[sG,Za];rfl) ⟨by rw[fin],HX.refl hw⟩
     ·have q2:decide ((c':Int) > 1114111)=false:=decide_eq_false (by omega);have q3:decide ((c':Int) ≥ 55296)=true:=decide_eq_true (by omega);have q4:decide ((c':Int) < 57344)=true:=decide_eq_true (by omega);(repeat refine EvC.seq ?_);refine EvC.reg ?_;simp only[sB,Za,e6,e7,q1,q2,q3,q4,Zd];refine EvC.condT (by simp only[sB,Za]) ?_;(repeat refine EvC.seq ?_);refine EvC.reg ?_;simp only[sA];refine EvC.ret ?_;try simp only[sA]
      exact z03 rfl (by simp only[sG,Za];rfl) ⟨by rw[fin],HX.refl hw⟩
   ·have hst:stepR (s[i] :: s.data.toList.drop (i+1))=some (n+1):=by simp only[stepR,←hm',hlead,hcont,if_neg hbad]
    have q1:decide ((c':Int) < (lo:Int))=false:=decide_eq_false (by omega);have q2:decide ((c':Int) > 1114111)=false:=decide_eq_false (by omega);have nxt:utfR (s.size - (i+1+n)) (s.data.toList.drop (i+1+n))=utfR s.size s.data.toList:=by
     rw[←hc,hst];simp only[List.drop_succ_cons,List.drop_drop];rw[z3x _ _ (by rw[List.length_drop,z9i];omega),z3x _ _ (by rw[List.length_drop,z9i];omega)]
    by_cases h3:55296≤c'
    ·have q3:decide ((c':Int) ≥ 55296)=true:=decide_eq_true (by omega);have q4:decide ((c':Int) < 57344)=false:=decide_eq_false (by omega);(repeat refine EvC.seq ?_);refine EvC.reg ?_;simp only[sB,Za,e6,e7,q1,q2,q3,q4,Zd];refine EvC.condF (by simp only[sB,Za]) (EvC.skip ?_);try simp only[z00]
     refine EvC.reg ?_;simp (disch:=first|omega|rfl) only[sB,Za,e3,e5,z0b];exact⟨s.size - (i+1+n),by omega,_,i+1+n,rfl,rfl,by omega,nxt,by simp only[sG,reduceCtorEq];exact e0,by simp only[sG,Za];exact congrArg (fun z=>some (Value.int .i64 z)) (by omega)⟩
    ·have q3:decide ((c':Int) ≥ 55296)=false:=decide_eq_false (by omega);(repeat refine EvC.seq ?_);refine EvC.reg ?_;simp only[sB,Za,e6,e7,q1,q2,q3,Zd];refine EvC.condF (by simp only[sB,Za]) (EvC.skip ?_);try simp only[z00]
     refine EvC.reg ?_;simp (disch:=first|omega|rfl) only[sB,Za,e3,e5,z0b];exact⟨s.size - (i+1+n),by omega,_,i+1+n,rfl,rfl,by omega,nxt,by simp only[sG,reduceCtorEq];exact e0,by simp only[sG,Za];exact congrArg (fun z=>some (Value.int .i64 z)) (by omega)⟩
  ·refine EvC.condF (by simp only[sB,Za];exact congrArg _ (decide_eq_false (by omega))) (EvC.exit ?_);try simp only[sB]
   (repeat refine EvC.seq ?_);refine EvC.reg ?_;simp only[sA];refine EvC.ret (z03 rfl (by simp only[sG,Za];rfl) ⟨?_,HX.refl hw⟩);rw[←hc,show s.size - i=0 by omega,utfR]
 ·exact⟨_,0,rfl,by omega,by omega,rfl,by simp only[sG,reduceCtorEq],by simp only[sG,Za,reduceCtorEq];rfl⟩
end Go.Proofs.hq
end

section
namespace Go.Proofs.hq
open Go Go.RowKit Go.Hb
variable {ok:Ok}
set_option maxRecDepth 10000
attribute [local irreducible] LX LG EL STG SOP SGO SGD SAL SRD SEF SEG SLK SCK ES
def canonS (s:ByteArray):Bool:=match parseD (bl s) with|none=>false|some n=>textD (negS (bl s)) n == bl s
theorem zea {l:List Nat}{n:Nat}(h:parseD l=some n):n < big:=by
 unfold parseD at h;split at h
 ·cases h
 ·split at h
  ·cases h
  ·exact zl5 _ 0 n (by rw[z82];exact Nat.two_pow_pos _) h
theorem toNat_inj:∀{a b:List UInt8},a.map UInt8.toNat=b.map UInt8.toNat→a=b
 |[],[],_=>rfl
 |x :: a,y :: b,h=>by
  simp only[ZC,List.cons.injEq] at h;rw[UInt8.toNat_inj.1 h.1,toNat_inj h.2]
 |[],_ :: _,h=>by simp at h
 |_ :: _,[],h=>by simp at h
theorem zhq (t s:ByteArray):(t.data.toList == s.data.toList)=(bl t == bl s):=by
 by_cases h:t.data.toList=s.data.toList
 ·rw[beq_iff_eq.2 h,beq_iff_eq.2 (show bl t=bl s by unfold bl;rw[h])]
 ·have h2:bl t≠bl s:=fun h3=>h (toNat_inj h3)
  rw[beq_eq_false_iff_ne.2 h,beq_eq_false_iff_ne.2 h2]
theorem zj9:TellsS okT 95 canonS:=by
 intro s H hs hw;refine EvF.enter rfl Tryz.func95 (by decide) rfl ?_
 repeat' (first|refine EvC.seq ?_|(refine EvC.reg ?_;simp only[sB,initTm,Za,reduceCtorEq,ztv]))
 refine(znw hs hw).mono ?_;rintro v H1 ⟨hP,hx1⟩;rcases hP with ⟨hnone,e,he,rfl⟩|⟨n,L,a,c,hsome,rfl,hr,hLb,hval,hlast,hlen⟩
 ·have hx2:=(hx1.new (some (.row [.bool false,.slice none 0 0] 140))).put (i:=H1.next) hx1.next (Zf _) (some (.row [.bool false,.slice none 0 0] 140))
  repeat' (first|refine EvC.seq ?_|(refine EvC.ret ?_;try simp only[z04,z02])|(refine EvC.reg ?_;simp (disch:=first|omega|rfl) only[sB,Za,reduceCtorEq,z1j])|(refine z0i ?_;simp (disch:=first|omega|rfl) only[sB,dAlloc,Za,Zb,one,reduceCtorEq,zkv,za8])|(refine EvC.condT ?_ ?_;simp only[sB,Za,reduceCtorEq];refine z07 ?_))
  exact z03 rfl (by simp only[sB,Za,reduceCtorEq];rfl) ⟨by unfold canonS;rw[hnone],hx2⟩
 ·have hn:n < big:=zea hsome;have hx2:=((HX.refl hx1.wf).new (some (.row [.bool false,.slice none 0 0] 140))).put (i:=H1.next) (Zg _) (Zf _) (some (.row [.bool (negS (bl s) && decide (0 < L.length)),.slice a L.length c] 140))
  repeat' (first|refine EvC.seq ?_|(refine EvC.skip ?_;try simp only[z00])|(refine EvC.reg ?_;simp (disch:=first|omega|rfl) only[sB,Za,Zb,reduceCtorEq,cutC,za9,ztw,z0z])|(refine z0i ?_;simp (disch:=first|omega|rfl) only[sB,dAlloc,Za,Zb,one,reduceCtorEq,zkv,za8])|(refine EvC.condF ?_ ?_;simp only[sB,Za,reduceCtorEq];refine z07 ?_))
  refine(zr1 hx2.wf (hr.keep hx2 hx1.wf) hLb hlen hval hn).mono ?_;rintro v H2 ⟨⟨t,rfl,ht⟩,hx3⟩;have htx:textD (negS (bl s) && decide (0 < L.length)) n=textD (negS (bl s)) n:=by
   by_cases h0:0 < L.length
   ·simp [h0]
   ·have:L=[]:=List.length_eq_zero_iff.1 (by omega);subst this;have:n=0:=by rw[←hval];rfl
    subst this;rfl
  rw[htx] at ht;have heq:(t.data.toList == s.data.toList)=canonS s:=by
   rw[zhq,ht];unfold canonS;rw[hsome]
  repeat' (first|refine EvC.seq ?_|(refine EvC.ret ?_)|(refine EvC.reg ?_;simp (disch:=first|omega|rfl) only[sB,Za,reduceCtorEq,z0k,z13,heq])|(refine z0i ?_;simp only[sB,Za,reduceCtorEq]))
  exact z03 rfl (by simp only[sG,Za,reduceCtorEq]) ⟨rfl,(hx1.trans hx2).trans hx3⟩
theorem zeb:TellsS okT 89 canonS:=by
 intro s H hs hw;refine EvF.enter rfl Tryz.func89 (by decide) rfl ?_
 repeat' (first|refine EvC.seq ?_|(refine EvC.reg ?_;simp only[sB,initTm,Za,reduceCtorEq,cl99]))
 refine(zl9 hs hw).mono ?_;rintro v H1 ⟨hP,hx1⟩;rcases hP with ⟨hnone,e,he,rfl⟩|⟨n,L,a,c,hsome,rfl,hr,hLb,hval,hlast,hlen⟩
 ·have hx2:=(hx1.new (some (.row [.bool false,.slice none 0 0] 128))).put (i:=H1.next) hx1.next (Zf _) (some (.row [.bool false,.slice none 0 0] 128))
  repeat' (first|refine EvC.seq ?_|(refine EvC.ret ?_;try simp only[z04,z02])|(refine EvC.reg ?_;simp (disch:=first|omega|rfl) only[sB,Za,reduceCtorEq,z1j])|(refine z0i ?_;simp (disch:=first|omega|rfl) only[sB,dAlloc,Za,Zb,one,reduceCtorEq,znp,zc7])|(refine EvC.condT ?_ ?_;simp only[sB,Za,reduceCtorEq];refine z07 ?_))
  exact z03 rfl (by simp only[sB,Za,reduceCtorEq];rfl) ⟨by unfold canonS;rw[hnone],hx2⟩
 ·have hn:n < big:=zea hsome;have hx2:=((HX.refl hx1.wf).new (some (.row [.bool false,.slice none 0 0] 128))).put (i:=H1.next) (Zg _) (Zf _) (some (.row [.bool (negS (bl s) && decide (0 < L.length)),.slice a L.length c] 128))
  repeat' (first|refine EvC.seq ?_|(refine EvC.skip ?_;try simp only[z00])|(refine EvC.reg ?_;simp (disch:=first|omega|rfl) only[sB,Za,Zb,reduceCtorEq,cutC,zdy,ztu,z0z])|(refine z0i ?_;simp (disch:=first|omega|rfl) only[sB,dAlloc,Za,Zb,one,reduceCtorEq,znp,zc7])|(refine EvC.condF ?_ ?_;simp only[sB,Za,reduceCtorEq];refine z07 ?_))
  refine(znz hx2.wf (hr.keep hx2 hx1.wf) hLb hlen hlast hval hn).mono ?_;rintro v H2 ⟨⟨t,rfl,ht⟩,hx3⟩;have htx:textD (negS (bl s) && decide (0 < L.length)) n=textD (negS (bl s)) n:=by
   by_cases h0:0 < L.length
   ·simp [h0]
   ·have:L=[]:=List.length_eq_zero_iff.1 (by omega);subst this;have:n=0:=by rw[←hval];rfl
    subst this;rfl
  rw[htx] at ht;have heq:(t.data.toList == s.data.toList)=canonS s:=by
   rw[zhq,ht];unfold canonS;rw[hsome]
  repeat' (first|(refine EvC.ret ?_)|(refine z0i ?_;simp only[sB,Za,reduceCtorEq,z13,heq]))
  exact z03 rfl (by simp only[sG,Za,reduceCtorEq]) ⟨rfl,(hx1.trans hx2).trans hx3⟩
def utfS (s:ByteArray):Bool:=Lib.validD s.data.toList
def fltS (n:Int):Bool:=!(fnB n || fiB n || n == 9223372036854775808)
def nodeS:Tm→Int:=nodeE utfS canonS fltS
theorem zg0:TellsS okT 94 utfS:=fun _ _ hs hw=>znm (by decide) hw hs
theorem zlh:TellsS okT 88 utfS:=fun s H hs hw=>(zj8 (fun _ _=>rfl) (by decide) s H hs hw).mono fun v H' h=>by
 have h':v=.bool (utfR s.size s.data.toList)∧HX H H':=h;rw[z3x _ _ (by simp)] at h';exact h'
theorem zec:TellsU okT 90 fltS:=fun n H hn hw=>(zle (fun _ _=>rfl) (by decide) n H hn hw).mono fun v H' h=>by
 rw[zfz n hn] at h;exact h
theorem zli:TellsN okT 96 97 98 fnB fiB:=fun n H hn hw=>⟨zo7 (fun _ _=>rfl) (by decide) n H hw,zo8 (fun f _ _ h=>by rcases h with rfl|rfl<;>rfl) (by decide) (by decide) n H hw⟩
theorem zja:TellsT okT 82 nodeS:=fun t cs H r hw=>zre (fun _ _=>rfl) (by decide) (fun _ _=>rfl) (by decide) zg0 zj9 zli r hw
theorem zlj:TellsT okT 76 nodeS:=fun t cs H r hw=>zsx (fun _ _=>rfl) (by decide) zlh zeb zec r hw
theorem z1h:TellsT okT 35 fun t=>cnt t 0:=fun t cs H r hw=>zo1 (fun f _ _ h=>by rcases h with rfl|rfl<;>rfl) (by decide) (by decide) r hw
theorem z1u:TellsT okT 46 fun t=>cnt t 0:=fun t cs H r hw=>ze4 (fun f _ _ h=>by rcases h with rfl|rfl<;>rfl) (by decide) (by decide) r hw
def checkS:Tm→Int:=checkE nodeS
theorem z2s:TellsT okT 29 checkS:=zo4 z1h (ze8 zja (fun _ _=>rfl) (by decide)) (fun _ _=>rfl) (by decide)
theorem z4x:TellsT okT 14 checkS:=ze9 z1u (zj7 zlj (fun _ _=>rfl) (by decide)) (fun _ _=>rfl) (by decide)
end Go.Proofs.hq
end

section
namespace Go.Proofs.hq
open Go Go.RowKit Go.Hb
def orZ (a b:Int):Int:=if a=0 then b else a
theorem zg1 (x y:Int):orZ (-x) (-y)=-(orZ x y):=by
 unfold orZ;by_cases h:x=0
 ·subst h;simp
 ·rw[if_neg h,if_neg (by omega)]
theorem z8g {x y:Int}:orZ x y=0↔x=0∧y=0:=by
 unfold orZ;by_cases h:x=0
 ·rw[if_pos h];simp [h]
 ·rw[if_neg h];simp [h]
theorem z5g {a b:ByteArray}(h:a.toList=b.toList):a=b:=by
 rw[z1t,z1t] at h;obtain⟨⟨a⟩⟩:=a;obtain⟨⟨b⟩⟩:=b;simp at h;rw[h]
def Fine (t:Tm):Prop:=allE nodeS t=0
theorem zhr {E:Tm→Int}:∀{l:List Tm},allL E l=0→∀u∈l,allE E u=0
 |[],_,u,hu=>by simp at hu
 |t :: l,h,u,hu=>by
  rw[allL] at h;split at h
  ·rename_i h0;rcases List.mem_cons.1 hu with rfl|hu
   ·exact h0
   ·exact zhr h u hu
  ·rename_i h0;exact absurd h h0
theorem Fine.node {t:Tm}(h:Fine t):nodeS t=0:=by
 unfold Fine at h;rw[z4w] at h;split at h
 ·assumption
 ·rename_i h0;exact absurd h h0
theorem Fine.args {t:Tm}(h:Fine t):∀u∈t.args,Fine u:=by
 have h1:=h.node;unfold Fine at h;rw[z4w,if_pos h1] at h;exact zhr h
theorem z22 {t:Tm}(h:nodeS t=0):1≤t.kind∧t.kind≤5∧blankB t=true∧0≤t.var∧(t.kind=5→1≤t.args.length∧t.args.length≤64)∧(t.kind=3→canonS t.num=true)∧(t.kind=4→fltS t.bits=true)∧utfS t.name=true∧t.name.size≤1000:=by
 unfold nodeS nodeE at h;split at h
 ·omega
 split at h
 ·omega
 split at h
 ·omega
 split at h
 ·omega
 split at h
 ·omega
 split at h
 ·omega
 split at h
 ·omega
 split at h
 ·omega
 rename_i h1 h2 h3 h4 h5 h6 h7 h8;refine⟨by omega,by omega,by simpa using h2,by omega,fun h=>?_,fun h=>?_,fun h=>?_,by simpa using h5,by omega⟩
 ·have:=fun q=>h4 ⟨h,q⟩;omega
 ·cases hh:canonS t.num with
  |true=>rfl
  |false=>exact absurd ⟨h,hh⟩ h7
 ·cases hh:fltS t.bits with
  |true=>rfl
  |false=>exact absurd ⟨h,hh⟩ h8
theorem zpx {s:ByteArray}(h:isE s=true):s=Ze:=by
 unfold isE at h;have h1:s.toList=[]:=by simpa using h
 apply z5g;rw[h1];exact z19.symm
theorem z0d {t u:Tm}(h:u∈t.args):SizeOf.sizeOf u < SizeOf.sizeOf t:=by
 obtain⟨k,s,w,b,v,l⟩:=t;exact zhl h
theorem z1v {t:Tm}(h:blankB t=true):(t.kind≠2→t.kind≠5→t.name=Ze)∧(t.kind≠3→t.num=Ze)∧(t.kind≠4→t.bits=0)∧(t.kind≠1→t.var=0)∧(t.kind≠5→t.args=[]):=by
 unfold blankB at h;simp only[Zm,Bool.or_eq_true,beq_iff_eq] at h;obtain⟨⟨⟨⟨h1,h2⟩,h3⟩,h4⟩,h5⟩:=h;refine⟨fun a b=>?_,fun a=>?_,fun a=>?_,fun a=>?_,fun a=>?_⟩
 ·rcases h1 with (h|h)|h
  ·exact absurd h a
  ·exact absurd h b
  ·exact zpx h
 ·rcases h2 with h|h
  ·exact absurd h a
  ·exact zpx h
 ·rcases h3 with h|h
  ·exact absurd h a
  ·exact h
 ·rcases h4 with h|h
  ·exact absurd h a
  ·exact h
 ·rcases h5 with h|h
  ·exact absurd h a
  ·exact List.length_eq_zero_iff.1 (by omega)
theorem zpy {t t':Tm}(h1:t.kind=t'.kind) (h2:t.name=t'.name) (h3:t.num=t'.num) (h4:t.bits=t'.bits) (h5:t.var=t'.var) (h6:t.args=t'.args):t=t':=by
 obtain⟨k,s,u,b,v,l⟩:=t;obtain⟨k',s',u',b',v',l'⟩:=t';simp only[Tm.kind,Tm.name,Tm.num,Tm.bits,Tm.var,Tm.args] at *;subst h1 h2 h3 h4 h5 h6;rfl
theorem z0e {t:Tm}:checkS t=0↔cnt t 0≤4000∧Fine t:=by
 unfold checkS checkE Fine;by_cases h:4000 < cnt t 0
 ·rw[if_pos h];constructor
  ·intro h;omega
  ·intro h;omega
 ·rw[if_neg h];constructor
  ·intro h';exact⟨by omega,h'⟩
  ·intro h';exact h'.2
end Go.Proofs.hq
end

section
namespace Go.Hb
open Go Go.RowKit
theorem zed {cs vs:List Value}{o k:Nat}(h:o+vs.length≤cs.length):(splice cs o vs)[k]?=if o≤k∧k < o+vs.length then vs[k - o]? else cs[k]?:=by
 rw[z1q _ _ _ (by omega)];simp only[List.getElem?_append,ZF,List.getElem?_drop,Zl,Zw]
 grind
theorem z2t {cs vs:List Value}{o s:Nat}(h:o+s≤cs.length) (hv:vs.length=s):((splice cs o vs).drop o).take s=vs:=by
 apply List.ext_getElem?;intro k;rw[ZF,List.getElem?_drop,zed (by omega)];by_cases hk:k < s
 ·rw[if_pos hk,if_pos (by omega),show o+k - o=k by omega]
 ·rw[if_neg hk,Zy (by omega)]
theorem z2c {cs vs:List Value}{o j s:Nat}(h:o+s≤cs.length) (hv:vs.length=s) (hd:j+s≤o∨o+s≤j):((splice cs o vs).drop j).take s=(cs.drop j).take s:=by
 apply List.ext_getElem?;intro k;rw[ZF,List.getElem?_drop,zed (by omega),ZF,List.getElem?_drop];by_cases hk:k < s
 ·rw[if_pos hk,if_neg (by omega),if_pos hk]
 ·rw[if_neg hk,if_neg hk]
theorem mul6 {i j:Nat}(h:i < j):i*6+6≤j*6:=by omega
theorem HX.pt {A H:Heap}(h:HX A H) {i:Nat}{B0:Blk}(hi:A.next≤i) (hg:H.get i=some B0) (B:Option Blk):HX A (H.put i B):=h.put hi (h.wf i _ hg) B
theorem z0l {H:Heap}(hw:H.wf) (A B:Blk):∃H2,(H.new (some A)).put H.next (some B)=H2∧HX H H2∧H2.get H.next=some B∧H2.next=H.next+1∧H2.wf:=by
 have hx:=((HX.refl hw).new (some A)).put (i:=H.next) (Zg _) (Zf _) (some B);exact⟨_,rfl,hx,by rw[get_put,if_pos rfl],rfl,hx.wf⟩
end Go.Hb
namespace Go.Proofs.hq
open Go Go.RowKit Go.Hb
variable {ok:Ok}
set_option maxRecDepth 10000
attribute [local irreducible] LX LG EL STG SOP SGO SGD SAL SRD SEF SEG SLK SCK ES
theorem z4g {t:Tm}(h:Fine t):t.args.length≤64:=by
 have k:=z22 h.node;by_cases h5:t.kind=5
 ·exact(k.2.2.2.2.1 h5).2
 ·rw[(z1v k.2.2.1).2.2.2.2 h5];exact Zs _
abbrev zero6:List Value:=[.int .i64 0,.string Ze,.string Ze,.int .u64 0,.int .i64 0,.slice none 0 0]
set_option maxHeartbeats 4000000 in
theorem zlk {m:Nat}:∀{t:Tm}{cs:List Value}{H:Heap},SizeOf.sizeOf t < m→RepT H t cs→Fine t→H.wf →
  EvF Tryz.prog okT 85 [.agg ⟨cs⟩] H fun v H'=>∃cs',v=.agg ⟨cs'⟩∧RepF H' 25 (Rg H.next H'.next) t cs'∧HX H H':=by
 induction m with
 |zero=>intro t cs H h;omega
 |succ m ih =>
 intro t cs H hsz r hf hw;have hbd:=r.bd;have hfew:=z4g hf;obtain⟨a,c,cells,rfl,-,-,-,-,-,rl⟩:=r.six;refine EvF.enter rfl Tryz.func85 (by decide) rfl ?_;(repeat refine EvC.seq ?_);refine EvC.reg ?_;simp (disch:=first|omega|rfl) only[sB,initTm,dBox,dAlloc,Value.cells,one,zr25];obtain⟨H2,e2,hx2,gp,gq,hn2,hw2⟩:=new2 hw (.row (six t a c) 25) (.row zero6 25);simp only[e2];have q1:=row6 gp;clear e2;have hmost:t.args.length≤most:=by unfold most;omega
 have ne1:(H.next+1=H.next)=False:=by simp
 have ne2:(H.next=H.next+1)=False:=by simp
 by_cases h0:t.args.length=0
 ·have h0':(t.args.length:Int)=0:=by omega
  have he:t.args=[]:=List.length_eq_zero_iff.1 h0
  repeat' (first|refine EvC.seq ?_|(refine EvC.ret ?_;try simp only[z04,z02])|(refine EvC.reg ?_;simp (disch:=first|omega|rfl) only[sB,Za,Zb,one,reduceCtorEq,cutC,z0j,ld23,ln23,st23,ld25,st25,q1,gp,gq,z0k h0',ne1])|(refine EvC.condT ?_ ?_;simp (disch:=first|omega|rfl) only[sB,Za,reduceCtorEq];refine z07 ?_))
  have hx3:=(hx2.pt (Zg _) gp (some (.row [.int .i64 t.kind,.string t.name,.string t.num,.int .u64 t.bits,.int .i64 t.var,.slice none 0 0] 25))).pt (i:=H.next+1) (Nat.le_succ _) (by rw[get_put,if_neg (by omega)];exact gq)
   (some (.row [.int .i64 t.kind,.string t.name,.string t.num,.int .u64 t.bits,.int .i64 t.var,.slice none 0 0] 25))
  refine z0a rfl (by simp only[sB,Za,reduceCtorEq];rfl) (by simp only[sB,Zb,cutC,ld25];rfl) ⟨_,rfl,⟨none,0,?_,hbd,?_⟩,hx3⟩
  ·simp only[six,h0]
  ·rw[he];exact .nil _
 ·have h0':(t.args.length:Int)≠0:=by omega
  have ne3:(H.next=H2.next)=False:=by simp;omega
  repeat' (first|refine EvC.seq ?_|refine EvC.block ?_|(refine EvC.skip ?_;try simp only[z00])|(refine EvC.reg ?_;simp (disch:=first|omega|rfl) only[sB,Za,reduceCtorEq,cutC,z0j,ld23,ln23,q1,z0m h0',z61 mk23,ne3])|(refine EvC.condF ?_ ?_;simp (disch:=first|omega|rfl) only[sB,Za,reduceCtorEq];refine z07 ?_))
  obtain⟨H3,e3,hx3,gr,hn3,hw3⟩:=new1 hw2 (.row (repL t.args.length zero6) 25);simp only[e3];clear e3;have gp3:=hx3.get hw2 gp;have gq3:=hx3.get hw2 gq;have hx23:=hx2.trans hx3;have hmax:=rl.max;rw[hn2] at gr hn3;refine EvC.loop (fun k st=>∃tm H' i cells' Si ai ci,st=⟨tm,[],H'⟩∧k=t.args.length - i∧i≤t.args.length ∧
   tm.get 1=some (.pointer (some ⟨H.next,0,none⟩))∧tm.get 2=some (.pointer (some ⟨H.next+1,0,none⟩))∧tm.get 3=some (.slice (some ⟨H.next+2,0,none⟩) t.args.length t.args.length) ∧
   tm.get 17=some (.slice a t.args.length c)∧tm.get 18=some (.int .i64 t.args.length)∧tm.get 19=some (.int .i64 (i:Nat)) ∧
   H'.get H.next=some (.row (six t a c) 25)∧H'.get (H.next+1)=some (.row zero6 25)∧H'.get (H.next+2)=some (.row cells' 25)∧cells'.length=t.args.length*6 ∧
   FLs H' 25 (Rg (H.next+3) H'.next) (t.args.take i) cells' Si ai ci∧HX H H') ?_ t.args.length _ ?_
  ·rintro k st ⟨tm,H',i,cells',Si,ai,ci,rfl,rfl,hi,t1,t2,t3,t17,t18,t19,gp',gq',gr',hlen,hfl,hx'⟩;have q1:=row6 gp';by_cases hlt:i < t.args.length
   ·obtain⟨b,o,a1,c1,rfl,hld,hr1⟩:=rl.el hlt;have hld1:=hx'.load hw hld
    repeat' (first|refine EvC.seq ?_|refine EvC.block ?_|(refine EvC.skip ?_;try simp only[z00])|(refine EvC.reg ?_;simp (disch:=first|omega|rfl) only[sB,dAlloc,Za,Zb,one,cutC,zr25,ld25,st25,ia23,cl85,t3,t17,t18,t19,decl hlt,hld1])|(refine EvC.condT ?_ ?_;simp (disch:=first|omega|rfl) only[sB];refine z07 ?_))
    obtain⟨H4,e4,hx4,g4,hn4,hw4⟩:=z0l hx'.wf (.row zero6 25) (.row (six t.args[i] a1 c1) 25);simp only[e4];clear e4;have hs:=z15 (Zc hlt);refine(ih (t:=t.args[i]) (by omega) (hr1.mono (hx'.trans hx4) hw) (hf.args _ (Zx _)) hw4).mono ?_;rintro v H5 ⟨cs',rfl,⟨a2,c2,rfl,hb2,hf2⟩,hx5⟩;have hx45:=hx4.trans hx5;have gr5:=hx45.get hx'.wf gr';have gp5:=hx45.get hx'.wf gp';have gq5:=hx45.get hx'.wf gq';have hle:i*6+6≤cells'.length:=by rw[hlen];exact mul6 hlt
    have hln:=hx45.next;have hln2:=hx5.next;have hlt3:=hx'.wf _ _ gq';have hlt4:=hx'.wf _ _ gr'
    repeat' (first|(refine EvC.reg ?_;simp (disch:=first|omega|rfl) only[sB,Za,t19,z0b])|(refine z0i ?_;simp (disch:=first|omega|rfl) only[sB,Zb,one,st25,gr5,hle]))
    have hx6:=(hx'.trans hx45).pt (i:=H.next+2) (by omega) gr5 (some (.row (Hb.splice cells' (i*6) (six t.args[i] a2 c2)) 25));have et:t.args.take (i+1)=t.args.take i++[t.args[i]]:=(ZA hlt).symm;have etl:(t.args.take i).length=i:=by rw[Zl];omega
    obtain⟨Si',ai',ci',hsn⟩:∃Si ai ci,FLs (H5.put (H.next+2) (some (.row (Hb.splice cells' (i*6) (six t.args[i] a2 c2)) 25))) 25 (Rg (H.next+3) H5.next) (t.args.take (i+1)) (Hb.splice cells' (i*6) (six t.args[i] a2 c2)) Si ai ci:=by
     rw[et];refine⟨_,_,_,hfl.snoc (S':=Rg (H.next+3) H5.next) (N:=Rg H4.next H5.next) (fun n hn hl=>?_) hx'.wf (hf2.heap (fun n hn hl=>?_) hx5.wf) hb2 (fun n hn hs=>?_) (fun n hn=>?_) (fun n hn=>?_) (fun j hj=>?_) ?_⟩
     ·have:=hn.1;rw[get_put,if_neg (by omega)];exact hx45.keep n hl
     ·have:=hn.1;rw[get_put,if_neg (by omega)]
     ·have:=hn.1;have:=hs.2;omega
     ·exact⟨hn.1,by have:=hn.2;omega⟩
     ·exact⟨by have:=hn.1;omega,hn.2⟩
     ·rw[etl] at hj;exact z2c hle rfl (.inl (mul6 hj))
     ·rw[etl];exact z2t hle rfl
    exact⟨t.args.length - (i+1),by omega,_,_,i+1,Hb.splice cells' (i*6) (six t.args[i] a2 c2),Si',ai',ci',rfl,rfl,by omega,(by simp only[sG,Za,t1]),(by simp only[sG,Za,t2]),(by simp only[sG,Za,t3]),(by simp only[sG,Za,t17]),(by simp only[sG,Za,t18]),(by simp only[sB,Za];rfl),
     by rw[get_put,if_neg (by omega)];exact gp5,by rw[get_put,if_neg (by omega)];exact gq5,by rw[get_put,if_pos rfl],by rw[z1x hle];exact hlen,hsn,hx6⟩
   ·repeat' (first|refine EvC.seq ?_|(refine EvC.exit ?_;try simp only[sB])|(refine EvC.ret ?_)|(refine EvC.reg ?_;simp (disch:=first|omega|rfl) only[sB,Za,Zb,one,cutC,z0j,st23,ld25,st25,t1,t2,t3,t18,t19,q1,gp',gq',decn hlt,ne1])|(refine EvC.condF ?_ ?_;simp (disch:=first|omega|rfl) only[sB];refine z07 ?_))
    have hi':i=t.args.length:=by omega
    have hlt3:=hx'.wf _ _ gr';have hx7:=(hx'.pt (Zg _) gp' (some (.row (six t (some ⟨H.next+2,0,none⟩) t.args.length) 25))).pt (i:=H.next+1) (Nat.le_succ _) (by rw[get_put,if_neg (by omega)];exact gq')
     (some (.row (six t (some ⟨H.next+2,0,none⟩) t.args.length) 25))
    refine z0a rfl (by simp only[sB,Za,t2];rfl) (by simp only[sB,Zb,cutC,ld25]) ⟨_,rfl,⟨some ⟨H.next+2,0,none⟩,t.args.length,rfl,hbd,?_⟩,hx7⟩;rw[hi',Zi (Zg _)] at hfl;refine(hfl.heap (fun n hn _=>?_) hx'.wf).row (Zg _) (Zo hfew (by simp [maxLen])) (cells:=cells') ?_ (by omega) ⟨by omega,hlt3⟩ (fun h=>?_) (fun n hn=>⟨by have:=hn.1;omega,hn.2⟩)
    ·have:=hn.1;rw[get_put,if_neg (by omega),get_put,if_neg (by omega)]
    ·rw[get_put,if_neg (by omega),get_put,if_neg (by omega)];exact gr'
    ·have:=h.1;omega
  ·refine⟨_,_,0,repL t.args.length zero6,fun _ _=>False,fun _=>none,fun _=>0,rfl,rfl,by omega,(by simp only[sG,Za,reduceCtorEq]),(by simp only[sG,Za,reduceCtorEq]),by rw[hn2];first|(simp only[sG,Za,reduceCtorEq];rfl)|simp only[sG,Za,reduceCtorEq],(by simp only[sG,Za,reduceCtorEq]),(by simp only[sG,Za,reduceCtorEq]),(by simp only[sB,Za,reduceCtorEq];rfl),gp3,gq3,gr,by rw[z4d];rfl,FLs.nil,hx23⟩
end Go.Proofs.hq
end

section
namespace Go.Hb
open Go Go.RowKit
theorem six_ones {t:Tm}{a:Option Addr}{c:Nat}:(six t a c).all one=true:=rfl
theorem z29 {cells:List Value}:∀n,n*6≤cells.length→(∀i,i < n→((cells.drop (i*6)).take 6).all one=true)→(cells.take (n*6)).all one=true
 |0,_,_=>by simp
 |n+1,h,hc=>by
  rw[Nat.succ_mul,List.take_add,List.all_append,z29 n (by omega) fun i hi=>hc i (by omega),hc n (by omega)];rfl
theorem zjb {cells:List Value}{i n:Nat}(h:i < n) (vs:List Value) (hn:n*6≤cells.length):((cells.take (n*6)++vs).drop (i*6)).take 6=(cells.drop (i*6)).take 6:=by
 have h1:(cells.take (n*6)).length=n*6:=by rw[Zl];omega
 rw[List.drop_append_of_le_length (by omega),List.take_append_of_le_length (by rw[List.length_drop];omega),List.drop_take,List.take_take];congr 1;omega
theorem FL.push {P:Program}{T t:TypeId}(hp:apOk P t T 6) {H:Heap}{S N S2:Nat→Prop}{l:List Tm}{u:Tm}{a a':Option Addr}{c c' c1:Nat}{ad:Addr}(h:FL H T S l a c) (hw:H.wf)
  (hl:H.load ad (1*6)=some (six u a' c')) (hu:FL H T N u.args a' c') (hb:Bd u) (hN:∀n,N n→¬S n) (hS:∀n,S n→n < H.next) (hNl:∀n,N n→n < H.next) (hm:l.length+1≤most) (h2:∀n,S n∨N n∨n=H.next→S2 n) :
  ∃H2,dAp P #[t,t] (.slice a l.length c) (.slice (some ad) 1 c1) H=some (.val (.slice (some ⟨H.next,0,none⟩) (l.length+1) (l.length+1)) H2)∧FL H2 T S2 (l++[u]) (some ⟨H.next,0,none⟩) (l.length+1)∧HK S H H2∧H2.next=H.next+1:=by
 have hmax:l.length+1≤maxLen:=Zo hm (by simp [most,maxLen]);cases h with
 |nil =>
  have hx:=(HX.refl hw).new (some (.row (six u a' c') T));refine⟨_,z4r hp (by omega) hm hl six_ones,?_,hx.hk _,rfl⟩;refine .row S2 [u] H.next 1 (six u a' c') (fun _=>N) (fun _=>a') (fun _=>c') (Zg _) hmax z0o (Zg _) ?_ ?_ (h2 _ (.inr (.inr rfl))) ?_ ?_ ?_ ?_
  ·intro i v hv
   match i,hv with
   |0,hv=>cases hv;rfl
  ·intro i v hv
   match i,hv with
   |0,hv=>cases hv;exact hb
  ·intro i _ hn;have:=hNl _ hn;omega
  ·intro i n _ hn;exact h2 n (.inr (.inl hn))
  ·intro i j n hi hj _ _;simp at hi hj;omega
  ·intro i v hv
   match i,hv with
   |0,hv=>cases hv;exact hu.keep hx hw
 |row _ _ b c cells Si ai ci h1 h2' h3 h4 h5 h6 h7 h8 h9 h10 h11 =>
  have hcells:(cells.take (l.length*6)).all one=true:=z29 _ h4 fun i hi=>by rw[h5 i l[i] (Zc hi)];exact six_ones
  have hbn:b < H.next:=hw _ _ h3;have hk:HK S H ((H.put b none).new (some (.row (cells.take (l.length*6)++six u a' c') T))):=((HK.refl hw).put (.inl h7) hbn none).new _;have hkeep:∀n,n < H.next→n≠b→((H.put b none).new (some (.row (cells.take (l.length*6)++six u a' c') T))).get n=H.get n:=fun n hn hne=>by
   rw[z1s (by rw[z06];exact hn),z30 hne]
  refine⟨_,z4c hp (by omega) hm hl six_ones h3 h4 hcells,?_,hk,rfl⟩;have hfs:FLs H T (fun n=>∃i,i < l.length∧Si i n) l cells Si ai ci:=⟨h5,h6,fun i n hi hn=>⟨i,hi,hn⟩,h10,h11⟩
  have hSb:¬ ∃i,i < l.length∧Si i b:=fun ⟨i,hi,hn⟩=>h8 i hi hn
  have hsub:∀n,(∃i,i < l.length∧Si i n)→S n:=fun n ⟨i,hi,hn⟩=>h9 i n hi hn
  have hlen:(cells.take (l.length*6)).length=l.length*6:=by rw[Zl];omega
  have hs:=hfs.snoc (H':=(H.put b none).new (some (.row (cells.take (l.length*6)++six u a' c') T))) (S':=fun n=>(∃i,i < l.length∧Si i n)∨N n) (N:=N) (cells':=cells.take (l.length*6)++six u a' c') (t:=u) (a:=a') (c:=c')
   (fun n hn hl=>hkeep n hl (fun e=>hSb (e ▸ hn))) hw (hu.heap (fun n hn hl=>hkeep n hl fun e=>hN n hn (e ▸ h7)) hw) hb (fun n hn hq=>hN n hn (hsub n hq)) (fun n hn=>.inl hn) (fun n hn=>.inr hn)
   (fun i hi=>zjb hi _ h4) (by
    rw[List.drop_append_of_le_length (by omega),List.drop_eq_nil_of_le (by omega)];rfl)
  refine hs.row (S':=S2) (by simp) hmax z0o (by simp;omega) (h2 _ (.inr (.inr rfl))) (fun hq=>?_) (fun n hn=>?_)
  ·rcases hq with hq|hq
   ·have:=hS _ (hsub _ hq);simp at this
   ·have:=hNl _ hq;simp at this
  ·rcases hn with hn|hn
   ·exact h2 n (.inl (hsub n hn))
   ·exact h2 n (.inr (.inl hn))
end Go.Hb
namespace Go.Proofs.hq
open Go Go.RowKit Go.Hb
variable {ok:Ok}
set_option maxRecDepth 10000
attribute [local irreducible] LX LG EL STG SOP SGO SGD SAL SRD SEF SEG SLK SCK ES
inductive Few (n:Nat):Tm→Prop
 |mk {t:Tm}:t.args.length≤n→(∀u∈t.args,Few n u)→Few n t
theorem Few.len {n:Nat}{t:Tm}(h:Few n t):t.args.length≤n:=by cases h;assumption
theorem Few.args {n:Nat}{t:Tm}(h:Few n t):∀u∈t.args,Few n u:=by cases h;assumption
theorem Few.up {n m:Nat}{t:Tm}(f:Few n t) (h:n≤m):Few m t:=by
 induction f with
 |mk h1 _ ih=>exact .mk (Zo h1 h) ih
theorem Fine.few:∀(m:Nat) {t:Tm},SizeOf.sizeOf t < m→Fine t→Few 64 t
 |0,_,h,_=>by omega
 |m+1,t,h,f=>.mk (z4g f) fun u hu=>Fine.few m (by have:=z0d hu;omega) (f.args u hu)
set_option maxHeartbeats 4000000 in
theorem zll {m:Nat}:∀{t:Tm}{cs:List Value}{H:Heap},SizeOf.sizeOf t < m→RepT H t cs→Few 1000000 t→H.wf →
  EvF Tryz.prog okT 6 [.agg ⟨cs⟩] H fun v H'=>∃cs',v=.agg ⟨cs'⟩∧RepF H' 25 (Rg H.next H'.next) t cs'∧HX H H':=by
 induction m with
 |zero=>intro t cs H h;omega
 |succ m ih =>
 intro t cs H hsz r hf hw;have hbd:=r.bd;have hfew:=hf.len;obtain⟨a,c,cells,rfl,-,-,-,-,-,rl⟩:=r.six;refine EvF.enter rfl Tryz.func6 (by decide) rfl ?_;(repeat refine EvC.seq ?_);refine EvC.reg ?_;simp (disch:=first|omega|rfl) only[sB,initTm,dBox,dAlloc,Value.cells,one,zr25];obtain⟨H2,e2,hx2,gp,gq,hn2,hw2⟩:=new2 hw (.row (six t a c) 25) (.row zero6 25);simp only[e2];have q1:=row6 gp;clear e2;(repeat refine EvC.seq ?_);refine EvC.reg ?_;simp (disch:=first|omega|rfl) only[sB,dAlloc,Za,Zb,one,reduceCtorEq,zr25,ld25,st25,q1];obtain⟨H3,e3,hx3,gr,hn3,hw3⟩:=z0l hw2 (.row zero6 25) (.row (six t a c) 25);simp only[e3];clear e3;rw[hn2] at gr hn3;simp only[hn2];(repeat refine EvC.seq ?_);refine EvC.reg ?_;simp (disch:=first|omega|rfl) only[sB,Za,Zb,one,reduceCtorEq,z0j,st23,gr];have hx23:=hx2.trans hx3;have gp3:=hx3.get hw2 gp;have gq3:=hx3.get hw2 gq;have hmax:=rl.max;(repeat refine EvC.seq ?_);refine EvC.reg ?_;simp only[sA];refine EvC.meet (fun st=>∃tm H' ar cr,st=⟨tm,[],H'⟩∧tm.get 2=some (.pointer (some ⟨H.next+1,0,none⟩))∧tm.get 3=some (.pointer (some ⟨H.next+2,0,none⟩)) ∧
   H'.get (H.next+1)=some (.row zero6 25)∧H'.get (H.next+2)=some (.row (six t ar cr) 25)∧FL H' 25 (Rg (H.next+3) H'.next) t.args ar cr∧HX H H') ?_ ?_
 ·refine EvC.block (EvC.loop (fun k st=>∃tm H' i ar cr,st=⟨tm,[],H'⟩∧k=t.args.length - i∧i≤t.args.length ∧
   tm.get 1=some (.pointer (some ⟨H.next,0,none⟩))∧tm.get 2=some (.pointer (some ⟨H.next+1,0,none⟩))∧tm.get 3=some (.pointer (some ⟨H.next+2,0,none⟩))∧tm.get 4=some (.int .i64 (i:Nat)) ∧
   H'.get H.next=some (.row (six t a c) 25)∧H'.get (H.next+1)=some (.row zero6 25) ∧
   H'.get (H.next+2)=some (.row [.int .i64 t.kind,.string t.name,.string t.num,.int .u64 t.bits,.int .i64 t.var,.slice ar i cr] 25) ∧
   FL H' 25 (Rg (H.next+3) H'.next) (t.args.take i) ar cr∧HX H H') ?_ t.args.length _ ?_)
  ·rintro k st ⟨tm,H',i,ar,cr,rfl,rfl,hi,t1,t2,t3,t4,gp',gq',gr',hfl,hx'⟩;have q1:=row6 gp';by_cases hlt:i < t.args.length
   ·obtain⟨b,o,a1,c1,rfl,hld,hr1⟩:=rl.el hlt;have hld1:=hx'.load hw hld
    repeat' (first|refine EvC.seq ?_|refine EvC.block ?_|(refine EvC.skip ?_;try simp only[z00])|(refine EvC.reg ?_;simp only[sB,Za,z0j,ld23,ln23,t1,t4,q1,decl hlt])|(refine EvC.drw [([(2,0),(3,0),(4,0),(5,0),(6,0)],some 7),([(0,0),(1,0),(8,1)],some 9),([(10,2)],some 11),([],none)] ?_ ?_;kernel_rfl;simp (disch:=first|omega|rfl) only[sD,sB,Za,Zb,reduceCtorEq,ld25,z0j,ld23,ia23,cl6,t1,t4,q1,hld1,isAlloc,isRead])|(refine EvC.condT ?_ ?_;simp only[sB,Za];refine z07 ?_))
    have hb:=hx'.bump 12;have hs:=z15 (Zc hlt);refine(ih (t:=t.args[i]) (by omega) (hr1.mono hb hw) (hf.args _ (Zx _)) hb.wf).mono ?_;rintro v H5 ⟨cs',rfl,⟨a2,c2,rfl,hb2,hf2⟩,hx5⟩;have hb5:=((HX.refl hx'.wf).bump 12).trans hx5;have gp5:=hb5.get hx'.wf gp';have gq5:=hb5.get hx'.wf gq';have gr5:=hb5.get hx'.wf gr';have q3:=row6 gr5;have q3':=row6 gr';have ean:apOk Tryz.prog 23 25 6:=ap23;have hn5:=hx5.next;have hn5':H'.next+12≤H5.next:=hn5;have hltr:=hx'.wf _ _ gr';have hx6:HX H' (H5.put (H'.next+8) (some (.row (six t.args[i] a2 c2) 25))):=hb5.put (i:=H'.next+8) (Nat.le_add_right _ _) (by omega) _;obtain⟨H6,e6⟩:∃H6,H5.put (H'.next+8) (some (.row (six t.args[i] a2 c2) 25))=H6:=⟨_,rfl⟩
    have g6:H6.get (H'.next+8)=some (.row (six t.args[i] a2 c2) 25):=by rw[←e6,get_put,if_pos rfl]
    have hn6:H6.next=H5.next:=by rw[←e6,z06]
    have hf6:FL H6 25 (Rg (H'.next+12) H5.next) t.args[i].args a2 c2:=hf2.heap (fun n hn _=>by have:H'.next+12≤n:=hn.1;rw[←e6,get_put,if_neg (by omega)]) hx5.wf;rw[e6] at hx6;have etl:(t.args.take i).length=i:=by rw[Zl];omega
    obtain⟨H7,e7,hf7,hk7,hn7⟩:=FL.push (S2:=Rg (H.next+3) (H6.next+1)) (c1:=1) ean (hfl.keep hx6 hx'.wf) hx6.wf (row6 g6).2.2.2.2.2.2 hf6 hb2 (fun n hn hs=>by have:H'.next+12≤n:=hn.1;have:=hs.2;omega) (fun n hn=>by have:=hn.2;omega) (fun n hn=>by have:=hn.2;omega)
     (by rw[etl];unfold most;omega) (fun n hn=>by
      rcases hn with hn|hn|hn
      ·exact⟨hn.1,by have:=hn.2;omega⟩
      ·exact⟨by have:H'.next+12≤n:=hn.1;omega,by have:=hn.2;omega⟩
      ·exact⟨by omega,by omega⟩)
    rw[etl] at e7 hf7;have hx7:HX H H7:=(hx'.trans hx6).then hk7 fun n hn hs=>by have:=hs.1;omega
    have gp7:=hk7.get hx6.wf (hx6.get hx'.wf gp') (fun hs=>by have:=hs.1;omega);have gq7:=hk7.get hx6.wf (hx6.get hx'.wf gq') (fun hs=>by have:=hs.1;omega);have gr7:=hk7.get hx6.wf (hx6.get hx'.wf gr') (fun hs=>by have:=hs.1;omega);have q3'':=row6 gr7
    repeat' (first|(refine EvC.reg ?_;simp (disch:=first|omega|rfl) only[sB,Za,t4,z0b])|(refine z0h ?_;simp (disch:=first|omega|rfl) only[sV,sD,sB,Za,Zb,Value.cells,one,reduceCtorEq,layC,z0j,st23,ld23,z4s,t3,q3,q3',e6,e7,gr7,isAlloc,isRead,dalloc]))
    have et:t.args.take (i+1)=t.args.take i++[t.args[i]]:=(ZA hlt).symm;exact⟨t.args.length - (i+1),by omega,_,_,i+1,some ⟨H6.next,0,none⟩,i+1,rfl,rfl,by omega,(by simp only[sG,Za,t1]),(by simp only[sG,Za,t2]),(by simp only[sG,Za,t3]),(by simp only[sB,Za];rfl),by rw[get_put,if_neg (by omega)];exact gp7,by rw[get_put,if_neg (by omega)];exact gq7,by rw[get_put,if_pos rfl],
     by
      rw[et];refine(hf7.heap (H':=H7.put (H.next+2) _) (fun n hn _=>?_) hx7.wf).sub (fun n hn=>⟨hn.1,by rw[z06,hn7];exact hn.2⟩);have:=hn.1;rw[get_put,if_neg (by omega)],hx7.pt (by omega) gr7 _⟩
   ·repeat' (first|refine EvC.seq ?_|(refine EvC.exit ?_;try simp only[sB,reduceCtorEq])|(refine EvC.reg ?_;simp only[sB,Za,z0j,ld23,ln23,t1,t4,q1,decn hlt])|(refine EvC.condF ?_ ?_;simp only[sB,Za];refine z07 ?_))
    have hi':i=t.args.length:=by omega
    subst hi';rw[Zi (Zg _)] at hfl;exact⟨_,_,ar,cr,rfl,(by simp only[sG,Za,t2]),(by simp only[sG,Za,t3]),gq',gr',hfl,hx'⟩
  ·exact⟨_,_,0,none,0,rfl,rfl,by omega,(by simp only[sG,Za,reduceCtorEq]),(by simp only[sG,Za,reduceCtorEq]),(by simp only[sG,Za,reduceCtorEq]),(by simp only[sB,Za,reduceCtorEq];rfl),by rw[get_put,if_neg (by omega)];exact gp3,by rw[get_put,if_neg (by omega)];exact gq3,by rw[get_put,if_pos rfl],.nil _,hx23.pt (by omega) gr _⟩
 ·rintro st ⟨tm,H',ar,cr,rfl,t2,t3,gq',gr',hfl,hx'⟩;have q3:=row6 gr';have hlt:=hx'.wf _ _ gr'
  repeat' (first|refine EvC.seq ?_|(refine EvC.ret ?_)|(refine EvC.reg ?_;simp (disch:=first|omega|rfl) only[sB,Za,Zb,one,ld25,st25,t2,t3,q3,gq']))
  have hx6:=hx'.pt (i:=H.next+1) (by omega) gq' (some (.row (six t ar cr) 25));refine z0a rfl (by simp only[sB,Za,t2];rfl) (by simp only[sB,Zb,cutC,ld25]) ⟨_,rfl,⟨ar,cr,rfl,hbd,(hfl.heap (fun n hn _=>?_) hx'.wf).sub fun n hn=>⟨by have:=hn.1;omega,hn.2⟩⟩,hx6⟩;have:=hn.1;rw[get_put,if_neg (by omega)]
end Go.Proofs.hq
end

section
namespace Go.Hb
open Go Go.RowKit
theorem FL.inv {H:Heap}{T:TypeId}{S:Nat→Prop}{l:List Tm}{a:Option Addr}{c:Nat}(h:FL H T S l a c):(l=[]∧a=none∧c=0)∨∃b cells Si ai ci,a=some ⟨b,0,none⟩∧l.length≤c∧c≤maxLen ∧
  H.get b=some (.row cells T)∧l.length*6≤cells.length∧S b∧(∀i,i < l.length→¬Si i b)∧FLs H T S l cells Si ai ci:=by
 cases h with
 |nil=>exact .inl ⟨rfl,rfl,rfl⟩
 |row _ _ b c cells Si ai ci h1 h2 h3 h4 h5 h6 h7 h8 h9 h10 h11=>exact .inr ⟨b,cells,Si,ai,ci,rfl,h1,h2,h3,h4,h7,h8,⟨h5,h6,h9,h10,h11⟩⟩
end Go.Hb
namespace Go.Proofs.hq
open Go Go.RowKit Go.Hb
variable {ok:Ok}
set_option maxRecDepth 10000
attribute [local irreducible] LX LG EL STG SOP SGO SGD SAL SRD SEF SEG SLK SCK ES
abbrev mark6 (k:Int) (s:ByteArray):List Value:=[.int .i64 k,.string s,.string Ze,.int .u64 0,.int .i64 0,.slice none 0 0]
end Go.Proofs.hq
end

section
namespace Go.Proofs.hq
open Go Go.RowKit Go.Hb
variable {ok:Ok}
set_option maxRecDepth 10000
attribute [local irreducible] LX LG EL STG SOP SGO SGD SAL SRD SEF SEG SLK SCK ES
noncomputable def eqT (t t':Tm):Bool:=@decide (t=t') (Classical.propDecidable _)
theorem z5n {t t':Tm}(h:t=t'):eqT t t'=true:=by unfold eqT;exact @decide_eq_true _ (Classical.propDecidable _) h
theorem z3y {t t':Tm}(h:t≠t'):eqT t t'=false:=by unfold eqT;exact @decide_eq_false _ (Classical.propDecidable _) h
theorem z23 {a b:ByteArray}(h:a=b):(a.toList == b.toList)=true:=by rw[h];exact beq_self_eq_true _
theorem z9j {a b:ByteArray}(h:a≠b):(a.toList == b.toList)=false:=by
 rw[beq_eq_false_iff_ne];exact fun q=>h (z5g q)
set_option maxHeartbeats 4000000 in
theorem zri {m:Nat}:∀{t t':Tm}{cs cs':List Value}{H:Heap},SizeOf.sizeOf t < m→RepT H t cs→RepT H t' cs'→H.wf →
  EvF Tryz.prog okT 12 [.agg ⟨cs⟩,.agg ⟨cs'⟩] H fun v H'=>v=.bool (eqT t t')∧HX H H':=by
 induction m with
 |zero=>intro t t' cs cs' H h;omega
 |succ m ih =>
 intro t t' cs cs' H hsz r r' hw;obtain⟨a,c,cells,rfl,b1,b2,b3,b4,b5,rl⟩:=r.six;obtain⟨a',c',cells',rfl,b1',b2',b3',b4',b5',rl'⟩:=r'.six;refine EvF.enter rfl Tryz.func12 (by decide) rfl ?_;(repeat refine EvC.seq ?_);refine EvC.reg ?_;simp (config := { maxSteps := 2000000 }) (disch:=first|omega|rfl) only[sB,initTm,dBox,Za,Value.cells,one,reduceCtorEq];obtain⟨H2,e2,hx2,gp,gq,hnx,hw2⟩:=new2 hw (.row (six t a c) 25) (.row (six t' a' c') 25);simp only[e2];have q1:=row6 gp;have q2:=row6 gq;clear e2;by_cases k1:t.kind=t'.kind;rotate_left
 ·repeat' (first|refine EvC.seq ?_|(refine EvC.ret ?_;try simp only[z04,z02])|(refine EvC.reg ?_;simp (config := { maxSteps := 2000000 }) only[sB,Za,reduceCtorEq,z0g,ld3,z1j k1,q1,q2])|(refine EvC.condT ?_ ?_;simp (config := { maxSteps := 2000000 }) only[sB,Za,reduceCtorEq];refine z07 ?_))
  exact z03 rfl (by simp only[sB,Za,reduceCtorEq];rfl) ⟨by rw[z3y (fun h=>k1 (by rw[h]))],hx2⟩
 by_cases k2:t.name=t'.name;rotate_left
 ·repeat' (first|refine EvC.seq ?_|(refine EvC.ret ?_;try simp only[z04,z02])|(refine EvC.reg ?_;simp (config := { maxSteps := 2000000 }) only[sB,Za,reduceCtorEq,z0g,ld3,z16,ld9,z0z k1,q1,q2,z0y,z9j k2,Zt,Zd])|(refine EvC.condT ?_ ?_;simp (config := { maxSteps := 2000000 }) only[sB,Za,reduceCtorEq];refine z07 ?_))
  exact z03 rfl (by simp only[sB,Za,reduceCtorEq];rfl) ⟨by rw[z3y (fun h=>k2 (by rw[h]))],hx2⟩
 by_cases k3:t.num=t'.num;rotate_left
 ·repeat' (first|refine EvC.seq ?_|(refine EvC.ret ?_;try simp only[z04,z02])|(refine EvC.reg ?_;simp (config := { maxSteps := 2000000 }) only[sB,Za,reduceCtorEq,z0g,ld3,z16,ld9,z5s,z0z k1,q1,q2,z0y,z23 k2,z9j k3,Zt,Zp,Zd])|(refine EvC.condT ?_ ?_;simp (config := { maxSteps := 2000000 }) only[sB,Za,reduceCtorEq];refine z07 ?_))
  exact z03 rfl (by simp only[sB,Za,reduceCtorEq];rfl) ⟨by rw[z3y (fun h=>k3 (by rw[h]))],hx2⟩
 by_cases k4:t.bits=t'.bits;rotate_left
 ·repeat' (first|refine EvC.seq ?_|(refine EvC.ret ?_;try simp only[z04,z02])|(refine EvC.reg ?_;simp (config := { maxSteps := 2000000 }) only[sB,Za,reduceCtorEq,z0g,ld3,z16,ld9,z5s,z81,ld22,z0z k1,q1,q2,z0y,z23 k2,z23 k3,z1j k4,Zp,Zd])|(refine EvC.condT ?_ ?_;simp (config := { maxSteps := 2000000 }) only[sB,Za,reduceCtorEq];refine z07 ?_))
  exact z03 rfl (by simp only[sB,Za,reduceCtorEq];rfl) ⟨by rw[z3y (fun h=>k4 (by rw[h]))],hx2⟩
 by_cases k5:t.var=t'.var;rotate_left
 ·repeat' (first|refine EvC.seq ?_|(refine EvC.ret ?_;try simp only[z04,z02])|(refine EvC.reg ?_;simp (config := { maxSteps := 2000000 }) only[sB,Za,reduceCtorEq,z0g,ld3,z16,ld9,z5s,z81,ld22,z4m,z0z k1,q1,q2,z0y,z23 k2,z23 k3,z0z k4,z1j k5,Zp,Zd])|(refine EvC.condT ?_ ?_;simp (config := { maxSteps := 2000000 }) only[sB,Za,reduceCtorEq];refine z07 ?_))
  exact z03 rfl (by simp only[sB,Za,reduceCtorEq];rfl) ⟨by rw[z3y (fun h=>k5 (by rw[h]))],hx2⟩
 by_cases k6:(t.args.length:Int)=t'.args.length;rotate_left
 ·repeat' (first|refine EvC.seq ?_|(refine EvC.ret ?_;try simp only[z04,z02])|(refine EvC.reg ?_;simp (config := { maxSteps := 2000000 }) only[sB,Za,reduceCtorEq,z0g,ld3,z16,ld9,z5s,z81,ld22,z4m,z0j,ld23,ln23,z0z k1,q1,q2,z0y,z23 k2,z23 k3,z0z k4,z0z k5,z1j k6,Zp,Zd])|(refine EvC.condT ?_ ?_;simp (config := { maxSteps := 2000000 }) only[sB,Za,reduceCtorEq];refine z07 ?_))
  exact z03 rfl (by simp only[sB,Za,reduceCtorEq];rfl) ⟨by rw[z3y (fun h=>k6 (by rw[h]))],hx2⟩
 repeat' (first|refine EvC.seq ?_|refine EvC.block ?_|(refine EvC.skip ?_;try simp only[z00])|(refine EvC.reg ?_;simp (config := { maxSteps := 2000000 }) only[sB,Za,reduceCtorEq,z0g,ld3,z16,ld9,z5s,z81,ld22,z4m,z0j,ld23,ln23,z0z k1,q1,q2,z0y,z23 k2,z23 k3,z0z k4,z0z k5,z0z k6,Zp,Zd])|(refine EvC.condF ?_ ?_;simp (config := { maxSteps := 2000000 }) only[sB,Za,reduceCtorEq];refine z07 ?_))
 have hlen:t.args.length=t'.args.length:=by omega
 have hm:=rl.max;refine EvC.loop (fun k st=>∃tm H' i,st=⟨tm,[],H'⟩∧k=t.args.length - i∧i≤t.args.length∧(∀j,j < i→t.args[j]?=t'.args[j]?) ∧
   tm.get 2=some (.pointer (some ⟨H.next,0,none⟩))∧tm.get 3=some (.pointer (some ⟨H.next+1,0,none⟩))∧tm.get 5=some (.int .i64 (i:Nat)) ∧
   H'.get H.next=some (.row (six t a c) 25)∧H'.get (H.next+1)=some (.row (six t' a' c') 25)∧HX H H') ?_ t.args.length _ ?_
 ·rintro k st ⟨tm,H',i,rfl,rfl,hi,hc,t2,t3,t5,gp',gq',hx'⟩;have q1:=row6 gp';have q2:=row6 gq';by_cases hlt:i < t.args.length
  ·have hlt':i < t'.args.length:=by omega
   obtain⟨b,o,a1,c1,rfl,hld,hr1⟩:=rl.el hlt;obtain⟨b',o',a2,c2,rfl,hld',hr2⟩:=rl'.el hlt';have hld1:=hx'.load hw hld;have hld2:=hx'.load hw hld'
   repeat' (first|refine EvC.seq ?_|refine EvC.block ?_|(refine EvC.skip ?_;try simp only[z00])|(refine EvC.reg ?_;simp (config := { maxSteps := 2000000 }) only[sB,Za,z0j,ld23,ln23,t2,t5,q1,decl hlt])|(refine EvC.drw [([(0,0),(1,0),(2,0),(3,0),(4,0),(5,0),(6,0),(7,0),(8,0),(9,0)],some 10),([(11,1)],none)] ?_ ?_;kernel_rfl;simp (config := { maxSteps := 2000000 }) (disch:=first|omega|rfl) only[sD,sB,Za,Zb,reduceCtorEq,z0j,ld23,ia23,ld25,cl12,t2,t3,t5,q1,q2,hld1,hld2,isAlloc,isRead])|(refine EvC.condT ?_ ?_;simp (config := { maxSteps := 2000000 }) only[sB,Za];refine z07 ?_))
   have hb:=hx'.bump 12;have hs:=z15 (Zc hlt);refine(ih (t:=t.args[i]) (t':=t'.args[i]) (by omega) (hr1.mono hb hw) (hr2.mono hb hw) hb.wf).mono ?_;rintro v H4 ⟨rfl,hx4⟩;have hx5:=hb.trans hx4;by_cases he:t.args[i]=t'.args[i]
   ·repeat' (first|refine EvC.seq ?_|(refine EvC.skip ?_;try simp only[sA])|(refine EvC.reg ?_;simp (config := { maxSteps := 2000000 }) (disch:=first|omega|rfl) only[sB,Za,Zp,t5,z0b])|(refine z0h ?_;simp (config := { maxSteps := 2000000 }) only[sD,sB,Za,z5n he,isAlloc,isRead])|(refine EvC.condF ?_ ?_;simp (config := { maxSteps := 2000000 }) only[sB,Za];refine z07 ?_))
    refine⟨t.args.length - (i+1),by omega,_,_,i+1,rfl,rfl,by omega,fun j hj=>?_,(by simp only[sG,Za,t2]),(by simp only[sG,Za,t3]),(by simp only[sB,Za];rfl),hx4.get hb.wf gp',hx4.get hb.wf gq',hx5⟩;by_cases hji:j=i
    ·subst hji;rw[Zc hlt,Zc hlt',he]
    ·exact hc j (by omega)
   ·repeat' (first|refine EvC.seq ?_|(refine EvC.ret ?_;try simp only[z04,z02])|(refine EvC.reg ?_;simp (config := { maxSteps := 2000000 }) only[sB,Za,Zt])|(refine z0h ?_;simp (config := { maxSteps := 2000000 }) only[sD,sB,Za,z3y he,isAlloc,isRead])|(refine EvC.condT ?_ ?_;simp (config := { maxSteps := 2000000 }) only[sB,Za];refine z07 ?_))
    refine z03 rfl (by simp only[sB,Za];rfl) ⟨?_,hx5⟩;rw[z3y];rintro rfl;exact he rfl
  ·repeat' (first|refine EvC.seq ?_|(refine EvC.exit ?_;try simp only[sB])|(refine EvC.ret ?_)|(refine EvC.reg ?_;simp (config := { maxSteps := 2000000 }) only[sB,Za,z0j,ld23,ln23,t2,t5,q1,decn hlt])|(refine EvC.condF ?_ ?_;simp (config := { maxSteps := 2000000 }) only[sB,Za];refine z07 ?_))
   refine z03 rfl (by simp only[sB,Za];rfl) ⟨?_,hx'⟩;rw[z5n];refine zpy k1 k2 k3 k4 k5 (List.ext_getElem? fun j=>?_);by_cases hj:j < i
   ·exact hc j hj
   ·rw[Zy (by omega),Zy (by omega)]
 ·exact⟨_,_,0,rfl,rfl,by omega,by omega,(by simp only[sG,Za,reduceCtorEq]),(by simp only[sG,Za,reduceCtorEq]),(by simp only[sB,Za,reduceCtorEq];rfl),gp,gq,hx2⟩
theorem z3z {t t':Tm}{cs cs':List Value}{H:Heap}(r:RepT H t cs) (r':RepT H t' cs') (hw:H.wf) :
  EvF Tryz.prog okT 12 [.agg ⟨cs⟩,.agg ⟨cs'⟩] H fun v H'=>v=.bool (eqT t t')∧HX H H':=zri (Zf _) r r' hw
end Go.Proofs.hq
end

section
namespace Go.Hb
open Go Go.RowKit
def ApV (S:Nat→Prop) (H0 H:Heap) (T:TypeId) (v:Value) (n:Nat):Prop :=
 (n=0∧v=.slice none 0 0)∨∃b cells c,v=.slice (some ⟨b,0,none⟩) n c∧H.get b=some (.row cells T)∧n*6≤cells.length∧(cells.take (n*6)).all one=true∧(S b∨H0.next≤b)
theorem ApV.push {P:Program}{T t:TypeId}(hp:apOk P t T 6) {S:Nat→Prop}{H0 H:Heap}{v:Value}{n c1:Nat}{ad:Addr}{cs:List Value}(h:ApV S H0 H T v n) (hk:HK S H0 H) (hl:H.load ad (1*6)=some cs) (hc:cs.all one=true) (hlc:cs.length=6) (hm:n+1≤most) :
  ∃H2 v2,dAp P #[t,t] v (.slice (some ad) 1 c1) H=some (.val v2 H2)∧ApV S H0 H2 T v2 (n+1)∧HK S H0 H2:=by
 rcases h with ⟨rfl,rfl⟩|⟨b,cells,c,rfl,hg,hn,ho,hb⟩
 ·refine⟨_,_,z4r hp (by omega) hm hl hc,.inr ⟨H.next,cs,1,rfl,z0o,by omega,?_,.inr hk.next⟩,hk.new _⟩;rw[Zi (by omega)];exact hc
 ·refine⟨_,_,z4c hp (by omega) hm hl hc hg hn ho,.inr ⟨H.next,_,_,rfl,z0o,?_,?_,.inr hk.next⟩,(hk.put hb (hk.wf _ _ hg) none).new _⟩
  ·simp;omega
  ·rw[Zi (by simp;omega),List.all_append,ho,hc];rfl
end Go.Hb
namespace Go.Proofs.hq
open Go Go.RowKit Go.Hb
variable {ok:Ok}
set_option maxRecDepth 10000
attribute [local irreducible] LX LG EL STG SOP SGO SGD SAL SRD SEF SEG SLK SCK ES
noncomputable def eqL (l l':List Tm):Bool:=@decide (l=l') (Classical.propDecidable _)
end Go.Proofs.hq
end

section
namespace Go.Hb
open Go Go.RowKit
section
variable {P:Program}{ok:Ok}{x:Ctx}
theorem EvR.go {l:Nat}{args:List Value}{H:Heap}{K:Value→Heap→Prop}{fn:FuncId}{tm:Tr Value}{ps:List Tmp}{aa bo:Code}{dd:Nat}(hg:H.get l=some (.loop .ready none fn tm ps aa bo dd)) (hl:args.length=ps.length)
  (h:EvC P ok ⟨fn,some l⟩ aa ⟨(ps.zip args).foldl (fun t p=>t.put p.1 (some p.2)) tm,[],H⟩ fun e st1=>e=.normal∧st1.H.get l=some (.loop .ready none fn tm ps aa bo dd) ∧
   EvC P ok ⟨fn,some l⟩ bo ⟨st1.tm,st1.ds,st1.H.put l (some (.loop .busy none fn tm ps aa bo dd))⟩ fun e st2=>e=.normal∧st2.H.get l=some (.loop .busy none fn tm ps aa bo dd) ∧
    K (.bool true) (st2.H.put l (some (.loop .ready none fn tm ps aa bo dd)))):EvR P ok l args H K:=by
 obtain⟨N,⟨e,st1⟩,h1,he,hg1,N2,⟨e2,st2⟩,h2,he2,hg2,hk⟩:=h;simp only at he he2;subst he he2;refine⟨max N N2+1,(.bool true,st2.H.put l (some (.loop .ready none fn tm ps aa bo dd))),fun n hn=>?_,hk⟩;obtain⟨m,rfl⟩:∃m,n=m+1:=⟨n - 1,by omega⟩
 have c1:=h1 m (by omega);have c2:=h2 m (by omega);have hb:Zz args.length ps.length=true:=by rw[Zr];exact hl
 simp only at hg1 hg2 c2;show dround P ok (m+1) l args H=_;rw[dround];simp only[hg,hb,if_true,c1,hg1,c2,dendRound,hg2]
theorem EvR.mono {l:Nat}{args:List Value}{H:Heap}{K L:Value→Heap→Prop}(h:EvR P ok l args H K) (k:∀v H',K v H'→L v H'):EvR P ok l args H L:=Upon.mono h fun _ hq=>k _ _ hq
end
end Go.Hb
end

section
namespace Go.Proofs.hq
open Go Go.RowKit Go.Hb
variable {ok:Ok}
set_option maxRecDepth 10000
attribute [local irreducible] LX LG EL STG SOP SGO SGD SAL SRD SEF SEG SLK SCK ES
def chkL:List Tm→Int
 |[]=>0
 |t :: l=>if checkS t=0 then chkL l else checkS t
theorem zee {l:List Tm}{i:Nat}(h:i < l.length):chkL (l.drop i)=if checkS l[i]=0 then chkL (l.drop (i+1)) else checkS l[i]:=by
 rw[ZB h,chkL]
theorem z6w:∀{l:List Tm},chkL l=0→∀t∈l,checkS t=0
 |[],_,t,h=>by simp at h
 |u :: l,h,t,ht=>by
  rw[chkL] at h;split at h
  ·rename_i h0;rcases List.mem_cons.1 ht with rfl|ht
   ·exact h0
   ·exact z6w h t ht
  ·rename_i h0;exact absurd h h0
theorem zef {l:List Tm}{a:Option Addr}{c:Nat}{cells:Nat→List Value}{H:Heap}(rl:RepL H l a c cells) (hw:H.wf) :
  EvF Tryz.prog okT 66 [.slice a l.length c] H fun v H'=>v=.int .i64 (chkL l)∧HX H H':=by
 have hm:=rl.max;refine EvF.enter rfl Tryz.func66 (by decide) rfl ?_
 repeat' (first|refine EvC.seq ?_|refine EvC.block ?_|(refine EvC.reg ?_;simp only[sB,initTm,Za,reduceCtorEq,ln23]))
 refine EvC.loop (fun k st=>∃tm H' i,st=⟨tm,[],H'⟩∧k=l.length - i∧i≤l.length∧chkL (l.drop i)=chkL l∧tm.get 6=some (.slice a l.length c)∧tm.get 7=some (.int .i64 l.length)∧tm.get 8=some (.int .i64 (i:Nat))∧HX H H') ?_ l.length _ ?_
 ·rintro k st ⟨tm,H',i,rfl,rfl,hi,hc,g6,g7,g8,hx⟩;by_cases hlt:i < l.length
  ·obtain⟨b,o,a1,c1,rfl,hld,hr⟩:=rl.el hlt;have hld1:=hx.load hw hld
   repeat' (first|refine EvC.seq ?_|refine EvC.block ?_|(refine EvC.skip ?_;try simp only[z00])|(refine EvC.reg ?_;simp (disch:=first|omega|rfl) only[sB,dAlloc,Za,Zb,one,cutC,ia23,ld25,zr25,st25,cl29,g6,g7,g8,decl hlt,hld1])|(refine EvC.condT ?_ ?_;simp only[sB];refine z07 ?_))
   have hx2:=(hx.new (some (.row [.int .i64 0,.string Ze,.string Ze,.int .u64 0,.int .i64 0,.slice none 0 0] 25))).put (i:=H'.next) hx.next (Zf _) (some (.row (six l[i] a1 c1) 25));refine(z2s _ _ _ (hr.mono hx2 hw) hx2.wf).mono ?_;rintro v H3 ⟨rfl,hx3⟩;by_cases h0:checkS l[i]=0
   ·repeat' (first|refine EvC.seq ?_|(refine EvC.skip ?_;try simp only[sA])|(refine EvC.reg ?_;simp (disch:=first|omega|rfl) only[sB,Za,g8,z0z h0,z0b])|(refine EvC.condF ?_ ?_;simp only[sB,Za];refine z07 ?_))
    exact⟨l.length - (i+1),by omega,_,_,i+1,rfl,rfl,by omega,by rw[←hc,zee hlt,if_pos h0],(by simp only[sG,Za,g6]),(by simp only[sG,Za,g7]),(by simp only[sB,Za];rfl),hx2.trans hx3⟩
   ·repeat' (first|refine EvC.seq ?_|(refine EvC.ret ?_;try simp only[z04,z02])|(refine EvC.reg ?_;simp only[sB,Za,z1j h0])|(refine EvC.condT ?_ ?_;simp only[sB,Za];refine z07 ?_))
    exact z03 rfl (by simp only[sB,Za];rfl) ⟨by rw[←hc,zee hlt,if_neg h0],hx2.trans hx3⟩
  ·repeat' (first|refine EvC.seq ?_|(refine EvC.exit ?_;try simp only[sB])|(refine EvC.ret ?_)|(refine EvC.reg ?_;simp only[sA,g7,g8,decn hlt])|(refine EvC.condF ?_ ?_;simp only[sB];refine z07 ?_))
   exact z03 rfl (by simp only[sB,Za];rfl) ⟨by rw[←hc,ZM (by omega),chkL],hx⟩
 ·exact⟨_,_,0,rfl,rfl,by omega,rfl,(by simp only[sG,Za,reduceCtorEq]),(by simp only[sG,Za,reduceCtorEq]),(by simp only[sB,Za,reduceCtorEq];rfl),HX.refl hw⟩
abbrev dot:ByteArray:=⟨#[46]⟩
def zeroT:Tm:=.mk 0 Ze Ze 0 0 []
def listed (l:List Tm) (e:Tm):Tm:=l.foldr (fun t u=>.mk 5 dot Ze 0 0 [t,u]) e
def totN:List Tm→Nat→Nat
 |[],n=>n
 |t :: l,n=>if 4000 < n then n else totN l (n+(1+cnt t 0))
def listE (l:List Tm) (e:Tm):Int:=if orZ (chkL l) (checkS e)=0 then (if 4000 < totN l (cnt e 0) then 24 else 0) else orZ (chkL l) (checkS e)
def listT (l:List Tm) (e:Tm):Tm:=if listE l e=0 then listed l e else zeroT
theorem zrj (t:Tm):1≤cnt t 0:=by
 have mono:∀(l:List Tm),(∀t∈l,∀n,n≤cnt t n)→∀n,n≤cntL l n:=by
  intro l
  induction l with
  |nil=>intro _ n;rw[cntL];exact Zg _
  |cons t l ih =>
   intro h n;rw[cntL];split
   ·exact Zg _
   ·exact Zo (h t (by simp) n) (ih (fun u hu=>h u (Zn _ hu)) _)
 have key:∀(m:Nat) (t:Tm),SizeOf.sizeOf t < m→∀n,n+1≤cnt t n:=by
  intro m
  induction m with
  |zero=>intro t h;omega
  |succ m ih =>
   intro t h n;rw[z4e];exact mono _ (fun u hu k=>by have:=ih u (by have:=z0d hu;omega) k;omega) _
 exact key _ t (Zf _) 0
theorem z2i (t:Tm):cnt t 0≤4001:=zax _ t (Zf _) 0 (by omega)
end Go.Proofs.hq
end

section
namespace Go.Hb
open Go Go.RowKit
theorem zlm {H:Heap}(hw:H.wf) (A B C:Blk):∃H2,((H.new (some A)).new (some B)).new (some C)=H2∧HX H H2∧H2.get H.next=some A∧H2.get (H.next+1)=some B∧H2.get (H.next+2)=some C∧H2.next=H.next+3∧H2.wf:=by
 obtain⟨H2,e2,hx,g1,g2,hn,hw2⟩:=new2 hw A B;obtain⟨H3,e3,hx3,g3,hn3,hw3⟩:=new1 hw2 C;rw[hn] at g3 hn3;exact⟨H3,by rw[e2,e3],hx.trans hx3,hx3.get hw2 g1,hx3.get hw2 g2,g3,hn3,hw3⟩
end Go.Hb
namespace Go.Proofs.hq
open Go Go.RowKit Go.Hb
variable {ok:Ok}
set_option maxRecDepth 10000
attribute [local irreducible] LX LG EL STG SOP SGO SGD SAL SRD SEF SEG SLK SCK ES
theorem F_ev {s:ByteArray}{ad:Addr}{n c:Nat}{cs:List Value}{H:Heap}(hn:0 < n) (hm:n≤1000) (hl:H.load ad (n*6)=some cs) (hone:cs.all one=true) (hw:H.wf) :
  EvF Tryz.prog okT 24 [.string s,.slice (some ad) n c] H fun v H'=>v=.agg ⟨[.int .i64 5,.string s,.string Ze,.int .u64 0,.int .i64 0,.slice (some ⟨H.next+2,0,none⟩) n n]⟩∧H'.get (H.next+2)=some (.row cs 25)∧H'.next=H.next+3∧HX H H':=by
 have ean:apOk Tryz.prog 23 25 6:=ap23;refine EvF.enter rfl Tryz.func24 (by decide) rfl ?_;(repeat refine EvC.seq ?_);refine EvC.reg ?_;simp only[sA,initTm,dAlloc,zr25];obtain⟨H2,e2,hx2,g2,hn2,hw2⟩:=new1 hw (.row zero6 25);simp only[e2]
 repeat' (first|refine EvC.seq ?_|(refine EvC.reg ?_;simp only[sB,Za,Value.cells,reduceCtorEq,layC,zsc]))
 obtain⟨H3,e3,hx3,g3,hn3,hw3⟩:=new1 hw2 (.row [] 25);simp only[e3];have e7:dAp Tryz.prog #[23,23] (.slice (some ⟨H2.next,0,none⟩) 0 0) (.slice (some ad) n c) H3=_:=z4c ean hn (by unfold most;omega) ((hx2.trans hx3).load hw hl) hone g3 (by simp) rfl;have hx4:HX H ((H3.put H2.next none).new (some (.row cs 25))):=((hx2.trans hx3).put (by omega) (by omega) none).new _;have g4:((H3.put H2.next none).new (some (.row cs 25))).get H3.next=some (.row cs 25):=z0o;have g4':((H3.put H2.next none).new (some (.row cs 25))).get H.next=some (.row zero6 25):=by
  rw[z1s (by rw[z06];omega),z30 (by omega)];exact hx3.get hw2 g2
 obtain⟨H4,e4⟩:∃H4,(H3.put H2.next none).new (some (.row cs 25))=H4:=⟨_,rfl⟩
 have hn4:H4.next=H3.next+1:=by rw[←e4];rfl
 have e8:(H3.put H2.next none).new (some (.row (List.take (0*6) []++cs) 25))=H4:=e4;rw[e8] at e7;rw[e4] at hx4 g4 g4';have en:H3.next=H.next+2:=by omega
 repeat' (first|(refine EvC.ret ?_)|(refine z0i ?_;simp only[sB,Za,Zb,Value.cells,one,reduceCtorEq,Zk,layC,bd25,st25,e7,g4']))
 refine z0a rfl (by simp only[sB,Za,reduceCtorEq];rfl) (by simp only[sB,Zb,cutC,ld25];rfl) ⟨by rw[en],?_,?_,hx4.pt (Zg _) g4' _⟩
 ·rw[get_put,if_neg (by omega),←en];exact g4
 ·rw[z06];omega
theorem zln {s:ByteArray}{t u:Tm}{a a':Option Addr}{c c':Nat}{H:Heap}(hw:H.wf) :
  EvF Tryz.prog okT 23 [.string s,.agg ⟨six t a c⟩,.agg ⟨six u a' c'⟩] H fun v H'=>∃b,v=.agg ⟨[.int .i64 5,.string s,.string Ze,.int .u64 0,.int .i64 0,.slice (some ⟨b,0,none⟩) 2 2]⟩ ∧
   H'.get b=some (.row (six t a c++six u a' c') 25)∧H.next≤b∧b < H'.next∧HX H H':=by
 refine EvF.enter rfl Tryz.func23 (by decide) rfl ?_;(repeat refine EvC.seq ?_);refine EvC.reg ?_;simp only[sB,initTm,dBox,dAlloc,Za,Zb,Value.cells,one,reduceCtorEq,zr25];obtain⟨H2,e2,hx2,gp,gq,gr,hn2,hw2⟩:=zlm hw (.row (six t a c) 25) (.row (six u a' c') 25) (.row zero6 25);simp only[e2];have q1:=row6 gp;have q2:=row6 gq
 repeat' (first|refine EvC.seq ?_|(refine EvC.reg ?_;simp only[sB,Za,Zb,Value.cells,one,reduceCtorEq,Zk,layC,ld25,z6r,cl24,q1,q2]))
 obtain⟨H3,e3,hx3,g3,hn3,hw3⟩:=new1 hw2 (.row (six t a c++six u a' c') 25);have e3':=e3;simp only[six,ZK,List.nil_append] at e3';simp only[e3'];have l3:H3.load ⟨H2.next,0,none⟩ (2*6)=some (six t a c++six u a' c'):=by unfold Heap.load Heap.cells;simp only[g3];rfl
 refine(F_ev (by omega) (by omega) l3 rfl hw3).mono ?_;rintro v H4 ⟨rfl,g4,hn4,hx4⟩;have gr4:=hx4.get hw3 (hx3.get hw2 gr);have hx24:=(hx2.trans hx3).trans hx4
 repeat' (first|(refine EvC.ret ?_)|(refine z0i ?_;simp only[sB,Zb,one,st25,gr4]))
 exact z0a rfl (by simp only[sB,Za,reduceCtorEq];rfl) (by simp only[sB,Zb,cutC,ld25]) ⟨H3.next+2,rfl,by rw[get_put,if_neg (by omega)];exact g4,by omega,by rw[z06];omega,hx24.pt (by omega) gr4 _⟩
end Go.Proofs.hq
end

section
namespace Go.Proofs.hq
open Go Go.RowKit Go.Hb
def nd:Tm→Nat
 |.mk _ _ _ _ _ l=>1+ndL l
where ndL:List Tm→Nat
 |[]=>0
 |t :: l=>nd t+ndL l
theorem z1p (t:Tm):nd t=1+nd.ndL t.args:=by obtain⟨k,s,u,b,v,l⟩:=t;rw[nd];rfl
theorem z9k:∀(l:List Tm),(∀t∈l,∀n,n≤cnt t n)→∀n,n≤cntL l n
 |[],_,n=>by rw[cntL];exact Zg _
 |t :: l,h,n=>by
  rw[cntL];split
  ·exact Zg _
  ·exact Zo (h t (by simp) n) (z9k l (fun u hu=>h u (Zn _ hu)) _)
theorem zhs:∀(m:Nat) (t:Tm),SizeOf.sizeOf t < m→∀n,n+1≤cnt t n
 |0,_,h,_=>by omega
 |m+1,t,h,n=>by
  rw[z4e];exact z9k _ (fun u hu k=>by have:=zhs m u (by have:=z0d hu;omega) k;omega) _
theorem zlo:∀(l:List Tm),(∀t∈l,∀n,cnt t n≤4000→cnt t n=n+nd t)→∀n,cntL l n≤4000→cntL l n=n+nd.ndL l
 |[],_,n,_=>by rw[cntL,nd.ndL];rfl
 |t :: l,h,n,hn=>by
  rw[cntL] at hn ⊢;split at hn
  ·omega
  ·rename_i h4;rw[if_neg h4];have hm:cnt t n≤cntL l (cnt t n):=z9k l (fun u _ k=>by have:=zhs _ u (Zf _) k;omega) _;rw[zlo l (fun u hu=>h u (Zn _ hu)) _ hn,h t (by simp) n (by omega),nd.ndL];omega
theorem zaz:∀(m:Nat) (t:Tm),SizeOf.sizeOf t < m→∀n,cnt t n≤4000→cnt t n=n+nd t
 |0,_,h,_,_=>by omega
 |m+1,t,h,n,hn=>by
  rw[z4e] at hn ⊢;rw[zlo _ (fun u hu k=>zaz m u (by have:=z0d hu;omega) k) _ hn,z1p];omega
end Go.Proofs.hq
end

section
namespace Go.Hb
open Go Go.RowKit
section
variable {P:Program}{ok:Ok}{fn:Func}{tm:Tr Value}{H:Heap}{K:Value→Heap→Prop}
theorem z4y {a q p:Tmp}{t:TypeId}{ad:Addr}{v u y:Value}(h:fn.results.toList=[.tmp q,.cell a t,.tmp p]) (hu:tm.get q=some u) (hv:tm.get a=some (.pointer (some ad))) (hd:dLoad P t (.pointer (some ad)) H=some (.val v H)) (hy:tm.get p=some y)
  (hk:K (.tuple ⟨[u,v,y]⟩) H):Ex.leave P ok fn K .ret ⟨tm,[],H⟩:=by
 refine EvV.now (v:=.tuple ⟨[u,v,y]⟩) ?_ hk;have hl:dload P t ad H=some v:=by
  unfold dLoad at hd;simp only at hd;cases h1:dload P t ad H with
  |none=>rw[h1] at hd;simp at hd
  |some w=>rw[h1] at hd;simp at hd;rw[hd]
 simp [dres,h,dresL,dres1,hv,hl,hu,hy]
end
end Go.Hb
namespace Go.Proofs.hq
open Go Go.RowKit Go.Hb
variable {ok:Ok}
set_option maxRecDepth 10000
attribute [local irreducible] LX LG EL STG SOP SGO SGD SAL SRD SEF SEG SLK SCK ES
def elL:Tm→List Tm
 |.mk k s _ _ _ [x,y]=>if k=5∧s=dot then x :: elL y else []
 |_=>[]
def elR:Tm→Tm
 |.mk k s u b v [x,y]=>if k=5∧s=dot then elR y else .mk k s u b v [x,y]
 |t=>t
def isCons (t:Tm):Prop:=t.kind=5∧t.name=dot∧t.args.length=2
theorem z4h {t u:Tm}{a a':Option Addr}{c c':Nat}(h:six t a c=six u a' c'):t.kind=u.kind∧t.name=u.name∧t.num=u.num∧t.bits=u.bits∧t.var=u.var∧a=a'∧c=c':=by
 simp only[six,List.cons.injEq,Value.int.injEq,Value.string.injEq,Value.slice.injEq,true_and,and_true] at h;exact⟨h.1,h.2.1,h.2.2.1,h.2.2.2.1,h.2.2.2.2.1,h.2.2.2.2.2.1,h.2.2.2.2.2.2.2⟩
end Go.Proofs.hq
end

section
namespace Go.Hb
open Go Go.RowKit
def MapR (H:Heap) (r:Nat) (M:List (Int × Value)):Prop:=∃es clock,H.get r=some (.map es clock)∧es.map (fun e=>(e.key,e.val))=M.map fun p=>(Value.int .i64 p.1,p.2)
section
variable {P:Program}{H:Heap}
theorem z9l:∀(es:List MapEntry) (M:List (Int × Value)) (n:Int) (i:Nat),es.map (fun e=>(e.key,e.val))=M.map (fun p=>(Value.int .i64 p.1,p.2)) →
  Instr.findNow (.int .i64) (.int .i64 n) (keysOf es) i=some ((M.findIdx? fun p=>p.1 == n).map fun j=>(i+j,.bool false))
 |[],[],_,_,_=>rfl
 |[],_ :: _,_,_,h=>by simp at h
 |_ :: _,[],_,_,h=>by simp at h
 |e :: es,p :: M,n,i,h=>by
  simp only[ZC,List.cons.injEq,Prod.mk.injEq] at h;have hk:e.key=.int .i64 p.1:=h.1.1;have ih:=z9l es M n (i+1) h.2;unfold keysOf at ih ⊢;rw[ZC];unfold Instr.findNow;simp only[hk,Instr.sameNow,if_true,List.findIdx?_cons];by_cases he:p.1=n
  ·subst he;simp
  ·have h1:(n == p.1)=false:=by simp;omega
   have h2:(p.1 == n)=false:=by simp;omega
   simp only[h1,h2];rw[ih];cases M.findIdx? fun p=>p.1 == n with
   |none=>rfl
   |some j=>simp only[Option.map_some,Option.some.injEq,Prod.mk.injEq,and_true,Zd,if_false];omega
theorem z9m {kt:TypeId}{emp:Bool}{es:List MapEntry}{M:List (Int × Value)}{n:Int}(hk:P.underlying kt=some (.int .i64)) (h:es.map (fun e=>(e.key,e.val))=M.map fun p=>(Value.int .i64 p.1,p.2)) :
  dfind P emp kt (.int .i64 n) es=some (M.findIdx? fun p=>p.1 == n):=by
 have hu:pureRun P (underlying kt)=some (.int .i64):=z0s hk;have h1:pureRun P (Instr.checkKey emp 10000 kt (.int .i64 n))=some ():=by
  unfold Instr.checkKey;rw[z0n,hu,Option.bind_some];rfl
 have h2:pureRun P (Instr.findKey kt (.int .i64 n) (keysOf es))=some ((M.findIdx? fun p=>p.1 == n).map fun j=>(j,.bool false)):=by
  unfold Instr.findKey;rw[z0n,hu,Option.bind_some,z9l es M n 0 h];simp only[Nat.zero_add];rfl
 unfold dfind;rw[h1,h2];simp only[flat];cases M.findIdx? fun p=>p.1 == n<;>rfl
def mGet (M:List (Int × Value)) (n:Int):Option Value:=(M.find? fun p=>p.1 == n).map (·.2)
theorem zce {M:List (Int × Value)}{n:Int}:(M.findIdx? fun p=>p.1 == n)=none∧mGet M n=none∨∃i v,(M.findIdx? fun p=>p.1 == n)=some i∧M[i]?=some (n,v)∧mGet M n=some v:=by
 unfold mGet
 induction M with
 |nil=>left;exact⟨rfl,rfl⟩
 |cons p M ih =>
  by_cases hp:p.1=n
  ·right;have hb:(p.1 == n)=true:=by simp [hp]
   refine⟨0,p.2,by simp [List.findIdx?_cons,hb],by rw[←hp];rfl,by simp [List.find?_cons,hb]⟩
  ·have hb:(p.1 == n)=false:=by simp [hp]
   rcases ih with ⟨h1,h2⟩|⟨i,v,h1,h2,h3⟩
   ·left;exact⟨by simp [List.findIdx?_cons,hb];simpa using h1,by simpa [List.find?_cons,hb] using h2⟩
   ·right;refine⟨i+1,v,by simp [List.findIdx?_cons,hb,h1],by simpa using h2,by simpa [List.find?_cons,hb] using h3⟩
def dLk (P:Program) (t:TypeId) (m k:Value) (ok:Bool) (H:Heap):Option Dr:=dlookup P t m k ok H
def dUp (P:Program) (t:TypeId) (m k v:Value) (H:Heap):Option Dr:=dupdate P t m k v H
def mpOk (P:Program) (t kt et:TypeId) (z:Value):Prop:=P.underlying t=some (.map kt et)∧P.underlying kt=some (.int .i64)∧pureRun P (zeroValue et)=some z∧flat z=true
theorem z1y {d:Option Tmp}{t:TypeId}{m k:Operand}{ok:Bool}{ty:TypeId}{pos:String}{af:Array Edge}{g:Option (Nat × Bool)}{ρ:Operand→Value}:dop P ⟨d,.lookup t m k ok,ty,pos,af,g⟩ ρ H=dLk P t (ρ m) (ρ k) ok H:=_root_.id rfl
theorem z4i {d:Option Tmp}{t:TypeId}{m k v:Operand}{ty:TypeId}{pos:String}{af:Array Edge}{g:Option (Nat × Bool)}{ρ:Operand→Value}:dop P ⟨d,.mapUpdate t m k v,ty,pos,af,g⟩ ρ H=dUp P t (ρ m) (ρ k) (ρ v) H:=_root_.id rfl
theorem z66 {d:Option Tmp}{t:TypeId}{ty:TypeId}{pos:String}{af:Array Edge}{g:Option (Nat × Bool)}{ρ:Operand→Value}:dop P ⟨d,.makeMap t none,ty,pos,af,g⟩ ρ H=some (.val (.map (some H.next)) (H.new (some (.map [] 0)))):=_root_.id rfl
theorem MapR.new:MapR (H.new (some (.map [] 0))) H.next []:=⟨[],0,by rw[Heap.get_new,if_pos rfl],rfl⟩
theorem MapR.heap {H':Heap}{r:Nat}{M:List (Int × Value)}(h:MapR H r M) (hk:H'.get r=H.get r):MapR H' r M:=by
 obtain⟨es,clock,hg,he⟩:=h;exact⟨es,clock,hk.trans hg,he⟩
theorem MapR.lt {r:Nat}{M:List (Int × Value)}(h:MapR H r M) (hw:H.wf):r < H.next:=by obtain⟨es,clock,hg,he⟩:=h;exact hw _ _ hg
theorem z6x {t kt et:TypeId}{z v:Value}{r:Nat}{M:List (Int × Value)}{n:Int}{ok:Bool}(h:mpOk P t kt et z) (hm:MapR H r M) (hv:mGet M n=some v) :
  dLk P t (.map (some r)) (.int .i64 n) ok H=some (.val (if ok then .tuple #[v,.bool true] else v) H):=by
 obtain⟨h1,h2,h3,h4⟩:=h;obtain⟨es,clock,hg,he⟩:=hm;rcases zce (M:=M) (n:=n) with ⟨_,h5⟩|⟨i,u,h5,h6,h7⟩
 ·rw[h5] at hv;cases hv
 ·rw[h7] at hv;cases hv;have hi:∃e,es[i]?=some e∧e.val=v:=by
   have:=congrArg (·[i]?) he;simp only[ZG,h6,Option.map_some,Option.map_eq_some_iff,Prod.mk.injEq] at this;obtain⟨e,h8,-,h9⟩:=this;exact⟨e,h8,h9⟩
  obtain⟨e,h8,h9⟩:=hi;simp only[dLk,dlookup,h1,hg,z9m h2 he,h5,h8,h9]
theorem z6y {t kt et:TypeId}{z:Value}{r:Nat}{M:List (Int × Value)}{n:Int}{ok:Bool}(h:mpOk P t kt et z) (hm:MapR H r M) (hv:mGet M n=none) :
  dLk P t (.map (some r)) (.int .i64 n) ok H=some (.val (if ok then .tuple #[z,.bool false] else z) H):=by
 obtain⟨h1,h2,h3,h4⟩:=h;obtain⟨es,clock,hg,he⟩:=hm;rcases zce (M:=M) (n:=n) with ⟨h5,_⟩|⟨i,u,h5,h6,h7⟩
 ·simp only[dLk,dlookup,h1,hg,z9m h2 he,h5,h3,h4,if_true]
 ·rw[h7] at hv;cases hv
theorem zg2 {t kt et:TypeId}{z v:Value}{r:Nat}{M:List (Int × Value)}{n:Int}(h:mpOk P t kt et z) (hm:MapR H r M) (hv:mGet M n=none) :
  ∃B,dUp P t (.map (some r)) (.int .i64 n) v H=some (.val undef (H.put r (some B)))∧MapR (H.put r (some B)) r (M++[(n,v)]):=by
 obtain⟨h1,h2,h3,h4⟩:=h;obtain⟨es,clock,hg,he⟩:=hm;rcases zce (M:=M) (n:=n) with ⟨h5,_⟩|⟨i,u,h5,h6,h7⟩
 ·refine⟨.map (es++[{ key:=.int .i64 n,val:=v,born:=clock }]) (clock+1),by simp only[dUp,dupdate,h1,hg,z9m h2 he,h5],_,_,by rw[Heap.get_put,if_pos rfl],?_⟩;rw[ZD,ZD,he];rfl
 ·rw[h7] at hv;cases hv
theorem z9n {M:List (Int × Value)}{n m:Int}{v:Value}(h:mGet M n=none):mGet (M++[(n,v)]) m=if m=n then some v else mGet M m:=by
 unfold mGet at *;rw[List.find?_append];by_cases hm:m=n
 ·subst hm;have:M.find? (fun p=>p.1 == m)=none:=by simpa using h
  rw[if_pos rfl,this];simp
 ·rw[if_neg hm];have:((n == m):Bool)=false:=by simp;omega
  simp [List.find?_cons,this]
end
end Go.Hb
end

section
namespace Go.Hb
open Go Go.RowKit
theorem HK.step {S S':Nat→Prop}{A B C:Heap}(h:HK S A B) (k:HK S' B C) (hs:∀n,n < A.next→S' n→S n):HK S A C :=
 ⟨Zo h.next k.next,fun i hi hn=>by rw[k.keep i (Zh hi h.next) (fun q=>hn (hs i hi q)),h.keep i hi hn],k.wf⟩
end Go.Hb
namespace Go.Proofs.hq
open Go Go.RowKit Go.Hb
variable {ok:Ok}
set_option maxRecDepth 10000
attribute [local irreducible] LX LG EL STG SOP SGO SGD SAL SRD SEF SEG SLK SCK ES
mutual
def occ:Tm→List Int
 |.mk k _ _ _ v l=>(if k=1 then [v] else [])++occL l
def occL:List Tm→List Int
 |[]=>[]
 |t :: l=>occ t++occL l
end
theorem z2d (t:Tm):occ t=(if t.kind=1 then [t.var] else [])++occL t.args:=by obtain⟨k,s,u,b,v,l⟩:=t;rw[occ];rfl
theorem z32 {l:List Tm}{i:Nat}(h:i < l.length):occL (l.take (i+1))=occL (l.take i)++occ l[i]:=by
 have app:∀(a b:List Tm),occL (a++b)=occL a++occL b:=fun a b=>by
  induction a with
  |nil=>rw[occL];rfl
  |cons t a ih=>rw[ZK,occL,occL,ih,List.append_assoc]
 rw[←ZA h,app,occL,occL,List.append_nil]
theorem zoa (a b:List Tm):occL (a++b)=occL a++occL b:=by
 induction a with
 |nil=>rw[occL];rfl
 |cons t a ih=>rw[ZK,occL,occL,ih,List.append_assoc]
theorem z6z (l:List Tm) (i:Nat):occL (l.take i) <+: occL l:=by
 have:=zoa (l.take i) (l.drop i);rw[List.take_append_drop] at this;rw[this];exact List.prefix_append _ _
structure Each (g:FuncId) (cap:Array Value) (H0:Heap) (tot:List Int) (J:(Nat→Prop)→List Int→Heap→Prop):Prop where
 base:∀S pre H,J S pre H→HX H0 H
 low:∀S pre H,J S pre H→∀n,S n→n < H.next
 step:∀S pre n H,J S pre H→(pre++[n]) <+: tot→EvF Tryz.prog okT g ([.int .i64 n]++cap.toList) H fun _ H'=>∃S',J S' (pre++[n]) H'∧HK S H H'∧∀n,S' n→S n∨H.next≤n
 stay:∀S pre H H',J S pre H→HX H H'→J S pre H'
set_option maxHeartbeats 4000000 in
theorem zlp {g:FuncId}{cap:Array Value}{J:(Nat→Prop)→List Int→Heap→Prop}{H0:Heap}{tot:List Int}(hw0:H0.wf) (hg:callable Tryz.prog g=true) (E:Each g cap H0 tot J) :
  ∀(m:Nat) {t:Tm}{cs:List Value}{H:Heap}{S:Nat→Prop}{pre:List Int},SizeOf.sizeOf t < m→RepT H0 t cs→J S pre H→(pre++occ t) <+: tot →
  EvF Tryz.prog okT 83 [.agg ⟨cs⟩,.func (.func g) #[] cap] H fun _ H'=>∃S',J S' (pre++occ t) H'∧HK S H H'∧∀n,S' n→S n∨H.next≤n:=by
 intro m
 induction m with
 |zero=>intro t cs H S pre h;omega
 |succ m ih =>
 intro t cs H S pre hsz r hj htot;have hw:=(E.base _ _ _ hj).wf;have hlow:=E.low _ _ _ hj;obtain⟨a,c,cells,rfl,-,-,-,-,-,rl⟩:=r.six;have hm:=rl.max;refine EvF.enter rfl Tryz.func83 (by decide) rfl ?_;(repeat refine EvC.seq ?_);refine EvC.reg ?_;simp (disch:=first|omega|rfl) only[sB,initTm,dBox,Value.cells,one,reduceCtorEq];obtain⟨H2,e2,hx2,gp,hn2,hw2⟩:=new1 hw (.row (six t a c) 25);simp only[e2];clear e2;have q1:=row6 gp;have hj2:=E.stay _ _ _ _ hj hx2;(repeat refine EvC.seq ?_);refine EvC.reg ?_;simp only[sB,Za,reduceCtorEq,z0g,ld3,q1];refine EvC.join (fun st=>∃tm H' S',st=⟨tm,[],H'⟩∧tm.get 1=some (.func (.func g) #[] cap)∧tm.get 2=some (.pointer (some ⟨H.next,0,none⟩))∧H'.get H.next=some (.row (six t a c) 25) ∧
   J S' (pre++(if t.kind=1 then [t.var] else [])) H'∧HK S H H'∧(∀n,S' n→S n∨H.next < n)) ?_ ?_
 ·by_cases k1:t.kind=1
  ·repeat' (first|(refine EvC.reg ?_;simp only[sB,Za,reduceCtorEq,ld3,z4m,z0k k1,q1,z97,z62 hg])|(refine EvC.condT ?_ ?_;simp only[sB,Za,reduceCtorEq,z0k k1];refine z07 ?_))
   refine(E.step S pre t.var H2 hj2 (by refine List.IsPrefix.trans ?_ htot;rw[z2d,if_pos k1,←List.append_assoc];exact List.prefix_append _ _)).mono ?_;rintro v H3 ⟨S',hj3,hk3,hS3⟩
   skip
   exact⟨_,_,S',rfl,(by simp only[sG,Za,reduceCtorEq]),(by simp only[sG,Za,reduceCtorEq]),hk3.get hw2 gp (fun hs=>by have:=hlow _ hs;omega),by rw[if_pos k1];exact hj3,(hx2.hk S).trans hk3,fun n hn=>by rcases hS3 n hn with h|h;exact .inl h;exact .inr (by omega)⟩
  ·repeat' (first|(refine EvC.skip ?_;try simp only[z00,z0m k1])|(refine EvC.condF ?_ ?_;simp only[sB,Za,reduceCtorEq,z0m k1];refine z07 ?_))
   exact⟨_,_,S,rfl,(by simp only[sG,Za,reduceCtorEq]),(by simp only[sG,Za,reduceCtorEq]),gp,by rw[if_neg k1,List.append_nil];exact hj2,hx2.hk S,fun n hn=>.inl hn⟩
 rintro st ⟨tm,H3,S3,rfl,t1,t2,gp3,hj3,hk3,hS3⟩;have q1:=row6 gp3
 repeat' (first|refine EvC.seq ?_|refine EvC.block ?_|(refine EvC.reg ?_;simp only[sB,Za,z0j,ld23,ln23,t2,q1]))
 refine EvC.loop (fun k st=>∃tm H' i S',st=⟨tm,[],H'⟩∧k=t.args.length - i∧i≤t.args.length∧tm.get 1=some (.func (.func g) #[] cap)∧tm.get 14=some (.slice a t.args.length c)∧tm.get 15=some (.int .i64 t.args.length)∧tm.get 16=some (.int .i64 (i:Nat)) ∧
   J S' (pre++(if t.kind=1 then [t.var] else [])++occL (t.args.take i)) H'∧HK S H H'∧(∀n,S' n→S n∨H.next < n)) ?_ t.args.length _ ?_
 ·rintro k st ⟨tm,H',i,S',rfl,rfl,hi,t1,t14,t15,t16,hj',hk',hS'⟩;have hx':=E.base _ _ _ hj';by_cases hlt:i < t.args.length
  ·obtain⟨b,o,a1,c1,rfl,hld,hr1⟩:=rl.el hlt;have hld1:=hx'.load hw0 hld
   repeat' (first|refine EvC.seq ?_|refine EvC.block ?_|(refine EvC.skip ?_;try simp only[z00])|(refine EvC.reg ?_;simp (disch:=first|omega|rfl) only[sB,dAlloc,Za,Zb,one,cutC,ia23,ld25,zr25,st25,cl83,t1,t14,t15,t16,decl hlt,hld1])|(refine EvC.condT ?_ ?_;simp only[sB];refine z07 ?_))
   obtain⟨H4,e4,hx4,g4,hn4,hw4⟩:=z0l hx'.wf (.row zero6 25) (.row (six t.args[i] a1 c1) 25);simp only[e4];have hs:=z15 (Zc hlt);refine(ih (by omega) hr1 (E.stay _ _ _ _ hj' hx4) (by refine List.IsPrefix.trans ?_ htot;rw[List.append_assoc,←z32 hlt,List.append_assoc,z2d];exact(List.prefix_append_right_inj _).2 ((List.prefix_append_right_inj _).2 (z6z _ _)))).mono ?_;rintro v H5 ⟨S5,hj5,hk5,hS5⟩
   repeat' (first|(refine EvC.reg ?_;simp (disch:=first|omega|rfl) only[sB,Za,t16,z0b]))
   have hk45:HK S H H5:=(hk'.trans (hx4.hk S)).step hk5 fun n hn hq=>by rcases hS' n hq with h|h;exact h;omega
   refine⟨t.args.length - (i+1),by omega,_,_,i+1,S5,rfl,rfl,by omega,(by simp only[sG,Za,t1]),(by simp only[sG,Za,t14]),(by simp only[sG,Za,t15]),(by simp only[sB,Za];rfl),?_,hk45,?_⟩
   ·rw[z32 hlt,←List.append_assoc];exact hj5
   ·intro n hn;have h1:=hk'.next;rcases hS5 n hn with h|h
    ·exact hS' n h
    ·exact .inr (by omega)
  ·repeat' (first|refine EvC.seq ?_|(refine EvC.exit ?_;try simp only[sB])|(refine EvC.reg ?_;simp only[sA,t15,t16,decn hlt])|(refine EvC.condF ?_ ?_;simp only[sB];refine z07 ?_))
   refine z2r rfl ⟨S',?_,hk',fun n hn=>by rcases hS' n hn with h|h;exact .inl h;exact .inr (by omega)⟩;rw[Zi (by omega),List.append_assoc,←z2d] at hj';exact hj'
 ·exact⟨_,_,0,S3,rfl,rfl,by omega,(by simp only[sG,Za,t1]),(by simp only[sG,Za]),(by simp only[sG,Za]),(by simp only[sB,Za];rfl),by rw[List.take_zero,occL,List.append_nil];exact hj3,hk3,hS3⟩
def IntL (H:Heap) (T:TypeId) (S:Nat→Prop) (L:List Int) (v:Value):Prop :=
 (L=[]∧v=.slice none 0 0)∨∃b c,v=.slice (some ⟨b,0,none⟩) L.length c∧L.length≤c∧c≤maxLen∧H.get b=some (.row (L.map fun n=>Value.int .i64 n) T)∧S b
theorem zlq (L:List Int):(L.map fun n=>Value.int .i64 n).all one=true:=by
 rw[List.all_eq_true];intro v hv;obtain⟨n,-,rfl⟩:=List.mem_map.1 hv;rfl
theorem IntL.push {P:Program}{T t:TypeId}(hp:apOk P t T 1) {H:Heap}{S S2:Nat→Prop}{L:List Int}{n:Int}{v:Value}{ad:Addr}{c1:Nat}(h:IntL H T S L v) (hw:H.wf) (hl:H.load ad (1*1)=some [.int .i64 n]) (hm:L.length+1≤most)
  (h2:S2 H.next):∃H2 v2,dAp P #[t,t] v (.slice (some ad) 1 c1) H=some (.val v2 H2)∧IntL H2 T S2 (L++[n]) v2∧HK S H H2∧H2.next=H.next+1:=by
 have hmax:L.length+1≤maxLen:=Zo hm (by simp [most,maxLen]);rcases h with ⟨rfl,rfl⟩|⟨b,c,rfl,hlc,hcm,hg,hs⟩
 ·exact⟨_,_,z4r hp (by omega) hm hl rfl,.inr ⟨H.next,1,rfl,Zg _,hmax,z0o,h2⟩,((HX.refl hw).new _).hk _,rfl⟩
 ·refine⟨_,_,z4c hp (by omega) hm hl rfl hg (by simp) (by rw[Zi (by simp)];exact zlq L),.inr ⟨H.next,L.length+1,by simp,by simp,hmax,?_,h2⟩,((HK.refl hw).put (.inl hs) (hw _ _ hg) none).new _,rfl⟩;show ((H.put b none).new _).get (H.put b none).next=_;rw[z0o,Zi (by simp),ZD];rfl
theorem IntL.heap {H H':Heap}{T:TypeId}{S:Nat→Prop}{L:List Int}{v:Value}(h:IntL H T S L v) (hk:∀n,S n→n < H.next→H'.get n=H.get n) (hw:H.wf):IntL H' T S L v:=by
 rcases h with h|⟨b,c,h1,h2,h3,h4,h5⟩
 ·exact .inl h
 ·exact .inr ⟨b,c,h1,h2,h3,(hk b h5 (hw _ _ h4)).trans h4,h5⟩
theorem IntL.slice {H:Heap}{T:TypeId}{S:Nat→Prop}{L:List Int}{v:Value}(h:IntL H T S L v):∃a c,v=.slice a L.length c∧L.length≤c∧c≤maxLen:=by
 rcases h with ⟨rfl,rfl⟩|⟨b,c,rfl,h2,h3,-⟩
 ·exact⟨none,0,rfl,Zg _,Zs _⟩
 ·exact⟨_,c,rfl,h2,h3⟩
def addU (L:List Int) (n:Int):List Int:=if n∈L then L else L++[n]
def uniq (l:List Int):List Int:=l.foldl addU []
theorem z40 (l:List Int) (n:Int):uniq (l++[n])=addU (uniq l) n:=by simp [uniq]
theorem zob (L:List Int) (n:Int):(addU L n).length≤L.length+1:=by unfold addU;split<;>simp
theorem z5h (l:List Int):(uniq l).length≤l.length:=by
 have h:∀(l L:List Int),(l.foldl addU L).length≤L.length+l.length:=by
  intro l
  induction l with
  |nil=>intro L;simp
  |cons n l ih=>intro L;rw[List.foldl_cons];have:=ih (addU L n);have:=zob L n;rw[ZE];omega
 have:=h l [];simpa [uniq] using this
theorem zjc (l:List Int):(uniq l).Nodup:=by
 have h:∀(l L:List Int),L.Nodup→(l.foldl addU L).Nodup:=by
  intro l
  induction l with
  |nil=>intro L h;exact h
  |cons n l ih =>
   intro L h;refine ih _ ?_;unfold addU;split
   ·exact h
   ·rename_i hn;rw[List.nodup_append];exact⟨h,by simp,fun a ha b hb=>by simp at hb;subst hb;exact fun e=>hn (e ▸ ha)⟩
 exact h l [] List.nodup_nil
theorem IntL.at {H:Heap}{T:TypeId}{S:Nat→Prop}{L:List Int}{a:Option Addr}{n c:Nat}(h:IntL H T S L (.slice a n c)) {i:Nat}(hi:i < L.length):∃b,a=some ⟨b,0,none⟩∧n=L.length∧H.load ⟨b,i,none⟩ 1=some [.int .i64 L[i]]∧S b:=by
 rcases h with ⟨rfl,-⟩|⟨b,c',h1,-,-,h2,h3⟩
 ·simp at hi
 ·cases h1;refine⟨b,rfl,rfl,?_,h3⟩;unfold Heap.load Heap.cells;simp only[h2];have:(List.drop i (L.map fun n=>Value.int .i64 n)).take 1=[.int .i64 L[i]]:=by
   rw[ZB (by simpa using hi)];simp
  rw[this];rfl
end Go.Proofs.hq
end

section
namespace Go.Proofs.hq
open Go Go.RowKit Go.Hb
variable {ok:Ok}
set_option maxRecDepth 10000
attribute [local irreducible] LX LG EL STG SOP SGO SGD SAL SRD SEF SEG SLK SCK ES
theorem mapI:mpOk Tryz.prog 103 3 3 (.int .i64 0):=⟨Tryz.underlying103,Tryz.underlying3,by kernel_rfl,rfl⟩
def VarJ (H0:Heap) (pm po r:Nat) (S:Nat→Prop) (pre:List Int) (H:Heap):Prop :=
 HX H0 H∧H.get pm=some (.row [.map (some r)] 103)∧∃v M Sb,H.get po=some (.row [v] 77)∧MapR H r M∧(∀n,mGet M n=none↔n∉uniq pre)∧IntL H 3 Sb (uniq pre) v ∧
  (∀n,S n↔(n=r∨n=po∨Sb n))∧(∀n,Sb n→n≠pm∧n≠po∧n≠r∧H0.next≤n∧n < H.next)
set_option maxHeartbeats 4000000 in
theorem zrk {H0:Heap}{pm po r:Nat}{tot:List Int}(h1:H0.next≤pm) (h2:H0.next≤po) (h3:H0.next≤r) (h12:pm≠po) (h13:pm≠r) (h23:po≠r) (hlen:tot.length≤most) :
  Each 84 #[.pointer (some ⟨pm,0,none⟩),.pointer (some ⟨po,0,none⟩)] H0 tot (VarJ H0 pm po r):=by
 have ean:apOk Tryz.prog 77 3 1:=ap77;refine⟨fun S pre H h=>h.1,?_,?_,?_⟩
 ·rintro S pre H ⟨hx,gm,v,M,Sb,go,hm,hk,hi,hS,hSb⟩ n hn;rcases (hS n).1 hn with rfl|rfl|h
  ·exact hm.lt hx.wf
  ·exact hx.wf _ _ go
  ·exact(hSb n h).2.2.2.2
 ·rintro S pre n H ⟨hx,gm,v,M,Sb,go,hm,hk,hi,hS,hSb⟩ hpre;have hw:=hx.wf;have lm:H.load ⟨pm,0,none⟩ 1=some [.map (some r)]:=by unfold Heap.load Heap.cells;simp only[gm];rfl
  have lo:H.load ⟨po,0,none⟩ 1=some [v]:=by unfold Heap.load Heap.cells;simp only[go];rfl
  refine EvF.enter rfl Tryz.func84 (by decide) rfl ?_;by_cases hn:n∈uniq pre
  ·have hg:mGet M n≠none:=fun h=>(hk n).1 h hn
   obtain⟨u,hu⟩:=Option.ne_none_iff_exists'.1 hg
   repeat' (first|refine EvC.seq ?_|(refine EvC.skip ?_)|(refine EvC.reg ?_;simp only[sB,initTm,Za,Zb,reduceCtorEq,znn,lm,z1y,z6x mapI hm hu,Zp])|(refine EvC.condF ?_ ?_;simp only[sB,Za,reduceCtorEq];refine z07 ?_))
   refine z2r rfl ⟨S,⟨hx,gm,v,M,Sb,go,hm,?_,?_,hS,hSb⟩,HK.refl hw,fun n h=>.inl h⟩
   ·rw[z40,addU,if_pos hn];exact hk
   ·rw[z40,addU,if_pos hn];exact hi
  ·have hg:mGet M n=none:=(hk n).2 hn;obtain⟨a,c,rfl,hc1,hc2⟩:=hi.slice;obtain⟨B,eu,hm2⟩:=zg2 (v:=.int .i64 (uniq pre).length) mapI hm hg;have lr:=hm.lt hw;have h23':(po=r)=False:=eq_false h23
   repeat' (first|refine EvC.seq ?_|(refine EvC.reg ?_;simp only[sB,initTm,Za,Zb,Value.cells,one,reduceCtorEq,cutC,layC,znn,ld77,ln77,zku,lm,lo,z1y,z4i,z6y mapI hm hg,eu,Zt,h23'])|(refine EvC.condT ?_ ?_;simp only[sB,Za,reduceCtorEq];refine z07 ?_))
   have hk1:HK S H (H.put r (some B)):=(HK.refl hw).put (.inl ((hS r).2 (.inl rfl))) lr _;have go1:(H.put r (some B)).get po=some (.row [.slice a (uniq pre).length c] 77):=by rw[get_put,if_neg h23];exact go
   have gm1:(H.put r (some B)).get pm=some (.row [.map (some r)] 103):=by rw[get_put,if_neg h13];exact gm
   have hi1:IntL (H.put r (some B)) 3 Sb (uniq pre) (.slice a (uniq pre).length c):=hi.heap (fun n hn _=>by rw[get_put,if_neg (hSb n hn).2.2.1]) hw;have hn1:(H.put r (some B)).next=H.next:=z06;have hx1:HX H0 (H.put r (some B)):=hx.put h3 lr _;generalize H.put r (some B)=H1 at *;obtain⟨H6,e6,hx6,g6,hn6,hw6⟩:=new1 hk1.wf (.row [.int .i64 n] 3);simp only[e6];rw[hn1] at g6;have l6:H6.load ⟨H.next,0,none⟩ (1*1)=some [.int .i64 n]:=by unfold Heap.load Heap.cells;simp only[g6];rfl
   have hul:=z5h pre;have hpl:=hpre.length_le;rw[Zw,List.length_singleton] at hpl;obtain⟨H7,v7,e7,hi7,hk7,hn7⟩:=IntL.push (S2:=fun n=>n=H6.next) (c1:=1) ean (hi1.heap (fun n _ hl=>hx6.keep n hl) hk1.wf) hw6 l6 (by omega) rfl;have go7:H7.get po=some (.row [.slice a (uniq pre).length c] 77):=hk7.get hw6 (hx6.get hk1.wf go1) (fun h=>(hSb _ h).2.1 rfl);have gm7:H7.get pm=some (.row [.map (some r)] 103):=hk7.get hw6 (hx6.get hk1.wf gm1) (fun h=>(hSb _ h).1 rfl);have lpo:=hk1.wf _ _ go1;have lpm:=hk1.wf _ _ gm1;have hm7:MapR H7 r (M++[(n,.int .i64 (uniq pre).length)]):=(hm2.heap (hx6.keep r (by omega))).heap (hk7.keep r (by omega) (fun h=>(hSb _ h).2.2.1 rfl));obtain⟨a7,c7,rfl,-⟩:=hi7.slice
   repeat' (first|(refine z0i ?_;simp only[sB,Za,one,reduceCtorEq,st77,e7,go7]))
   have hS7:HK S H (H7.put po (some (.row [.slice a7 (uniq pre++[n]).length c7] 77))):=((hk1.trans (hx6.hk S)).step hk7 fun m _ hm=>(hS m).2 (.inr (.inr hm))).put (.inl ((hS po).2 (.inr (.inl rfl)))) (hk7.wf _ _ go7) _;refine z2r rfl ⟨fun m=>m=r∨m=po∨m=H6.next,⟨hx.then hS7 fun m hm hs=>?_,by rw[get_put,if_neg h12];exact gm7,.slice a7 (uniq pre++[n]).length c7,M++[(n,.int .i64 (uniq pre).length)],fun m=>m=H6.next,by rw[get_put,if_pos rfl],?_,?_,?_,fun m=>Iff.rfl,?_⟩,hS7,?_⟩
   ·rcases (hS m).1 hs with rfl|rfl|h
    ·omega
    ·omega
    ·have:=hSb m h;omega
   ·exact hm7.heap (by rw[get_put,if_neg (fun h=>h23 h.symm)])
   ·intro m;rw[z9n hg,z40,addU,if_neg hn];by_cases hmn:m=n
    ·rw[if_pos hmn];simp [hmn]
    ·rw[if_neg hmn,hk m];simp [hmn]
   ·rw[z40,addU,if_neg hn];exact hi7.heap (fun m hm _=>by have hm:m=H6.next:=hm;rw[get_put,if_neg (by omega)]) hk7.wf
   ·rintro m rfl;rw[z06];exact⟨by omega,by omega,by omega,by have:=hx.next;omega,by omega⟩
   ·rintro m (rfl|rfl|rfl)
    ·exact .inl ((hS _).2 (.inl rfl))
    ·exact .inl ((hS _).2 (.inr (.inl rfl)))
    ·exact .inr (by omega)
 ·rintro S pre H H' ⟨hx,gm,v,M,Sb,go,hm,hk,hi,hS,hSb⟩ hx';exact⟨hx.trans hx',hx'.get hx.wf gm,v,M,Sb,hx'.get hx.wf go,hm.heap (hx'.keep _ (hm.lt hx.wf)),hk,hi.heap (fun n _ hl=>hx'.keep n hl) hx.wf,hS,fun n hn=>by have:=hSb n hn;have:=hx'.next;exact⟨by omega,by omega,by omega,by omega,by omega⟩⟩
set_option maxHeartbeats 4000000 in
theorem z85 {l:List Tm}{a:Option Addr}{c:Nat}{cells:Nat→List Value}{H:Heap}(rl:RepL H l a c cells) (hlen:(occL l).length≤most) (hw:H.wf) :
  EvF Tryz.prog okT 67 [.slice a l.length c] H fun v H'=>IntL H' 3 (Rg H.next H'.next) (uniq (occL l)) v∧HX H H':=by
 have hm:=rl.max;refine EvF.enter rfl Tryz.func67 (by decide) rfl ?_
 repeat' (first|refine EvC.seq ?_|refine EvC.block ?_|(refine EvC.reg ?_;simp (disch:=first|omega|rfl) only[sB,initTm,dAlloc,Za,one,reduceCtorEq,zr77,zsd,zse,ln23,z66]))
 have E:=zrk (H0:=H) (pm:=H.next+1+1) (po:=H.next) (r:=H.next+1) (tot:=occL l) (by omega) (by omega) (by omega) (by omega) (by omega) (by omega) hlen;refine EvC.loop (fun k st=>∃tm H' i S,st=⟨tm,[],H'⟩∧k=l.length - i∧i≤l.length∧tm.get 3=some (.pointer (some ⟨H.next,0,none⟩))∧tm.get 4=some (.pointer (some ⟨H.next+1+1,0,none⟩))∧tm.get 8=some (.slice a l.length c)∧tm.get 9=some (.int .i64 l.length)∧tm.get 10=some (.int .i64 (i:Nat)) ∧
   VarJ H (H.next+1+1) H.next (H.next+1) S (occL (l.take i)) H') ?_ l.length _ ?_
 ·rintro k st ⟨tm,H',i,S,rfl,rfl,hi,t3,t4,t8,t9,t10,hj⟩;have hx':=E.base _ _ _ hj;by_cases hlt:i < l.length
  ·obtain⟨b,o,a1,c1,rfl,hld,hr1⟩:=rl.el hlt;have hld1:=hx'.load hw hld
   repeat' (first|refine EvC.seq ?_|refine EvC.block ?_|(refine EvC.skip ?_;try simp only[z00])|(refine EvC.reg ?_;simp (disch:=first|omega|rfl) only[sB,dAlloc,Za,Zb,one,cutC,ia23,ld25,zr25,st25,cl83,t3,t4,t8,t9,t10,decl hlt,hld1,List.map_toArray])|(refine EvC.condT ?_ ?_;simp only[sB];refine z07 ?_))
   obtain⟨H4,e4,hx4,g4,hn4,hw4⟩:=z0l hx'.wf (.row zero6 25) (.row (six l[i] a1 c1) 25);simp only[e4];have htake:=z32 hlt;refine(zlp hw (by kernel_rfl) E _ (Zf _) hr1 (E.stay _ _ _ _ hj hx4) (by rw[←htake];exact z6z _ _)).mono ?_;rintro v H5 ⟨S5,hj5,-⟩
   repeat' (first|(refine EvC.reg ?_;simp (disch:=first|omega|rfl) only[sB,Za,t10,z0b]))
   exact⟨l.length - (i+1),by omega,_,_,i+1,S5,rfl,rfl,by omega,(by simp only[sG,Za,t3]),(by simp only[sG,Za,t4]),(by simp only[sG,Za,t8]),(by simp only[sG,Za,t9]),(by simp only[sB,Za];rfl),by rw[htake];exact hj5⟩
  ·obtain⟨-,gm,v,M,Sb,go,-,-,hi,-,hSb⟩:=hj;have lo:H'.load ⟨H.next,0,none⟩ 1=some [v]:=by unfold Heap.load Heap.cells;simp only[go];rfl
   rw[Zi (by omega)] at hi
   repeat' (first|refine EvC.seq ?_|(refine EvC.exit ?_;try simp only[sB])|(refine EvC.ret ?_)|(refine EvC.reg ?_;simp only[sB,Za,ld77,t3,t9,t10,decn hlt,lo])|(refine EvC.condF ?_ ?_;simp only[sB];refine z07 ?_))
   refine z03 rfl (by simp only[sB,Za];rfl) ⟨?_,hx'⟩;rcases hi with h|⟨b,c',h1,h2,h3,h4,h5⟩
   ·exact .inl h
   ·exact .inr ⟨b,c',h1,h2,h3,h4,by have:=hSb _ h5;exact⟨by omega,by omega⟩⟩
 ·obtain⟨H1,e1,hx1,g1,n1,w1⟩:=new1 hw (.row [.slice none 0 0] 77);obtain⟨H2,e2,hx2,g2,n2,w2⟩:=new1 w1 (.map [] 0);obtain⟨H3,e3,hx3,g3,n3,w3⟩:=z0l w2 (.row [.map none] 103) (.row [.map (some (H.next+1))] 103);have n2':H2.next=H.next+1+1:=by omega
  rw[n2'] at e3 g3;simp only[e1,e2,e3];have hx:=(hx1.trans hx2).trans hx3;refine⟨_,_,0,fun n=>n=H.next+1∨n=H.next∨False,rfl,rfl,by omega,(by simp only[sG,Za,reduceCtorEq]),(by simp only[sG,Za,reduceCtorEq]),(by simp only[sG,Za,reduceCtorEq]),(by simp only[sG,Za,reduceCtorEq]),(by simp only[sB,Za,reduceCtorEq];rfl),hx,g3,.slice none 0 0,[],fun _=>False,hx3.get w2 (hx2.get w1 g1),⟨[],0,?_,rfl⟩,fun n=>?_,?_,fun n=>Iff.rfl,fun n h=>h.elim⟩
  ·rw[n1] at g2;exact hx3.get w2 g2
  ·rw[List.take_zero,occL];simp [uniq,mGet]
  ·rw[List.take_zero,occL];exact .inl ⟨rfl,rfl⟩
theorem zcf {l:List Tm}{a:Option Addr}{c:Nat}{cells:Nat→List Value}{H:Heap}(rl:RepL H l a c cells) (hlen:(occL l).length≤most) (hw:H.wf) :
  EvF Tryz.prog okT 39 [.slice a l.length c] H fun v H'=>∃u,v=.tuple #[u,.int .i64 (chkL l)]∧IntL H' 3 (Rg H.next H'.next) (if chkL l=0 then uniq (occL l) else []) u∧HX H H':=by
 refine EvF.enter rfl Tryz.func39 (by decide) rfl ?_
 repeat' (first|refine EvC.seq ?_|(refine EvC.reg ?_;simp only[sB,initTm,Za,reduceCtorEq,cl66]))
 refine(zef rl hw).mono ?_;rintro v H2 ⟨rfl,hx2⟩;by_cases h0:chkL l=0
 ·repeat' (first|refine EvC.seq ?_|(refine EvC.skip ?_;try simp only[z00])|(refine EvC.reg ?_;simp only[sB,Za,reduceCtorEq,cl67,z0z h0])|(refine EvC.condF ?_ ?_;simp only[sB,Za,reduceCtorEq];refine z07 ?_))
  refine(z85 (rl.mono hx2 hw) hlen hx2.wf).mono ?_;rintro v H3 ⟨hi,hx3⟩
  repeat' (first|(refine EvC.ret ?_))
  refine z3g rfl (by simp only[sB,Za,reduceCtorEq];rfl) (by simp only[sB,Za,reduceCtorEq];rfl) ⟨v,by rw[h0],?_,hx2.trans hx3⟩;rw[if_pos h0];rcases hi with h|⟨b,c',h1,h2,h3,h4,h5⟩
  ·exact .inl h
  ·exact .inr ⟨b,c',h1,h2,h3,h4,by have:=hx2.next;exact⟨by have:=h5.1;omega,h5.2⟩⟩
 ·repeat' (first|refine EvC.seq ?_|(refine EvC.ret ?_;try simp only[z04,z02])|(refine EvC.reg ?_;simp only[sB,Za,reduceCtorEq,z1j h0])|(refine EvC.condT ?_ ?_;simp only[sB,Za,reduceCtorEq];refine z07 ?_))
  exact z3g rfl (by simp only[sB,Za,reduceCtorEq];rfl) (by simp only[sG,Za,reduceCtorEq]) ⟨_,rfl,by rw[if_neg h0];exact .inl ⟨rfl,rfl⟩,hx2⟩
mutual
def sub (σ:Int→Tm):Tm→Tm
 |.mk k s u b v l=>if k=1 then σ v else .mk k s u b v (subL σ l)
def subL (σ:Int→Tm):List Tm→List Tm
 |[]=>[]
 |t :: l=>sub σ t :: subL σ l
end
theorem zht (σ:Int→Tm):∀l:List Tm,subL σ l=l.map (sub σ)
 |[]=>by rw[subL];rfl
 |t :: l=>by rw[subL,zht σ l];rfl
theorem z4z {σ:Int→Tm}{t:Tm}(h:t.kind=1):sub σ t=σ t.var:=by
 obtain⟨k,s,u,b,v,l⟩:=t;rw[sub,if_pos (show k=1 from h)];rfl
theorem zhu {σ:Int→Tm}{t:Tm}(h:t.kind≠1):sub σ t=.mk t.kind t.name t.num t.bits t.var (t.args.map (sub σ)):=by
 obtain⟨k,s,u,b,v,l⟩:=t;rw[sub,if_neg (show ¬k=1 from h),zht];rfl
structure ByAll (g:FuncId) (cap:Array Value) (σ:Int→Tm) (J:Heap→Prop):Prop where
 step:∀n H,i64 n→J H→H.wf→EvF Tryz.prog okT g ([.int .i64 n]++cap.toList) H fun v H'=>(∃cs,v=.tuple #[.agg ⟨cs⟩,.bool true]∧RepT H' (σ n) cs)∧HX H H'
 stay:∀H H',J H→HX H H'→J H'
 fine:∀n,0≤n→Fine (σ n)
set_option maxHeartbeats 4000000 in
theorem zlr {g:FuncId}{cap:Array Value}{σ:Int→Tm}{J:Heap→Prop}(hg:callable Tryz.prog g=true) (B:ByAll g cap σ J) {m:Nat}:∀{t:Tm}{cs:List Value}{H:Heap},SizeOf.sizeOf t < m→RepT H t cs→Fine t→J H→H.wf →
  EvF Tryz.prog okT 68 [.agg ⟨cs⟩,.func (.func g) #[] cap] H fun v H'=>∃cs',v=.agg ⟨cs'⟩∧RepF H' 25 (Rg H.next H'.next) (sub σ t) cs'∧HX H H':=by
 induction m with
 |zero=>intro t cs H h;omega
 |succ m ih =>
 intro t cs H hsz r hf hj hw;have hbd:=r.bd;have hfew:=z4g hf;have hvar:=(z22 hf.node).2.2.2.1;obtain⟨a,c,cells,rfl,-,-,-,-,-,rl⟩:=r.six;refine EvF.enter rfl Tryz.func68 (by decide) rfl ?_;(repeat refine EvC.seq ?_);refine EvC.reg ?_;simp (disch:=first|omega|rfl) only[sB,initTm,dBox,dAlloc,Value.cells,one,reduceCtorEq,zr25];obtain⟨H2,e2,hx2,gp,gq,hn2,hw2⟩:=new2 hw (.row (six t a c) 25) (.row zero6 25);simp only[e2];have q1:=row6 gp;clear e2;have hmost:t.args.length≤most:=by unfold most;omega
 have ne1:(H.next+1=H.next)=False:=by simp
 have ne2:(H.next=H.next+1)=False:=by simp
 by_cases k1:t.kind=1
 ·repeat' (first|refine EvC.seq ?_|(refine EvC.reg ?_;simp (disch:=first|omega|rfl) only[sB,Za,reduceCtorEq,z0g,ld3,z4m,q1,z0k k1,z97,z62 hg])|(refine EvC.condT ?_ ?_;simp (disch:=first|omega|rfl) only[sB,Za,reduceCtorEq];refine z07 ?_))
  refine(B.step t.var H2 hbd.var (B.stay _ _ hj hx2) hw2).mono ?_;rintro v H3 ⟨⟨cs,rfl,r3⟩,hx3⟩;obtain⟨a3,c3,z9f,rfl,-⟩:=r3.six;have gq3:=hx3.get hw2 gq
  repeat' (first|refine EvC.seq ?_|(refine EvC.reg ?_;simp (disch:=first|omega|rfl) only[sB,Za,Zb,reduceCtorEq,cutC,ld25,cl85])|(refine z0i ?_;simp (disch:=first|omega|rfl) only[sB,dAlloc,Za,Zb,one,reduceCtorEq,zr25,st25])|(refine EvC.condT ?_ ?_;simp (disch:=first|omega|rfl) only[sB,Za,reduceCtorEq];refine z07 ?_))
  obtain⟨H4,e4,hx4,g4,hn4,hw4⟩:=z0l hx3.wf (.row zero6 25) (.row (six (σ t.var) a3 c3) 25);simp only[e4];have hx34:=hx3.trans hx4;refine(zlk (Zf _) (r3.mono hx4 hx3.wf) (B.fine _ hvar) hw4).mono ?_;rintro v H5 ⟨c5,rfl,⟨a5,k5,rfl,hb5,hf5⟩,hx5⟩;have gq5:=hx5.get hw4 (hx4.get hx3.wf gq3);have hx25:=hx34.trans hx5;have n24:=hx34.next;have n25:=hx25.next
  repeat' (first|(refine EvC.ret ?_;try simp only[z04,z02])|(refine z0i ?_;simp (disch:=first|omega|rfl) only[sB,Zb,one,st25,gq5]))
  refine z0a rfl (by simp only[sB,Za,reduceCtorEq];rfl) (by simp only[sB,Zb,cutC,ld25];rfl) ⟨_,rfl,⟨a5,k5,by rw[z4z k1],by rw[z4z k1];exact hb5,?_⟩,(hx2.trans hx25).pt (by omega) gq5 _⟩;rw[z4z k1];refine(hf5.heap (fun n hn _=>?_) hx5.wf).sub fun n hn=>⟨by have:=hn.1;omega,hn.2⟩
  have:=hn.1;rw[get_put,if_neg (by omega)]
 have hsub:=zhu (σ:=σ) k1;have hsa:(sub σ t).args=t.args.map (sub σ):=by rw[hsub];rfl
 have hbd':Bd (sub σ t):=by rw[hsub];exact⟨hbd.kind,hbd.name,hbd.num,hbd.bits,hbd.var⟩
 have hsix:∀a c,six (sub σ t) a c=[.int .i64 t.kind,.string t.name,.string t.num,.int .u64 t.bits,.int .i64 t.var,.slice a t.args.length c]:=fun a c=>by rw[hsub];simp [six,Tm.kind,Tm.name,Tm.num,Tm.bits,Tm.var,Tm.args]
 by_cases h0:t.args.length=0
 ·have h0':(t.args.length:Int)=0:=by omega
  have he:t.args=[]:=List.length_eq_zero_iff.1 h0
  repeat' (first|refine EvC.seq ?_|(refine EvC.skip ?_;try simp only[z00])|(refine EvC.ret ?_;try simp only[z04,z02])|(refine EvC.reg ?_;simp (disch:=first|omega|rfl) only[sB,Za,Zb,one,reduceCtorEq,cutC,z0g,ld3,st25,ld25,z0j,ld23,ln23,st23,q1,gp,gq,z0m k1,z0k h0',ne1])|(refine EvC.condT ?_ ?_;simp (disch:=first|omega|rfl) only[sB,Za,reduceCtorEq];refine z07 ?_)|(refine EvC.condF ?_ ?_;simp (disch:=first|omega|rfl) only[sB,Za,reduceCtorEq];refine z07 ?_))
  have hx3:=(hx2.pt (Zg _) gp (some (.row [.int .i64 t.kind,.string t.name,.string t.num,.int .u64 t.bits,.int .i64 t.var,.slice none 0 0] 25))).pt (i:=H.next+1) (Nat.le_succ _) (by rw[get_put,if_neg (by omega)];exact gq)
   (some (.row [.int .i64 t.kind,.string t.name,.string t.num,.int .u64 t.bits,.int .i64 t.var,.slice none 0 0] 25))
  refine z0a rfl (by simp only[sB,Za,reduceCtorEq];rfl) (by simp only[sB,Zb,cutC,ld25];rfl) ⟨_,rfl,⟨none,0,?_,hbd',?_⟩,hx3⟩
  ·rw[hsix,h0]
  ·rw[hsa,he];exact .nil _
 ·have h0':(t.args.length:Int)≠0:=by omega
  have ne3:(H.next=H2.next)=False:=by simp;omega
  repeat' (first|refine EvC.seq ?_|refine EvC.block ?_|(refine EvC.skip ?_;try simp only[z00])|(refine EvC.reg ?_;simp (disch:=first|omega|rfl) only[sB,Za,reduceCtorEq,cutC,z0g,ld3,z0j,ld23,ln23,q1,z0m k1,z0m h0',z61 mk23,ne3])|(refine EvC.condF ?_ ?_;simp (disch:=first|omega|rfl) only[sB,Za,reduceCtorEq];refine z07 ?_))
  obtain⟨H3,e3,hx3,gr,hn3,hw3⟩:=new1 hw2 (.row (repL t.args.length zero6) 25);simp only[e3];clear e3;have gp3:=hx3.get hw2 gp;have gq3:=hx3.get hw2 gq;have hx23:=hx2.trans hx3;have hmax:=rl.max;rw[hn2] at gr hn3;refine EvC.loop (fun k st=>∃tm H' i cells' Si ai ci,st=⟨tm,[],H'⟩∧k=t.args.length - i∧i≤t.args.length∧tm.get 1=some (.func (.func g) #[] cap) ∧
   tm.get 2=some (.pointer (some ⟨H.next,0,none⟩))∧tm.get 4=some (.pointer (some ⟨H.next+1,0,none⟩))∧tm.get 7=some (.slice (some ⟨H.next+2,0,none⟩) t.args.length t.args.length) ∧
   tm.get 35=some (.slice a t.args.length c)∧tm.get 36=some (.int .i64 t.args.length)∧tm.get 37=some (.int .i64 (i:Nat)) ∧
   H'.get H.next=some (.row (six t a c) 25)∧H'.get (H.next+1)=some (.row zero6 25)∧H'.get (H.next+2)=some (.row cells' 25)∧cells'.length=t.args.length*6 ∧
   FLs H' 25 (Rg (H.next+3) H'.next) ((t.args.take i).map (sub σ)) cells' Si ai ci∧HX H H') ?_ t.args.length _ ?_
  ·rintro k st ⟨tm,H',i,cells',Si,ai,ci,rfl,rfl,hi,t0,t1,t2,t3,t17,t18,t19,gp',gq',gr',hlen,hfl,hx'⟩;have q1:=row6 gp';by_cases hlt:i < t.args.length
   ·obtain⟨b,o,a1,c1,rfl,hld,hr1⟩:=rl.el hlt;have hld1:=hx'.load hw hld
    repeat' (first|refine EvC.seq ?_|refine EvC.block ?_|(refine EvC.skip ?_;try simp only[z00])|(refine EvC.reg ?_;simp (disch:=first|omega|rfl) only[sB,dAlloc,Za,Zb,one,cutC,zr25,st25,ld25,ia23,cl68,t0,t3,t17,t18,t19,decl hlt,hld1])|(refine EvC.condT ?_ ?_;simp (disch:=first|omega|rfl) only[sB];refine z07 ?_))
    obtain⟨H4,e4,hx4,g4,hn4,hw4⟩:=z0l hx'.wf (.row zero6 25) (.row (six t.args[i] a1 c1) 25);simp only[e4];clear e4;have hs:=z15 (Zc hlt);refine(ih (t:=t.args[i]) (by omega) (hr1.mono (hx'.trans hx4) hw) (hf.args _ (Zx _)) (B.stay _ _ hj (hx'.trans hx4)) hw4).mono ?_;rintro v H5 ⟨cs',rfl,⟨a2,c2,rfl,hb2,hf2⟩,hx5⟩;have hx45:=hx4.trans hx5;have gr5:=hx45.get hx'.wf gr';have gp5:=hx45.get hx'.wf gp';have gq5:=hx45.get hx'.wf gq';have hle:i*6+6≤cells'.length:=by rw[hlen];exact mul6 hlt
    have hln:=hx45.next;have hln2:=hx5.next;have hlt3:=hx'.wf _ _ gq';have hlt4:=hx'.wf _ _ gr'
    repeat' (first|(refine EvC.reg ?_;simp (disch:=first|omega|rfl) only[sB,Za,t19,z0b])|(refine z0i ?_;simp (disch:=first|omega|rfl) only[sB,Zb,one,st25,gr5,hle]))
    have hx6:=(hx'.trans hx45).pt (i:=H.next+2) (by omega) gr5 (some (.row (Hb.splice cells' (i*6) (six (sub σ t.args[i]) a2 c2)) 25));have et:(t.args.take (i+1)).map (sub σ)=(t.args.take i).map (sub σ)++[sub σ t.args[i]]:=by rw[←ZA hlt,ZD];rfl
    have etl:((t.args.take i).map (sub σ)).length=i:=by rw[Zq,Zl];omega
    obtain⟨Si',ai',ci',hsn⟩:∃Si ai ci,FLs (H5.put (H.next+2) (some (.row (Hb.splice cells' (i*6) (six (sub σ t.args[i]) a2 c2)) 25))) 25 (Rg (H.next+3) H5.next) ((t.args.take (i+1)).map (sub σ)) (Hb.splice cells' (i*6) (six (sub σ t.args[i]) a2 c2)) Si ai ci:=by
     rw[et];refine⟨_,_,_,hfl.snoc (S':=Rg (H.next+3) H5.next) (N:=Rg H4.next H5.next) (fun n hn hl=>?_) hx'.wf (hf2.heap (fun n hn hl=>?_) hx5.wf) hb2 (fun n hn hs=>?_) (fun n hn=>?_) (fun n hn=>?_) (fun j hj=>?_) ?_⟩
     ·have:=hn.1;rw[get_put,if_neg (by omega)];exact hx45.keep n hl
     ·have:=hn.1;rw[get_put,if_neg (by omega)]
     ·have:=hn.1;have:=hs.2;omega
     ·exact⟨hn.1,by have:=hn.2;omega⟩
     ·exact⟨by have:=hn.1;omega,hn.2⟩
     ·rw[etl] at hj;exact z2c hle rfl (.inl (mul6 hj))
     ·rw[etl];exact z2t hle rfl
    exact⟨t.args.length - (i+1),by omega,_,_,i+1,Hb.splice cells' (i*6) (six (sub σ t.args[i]) a2 c2),Si',ai',ci',rfl,rfl,by omega,(by simp only[sG,Za,t0]),(by simp only[sG,Za,t1]),(by simp only[sG,Za,t2]),(by simp only[sG,Za,t3]),(by simp only[sG,Za,t17]),(by simp only[sG,Za,t18]),(by simp only[sB,Za];rfl),
     by rw[get_put,if_neg (by omega)];exact gp5,by rw[get_put,if_neg (by omega)];exact gq5,by rw[get_put,if_pos rfl],by rw[z1x hle];exact hlen,hsn,hx6⟩
   ·repeat' (first|refine EvC.seq ?_|(refine EvC.exit ?_;try simp only[sB])|(refine EvC.ret ?_)|(refine EvC.reg ?_;simp (disch:=first|omega|rfl) only[sB,Za,Zb,one,cutC,st25,ld25,z0j,st23,t1,t2,t3,t18,t19,q1,gp',gq',decn hlt,ne1])|(refine EvC.condF ?_ ?_;simp (disch:=first|omega|rfl) only[sB];refine z07 ?_))
    have hi':i=t.args.length:=by omega
    have hlt3:=hx'.wf _ _ gr';have hx7:=(hx'.pt (Zg _) gp' (some (.row (six t (some ⟨H.next+2,0,none⟩) t.args.length) 25))).pt (i:=H.next+1) (Nat.le_succ _) (by rw[get_put,if_neg (by omega)];exact gq')
     (some (.row (six t (some ⟨H.next+2,0,none⟩) t.args.length) 25))
    refine z0a rfl (by simp only[sB,Za,t2];rfl) (by simp only[sB,Zb,cutC,ld25];rfl) ⟨_,rfl,⟨some ⟨H.next+2,0,none⟩,t.args.length,by rw[hsix],hbd',?_⟩,hx7⟩;rw[hi',Zi (Zg _),←hsa] at hfl;have hsl:(sub σ t).args.length=t.args.length:=by rw[hsa,Zq]
    refine(hfl.heap (fun n hn _=>?_) hx'.wf).row (by omega) (Zo hfew (by simp [maxLen])) (cells:=cells') ?_ (by omega) ⟨by omega,hlt3⟩ (fun h=>?_) (fun n hn=>⟨by have:=hn.1;omega,hn.2⟩)
    ·have:=hn.1;rw[get_put,if_neg (by omega),get_put,if_neg (by omega)]
    ·rw[get_put,if_neg (by omega),get_put,if_neg (by omega)];exact gr'
    ·have:=h.1;omega
  ·refine⟨_,_,0,repL t.args.length zero6,fun _ _=>False,fun _=>none,fun _=>0,rfl,rfl,by omega,(by simp only[sG,Za,reduceCtorEq]),(by simp only[sG,Za,reduceCtorEq]),(by simp only[sG,Za,reduceCtorEq]),by rw[hn2];first|(simp only[sG,Za,reduceCtorEq];rfl)|simp only[sG,Za,reduceCtorEq],(by simp only[sG,Za,reduceCtorEq]),(by simp only[sG,Za,reduceCtorEq]),(by simp only[sB,Za,reduceCtorEq];rfl),gp3,gq3,gr,by rw[z4d];rfl,FLs.nil,hx23⟩
abbrev seven (n:Int) (t:Tm) (a:Option Addr) (c:Nat):List Value:=.int .i64 n :: six t a c
structure RepB7 (H:Heap) (B:List (Int × Tm)) (a:Option Addr) (c:Nat):Prop where
 len:B.length≤c
 cap:c≤maxLen
 el:∀(i:Nat) (h:i < B.length),∃b o a' c',a=some ⟨b,o,none⟩∧H.load ⟨b,o+i*7,none⟩ 7=some (seven B[i].1 B[i].2 a' c')∧RepT H B[i].2 (six B[i].2 a' c')
theorem RepB7.mono {H H':Heap}{B:List (Int × Tm)}{a:Option Addr}{c:Nat}(h:RepB7 H B a c) (hx:HX H H') (hw:H.wf):RepB7 H' B a c :=
 ⟨h.len,h.cap,fun i hi=>by obtain⟨b,o,a',c',e,l,r⟩:=h.el i hi;exact⟨b,o,a',c',e,hx.load hw l,r.mono hx hw⟩⟩
end Go.Proofs.hq
end

section
namespace Go.Hb
section
variable {α:Type}
structure Ordr (G:α→Prop) (cmp:α→α→Int):Prop where
 anti:∀x y,G x→G y→cmp y x=-(cmp x y)
 le:∀x y z,G x→G y→G z→cmp x y≤0→cmp y z≤0→cmp x z≤0
variable {G:α→Prop}{cmp:α→α→Int}
theorem Ordr.self (o:Ordr G cmp) {x:α}(h:G x):cmp x x=0:=by have:=o.anti x x h h;omega
def like (cmp:α→α→Int) (x:α) (l:List α):List α:=l.filter fun y=>cmp x y == 0
theorem z4j {x:α}(l m:List α):like cmp x (l++m)=like cmp x l++like cmp x m:=List.filter_append ..
structure Stb (G:α→Prop) (cmp:α→α→Int) (l m:List α):Prop where
 perm:l.Perm m
 eq:∀x,G x→like cmp x l=like cmp x m
theorem Stb.refl (l:List α):Stb G cmp l l:=⟨.refl _,fun _ _=>rfl⟩
theorem Stb.symm {l m:List α}(h:Stb G cmp l m):Stb G cmp m l:=⟨h.perm.symm,fun x hx=>(h.eq x hx).symm⟩
theorem Stb.trans {l m n:List α}(h:Stb G cmp l m) (k:Stb G cmp m n):Stb G cmp l n:=⟨h.perm.trans k.perm,fun x hx=>(h.eq x hx).trans (k.eq x hx)⟩
theorem Stb.append {l m l' m':List α}(h:Stb G cmp l m) (k:Stb G cmp l' m'):Stb G cmp (l++l') (m++m') :=
 ⟨h.perm.append k.perm,fun x hx=>by rw[z4j,z4j,h.eq x hx,k.eq x hx]⟩
theorem zhv {x:α}{l:List α}(h:∀y∈l,cmp x y≠0):like cmp x l=[]:=by
 unfold like;rw[List.filter_eq_nil_iff];intro y hy;simpa using h y hy
theorem Stb.swap (o:Ordr G cmp) {u v:List α}(hu:∀x∈u,G x) (hv:∀x∈v,G x) (h:∀x∈u,∀y∈v,cmp y x < 0):Stb G cmp (u++v) (v++u):=by
 refine⟨List.perm_append_comm,fun z hz=>?_⟩;rw[z4j,z4j];by_cases hc:∃x∈u,cmp z x=0
 ·obtain⟨x,hx,he⟩:=hc;have:like cmp z v=[]:=zhv fun y hy e=>by
   have h1:=h x hx y hy;have h2:=o.anti z y hz (hv y hy);have:=o.le y z x (hv y hy) hz (hu x hx) (by omega) (by omega);have h3:=o.anti z x hz (hu x hx);have:=o.le x z y (hu x hx) hz (hv y hy) (by omega) (by omega);have:=o.anti x y (hu x hx) (hv y hy);omega
  rw[this];simp
 ·have:like cmp z u=[]:=zhv fun y hy e=>hc ⟨y,hy,e⟩
  rw[this];simp
def Srt (cmp:α→α→Int) (l:List α):Prop:=l.Pairwise fun x y=>cmp x y≤0
theorem Srt.one (o:Ordr G cmp):∀{l m:List α},(∀x∈l,G x)→Srt cmp l→Srt cmp m→Stb G cmp l m→l=m
 |[],m,_,_,_,h=>by have:=h.perm.length_eq;exact(List.length_eq_zero_iff.1 this.symm).symm
 |x :: l,[],_,_,_,h=>by have:=h.perm.length_eq;simp at this
 |x :: l,y :: m,hg,h1,h2,h=>by
  have hgm:∀z∈y :: m,G z:=fun z hz=>hg z (h.perm.mem_iff.2 hz)
  have gx:=hg x (by simp);have gy:=hgm y (by simp);have hxy:cmp x y≤0:=by
   have hy:y∈x :: l:=h.perm.mem_iff.2 (by simp);rcases List.mem_cons.1 hy with e|hy
   ·rw[e,o.self gx];exact Int.le_refl _
   ·exact(List.pairwise_cons.1 h1).1 y hy
  have hyx:cmp y x≤0:=by
   have hx:x∈y :: m:=h.perm.mem_iff.1 (by simp);rcases List.mem_cons.1 hx with e|hx
   ·rw[e,o.self gy];exact Int.le_refl _
   ·exact(List.pairwise_cons.1 h2).1 x hx
  have a:=o.anti x y gx gy;have e0:=h.eq x gx;unfold like at e0;rw[List.filter_cons_of_pos (by simp [o.self gx]),List.filter_cons_of_pos (by simp;omega)] at e0;obtain⟨rfl,-⟩:=List.cons.inj e0;rw[Srt.one o (fun z hz=>hg z (Zn _ hz)) (List.pairwise_cons.1 h1).2 (List.pairwise_cons.1 h2).2 ⟨h.perm.cons_inv,fun z hz=>?_⟩];have:=h.eq z hz;unfold like at this ⊢;by_cases hc:cmp z x=0
  ·rw[List.filter_cons_of_pos (by simp [hc]),List.filter_cons_of_pos (by simp [hc])] at this;exact(List.cons.inj this).2
  ·rw[List.filter_cons_of_neg (by simp [hc]),List.filter_cons_of_neg (by simp [hc])] at this;exact this
def rowF (n:Nat) (D:Nat→α):List α:=(Zj n).map D
def segF (a n:Nat) (D:Nat→α):List α:=(List.range' a n).map D
theorem z8h {a n:Nat}{D:Nat→α}{x:α}:x∈segF a n D↔∃i,a≤i∧i < a+n∧D i=x:=by
 simp [segF,and_assoc]
theorem z5i {a m n:Nat}{D:Nat→α}:segF a (m+n) D=segF a m D++segF (a+m) n D:=by
 unfold segF;rw[←ZD,List.range'_append_1]
theorem zhw {n:Nat}{D:Nat→α}:rowF n D=segF 0 n D:=by unfold rowF segF;rw[List.range_eq_range']
theorem z5j {a b n:Nat}{D E:Nat→α}(h:∀i,i < n→D (a+i)=E (b+i)):segF a n D=segF b n E:=by
 apply List.ext_getElem
 ·simp [segF]
 ·intro i h1 h2;simp [segF] at h1 ⊢;exact h i h1
structure Mv (G:α→Prop) (cmp:α→α→Int) (a b:Nat) (D E:Nat→α):Prop where
 out:∀k,k < a∨b≤k→E k=D k
 inn:∀k,a≤k→k < b→∃j,a≤j∧j < b∧E k=D j
 stb:∀n,b≤n→Stb G cmp (rowF n D) (rowF n E)
theorem Mv.refl {a b:Nat}(D:Nat→α):Mv G cmp a b D D:=⟨fun _ _=>rfl,fun k h1 h2=>⟨k,h1,h2,rfl⟩,fun _ _=>.refl _⟩
theorem Mv.trans {a b:Nat}{D E F:Nat→α}(h:Mv G cmp a b D E) (k:Mv G cmp a b E F):Mv G cmp a b D F :=
 ⟨fun i hi=>(k.out i hi).trans (h.out i hi),fun i h1 h2=>by
  obtain⟨j,j1,j2,e⟩:=k.inn i h1 h2;obtain⟨l,l1,l2,e2⟩:=h.inn j j1 j2;exact⟨l,l1,l2,e.trans e2⟩,fun n hn=>(h.stb n hn).trans (k.stb n hn)⟩
theorem Mv.wide {a b a' b':Nat}{D E:Nat→α}(h:Mv G cmp a b D E) (ha:a'≤a) (hb:b≤b'):Mv G cmp a' b' D E :=
 ⟨fun k hk=>h.out k (by omega),fun k h1 h2=>by
  by_cases hk:a≤k∧k < b
  ·obtain⟨j,j1,j2,e⟩:=h.inn k hk.1 hk.2;exact⟨j,by omega,by omega,e⟩
  ·exact⟨k,h1,h2,h.out k (by omega)⟩,fun n hn=>h.stb n (by omega)⟩
theorem Mv.good {a b:Nat}{D E:Nat→α}(h:Mv G cmp a b D E) {n:Nat}(hb:b≤n) (hg:∀k,k < n→G (D k)):∀k,k < n→G (E k):=fun k hk=>by
 by_cases hc:a≤k∧k < b
 ·obtain⟨j,_,j2,e⟩:=h.inn k hc.1 hc.2;rw[e];exact hg j (by omega)
 ·rw[h.out k (by omega)];exact hg k hk
def rotF (a m b:Nat) (D:Nat→α):Nat→α:=fun k=>if a≤k∧k < a+(b - m) then D (k+(m - a)) else if a≤k∧k < b then D (k - (b - m)) else D k
theorem Mv.rot (o:Ordr G cmp) {a m b:Nat}{D:Nat→α}(h1:a≤m) (h2:m≤b) (hg:∀k,k < b→G (D k)) (h:∀i j,a≤i→i < m→m≤j→j < b→cmp (D j) (D i) < 0):Mv G cmp a b D (rotF a m b D):=by
 refine⟨fun k hk=>?_,fun k k1 k2=>?_,fun n hn=>?_⟩
 ·unfold rotF;rw[if_neg (by omega),if_neg (by omega)]
 ·unfold rotF;by_cases hc:k < a+(b - m)
  ·rw[if_pos ⟨k1,hc⟩];exact⟨_,by omega,by omega,rfl⟩
  ·rw[if_neg (by omega),if_pos ⟨k1,k2⟩];exact⟨_,by omega,by omega,rfl⟩
 ·obtain⟨p,rfl⟩:∃p,n=a+((m - a)+(b - m))+p:=⟨n - b,by omega⟩
  rw[zhw,zhw,z5i,z5i,z5i,z5i (D:=rotF a m b D),z5i (D:=rotF a m b D),show segF (0+a) (m - a+(b - m)) (rotF a m b D)=segF (0+a) (b - m) (rotF a m b D)++segF (0+a+(b - m)) (m - a) (rotF a m b D) by rw[←z5i,Nat.add_comm (b - m)]];rw[z5j (a:=0) (b:=0) (D:=rotF a m b D) (E:=D) (fun i hi=>by unfold rotF;rw[if_neg (by omega),if_neg (by omega)]),
   z5j (a:=0+a) (b:=0+a+(m - a)) (D:=rotF a m b D) (E:=D) (fun i hi=>by unfold rotF;rw[if_pos (by omega)];congr 1;omega),
   z5j (a:=0+a+(b - m)) (b:=0+a) (D:=rotF a m b D) (E:=D) (fun i hi=>by unfold rotF;rw[if_neg (by omega),if_pos (by omega)];congr 1;omega),
   z5j (a:=0+(a+(m - a+(b - m)))) (b:=0+(a+(m - a+(b - m)))) (D:=rotF a m b D) (E:=D) (fun i hi=>by unfold rotF;rw[if_neg (by omega),if_neg (by omega)])]
  refine((Stb.refl _).append (Stb.swap o (fun x hx=>?_) (fun x hx=>?_) (fun x hx y hy=>?_))).append (.refl _)
  ·obtain⟨i,i1,i2,rfl⟩:=z8h.1 hx;exact hg i (by omega)
  ·obtain⟨i,i1,i2,rfl⟩:=z8h.1 hx;exact hg i (by omega)
  ·obtain⟨i,i1,i2,rfl⟩:=z8h.1 hx;obtain⟨j,j1,j2,rfl⟩:=z8h.1 hy;exact h i j (by omega) (by omega) (by omega) (by omega)
def swF (i j:Nat) (D:Nat→α):Nat→α:=fun k=>if k=i then D j else if k=j then D i else D k
theorem zrl {j:Nat}{D:Nat→α}:rotF j (j+1) (j+2) D=swF j (j+1) D:=by
 funext k
 unfold rotF swF;by_cases h1:k=j
 ·subst h1;rw[if_pos (by omega),if_pos rfl];congr 1;omega
 ·by_cases h2:k=j+1
  ·subst h2;rw[if_neg (by omega),if_pos (by omega),if_neg (by omega),if_pos rfl];congr 1;omega
  ·rw[if_neg (by omega),if_neg (by omega),if_neg h1,if_neg h2]
theorem Mv.swap (o:Ordr G cmp) {a b j:Nat}{D:Nat→α}(h1:a≤j) (h2:j+2≤b) (hg:∀k,k < b→G (D k)) (h:cmp (D (j+1)) (D j) < 0):Mv G cmp a b D (swF j (j+1) D):=by
 rw[←zrl];refine(Mv.rot o (by omega) (by omega) (fun k hk=>hg k (by omega)) fun i k i1 i2 k1 k2=>?_).wide h1 h2;obtain rfl:i=j:=by omega
 obtain rfl:k=i+1:=by omega
 exact h
def InO (cmp:α→α→Int) (a b:Nat) (D:Nat→α):Prop:=∀p q,a≤p→p < q→q < b→cmp (D p) (D q)≤0
end
end Go.Hb
end

section
namespace Go.Hb
section
variable {α:Type}
def Pm (a b:Nat) (D E:Nat→α):Prop:=∃s t:Nat→Nat,(∀k,t (s k)=k)∧(∀k,s (t k)=k)∧(∀k,k < a∨b≤k→s k=k)∧∀k,E k=D (s k)
theorem Pm.refl {a b:Nat}(D:Nat→α):Pm a b D D:=⟨id,id,fun _=>rfl,fun _=>rfl,fun _ _=>rfl,fun _=>rfl⟩
theorem Pm.trans {a b:Nat}{D E F:Nat→α}(h:Pm a b D E) (k:Pm a b E F):Pm a b D F:=by
 obtain⟨s,t,h1,h2,h3,h4⟩:=h;obtain⟨u,v,k1,k2,k3,k4⟩:=k;refine⟨fun i=>s (u i),fun i=>v (t i),fun i=>by simp only[h1,k1],fun i=>by simp only[h2,k2],fun i hi=>by simp only[k3 i hi,h3 i hi],fun i=>by rw[k4,h4]⟩
theorem Pm.wide {a b a' b':Nat}{D E:Nat→α}(h:Pm a b D E) (ha:a'≤a) (hb:b≤b'):Pm a' b' D E:=by
 obtain⟨s,t,h1,h2,h3,h4⟩:=h;exact⟨s,t,h1,h2,fun k hk=>h3 k (by omega),h4⟩
theorem Pm.out {a b:Nat}{D E:Nat→α}(h:Pm a b D E) {k:Nat}(hk:k < a∨b≤k):E k=D k:=by
 obtain⟨s,t,h1,h2,h3,h4⟩:=h;rw[h4,h3 k hk]
theorem Pm.inn {a b:Nat}{D E:Nat→α}(h:Pm a b D E) {k:Nat}(h1:a≤k) (h2:k < b):∃j,a≤j∧j < b∧E k=D j:=by
 obtain⟨s,t,k1,k2,k3,k4⟩:=h;by_cases hc:a≤s k∧s k < b
 ·exact⟨s k,hc.1,hc.2,k4 k⟩
 ·have e:=k3 (s k) (by omega);have e2:=k1 (s k);rw[e] at e2;have e3:=k1 k;rw[e3] at e2;omega
theorem Pm.swap {a b i j:Nat}{D:Nat→α}(h1:a≤i) (h2:i < b) (h3:a≤j) (h4:j < b):Pm a b D (swF i j D):=by
 refine⟨fun k=>if k=i then j else if k=j then i else k,fun k=>if k=i then j else if k=j then i else k,fun k=>?_,fun k=>?_,fun k hk=>?_,fun k=>?_⟩
 ·by_cases e1:k=i
  ·subst e1;by_cases e2:j=k<;>simp [e2]
  ·by_cases e2:k=j
   ·subst e2;simp [e1]
   ·simp [e1,e2]
 ·by_cases e1:k=i
  ·subst e1;by_cases e2:j=k<;>simp [e2]
  ·by_cases e2:k=j
   ·subst e2;simp [e1]
   ·simp [e1,e2]
 ·simp only;rw[if_neg (by omega),if_neg (by omega)]
 ·unfold swF;simp only;split
  ·rfl
  ·split<;>rfl
theorem Pm.all {a b:Nat}{D E:Nat→α}(h:Pm a b D E) {P:α→Prop}(hP:∀k,a≤k→k < b→P (D k)):∀k,a≤k→k < b→P (E k):=fun k h1 h2=>by
 obtain⟨j,j1,j2,e⟩:=h.inn h1 h2;rw[e];exact hP j j1 j2
def InZ (z:α→Int) (a b:Nat) (D:Nat→α):Prop:=∀p q,a≤p→p < q→q < b→z (D p)≤z (D q)
theorem InZ.few {z:α→Int}{a b:Nat}{D:Nat→α}(h:b≤a+1):InZ z a b D:=fun p q h1 h2 h3=>by omega
theorem InZ.join {z:α→Int}{a m b:Nat}{D:Nat→α}(h1:InZ z a m D) (h2:InZ z (m+1) b D) (h3:∀k,a≤k→k < m→z (D k)≤z (D m)) (h4:∀k,m < k→k < b→z (D m)≤z (D k)):InZ z a b D:=fun p q hp hpq hq=>by
 by_cases c1:q < m
 ·exact h1 p q hp hpq c1
 by_cases c2:m < p
 ·exact h2 p q (by omega) hpq hq
 by_cases c3:p=m
 ·subst c3;exact h4 q hpq hq
 by_cases c4:q=m
 ·subst c4;exact h3 p hp hpq
 exact Int.le_trans (h3 p hp (by omega)) (h4 q (by omega) hq)
def HpF (z:α→Int) (f lo hi:Nat) (D:Nat→α):Prop:=∀k c,lo≤k→(c=2*k+1∨c=2*k+2)→c < hi→z (D (f+c))≤z (D (f+k))
def HpX (z:α→Int) (f lo hi r:Nat) (D:Nat→α):Prop :=
 (∀k c,lo≤k→k≠r→(c=2*k+1∨c=2*k+2)→c < hi→z (D (f+c))≤z (D (f+k))) ∧
 (∀k c,lo≤k→(r=2*k+1∨r=2*k+2)→(c=2*r+1∨c=2*r+2)→c < hi→z (D (f+c))≤z (D (f+k)))
theorem HpX.done {z:α→Int}{f lo hi r:Nat}{D:Nat→α}(h:HpX z f lo hi r D) (hr:∀c,(c=2*r+1∨c=2*r+2)→c < hi→z (D (f+c))≤z (D (f+r))):HpF z f lo hi D:=fun k c h1 h2 h3=>by
 by_cases e:k=r
 ·subst e;exact hr c h2 h3
 ·exact h.1 k c h1 e h2 h3
theorem HpX.start {z:α→Int}{f lo hi:Nat}{D:Nat→α}(h:HpF z f (lo+1) hi D):HpX z f lo hi lo D :=
 ⟨fun k c h1 h2 h3 h4=>h k c (by omega) h3 h4,fun k c h1 h2 h3 h4=>by omega⟩
theorem HpX.step {z:α→Int}{f lo hi r c:Nat}{D:Nat→α}(h:HpX z f lo hi r D) (hlo:lo≤r) (hc:c=2*r+1∨c=2*r+2) (hi1:c < hi) (hlt:z (D (f+r)) < z (D (f+c)))
  (hbig:∀d,(d=2*r+1∨d=2*r+2)→d < hi→z (D (f+d))≤z (D (f+c))):HpX z f lo hi c (swF (f+r) (f+c) D):=by
 have e1:swF (f+r) (f+c) D (f+r)=D (f+c):=by unfold swF;rw[if_pos rfl]
 have e2:swF (f+r) (f+c) D (f+c)=D (f+r):=by unfold swF;rw[if_neg (by omega),if_pos rfl]
 have e3:∀k,k≠r→k≠c→swF (f+r) (f+c) D (f+k)=D (f+k):=fun k h1 h2=>by unfold swF;rw[if_neg (by omega),if_neg (by omega)]
 constructor
 ·intro k d h1 h2 h3 h4;by_cases k1:k=r
  ·subst k1;rw[e1];by_cases d1:d=c
   ·subst d1;rw[e2];omega
   ·rw[e3 d (by omega) d1];exact hbig d h3 h4
  ·rw[e3 k k1 h2];by_cases d1:d=r
   ·subst d1;rw[e1];exact h.2 k c h1 h3 hc hi1
   ·by_cases d2:d=c
    ·omega
    ·rw[e3 d d1 d2];exact h.1 k d h1 k1 h3 h4
 ·intro k d h1 h2 h3 h4;obtain rfl:k=r:=by omega
  rw[e1,e3 d (by omega) (by omega)];exact h.1 c d (by omega) (by omega) h3 h4
theorem HpF.top {z:α→Int}{f hi:Nat}{D:Nat→α}(h:HpF z f 0 hi D):∀k,k < hi→z (D (f+k))≤z (D f):=by
 intro k
 induction k using Nat.strongRecOn with
 |_ k ih =>
  intro hk;by_cases h0:k=0
  ·subst h0;exact Int.le_refl _
  ·have:=h ((k - 1) / 2) k (Zs _) (by omega) hk;exact Int.le_trans this (ih _ (by omega) (by omega))
theorem HpF.drop {z:α→Int}{a j:Nat}{D:Nat→α}(hp:HpF z a 0 (j+1) D):HpF z a 1 j (swF a (a+j) D):=fun k c h1 h2 h3=>by
 have hk:swF a (a+j) D (a+k)=D (a+k):=by unfold swF;rw[if_neg (by omega),if_neg (by omega)]
 have hc:swF a (a+j) D (a+c)=D (a+c):=by unfold swF;rw[if_neg (by omega),if_neg (by omega)]
 rw[hk,hc];exact hp k c (Zs _) h2 (by omega)
end
end Go.Hb
end

section
namespace Go.Hb
open Go Go.RowKit
structure El where
 t:Tm
 a:Option Addr
 c:Nat
 S:Nat→Prop
abbrev El.six (e:El):List Value:=Hb.six e.t e.a e.c
theorem El.six_len (e:El):e.six.length=6:=rfl
theorem El.six_ones (e:El):e.six.all one=true:=rfl
structure RowE (H:Heap) (T:TypeId) (b n:Nat) (D:Nat→El):Prop where
 row:∃cells,H.get b=some (.row cells T)∧n*6≤cells.length∧∀k,k < n→(cells.drop (k*6)).take 6=(D k).six
theorem RowE.load {H:Heap}{T:TypeId}{b n:Nat}{D:Nat→El}(h:RowE H T b n D) {k:Nat}(hk:k < n):H.load ⟨b,k*6,none⟩ 6=some (D k).six:=by
 obtain⟨cells,hg,hl,he⟩:=h;unfold Heap.load Heap.cells;simp only[hg,he k hk];rfl
theorem RowE.heap {H H':Heap}{T:TypeId}{b n:Nat}{D:Nat→El}(h:RowE H T b n D) (hg:H'.get b=H.get b):RowE H' T b n D:=by
 obtain⟨cells,h1,h2⟩:=h;exact⟨cells,by rw[hg];exact h1,h2⟩
theorem RowE.congr {H:Heap}{T:TypeId}{b n:Nat}{D E:Nat→El}(h:RowE H T b n D) (he:∀k,k < n→E k=D k):RowE H T b n E:=by
 obtain⟨cells,h1,h2,h3⟩:=h;exact⟨cells,h1,h2,fun k hk=>by rw[he k hk];exact h3 k hk⟩
theorem RowE.put {H:Heap}{T:TypeId}{b n:Nat}{D:Nat→El}{cells:List Value}(hl:n*6≤cells.length) (he:∀k,k < n→(cells.drop (k*6)).take 6=(D k).six) {i:Nat}(hi:i < n) (e:El) :
  RowE (H.put b (some (.row (Hb.splice cells (i*6) e.six) T))) T b n (fun k=>if k=i then e else D k):=by
 have hle:i*6+e.six.length≤cells.length:=by have:=mul6 hi;rw[El.six_len];omega
 refine⟨_,by rw[get_put,if_pos rfl],by rw[z1x hle];exact hl,fun k hk=>?_⟩;by_cases h:k=i
 ·subst h;rw[if_pos rfl];exact z2t (s:=6) hle rfl
 ·rw[if_neg h,z2c (s:=6) hle rfl (by rcases Nat.lt_or_gt_of_ne h with h|h;exact .inl (mul6 h);exact .inr (mul6 h))];exact he k hk
theorem RowE.swap {H:Heap}{T:TypeId}{b n:Nat}{D:Nat→El}{cells:List Value}(hl:n*6≤cells.length) (he:∀k,k < n→(cells.drop (k*6)).take 6=(D k).six) {i j:Nat}(hi:i < n) (hj:j < n) (hij:i≠j) (H2:Heap)
  (h2:H2.get b=some (.row (Hb.splice (Hb.splice cells (i*6) (D j).six) (j*6) (D i).six) T)):RowE H2 T b n (swF i j D):=by
 obtain⟨c1,g1,l1,e1⟩:=RowE.put (H:=H) (T:=T) (b:=b) hl he hi (D j);rw[get_put,if_pos rfl] at g1;cases g1;have:=(RowE.put (H:=H2) (T:=T) (b:=b) l1 e1 hj (D i)).heap (H':=H2) (by rw[get_put,if_pos rfl,h2]);refine this.congr fun k hk=>?_
 unfold swF;by_cases h1:k=i
 ·subst h1;rw[if_pos rfl,if_neg hij,if_pos rfl]
 ·rw[if_neg h1];by_cases h3:k=j
  ·rw[if_pos h3,if_pos h3]
  ·rw[if_neg h3,if_neg h3,if_neg h1]
end Go.Hb
end

section
namespace Go.Hb
open Go Go.RowKit
def dNil (v:Value) (H:Heap):Option Dr:=match v with
 |.pointer (some a)=>some (.val (.pointer (some a)) H)
 |.func (.func f) a b=>some (.val (.func (.func f) a b) H)
 |_=>none
structure Bnd where
 v:Int
 e:El
abbrev Bnd.seven (d:Bnd):List Value:=.int .i64 d.v :: d.e.six
theorem Bnd.seven_len (d:Bnd):d.seven.length=7:=rfl
theorem mul7 {k n:Nat}(h:k < n):k*7+7≤n*7:=by omega
structure RowB (H:Heap) (T:TypeId) (b n:Nat) (D:Nat→Bnd):Prop where
 row:∃cells,H.get b=some (.row cells T)∧n*7≤cells.length∧∀k,k < n→(cells.drop (k*7)).take 7=(D k).seven
theorem RowB.load {H:Heap}{T:TypeId}{b n:Nat}{D:Nat→Bnd}(h:RowB H T b n D) {k:Nat}(hk:k < n):H.load ⟨b,k*7,none⟩ 7=some (D k).seven:=by
 obtain⟨cells,hg,hl,he⟩:=h;unfold Heap.load Heap.cells;simp only[hg,he k hk];rfl
theorem RowB.heap {H H':Heap}{T:TypeId}{b n:Nat}{D:Nat→Bnd}(h:RowB H T b n D) (hg:H'.get b=H.get b):RowB H' T b n D:=by
 obtain⟨cells,h1,h2⟩:=h;exact⟨cells,by rw[hg];exact h1,h2⟩
theorem RowB.congr {H:Heap}{T:TypeId}{b n:Nat}{D E:Nat→Bnd}(h:RowB H T b n D) (he:∀k,k < n→E k=D k):RowB H T b n E:=by
 obtain⟨cells,h1,h2,h3⟩:=h;exact⟨cells,h1,h2,fun k hk=>by rw[he k hk];exact h3 k hk⟩
theorem RowB.put {H:Heap}{T:TypeId}{b n:Nat}{D:Nat→Bnd}{cells:List Value}(hl:n*7≤cells.length) (he:∀k,k < n→(cells.drop (k*7)).take 7=(D k).seven) {i:Nat}(hi:i < n) (e:Bnd) :
  RowB (H.put b (some (.row (Hb.splice cells (i*7) e.seven) T))) T b n (fun k=>if k=i then e else D k):=by
 have hle:i*7+e.seven.length≤cells.length:=by have:=mul7 hi;rw[Bnd.seven_len];omega
 refine⟨_,by rw[get_put,if_pos rfl],by rw[z1x hle];exact hl,fun k hk=>?_⟩;by_cases h:k=i
 ·subst h;rw[if_pos rfl];exact z2t (s:=7) hle rfl
 ·rw[if_neg h,z2c (s:=7) hle rfl (by rcases Nat.lt_or_gt_of_ne h with h|h;exact .inl (mul7 h);exact .inr (mul7 h))];exact he k hk
theorem RowB.swap {H:Heap}{T:TypeId}{b n:Nat}{D:Nat→Bnd}{cells:List Value}(hl:n*7≤cells.length) (he:∀k,k < n→(cells.drop (k*7)).take 7=(D k).seven) {i j:Nat}(hi:i < n) (hj:j < n) (H2:Heap)
  (h2:H2.get b=some (.row (Hb.splice (Hb.splice cells (i*7) (D j).seven) (j*7) (D i).seven) T)):RowB H2 T b n (swF i j D):=by
 obtain⟨c1,g1,l1,e1⟩:=RowB.put (H:=H) (T:=T) (b:=b) hl he hi (D j);rw[get_put,if_pos rfl] at g1;cases g1;have:=(RowB.put (H:=H2) (T:=T) (b:=b) l1 e1 hj (D i)).heap (H':=H2) (by rw[get_put,if_pos rfl,h2]);refine this.congr fun k hk=>?_
 unfold swF;by_cases h1:k=i
 ·subst h1;rw[if_pos rfl];by_cases h3:k=j
  ·subst h3;rw[if_pos rfl]
  ·rw[if_neg h3,if_pos rfl]
 ·rw[if_neg h1];by_cases h3:k=j
  ·rw[if_pos h3,if_pos h3]
  ·rw[if_neg h3,if_neg h3,if_neg h1]
end Go.Hb
end

section
namespace Go.Proofs.hq
open Go Go.RowKit Go.Hb
variable {ok:Ok}
set_option maxRecDepth 10000
attribute [local irreducible] LX LG EL STG SOP SGO SGD SAL SRD SEF SEG SLK SCK ES
theorem z70 {t:Tm}(h:Fine t) (k:t.kind=1):t.args=[]:=(z1v (z22 h.node).2.2.1).2.2.2.2 (by omega)
theorem zcg {α:Type}(o:Option α):(∃u,o=some u)∨o=none:=by
 cases o with
 |none=>exact .inr rfl
 |some u=>exact .inl ⟨u,rfl⟩
def lookT (B:List (Int × Tm)) (n:Int):Option Tm:=(B.find? fun p=>p.1 == n).map (·.2)
theorem zjd {B:List (Int × Tm)}{n m:Int}{u:Tm}(h:lookT B n=none):lookT (B++[(n,u)]) m=if m=n then some u else lookT B m:=by
 unfold lookT at *;rw[List.find?_append];by_cases hm:m=n
 ·subst hm;have:B.find? (fun p=>p.1 == m)=none:=by simpa using h
  rw[if_pos rfl,this];simp
 ·rw[if_neg hm];have:((n == m):Bool)=false:=by simp;omega
  simp [List.find?_cons,this]
theorem zls {B:List (Int × Tm)}{n:Int}{u:Tm}(h:lookT B n=some u):(n,u)∈B:=by
 unfold lookT at h;rw[Option.map_eq_some_iff] at h;obtain⟨p,hp,rfl⟩:=h;have h1:=List.find?_some hp;have h2:p.1=n:=by simpa using h1
 rw[←h2];exact List.mem_of_find?_eq_some hp
def MapT (H0 H:Heap) (r:Nat) (B:List (Int × Tm)):Prop:=∃M,MapR H r M∧∀n,(∀u,lookT B n=some u→∃cs,mGet M n=some (.agg ⟨cs⟩)∧RepT H0 u cs)∧(lookT B n=none→mGet M n=none)
theorem MapT.heap {H0 H H':Heap}{r:Nat}{B:List (Int × Tm)}(h:MapT H0 H r B) (hk:H'.get r=H.get r):MapT H0 H' r B:=by
 obtain⟨M,h1,h2⟩:=h;exact⟨M,h1.heap hk,h2⟩
theorem MapT.lt {H0 H:Heap}{r:Nat}{B:List (Int × Tm)}(h:MapT H0 H r B) (hw:H.wf):r < H.next:=by obtain⟨M,h1,-⟩:=h;exact h1.lt hw
theorem MapT.keep {H0 H H':Heap}{r:Nat}{B:List (Int × Tm)}(h:MapT H0 H r B) (hx:HX H H') (hw:H.wf):MapT H0 H' r B:=h.heap (hx.keep r (h.lt hw))
theorem MapT.push {P:Program}{t kt et:TypeId}{z:Value}{H0 H:Heap}{r:Nat}{B:List (Int × Tm)}{n:Int}{u:Tm}{cs:List Value}(hp:mpOk P t kt et z) (h:MapT H0 H r B) (hn:lookT B n=none) (hu:RepT H0 u cs) :
  ∃K,dUp P t (.map (some r)) (.int .i64 n) (.agg ⟨cs⟩) H=some (.val undef (H.put r (some K)))∧MapT H0 (H.put r (some K)) r (B++[(n,u)]):=by
 obtain⟨M,h1,h2⟩:=h;have hM:=(h2 n).2 hn;obtain⟨K,k1,k2⟩:=zg2 (v:=.agg ⟨cs⟩) hp h1 hM;refine⟨K,k1,_,k2,fun m=>?_⟩;rw[zjd hn,z9n hM];by_cases hm:m=n
 ·rw[if_pos hm,if_pos hm];exact⟨fun w hw=>by cases hw;exact⟨cs,rfl,hu⟩,fun hw=>by cases hw⟩
 ·rw[if_neg hm,if_neg hm];exact h2 m
theorem zg3:mpOk Tryz.prog 122 3 25 (.agg ⟨zero6⟩):=⟨Tryz.underlying122,Tryz.underlying3,by kernel_rfl,rfl⟩
theorem row1 {H:Heap}{p:Nat}{T:TypeId}{v:Value}(h:H.get p=some (.row [v] T)):H.load ⟨p,0,none⟩ 1=some [v]:=by simp only[Heap.load,Heap.cells,h];rfl
end Go.Proofs.hq
end
