import Derived.Test.YtlmjnikipfbenaaGreatDoorM5
import Derived.Test.YtlmjnikipfbenaaGreatDoorM3
import Derived.Test.YtlmjnikipfbenaaGreatDoorM2
import Derived.Test.YtlmjnikipfbenaaGreatDoorProg
import Derived.KernelRfl
import Derived.Test.YtlmjnikipfbenaaGreatDoorM4
/- Lemmas on the program's own code, towards the laws of this folder, part 6. Conditions: as each lemma says. -/
open Bool renaming false_eq_true → Zc, not_false → Zm, not_true → Zn
open ByteArray renaming empty → Zg, size → Zf
open List renaming ext_getElem? → ZD, find?_cons → ZH, getElem?_eq_getElem → Zd, getElem?_eq_none → Zw, getElem?_map → Zr, getElem_mem → ZE, length_append → Zu, length_cons → ZF, length_map → Zv, map_append → ZI, map_cons → Zs, map_map → ZJ, mem_cons_of_mem → Zl, take_of_length_le → Zx
open Nat renaming beq → Zk, beq_refl → Zy, le_refl → Ze, le_trans → ZA, reduceAdd → Zb, reduceEqDiff → Za, reduceLeDiff → Zh, zero_le → Zz
open Option renaming bind_some → Zq, map_some → Zo
section
namespace Go.Proofs.hq
open Go Go.RowKit Go.Hb
variable {ok:Ok}
set_option maxRecDepth 10000
attribute [local irreducible] LX LG EL STG SOP SGO SGD SAL SRD SEF SEG SLK SCK ES
theorem zqo:Tryz.prog.stoodInHeld 61=false:=by kernel_rfl
theorem zao {n:Nat}{cs:Array Value}{v:Value}(h:cs[n]?=some v):pureRun Tryz.prog (part 3 cs n)=some v:=by
 have h1:pureRun Tryz.prog (isAgg 3)=some false:=by kernel_rfl
 unfold part;rw[z0a,h1,Zq,h];rfl
theorem zki {n:Nat}{cs:Array Value}{v:Value}(h:cs[n]?=some v):pureRun Tryz.prog (part 4 cs n)=some v:=by
 have h1:pureRun Tryz.prog (isAgg 4)=some false:=by kernel_rfl
 unfold part;rw[z0a,h1,Zq,h];rfl
theorem zov {d:Nat}{a b:Int}:pureRun Tryz.prog (Op.equalIn (d+1) 3 (.int .i64 a) (.int .i64 b))=some (a == b):=by
 have hu:pureRun Tryz.prog (underlying 3)=some (.int .i64):=by kernel_rfl
 unfold Op.equalIn;rw[z0a,hu,Zq];rfl
theorem zmd {d:Nat}{a b:Bool}:pureRun Tryz.prog (Op.equalIn (d+1) 4 (.bool a) (.bool b))=some (a == b):=by
 have hu:pureRun Tryz.prog (underlying 4)=some .bool:=by kernel_rfl
 unfold Op.equalIn;rw[z0a,hu,Zq];rfl
theorem unSt:pureRun Tryz.prog (underlying 61)=some (.struct #[{ name := "Id", type:=3,offset:=0,embedded:=false,tag := "", pkgPath := "", byteOffset:=0 },{ name := "File", type:=9,offset:=1,embedded:=false,tag := "", pkgPath := "", byteOffset:=8 },{ name := "Mode", type:=3,offset:=2,embedded:=false,tag := "", pkgPath := "", byteOffset:=24 },{ name := "Binary", type:=4,offset:=3,embedded:=false,tag := "", pkgPath := "", byteOffset:=32 },{ name := "Alias", type:=9,offset:=4,embedded:=false,tag := "", pkgPath := "", byteOffset:=40 },{ name := "Eof", type:=3,offset:=5,embedded:=false,tag := "", pkgPath := "", byteOffset:=56 },{ name := "Reposition", type:=4,offset:=6,embedded:=false,tag := "", pkgPath := "", byteOffset:=64 },{ name := "Pos", type:=3,offset:=7,embedded:=false,tag := "", pkgPath := "", byteOffset:=72 },{ name := "Line", type:=3,offset:=8,embedded:=false,tag := "", pkgPath := "", byteOffset:=80 },{ name := "End", type:=3,offset:=9,embedded:=false,tag := "", pkgPath := "", byteOffset:=88 }]):=by kernel_rfl
theorem zq2 {x0 x2 x5 x7 x8 x9:Int}{x1 x4:ByteArray}{x3 x6:Bool}:pureRun Tryz.prog (Op.equal 61 (.agg #[.int .i64 x0,.string x1,.int .i64 x2,.bool x3,.string x4,.int .i64 x5,.bool x6,.int .i64 x7,.int .i64 x8,.int .i64 x9]) (.agg #[.int .i64 x0,.string x1,.int .i64 x2,.bool x3,.string x4,.int .i64 x5,.bool x6,.int .i64 x7,.int .i64 x8,.int .i64 x9]))=some true:=by
 show pureRun Tryz.prog (Op.equalIn (9999+1) _ _ _)=_;unfold Op.equalIn;rw[z0a,unSt,Zq];simp only[];rw[z0a,z3g,Zq,zqo];simp only[Zc,if_false];obtain⟨cs,hcs⟩:∃cs:Array Value,cs=#[.int .i64 x0,.string x1,.int .i64 x2,.bool x3,.string x4,.int .i64 x5,.bool x6,.int .i64 x7,.int .i64 x8,.int .i64 x9]:=⟨_,rfl⟩
 have p0:pureRun Tryz.prog (part 3 cs 0)=some (.int .i64 x0):=zao (by rw[hcs];rfl);have p1:pureRun Tryz.prog (part 9 cs 1)=some (.string x1):=zal (by rw[hcs];rfl);have p2:pureRun Tryz.prog (part 3 cs 2)=some (.int .i64 x2):=zao (by rw[hcs];rfl);have p3:pureRun Tryz.prog (part 4 cs 3)=some (.bool x3):=zki (by rw[hcs];rfl);have p4:pureRun Tryz.prog (part 9 cs 4)=some (.string x4):=zal (by rw[hcs];rfl);have p5:pureRun Tryz.prog (part 3 cs 5)=some (.int .i64 x5):=zao (by rw[hcs];rfl);have p6:pureRun Tryz.prog (part 4 cs 6)=some (.bool x6):=zki (by rw[hcs];rfl);have p7:pureRun Tryz.prog (part 3 cs 7)=some (.int .i64 x7):=zao (by rw[hcs];rfl);have p8:pureRun Tryz.prog (part 3 cs 8)=some (.int .i64 x8):=zao (by rw[hcs];rfl);have p9:pureRun Tryz.prog (part 3 cs 9)=some (.int .i64 x9):=zao (by rw[hcs];rfl);rw[←hcs];have ei:∀a:Int,pureRun Tryz.prog (Op.equalIn 9999 3 (.int .i64 a) (.int .i64 a))=some true:=fun a=>by
  have:=zov (d:=9998) (a:=a) (b:=a);rw[beq_self_eq_true] at this;exact this
 have es:∀a:ByteArray,pureRun Tryz.prog (Op.equalIn 9999 9 (.string a) (.string a))=some true:=fun a=>by
  have:=zei (d:=9998) (a:=a) (b:=a);rw[z1z.2 rfl] at this;exact this
 have eb:∀a:Bool,pureRun Tryz.prog (Op.equalIn 9999 4 (.bool a) (.bool a))=some true:=fun a=>by
  have:=zmd (d:=9998) (a:=a) (b:=a);rw[beq_self_eq_true] at this;exact this
 have n0:(("Id" : String) ≠ "_")=True:=by simp
 have n1:(("File" : String) ≠ "_")=True:=by simp
 have n2:(("Mode" : String) ≠ "_")=True:=by simp
 have n3:(("Binary" : String) ≠ "_")=True:=by simp
 have n4:(("Alias" : String) ≠ "_")=True:=by simp
 have n5:(("Eof" : String) ≠ "_")=True:=by simp
 have n6:(("Reposition" : String) ≠ "_")=True:=by simp
 have n7:(("Pos" : String) ≠ "_")=True:=by simp
 have n8:(("Line" : String) ≠ "_")=True:=by simp
 have n9:(("End" : String) ≠ "_")=True:=by simp
 simp only[←Array.forIn_toList,List.forIn_cons,List.forIn_nil,z0a,n0,n1,n2,n3,n4,n5,n6,n7,n8,n9,if_true,p0,p1,p2,p3,p4,p5,p6,p7,p8,p9,ei,es,eb,Zq,Zn,Zc,if_false,z7x]
theorem zqp {H:Heap}{x y:Operand}{s:Strm}{pos line en:Int}:dBin Tryz.prog .eql 61 x y (.agg ⟨rowT s pos line en⟩) (.agg ⟨rowT s pos line en⟩) H=some (.val (.bool true) H):=by
 have h:=zq2 (x0:=s.id) (x1:=s.file) (x2:=s.mode) (x3:=s.bin) (x4:=s.al) (x5:=s.eof) (x6:=s.rep) (x7:=pos) (x8:=line) (x9:=en);obtain⟨v,hv⟩:∃v:Array Value,v=⟨rowT s pos line en⟩:=⟨_,rfl⟩
 have hv':(#[.int .i64 s.id,.string s.file,.int .i64 s.mode,.bool s.bin,.string s.al,.int .i64 s.eof,.bool s.rep,.int .i64 pos,.int .i64 line,.int .i64 en]:Array Value)=v:=hv.symm;rw[hv'] at h;rw[←hv];have hp:Tryz.prog.eqGuardType Tryz.prog.depth 61=false:=by kernel_rfl
 have hg:pureRun Tryz.prog (eqGuard .eql 61 x y (.agg v) (.agg v))=some ():=by
  unfold eqGuard;simp only[Zn,Zc,if_false];rw[z0a,z3g,Zq,z0a,z3g,Zq,hp];rfl
 have hb:pureRun Tryz.prog (binOp .eql 61 (.agg v) (.agg v))=some (.bool true):=by
  unfold binOp;simp only[];rw[z0a,h];rfl
 have hall:pureRun Tryz.prog (do let r ←(do eqGuard .eql 61 x y (.agg v) (.agg v);binOp .eql 61 (.agg v) (.agg v));pure (Next.value r))=some (.value (.bool true)):=by
  rw[z0a,z0a,hg,Zq,hb];rfl
 unfold dBin;have d0:dnil Tryz.prog .eql 61 (.agg v) (.agg v)=none:=rfl;rw[d0];simp only[hall];have hf:flat (Value.agg v)=true:=by rw[hv];rfl
 rw[hf];rfl
def FSt.tells (φ:FSt):List (List Value):=φ.opens.map fun o=>φ.tell o.2
theorem z9f (φ:FSt):φ.tells.length=φ.opens.length:=by simp [FSt.tells]
theorem z3h {φ:FSt}:∀x∈φ.tells,x.length=10∧x.all one=true:=fun x hx=>by
 obtain⟨o,-,rfl⟩:=List.mem_map.1 hx;exact⟨rfl,rfl⟩
theorem z59 {l:List (List Value)}(h:∀x∈l,x.length=10∧x.all one=true):l.flatten.length=l.length*10∧l.flatten.all one=true:=by
 induction l with
 |nil=>exact⟨rfl,rfl⟩
 |cons x l ih =>
  obtain⟨h1,h2⟩:=ih fun y hy=>h y (Zl _ hy)
  obtain⟨k1,k2⟩:=h x (by simp);refine⟨?_,?_⟩
  ·rw[List.flatten_cons,Zu,h1,k1,ZF];omega
  ·rw[List.flatten_cons,List.all_append,h2,k2];rfl
theorem z6x {l:List (List Value)}(h:∀x∈l,x.length=10∧x.all one=true):∀{i:Nat}{x:List Value},l[i]?=some x→(l.flatten.drop (i*10)).take 10=x:=by
 induction l with
 |nil=>intro i x e;simp at e
 |cons y l ih =>
  intro i x e;have hy:=(h y (by simp)).1;cases i with
  |zero =>
   simp only[List.getElem?_cons_zero,Option.some.injEq] at e;subst e;rw[Nat.zero_mul,List.drop_zero,List.flatten_cons,List.take_append_of_le_length (by omega),Zx (by omega)]
  |succ i =>
   rw[List.getElem?_cons_succ] at e;have e1:(i+1)*10=y.length+i*10:=by omega
   rw[List.flatten_cons,e1,List.drop_append,Nat.add_sub_cancel_left,List.drop_of_length_le (by omega),List.nil_append];exact ih (fun z hz=>h z (Zl _ hz)) e
def OutT (H:Heap) (l:List (List Value)) (v:Value) (B:Nat):Prop:=(l=[]∧v=.slice none 0 0)∨∃b,v=.slice (some ⟨b,0,none⟩) l.length l.length∧H.get b=some (.row l.flatten 61)∧B≤b
theorem apSt:apOk Tryz.prog 42 61 10:=z6u (by kernel_rfl)
theorem OutT.push {A H:Heap}{l:List (List Value)}{v:Value}{B c:Nat}{ad:Addr}{x:List Value}(h:OutT H l v B) (h10:∀x∈l,x.length=10∧x.all one=true) (hx10:x.all one=true) (hw:H.wf) (hx:HX A H) (hB:A.next≤B) (hB2:B≤H.next) (hl:H.load ad (1*10)=some x) (hm:l.length+1≤most) :
  ∃v' H',dAp Tryz.prog #[42,42] v (.slice (some ad) 1 c) H=some (.val v' H')∧OutT H' (l++[x]) v' B∧HX A H'∧H.next≤H'.next∧(∀i cs T,H.get i=some (.row cs T)→Zk T 61=false→H'.get i=some (.row cs T)):=by
 rcases h with ⟨rfl,rfl⟩|⟨b,rfl,hg,hb⟩
 ·refine⟨_,_,z8r apSt (by omega) (by simp [most]) hl hx10,.inr ⟨H.next,rfl,by rw[get_new,if_pos rfl];simp,hB2⟩,hx.new _,Nat.le_succ _,fun i cs T g _=>?_⟩;have:=hw _ _ g;rw[get_new,if_neg (by omega)];exact g
 ·obtain⟨hlen,hone⟩:=z59 h10;have htk:l.flatten.take (l.length*10)=l.flatten:=Zx (by omega);refine⟨_,_,z5u apSt (by omega) hm hl hx10 hg (by omega) (by rw[htk];exact hone),.inr ⟨H.next,by simp,?_,hB2⟩,(hx.pt (by omega) hg none).new _,Nat.le_succ _,fun i cs T g hT=>?_⟩
  ·rw[get_new,z1b,if_pos rfl,htk];simp
  ·have hlt:=hw _ _ g;rw[get_new,z1b,if_neg (by omega),get_put,if_neg]
   ·exact g
   ·rintro rfl;have:=z2l g hg;rw[this,Zy] at hT;cases hT
theorem OutT.keep {H H':Heap}{l:List (List Value)}{v:Value}{B:Nat}(h:OutT H l v B) (hx:HX H H') (hw:H.wf):OutT H' l v B:=by
 rcases h with h|⟨b,e,hg,hb⟩
 ·exact .inl h
 ·exact .inr ⟨b,e,hx.get hw hg,hb⟩
theorem OutT.low {H:Heap}{l:List (List Value)}{v:Value}{B B':Nat}(h:OutT H l v B) (hB:B'≤B):OutT H l v B':=by
 rcases h with h|⟨b,e,hg,hb⟩
 ·exact .inl h
 ·exact .inr ⟨b,e,hg,ZA hB hb⟩
theorem OutT.put {H:Heap}{l:List (List Value)}{v:Value}{B i:Nat}{cs:List Value}{T:TypeId}(h:OutT H l v B) (g:H.get i=some (.row cs T)) (hT:Zk T 61=false) (X:Option Blk):OutT (H.put i X) l v B:=by
 rcases h with h|⟨b,e,hg,hb⟩
 ·exact .inl h
 ·refine .inr ⟨b,e,?_,hb⟩;rw[get_put,if_neg]
  ·exact hg
  ·rintro rfl;have:=z2l g hg;rw[this,Zy] at hT;cases hT
theorem OutF.same {H H':Heap}{l:List (ByteArray × ByteArray)}{v:Value}{B:Nat}(h:OutF H l v B) (hk:∀i cs T,H.get i=some (.row cs T)→Zk T 61=false→H'.get i=some (.row cs T)):OutF H' l v B:=by
 rcases h with h|⟨b,e,hg,hb⟩
 ·exact .inl h
 ·exact .inr ⟨b,e,hk _ _ _ hg rfl,hb⟩
theorem OutF.put {H:Heap}{l:List (ByteArray × ByteArray)}{v:Value}{B i:Nat}{cs:List Value}{T:TypeId}(h:OutF H l v B) (g:H.get i=some (.row cs T)) (hT:Zk T 73=false) (X:Option Blk):OutF (H.put i X) l v B:=by
 rcases h with h|⟨b,e,hg,hb⟩
 ·exact .inl h
 ·refine .inr ⟨b,e,?_,hb⟩;rw[get_put,if_neg]
  ·exact hg
  ·rintro rfl;have:=z2l g hg;rw[this,Zy] at hT;cases hT
theorem OutZ.same {H H':Heap}{l:List Int}{v:Value}{B:Nat}(h:OutZ H l v B) (hk:∀i cs T,H.get i=some (.row cs T)→Zk T 61=false→H'.get i=some (.row cs T)):OutZ H' l v B:=by
 rcases h with h|⟨b,e,hg,hb⟩
 ·exact .inl h
 ·exact .inr ⟨b,e,hk _ _ _ hg rfl,hb⟩
theorem OutZ.put {H:Heap}{l:List Int}{v:Value}{B i:Nat}{cs:List Value}{T:TypeId}(h:OutZ H l v B) (g:H.get i=some (.row cs T)) (hT:Zk T 3=false) (X:Option Blk):OutZ (H.put i X) l v B:=by
 rcases h with h|⟨b,e,hg,hb⟩
 ·exact .inl h
 ·refine .inr ⟨b,e,?_,hb⟩;rw[get_put,if_neg]
  ·exact hg
  ·rintro rfl;have:=z2l g hg;rw[this,Zy] at hT;cases hT
abbrev heldRow (u v:Value) (φ:FSt):List Value:=[u,v,.string φ.out,.int .i64 φ.inp,.int .i64 φ.put]
abbrev heldZ:List Value:=[.slice none 0 0,.slice none 0 0,.string Zg,.int .i64 0,.int .i64 0]
theorem row5 {H:Heap}{p:Nat}{T:TypeId}{x0 x1 x2 x3 x4:Value}(h:H.get p=some (Blk.row [x0,x1,x2,x3,x4] T)) :
  H.load ⟨p,0,none⟩ 1=some [x0]∧H.load ⟨p,1,none⟩ 1=some [x1]∧H.load ⟨p,2,none⟩ 1=some [x2]∧H.load ⟨p,3,none⟩ 1=some [x3]∧H.load ⟨p,4,none⟩ 1=some [x4]∧H.load ⟨p,0,none⟩ 5=some [x0,x1,x2,x3,x4]:=by
 refine⟨?_,?_,?_,?_,?_,?_⟩<;>simp only[Heap.load,Heap.cells,h]<;>rfl
theorem zq3 {l:List (Int × Strm)}(h:(l.map (·.1)).Nodup) {o:Int × Strm}(ho:o∈l):(l.find? fun x=>x.1 == o.1)=some o:=by
 induction l with
 |nil=>cases ho
 |cons x l ih =>
  rw[Zs,List.nodup_cons] at h;rw[ZH];rcases List.mem_cons.1 ho with rfl|ho
  ·rw[beq_self_eq_true]
  ·have:(x.1 == o.1)=false:=beq_false_of_ne fun e=>h.1 (by rw[e];exact List.mem_map_of_mem ho)
   rw[this];exact ih h.2 ho
theorem OutT.sl {H:Heap}{l:List (List Value)}{v:Value}{B:Nat}(h:OutT H l v B) (h10:∀x∈l,x.length=10∧x.all one=true):∃a c,v=.slice a l.length c∧∀(i:Nat) (x:List Value),l[i]?=some x→∃b,a=some ⟨b,0,none⟩∧H.load ⟨b,i*10,none⟩ 10=some x:=by
 rcases h with ⟨rfl,rfl⟩|⟨b,rfl,hg,-⟩
 ·exact⟨none,0,rfl,fun i x e=>by simp at e⟩
 ·refine⟨_,_,rfl,fun i x e=>⟨b,rfl,?_⟩⟩;obtain⟨hlt,-⟩:=List.getElem?_eq_some_iff.1 e;have hxx:=(h10 x (List.mem_of_getElem? e)).1;simp only[Heap.load,Heap.cells,hg,z6x h10 e,hxx];rfl
theorem OutF.sl {H:Heap}{l:List (ByteArray × ByteArray)}{v:Value}{B:Nat}(h:OutF H l v B):∃a c,v=.slice a l.length c∧∀(i:Nat) (x:ByteArray × ByteArray),l[i]?=some x→∃b,a=some ⟨b,0,none⟩∧H.load ⟨b,i*2,none⟩ 2=some [.string x.1,.string x.2]:=by
 rcases h with ⟨rfl,rfl⟩|⟨b,rfl,hg,-⟩
 ·exact⟨none,0,rfl,fun i x e=>by simp at e⟩
 ·exact⟨_,_,rfl,fun i x e=>⟨b,rfl,z6p hg e⟩⟩
set_option maxHeartbeats 8000000 in
theorem zdb {H:Heap}{B:Nat→Prop}{p fb ob:Nat}{blk:Int→Nat}{φ:FSt}{N:Int}(h:FsB H B p fb ob blk φ) (hw:H.wf) (hI:Inv φ N) (hN:N≤1000000) :
  EvF Tryz.prog okT 11 [ptrV p] H fun v H'=>HX H H'∧∃u w,v=.agg ⟨heldRow u w φ⟩∧OutT H' φ.tells u H.next∧OutF H' φ.sorted w H.next:=by
 refine EvF.enter rfl Tryz.func11 (by decide) rfl ?_;have hno:=hI.no;have hnf:=hI.nf;have hnx:=hI.nx;(repeat refine EvC.seq ?_);refine EvC.reg ?_;simp (config := { maxSteps := 2000000 }) (disch:=first|omega|rfl) only[sA,initTm,dAlloc,zr44];obtain⟨H1,e1,hx1,g1,n1,w1⟩:=new1 hw (.row heldZ 44);simp only[e1];clear e1;have h1:=h.keep hx1 hw
 repeat' (first|refine EvC.seq ?_|(refine EvC.reg ?_;simp (config := { maxSteps := 2000000 }) (disch:=first|omega|rfl) only[sB,Za,Zb,Value.cells,reduceCtorEq,layC,cl27,cl28,cl29,cl30,bd44]))
 refine(zg8 h1 w1 (fun x hx=>by have:=(hI.fn x hx).1;simp only[named,decide_eq_true_eq] at this;unfold maxLen;omega) hnf).mono ?_;rintro w H2 ⟨hx2,hO⟩;have w2:=hx2.wf;have h2:=h1.keep hx2 w1;obtain⟨aw,cw,hwe,-⟩:=hO.sl;subst hwe
 skip
 refine(znl h2).mono ?_;rintro v Ha ⟨rfl,hq⟩;have hq':=hq.symm;subst hq'
 skip
 refine(zg5 h2).mono ?_;rintro v Ha ⟨rfl,hq⟩;have hq':=hq.symm;subst hq'
 skip
 refine(zd3 h2).mono ?_;rintro v Ha ⟨rfl,hq⟩;have hq':=hq.symm;subst hq';obtain⟨H3,e3,hx3,g3,n3,w3⟩:=z18 w2 (.row heldZ 44) (.row (heldRow (.slice none 0 0) (.slice aw φ.sorted.length cw) φ) 44)
 repeat' (first|refine EvC.seq ?_|(refine EvC.reg ?_;simp (config := { maxSteps := 2000000 }) (disch:=first|omega|rfl) only[sB,Za,reduceCtorEq,cl26])|(refine z08 ?_;simp (config := { maxSteps := 2000000 }) (disch:=first|omega|rfl) only[sB,dAlloc,Za,Zb,one,reduceCtorEq,Zh,zr44,st44,e3]))
 have h3:=h2.keep hx3 w2;refine(zaj h3 w3 (fun o ho=>by have:=hI.lt o ho;unfold i64;omega) hI.asc hno).mono ?_;rintro v4 H4 ⟨hx4,hZ⟩;have w4:=hx4.wf;have h4:=h3.keep hx4 w3;have hml:(φ.opens.map (·.1)).length≤maxLen:=by rw[Zv];unfold maxLen;omega
 obtain⟨a,rfl,rd⟩:=hZ.rd hml;have hx24:=hx3.trans hx4;have hx14:=hx2.trans hx24;have hx04:=hx1.trans hx14;have g4:=hx4.get w3 g3;have gz4:=hx14.get w1 g1;have hO4:=(hO.keep hx24 w2).low (B':=H.next) (by omega);have nn1:H1.next≤H2.next:=hx2.next;have hZ4:OutZ H4 (φ.opens.map (·.1)) (.slice a φ.opens.length φ.opens.length) H3.next:=by rw[Zv] at hZ;exact hZ
 rw[Zv]
 repeat' (first|refine EvC.seq ?_|refine EvC.block ?_|(refine EvC.reg ?_;simp (config := { maxSteps := 2000000 }) (disch:=first|omega|rfl) only[sA]))
 refine EvC.loop (fun k st=>∃tm G i u,st=⟨tm,[],G⟩∧k=φ.opens.length - i∧i≤φ.opens.length∧tm.get 0=some (ptrV p)∧tm.get 2=some (ptrV H.next)∧tm.get 3=some (ptrV H2.next)∧tm.get 4=some (.slice a φ.opens.length φ.opens.length)∧tm.get 5=some (.int .i64 (i:Nat))∧HX H G∧H4.next≤G.next∧G.get H.next=some (.row heldZ 44)∧G.get H2.next=some (.row (heldRow u (.slice aw φ.sorted.length cw) φ) 44)∧OutT G (φ.tells.take i) u H.next∧OutF G φ.sorted (.slice aw φ.sorted.length cw) H.next∧OutZ G (φ.opens.map (·.1)) (.slice a φ.opens.length φ.opens.length) H3.next) ?_ φ.opens.length _ ?_
 ·rintro k st ⟨tm,G,i,u,rfl,rfl,hi,t0,t2,t3,t4,t5,hxG,hnG,gz,gh,hT,hF,hZG⟩;have wG:=hxG.wf;obtain⟨au,cu,hue,-⟩:=hT.sl fun y hy=>z3h y (List.mem_of_mem_take hy)
  subst hue;by_cases hlt:i < φ.opens.length
  ·obtain⟨a',ea,rd'⟩:=hZG.rd hml;injection ea with ea1 ea2 ea3;subst ea1;obtain⟨b,o,rfl,hld⟩:=rd'.get i (by rw[Zv];exact hlt);rw[List.getElem_map] at hld;obtain⟨x,hxe⟩:∃x,x=φ.opens[i]:=⟨_,rfl⟩
   have hmem:x∈φ.opens:=by rw[hxe];exact ZE hlt
   rw[←hxe] at hld;have hget:φ.get x.1=some x.2:=by unfold FSt.get;rw[zq3 hI.nd hmem];rfl
   have hxi:i64 x.1:=by have:=hI.lt x hmem;unfold i64;omega
   have hw1:IntKind.i64.wrap ((i:Int)+1)=((i+1:Nat):Int):=by rw[z0e]<;>omega
   repeat' (first|refine EvC.seq ?_|refine EvC.block ?_|(refine EvC.skip ?_;try simp only[z00])|(refine EvC.reg ?_;simp (config := { maxSteps := 2000000 }) (disch:=first|omega|rfl) only[sB,Za,reduceCtorEq,ln66,ia66,ld3,cl24,t0,t4,t5,decl hlt,hld])|(refine EvC.condT ?_ ?_;simp (config := { maxSteps := 2000000 }) (disch:=first|omega|rfl) only[sB,Za];refine z02 ?_))
   refine(zd2 (h.keep hxG hw) wG hxi (fun s hs=>⟨(hI.po _ (z1q hs)).1,(hI.po _ (z1q hs)).2⟩)).mono ?_;rintro v G1 ⟨hx1',hv⟩;rcases hv with ⟨h0,-⟩|⟨s,hs,rfl⟩
   ·rw[hget] at h0;cases h0
   rw[hget] at hs;cases hs;obtain⟨y0,y1,y2,y3,y4,y5,y6,y7,y8,y9,hyy⟩:∃y0 y1 y2 y3 y4 y5 y6 y7 y8 y9,φ.tell x.2=[.int .i64 y0,.string y1,.int .i64 y2,.bool y3,.string y4,.int .i64 y5,.bool y6,.int .i64 y7,.int .i64 y8,.int .i64 y9]:=⟨_,_,_,_,_,_,_,_,_,_,rfl⟩
   rw[hyy];have wG1:=hx1'.wf;have gh1:=hx1'.get wG gh;have gz1:=hx1'.get wG gz;have hxG1:=hxG.trans hx1';obtain⟨G2,e2,hx2',g2,n2',w2'⟩:=z18 wG1 (.row zero10 61) (.row ([.int .i64 y0,.string y1,.int .i64 y2,.bool y3,.string y4,.int .i64 y5,.bool y6,.int .i64 y7,.int .i64 y8,.int .i64 y9]) 61);have gh2:=hx2'.get wG1 gh1;have gz2:=hx2'.get wG1 gz1;have q2:=row5 gh2;have l2:G2.load ⟨G1.next,0,none⟩ 10=some ([.int .i64 y0,.string y1,.int .i64 y2,.bool y3,.string y4,.int .i64 y5,.bool y6,.int .i64 y7,.int .i64 y8,.int .i64 y9]):=(row10 g2).1;obtain⟨G3,e3',hx3',g3',n3',w3'⟩:=new1 w2' (.row ([.int .i64 y0,.string y1,.int .i64 y2,.bool y3,.string y4,.int .i64 y5,.bool y6,.int .i64 y7,.int .i64 y8,.int .i64 y9]) 61);have gh3:=hx3'.get w2' gh2;have gz3:=hx3'.get w2' gz2;have hl3:G3.load ⟨G2.next,0,none⟩ (1*10)=some ([.int .i64 y0,.string y1,.int .i64 y2,.bool y3,.string y4,.int .i64 y5,.bool y6,.int .i64 y7,.int .i64 y8,.int .i64 y9]):=(row10 g3').1;have hx03:=(hxG1.trans hx2').trans hx3';have hx13:=(hx1'.trans hx2').trans hx3';have hlx:φ.tells[i]?=some (φ.tell x.2):=by unfold FSt.tells;rw[Zr,Zd hlt,←hxe];rfl
   have hti:(φ.tells.take i).length=i:=by rw[List.length_take,z9f];omega
   have hlx':=hlx;rw[hyy] at hlx';obtain⟨u',G4,hap,hT4,hx4',hn4',hk4⟩:=(hT.keep hx13 wG).push (A:=H) (c:=1) (fun y hy=>z3h y (List.mem_of_mem_take hy)) (z3h (φ:=φ) _ (List.mem_of_getElem? hlx')).2 w3' hx03 (Ze _) hx03.next hl3 (by rw[hti];unfold most;omega);have e5:φ.tells.take (i+1)=φ.tells.take i++[[.int .i64 y0,.string y1,.int .i64 y2,.bool y3,.string y4,.int .i64 y5,.bool y6,.int .i64 y7,.int .i64 y8,.int .i64 y9]]:=by rw[List.take_add_one,hlx'];rfl
   rw[←e5] at hT4;obtain⟨au',cu',hue',-⟩:=hT4.sl fun y hy=>z3h y (List.mem_of_mem_take hy)
   subst hue';have gh4:=hk4 _ _ _ gh3 rfl;have gz4':=hk4 _ _ _ gz3 rfl;have q3:=row5 gh3;have hF4:=(hF.keep hx13 wG).same hk4;have hZ4':=(hZG.keep hx13 wG).same hk4
   repeat' (first|(refine EvC.reg ?_;simp (config := { maxSteps := 2000000 }) (disch:=first|omega|rfl) only[sB,Za,Zb,Value.cells,one,Zh,layC,zcs,ld42,ld61,zpe,st42,t3,q2,l2,e3',hap,gh4,t5,hw1])|(refine z08 ?_;simp (config := { maxSteps := 2000000 }) (disch:=first|omega|rfl) only[sB,dAlloc,Za,Zb,one,zr61,st61,e2]))
   refine⟨_,by omega,_,_,i+1,.slice au' (φ.tells.take (i+1)).length cu',rfl,rfl,by omega,(by simp only[sG,reduceCtorEq,t0]),(by simp only[sG,Za,t2]),(by simp only[sG,Za,t3]),(by simp only[sG,Za,t4]),(by simp only[sG,Za]),hx4'.pt (by omega) gh4 _,?_,?_,?_,?_,hF4.put gh4 rfl _,hZ4'.put gh4 rfl _⟩
   ·have k1:=hx1'.next;have k2:=hx2'.next;have k3:=hx3'.next;rw[z1b];omega
   ·rw[get_put,if_neg (by omega)];exact gz4'
   ·rw[get_put,if_pos rfl]
   ·exact hT4.put gh4 rfl _
  ·obtain rfl:i=φ.opens.length:=by omega
   have hle:φ.tells.take φ.opens.length=φ.tells:=by rw[←z9f,List.take_length]
   rw[hle] at hT gh;have qh:=row5 gh
   repeat' (first|refine EvC.seq ?_|(refine EvC.exit ?_;try simp only[sB])|(refine EvC.ret ?_)|(refine EvC.reg ?_;simp (config := { maxSteps := 2000000 }) (disch:=first|omega|rfl) only[sB,Za,Zb,one,st44,ln66,ld44,t2,t3,t4,t5,decn hlt,qh,gz])|(refine EvC.condF ?_ ?_;simp (config := { maxSteps := 2000000 }) (disch:=first|omega|rfl) only[sB,Za];refine z02 ?_))
   exact z0f rfl (by simp only[sB,Za,t2];rfl) (by simp only[if_true,z0b,ld44];rfl) ⟨hxG.pt (Ze _) gz _,_,_,rfl,hT.put gz rfl _,hF.put gz rfl _⟩
 ·exact⟨_,_,0,_,rfl,rfl,Zz _,(by simp only[sG,reduceCtorEq]),(by simp only[sG,Za,reduceCtorEq]),(by simp only[sG,Za,reduceCtorEq]),(by simp only[sG,Za,reduceCtorEq]),(by simp only[sB,Za,reduceCtorEq];rfl),hx04,Ze _,gz4,g4,.inl ⟨rfl,rfl⟩,hO4,hZ4⟩
theorem zqq {H:Heap}{x y:Operand}{φ:FSt}{s:Strm}:dBin Tryz.prog .neq 61 x y (.agg ⟨φ.tell s⟩) (.agg ⟨φ.tell s⟩) H=some (.val (.bool false) H):=by
 have h:=zq2 (x0:=s.id) (x1:=s.file) (x2:=s.mode) (x3:=s.bin) (x4:=s.al) (x5:=s.eof) (x6:=s.rep) (x7:=φ.posR s) (x8:=lineI (φ.data s) (φ.posR s).toNat) (x9:=φ.endR s);obtain⟨v,hv⟩:∃v:Array Value,v=⟨φ.tell s⟩:=⟨_,rfl⟩
 have hv':(#[.int .i64 s.id,.string s.file,.int .i64 s.mode,.bool s.bin,.string s.al,.int .i64 s.eof,.bool s.rep,.int .i64 (φ.posR s),.int .i64 (lineI (φ.data s) (φ.posR s).toNat),.int .i64 (φ.endR s)]:Array Value)=v:=hv.symm;rw[hv'] at h;rw[←hv];have hp:Tryz.prog.eqGuardType Tryz.prog.depth 61=false:=by kernel_rfl
 have hg:pureRun Tryz.prog (eqGuard .neq 61 x y (.agg v) (.agg v))=some ():=by
  unfold eqGuard;simp only[Zn,Zc,if_false];rw[z0a,z3g,Zq,z0a,z3g,Zq,hp];rfl
 have hb:pureRun Tryz.prog (binOp .neq 61 (.agg v) (.agg v))=some (.bool false):=by
  unfold binOp;simp only[];rw[z0a,h];rfl
 have hall:pureRun Tryz.prog (do let r ←(do eqGuard .neq 61 x y (.agg v) (.agg v);binOp .neq 61 (.agg v) (.agg v));pure (Next.value r))=some (.value (.bool false)):=by
  rw[z0a,z0a,hg,Zq,hb];rfl
 unfold dBin;have d0:dnil Tryz.prog .neq 61 (.agg v) (.agg v)=none:=rfl;rw[d0];simp only[hall];have hf:flat (Value.agg v)=true:=by rw[hv];rfl
 rw[hf];rfl
theorem zqr {H:Heap}{t:TypeId}{x y:Operand}{a:ByteArray}:dBin Tryz.prog .neq t x y (.string a) (.string a) H=some (.val (.bool false) H):=by
 rw[z2s,beq_self_eq_true];rfl
set_option maxHeartbeats 8000000 in
theorem zme {H:Heap}{φ:FSt}{N:Int}{u w u' w':Value}{b1 b2 b3 b4:Nat}(hw:H.wf) (hI:Inv φ N) (h1:OutT H φ.tells u b1) (h2:OutF H φ.sorted w b2) (h3:OutT H φ.tells u' b3) (h4:OutF H φ.sorted w' b4) :
  EvF Tryz.prog okT 22 [.agg ⟨heldRow u w φ⟩,.agg ⟨heldRow u' w' φ⟩] H fun v H'=>v=.bool true∧HX H H':=by
 refine EvF.enter rfl Tryz.func22 (by decide) rfl ?_;have hno:=hI.no;have hnf:=hI.nf;have htl:=z9f φ;have hsl:=z5c φ;obtain⟨a1,c1,rfl,l1⟩:=h1.sl z3h;obtain⟨a2,c2,rfl,l2⟩:=h2.sl;obtain⟨a3,c3,rfl,l3⟩:=h3.sl z3h;obtain⟨a4,c4,rfl,l4⟩:=h4.sl;obtain⟨n,hn⟩:∃n,n=φ.tells.length:=⟨_,rfl⟩
 obtain⟨m,hm⟩:∃m,m=φ.sorted.length:=⟨_,rfl⟩
 rw[←hn,←hm];(repeat refine EvC.seq ?_);refine EvC.reg ?_;simp (config := { maxSteps := 2000000 }) (disch:=first|omega|rfl) only[sB,initTm,dBox,Za,Value.cells,one,reduceCtorEq];obtain⟨H1,e1,hx1,gA,gB,n1,w1⟩:=new2 hw (.row [.slice a1 n c1,.slice a2 m c2,.string φ.out,.int .i64 φ.inp,.int .i64 φ.put] 44) (.row [.slice a3 n c3,.slice a4 m c4,.string φ.out,.int .i64 φ.inp,.int .i64 φ.put] 44);simp only[e1];have qA:=row5 gA;have qB:=row5 gB;have z1:((n:Int) != (n:Int))=false:=z17 rfl;have z2:((m:Int) != (m:Int))=false:=z17 rfl;have z3:(φ.inp != φ.inp)=false:=z17 rfl;have z4:(φ.put != φ.put)=false:=z17 rfl
 repeat' (first|refine EvC.seq ?_|refine EvC.block ?_|(refine EvC.skip ?_;try simp only[z00])|(refine EvC.reg ?_;simp (config := { maxSteps := 2000000 }) (disch:=first|omega|rfl) only[sB,Za,reduceCtorEq,zcs,ld42,ln42,zft,ld22,ln22,zpg,ld9,zph,ld3,zpi,qA,qB,z1,z2,z3,z4,zqr,Zc])|(refine EvC.condF ?_ ?_;simp (config := { maxSteps := 2000000 }) (disch:=first|omega|rfl) only[sB,Za,reduceCtorEq];refine z02 ?_))
 have t2':H1.get H.next=some (.row (heldRow (.slice a1 n c1) (.slice a2 m c2) φ) 44):=gA;refine EvC.loop (fun k st=>∃tm G i,st=⟨tm,[],G⟩∧k=n - i∧i≤n∧tm.get 2=some (ptrV H.next)∧tm.get 3=some (ptrV (H.next+1))∧tm.get 5=some (.int .i64 (i:Nat))∧HX H1 G) ?_ n _ ?_
 ·rintro k st ⟨tm,G,i,rfl,rfl,hi,t2,t3,t5,hxG⟩;have wG:=hxG.wf;have gA':=hxG.get w1 gA;have gB':=hxG.get w1 gB;have qA:=row5 gA';have qB:=row5 gB';by_cases hlt:i < n
  ·have hx0:=Zd (l:=φ.opens) (i:=i) (by omega);have hx1':φ.tells[i]?=some (φ.tell (φ.opens[i]'(by omega)).2):=by unfold FSt.tells;rw[Zr,hx0];rfl
   obtain⟨x,hxe⟩:∃x,x=(φ.opens[i]'(by omega)).2:=⟨_,rfl⟩
   rw[←hxe] at hx1';obtain⟨bu,rfl,lu⟩:=l1 i _ hx1';obtain⟨bv,rfl,lv⟩:=l3 i _ hx1';have hw1:IntKind.i64.wrap ((i:Int)+1)=((i+1:Nat):Int):=by rw[z0e]<;>omega
   obtain⟨G3,e3,hx3',w3'⟩:=z5e wG 11;have qA3:=row5 (hx3'.get wG gA');have qB3:=row5 (hx3'.get wG gB');have lu3:=hx3'.load wG (hxG.load w1 (hx1.load hw lu));have lv3:=hx3'.load wG (hxG.load w1 (hx1.load hw lv))
   repeat' (first|refine EvC.seq ?_|refine EvC.block ?_|(refine EvC.skip ?_;try simp only[sA])|(refine EvC.reg ?_;simp (config := { maxSteps := 2000000 }) (disch:=first|omega|rfl) only[sB,Za,zcs,ld42,ln42,t2,t5,qA,decl hlt,hw1])|(refine EvC.drw [([(0,0),(1,0),(2,0),(3,0),(4,0),(5,0),(6,0),(7,0),(8,0),(9,0),(10,0)],none)] ?_ ?_;kernel_rfl;simp (config := { maxSteps := 2000000 }) (disch:=first|omega|rfl) only[sD,sB,Za,Zb,reduceCtorEq,zcs,ld42,ia42,ld61,t2,t3,t5,e3,qA3,qB3,lu3,lv3,zqq,isAlloc,isRead])|(refine EvC.condT ?_ ?_;simp (config := { maxSteps := 2000000 }) (disch:=first|omega|rfl) only[sB,Za];refine z02 ?_)|(refine EvC.condF ?_ ?_;simp (config := { maxSteps := 2000000 }) (disch:=first|omega|rfl) only[sB,Za];refine z02 ?_))
   exact⟨_,by omega,_,_,i+1,rfl,rfl,by omega,(by simp only[sG,Za,t2]),(by simp only[sG,Za,t3]),(by simp only[sG,Za]),hxG.trans hx3'⟩
  ·repeat' (first|refine EvC.seq ?_|refine EvC.block ?_|(refine EvC.exit ?_;try simp only[sB])|(refine EvC.reg ?_;simp (config := { maxSteps := 2000000 }) (disch:=first|omega|rfl) only[sB,Za,zcs,ld42,ln42,t2,t5,qA,decn hlt])|(refine EvC.condF ?_ ?_;simp (config := { maxSteps := 2000000 }) (disch:=first|omega|rfl) only[sB,Za];refine z02 ?_))
   refine EvC.loop (fun k st=>∃tm G i,st=⟨tm,[],G⟩∧k=m - i∧i≤m∧tm.get 2=some (ptrV H.next)∧tm.get 3=some (ptrV (H.next+1))∧tm.get 6=some (.int .i64 (i:Nat))∧HX H1 G) ?_ m _ ?_
   ·clear t2 t3 t5 qA qB gA' gB' wG hxG hi hlt;rintro k st ⟨tm,G,i,rfl,rfl,hi,t2,t3,t6,hxG⟩;have wG:=hxG.wf;have gA':=hxG.get w1 gA;have gB':=hxG.get w1 gB;have qA:=row5 gA';have qB:=row5 gB';by_cases hlt:i < m
    ·have hx0:=Zd (l:=φ.sorted) (i:=i) (by omega);obtain⟨x,hxe⟩:∃x,x=(φ.sorted[i]'(by omega)):=⟨_,rfl⟩
     rw[←hxe] at hx0;obtain⟨bu,rfl,lu⟩:=l2 i _ hx0;obtain⟨bv,rfl,lv⟩:=l4 i _ hx0;have hw1:IntKind.i64.wrap ((i:Int)+1)=((i+1:Nat):Int):=by rw[z0e]<;>omega
     obtain⟨G3,e3,hx3',w3'⟩:=z5e wG 11;have qA3:=row5 (hx3'.get wG gA');have qB3:=row5 (hx3'.get wG gB');have lu3:=hx3'.load wG (hxG.load w1 (hx1.load hw lu));have lv3:=hx3'.load wG (hxG.load w1 (hx1.load hw lv))
     repeat' (first|refine EvC.seq ?_|refine EvC.block ?_|(refine EvC.skip ?_;try simp only[sA])|(refine EvC.reg ?_;simp (config := { maxSteps := 2000000 }) (disch:=first|omega|rfl) only[sB,Za,zft,ld22,ln22,t2,t6,qA,decl hlt,hw1])|(refine EvC.drw [([(0,0),(1,0),(2,0),(3,0),(4,0),(5,0),(6,0),(7,0),(8,0),(9,0),(10,0)],none)] ?_ ?_;kernel_rfl;simp (config := { maxSteps := 2000000 }) (disch:=first|omega|rfl) only[sD,sB,Za,Zb,reduceCtorEq,zft,ld22,ia22,ld73,t2,t3,t6,e3,qA3,qB3,lu3,lv3,bNeF,isAlloc,isRead])|(refine EvC.condT ?_ ?_;simp (config := { maxSteps := 2000000 }) (disch:=first|omega|rfl) only[sB,Za];refine z02 ?_)|(refine EvC.condF ?_ ?_;simp (config := { maxSteps := 2000000 }) (disch:=first|omega|rfl) only[sB,Za];refine z02 ?_))
     exact⟨_,by omega,_,_,i+1,rfl,rfl,by omega,(by simp only[sG,Za,t2]),(by simp only[sG,Za,t3]),(by simp only[sG,Za]),hxG.trans hx3'⟩
    ·repeat' (first|refine EvC.seq ?_|(refine EvC.exit ?_;try simp only[sB])|(refine EvC.ret ?_)|(refine EvC.reg ?_;simp (config := { maxSteps := 2000000 }) (disch:=first|omega|rfl) only[sB,Za,zft,ld22,ln22,t2,t6,qA,decn hlt])|(refine EvC.condF ?_ ?_;simp (config := { maxSteps := 2000000 }) (disch:=first|omega|rfl) only[sB,Za];refine z02 ?_))
     exact z06 rfl (by simp only[sG,Za]) ⟨rfl,hx1.trans hxG⟩
   ·exact⟨_,_,0,rfl,rfl,Zz _,(by simp only[sG,Za,t2]),(by simp only[sG,Za,t3]),(by simp only[sB,Za];rfl),hxG⟩
 ·exact⟨_,_,0,rfl,rfl,Zz _,(by simp only[sG,Za,reduceCtorEq]),(by simp only[sG,Za,reduceCtorEq]),(by simp only[sB,Za,reduceCtorEq];rfl),HX.refl w1⟩
end Go.Proofs.hq
end

section
namespace Go.Proofs.hq
open Go Go.RowKit Go.Hb
mutual
def cnt:Tm→Nat→Nat
 |.mk _ _ _ _ _ l,n=>cntL l (n+1)
def cntL:List Tm→Nat→Nat
 |[],n=>n
 |t :: l,n=>if 4000 < n then n else cntL l (cnt t n)
end
theorem zmf {t:Tm}{k:Int}{s u:ByteArray}{b v:Int}{l:List Tm}(h:t∈l):SizeOf.sizeOf t < SizeOf.sizeOf (Tm.mk k s u b v l):=by
 have:=List.sizeOf_lt_of_mem h;simp;omega
theorem zkj {t u:Tm}{i:Nat}(h:t.args[i]?=some u):SizeOf.sizeOf u < SizeOf.sizeOf t:=by
 obtain⟨k,s,w,b,v,l⟩:=t;exact zmf (List.mem_of_getElem? h)
variable {ok:Ok}
end Go.Proofs.hq
end

section
namespace Go.Proofs.hq
open Go Go.RowKit Go.Hb
theorem zhw {a b:ByteArray}(h:a.toList=b.toList):a=b:=by
 rw[z1m,z1m] at h;obtain⟨⟨a⟩⟩:=a;obtain⟨⟨b⟩⟩:=b;simp at h;rw[h]
theorem zq4 {t t':Tm}(h1:t.kind=t'.kind) (h2:t.name=t'.name) (h3:t.num=t'.num) (h4:t.bits=t'.bits) (h5:t.var=t'.var) (h6:t.args=t'.args):t=t':=by
 obtain⟨k,s,u,b,v,l⟩:=t;obtain⟨k',s',u',b',v',l'⟩:=t';simp only[Tm.kind,Tm.name,Tm.num,Tm.bits,Tm.var,Tm.args] at *;subst h1 h2 h3 h4 h5 h6;rfl
end Go.Proofs.hq
end

section
namespace Go.Proofs.hq
open Go Go.RowKit Go.Hb
variable {ok:Ok}
set_option maxRecDepth 10000
attribute [local irreducible] LX LG EL STG SOP SGO SGD SAL SRD SEF SEG SLK SCK ES
noncomputable def eqT (t t':Tm):Bool:=@decide (t=t') (Classical.propDecidable _)
theorem zow {t t':Tm}(h:t=t'):eqT t t'=true:=by unfold eqT;exact @decide_eq_true _ (Classical.propDecidable _) h
theorem zdc {t t':Tm}(h:t≠t'):eqT t t'=false:=by unfold eqT;exact @decide_eq_false _ (Classical.propDecidable _) h
theorem z6q {a b:ByteArray}(h:a=b):(a.toList == b.toList)=true:=by rw[h];exact beq_self_eq_true _
theorem znr {a b:ByteArray}(h:a≠b):(a.toList == b.toList)=false:=by
 rw[beq_eq_false_iff_ne];exact fun q=>h (zhw q)
set_option maxHeartbeats 4000000 in
theorem zox {m:Nat}:∀{t t':Tm}{cs cs':List Value}{H:Heap},SizeOf.sizeOf t < m→RepT H t cs→RepT H t' cs'→H.wf →
  EvF Tryz.prog okT 80 [.agg ⟨cs⟩,.agg ⟨cs'⟩] H fun v H'=>v=.bool (eqT t t')∧HX H H':=by
 induction m with
 |zero=>intro t t' cs cs' H h;omega
 |succ m ih =>
 intro t t' cs cs' H hsz r r' hw;obtain⟨a,c,cells,rfl,b1,b2,b3,b4,b5,rl⟩:=r.six;obtain⟨a',c',cells',rfl,b1',b2',b3',b4',b5',rl'⟩:=r'.six;refine EvF.enter rfl Tryz.func80 (by decide) rfl ?_;(repeat refine EvC.seq ?_);refine EvC.reg ?_;simp (config := { maxSteps := 2000000 }) (disch:=first|omega|rfl) only[sB,initTm,dBox,Za,Value.cells,one,reduceCtorEq];obtain⟨H2,e2,hx2,gp,gq,hnx,hw2⟩:=new2 hw (.row (six t a c) 88) (.row (six t' a' c') 88);simp only[e2];have q1:=row6 gp;have q2:=row6 gq;clear e2;by_cases k1:t.kind=t'.kind;rotate_left
 ·repeat' (first|refine EvC.seq ?_|(refine EvC.ret ?_;try simp only[z05,z03])|(refine EvC.reg ?_;simp (config := { maxSteps := 2000000 }) (disch:=first|omega|rfl) only[sB,Za,reduceCtorEq,z8y,ld3,z3i k1,q1,q2])|(refine EvC.condT ?_ ?_;simp (config := { maxSteps := 2000000 }) (disch:=first|omega|rfl) only[sB,Za,reduceCtorEq];refine z02 ?_))
  exact z06 rfl (by simp only[sB,Za,reduceCtorEq];rfl) ⟨by rw[zdc (fun h=>k1 (by rw[h]))],hx2⟩
 by_cases k2:t.name=t'.name;rotate_left
 ·repeat' (first|refine EvC.seq ?_|(refine EvC.ret ?_;try simp only[z05,z03])|(refine EvC.reg ?_;simp (config := { maxSteps := 2000000 }) (disch:=first|omega|rfl) only[sB,Za,reduceCtorEq,z8y,ld3,zab,ld9,z17 k1,q1,q2,z2s,znr k2,Zm,Zc])|(refine EvC.condT ?_ ?_;simp (config := { maxSteps := 2000000 }) (disch:=first|omega|rfl) only[sB,Za,reduceCtorEq];refine z02 ?_))
  exact z06 rfl (by simp only[sB,Za,reduceCtorEq];rfl) ⟨by rw[zdc (fun h=>k2 (by rw[h]))],hx2⟩
 by_cases k3:t.num=t'.num;rotate_left
 ·repeat' (first|refine EvC.seq ?_|(refine EvC.ret ?_;try simp only[z05,z03])|(refine EvC.reg ?_;simp (config := { maxSteps := 2000000 }) (disch:=first|omega|rfl) only[sB,Za,reduceCtorEq,z8y,ld3,zab,ld9,zct,z17 k1,q1,q2,z2s,z6q k2,znr k3,Zm,Zn,Zc])|(refine EvC.condT ?_ ?_;simp (config := { maxSteps := 2000000 }) (disch:=first|omega|rfl) only[sB,Za,reduceCtorEq];refine z02 ?_))
  exact z06 rfl (by simp only[sB,Za,reduceCtorEq];rfl) ⟨by rw[zdc (fun h=>k3 (by rw[h]))],hx2⟩
 by_cases k4:t.bits=t'.bits;rotate_left
 ·repeat' (first|refine EvC.seq ?_|(refine EvC.ret ?_;try simp only[z05,z03])|(refine EvC.reg ?_;simp (config := { maxSteps := 2000000 }) (disch:=first|omega|rfl) only[sB,Za,reduceCtorEq,z8y,ld3,zab,ld9,zct,zfz,ld85,z17 k1,q1,q2,z2s,z6q k2,z6q k3,z3i k4,Zn,Zc])|(refine EvC.condT ?_ ?_;simp (config := { maxSteps := 2000000 }) (disch:=first|omega|rfl) only[sB,Za,reduceCtorEq];refine z02 ?_))
  exact z06 rfl (by simp only[sB,Za,reduceCtorEq];rfl) ⟨by rw[zdc (fun h=>k4 (by rw[h]))],hx2⟩
 by_cases k5:t.var=t'.var;rotate_left
 ·repeat' (first|refine EvC.seq ?_|(refine EvC.ret ?_;try simp only[z05,z03])|(refine EvC.reg ?_;simp (config := { maxSteps := 2000000 }) (disch:=first|omega|rfl) only[sB,Za,reduceCtorEq,z8y,ld3,zab,ld9,zct,zfz,ld85,zjf,z17 k1,q1,q2,z2s,z6q k2,z6q k3,z17 k4,z3i k5,Zn,Zc])|(refine EvC.condT ?_ ?_;simp (config := { maxSteps := 2000000 }) (disch:=first|omega|rfl) only[sB,Za,reduceCtorEq];refine z02 ?_))
  exact z06 rfl (by simp only[sB,Za,reduceCtorEq];rfl) ⟨by rw[zdc (fun h=>k5 (by rw[h]))],hx2⟩
 by_cases k6:(t.args.length:Int)=t'.args.length;rotate_left
 ·repeat' (first|refine EvC.seq ?_|(refine EvC.ret ?_;try simp only[z05,z03])|(refine EvC.reg ?_;simp (config := { maxSteps := 2000000 }) (disch:=first|omega|rfl) only[sB,Za,reduceCtorEq,z8y,ld3,zab,ld9,zct,zfz,ld85,zjf,zcu,ld86,ln86,z17 k1,q1,q2,z2s,z6q k2,z6q k3,z17 k4,z17 k5,z3i k6,Zn,Zc])|(refine EvC.condT ?_ ?_;simp (config := { maxSteps := 2000000 }) (disch:=first|omega|rfl) only[sB,Za,reduceCtorEq];refine z02 ?_))
  exact z06 rfl (by simp only[sB,Za,reduceCtorEq];rfl) ⟨by rw[zdc (fun h=>k6 (by rw[h]))],hx2⟩
 repeat' (first|refine EvC.seq ?_|refine EvC.block ?_|(refine EvC.skip ?_;try simp only[z00])|(refine EvC.reg ?_;simp (config := { maxSteps := 2000000 }) (disch:=first|omega|rfl) only[sB,Za,reduceCtorEq,z8y,ld3,zab,ld9,zct,zfz,ld85,zjf,zcu,ld86,ln86,z17 k1,q1,q2,z2s,z6q k2,z6q k3,z17 k4,z17 k5,z17 k6,Zn,Zc])|(refine EvC.condF ?_ ?_;simp (config := { maxSteps := 2000000 }) (disch:=first|omega|rfl) only[sB,Za,reduceCtorEq];refine z02 ?_))
 have hlen:t.args.length=t'.args.length:=by omega
 have hm:=rl.max;refine EvC.loop (fun k st=>∃tm H' i,st=⟨tm,[],H'⟩∧k=t.args.length - i∧i≤t.args.length∧(∀j,j < i→t.args[j]?=t'.args[j]?) ∧
   tm.get 2=some (.pointer (some ⟨H.next,0,none⟩))∧tm.get 3=some (.pointer (some ⟨H.next+1,0,none⟩))∧tm.get 5=some (.int .i64 (i:Nat)) ∧
   H'.get H.next=some (.row (six t a c) 88)∧H'.get (H.next+1)=some (.row (six t' a' c') 88)∧HX H H') ?_ t.args.length _ ?_
 ·rintro k st ⟨tm,H',i,rfl,rfl,hi,hc,t2,t3,t5,gp',gq',hx'⟩;have q1:=row6 gp';have q2:=row6 gq';by_cases hlt:i < t.args.length
  ·have hlt':i < t'.args.length:=by omega
   obtain⟨b,o,a1,c1,rfl,hld,hr1⟩:=rl.el hlt;obtain⟨b',o',a2,c2,rfl,hld',hr2⟩:=rl'.el hlt';have hld1:=hx'.load hw hld;have hld2:=hx'.load hw hld'
   repeat' (first|refine EvC.seq ?_|refine EvC.block ?_|(refine EvC.skip ?_;try simp only[z00])|(refine EvC.reg ?_;simp (config := { maxSteps := 2000000 }) (disch:=first|omega|rfl) only[sB,Za,zcu,ld86,ln86,t2,t5,q1,decl hlt])|(refine EvC.drw [([(0,0),(1,0),(2,0),(3,0),(4,0),(5,0),(6,0),(7,0),(8,0),(9,0)],some 10),([(11,1)],none)] ?_ ?_;kernel_rfl;simp (config := { maxSteps := 2000000 }) (disch:=first|omega|rfl) only[sD,sB,Za,Zb,reduceCtorEq,zcu,ld86,ia86,ld88,cl80,t2,t3,t5,q1,q2,hld1,hld2,isAlloc,isRead])|(refine EvC.condT ?_ ?_;simp (config := { maxSteps := 2000000 }) (disch:=first|omega|rfl) only[sB,Za];refine z02 ?_))
   have hb:=hx'.bump 12;have hs:=zkj (Zd hlt);refine(ih (t:=t.args[i]) (t':=t'.args[i]) (by omega) (hr1.mono hb hw) (hr2.mono hb hw) hb.wf).mono ?_;rintro v H4 ⟨rfl,hx4⟩;have hx5:=hb.trans hx4;by_cases he:t.args[i]=t'.args[i]
   ·repeat' (first|refine EvC.seq ?_|(refine EvC.skip ?_;try simp only[sA])|(refine EvC.reg ?_;simp (config := { maxSteps := 2000000 }) (disch:=first|omega|rfl) only[sB,Za,Zn,t5,z0e])|(refine z2t ?_;simp (config := { maxSteps := 2000000 }) (disch:=first|omega|rfl) only[sD,sB,Za,zow he,isAlloc,isRead])|(refine EvC.condF ?_ ?_;simp (config := { maxSteps := 2000000 }) (disch:=first|omega|rfl) only[sB,Za];refine z02 ?_))
    refine⟨t.args.length - (i+1),by omega,_,_,i+1,rfl,rfl,by omega,fun j hj=>?_,(by simp only[sG,Za,t2]),(by simp only[sG,Za,t3]),(by simp only[sB,Za];rfl),hx4.get hb.wf gp',hx4.get hb.wf gq',hx5⟩;by_cases hji:j=i
    ·subst hji;rw[Zd hlt,Zd hlt',he]
    ·exact hc j (by omega)
   ·repeat' (first|refine EvC.seq ?_|(refine EvC.ret ?_;try simp only[z05,z03])|(refine EvC.reg ?_;simp (config := { maxSteps := 2000000 }) (disch:=first|omega|rfl) only[sB,Za,Zm])|(refine z2t ?_;simp (config := { maxSteps := 2000000 }) (disch:=first|omega|rfl) only[sD,sB,Za,zdc he,isAlloc,isRead])|(refine EvC.condT ?_ ?_;simp (config := { maxSteps := 2000000 }) (disch:=first|omega|rfl) only[sB,Za];refine z02 ?_))
    refine z06 rfl (by simp only[sB,Za];rfl) ⟨?_,hx5⟩;rw[zdc];rintro rfl;exact he rfl
  ·repeat' (first|refine EvC.seq ?_|(refine EvC.exit ?_;try simp only[sB])|(refine EvC.ret ?_)|(refine EvC.reg ?_;simp (config := { maxSteps := 2000000 }) (disch:=first|omega|rfl) only[sB,Za,zcu,ld86,ln86,t2,t5,q1,decn hlt])|(refine EvC.condF ?_ ?_;simp (config := { maxSteps := 2000000 }) (disch:=first|omega|rfl) only[sB,Za];refine z02 ?_))
   refine z06 rfl (by simp only[sB,Za];rfl) ⟨?_,hx'⟩;rw[zow];refine zq4 k1 k2 k3 k4 k5 (ZD fun j=>?_);by_cases hj:j < i
   ·exact hc j hj
   ·rw[Zw (by omega),Zw (by omega)]
 ·exact⟨_,_,0,rfl,rfl,by omega,by omega,(by simp only[sG,Za,reduceCtorEq]),(by simp only[sG,Za,reduceCtorEq]),(by simp only[sB,Za,reduceCtorEq];rfl),gp,gq,hx2⟩
theorem zhx {t t':Tm}{cs cs':List Value}{H:Heap}(r:RepT H t cs) (r':RepT H t' cs') (hw:H.wf) :
  EvF Tryz.prog okT 80 [.agg ⟨cs⟩,.agg ⟨cs'⟩] H fun v H'=>v=.bool (eqT t t')∧HX H H':=zox (Nat.lt_succ_self _) r r' hw
end Go.Proofs.hq
end

section
namespace Go.Hb
open Go Go.RowKit
def dNilK (v:Value) (H:Heap):Option Dr:=match v with
 |.pointer (some a)=>some (.val (.pointer (some a)) H)
 |.func (.func f) a b=>some (.val (.func (.func f) a b) H)
 |_=>none
theorem zmg {P:Program}{H:Heap}{d:Option Tmp}{x:Operand}{ty:TypeId}{pos:String}{af:Array Edge}{g:Option (Nat × Bool)}{ρ:Operand→Value}:dop P ⟨d,.nilCheck x,ty,pos,af,g⟩ ρ H=dNilK (ρ x) H:=_root_.id rfl
theorem zkk {H:Heap}{a:Addr}:dNilK (.pointer (some a)) H=some (.val (.pointer (some a)) H):=_root_.id rfl
end Go.Hb
namespace Go.Proofs.hq
open Go Go.RowKit Go.Hb
variable {ok:Ok}
set_option maxRecDepth 10000
attribute [local irreducible] LX LG EL STG SOP SGO SGD SAL SRD SEF SEG SLK SCK ES
theorem zoy:isPtr Tryz.prog 136=true:=by kernel_rfl
theorem zoz {H:Heap}{x y:Operand}{a:Addr}:dBin Tryz.prog .neq 136 x y (.pointer (some a)) (.pointer none) H=some (.val (.bool true) H):=by
 simp only[dBin,dnil,zoy,nilEq,if_true]
theorem zp0:taZ Tryz.prog 26=some (.int .i64 0):=by kernel_rfl
theorem zq5:taZ Tryz.prog 136=some (.pointer none):=by kernel_rfl
set_option maxHeartbeats 8000000 in
theorem z1u {H:Heap}{b:BadV}{e:Value}{bs:List Value}(he:ErrB H b e) (hb:BadR H b bs) (hw:H.wf) (hn:∀n,b=.code n→n≠0):EvF Tryz.prog okT 37 [e,.agg ⟨bs⟩] H fun v H'=>v=.bool true∧HX H H':=by
 cases b with
 |none =>
  obtain rfl:bs=bad8:=hb;obtain rfl:e=.nilIface:=he;refine EvF.enter rfl Tryz.func37 (by decide) rfl ?_;(repeat refine EvC.seq ?_);refine EvC.reg ?_;simp (config := { maxSteps := 2000000 }) (disch:=first|omega|rfl) only[sB,initTm,dBox,Value.cells,one,reduceCtorEq];obtain⟨H2,e2,hx2,gs,hn2,hw2⟩:=new1 hw (.row bad8 90);simp only[e2];have k0:H2.load ⟨H.next,0,none⟩ 1=some [.int .i64 0]:=z0i gs rfl;have k1:H2.load ⟨H.next,1,none⟩ 1=some [.bool false]:=z0i gs rfl
  repeat' (first|refine EvC.seq ?_|(refine EvC.skip ?_;try simp only[z00])|(refine EvC.ret ?_)|(refine EvC.reg ?_;simp (config := { maxSteps := 2000000 }) (disch:=first|omega|rfl) only[sB,Za,reduceCtorEq,zfw,ld26,zfx,ld4,k0,k1,z17 rfl,zps])|(refine EvC.condF ?_ ?_;simp (config := { maxSteps := 2000000 }) (disch:=first|omega|rfl) only[sB,Za,reduceCtorEq];refine z02 ?_))
  exact z06 rfl (by simp only[sG,Za,reduceCtorEq]) ⟨rfl,hx2⟩
 |code n =>
  have hne:=hn n rfl;obtain rfl:bs=.int .i64 n :: .bool false :: zero6:=hb;obtain rfl:e=.iface 26 (.int .i64 n):=he;refine EvF.enter rfl Tryz.func37 (by decide) rfl ?_;(repeat refine EvC.seq ?_);refine EvC.reg ?_;simp (config := { maxSteps := 2000000 }) (disch:=first|omega|rfl) only[sB,initTm,dBox,Value.cells,one,reduceCtorEq];obtain⟨H2,e2,hx2,gs,hn2,hw2⟩:=new1 hw (.row [.int .i64 n,.bool false,.int .i64 0,.string Zg,.string Zg,.int .u64 0,.int .i64 0,.slice none 0 0] 90);simp only[e2];have k0:H2.load ⟨H.next,0,none⟩ 1=some [.int .i64 n]:=z0i gs rfl
  repeat' (first|refine EvC.seq ?_|(refine EvC.ret ?_;try simp only[z05,z03])|(refine EvC.reg ?_;simp (config := { maxSteps := 2000000 }) (disch:=first|omega|rfl) only[sB,Za,reduceCtorEq,zfw,ld26,k0,z3i hne,z5h,zj9 zp0,z19 rfl])|(refine EvC.condT ?_ ?_;simp (config := { maxSteps := 2000000 }) (disch:=first|omega|rfl) only[sB,Za,reduceCtorEq];refine z02 ?_))
  exact z06 rfl (by simp only[sG,Za,reduceCtorEq]) ⟨rfl,hx2⟩
 |ball t =>
  obtain⟨a,c,rfl,hr⟩:=hb;obtain⟨p,cs,rfl,gp,hr'⟩:=he;obtain⟨a',c',rfl⟩:=hr'.six;refine EvF.enter rfl Tryz.func37 (by decide) rfl ?_;(repeat refine EvC.seq ?_);refine EvC.reg ?_;simp (config := { maxSteps := 2000000 }) (disch:=first|omega|rfl) only[sB,initTm,dBox,Value.cells,one,reduceCtorEq];obtain⟨H2,e2,hx2,gs,hn2,hw2⟩:=new1 hw (.row (.int .i64 0 :: .bool true :: six t a c) 90);simp only[e2];have k0:H2.load ⟨H.next,0,none⟩ 1=some [.int .i64 0]:=z0i gs rfl;have k1:H2.load ⟨H.next,1,none⟩ 1=some [.bool true]:=z0i gs rfl;have k2:H2.load ⟨H.next,2,none⟩ 6=some (six t a c):=by simp only[Heap.load,Heap.cells,gs];rfl
  have qp:=row6 (hx2.get hw gp)
  repeat' (first|refine EvC.seq ?_|(refine EvC.skip ?_;try simp only[z00])|(refine EvC.reg ?_;simp (config := { maxSteps := 2000000 }) (disch:=first|omega|rfl) only[sB,Za,reduceCtorEq,zfw,ld26,zfx,ld4,k0,k1,z17 rfl,z5h,zj9 zq5])|(refine EvC.drw [([(0,0),(1,0),(2,0),(3,0),(4,0),(5,0),(6,0),(7,0),(8,0),(9,0),(10,0),(11,0)],some 12),([(13,1),(14,1)],none)] ?_ ?_;kernel_rfl;simp (config := { maxSteps := 2000000 }) (disch:=first|omega|rfl) only[sD,sB,Za,Zb,reduceCtorEq,zo5,ld88,zpk,cl80,k2,qp,zoz,zmg,zkk,isAlloc,isRead])|(refine EvC.condT ?_ ?_;simp (config := { maxSteps := 2000000 }) (disch:=first|omega|rfl) only[sB,Za,reduceCtorEq];refine z02 ?_)|(refine EvC.condF ?_ ?_;simp (config := { maxSteps := 2000000 }) (disch:=first|omega|rfl) only[sB,Za,reduceCtorEq];refine z02 ?_))
  have hbm:HX H ⟨H2.next+15,H2.t⟩:=hx2.bump 15;refine(zhx (hr'.rep.mono hbm hw) (hr.rep.mono hbm hw) hbm.wf).mono ?_;rintro v H3 ⟨rfl,hx3⟩
  repeat' (first|(refine EvC.ret ?_;try simp only[z05,z03])|(refine z2t ?_;simp (config := { maxSteps := 2000000 }) (disch:=first|omega|rfl) only[sD,sB,Za,reduceCtorEq,zow rfl,isAlloc,isRead]))
  exact z06 rfl (by simp only[sG,Za,reduceCtorEq]) ⟨rfl,hbm.trans hx3⟩
end Go.Proofs.hq
end

section
namespace Go.Proofs.hq
open Go Go.RowKit Go.Hb
variable {ok:Ok}
set_option maxRecDepth 10000
attribute [local irreducible] LX LG EL STG SOP SGO SGD SAL SRD SEF SEG SLK SCK ES
set_option maxHeartbeats 16000000 in
theorem zkl {H:Heap}{B:Nat→Prop}{r f l:Nat}{φ:FSt}{n pos:Int}(h:RfB H B r f l φ) (hI:RIn φ) (hw:H.wf) (hn:i64 n) (hpos:i64 pos) :
  EvF Tryz.prog okT 41 [ptrV r,.int .i64 n,.int .i64 pos] H fun v H'=>Hy B H H'∧∃bs,v=.agg ⟨bs⟩∧BadR H' (BadV.of (φ.seekR n pos).1) bs∧RfB H' B r f l (φ.seekR n pos).2:=by
 refine EvF.enter rfl Tryz.func41 (by decide) rfl ?_;have hno:=hI.no;have hnf:=hI.nf;(repeat refine EvC.seq ?_);refine EvC.reg ?_;simp (config := { maxSteps := 2000000 }) (disch:=first|omega|rfl) only[sA,initTm,dAlloc,Zb,zr90];obtain⟨H1,e1,hx1,g1,n1,w1⟩:=new1 hw (.row bad8 90);simp only[e1];clear e1;have h1:=h.keep hx1 hw
 repeat' (first|refine EvC.seq ?_|(refine EvC.reg ?_;simp (config := { maxSteps := 2000000 }) (disch:=first|omega|rfl) only[sB,Za,reduceCtorEq,cl74]))
 refine(z4j h1 w1 hn (by omega)).mono ?_;rintro v H2 ⟨hx2,bs,hor⟩;have w2:=hx2.wf;have g2:=hx2.get w1 g1;have h2:=h1.keep hx2 w1;rcases hor with ⟨i,hi,rfl,rfl⟩|⟨hi,rfl,a,c,rfl,hk⟩
 ·obtain⟨hil,hgt,hkey⟩:=z2w hi;obtain⟨H3,e3,hx3,g3,n3,w3⟩:=z18 w2 (.row bad8 90) (.row bad8 90);have l3:H3.load ⟨H2.next,0,none⟩ 8=some bad8:=by simp only[Heap.load,Heap.cells,g3];rfl
  have hbw:(false || ((0:Int) != 0))=false:=rfl
  repeat' (first|refine EvC.seq ?_|(refine EvC.reg ?_;simp (config := { maxSteps := 2000000 }) (disch:=first|omega|rfl) only[sB,Za,reduceCtorEq,ld90,cl75,l3])|(refine z08 ?_;simp (config := { maxSteps := 2000000 }) (disch:=first|omega|rfl) only[sB,dAlloc,Za,Zb,one,reduceCtorEq,zr90,st90,e3]))
  refine(z0m w3).mono ?_;rintro v H4 ⟨hx4,rfl⟩;have w4:=hx4.wf;have hx24:=hx3.trans hx4;have hx04:=hx1.trans (hx2.trans hx24);have h4:=h2.keep hx24 w2;have g41:=hx24.get w2 g2;have lt:=z3c h4.ls (Zd hil);have q4:=row8 h4.obj;obtain⟨s,hsE⟩:∃s,s=(φ.opens[i]).2:=⟨_,rfl⟩
  rw[←hsE] at hgt lt;have hm:=ZE hil;have hD:=hI.dat _ hm;have hF:=hI.fl _ hm;have hid:s.id=n:=by have h3:=h.ids _ hm;rw[←hsE] at h3;rw[h3];exact hkey
  rw[←hsE] at hD hF;have hlr:=(z50 (k:=6) (by omega) (Zd hil)).trans (show (φ.opens[i]).2.row10[6]?=some (.bool (φ.opens[i]).2.rep) from rfl);rw[←hsE] at hlr;have lr4:=z0i h4.ls hlr;have hR:φ.seekR n pos=if s.rep=false then (some (perT repoS strS n),φ) else if pos < 0∨((φ.data s).size:Int) < pos then (some (domT pos),φ) else (none,φ.setS n { s with pos:=pos,en:=0 }):=by unfold FSt.seekR;rw[hgt]
  cases hrep:s.rep with
  |false =>
   rw[if_pos hrep] at hR;rw[hR];rw[hrep] at lr4
   repeat' (first|refine EvC.seq ?_|(refine EvC.skip ?_;try simp only[z00,hbw])|(refine EvC.reg ?_;simp (config := { maxSteps := 2000000 }) (disch:=first|omega|rfl) only[sB,Za,reduceCtorEq,z0k,ld37,ia37,z0p,za9,ld4,cl76,cl70,q4,z01,z04,lr4,Zm])|(refine EvC.condT ?_ ?_;simp (config := { maxSteps := 2000000 }) (disch:=first|omega|rfl) only[sB,Za,reduceCtorEq,hbw];refine z02 ?_)|(refine EvC.condF ?_ ?_;simp (config := { maxSteps := 2000000 }) (disch:=first|omega|rfl) only[sB,Za,reduceCtorEq,hbw];refine z02 ?_))
   refine(z1d hn w4).mono ?_;rintro v H6 ⟨hx6,b6,rfl,g6⟩
   skip
   refine(z1k (s:=repoS) (u:=strS) hx6.wf).mono ?_;rintro v H7 ⟨hx7,b7,rfl,g7⟩;have hx47:=hx6.trans hx7;have g71:=hx47.get w4 g41;have hb:BadR H7 (.ball (perT repoS strS n)) _:=z1y (by simp [repoS,maxLen,Zf]) (by simp [strS,maxLen,Zf]) (z4s hn (hx7.get hx6.wf g6)) g7
   repeat' (first|(refine EvC.ret ?_;try simp only[z05,z03])|(refine z08 ?_;simp (config := { maxSteps := 2000000 }) (disch:=first|omega|rfl) only[sB,Zb,one,st90,g71]))
   exact z0f rfl (by simp only[sB,Za,reduceCtorEq];rfl) (by simp only[if_true,z0b,ld90];rfl) ⟨Hy.of ((hx04.trans hx47).pt (Ze _) g71 _),_,rfl,hb.put g71 rfl _,(h4.keep hx47 w4).off g71 _⟩
  |true =>
   rw[if_neg (by rw[hrep];simp)] at hR;rw[hrep] at lr4;by_cases c1:pos < 0
   ·rw[if_pos (.inl c1)] at hR;rw[hR]
    repeat' (first|refine EvC.seq ?_|(refine EvC.skip ?_;try simp only[z00,hbw])|(refine EvC.reg ?_;simp (config := { maxSteps := 2000000 }) (disch:=first|omega|rfl) only[sB,Za,Zb,Value.cells,reduceCtorEq,layC,z0k,ld37,ia37,z0p,za9,ld4,cl72,cl84,z7i,q4,z01,z04,lr4,decide_eq_true c1,Zn])|(refine EvC.condT ?_ ?_;simp (config := { maxSteps := 2000000 }) (disch:=first|omega|rfl) only[sB,Za,reduceCtorEq,hbw];refine z02 ?_)|(refine EvC.condF ?_ ?_;simp (config := { maxSteps := 2000000 }) (disch:=first|omega|rfl) only[sB,Za,reduceCtorEq,hbw];refine z02 ?_))
    refine(z2h (s:=sposS) w4).mono ?_;rintro v H5 ⟨rfl,hx5⟩
    skip
    refine(z99 hpos hx5.wf).mono ?_;rintro v H6 ⟨rfl,hx6⟩;obtain⟨H7,e7,hx7,g7,n7,w7⟩:=new1 hx6.wf (.row (six (atomT sposS) none 0++six (intT pos) none 0) 88);simp only[List.cons_append,List.nil_append] at e7
    repeat' (first|(refine z08 ?_;simp (config := { maxSteps := 2000000 }) (disch:=first|omega|rfl) only[sB,Za,Zb,one,reduceCtorEq,Zh,cl73,e7]))
    refine(z1r (m:=2) (s:=domS) w7 g7 rfl (by omega) (by omega) rfl).mono ?_;rintro v H8 ⟨hx8,b8,rfl,g8⟩;have hx48:=((hx5.trans hx6).trans hx7).trans hx8;have g81:=hx48.get w4 g41;have hb:BadR H8 (.ball (domT pos)) [.int .i64 0,.bool true,.int .i64 5,.string domS,.string e0,.int .u64 0,.int .i64 0,.slice (some ⟨b8,0,none⟩) 2 2]:=⟨some ⟨b8,0,none⟩,2,rfl,zjj (by simp [domS,maxLen,Zf]) (z4q (by simp [sposS,maxLen,Zf])) (zhk hpos) g8⟩
    repeat' (first|(refine EvC.ret ?_;try simp only[z05,z03])|(refine z08 ?_;simp (config := { maxSteps := 2000000 }) (disch:=first|omega|rfl) only[sB,Zb,one,st90,g81]))
    exact z0f rfl (by simp only[sB,Za,reduceCtorEq];rfl) (by simp only[if_true,z0b,ld90];rfl) ⟨Hy.of ((hx04.trans hx48).pt (Ze _) g81 _),_,rfl,hb.put g81 rfl _,(h4.keep hx48 w4).off g81 _⟩
   repeat' (first|refine EvC.seq ?_|(refine EvC.skip ?_;try simp only[z00,hbw])|(refine EvC.reg ?_;simp (config := { maxSteps := 2000000 }) (disch:=first|omega|rfl) only[sB,Za,reduceCtorEq,z0k,ld37,ia37,z0p,za9,ld4,ld61,cl78,q4,z01,z04,lr4,lt,decide_eq_false c1,Zn])|(refine EvC.condF ?_ ?_;simp (config := { maxSteps := 2000000 }) (disch:=first|omega|rfl) only[sB,Za,reduceCtorEq,hbw];refine z02 ?_))
   refine(z52 h4 w4 (by omega) hF).mono ?_;rintro v H5 ⟨hx5,rfl⟩;rw[hD];have w5:=hx5.wf;have h5:=h4.keep hx5 w4;have g51:=hx5.get w4 g41;have hx05:=hx04.trans hx5;by_cases c2:((φ.data s).size:Int) < pos
   ·rw[if_pos (.inr c2)] at hR;rw[hR]
    repeat' (first|refine EvC.seq ?_|(refine EvC.reg ?_;simp (config := { maxSteps := 2000000 }) (disch:=first|omega|rfl) only[sB,Za,Zb,Value.cells,reduceCtorEq,layC,cl72,cl84,z7i])|(refine z08 ?_;simp (config := { maxSteps := 2000000 }) (disch:=first|omega|rfl) only[sB,Za,reduceCtorEq,ln9,gt_iff_lt,decide_eq_true c2])|(refine EvC.condT ?_ ?_;simp (config := { maxSteps := 2000000 }) (disch:=first|omega|rfl) only[sB,Za,reduceCtorEq];refine z02 ?_))
    refine(z2h (s:=sposS) w5).mono ?_;rintro v H6 ⟨rfl,hx6⟩
    skip
    refine(z99 hpos hx6.wf).mono ?_;rintro v H7 ⟨rfl,hx7⟩;obtain⟨H8,e8,hx8,g8,n8,w8⟩:=new1 hx7.wf (.row (six (atomT sposS) none 0++six (intT pos) none 0) 88);simp only[List.cons_append,List.nil_append] at e8
    repeat' (first|(refine z08 ?_;simp (config := { maxSteps := 2000000 }) (disch:=first|omega|rfl) only[sB,Za,Zb,one,reduceCtorEq,Zh,cl73,e8]))
    refine(z1r (m:=2) (s:=domS) w8 g8 rfl (by omega) (by omega) rfl).mono ?_;rintro v H9 ⟨hx9,b9,rfl,g9⟩;have hx59:=((hx6.trans hx7).trans hx8).trans hx9;have g91:=hx59.get w5 g51;have hb:BadR H9 (.ball (domT pos)) [.int .i64 0,.bool true,.int .i64 5,.string domS,.string e0,.int .u64 0,.int .i64 0,.slice (some ⟨b9,0,none⟩) 2 2]:=⟨some ⟨b9,0,none⟩,2,rfl,zjj (by simp [domS,maxLen,Zf]) (z4q (by simp [sposS,maxLen,Zf])) (zhk hpos) g9⟩
    repeat' (first|(refine EvC.ret ?_;try simp only[z05,z03])|(refine z08 ?_;simp (config := { maxSteps := 2000000 }) (disch:=first|omega|rfl) only[sB,Zb,one,st90,g91]))
    exact z0f rfl (by simp only[sB,Za,reduceCtorEq];rfl) (by simp only[if_true,z0b,ld90];rfl) ⟨Hy.of ((hx05.trans hx59).pt (Ze _) g91 _),_,rfl,hb.put g91 rfl _,(h5.keep hx59 w5).off g91 _⟩
   rw[if_neg (fun q=>q.elim c1 c2)] at hR;rw[hR];have q5:=row8 h5.obj;have gl5:=h5.ls;obtain⟨sp,sl⟩:=RfB.pos (x:=pos) hI.nd hi hgt;have h7:=h5.turn (s':={ s with pos:=pos }) hI.nd hi hid;obtain⟨H7,e7⟩:∃H7,H5.put l (some (.row (rowO (φ.setS n { s with pos:=pos }).opens) 84))=H7:=⟨_,rfl⟩
   rw[e7] at h7;have hy7:Hy B H H7:=by rw[←e7];exact(Hy.of hx05).trans (Hy.put w5 h.bl gl5 _)
   have g71:H7.get H.next=some (.row bad8 90):=by rw[←e7,get_put,if_neg (z0s g51 gl5 rfl).symm];exact g51
   have go7:=h7.obj;rw[zgj] at go7;have q7:=row8 go7;have gl7:=h7.ls;have hnd7:((φ.setS n { s with pos:=pos }).opens.map (·.1)).Nodup:=by rw[z3v];exact hI.nd
   have hi7:((φ.setS n { s with pos:=pos }).opens.findIdx? fun o=>o.1 == n)=some i:=by rw[zgi];exact hi
   have hg7:(φ.setS n { s with pos:=pos }).get n=some { s with pos:=pos }:=by rw[z7t,if_pos rfl,hgt];rfl
   obtain⟨sp7,sl7⟩:=RfB.end (x:=0) hnd7 hi7 hg7;have h8:=h7.turn (s':={ s with pos:=pos,en:=0 }) hnd7 hi7 hid;obtain⟨H8,e8⟩:∃H8,H7.put l (some (.row (rowO ((φ.setS n { s with pos:=pos }).setS n { s with pos:=pos,en:=0 }).opens) 84))=H8:=⟨_,rfl⟩
   rw[e8,z6k] at h8;have hy8:Hy B H H8:=by rw[←e8];exact hy7.trans (Hy.put hy7.1 h.bl gl7 _)
   have g81:H8.get H.next=some (.row bad8 90):=by rw[←e8,get_put,if_neg (z0s g71 gl7 rfl).symm];exact g71
   repeat' (first|refine EvC.seq ?_|(refine EvC.skip ?_;try simp only[z00])|(refine EvC.ret ?_)|(refine EvC.reg ?_;simp (config := { maxSteps := 2000000 }) (disch:=first|omega|rfl) only[sB,Za,Zb,Value.cells,one,reduceCtorEq,layC,st90,z0k,ld37,ia37,z0p,z1c,st3,z1w,bd90,q5,z01,z04,gl5,sp,sl,e7,q7,gl7,sp7,sl7,e8,g81])|(refine z08 ?_;simp (config := { maxSteps := 2000000 }) (disch:=first|omega|rfl) only[sB,Za,reduceCtorEq,ln9,gt_iff_lt,decide_eq_false c2,Zc])|(refine EvC.condF ?_ ?_;simp (config := { maxSteps := 2000000 }) (disch:=first|omega|rfl) only[sB,Za,reduceCtorEq];refine z02 ?_))
   exact z0f rfl (by simp only[sB,Za,reduceCtorEq];rfl) (by simp only[if_true,z0b,ld90];rfl) ⟨hy8.pt (Ze _) g81 _,_,rfl,rfl,h8.off g81 _⟩
 ·have hgn:=z2q hi;obtain⟨H3,e3,hx3,g3,n3,w3⟩:=z18 w2 (.row bad8 90) (.row (.int .i64 0 :: .bool true :: six (noStrT n) a c) 90);have l3:H3.load ⟨H2.next,0,none⟩ 8=some (.int .i64 0 :: .bool true :: six (noStrT n) a c):=by simp only[Heap.load,Heap.cells,g3];rfl
  repeat' (first|refine EvC.seq ?_|(refine EvC.reg ?_;simp (config := { maxSteps := 2000000 }) (disch:=first|omega|rfl) only[sB,Za,reduceCtorEq,ld90,cl75,l3])|(refine z08 ?_;simp (config := { maxSteps := 2000000 }) (disch:=first|omega|rfl) only[sB,dAlloc,Za,Zb,one,reduceCtorEq,zr90,st90,e3]))
  refine(z0m w3).mono ?_;rintro v H4 ⟨hx4,rfl⟩;have w4:=hx4.wf;have g34:=hx4.get w3 g3;have l4:H4.load ⟨H2.next,0,none⟩ 8=some (.int .i64 0 :: .bool true :: six (noStrT n) a c):=by simp only[Heap.load,Heap.cells,g34];rfl
  have hb:=(hx2.trans hx3).trans hx4;have gb:=hb.get w1 g1;have hR:φ.seekR n pos=(some (noStrT n),φ):=by unfold FSt.seekR;rw[hgn]
  rw[hR]
  repeat' (first|refine EvC.seq ?_|(refine EvC.ret ?_;try simp only[z05,z03])|(refine EvC.reg ?_;simp (config := { maxSteps := 2000000 }) (disch:=first|omega|rfl) only[sB,Za,Zb,one,reduceCtorEq,st90,ld90,l4,gb,Bool.true_or])|(refine EvC.condT ?_ ?_;simp (config := { maxSteps := 2000000 }) (disch:=first|omega|rfl) only[sB,Za,reduceCtorEq,Bool.true_or];refine z02 ?_))
  exact z0f rfl (by simp only[sB,Za,reduceCtorEq];rfl) (by simp only[if_true,z0b,ld90];rfl) ⟨Hy.of ((hx1.trans hb).pt (Ze _) gb _),_,rfl,⟨a,c,rfl,(hk.keep (hx3.trans hx4) w2).put gb rfl _⟩,(h1.keep hb w1).off gb _⟩
def FSt.openX (φ:FSt) (n:ByteArray) (m:Int) (bin:Bool) (al:ByteArray) (eof:Int) (rep:Bool):FSt :=
 { φ with files:=if m=1 then φ.files else fset φ.files n (φ.opD n m),opens:=φ.opens++[(φ.next,⟨φ.next,n,m,bin,al,eof,rep,0,0,0,false⟩)],next:=φ.next+1 }
def FSt.openY (φ:FSt) (n:ByteArray) (m:Int) (bin:Bool) (al:ByteArray) (eof:Int) (rep:Bool):Int × BadV × FSt:=match φ.opErr n m al rep with
 |.none=>(φ.next,.none,φ.openX n m bin al eof rep)
 |e=>(0,e,φ)
theorem zp1 {s:Strm}{n:ByteArray}{m:Int}(hc:s.con=decide (s.id < 2)):busyS n m s↔1 < s.id∧s.file=n∧(s.mode≠1∨m≠1):=by
 unfold busyS;rw[hc,decide_eq_false_iff_not];constructor
 ·rintro ⟨a,b,c⟩;exact⟨by omega,b,c⟩
 ·rintro ⟨a,b,c⟩;exact⟨by omega,b,c⟩
theorem zbn {φ:FSt}{n:ByteArray}:(φ.files.findIdx? fun x=>n == x.1)=none↔φ.file n=none:=by
 unfold FSt.file;rw[Option.map_eq_none_iff,List.findIdx?_eq_none_iff,List.find?_eq_none];constructor
 ·intro h x hx;rw[h x hx];simp
 ·intro h x hx;simpa using h x hx
theorem zkm {l:List (ByteArray × ByteArray)}{n:ByteArray}{i:Nat}(h:(l.findIdx? fun x=>n == x.1)=some i) {d:ByteArray}(hd:∃hi:i < l.length,d=(l[i]).2):fset l n d=l:=by
 obtain⟨hi,rfl⟩:=hd;obtain⟨_,hp,-⟩:=List.findIdx?_eq_some_iff_getElem.1 h;have hn:n=(l[i]).1:=z1z.1 hp;rw[zef h,hn];exact List.set_getElem_self hi
theorem zq6 {B:Nat→Prop}{H H':Heap}{b:Nat}(hw:H.wf) (h1:∀A:Heap,A.next≤b→HX A H→HX A H') (h2:∀i,i < H.next→i≠b→H'.get i=H.get i) (hn:H.next≤H'.next) (hb:B b):Hy B H H' :=
 ⟨(h1 ⟨0,H.t⟩ (Zz _) ⟨Zz _,fun _ h=>absurd h (Nat.not_lt_zero _),hw⟩).wf,hn,fun i hi hB=>h2 i hi fun e=>hB (by rw[e];exact hb)⟩
abbrev OpF (r b:Nat) (n:ByteArray) (m ki:Int) (bz:Bool) (tm:Tr Value):Prop:=tm.get 0=some (ptrV r)∧tm.get 1=some (.string n)∧tm.get 2=some (.int .i64 m)∧tm.get 7=some (ptrV b)∧tm.get 9=some (ptrV (b+1))∧tm.get 12=some (.int .i64 ki)∧tm.get 13=some (.bool bz)
set_option maxHeartbeats 16000000 in
theorem zkn {H:Heap}{B:Nat→Prop}{r f l:Nat}{φ:FSt}{n al:ByteArray}{m eof:Int}{bin rep:Bool}(h:RfB H B r f l φ) (hI:RIn φ) (hw:H.wf) (hcon:∀o∈φ.opens,o.2.con=decide (o.2.id < 2)) (hal:al.size≤maxLen) (hnx:0≤φ.next∧φ.next < 1000000) (hfd:(φ.files.map (·.1)).Nodup) (hB:∀i,H.next≤i→B i) :
  EvF Tryz.prog okT 32 [ptrV r,.string n,.int .i64 m,.agg ⟨[.bool bin,.string al,.int .i64 eof,.bool rep]⟩] H fun v H'=>Hy B H H'∧∃bs,v=.tuple ⟨[.int .i64 (φ.openY n m bin al eof rep).1,.agg ⟨bs⟩]⟩∧BadR H' (φ.openY n m bin al eof rep).2.1 bs∧∃f' l',RfB H' B r f' l' (φ.openY n m bin al eof rep).2.2:=by
 refine EvF.enter rfl Tryz.func32 (by decide) rfl ?_;have hno:=hI.no;have hnf:=hI.nf;have hmx:maxLen=9223372036854775807:=rfl;(repeat refine EvC.seq ?_);refine EvC.reg ?_;simp (config := { maxSteps := 2000000 }) (disch:=first|omega|rfl) only[sB,initTm,dBox,dAlloc,Za,Zb,Value.cells,one,reduceCtorEq,zr90];obtain⟨H1,e1,hx1,go1,g1,n1,w1⟩:=new2 hw (.row [.bool bin,.string al,.int .i64 eof,.bool rep] 34) (.row bad8 90);simp only[e1];clear e1;have h1:=h.keep hx1 hw;have q1:=row8 h1.obj;have o1:=row4 go1;have hE:∀e,φ.opErr n m al rep=e→e≠.none→φ.openY n m bin al eof rep=(0,e,φ):=fun e he hn=>by
  unfold FSt.openY;rw[he];cases e with
  |none=>exact absurd rfl hn
  |_=>rfl
 by_cases c1:m < 1
 ·rw[hE (.code 1) (by unfold FSt.opErr;rw[if_pos (.inl c1)]) (by simp)]
  repeat' (first|refine EvC.seq ?_|(refine EvC.ret ?_;try simp only[z05,z03])|(refine EvC.reg ?_;simp (config := { maxSteps := 2000000 }) (disch:=first|omega|rfl) only[sB,Za,Zb,Value.cells,one,reduceCtorEq,Zh,layC,bd90,st90,decide_eq_true c1,g1])|(refine EvC.condT ?_ ?_;simp (config := { maxSteps := 2000000 }) (disch:=first|omega|rfl) only[sB,Za,reduceCtorEq];refine z02 ?_))
  exact z0d rfl (by simp only[sG,Za,reduceCtorEq]) (by simp only[sB,Za,reduceCtorEq];rfl) (by simp only[if_true,z0b,ld90];rfl) ⟨Hy.of (hx1.pt (by omega) g1 _),_,rfl,z45,_,_,h1.off g1 _⟩
 by_cases c2:3 < m
 ·rw[hE (.code 1) (by unfold FSt.opErr;rw[if_pos (.inr c2)]) (by simp)]
  repeat' (first|refine EvC.seq ?_|(refine EvC.ret ?_;try simp only[z05,z03])|(refine EvC.reg ?_;simp (config := { maxSteps := 2000000 }) (disch:=first|omega|rfl) only[sB,Za,Zb,Value.cells,one,reduceCtorEq,Zh,layC,bd90,st90,decide_eq_false c1,gt_iff_lt,decide_eq_true c2,g1])|(refine EvC.condT ?_ ?_;simp (config := { maxSteps := 2000000 }) (disch:=first|omega|rfl) only[sB,Za,reduceCtorEq];refine z02 ?_))
  exact z0d rfl (by simp only[sG,Za,reduceCtorEq]) (by simp only[sB,Za,reduceCtorEq];rfl) (by simp only[if_true,z0b,ld90];rfl) ⟨Hy.of (hx1.pt (by omega) g1 _),_,rfl,z45,_,_,h1.off g1 _⟩
 have c12:¬(m < 1∨3 < m):=fun q=>q.elim c1 c2
 by_cases c3:n.size=0
 ·have hb:=fun t x y=>zlo (H:=H1) (t:=t) (x:=x) (y:=y) c3
  rw[hE (.code 81) (by unfold FSt.opErr;rw[if_neg c12,if_pos (by simp [named,c3])]) (by simp)]
  repeat' (first|refine EvC.seq ?_|(refine EvC.skip ?_;try simp only[z00])|(refine EvC.ret ?_;try simp only[z05,z03])|(refine EvC.reg ?_;simp (config := { maxSteps := 2000000 }) (disch:=first|omega|rfl) only[sB,Za,Zb,Value.cells,one,reduceCtorEq,Zh,layC,bd90,st90,decide_eq_false c1,gt_iff_lt,decide_eq_false c2,hb,g1,Zc])|(refine EvC.condT ?_ ?_;simp (config := { maxSteps := 2000000 }) (disch:=first|omega|rfl) only[sB,Za,reduceCtorEq];refine z02 ?_)|(refine EvC.condF ?_ ?_;simp (config := { maxSteps := 2000000 }) (disch:=first|omega|rfl) only[sB,Za,reduceCtorEq];refine z02 ?_))
  exact z0d rfl (by simp only[sG,Za,reduceCtorEq]) (by simp only[sB,Za,reduceCtorEq];rfl) (by simp only[if_true,z0b,ld90];rfl) ⟨Hy.of (hx1.pt (by omega) g1 _),_,rfl,z45,_,_,h1.off g1 _⟩
 have hb:=fun t x y=>zlp (H:=H1) (t:=t) (x:=x) (y:=y) c3
 by_cases c4:(1000:Int) < n.size
 ·rw[hE (.code 81) (by unfold FSt.opErr;rw[if_neg c12,if_pos (by simp only[named,decide_eq_false_iff_not];omega)]) (by simp)]
  repeat' (first|refine EvC.seq ?_|(refine EvC.skip ?_;try simp only[z00])|(refine EvC.ret ?_;try simp only[z05,z03])|(refine EvC.reg ?_;simp (config := { maxSteps := 2000000 }) (disch:=first|omega|rfl) only[sB,Za,Zb,Value.cells,one,reduceCtorEq,Zh,layC,bd90,st90,ln9,decide_eq_false c1,gt_iff_lt,decide_eq_false c2,hb,decide_eq_true c4,g1,Zc])|(refine EvC.condT ?_ ?_;simp (config := { maxSteps := 2000000 }) (disch:=first|omega|rfl) only[sB,Za,reduceCtorEq];refine z02 ?_)|(refine EvC.condF ?_ ?_;simp (config := { maxSteps := 2000000 }) (disch:=first|omega|rfl) only[sB,Za,reduceCtorEq];refine z02 ?_))
  exact z0d rfl (by simp only[sG,Za,reduceCtorEq]) (by simp only[sB,Za,reduceCtorEq];rfl) (by simp only[if_true,z0b,ld90];rfl) ⟨Hy.of (hx1.pt (by omega) g1 _),_,rfl,z45,_,_,h1.off g1 _⟩
 have hnm:named n=true:=by simp only[named,decide_eq_true_eq];omega
 have hE2:φ.opErr n m al rep=if (φ.findA al).isSome then .ball (opT (ofT aliS [atomT al]))
   else if rep=true∧m≠1 then .ball (opT (ofT repoS [atomT truS]))
   else if m=1∧φ.file n=none then .ball (noSrcT n)
   else if ∃o∈φ.opens,busyS n m o.2 then .ball (opT (atomT n))
   else if 16≤φ.opens.length then .ball (resT strmsS)
   else if φ.file n=none∧16≤φ.files.length then .ball (resT filesS)
   else .none:=by unfold FSt.opErr;rw[if_neg c12,if_neg (by simp [hnm])]
 repeat' (first|refine EvC.seq ?_|(refine EvC.skip ?_;try simp only[z00])|(refine EvC.reg ?_;simp (config := { maxSteps := 2000000 }) (disch:=first|omega|rfl) only[sB,Za,reduceCtorEq,ln9,z7h,ld9,cl43,decide_eq_false c1,gt_iff_lt,decide_eq_false c2,hb,decide_eq_false c4,o1,Zc])|(refine EvC.condF ?_ ?_;simp (config := { maxSteps := 2000000 }) (disch:=first|omega|rfl) only[sB,Za,reduceCtorEq];refine z02 ?_))
 refine(zai h1 hno).mono ?_;rintro v H' ⟨hq,rfl⟩;have hq':=hq.symm;subst hq'
 repeat' (first|refine EvC.seq ?_|(refine EvC.reg ?_;simp (config := { maxSteps := 2000000 }) (disch:=first|omega|rfl) only[sB,Za,reduceCtorEq,cl69])|(refine z08 ?_;simp (config := { maxSteps := 2000000 }) (disch:=first|omega|rfl) only[sB,Za,reduceCtorEq]))
 refine(z9b h1 (by omega)).mono ?_;rintro v H' ⟨hq,hv⟩;have hq':=hq.symm;subst hq';obtain⟨ki,rfl,hki⟩:∃ki:Int,v=.int .i64 ki∧((∃i:Nat,(φ.files.findIdx? fun x=>n == x.1)=some i∧ki=i)∨((φ.files.findIdx? fun x=>n == x.1)=none∧ki=-1)):=by
  cases hfi:φ.files.findIdx? fun x=>n == x.1 with
  |none=>rw[hfi] at hv;exact⟨-1,hv,.inr ⟨rfl,rfl⟩⟩
  |some i=>rw[hfi] at hv;exact⟨(i:Nat),hv,.inl ⟨i,rfl,rfl⟩⟩
 clear hv
 repeat' (first|refine EvC.seq ?_|refine EvC.block ?_|(refine EvC.reg ?_;simp (config := { maxSteps := 2000000 }) (disch:=first|omega|rfl) only[sA]))
 refine EvC.loop (fun k st=>∃tm G i bz,st=⟨tm,[],G⟩∧k=φ.opens.length - i∧i≤φ.opens.length∧tm.get 0=some (ptrV r)∧tm.get 1=some (.string n)∧tm.get 2=some (.int .i64 m)∧tm.get 7=some (ptrV H.next)∧tm.get 9=some (ptrV (H.next+1))∧tm.get 11=some (.bool (φ.findA al).isSome)∧tm.get 12=some (.int .i64 ki)∧tm.get 13=some (.bool bz)∧tm.get 14=some (.int .i64 (i:Nat))∧HX H1 G∧(bz=true↔∃j o,j < i∧φ.opens[j]?=some o∧busyS n m o.2)) ?_ φ.opens.length _ ?_
 ·rintro k st ⟨tm,G,i,bz,rfl,rfl,hi,t0,t1,t2,t7,t9,t11,t12,t13,t14,hxG,hbz⟩;have wG:=hxG.wf;have hG:=h1.keep hxG w1;have q:=row8 hG.obj;by_cases hlt:i < φ.opens.length
  ·have lt:=z3c hG.ls (Zd hlt);have hx0:=Zd hlt;have hcs:=hcon _ (ZE hlt);obtain⟨s,hsE⟩:∃s,s=(φ.opens[i]).2:=⟨_,rfl⟩
   rw[←hsE] at lt hcs;have hbi:=zp1 (n:=n) (m:=m) hcs;have hst:(∃j o,j < i+1∧φ.opens[j]?=some o∧busyS n m o.2)↔(bz=true∨busyS n m s):=by
    rw[hbz];constructor
    ·rintro ⟨j,o,hj,ho,hb⟩;by_cases hji:j=i
     ·subst hji;rw[hx0] at ho;cases ho;exact .inr (by rw[hsE];exact hb)
     ·exact .inl ⟨j,o,by omega,ho,hb⟩
    ·rintro (⟨j,o,hj,ho,hb⟩|hb)
     ·exact⟨j,o,by omega,ho,hb⟩
     ·exact⟨i,_,Nat.lt_succ_self _,hx0,by rw[←hsE];exact hb⟩
   have hw1:IntKind.i64.wrap ((i:Int)+1)=((i+1:Nat):Int):=by rw[z0e]<;>omega
   obtain⟨G5,e5,hx5,g5,n5,w5⟩:=z18 wG (.row zero10 61) (.row s.row10 61);have k0:G5.load ⟨G.next,0,none⟩ 1=some [.int .i64 s.id]:=z0i g5 rfl;have k1:G5.load ⟨G.next,1,none⟩ 1=some [.string s.file]:=z0i g5 rfl;have k2:G5.load ⟨G.next,2,none⟩ 1=some [.int .i64 s.mode]:=z0i g5 rfl;have hxG5:=hxG.trans hx5;cases bz with
   |true =>
    repeat' (first|refine EvC.seq ?_|refine EvC.block ?_|(refine EvC.skip ?_;try simp only[z00])|(refine EvC.reg ?_;simp (config := { maxSteps := 2000000 }) (disch:=first|omega|rfl) only[sB,dAlloc,Za,Zb,one,reduceCtorEq,z0k,ld37,ln37,ia37,z0p,ld61,zr61,st61,t0,t13,t14,q,z01,z04,decl hlt,lt,e5,hw1])|(refine EvC.condT ?_ ?_;simp (config := { maxSteps := 2000000 }) (disch:=first|omega|rfl) only[sB,Za];refine z02 ?_))
    exact⟨_,by omega,_,_,i+1,true,rfl,rfl,by omega,(by simp only[sG,reduceCtorEq,t0]),(by simp only[sG,Za,t1]),(by simp only[sG,Za,t2]),(by simp only[sG,Za,t7]),(by simp only[sG,Za,t9]),(by simp only[sG,Za,t11]),(by simp only[sG,Za,t12]),(by simp only[sG,Za]),(by simp only[sG,Za]),hxG5,by rw[hst];simp⟩
   |false =>
    by_cases d1:1 < s.id
    ·by_cases d2:s.file=n
     ·have db:(s.file == n)=true:=z1z.2 d2;by_cases d3:s.mode=1
      ·by_cases d4:m=1
       ·repeat' (first|refine EvC.seq ?_|refine EvC.block ?_|(refine EvC.skip ?_;try simp only[z00])|(refine EvC.reg ?_;simp (config := { maxSteps := 2000000 }) (disch:=first|omega|rfl) only[sB,dAlloc,Za,Zb,one,reduceCtorEq,ld9,z0k,ld37,ln37,ia37,z0p,ld61,zr61,st61,z2p,ld3,z3u,z0o,t0,t1,t2,t13,t14,q,z01,z04,decl hlt,lt,e5,k0,k1,k2,gt_iff_lt,decide_eq_true d1,z16,z2g,db,z17 d3,z17 d4,hw1,Zc])|(refine EvC.condT ?_ ?_;simp (config := { maxSteps := 2000000 }) (disch:=first|omega|rfl) only[sB,Za];refine z02 ?_))
        exact⟨_,by omega,_,_,i+1,false,rfl,rfl,by omega,(by simp only[sG,reduceCtorEq,t0]),(by simp only[sG,Za,t1]),(by simp only[sG,Za,t2]),(by simp only[sG,Za,t7]),(by simp only[sG,Za,t9]),(by simp only[sG,Za,t11]),(by simp only[sG,Za,t12]),(by simp only[sG,Za]),(by simp only[sG,Za]),hxG5,by rw[hst,hbi];simp [d3,d4]⟩
       ·repeat' (first|refine EvC.seq ?_|refine EvC.block ?_|(refine EvC.skip ?_;try simp only[z00])|(refine EvC.reg ?_;simp (config := { maxSteps := 2000000 }) (disch:=first|omega|rfl) only[sB,dAlloc,Za,Zb,one,reduceCtorEq,ld9,z0k,ld37,ln37,ia37,z0p,ld61,zr61,st61,z2p,ld3,z3u,z0o,t0,t1,t2,t13,t14,q,z01,z04,decl hlt,lt,e5,k0,k1,k2,gt_iff_lt,decide_eq_true d1,z16,z2g,db,z17 d3,z3i d4,hw1,Zc])|(refine EvC.condT ?_ ?_;simp (config := { maxSteps := 2000000 }) (disch:=first|omega|rfl) only[sB,Za];refine z02 ?_))
        exact⟨_,by omega,_,_,i+1,true,rfl,rfl,by omega,(by simp only[sG,reduceCtorEq,t0]),(by simp only[sG,Za,t1]),(by simp only[sG,Za,t2]),(by simp only[sG,Za,t7]),(by simp only[sG,Za,t9]),(by simp only[sG,Za,t11]),(by simp only[sG,Za,t12]),(by simp only[sG,Za]),(by simp only[sG,Za]),hxG5,by rw[hst,hbi];simp [d1,d2,d3,d4]⟩
      ·repeat' (first|refine EvC.seq ?_|refine EvC.block ?_|(refine EvC.skip ?_;try simp only[z00])|(refine EvC.reg ?_;simp (config := { maxSteps := 2000000 }) (disch:=first|omega|rfl) only[sB,dAlloc,Za,Zb,one,reduceCtorEq,ld9,z0k,ld37,ln37,ia37,z0p,ld61,zr61,st61,z2p,ld3,z3u,z0o,t0,t1,t13,t14,q,z01,z04,decl hlt,lt,e5,k0,k1,k2,gt_iff_lt,decide_eq_true d1,z16,z2g,db,z3i d3,hw1,Zc])|(refine EvC.condT ?_ ?_;simp (config := { maxSteps := 2000000 }) (disch:=first|omega|rfl) only[sB,Za];refine z02 ?_))
       exact⟨_,by omega,_,_,i+1,true,rfl,rfl,by omega,(by simp only[sG,reduceCtorEq,t0]),(by simp only[sG,Za,t1]),(by simp only[sG,Za,t2]),(by simp only[sG,Za,t7]),(by simp only[sG,Za,t9]),(by simp only[sG,Za,t11]),(by simp only[sG,Za,t12]),(by simp only[sG,Za]),(by simp only[sG,Za]),hxG5,by rw[hst,hbi];simp [d1,d2,d3]⟩
     ·have db:(s.file == n)=false:=z9i d2
      repeat' (first|refine EvC.seq ?_|refine EvC.block ?_|(refine EvC.skip ?_;try simp only[z00])|(refine EvC.reg ?_;simp (config := { maxSteps := 2000000 }) (disch:=first|omega|rfl) only[sB,dAlloc,Za,Zb,one,reduceCtorEq,ld9,z0k,ld37,ln37,ia37,z0p,ld61,zr61,st61,z2p,ld3,z3u,t0,t1,t13,t14,q,z01,z04,decl hlt,lt,e5,k0,k1,gt_iff_lt,decide_eq_true d1,z16,z2g,db,hw1,Zc])|(refine EvC.condT ?_ ?_;simp (config := { maxSteps := 2000000 }) (disch:=first|omega|rfl) only[sB,Za];refine z02 ?_))
      exact⟨_,by omega,_,_,i+1,false,rfl,rfl,by omega,(by simp only[sG,reduceCtorEq,t0]),(by simp only[sG,Za,t1]),(by simp only[sG,Za,t2]),(by simp only[sG,Za,t7]),(by simp only[sG,Za,t9]),(by simp only[sG,Za,t11]),(by simp only[sG,Za,t12]),(by simp only[sG,Za]),(by simp only[sG,Za]),hxG5,by rw[hst,hbi];simp [d2]⟩
    ·repeat' (first|refine EvC.seq ?_|refine EvC.block ?_|(refine EvC.skip ?_;try simp only[z00])|(refine EvC.reg ?_;simp (config := { maxSteps := 2000000 }) (disch:=first|omega|rfl) only[sB,dAlloc,Za,Zb,one,reduceCtorEq,z0k,ld37,ln37,ia37,z0p,ld61,zr61,st61,z2p,ld3,t0,t13,t14,q,z01,z04,decl hlt,lt,e5,k0,gt_iff_lt,decide_eq_false d1,hw1,Zc])|(refine EvC.condT ?_ ?_;simp (config := { maxSteps := 2000000 }) (disch:=first|omega|rfl) only[sB,Za];refine z02 ?_))
     exact⟨_,by omega,_,_,i+1,false,rfl,rfl,by omega,(by simp only[sG,reduceCtorEq,t0]),(by simp only[sG,Za,t1]),(by simp only[sG,Za,t2]),(by simp only[sG,Za,t7]),(by simp only[sG,Za,t9]),(by simp only[sG,Za,t11]),(by simp only[sG,Za,t12]),(by simp only[sG,Za]),(by simp only[sG,Za]),hxG5,by rw[hst,hbi];simp [d1]⟩
  ·obtain rfl:i=φ.opens.length:=by omega
   have hbz2:bz=true↔∃o∈φ.opens,busyS n m o.2:=by
    rw[hbz];constructor
    ·rintro ⟨j,o,hj,ho,hb⟩;exact⟨o,List.mem_of_getElem? ho,hb⟩
    ·rintro ⟨o,ho,hb⟩;obtain⟨j,hj⟩:=List.mem_iff_getElem?.1 ho;exact⟨j,o,(List.getElem?_eq_some_iff.1 hj).1,hj,hb⟩
   clear hbz;have gG:=hxG.get w1 g1;have oG:=row4 (hxG.get w1 go1);have hx0G:=hx1.trans hxG
   repeat' (first|refine EvC.seq ?_|refine EvC.block ?_|(refine EvC.exit ?_;try simp only[sB])|(refine EvC.reg ?_;simp (config := { maxSteps := 2000000 }) (disch:=first|omega|rfl) only[sB,Za,reduceCtorEq,z0k,ld37,ln37,t0,t14,q,z01,z04,decn hlt])|(refine EvC.condF ?_ ?_;simp (config := { maxSteps := 2000000 }) (disch:=first|omega|rfl) only[sB,Za];refine z02 ?_))
   refine EvC.frame (fun tm=>tm.get 0=some (ptrV r)∧tm.get 1=some (.string n)∧tm.get 2=some (.int .i64 m)∧tm.get 7=some (ptrV H.next)∧tm.get 9=some (ptrV (H.next+1))∧tm.get 79=some (.bool (φ.findA al).isSome)∧tm.get 12=some (.int .i64 ki)∧tm.get 13=some (.bool bz)) ⟨(by simp only[sG,reduceCtorEq,t0]),(by simp only[sG,Za,t1]),(by simp only[sG,Za,t2]),(by simp only[sG,Za,t7]),(by simp only[sG,Za,t9]),(by simp only[sB,Za,t11]),(by simp only[sG,Za,t12]),(by simp only[sG,Za,t13])⟩ ?_;clear t0 t1 t2 t7 t9 t11 t12 t13 t14 tm;rintro tm ⟨t0,t1,t2,t7,t9,t11,t12,t13⟩;generalize hfa:(φ.findA al).isSome=fa at t11 hE2;cases fa;rotate_left
   ·rw[hE _ (by rw[hE2,if_pos rfl]) (by simp)];refine EvC.condT (by simp (config := { maxSteps := 2000000 }) (disch:=first|omega|rfl) only[sA,t11]) ?_;(try refine EvC.skip ?_);(try simp only[z00,z0h])
    repeat' (first|refine EvC.seq ?_|(refine EvC.reg ?_;simp (config := { maxSteps := 2000000 }) (disch:=first|omega|rfl) only[sB,Za,Zb,Value.cells,layC,z7h,ld9,cl72,z2y,t7,oG]))
    refine(z2h (s:=al) wG).mono ?_;rintro v H2 ⟨rfl,hx2⟩;obtain⟨H3,e3,hx3,g3,n3,w3⟩:=new1 hx2.wf (.row (six (atomT al) none 0) 88)
    repeat' (first|(refine z08 ?_;simp (config := { maxSteps := 2000000 }) (disch:=first|omega|rfl) only[sB,Za,Zb,one,cl71,cl70,e3]))
    refine(zbi (m:=1) (s:=aliS) w3 g3 rfl (by omega) (by omega) rfl).mono ?_;rintro v H4 ⟨hx4,b4,rfl,g4⟩
    skip
    refine(z1k (s:=opS) (u:=srcS) (t:=ofT aliS [atomT al]) (a:=some ⟨b4,0,none⟩) (c:=1) hx4.wf).mono ?_;rintro v H5 ⟨hx5,b5,rfl,g5⟩;have hxA:=((hx2.trans hx3).trans hx4).trans hx5;have gA:=hxA.get wG gG;have hb5:BadR H5 (.ball (opT (ofT aliS [atomT al]))) _:=z1y (by simp [opS,maxLen,Zf]) (by simp [srcS,maxLen,Zf]) (zji (by simp [aliS,maxLen,Zf]) (z4q hal) (hx5.get hx4.wf g4)) g5
    repeat' (first|(refine EvC.ret ?_;try simp only[z05,z03])|(refine z08 ?_;simp (config := { maxSteps := 2000000 }) (disch:=first|omega|rfl) only[sB,Zb,one,st90,t9,gA]))
    exact z0d rfl (by simp only[sG,Za]) (by simp only[sB,Za,t9];rfl) (by simp only[if_true,z0b,ld90];rfl) ⟨Hy.of ((hx0G.trans hxA).pt (by omega) gA _),_,rfl,hb5.put gA rfl _,_,_,(hG.keep hxA wG).off gA _⟩
   simp only[Zc,if_false] at hE2;refine EvC.condF (by simp (config := { maxSteps := 2000000 }) (disch:=first|omega|rfl) only[sA,t11]) ?_;(try refine EvC.skip ?_);(try simp only[z00,z0h]);refine EvC.seq ?_;refine EvC.join (fun st=>∃tm,st=⟨tm,[],G⟩∧OpF r H.next n m ki bz tm∧tm.get 87=some (.bool (decide (rep=true∧m≠1)))) ?_ ?_
   ·cases rep
    ·repeat' (first|(refine EvC.reg ?_;simp (config := { maxSteps := 2000000 }) (disch:=first|omega|rfl) only[sB,Za,reduceCtorEq,z5j,ld4,t7,oG]))
     exact⟨_,rfl,⟨(by simp only[sG,reduceCtorEq,t0]),(by simp only[sG,Za,t1]),(by simp only[sG,Za,t2]),(by simp only[sG,Za,t7]),(by simp only[sG,Za,t9]),(by simp only[sG,Za,t12]),(by simp only[sG,Za,t13])⟩,(by rw[show decide (False∧m≠1)=false by simp];exact(by simp only[sG,Za]))⟩
    ·by_cases a3:m=1
     ·repeat' (first|(refine EvC.reg ?_;simp (config := { maxSteps := 2000000 }) (disch:=first|omega|rfl) only[sB,Za,z5j,ld4,t2,t7,oG,z17 a3]))
      exact⟨_,rfl,⟨(by simp only[sG,reduceCtorEq,t0]),(by simp only[sG,Za,t1]),(by simp only[sG,Za,t2]),(by simp only[sG,Za,t7]),(by simp only[sG,Za,t9]),(by simp only[sG,Za,t12]),(by simp only[sG,Za,t13])⟩,(by rw[show decide (m≠1)=false by simp [a3]];exact(by simp only[sG,Za]))⟩
     ·repeat' (first|(refine EvC.reg ?_;simp (config := { maxSteps := 2000000 }) (disch:=first|omega|rfl) only[sB,Za,z5j,ld4,t2,t7,oG,z3i a3]))
      exact⟨_,rfl,⟨(by simp only[sG,reduceCtorEq,t0]),(by simp only[sG,Za,t1]),(by simp only[sG,Za,t2]),(by simp only[sG,Za,t7]),(by simp only[sG,Za,t9]),(by simp only[sG,Za,t12]),(by simp only[sG,Za,t13])⟩,(by rw[show decide (m≠1)=true by simp [a3]];exact(by simp only[sG,Za]))⟩
   clear t0 t1 t2 t7 t9 t11 t12 t13 tm;rintro st ⟨tm,rfl,⟨t0,t1,t2,t7,t9,t12,t13⟩,t87⟩;by_cases a2:rep=true∧m≠1
   ·rw[decide_eq_true a2] at t87;rw[hE _ (by rw[hE2,if_pos a2]) (by simp)];refine EvC.condT (by simp (config := { maxSteps := 2000000 }) (disch:=first|omega|rfl) only[sA,t87]) ?_;(try refine EvC.skip ?_);(try simp only[z00,z0h])
    repeat' (first|refine EvC.seq ?_|(refine EvC.reg ?_;simp (config := { maxSteps := 2000000 }) (disch:=first|omega|rfl) only[sB,Zb,Value.cells,layC,cl72,z2y]))
    refine(z2h (s:=truS) wG).mono ?_;rintro v H2 ⟨rfl,hx2⟩;obtain⟨H3,e3,hx3,g3,n3,w3⟩:=new1 hx2.wf (.row (six (atomT truS) none 0) 88)
    repeat' (first|(refine z08 ?_;simp (config := { maxSteps := 2000000 }) (disch:=first|omega|rfl) only[sB,Za,Zb,one,cl71,cl70,e3]))
    refine(zbi (m:=1) (s:=repoS) w3 g3 rfl (by omega) (by omega) rfl).mono ?_;rintro v H4 ⟨hx4,b4,rfl,g4⟩
    skip
    refine(z1k (s:=opS) (u:=srcS) (t:=ofT repoS [atomT truS]) (a:=some ⟨b4,0,none⟩) (c:=1) hx4.wf).mono ?_;rintro v H5 ⟨hx5,b5,rfl,g5⟩;have hxA:=((hx2.trans hx3).trans hx4).trans hx5;have gA:=hxA.get wG gG;have hb5:BadR H5 (.ball (opT (ofT repoS [atomT truS]))) _:=z1y (by simp [opS,maxLen,Zf]) (by simp [srcS,maxLen,Zf]) (zji (by simp [repoS,maxLen,Zf]) (z4q (by simp [truS,maxLen,Zf])) (hx5.get hx4.wf g4)) g5
    repeat' (first|(refine EvC.ret ?_;try simp only[z05,z03])|(refine z08 ?_;simp (config := { maxSteps := 2000000 }) (disch:=first|omega|rfl) only[sB,Zb,one,st90,t9,gA]))
    exact z0d rfl (by simp only[sG,Za]) (by simp only[sB,Za,t9];rfl) (by simp only[if_true,z0b,ld90];rfl) ⟨Hy.of ((hx0G.trans hxA).pt (by omega) gA _),_,rfl,hb5.put gA rfl _,_,_,(hG.keep hxA wG).off gA _⟩
   rw[decide_eq_false a2] at t87;rw[if_neg a2] at hE2;refine EvC.condF (by simp (config := { maxSteps := 2000000 }) (disch:=first|omega|rfl) only[sA,t87]) ?_;(try refine EvC.skip ?_);(try simp only[z00,z0h]);have hk0:decide (ki < 0)=decide (φ.file n=none):=by
    rcases hki with ⟨i,hi,rfl⟩|⟨hi,rfl⟩
    ·rw[decide_eq_false (by omega),decide_eq_false (fun q=>by rw[zbn.2 q] at hi;cases hi)]
    ·rw[decide_eq_true (by omega),decide_eq_true (zbn.1 hi)]
   refine EvC.seq ?_;refine EvC.join (fun st=>∃tm,st=⟨tm,[],G⟩∧OpF r H.next n m ki bz tm∧tm.get 98=some (.bool (decide (m=1∧φ.file n=none)))) ?_ ?_
   ·by_cases a3:m=1
    ·repeat' (first|(refine EvC.reg ?_;simp (config := { maxSteps := 2000000 }) (disch:=first|omega|rfl) only[sB,Za,t2,t12,z19 a3,hk0]))
     exact⟨_,rfl,⟨(by simp only[sG,reduceCtorEq,t0]),(by simp only[sG,Za,t1]),(by simp only[sG,Za,t2]),(by simp only[sG,Za,t7]),(by simp only[sG,Za,t9]),(by simp only[sG,Za,t12]),(by simp only[sG,Za,t13])⟩,(by rw[show decide (m=1∧φ.file n=none)=decide (φ.file n=none) by simp [a3]];exact(by simp only[sG,Za]))⟩
    ·repeat' (first|(refine EvC.reg ?_;simp (config := { maxSteps := 2000000 }) (disch:=first|omega|rfl) only[sB,Za,t2,z0r a3,Zc]))
     exact⟨_,rfl,⟨(by simp only[sG,reduceCtorEq,t0]),(by simp only[sG,Za,t1]),(by simp only[sG,Za,t2]),(by simp only[sG,Za,t7]),(by simp only[sG,Za,t9]),(by simp only[sG,Za,t12]),(by simp only[sG,Za,t13])⟩,(by rw[show decide (m=1∧φ.file n=none)=false by simp [a3]];exact(by simp only[sG,Za]))⟩
   clear t0 t1 t2 t7 t9 t12 t13 t87 tm;rintro st ⟨tm,rfl,⟨t0,t1,t2,t7,t9,t12,t13⟩,t98⟩;by_cases a4:m=1∧φ.file n=none
   ·rw[decide_eq_true a4] at t98;rw[hE _ (by rw[hE2,if_pos a4]) (by simp)];refine EvC.condT (by simp (config := { maxSteps := 2000000 }) (disch:=first|omega|rfl) only[sA,t98]) ?_;(try refine EvC.skip ?_);(try simp only[z00,z0h])
    repeat' (first|refine EvC.seq ?_|(refine EvC.reg ?_;simp (config := { maxSteps := 2000000 }) (disch:=first|omega|rfl) only[sB,Za,Zb,Value.cells,layC,cl72,z7i,t1]))
    refine(z2h (s:=srcS) wG).mono ?_;rintro v H2 ⟨rfl,hx2⟩
    skip
    refine(z2h (s:=n) hx2.wf).mono ?_;rintro v H3 ⟨rfl,hx3⟩;obtain⟨H4,e4,hx4,g4,n4,w4⟩:=new1 hx3.wf (.row (six (atomT srcS) none 0++six (atomT n) none 0) 88);simp only[List.cons_append,List.nil_append] at e4
    repeat' (first|(refine z08 ?_;simp (config := { maxSteps := 2000000 }) (disch:=first|omega|rfl) only[sB,Za,Zb,one,Zh,cl73,e4]))
    refine(z1r (m:=2) (s:=existS) w4 g4 rfl (by omega) (by omega) rfl).mono ?_;rintro v H5 ⟨hx5,b5,rfl,g5⟩;have hxA:=((hx2.trans hx3).trans hx4).trans hx5;have gA:=hxA.get wG gG;have hb5:BadR H5 (.ball (noSrcT n)) [.int .i64 0,.bool true,.int .i64 5,.string existS,.string e0,.int .u64 0,.int .i64 0,.slice (some ⟨b5,0,none⟩) 2 2]:=⟨some ⟨b5,0,none⟩,2,rfl,zjj (by simp [existS,maxLen,Zf]) (z4q (by simp [srcS,maxLen,Zf])) (z4q (by omega)) g5⟩
    repeat' (first|(refine EvC.ret ?_;try simp only[z05,z03])|(refine z08 ?_;simp (config := { maxSteps := 2000000 }) (disch:=first|omega|rfl) only[sB,Zb,one,st90,t9,gA]))
    exact z0d rfl (by simp only[sG,Za]) (by simp only[sB,Za,t9];rfl) (by simp only[if_true,z0b,ld90];rfl) ⟨Hy.of ((hx0G.trans hxA).pt (by omega) gA _),_,rfl,hb5.put gA rfl _,_,_,(hG.keep hxA wG).off gA _⟩
   rw[decide_eq_false a4] at t98;rw[if_neg a4] at hE2;refine EvC.condF (by simp (config := { maxSteps := 2000000 }) (disch:=first|omega|rfl) only[sA,t98]) ?_;(try refine EvC.skip ?_);(try simp only[z00,z0h])
   repeat' (first|refine EvC.seq ?_|(refine EvC.reg ?_;simp (config := { maxSteps := 2000000 }) (disch:=first|omega|rfl) only[sB,t13]))
   cases bz;rotate_left
   ·rw[hE _ (by rw[hE2,if_pos (hbz2.1 rfl)]) (by simp)];refine EvC.condT (by simp (config := { maxSteps := 2000000 }) (disch:=first|omega|rfl) only[sB,Za]) ?_;(try refine EvC.skip ?_);(try simp only[z00,z0h])
    repeat' (first|refine EvC.seq ?_|(refine EvC.reg ?_;simp (config := { maxSteps := 2000000 }) (disch:=first|omega|rfl) only[sB,Za,cl72,cl70,t1]))
    refine(z2h (s:=n) wG).mono ?_;rintro v H2 ⟨rfl,hx2⟩
    skip
    refine(z1k (s:=opS) (u:=srcS) (t:=atomT n) (a:=none) (c:=0) hx2.wf).mono ?_;rintro v H5 ⟨hx5,b5,rfl,g5⟩;have hxA:=hx2.trans hx5;have gA:=hxA.get wG gG;have hb5:BadR H5 (.ball (opT (atomT n))) _:=z1y (by simp [opS,maxLen,Zf]) (by simp [srcS,maxLen,Zf]) (z4q (by omega)) g5
    repeat' (first|(refine EvC.ret ?_;try simp only[z05,z03])|(refine z08 ?_;simp (config := { maxSteps := 2000000 }) (disch:=first|omega|rfl) only[sB,Zb,one,st90,t9,gA]))
    exact z0d rfl (by simp only[sG,Za]) (by simp only[sB,Za,t9];rfl) (by simp only[if_true,z0b,ld90];rfl) ⟨Hy.of ((hx0G.trans hxA).pt (by omega) gA _),_,rfl,hb5.put gA rfl _,_,_,(hG.keep hxA wG).off gA _⟩
   rw[if_neg (fun q=>by have:=hbz2.2 q;cases this)] at hE2;refine EvC.condF (by simp (config := { maxSteps := 2000000 }) (disch:=first|omega|rfl) only[sB,Za]) ?_;(try refine EvC.skip ?_);(try simp only[z00,z0h]);by_cases a5:16≤φ.opens.length
   ·rw[hE _ (by rw[hE2,if_pos a5]) (by simp)];have d5:decide ((16:Int)≤(φ.opens.length:Int))=true:=decide_eq_true (by omega)
    repeat' (first|refine EvC.seq ?_|(refine EvC.reg ?_;simp (config := { maxSteps := 2000000 }) (disch:=first|omega|rfl) only[sB,Za,Zb,Value.cells,reduceCtorEq,layC,z0k,ld37,ln37,cl72,z2y,t0,q,z01,z04,ge_iff_le,d5])|(refine EvC.condT ?_ ?_;simp (config := { maxSteps := 2000000 }) (disch:=first|omega|rfl) only[sB,Za];refine z02 ?_))
    refine(z2h (s:=strmsS) wG).mono ?_;rintro v H2 ⟨rfl,hx2⟩;obtain⟨H3,e3,hx3,g3,n3,w3⟩:=new1 hx2.wf (.row (six (atomT strmsS) none 0) 88)
    repeat' (first|(refine z08 ?_;simp (config := { maxSteps := 2000000 }) (disch:=first|omega|rfl) only[sB,Za,Zb,one,cl73,e3]))
    refine(z1r (m:=1) (s:=resS) w3 g3 rfl (by omega) (by omega) rfl).mono ?_;rintro v H4 ⟨hx4,b4,rfl,g4⟩;have hxA:=(hx2.trans hx3).trans hx4;have gA:=hxA.get wG gG;have hb5:BadR H4 (.ball (resT strmsS)) _:=z73 (s:=resS) (u:=strmsS) (by simp [resS,maxLen,Zf]) (by simp [strmsS,maxLen,Zf]) g4
    repeat' (first|(refine EvC.ret ?_;try simp only[z05,z03])|(refine z08 ?_;simp (config := { maxSteps := 2000000 }) (disch:=first|omega|rfl) only[sB,Zb,one,st90,t9,gA]))
    exact z0d rfl (by simp only[sG,Za]) (by simp only[sB,Za,t9];rfl) (by simp only[if_true,z0b,ld90];rfl) ⟨Hy.of ((hx0G.trans hxA).pt (by omega) gA _),_,rfl,hb5.put gA rfl _,_,_,(hG.keep hxA wG).off gA _⟩
   rw[if_neg a5] at hE2;have d5:decide ((16:Int)≤(φ.opens.length:Int))=false:=decide_eq_false (by omega);refine EvC.seq ?_;refine EvC.join (fun st=>∃tm,st=⟨tm,[],G⟩∧OpF r H.next n m ki false tm∧tm.get 115=some (.bool false)) ?_ ?_
   ·repeat' (first|(refine EvC.reg ?_;simp (config := { maxSteps := 2000000 }) (disch:=first|omega|rfl) only[sB,Za,reduceCtorEq,z0k,ld37,ln37,t0,q,z01,z04,ge_iff_le,d5]))
    exact⟨_,rfl,⟨(by simp only[sG,reduceCtorEq,t0]),(by simp only[sG,Za,t1]),(by simp only[sG,Za,t2]),(by simp only[sG,Za,t7]),(by simp only[sG,Za,t9]),(by simp only[sG,Za,t12]),(by simp only[sG,Za,t13])⟩,(by simp only[sG,Za])⟩
   clear t0 t1 t2 t7 t9 t12 t13 t98 tm;rintro st ⟨tm,rfl,⟨t0,t1,t2,t7,t9,t12,t13⟩,t115⟩;refine EvC.condF (by simp (config := { maxSteps := 2000000 }) (disch:=first|omega|rfl) only[sA,t115]) ?_;(try refine EvC.skip ?_);(try simp only[z00,z0h]);refine EvC.seq ?_;refine EvC.join (fun st=>∃tm,st=⟨tm,[],G⟩∧OpF r H.next n m ki false tm∧tm.get 125=some (.bool (decide (φ.file n=none∧16≤φ.files.length)))) ?_ ?_
   ·have d6:decide ((16:Int)≤(φ.files.length:Int))=decide (16≤φ.files.length):=by
     by_cases z:16≤φ.files.length
     ·rw[decide_eq_true z,decide_eq_true (by omega)]
     ·rw[decide_eq_false z,decide_eq_false (by omega)]
    by_cases a6:φ.file n=none
    ·rw[decide_eq_true a6] at hk0
     repeat' (first|(refine EvC.reg ?_;simp (config := { maxSteps := 2000000 }) (disch:=first|omega|rfl) only[sB,Za,reduceCtorEq,z4z,ld22,ln22,t0,t12,q,z01,z04,ge_iff_le,hk0,d6]))
     exact⟨_,rfl,⟨(by simp only[sG,reduceCtorEq,t0]),(by simp only[sG,Za,t1]),(by simp only[sG,Za,t2]),(by simp only[sG,Za,t7]),(by simp only[sG,Za,t9]),(by simp only[sG,Za,t12]),(by simp only[sG,Za,t13])⟩,(by rw[show decide (φ.file n=none∧16≤φ.files.length)=decide (16≤φ.files.length) by simp [a6]];exact(by simp only[sG,Za]))⟩
    ·rw[decide_eq_false a6] at hk0
     repeat' (first|(refine EvC.reg ?_;simp (config := { maxSteps := 2000000 }) (disch:=first|omega|rfl) only[sB,Za,t12,hk0,Zc]))
     exact⟨_,rfl,⟨(by simp only[sG,reduceCtorEq,t0]),(by simp only[sG,Za,t1]),(by simp only[sG,Za,t2]),(by simp only[sG,Za,t7]),(by simp only[sG,Za,t9]),(by simp only[sG,Za,t12]),(by simp only[sG,Za,t13])⟩,(by rw[show decide (φ.file n=none∧16≤φ.files.length)=false by simp [a6]];exact(by simp only[sG,Za]))⟩
   clear t0 t1 t2 t7 t9 t12 t13 t115 tm;rintro st ⟨tm,rfl,⟨t0,t1,t2,t7,t9,t12,t13⟩,t125⟩;by_cases a7:φ.file n=none∧16≤φ.files.length
   ·rw[decide_eq_true a7] at t125;rw[hE _ (by rw[hE2,if_pos a7]) (by simp)];refine EvC.condT (by simp (config := { maxSteps := 2000000 }) (disch:=first|omega|rfl) only[sA,t125]) ?_;(try refine EvC.skip ?_);(try simp only[z00,z0h])
    repeat' (first|refine EvC.seq ?_|(refine EvC.reg ?_;simp (config := { maxSteps := 2000000 }) (disch:=first|omega|rfl) only[sB,Zb,Value.cells,layC,cl72,z2y]))
    refine(z2h (s:=filesS) wG).mono ?_;rintro v H2 ⟨rfl,hx2⟩;obtain⟨H3,e3,hx3,g3,n3,w3⟩:=new1 hx2.wf (.row (six (atomT filesS) none 0) 88)
    repeat' (first|(refine z08 ?_;simp (config := { maxSteps := 2000000 }) (disch:=first|omega|rfl) only[sB,Za,Zb,one,cl73,e3]))
    refine(z1r (m:=1) (s:=resS) w3 g3 rfl (by omega) (by omega) rfl).mono ?_;rintro v H4 ⟨hx4,b4,rfl,g4⟩;have hxA:=(hx2.trans hx3).trans hx4;have gA:=hxA.get wG gG;have hb5:BadR H4 (.ball (resT filesS)) _:=z73 (s:=resS) (u:=filesS) (by simp [resS,maxLen,Zf]) (by simp [filesS,maxLen,Zf]) g4
    repeat' (first|(refine EvC.ret ?_;try simp only[z05,z03])|(refine z08 ?_;simp (config := { maxSteps := 2000000 }) (disch:=first|omega|rfl) only[sB,Zb,one,st90,t9,gA]))
    exact z0d rfl (by simp only[sG,Za]) (by simp only[sB,Za,t9];rfl) (by simp only[if_true,z0b,ld90];rfl) ⟨Hy.of ((hx0G.trans hxA).pt (by omega) gA _),_,rfl,hb5.put gA rfl _,_,_,(hG.keep hxA wG).off gA _⟩
   rw[decide_eq_false a7] at t125;rw[if_neg a7] at hE2;refine EvC.condF (by simp (config := { maxSteps := 2000000 }) (disch:=first|omega|rfl) only[sA,t125]) ?_;(try refine EvC.skip ?_);(try simp only[z00,z0h]);have hY:φ.openY n m bin al eof rep=(φ.next,.none,φ.openX n m bin al eof rep):=by unfold FSt.openY;rw[hE2]
   rw[hY];have hy0G:Hy B H G:=Hy.of hx0G;have goG:=hG.obj;have goo:=hxG.get w1 go1;refine EvC.seq ?_;refine EvC.join (fun st=>∃tm G' f',st=⟨tm,[],G'⟩∧OpF r H.next n m ki false tm∧Hy B H G'∧G'.get H.next=some (.row [.bool bin,.string al,.int .i64 eof,.bool rep] 34)∧G'.get (H.next+1)=some (.row bad8 90)∧RfB G' B r f' l { φ with files:=if m=1 then φ.files else fset φ.files n (φ.opD n m) }) ?_ ?_
   ·have nf0:f≠H.next:=fun e=>by have:=hG.fs;rw[e,goo] at this;simp at this
    have nr0:r≠H.next:=fun e=>by rw[e,goo] at goG;simp at goG
    have nf1:=z0s gG hG.fs rfl;have nr1:=z0s gG goG rfl;rcases hki with ⟨i,hi,rfl⟩|⟨hi,rfl⟩
    ·have d7:decide (((i:Nat):Int) < 0)=false:=decide_eq_false (by omega);obtain⟨hil,hfd2⟩:=z9c hi;by_cases a8:m=2
     ·have hod:φ.opD n m=e0:=by unfold FSt.opD;rw[if_pos a8]
      obtain⟨sp,sl,h3⟩:=hG.text (d:=e0) hi;have gfG:=hG.fs;obtain⟨H3,e3⟩:∃H3,G.put f (some (.row (rowF (fset φ.files n e0)) 73))=H3:=⟨_,rfl⟩
      rw[e3] at h3;have hy3:Hy B H H3:=by rw[←e3];exact hy0G.trans (Hy.put wG h.bf gfG _)
      have sp':Hb.splice (rowF φ.files) (i*2+1) [.string ⟨#[]⟩]=rowF (fset φ.files n e0):=sp
      repeat' (first|refine EvC.seq ?_|(refine EvC.reg ?_;simp (config := { maxSteps := 2000000 }) (disch:=first|omega|rfl) only[sB,Za,one,reduceCtorEq,z4z,ld22,ia22,z5i,st9,t0,t2,t12,d7,z19 a8,q,z01,z04,gfG,sp',sl,e3])|(refine EvC.condT ?_ ?_;simp (config := { maxSteps := 2000000 }) (disch:=first|omega|rfl) only[sB,Za];refine z02 ?_)|(refine EvC.condF ?_ ?_;simp (config := { maxSteps := 2000000 }) (disch:=first|omega|rfl) only[sB,Za];refine z02 ?_))
      exact⟨_,_,_,rfl,⟨(by simp only[sG,reduceCtorEq,t0]),(by simp only[sG,Za,t1]),(by simp only[sG,Za,t2]),(by simp only[sG,Za,t7]),(by simp only[sG,Za,t9]),(by simp only[sG,Za,t12]),(by simp only[sG,Za,t13])⟩,hy3,by rw[←e3,get_put,if_neg nf0.symm];exact goo,by rw[←e3,get_put,if_neg nf1.symm];exact gG,by rw[if_neg (by omega),hod];exact h3⟩
     ·have hsame:(if m=1 then φ.files else fset φ.files n (φ.opD n m))=φ.files:=by
       split
       ·rfl
       ·have hod:φ.opD n m=φ.fileD n:=by unfold FSt.opD;rw[if_neg a8]
        rw[hod];exact zkm hi ⟨hil,hfd2⟩
      repeat' (first|refine EvC.seq ?_|(refine EvC.skip ?_;try simp only[z00])|(refine EvC.reg ?_;simp (config := { maxSteps := 2000000 }) (disch:=first|omega|rfl) only[sB,Za,t2,t12,d7,z0r a8])|(refine EvC.condF ?_ ?_;simp (config := { maxSteps := 2000000 }) (disch:=first|omega|rfl) only[sB,Za];refine z02 ?_))
      exact⟨_,_,f,rfl,⟨(by simp only[sG,reduceCtorEq,t0]),(by simp only[sG,Za,t1]),(by simp only[sG,Za,t2]),(by simp only[sG,Za,t7]),(by simp only[sG,Za,t9]),(by simp only[sG,Za,t12]),(by simp only[sG,Za,t13])⟩,hy0G,goo,gG,by rw[hsame];exact hG⟩
    ·have d7:decide ((-1:Int) < 0)=true:=rfl;have hnone:=zbn.1 hi;have hm1:m≠1:=fun q=>a4 ⟨q,hnone⟩
     have hod:φ.opD n m=e0:=by
      unfold FSt.opD FSt.fileD;rw[hnone];split<;>rfl
     have hset:fset φ.files n e0=φ.files++[(n,e0)]:=by unfold fset;rw[hi]
     obtain⟨G1,e1,hxg1,gg1,ng1,wg1⟩:=new1 wG (.row [.string n,.string Zg] 73);have hG1:=hG.keep hxg1 wG;have q1':=row8 hG1.obj;have ld:0 < 1→∃x,some (⟨G.next,0,none⟩:Addr)=some x∧G1.load x (1*2)=some (rowF [(n,e0)]):=fun _=>⟨_,rfl,by simp only[Heap.load,Heap.cells,gg1];rfl⟩
     obtain⟨b6,H6,ap1,g6,hb6,hk5,hk6,n56⟩:=zak (n:=φ.files.length) (m:=1) (c':=1) zd6 (by unfold most;omega) ld (fun q=>by cases q) (z6m _) hG1.fs (z43 _) (z6m _);have hy6:Hy B G1 H6:=zq6 wg1 hk5 hk6 n56 h.bf;have nrf:r≠f:=fun e=>by have:=hG1.fs;rw[←e,hG1.obj] at this;simp at this
     have nlf:l≠f:=fun e=>by have:=hG1.fs;rw[←e,hG1.ls] at this;simp at this
     have go6:=(hk6 r (wg1 _ _ hG1.obj) nrf).trans hG1.obj;have gl6:=(hk6 l (wg1 _ _ hG1.ls) nlf).trans hG1.ls;have gb6:=(hk6 _ (wg1 _ _ (hxg1.get wG gG)) nf1.symm).trans (hxg1.get wG gG);have goo6:=(hk6 _ (wg1 _ _ (hxg1.get wG goo)) nf0.symm).trans (hxg1.get wG goo);have nrb:b6≠r:=by
      have:=wg1 _ _ hG1.obj;rcases hb6 with rfl|rfl
      ·exact nrf.symm
      ·omega
     have nlr:l≠r:=fun e=>by rw[e,go6] at gl6;simp at gl6
     obtain⟨H7,e7⟩:∃H7,H6.put r (some (.row [.slice (some ⟨b6,0,none⟩) (φ.files.length+1) (φ.files.length+1),.slice (some ⟨l,0,none⟩) φ.opens.length φ.opens.length,.int .i64 φ.next,.string φ.input,.string φ.out,.int .i64 φ.inp,.int .i64 φ.put,.int .i64 φ.written] 39))=H7:=⟨_,rfl⟩
     have hBb:B b6:=by
      rcases hb6 with rfl|rfl
      ·exact h.bf
      ·exact hB _ (by have:=hx0G.next;have:=hxg1.next;omega)
     have h7:RfB H7 B r b6 l { φ with files:=fset φ.files n e0 }:=by
      refine⟨?_,?_,?_,h.ids,h.br,hBb,h.bl⟩
      ·rw[←e7,get_put,if_pos rfl,hset,Zu,List.length_singleton]
      ·rw[←e7,get_put,if_neg nrb,hset,g6];simp [rowF]
      ·rw[←e7,get_put,if_neg nlr];exact gl6
     have hy7:Hy B H H7:=by rw[←e7];exact((hy0G.trans (Hy.of hxg1)).trans hy6).trans (Hy.put hy6.1 h.br go6 _)
     repeat' (first|refine EvC.seq ?_|(refine EvC.reg ?_;simp (config := { maxSteps := 2000000 }) (disch:=first|omega|rfl) only[sB,Za,Zb,Value.cells,one,reduceCtorEq,Zh,layC,z4z,ld22,bd73,znh,st22,t0,t1,t12,d7,q,z01,z04,e1,ap1,go6,e7])|(refine EvC.condT ?_ ?_;simp (config := { maxSteps := 2000000 }) (disch:=first|omega|rfl) only[sB,Za];refine z02 ?_))
     exact⟨_,_,b6,rfl,⟨(by simp only[sG,reduceCtorEq,t0]),(by simp only[sG,Za,t1]),(by simp only[sG,Za,t2]),(by simp only[sG,Za,t7]),(by simp only[sG,Za,t9]),(by simp only[sG,Za,t12]),(by simp only[sG,Za,t13])⟩,hy7,by rw[←e7,get_put,if_neg nr0.symm];exact goo6,by rw[←e7,get_put,if_neg nr1.symm];exact gb6,by rw[if_neg hm1,hod];exact h7⟩
   clear t0 t1 t2 t7 t9 t12 t13 t125 tm;rintro st ⟨tm,G',f',rfl,⟨t0,t1,t2,t7,t9,t12,t13⟩,hyG',go',gb',hG'⟩;have wG':=hyG'.1;generalize hF:(if m=1 then φ.files else fset φ.files n (φ.opD n m))=F at hG';have hX:φ.openX n m bin al eof rep={ φ with files:=F,opens:=φ.opens++[(φ.next,⟨φ.next,n,m,bin,al,eof,rep,0,0,0,false⟩)],next:=φ.next+1 }:=by unfold FSt.openX;rw[hF]
   rw[hX];have oG':=row4 go';have qG':_:=row8 (show G'.get r=some (.row [.slice (some ⟨f',0,none⟩) F.length F.length,.slice (some ⟨l,0,none⟩) φ.opens.length φ.opens.length,.int .i64 φ.next,.string φ.input,.string φ.out,.int .i64 φ.inp,.int .i64 φ.put,.int .i64 φ.written] 39) from hG'.obj);obtain⟨H8,e8,hx8,g8,w8⟩:=zo3 wG' 26 21 (by omega) (.row [.int .i64 φ.next,.string n,.int .i64 m,.bool bin,.string al,.int .i64 eof,.bool rep,.int .i64 0,.int .i64 0,.int .i64 0] 84);have h8:=hG'.keep hx8 wG';have go8:H8.get r=some (.row [.slice (some ⟨f',0,none⟩) F.length F.length,.slice (some ⟨l,0,none⟩) φ.opens.length φ.opens.length,.int .i64 φ.next,.string φ.input,.string φ.out,.int .i64 φ.inp,.int .i64 φ.put,.int .i64 φ.written] 39):=h8.obj;have q8:=row8 go8;have o8:=row4 (hx8.get wG' go');have gl8:H8.get l=some (.row (rowO φ.opens) 84):=h8.ls;have ld8:0 < 1→∃x,some (⟨G'.next+21,0,none⟩:Addr)=some x∧H8.load x (1*10)=some (rowO [(φ.next,(⟨φ.next,n,m,bin,al,eof,rep,0,0,0,false⟩:Strm))]):=fun _=>⟨_,rfl,by simp only[Heap.load,Heap.cells,g8];rfl⟩
   obtain⟨b9,H9,ap9,g9,hb9,hk9a,hk9,n89⟩:=zak (n:=φ.opens.length) (m:=1) (c':=1) zke (by unfold most;omega) ld8 (fun q=>by cases q) (z6o _) gl8 (z6n _) (z6o _);have hy9:Hy B H8 H9:=zq6 w8 hk9a hk9 n89 h.bl;have nrl:r≠l:=fun e=>by rw[e,gl8] at go8;simp at go8
   have nfl:f'≠l:=fun e=>by have:=h8.fs;rw[e,gl8] at this;simp at this
   have nfr:f'≠r:=fun e=>by have:=h8.fs;rw[e,go8] at this;simp at this
   have gb8:=hx8.get wG' gb';have nbl:=(z0s gb8 gl8 rfl).symm;have nbr:=(z0s gb8 go8 rfl).symm;have go9:=(hk9 r (w8 _ _ go8) nrl).trans go8;have gf9:=(hk9 f' (w8 _ _ h8.fs) nfl).trans h8.fs;have gb9:=(hk9 _ (w8 _ _ gb8) nbl).trans gb8;have nr9:b9≠r:=by
    have:=w8 _ _ go8;rcases hb9 with rfl|rfl
    ·exact nrl.symm
    ·omega
   have hBb:B b9:=by
    rcases hb9 with rfl|rfl
    ·exact h.bl
    ·exact hB _ (by have:=hyG'.2.1;have:=hx8.next;omega)
   obtain⟨H10,e10⟩:∃H10,H9.put r (some (.row [.slice (some ⟨f',0,none⟩) F.length F.length,.slice (some ⟨b9,0,none⟩) (φ.opens.length+1) (φ.opens.length+1),.int .i64 φ.next,.string φ.input,.string φ.out,.int .i64 φ.inp,.int .i64 φ.put,.int .i64 φ.written] 39))=H10:=⟨_,rfl⟩
   have h10:RfB H10 B r f' b9 { φ with files:=F,opens:=φ.opens++[(φ.next,⟨φ.next,n,m,bin,al,eof,rep,0,0,0,false⟩)] }:=by
    refine⟨?_,?_,?_,fun o ho=>?_,h.br,h8.bf,hBb⟩
    ·rw[←e10,get_put,if_pos rfl,Zu,List.length_singleton]
    ·rw[←e10,get_put,if_neg nfr];exact gf9
    ·rw[←e10,get_put,if_neg nr9,g9,zgn]
    ·rcases List.mem_append.1 ho with k|k
     ·exact h.ids o k
     ·rw[List.mem_singleton.1 k]
   have hy10:Hy B H H10:=by rw[←e10];exact((hyG'.trans (Hy.of hx8)).trans hy9).trans (Hy.put hy9.1 h.br go9 _)
   have gb10:H10.get (H.next+1)=some (.row bad8 90):=by rw[←e10,get_put,if_neg nbr];exact gb9
   have go10:H10.get r=some (.row [.slice (some ⟨f',0,none⟩) F.length F.length,.slice (some ⟨b9,0,none⟩) (φ.opens.length+1) (φ.opens.length+1),.int .i64 φ.next,.string φ.input,.string φ.out,.int .i64 φ.inp,.int .i64 φ.put,.int .i64 φ.written] 39):=by rw[←e10,get_put,if_pos rfl]
   have q10:=row8 go10;have h11:=h10.obj8 (ψ:={ φ with files:=F,opens:=φ.opens++[(φ.next,⟨φ.next,n,m,bin,al,eof,rep,0,0,0,false⟩)],next:=φ.next+1 }) rfl rfl;rw[Zu,List.length_singleton] at h11;obtain⟨H11,e11⟩:∃H11,H10.put r (some (.row [.slice (some ⟨f',0,none⟩) F.length F.length,.slice (some ⟨b9,0,none⟩) (φ.opens.length+1) (φ.opens.length+1),.int .i64 (φ.next+1),.string φ.input,.string φ.out,.int .i64 φ.inp,.int .i64 φ.put,.int .i64 φ.written] 39))=H11:=⟨_,rfl⟩
   have h11':RfB H11 B r f' b9 { φ with files:=F,opens:=φ.opens++[(φ.next,⟨φ.next,n,m,bin,al,eof,rep,0,0,0,false⟩)],next:=φ.next+1 }:=by rw[←e11];exact h11
   have hy11:Hy B H H11:=by rw[←e11];exact hy10.trans (Hy.put hy10.1 h.br go10 _)
   have gb11:H11.get (H.next+1)=some (.row bad8 90):=by rw[←e11,get_put,if_neg nbr];exact gb10
   have q11:=row8 (show H11.get r=some (.row [.slice (some ⟨f',0,none⟩) F.length F.length,.slice (some ⟨b9,0,none⟩) (φ.opens.length+1) (φ.opens.length+1),.int .i64 (φ.next+1),.string φ.input,.string φ.out,.int .i64 φ.inp,.int .i64 φ.put,.int .i64 φ.written] 39) by rw[←e11,get_put,if_pos rfl]);have hw1:IntKind.i64.wrap (φ.next+1)=φ.next+1:=z0e (by omega) (by omega);have hw2:IntKind.i64.wrap (φ.next+1 - 1)=φ.next:=by rw[z0e (by omega) (by omega)];omega
   repeat' (first|refine EvC.seq ?_|(refine EvC.ret ?_)|(refine EvC.reg ?_;simp (config := { maxSteps := 2000000 }) (disch:=first|omega|rfl) only[sB,Za,Zb,Value.cells,one,reduceCtorEq,Zh,layC,bd90,st90,ld3,znf,st3,t0,t9,z01,z04,q10,go10,hw1,e11,q11,hw2,gb11])|(refine EvC.drw [([(1,0),(2,0),(3,0),(4,0),(5,0),(6,0),(7,0),(8,0),(9,0),(10,0),(11,0),(12,0),(13,0),(14,0),(15,0),(16,0),(17,0),(18,0),(19,0),(20,0),(21,0)],some 22),([(0,0),(23,1),(24,1)],some 25),([],none)] ?_ ?_;kernel_rfl;simp (config := { maxSteps := 2000000 }) (disch:=first|omega|rfl) only[sD,sB,Za,Zb,Value.cells,one,reduceCtorEq,Zh,layC,z7h,ld9,z0k,ld37,ld3,z5j,ld4,znf,zfr,zfs,bd61,bd84,zpj,st37,t0,t1,t2,t7,qG',oG',z01,z04,e8,ap9,go9,e10,isAlloc,isRead,dalloc,zj6]))
   exact z0d rfl (by simp only[sG,Za]) (by simp only[sB,Za,t9];rfl) (by simp only[if_true,z0b,ld90];rfl) ⟨hy11.pt (by omega) gb11 _,_,rfl,rfl,_,_,h11'.off gb11 _⟩
 ·exact⟨_,_,0,false,rfl,rfl,Zz _,(by simp only[sG,reduceCtorEq]),(by simp only[sG,Za,reduceCtorEq]),(by simp only[sG,Za,reduceCtorEq]),(by simp only[sG,Za,reduceCtorEq]),(by simp only[sG,Za,reduceCtorEq]),(by simp only[sG,Za,reduceCtorEq]),(by simp only[sG,Za,reduceCtorEq]),(by simp only[sG,Za,reduceCtorEq]),(by simp only[sB,Za,reduceCtorEq];rfl),HX.refl w1,by simp⟩
end Go.Proofs.hq
end

section
namespace Go.Hb
open Go Go.RowKit
theorem EvF.det {P:Program}{ok:Ok}{f:FuncId}{args:List Value}{H:Heap}{K:Value→Heap→Prop}(h:EvF P ok f args H K):∃v H',K v H'∧EvF P ok f args H fun u G=>u=v∧G=H':=by
 obtain⟨N,r,h1,v,h2,h3⟩:=h;exact⟨v,r.2,h3,N,r,h1,v,h2,rfl,rfl⟩
end Go.Hb
namespace Go.Proofs.hq
open Go Go.RowKit Go.Hb
variable {ok:Ok}
set_option maxRecDepth 10000
attribute [local irreducible] LX LG EL STG SOP SGO SGD SAL SRD SEF SEG SLK SCK ES
abbrev OpG (p b:Nat) (n:ByteArray) (m:Int) (tm:Tr Value):Prop:=tm.get 0=some (ptrV p)∧tm.get 1=some (.string n)∧tm.get 2=some (.int .i64 m)∧tm.get 7=some (ptrV b)∧tm.get 10=some (.bool (decide (m=1)))
abbrev NoF (tm:Tr Value):Prop:=∀k,k=16∨(86≤k∧k≤115)→tm.get k=none
set_option maxHeartbeats 16000000 in
theorem zgo {H:Heap}{B:Nat→Prop}{p fb ob:Nat}{blk:Int→Nat}{φ:FSt}{n al:ByteArray}{m eof:Int}{bin rep:Bool}(h:FsB H B p fb ob blk φ) (hw:H.wf) (hB:∀i,H.next≤i→B i) (hu:∀o∈φ.opens,∀o'∈φ.opens,al.size≠0→o.2.al=al→o'.2.al=al→o=o')
  (hal:al.size≤maxLen) (hk:∀o∈φ.opens,o.1 < φ.next) (hnx:0≤φ.next∧φ.next < 1000000) (hno:φ.opens.length≤16) (hnf:φ.files.length≤16) :
  EvF Tryz.prog okT 12 [ptrV p,.string n,.int .i64 m,.agg ⟨[.bool bin,.string al,.int .i64 eof,.bool rep]⟩] H fun v H'=>∃e,v=.tuple ⟨[.int .i64 (φ.openA n m bin al eof rep).1,e]⟩∧Hy B H H'∧ErrB H' (φ.openA n m bin al eof rep).2.1 e∧∃blk',FsB H' B p fb ob blk' (φ.openA n m bin al eof rep).2.2:=by
 refine EvF.enter rfl Tryz.func12 (by decide) rfl ?_;have hmx:maxLen=9223372036854775807:=rfl;(repeat refine EvC.seq ?_);refine EvC.reg ?_;simp (config := { maxSteps := 2000000 }) (disch:=first|omega|rfl) only[sB,initTm,dBox,Za,Zb,Value.cells,one,reduceCtorEq];obtain⟨H1,e1,hx1,g1,n1,w1⟩:=new1 hw (.row [.bool bin,.string al,.int .i64 eof,.bool rep] 34);simp only[e1];clear e1;have h1:=h.keep hx1 hw;have l1:=row4 g1;have hE:∀e,φ.opErr n m al rep=e→e≠.none→φ.openA n m bin al eof rep=(0,e,φ):=fun e he hn=>by
  unfold FSt.openA;rw[he];cases e with
  |none=>exact absurd rfl hn
  |_=>rfl
 by_cases c1:m < 1
 ·rw[hE (.code 1) (by unfold FSt.opErr;rw[if_pos (.inl c1)]) (by simp)]
  repeat' (first|refine EvC.seq ?_|refine EvC.block ?_|(refine EvC.ret ?_;try simp only[z05,z03])|(refine EvC.reg ?_;simp (config := { maxSteps := 2000000 }) (disch:=first|omega|rfl) only[sB,Za,reduceCtorEq,z6z,decide_eq_true c1,z0y,z4y zeb])|(refine EvC.condT ?_ ?_;simp (config := { maxSteps := 2000000 }) (disch:=first|omega|rfl) only[sB,Za,reduceCtorEq];refine z02 ?_))
  exact z09 rfl (by simp only[sG,Za,reduceCtorEq]) (by simp only[sG,Za,reduceCtorEq]) ⟨_,rfl,Hy.of hx1,rfl,_,h1⟩
 by_cases c2:3 < m
 ·rw[hE (.code 1) (by unfold FSt.opErr;rw[if_pos (.inr c2)]) (by simp)]
  repeat' (first|refine EvC.seq ?_|refine EvC.block ?_|(refine EvC.ret ?_;try simp only[z05,z03])|(refine EvC.reg ?_;simp (config := { maxSteps := 2000000 }) (disch:=first|omega|rfl) only[sB,Za,reduceCtorEq,z6z,decide_eq_false c1,gt_iff_lt,decide_eq_true c2,z0y,z4y zeb])|(refine EvC.condT ?_ ?_;simp (config := { maxSteps := 2000000 }) (disch:=first|omega|rfl) only[sB,Za,reduceCtorEq];refine z02 ?_))
  exact z09 rfl (by simp only[sG,Za,reduceCtorEq]) (by simp only[sG,Za,reduceCtorEq]) ⟨_,rfl,Hy.of hx1,rfl,_,h1⟩
 have c12:¬(m < 1∨3 < m):=fun q=>q.elim c1 c2
 have hm3:m=1∨m=2∨m=3:=by omega
 repeat' (first|refine EvC.seq ?_|refine EvC.block ?_|(refine EvC.reg ?_;simp (config := { maxSteps := 2000000 }) (disch:=first|omega|rfl) only[sB,Za,reduceCtorEq,cl31,z6z,decide_eq_false c1,gt_iff_lt,decide_eq_false c2,Zc])|(refine EvC.condF ?_ ?_;simp (config := { maxSteps := 2000000 }) (disch:=first|omega|rfl) only[sB,Za,reduceCtorEq];refine z02 ?_))
 refine(zg1 w1).mono ?_;rintro v H' ⟨rfl,hq⟩;have hq':=hq.symm;subst hq';cases hnm:named n with
 |false =>
  rw[hE (.code 81) (by unfold FSt.opErr;rw[if_neg c12,if_pos hnm]) (by simp)]
  repeat' (first|refine EvC.seq ?_|(refine EvC.ret ?_;try simp only[z05,z03])|(refine EvC.reg ?_;simp (config := { maxSteps := 2000000 }) (disch:=first|omega|rfl) only[sB,Za,reduceCtorEq,z0y,z4y zeb])|(refine z08 ?_;simp (config := { maxSteps := 2000000 }) (disch:=first|omega|rfl) only[sB,Za,reduceCtorEq,Zm])|(refine EvC.condT ?_ ?_;simp (config := { maxSteps := 2000000 }) (disch:=first|omega|rfl) only[sB,Za,reduceCtorEq];refine z02 ?_))
  exact z09 rfl (by simp only[sG,Za,reduceCtorEq]) (by simp only[sG,Za,reduceCtorEq]) ⟨_,rfl,Hy.of hx1,rfl,_,h1⟩
 |true =>
 have hns:n.size≤maxLen:=by simp only[named,decide_eq_true_eq] at hnm;omega
 have hE2:φ.opErr n m al rep=if (φ.findA al).isSome then .ball (opT (ofT aliS [atomT al]))
   else if rep=true∧m≠1 then .ball (opT (ofT repoS [atomT truS]))
   else if m=1∧φ.file n=none then .ball (noSrcT n)
   else if ∃o∈φ.opens,busyS n m o.2 then .ball (opT (atomT n))
   else if 16≤φ.opens.length then .ball (resT strmsS)
   else if φ.file n=none∧16≤φ.files.length then .ball (resT filesS)
   else .none:=by unfold FSt.opErr;rw[if_neg c12,if_neg (by simp [hnm])]
 have hrd:((m:Int) == 1)=decide (m=1):=by by_cases q:m=1<;>simp [q]
 repeat' (first|refine EvC.seq ?_|(refine EvC.skip ?_;try simp only[sA])|(refine EvC.reg ?_;simp (config := { maxSteps := 2000000 }) (disch:=first|omega|rfl) only[sB,Za,reduceCtorEq,z7h,ld9,cl25,hrd,l1])|(refine z08 ?_;simp (config := { maxSteps := 2000000 }) (disch:=first|omega|rfl) only[sB,Za,reduceCtorEq,Zn])|(refine EvC.condF ?_ ?_;simp (config := { maxSteps := 2000000 }) (disch:=first|omega|rfl) only[sB,Za,reduceCtorEq];refine z02 ?_))
 refine(zg7 h1 w1 hu).mono ?_;rintro v H2 ⟨hx2,rfl⟩;have w2:=hx2.wf;have h2:=h1.keep hx2 w1;have g2:=hx2.get w1 g1;have l2:=row4 g2;have hx02:=hx1.trans hx2;rcases Bool.eq_false_or_eq_true (φ.findA al).isSome with hfa|hfa
 ·rw[hE _ (by rw[hE2,if_pos hfa]) (by simp)]
  repeat' (first|refine EvC.seq ?_|(refine EvC.reg ?_;simp (config := { maxSteps := 2000000 }) (disch:=first|omega|rfl) only[sB,Za,Zb,Value.cells,reduceCtorEq,layC,z7h,ld9,cl49,z2y,l2])|(refine z08 ?_;simp (config := { maxSteps := 2000000 }) (disch:=first|omega|rfl) only[sB,Za,reduceCtorEq,hfa])|(refine EvC.condT ?_ ?_;simp (config := { maxSteps := 2000000 }) (disch:=first|omega|rfl) only[sB,Za,reduceCtorEq];refine z02 ?_))
  refine(z2f w2 (s:=al) hal).mono ?_;rintro v H4 ⟨rfl,hx4,-⟩;obtain⟨H5,e5,hx5,g5,n5,w5⟩:=new1 hx4.wf (.row (six (atomT al) none 0) 88)
  repeat' (first|(refine z08 ?_;simp (config := { maxSteps := 2000000 }) (disch:=first|omega|rfl) only[sB,Za,Zb,one,reduceCtorEq,cl48,cl47,e5]))
  refine(z6h (s:=aliS) w5).mono ?_;rintro v H6 ⟨rfl,hx6,-⟩;have rt:=z4n (H:=H6) (s:=aliS) (t:=atomT al) (by simp [aliS,maxLen,Zf]) (z1n hal) (hx6.get w5 g5)
  skip
  refine(z0q hx6.wf (s:=opS) (u:=srcS) (by simp [opS,maxLen,Zf]) (by simp [srcS,maxLen,Zf]) rt).mono ?_;rintro v H7 ⟨hx7,ht⟩
  repeat' (first|(refine EvC.ret ?_;try simp only[z05,z03]))
  have hxe:=((hx4.trans hx5).trans hx6).trans hx7;exact z09 rfl (by simp only[sG,Za,reduceCtorEq]) (by simp only[sG,Za,reduceCtorEq]) ⟨_,rfl,Hy.of (hx02.trans hxe),ht,_,h2.keep hxe w2⟩
 rw[if_neg (by rw[hfa];simp)] at hE2
 repeat' (first|refine EvC.seq ?_|(refine EvC.reg ?_;simp (config := { maxSteps := 2000000 }) (disch:=first|omega|rfl) only[sB,Za,reduceCtorEq])|(refine z08 ?_;simp (config := { maxSteps := 2000000 }) (disch:=first|omega|rfl) only[sB,Za,reduceCtorEq]))
 refine EvC.condF (by simp (config := { maxSteps := 2000000 }) (disch:=first|omega|rfl) only[sB,Za,reduceCtorEq,hfa]) ?_;(try refine EvC.skip ?_);(try simp only[z00,z0h]);(repeat refine EvC.seq ?_);refine EvC.join (fun st=>∃tm,st=⟨tm,[],H2⟩∧OpG p H.next n m tm∧NoF tm∧tm.get 56=some (.bool (decide (rep=true∧m≠1)))) ?_ ?_
 ·have n0:NoF Tr.nil:=fun k hk=>rfl
  cases rep
  ·repeat' (first|(refine EvC.reg ?_;simp (config := { maxSteps := 2000000 }) (disch:=first|omega|rfl) only[sB,Za,reduceCtorEq,z5j,ld4,l2]))
   exact⟨_,rfl,⟨(by simp only[sG,reduceCtorEq]),(by simp only[sG,Za,reduceCtorEq]),(by simp only[sG,Za,reduceCtorEq]),(by simp only[sG,Za,reduceCtorEq]),(by simp only[sG,Za,reduceCtorEq])⟩,(fun k hk=>by (repeat rw[Tr.get_put,if_neg (by omega)]);exact n0 k hk),(by rw[show decide (False∧m≠1)=false by simp];exact(by simp only[sG,Za,reduceCtorEq]))⟩
  ·by_cases a3:m=1
   ·repeat' (first|(refine EvC.reg ?_;simp (config := { maxSteps := 2000000 }) (disch:=first|omega|rfl) only[sB,Za,reduceCtorEq,z5j,ld4,l2,decide_eq_true a3,Zn]))
    exact⟨_,rfl,⟨(by simp only[sG,reduceCtorEq]),(by simp only[sG,Za,reduceCtorEq]),(by simp only[sG,Za,reduceCtorEq]),(by simp only[sG,Za,reduceCtorEq]),(by rw[decide_eq_true a3];exact(by simp only[sG,Za,reduceCtorEq]))⟩,(fun k hk=>by (repeat rw[Tr.get_put,if_neg (by omega)]);exact n0 k hk),(by rw[show decide (m≠1)=false by simp [a3]];exact(by simp only[sG,Za,reduceCtorEq]))⟩
   ·repeat' (first|(refine EvC.reg ?_;simp (config := { maxSteps := 2000000 }) (disch:=first|omega|rfl) only[sB,Za,reduceCtorEq,z5j,ld4,l2,decide_eq_false a3,Zm]))
    exact⟨_,rfl,⟨(by simp only[sG,reduceCtorEq]),(by simp only[sG,Za,reduceCtorEq]),(by simp only[sG,Za,reduceCtorEq]),(by simp only[sG,Za,reduceCtorEq]),(by rw[decide_eq_false a3];exact(by simp only[sG,Za,reduceCtorEq]))⟩,(fun k hk=>by (repeat rw[Tr.get_put,if_neg (by omega)]);exact n0 k hk),(by rw[show decide (m≠1)=true by simp [a3]];exact(by simp only[sG,Za,reduceCtorEq]))⟩
 rintro st ⟨tm,rfl,⟨t0,t1,t2,t7,t10⟩,n0,t56⟩;by_cases a2:rep=true∧m≠1
 ·rw[decide_eq_true a2] at t56;rw[hE _ (by rw[hE2,if_pos a2]) (by simp)];refine EvC.condT (by simp (config := { maxSteps := 2000000 }) (disch:=first|omega|rfl) only[sA,t56]) ?_;(try refine EvC.skip ?_);(try simp only[z00,z0h])
  repeat' (first|refine EvC.seq ?_|(refine EvC.reg ?_;simp (config := { maxSteps := 2000000 }) (disch:=first|omega|rfl) only[sB,Zb,Value.cells,layC,cl49,z2y]))
  refine(z2f w2 (s:=truS) (by simp [truS,maxLen,Zf])).mono ?_;rintro v H4 ⟨rfl,hx4,-⟩;obtain⟨H5,e5,hx5,g5,n5,w5⟩:=new1 hx4.wf (.row (six (atomT truS) none 0) 88)
  repeat' (first|(refine z08 ?_;simp (config := { maxSteps := 2000000 }) (disch:=first|omega|rfl) only[sB,Za,Zb,one,cl48,cl47,e5]))
  refine(z6h (s:=repoS) w5).mono ?_;rintro v H6 ⟨rfl,hx6,-⟩;have rt:=z4n (H:=H6) (s:=repoS) (t:=atomT truS) (by simp [repoS,maxLen,Zf]) (z1n (by simp [truS,maxLen,Zf])) (hx6.get w5 g5)
  skip
  refine(z0q hx6.wf (s:=opS) (u:=srcS) (by simp [opS,maxLen,Zf]) (by simp [srcS,maxLen,Zf]) rt).mono ?_;rintro v H7 ⟨hx7,ht⟩
  repeat' (first|(refine EvC.ret ?_;try simp only[z05,z03]))
  have hxe:=((hx4.trans hx5).trans hx6).trans hx7;exact z09 rfl (by simp only[sG,Za]) (by simp only[sG,Za]) ⟨_,rfl,Hy.of (hx02.trans hxe),ht,_,h2.keep hxe w2⟩
 rw[decide_eq_false a2] at t56;rw[if_neg a2] at hE2;have q2:=row8 h2.obj;have hlk:=fun ok=>h2.look n ok
 refine EvC.condF (by simp (config := { maxSteps := 2000000 }) (disch:=first|omega|rfl) only[sA,t56]) ?_;(try refine EvC.skip ?_);(try simp only[z00,z0h]);(repeat refine EvC.seq ?_);refine EvC.join (fun st=>∃tm,st=⟨tm,[],H2⟩∧OpG p H.next n m tm∧NoF tm∧tm.get 13=some (.string (φ.fileD n))∧tm.get 14=some (.bool (φ.file n).isSome)) ?_ ?_
 ·repeat' (first|(refine EvC.reg ?_;simp (config := { maxSteps := 2000000 }) (disch:=first|omega|rfl) only[sB,Za,z3z,ld74,t0,t1,q2,z01,z04,z1p,hlk]))
  exact⟨_,rfl,⟨(by simp only[sG,reduceCtorEq,t0]),(by simp only[sG,Za,t1]),(by simp only[sG,Za,t2]),(by simp only[sG,Za,t7]),(by simp only[sG,Za,t10])⟩,(fun k hk=>by (repeat rw[Tr.get_put,if_neg (by omega)]);exact n0 k hk),(by simp only[sG,Za]),(by simp only[sG,Za])⟩
 clear t0 t1 t2 t7 t10 t56 n0 tm;rintro st ⟨tm,rfl,⟨t0,t1,t2,t7,t10⟩,n0,t13,t14⟩;have hso:(φ.file n).isSome=!decide (φ.file n=none):=by cases φ.file n<;>rfl
 (repeat refine EvC.seq ?_);refine EvC.join (fun st=>∃tm,st=⟨tm,[],H2⟩∧OpG p H.next n m tm∧NoF tm∧tm.get 13=some (.string (φ.fileD n))∧tm.get 14=some (.bool (φ.file n).isSome)∧tm.get 74=some (.bool (decide (m=1∧φ.file n=none)))) ?_ ?_
 ·by_cases a3:m=1
  ·repeat' (first|(refine EvC.reg ?_;simp (config := { maxSteps := 2000000 }) (disch:=first|omega|rfl) only[sB,Za,t10,t14,decide_eq_true a3,hso,Bool.not_not]))
   exact⟨_,rfl,⟨(by simp only[sG,reduceCtorEq,t0]),(by simp only[sG,Za,t1]),(by simp only[sG,Za,t2]),(by simp only[sG,Za,t7]),(by first|exact(by simp only[sG,Za,t10])|(rw[decide_eq_true a3] at t10 ⊢;exact(by simp only[]<;>rfl)))⟩,(fun k hk=>by (repeat rw[Tr.get_put,if_neg (by omega)]);exact n0 k hk),(by simp only[sG,Za,t13]),(by rw[←hso] at *;exact(by simp only[sG,Za,t14])),(by rw[show decide (m=1∧φ.file n=none)=decide (φ.file n=none) by simp [a3]];exact(by simp only[sG,Za]))⟩
  ·repeat' (first|(refine EvC.reg ?_;simp (config := { maxSteps := 2000000 }) (disch:=first|omega|rfl) only[sB,Za,t10,decide_eq_false a3,Zc]))
   exact⟨_,rfl,⟨(by simp only[sG,reduceCtorEq,t0]),(by simp only[sG,Za,t1]),(by simp only[sG,Za,t2]),(by simp only[sG,Za,t7]),(by first|exact(by simp only[sG,Za,t10])|(rw[decide_eq_false a3] at t10 ⊢;exact(by simp only[]<;>rfl)))⟩,(fun k hk=>by (repeat rw[Tr.get_put,if_neg (by omega)]);exact n0 k hk),(by simp only[sG,Za,t13]),(by simp only[sG,Za,t14]),(by rw[show decide (m=1∧φ.file n=none)=false by simp [a3]];exact(by simp only[sG,Za]))⟩
 clear t0 t1 t2 t7 t10 t13 t14 n0 tm;rintro st ⟨tm,rfl,⟨t0,t1,t2,t7,t10⟩,n0,t13,t14,t74⟩;by_cases a4:m=1∧φ.file n=none
 ·rw[decide_eq_true a4] at t74;rw[hE _ (by rw[hE2,if_pos a4]) (by simp)];refine EvC.condT (by simp (config := { maxSteps := 2000000 }) (disch:=first|omega|rfl) only[sA,t74]) ?_;(try refine EvC.skip ?_);(try simp only[z00,z0h])
  repeat' (first|refine EvC.seq ?_|(refine EvC.reg ?_;simp (config := { maxSteps := 2000000 }) (disch:=first|omega|rfl) only[sB,Za,Zb,Value.cells,layC,cl49,z7i,t1]))
  refine(z2f w2 (s:=srcS) (by simp [srcS,maxLen,Zf])).mono ?_;rintro v H3 ⟨rfl,hx3,-⟩
  skip
  refine(z2f hx3.wf (s:=n) hns).mono ?_;rintro v H4 ⟨rfl,hx4,-⟩;obtain⟨H5,e5,hx5,g5,n5,w5⟩:=new1 hx4.wf (.row (six (atomT srcS) none 0++six (atomT n) none 0) 88);simp only[List.cons_append,List.nil_append] at e5
  repeat' (first|(refine z08 ?_;simp (config := { maxSteps := 2000000 }) (disch:=first|omega|rfl) only[sB,Za,Zb,one,Zh,cl48,cl50,e5]))
  refine(z6h (s:=existS) w5).mono ?_;rintro v H6 ⟨rfl,hx6,-⟩;have rt:=zbf (H:=H6) (s:=existS) (t:=atomT srcS) (u:=atomT n) (by simp [existS,maxLen,Zf]) (z1n (by simp [srcS,maxLen,Zf])) (z1n hns) (hx6.get w5 g5)
  skip
  refine(z2v hx6.wf rt).mono ?_;rintro v H7 ⟨hx7,ht⟩
  repeat' (first|(refine EvC.ret ?_;try simp only[z05,z03]))
  have hxe:=(((hx3.trans hx4).trans hx5).trans hx6).trans hx7;exact z09 rfl (by simp only[sG,Za]) (by simp only[sG,Za]) ⟨_,rfl,Hy.of (hx02.trans hxe),ht,_,h2.keep hxe w2⟩
 rw[decide_eq_false a4] at t74;rw[if_neg a4] at hE2;refine EvC.condF (by simp (config := { maxSteps := 2000000 }) (disch:=first|omega|rfl) only[sA,t74]) ?_;(try refine EvC.skip ?_);(try simp only[z00,z0h]);obtain⟨es,clk,hgm,hes⟩:=id h2.om;obtain⟨es2,clk2,hgm2,hb1,hb2⟩:=id h2.bo;rw[hgm] at hgm2;cases hgm2;have hrg:=zjo (P:=Tryz.prog) Tryz.underlying75 hgm;obtain⟨H3a,e3a,hx3a,g3a,n3a,w3a⟩:=new1 w2 (.mit ob clk);have lob:ob < H2.next:=w2 _ _ hgm;have hev:∀e∈es,∃o∈φ.opens,e.key=.int .i64 o.1∧e.val=ptrV (blk o.1):=fun e he=>by
  have hm:(e.key,e.val)∈es.map fun e=>(e.key,e.val):=List.mem_map.2 ⟨e,he,rfl⟩
  rw[hes,ZJ] at hm;obtain⟨o,ho,hp⟩:=List.mem_map.1 hm;simp only[Function.comp,Prod.mk.injEq] at hp;exact⟨o,ho,hp.1.symm,hp.2.symm⟩
 have hev2:∀o∈φ.opens,∃e∈es,e.val=ptrV (blk o.1):=fun o ho=>by
  have hm:((.int .i64 o.1:Value),ptrV (blk o.1))∈es.map fun e=>(e.key,e.val):=by
   rw[hes,ZJ];exact List.mem_map.2 ⟨o,ho,rfl⟩
  obtain⟨e,he,hp⟩:=List.mem_map.1 hm;exact⟨e,he,(Prod.mk.inj hp).2⟩
 obtain⟨H3,e3⟩:∃H3,H3a.put H2.next none=H3:=⟨_,rfl⟩
 have hx3:HX H2 H3:=by rw[←e3];exact hx3a.put (Ze _) (by omega) _
 have w3:=hx3.wf;have h3:=h2.keep hx3 w2;have q3:=row8 h3.obj;have n3:H3.next=H2.next+1:=by rw[←e3,z1b];exact n3a
 have l3:=row4 (hx3.get w2 g2);have hx03:=hx02.trans hx3;obtain⟨v4,H4,⟨rfl,hx4,-⟩,d4⟩:=EvF.det (z2f (H:=H3) (s:=n) w3 hns);obtain⟨v5,H5,⟨hx5,ht5⟩,d5⟩:=EvF.det (z0q (H:=H4) hx4.wf (s:=opS) (u:=srcS) (by simp [opS,maxLen,Zf]) (by simp [srcS,maxLen,Zf]) (z1n (H:=H4) hns))
 repeat' (first|refine EvC.seq ?_|refine EvC.block ?_|(refine EvC.reg ?_;simp (config := { maxSteps := 2000000 }) (disch:=first|omega|rfl) only[sB,Za,z3t,ld75,t0,q2,z01,z04,z96,hrg,e3a]))
 refine EvC.frame (fun tm=>OpG p H.next n m tm∧NoF tm∧tm.get 13=some (.string (φ.fileD n))∧tm.get 14=some (.bool (φ.file n).isSome)∧tm.get 85=some (ptrV H2.next)) ⟨⟨(by simp only[sG,reduceCtorEq,t0]),(by simp only[sG,Za,t1]),(by simp only[sG,Za,t2]),(by simp only[sG,Za,t7]),(by simp only[sG,Za,t10])⟩,(fun k hk=>by (repeat rw[Tr.get_put,if_neg (by omega)]);exact n0 k hk),(by simp only[sG,Za,t13]),(by simp only[sG,Za,t14]),(by simp only[sG,Za])⟩ ?_;clear t0 t1 t2 t7 t10 t13 t14 t74 n0 tm;rintro tm ⟨⟨t0,t1,t2,t7,t10⟩,n0,t13,t14,t85⟩;refine EvC.mapLoop rfl (r:=H2.next) (m:=ob) (since:=clk) (clk:=clk) (es:=es) t85 g3a (hx3a.get w2 hgm) (Ze _) hb1 (z90 hb2) (by omega) (show tm.get 86=none from n0 86 (by omega)) (show tm.get 87=none from n0 87 (by omega)) (fun e=>∃o∈φ.opens,e.val=ptrV (blk o.1)∧busyS n m o.2)
  (.ret,⟨(Tr.nil.put 8 (some (.int .i64 0))).put 9 (some v5),[],H5⟩) (fun e he=>?_) (fun hno=>?_) (fun hyes=>?_)
 ·obtain⟨o,ho,k1,k2⟩:=hev e he;have qs:=z2r (h3.st o ho);rw[k1,k2,e3];refine EvO.reg1 ?_;(try simp (config := { maxSteps := 2000000 }) (disch:=first|omega|rfl) only[sB,Za]);refine EvQ.one ?_;by_cases hb:busyS n m o.2
  ·obtain⟨b1,b2,b3⟩:=id hb;have db:(o.2.file == n)=true:=z1z.2 b2;rw[b1] at qs;by_cases d3:o.2.mode=1
   ·have d4':m≠1:=b3.elim (fun q=>absurd d3 q) _root_.id
    repeat' (first|refine EvC.seq ?_|(refine EvC.reg ?_;simp (config := { maxSteps := 2000000 }) (disch:=first|omega|rfl) only[sB,Za,reduceCtorEq,ld9,cl49,cl47,ld4,z2u,z0l,z3u,z0o,ld3,t1,t10,qs,z01,z04,z16,z2g,db,z17 d3,decide_eq_false d4',Zm])|(refine EvC.condT ?_ ?_;simp (config := { maxSteps := 2000000 }) (disch:=first|omega|rfl) only[sB,Za];refine z02 ?_))
    refine d4.mono ?_;rintro v G ⟨rfl,rfl⟩
    skip
    refine d5.mono ?_;rintro v G' ⟨rfl,rfl⟩
    repeat' (first|(refine EvC.ret ?_))
    refine⟨⟨o,ho,rfl,hb⟩,?_⟩;have hf:Tryz.prog.funcs[12]?=some Tryz.f12:=Tryz.func12;have hres:Tryz.f12.results.toList=[.tmp 8,.tmp 9]:=rfl;simp only[onlyRes,hf,hres,List.foldl_cons,List.foldl_nil,resTmp,sG,Za]
   ·repeat' (first|refine EvC.seq ?_|(refine EvC.reg ?_;simp (config := { maxSteps := 2000000 }) (disch:=first|omega|rfl) only[sB,Za,ld9,cl49,cl47,ld4,z2u,z0l,z3u,z0o,ld3,t1,qs,z01,z04,z16,z2g,db,z3i d3,Zm])|(refine EvC.condT ?_ ?_;simp (config := { maxSteps := 2000000 }) (disch:=first|omega|rfl) only[sB,Za];refine z02 ?_))
    refine d4.mono ?_;rintro v G ⟨rfl,rfl⟩
    skip
    refine d5.mono ?_;rintro v G' ⟨rfl,rfl⟩
    repeat' (first|(refine EvC.ret ?_))
    refine⟨⟨o,ho,rfl,hb⟩,?_⟩;have hf:Tryz.prog.funcs[12]?=some Tryz.f12:=Tryz.func12;have hres:Tryz.f12.results.toList=[.tmp 8,.tmp 9]:=rfl;simp only[onlyRes,hf,hres,List.foldl_cons,List.foldl_nil,resTmp,sG,Za]
  ·cases hc:o.2.con with
   |true =>
    rw[hc] at qs
    repeat' (first|refine EvC.seq ?_|(refine EvC.skip ?_)|(refine EvC.reg ?_;simp (config := { maxSteps := 2000000 }) (disch:=first|omega|rfl) only[sB,Za,ld4,z2u,qs,z01,z04,Zn,Zc])|(refine EvC.condF ?_ ?_;simp (config := { maxSteps := 2000000 }) (disch:=first|omega|rfl) only[sB,Za];refine z02 ?_))
    refine⟨fun ⟨o',ho',k3,hb'⟩=>hb ?_,fun i hi=>rfl,?_,rfl⟩
    ·have hbk:blk o.1=blk o'.1:=by simpa using k3
     rw[zd5 h.nd ho ho' (h.inj o ho o' ho' hbk)];exact hb'
    ·show TmLe _ _;dsimp only
     repeat (refine TmLe.put ?_ ?_;(exact n0 _ (by omega)))
     with_reducible exact TmLe.refl _
   |false =>
    rw[hc] at qs;by_cases d2:o.2.file=n
    ·have db:(o.2.file == n)=true:=z1z.2 d2;have d3:o.2.mode=1:=Classical.byContradiction fun q=>hb ⟨hc,d2,.inl q⟩
     have d4':m=1:=Classical.byContradiction fun q=>hb ⟨hc,d2,.inr q⟩
     repeat' (first|refine EvC.seq ?_|(refine EvC.skip ?_)|(refine EvC.reg ?_;simp (config := { maxSteps := 2000000 }) (disch:=first|omega|rfl) only[sB,Za,ld9,ld4,z2u,z0l,z3u,z0o,ld3,t1,t10,qs,z01,z04,z16,z2g,db,z17 d3,decide_eq_true d4',Zn,Zm,Zc])|(refine EvC.condF ?_ ?_;simp (config := { maxSteps := 2000000 }) (disch:=first|omega|rfl) only[sB,Za];refine z02 ?_))
     refine⟨fun ⟨o',ho',k3,hb'⟩=>hb ?_,fun i hi=>rfl,?_,rfl⟩
     ·have hbk:blk o.1=blk o'.1:=by simpa using k3
      rw[zd5 h.nd ho ho' (h.inj o ho o' ho' hbk)];exact hb'
     ·show TmLe _ _;dsimp only
      repeat (refine TmLe.put ?_ ?_;(exact n0 _ (by omega)))
      with_reducible exact TmLe.refl _
    ·have db:(o.2.file == n)=false:=z9i d2
     repeat' (first|refine EvC.seq ?_|(refine EvC.skip ?_)|(refine EvC.reg ?_;simp (config := { maxSteps := 2000000 }) (disch:=first|omega|rfl) only[sB,Za,ld9,ld4,z2u,z0l,z3u,t1,qs,z01,z04,z16,z2g,db,Zm,Zc])|(refine EvC.condF ?_ ?_;simp (config := { maxSteps := 2000000 }) (disch:=first|omega|rfl) only[sB,Za];refine z02 ?_))
     refine⟨fun ⟨o',ho',k3,hb'⟩=>hb ?_,fun i hi=>rfl,?_,rfl⟩
     ·have hbk:blk o.1=blk o'.1:=by simpa using k3
      rw[zd5 h.nd ho ho' (h.inj o ho o' ho' hbk)];exact hb'
     ·show TmLe _ _;dsimp only
      repeat (refine TmLe.put ?_ ?_;(exact n0 _ (by omega)))
      with_reducible exact TmLe.refl _
 ·rw[e3];have hnb:¬ ∃o∈φ.opens,busyS n m o.2:=fun ⟨o,ho,hb⟩=>by
   obtain⟨e,he,k⟩:=hev2 o ho;exact hno e he ⟨o,ho,k,hb⟩
  rw[if_neg hnb] at hE2;have hln:=fun ty=>zob (P:=Tryz.prog) (ty:=ty) Tryz.underlying75 (h3.om)
  have hll:((φ.opens.map fun o=>(o.1,ptrV (blk o.1))).length:Int)=φ.opens.length:=by rw[Zv]
  by_cases a5:16≤φ.opens.length
  ·rw[hE _ (by rw[hE2,if_pos a5]) (by simp)];have d5:decide ((16:Int)≤(φ.opens.length:Int))=true:=decide_eq_true (by omega)
   repeat' (first|refine EvC.seq ?_|(refine EvC.reg ?_;simp (config := { maxSteps := 2000000 }) (disch:=first|omega|rfl) only[sB,Za,Zb,Value.cells,layC,cl49,z2y,z3t,ld75,t0,q3,z01,z04,hln,hll,ge_iff_le,d5])|(refine EvC.condT ?_ ?_;simp (config := { maxSteps := 2000000 }) (disch:=first|omega|rfl) only[sB,Za];refine z02 ?_))
   refine(z2f w3 (s:=strmsS) (by simp [strmsS,maxLen,Zf])).mono ?_;rintro v H4 ⟨rfl,hx4,-⟩;obtain⟨H5,e5,hx5,g5,n5,w5⟩:=new1 hx4.wf (.row (six (atomT strmsS) none 0) 88)
   repeat' (first|(refine z08 ?_;simp (config := { maxSteps := 2000000 }) (disch:=first|omega|rfl) only[sB,Za,Zb,one,cl48,cl50,e5]))
   refine(z6h (s:=resS) w5).mono ?_;rintro v H6 ⟨rfl,hx6,-⟩;have rt:=z4n (H:=H6) (s:=resS) (t:=atomT strmsS) (by simp [resS,maxLen,Zf]) (z1n (by simp [strmsS,maxLen,Zf])) (hx6.get w5 g5)
   skip
   refine(z2v hx6.wf rt).mono ?_;rintro v H7 ⟨hx7,ht⟩
   repeat' (first|(refine EvC.ret ?_;try simp only[z05,z03]))
   have hxe:=((hx4.trans hx5).trans hx6).trans hx7;exact z09 rfl (by simp only[sG,Za]) (by simp only[sG,Za]) ⟨_,rfl,Hy.of (hx03.trans hxe),ht,_,h3.keep hxe w3⟩
  rw[if_neg a5] at hE2;have d5:decide ((16:Int)≤(φ.opens.length:Int))=false:=decide_eq_false (by omega);(repeat refine EvC.seq ?_);refine EvC.join (fun st=>∃tm,st=⟨tm,[],H3⟩∧OpG p H.next n m tm∧tm.get 13=some (.string (φ.fileD n))∧tm.get 14=some (.bool (φ.file n).isSome)∧tm.get 124=some (.bool false)) ?_ ?_
  ·repeat' (first|(refine EvC.reg ?_;simp (config := { maxSteps := 2000000 }) (disch:=first|omega|rfl) only[sB,Za,z3t,ld75,t0,q3,z01,z04,hln,hll,ge_iff_le,d5]))
   exact⟨_,rfl,⟨(by simp only[sG,reduceCtorEq,t0]),(by simp only[sG,Za,t1]),(by simp only[sG,Za,t2]),(by simp only[sG,Za,t7]),(by simp only[sG,Za,t10])⟩,(by simp only[sG,Za,t13]),(by simp only[sG,Za,t14]),(by simp only[sG,Za])⟩
  clear t0 t1 t2 t7 t10 t13 t14 t85 n0 tm;rintro st ⟨tm,rfl,⟨t0,t1,t2,t7,t10⟩,t13,t14,t124⟩;refine EvC.condF (by simp (config := { maxSteps := 2000000 }) (disch:=first|omega|rfl) only[sA,t124]) ?_;(try refine EvC.skip ?_);(try simp only[z00,z0h]);have hlf:=fun ty=>zlq (P:=Tryz.prog) (ty:=ty) Tryz.underlying74 (h3.fm)
  have hlfl:((φ.files.map fun x=>(x.1,(Value.string x.2))).length:Int)=φ.files.length:=by rw[Zv]
  (repeat refine EvC.seq ?_);refine EvC.join (fun st=>∃tm,st=⟨tm,[],H3⟩∧OpG p H.next n m tm∧tm.get 13=some (.string (φ.fileD n))∧tm.get 138=some (.bool (decide (φ.file n=none∧16≤φ.files.length)))) ?_ ?_
  ·have d6:decide ((16:Int)≤(φ.files.length:Int))=decide (16≤φ.files.length):=by
    by_cases z:16≤φ.files.length
    ·rw[decide_eq_true z,decide_eq_true (by omega)]
    ·rw[decide_eq_false z,decide_eq_false (by omega)]
   by_cases a6:φ.file n=none
   ·rw[hso,decide_eq_true a6] at t14
    repeat' (first|(refine EvC.reg ?_;simp (config := { maxSteps := 2000000 }) (disch:=first|omega|rfl) only[sB,Za,reduceCtorEq,z3z,ld74,t0,t14,q3,z01,z04,hlf,hlfl,ge_iff_le,d6,Zn,Zm]))
    exact⟨_,rfl,⟨(by simp only[sG,reduceCtorEq,t0]),(by simp only[sG,Za,t1]),(by simp only[sG,Za,t2]),(by simp only[sG,Za,t7]),(by simp only[sG,Za,t10])⟩,(by simp only[sG,Za,t13]),(by rw[show decide (φ.file n=none∧16≤φ.files.length)=decide (16≤φ.files.length) by simp [a6]];exact(by simp only[sG,Za]))⟩
   ·rw[hso,decide_eq_false a6] at t14
    repeat' (first|(refine EvC.reg ?_;simp (config := { maxSteps := 2000000 }) (disch:=first|omega|rfl) only[sB,Za,t14,Zm,Zn,Zc]))
    exact⟨_,rfl,⟨(by simp only[sG,reduceCtorEq,t0]),(by simp only[sG,Za,t1]),(by simp only[sG,Za,t2]),(by simp only[sG,Za,t7]),(by simp only[sG,Za,t10])⟩,(by simp only[sG,Za,t13]),(by rw[show decide (φ.file n=none∧16≤φ.files.length)=false by simp [a6]];exact(by simp only[sG,Za]))⟩
  clear t0 t1 t2 t7 t10 t13 t14 t124 tm;rintro st ⟨tm,rfl,⟨t0,t1,t2,t7,t10⟩,t13,t138⟩;by_cases a7:φ.file n=none∧16≤φ.files.length
  ·rw[decide_eq_true a7] at t138;rw[hE _ (by rw[hE2,if_pos a7]) (by simp)];refine EvC.condT (by simp (config := { maxSteps := 2000000 }) (disch:=first|omega|rfl) only[sA,t138]) ?_;(try refine EvC.skip ?_);(try simp only[z00,z0h])
   repeat' (first|refine EvC.seq ?_|(refine EvC.reg ?_;simp (config := { maxSteps := 2000000 }) (disch:=first|omega|rfl) only[sB,Zb,Value.cells,layC,cl49,z2y]))
   refine(z2f w3 (s:=filesS) (by simp [filesS,maxLen,Zf])).mono ?_;rintro v H4 ⟨rfl,hx4,-⟩;obtain⟨H5,e5,hx5,g5,n5,w5⟩:=new1 hx4.wf (.row (six (atomT filesS) none 0) 88)
   repeat' (first|(refine z08 ?_;simp (config := { maxSteps := 2000000 }) (disch:=first|omega|rfl) only[sB,Za,Zb,one,cl48,cl50,e5]))
   refine(z6h (s:=resS) w5).mono ?_;rintro v H6 ⟨rfl,hx6,-⟩;have rt:=z4n (H:=H6) (s:=resS) (t:=atomT filesS) (by simp [resS,maxLen,Zf]) (z1n (by simp [filesS,maxLen,Zf])) (hx6.get w5 g5)
   skip
   refine(z2v hx6.wf rt).mono ?_;rintro v H7 ⟨hx7,ht⟩
   repeat' (first|(refine EvC.ret ?_;try simp only[z05,z03]))
   have hxe:=((hx4.trans hx5).trans hx6).trans hx7;exact z09 rfl (by simp only[sG,Za]) (by simp only[sG,Za]) ⟨_,rfl,Hy.of (hx03.trans hxe),ht,_,h3.keep hxe w3⟩
  rw[decide_eq_false a7] at t138;rw[if_neg a7] at hE2;refine EvC.condF (by simp (config := { maxSteps := 2000000 }) (disch:=first|omega|rfl) only[sA,t138]) ?_;(try refine EvC.skip ?_);(try simp only[z00,z0h]);have hA:φ.openA n m bin al eof rep=(φ.next,.none,φ.openF n m bin al eof rep):=by unfold FSt.openA;rw[hE2]
  rw[hA];have hpo:p≠ob:=fun e=>by obtain⟨_,_,hm,-⟩:=h3.om;rw[←e,h3.obj] at hm;cases hm
  have hpf:p≠fb:=fun e=>by obtain⟨_,_,hm,-⟩:=h3.fm;rw[←e,h3.obj] at hm;cases hm
  have lp1:=w3 _ _ h3.obj;have lf3:fb < H3.next:=MapS.lt h3.fm w3;have lo3:ob < H3.next:=h3.om.lt w3;have hwr:IntKind.i64.wrap (φ.next+1)=φ.next+1:=z0e (by omega) (by omega);obtain⟨A4,e4,hx4,g4,w4⟩:=zo3 w3 18 16 (by omega) (.row [.int .i64 φ.next,.string n,.int .i64 m,.bool bin,.string al,.int .i64 eof,.bool rep,.int .i64 0,.int .i64 0,.int .i64 0,.bool false] 82);have h4:=h3.keep hx4 w3;have q4:=row8 h4.obj;have l4:=row4 (hx4.get w3 (hx3.get w2 g2));have hnone:mGet (φ.opens.map fun o=>(o.1,ptrV (blk o.1))) φ.next=none:=by
   rw[zbe];have:φ.opens.find? (fun o=>o.1 == φ.next)=none:=List.find?_eq_none.2 fun o ho=>by have:=hk o ho;simp;omega
   rw[this];rfl
  have hy4:Hy B H A4:=Hy.of (hx03.trans hx4);have lA:A4.next=H3.next+18:=by rw[←e4];rfl
  rcases hm3 with rfl|rfl|rfl
  ·have z4:((1:Int) == 2)=false:=rfl;have z5:((1:Int) == 3)=false:=rfl;have wc:=w4;have hc:FsB A4 B p fb ob blk φ:=h4;have hyc:=hy4;have gc:=g4;have hψ:φ.openF n 1 bin al eof rep={ φ with opens:=φ.opens++[(φ.next,⟨φ.next,n,1,bin,al,eof,rep,0,0,0,false⟩)],next:=φ.next+1 }:=rfl;obtain⟨H5,e5,hx5,w5⟩:=z5e wc 11;have h5:=hc.keep hx5 wc;obtain⟨B6,hU,mo6,bo6⟩:=z6j (P:=Tryz.prog) mpSt h5.om h5.bo (v:=ptrV (H3.next+16)) (n:=φ.next) hnone;obtain⟨H6,e6⟩:∃H6,H5.put ob (some B6)=H6:=⟨_,rfl⟩
   rw[e6] at hU mo6 bo6;have k6:∀i,i≠ob→H6.get i=H5.get i:=fun i hi=>by rw[←e6,get_put,if_neg hi]
   have q5:=row8 (show H5.get p=some (.row [.map (some fb),.map (some ob),.int .i64 φ.next,.string φ.input,.string φ.out,.int .i64 φ.inp,.int .i64 φ.put,.int .i64 φ.written] 77) from h5.obj);have r5:=z2r (hx5.get wc gc);have g6:H6.get p=some (.row [.map (some fb),.map (some ob),.int .i64 φ.next,.string φ.input,.string φ.out,.int .i64 φ.inp,.int .i64 φ.put,.int .i64 φ.written] 77):=(k6 p hpo).trans h5.obj;have q6:=row8 g6;have b6:=(k6 (H3.next+16) (by omega)).trans (hx5.get wc gc);obtain⟨H7,e7⟩:∃H7,H6.put p (some (.row [.map (some fb),.map (some ob),.int .i64 (φ.next+1),.string φ.input,.string φ.out,.int .i64 φ.inp,.int .i64 φ.put,.int .i64 φ.written] 77))=H7:=⟨_,rfl⟩
   have k7:∀i,i≠p→H7.get i=H6.get i:=fun i hi=>by rw[←e7,get_put,if_neg hi]
   have b7:=(k7 (H3.next+16) (by omega)).trans b6;have r7:=z2r b7;have hyB:Hy B H5 H6:=by rw[←e6];obtain⟨_,_,hm,-⟩:=h5.om;exact Hy.put w5 h.lo hm _
   have hyC:Hy B H6 H7:=by rw[←e7];exact Hy.put hyB.1 h.lp g6 _
   have hyE:Hy B H H7:=((hyc.trans (Hy.of hx5)).trans hyB).trans hyC;have nof:fb≠p:=fun e=>hpf e.symm
   have mf7:=h5.fm.heap ((k7 fb nof).trans (k6 fb h.fo));have bf7:=h5.bf.heap ((k7 fb nof).trans (k6 fb h.fo));have mo7:=mo6.heap (k7 ob (fun e=>hpo e.symm));have bo7:=bo6.heap (k7 ob (fun e=>hpo e.symm));have fin:∃blk',FsB H7 B p fb ob blk' (φ.openF n 1 bin al eof rep):=by
    rw[hψ];refine h3.add (H':=H7) (n:=φ.next) (b:=H3.next+16) w3 hk rfl (by rw[←e7,get_put,if_pos rfl]) mf7 bf7 h5.fd mo7 bo7 (fun o ho=>?_) b7 (Nat.le_add_right _ _) (hB _ (by have:=hx03.next;omega));have hs3:=h3.st o ho;have a1:blk o.1≠p:=fun e=>by rw[e,h3.obj] at hs3;simp at hs3
    have a2:blk o.1≠ob:=fun e=>by obtain⟨_,_,hm,-⟩:=h3.om;rw[e,hm] at hs3;cases hs3
    have hs5:=h5.st o ho;rw[k7 _ a1,k6 _ a2,hs5,hs3]
   repeat' (first|refine EvC.seq ?_|refine EvC.block ?_|(refine EvC.skip ?_;try simp only[z00])|(refine EvC.exit ?_;try simp only[sB,Za])|(refine EvC.ret ?_)|(refine EvC.reg ?_;simp (config := { maxSteps := 2000000 }) (disch:=first|omega|rfl) only[sB,Za,Zb,one,reduceCtorEq,Zh,z0l,ld3,za6,st3,z2p,t0,t2,z01,z04,z4,z5,q6,g6,hwr,e7,r7])|(refine EvC.drw (id:=23) [([(0,0),(1,0),(2,0),(3,0),(4,0),(5,0),(6,0),(7,0),(8,0),(9,0),(10,0),(11,0),(12,0),(13,0),(14,0),(15,0),(16,0),(17,0)],none)] ?_ ?_;kernel_rfl;simp (config := { maxSteps := 2000000 }) (disch:=first|omega|rfl) only[sD,sB,dBox,Za,Zb,Value.cells,one,reduceCtorEq,Zh,layC,z7h,ld9,z5j,ld4,ld3,za6,zfr,zfs,bd61,bd82,t0,t1,t2,t7,q3,z01,z04,l3,e4,isAlloc,isRead,dalloc])|(refine EvC.drw (id:=30) [([(0,0),(1,0),(2,0),(3,0),(4,0),(5,0),(6,0),(7,0),(8,0),(9,0)],some 10),([],none)] ?_ ?_;kernel_rfl;simp (config := { maxSteps := 2000000 }) (disch:=first|omega|rfl) only[sD,sB,Za,Zb,reduceCtorEq,z3t,ld75,z0l,ld3,z2p,t0,z01,z04,e5,q5,r5,z1j,hU,isAlloc,isRead])|(refine EvC.condF ?_ ?_;simp (config := { maxSteps := 2000000 }) (disch:=first|omega|rfl) only[sB,Za];refine z02 ?_))
   exact z09 rfl (by simp only[sG,Za]) (by simp only[sG,Za]) ⟨_,rfl,hyE,rfl,fin⟩
  ·have z4:((2:Int) == 2)=true:=rfl;have z5:((2:Int) == 3)=false:=rfl;obtain⟨Bf,hV,mfb,bfb⟩:=dUs (P:=Tryz.prog) (v:=.string e0) spFl h4.fm (n:=n);obtain⟨Hb,eb⟩:∃Hb,A4.put fb (some Bf)=Hb:=⟨_,rfl⟩
   have hb:FsB Hb B p fb ob blk { φ with files:=fset φ.files n e0 }:=by rw[←eb];exact h4.file mfb bfb
   rw[eb] at hV;obtain⟨_,_,hfm4,-⟩:=id h4.fm;have hyb:Hy B A4 Hb:=by rw[←eb];exact Hy.put w4 h.lf hfm4 _
   have gb:Hb.get (H3.next+16)=some (.row [.int .i64 φ.next,.string n,.int .i64 2,.bool bin,.string al,.int .i64 eof,.bool rep,.int .i64 0,.int .i64 0,.int .i64 0,.bool false] 82):=by rw[←eb,get_put,if_neg (by omega)];exact g4
   obtain⟨Hc,ec⟩:∃Hc,Hb.put (H3.next+16) (some (.row [.int .i64 φ.next,.string n,.int .i64 2,.bool bin,.string al,.int .i64 eof,.bool rep,.int .i64 (e0:ByteArray).size,.int .i64 0,.int .i64 0,.bool false] 82))=Hc:=⟨_,rfl⟩
   have hc:FsB Hc B p fb ob blk { φ with files:=fset φ.files n e0 }:=by rw[←ec];exact FsB.off h3 w3 (Nat.le_add_right _ _) rfl hb
   have hyc:Hy B H Hc:=by rw[←ec];exact(hy4.trans hyb).trans (Hy.put hyb.1 (hB _ (by have:=hx03.next;omega)) gb _)
   have wc:=hyc.1;have gc:Hc.get (H3.next+16)=some (.row [.int .i64 φ.next,.string n,.int .i64 2,.bool bin,.string al,.int .i64 eof,.bool rep,.int .i64 (e0:ByteArray).size,.int .i64 0,.int .i64 0,.bool false] 82):=by rw[←ec,get_put,if_pos rfl]
   have gcr:=z2r gc;have qc:=row8 (show Hc.get p=some (.row [.map (some fb),.map (some ob),.int .i64 φ.next,.string φ.input,.string φ.out,.int .i64 φ.inp,.int .i64 φ.put,.int .i64 φ.written] 77) from hc.obj);have hψ:φ.openF n 2 bin al eof rep={ φ with files:=fset φ.files n e0,opens:=φ.opens++[(φ.next,⟨φ.next,n,2,bin,al,eof,rep,(e0:ByteArray).size,0,0,false⟩)],next:=φ.next+1 }:=rfl;obtain⟨H5,e5,hx5,w5⟩:=z5e wc 11;have h5:=hc.keep hx5 wc;obtain⟨B6,hU,mo6,bo6⟩:=z6j (P:=Tryz.prog) mpSt h5.om h5.bo (v:=ptrV (H3.next+16)) (n:=φ.next) hnone;obtain⟨H6,e6⟩:∃H6,H5.put ob (some B6)=H6:=⟨_,rfl⟩
   rw[e6] at hU mo6 bo6;have k6:∀i,i≠ob→H6.get i=H5.get i:=fun i hi=>by rw[←e6,get_put,if_neg hi]
   have q5:=row8 (show H5.get p=some (.row [.map (some fb),.map (some ob),.int .i64 φ.next,.string φ.input,.string φ.out,.int .i64 φ.inp,.int .i64 φ.put,.int .i64 φ.written] 77) from h5.obj);have r5:=z2r (hx5.get wc gc);have g6:H6.get p=some (.row [.map (some fb),.map (some ob),.int .i64 φ.next,.string φ.input,.string φ.out,.int .i64 φ.inp,.int .i64 φ.put,.int .i64 φ.written] 77):=(k6 p hpo).trans h5.obj;have q6:=row8 g6;have b6:=(k6 (H3.next+16) (by omega)).trans (hx5.get wc gc);obtain⟨H7,e7⟩:∃H7,H6.put p (some (.row [.map (some fb),.map (some ob),.int .i64 (φ.next+1),.string φ.input,.string φ.out,.int .i64 φ.inp,.int .i64 φ.put,.int .i64 φ.written] 77))=H7:=⟨_,rfl⟩
   have k7:∀i,i≠p→H7.get i=H6.get i:=fun i hi=>by rw[←e7,get_put,if_neg hi]
   have b7:=(k7 (H3.next+16) (by omega)).trans b6;have r7:=z2r b7;have hyB:Hy B H5 H6:=by rw[←e6];obtain⟨_,_,hm,-⟩:=h5.om;exact Hy.put w5 h.lo hm _
   have hyC:Hy B H6 H7:=by rw[←e7];exact Hy.put hyB.1 h.lp g6 _
   have hyE:Hy B H H7:=((hyc.trans (Hy.of hx5)).trans hyB).trans hyC;have nof:fb≠p:=fun e=>hpf e.symm
   have mf7:=h5.fm.heap ((k7 fb nof).trans (k6 fb h.fo));have bf7:=h5.bf.heap ((k7 fb nof).trans (k6 fb h.fo));have mo7:=mo6.heap (k7 ob (fun e=>hpo e.symm));have bo7:=bo6.heap (k7 ob (fun e=>hpo e.symm));have fin:∃blk',FsB H7 B p fb ob blk' (φ.openF n 2 bin al eof rep):=by
    rw[hψ];refine h3.add (H':=H7) (n:=φ.next) (b:=H3.next+16) w3 hk rfl (by rw[←e7,get_put,if_pos rfl]) mf7 bf7 h5.fd mo7 bo7 (fun o ho=>?_) b7 (Nat.le_add_right _ _) (hB _ (by have:=hx03.next;omega));have hs3:=h3.st o ho;have a1:blk o.1≠p:=fun e=>by rw[e,h3.obj] at hs3;simp at hs3
    have a2:blk o.1≠ob:=fun e=>by obtain⟨_,_,hm,-⟩:=h3.om;rw[e,hm] at hs3;cases hs3
    have hs5:=h5.st o ho;rw[k7 _ a1,k6 _ a2,hs5,hs3]
   have hV':dUp Tryz.prog 74 (.map (some fb)) (.string n) (.string ⟨#[]⟩) A4=some (.val undef Hb):=hV;have z6:((⟨#[]⟩:ByteArray).size:Int)=(e0.size:Int):=rfl
   repeat' (first|refine EvC.seq ?_|refine EvC.block ?_|(refine EvC.exit ?_;try simp only[sB,Za])|(refine EvC.ret ?_)|(refine EvC.reg ?_;simp (config := { maxSteps := 2000000 }) (disch:=first|omega|rfl) only[sB,Za,Zb,one,reduceCtorEq,Zh,z3z,ld74,z0l,ld3,za6,ln9,z1c,st3,z2p,t0,t1,t2,t13,z01,z04,z4,q4,z1j,hV',gb,z6,ec,q6,g6,hwr,e7,r7])|(refine EvC.drw (id:=23) [([(0,0),(1,0),(2,0),(3,0),(4,0),(5,0),(6,0),(7,0),(8,0),(9,0),(10,0),(11,0),(12,0),(13,0),(14,0),(15,0),(16,0),(17,0)],none)] ?_ ?_;kernel_rfl;simp (config := { maxSteps := 2000000 }) (disch:=first|omega|rfl) only[sD,sB,dBox,Za,Zb,Value.cells,one,reduceCtorEq,Zh,layC,z7h,ld9,z5j,ld4,ld3,za6,zfr,zfs,bd61,bd82,t0,t1,t2,t7,q3,z01,z04,l3,e4,isAlloc,isRead,dalloc])|(refine EvC.drw (id:=30) [([(0,0),(1,0),(2,0),(3,0),(4,0),(5,0),(6,0),(7,0),(8,0),(9,0)],some 10),([],none)] ?_ ?_;kernel_rfl;simp (config := { maxSteps := 2000000 }) (disch:=first|omega|rfl) only[sD,sB,Za,Zb,reduceCtorEq,z3t,ld75,z0l,ld3,z2p,t0,z01,z04,z1j,e5,q5,r5,hU,isAlloc,isRead])|(refine EvC.condT ?_ ?_;simp (config := { maxSteps := 2000000 }) (disch:=first|omega|rfl) only[sB,Za];refine z02 ?_))
   exact z09 rfl (by simp only[sG,Za]) (by simp only[sG,Za]) ⟨_,rfl,hyE,rfl,fin⟩
  ·have z4:((3:Int) == 2)=false:=rfl;have z5:((3:Int) == 3)=true:=rfl;obtain⟨Bf,hV,mfb,bfb⟩:=dUs (P:=Tryz.prog) (v:=.string (φ.fileD n)) spFl h4.fm (n:=n);obtain⟨Hb,eb⟩:∃Hb,A4.put fb (some Bf)=Hb:=⟨_,rfl⟩
   have hb:FsB Hb B p fb ob blk { φ with files:=fset φ.files n (φ.fileD n) }:=by rw[←eb];exact h4.file mfb bfb
   rw[eb] at hV;obtain⟨_,_,hfm4,-⟩:=id h4.fm;have hyb:Hy B A4 Hb:=by rw[←eb];exact Hy.put w4 h.lf hfm4 _
   have gb:Hb.get (H3.next+16)=some (.row [.int .i64 φ.next,.string n,.int .i64 3,.bool bin,.string al,.int .i64 eof,.bool rep,.int .i64 0,.int .i64 0,.int .i64 0,.bool false] 82):=by rw[←eb,get_put,if_neg (by omega)];exact g4
   obtain⟨Hc,ec⟩:∃Hc,Hb.put (H3.next+16) (some (.row [.int .i64 φ.next,.string n,.int .i64 3,.bool bin,.string al,.int .i64 eof,.bool rep,.int .i64 (φ.fileD n).size,.int .i64 0,.int .i64 0,.bool false] 82))=Hc:=⟨_,rfl⟩
   have hc:FsB Hc B p fb ob blk { φ with files:=fset φ.files n (φ.fileD n) }:=by rw[←ec];exact FsB.off h3 w3 (Nat.le_add_right _ _) rfl hb
   have hyc:Hy B H Hc:=by rw[←ec];exact(hy4.trans hyb).trans (Hy.put hyb.1 (hB _ (by have:=hx03.next;omega)) gb _)
   have wc:=hyc.1;have gc:Hc.get (H3.next+16)=some (.row [.int .i64 φ.next,.string n,.int .i64 3,.bool bin,.string al,.int .i64 eof,.bool rep,.int .i64 (φ.fileD n).size,.int .i64 0,.int .i64 0,.bool false] 82):=by rw[←ec,get_put,if_pos rfl]
   have gcr:=z2r gc;have qc:=row8 (show Hc.get p=some (.row [.map (some fb),.map (some ob),.int .i64 φ.next,.string φ.input,.string φ.out,.int .i64 φ.inp,.int .i64 φ.put,.int .i64 φ.written] 77) from hc.obj);have hψ:φ.openF n 3 bin al eof rep={ φ with files:=fset φ.files n (φ.fileD n),opens:=φ.opens++[(φ.next,⟨φ.next,n,3,bin,al,eof,rep,(φ.fileD n).size,0,0,false⟩)],next:=φ.next+1 }:=rfl;obtain⟨H5,e5,hx5,w5⟩:=z5e wc 11;have h5:=hc.keep hx5 wc;obtain⟨B6,hU,mo6,bo6⟩:=z6j (P:=Tryz.prog) mpSt h5.om h5.bo (v:=ptrV (H3.next+16)) (n:=φ.next) hnone;obtain⟨H6,e6⟩:∃H6,H5.put ob (some B6)=H6:=⟨_,rfl⟩
   rw[e6] at hU mo6 bo6;have k6:∀i,i≠ob→H6.get i=H5.get i:=fun i hi=>by rw[←e6,get_put,if_neg hi]
   have q5:=row8 (show H5.get p=some (.row [.map (some fb),.map (some ob),.int .i64 φ.next,.string φ.input,.string φ.out,.int .i64 φ.inp,.int .i64 φ.put,.int .i64 φ.written] 77) from h5.obj);have r5:=z2r (hx5.get wc gc);have g6:H6.get p=some (.row [.map (some fb),.map (some ob),.int .i64 φ.next,.string φ.input,.string φ.out,.int .i64 φ.inp,.int .i64 φ.put,.int .i64 φ.written] 77):=(k6 p hpo).trans h5.obj;have q6:=row8 g6;have b6:=(k6 (H3.next+16) (by omega)).trans (hx5.get wc gc);obtain⟨H7,e7⟩:∃H7,H6.put p (some (.row [.map (some fb),.map (some ob),.int .i64 (φ.next+1),.string φ.input,.string φ.out,.int .i64 φ.inp,.int .i64 φ.put,.int .i64 φ.written] 77))=H7:=⟨_,rfl⟩
   have k7:∀i,i≠p→H7.get i=H6.get i:=fun i hi=>by rw[←e7,get_put,if_neg hi]
   have b7:=(k7 (H3.next+16) (by omega)).trans b6;have r7:=z2r b7;have hyB:Hy B H5 H6:=by rw[←e6];obtain⟨_,_,hm,-⟩:=h5.om;exact Hy.put w5 h.lo hm _
   have hyC:Hy B H6 H7:=by rw[←e7];exact Hy.put hyB.1 h.lp g6 _
   have hyE:Hy B H H7:=((hyc.trans (Hy.of hx5)).trans hyB).trans hyC;have nof:fb≠p:=fun e=>hpf e.symm
   have mf7:=h5.fm.heap ((k7 fb nof).trans (k6 fb h.fo));have bf7:=h5.bf.heap ((k7 fb nof).trans (k6 fb h.fo));have mo7:=mo6.heap (k7 ob (fun e=>hpo e.symm));have bo7:=bo6.heap (k7 ob (fun e=>hpo e.symm));have fin:∃blk',FsB H7 B p fb ob blk' (φ.openF n 3 bin al eof rep):=by
    rw[hψ];refine h3.add (H':=H7) (n:=φ.next) (b:=H3.next+16) w3 hk rfl (by rw[←e7,get_put,if_pos rfl]) mf7 bf7 h5.fd mo7 bo7 (fun o ho=>?_) b7 (Nat.le_add_right _ _) (hB _ (by have:=hx03.next;omega));have hs3:=h3.st o ho;have a1:blk o.1≠p:=fun e=>by rw[e,h3.obj] at hs3;simp at hs3
    have a2:blk o.1≠ob:=fun e=>by obtain⟨_,_,hm,-⟩:=h3.om;rw[e,hm] at hs3;cases hs3
    have hs5:=h5.st o ho;rw[k7 _ a1,k6 _ a2,hs5,hs3]
   repeat' (first|refine EvC.seq ?_|refine EvC.block ?_|(refine EvC.skip ?_;try simp only[z00])|(refine EvC.exit ?_;try simp only[sB,Za])|(refine EvC.ret ?_)|(refine EvC.reg ?_;simp (config := { maxSteps := 2000000 }) (disch:=first|omega|rfl) only[sB,Za,Zb,one,reduceCtorEq,Zh,z3z,ld74,z0l,ld3,za6,ln9,z1c,st3,z2p,t0,t1,t2,t13,z01,z04,z4,z5,q4,z1j,hV,gb,ec,q6,g6,hwr,e7,r7])|(refine EvC.drw (id:=23) [([(0,0),(1,0),(2,0),(3,0),(4,0),(5,0),(6,0),(7,0),(8,0),(9,0),(10,0),(11,0),(12,0),(13,0),(14,0),(15,0),(16,0),(17,0)],none)] ?_ ?_;kernel_rfl;simp (config := { maxSteps := 2000000 }) (disch:=first|omega|rfl) only[sD,sB,dBox,Za,Zb,Value.cells,one,reduceCtorEq,Zh,layC,z7h,ld9,z5j,ld4,ld3,za6,zfr,zfs,bd61,bd82,t0,t1,t2,t7,q3,z01,z04,l3,e4,isAlloc,isRead,dalloc])|(refine EvC.drw (id:=30) [([(0,0),(1,0),(2,0),(3,0),(4,0),(5,0),(6,0),(7,0),(8,0),(9,0)],some 10),([],none)] ?_ ?_;kernel_rfl;simp (config := { maxSteps := 2000000 }) (disch:=first|omega|rfl) only[sD,sB,Za,Zb,reduceCtorEq,z3t,ld75,z0l,ld3,z2p,t0,z01,z04,z1j,e5,q5,r5,hU,isAlloc,isRead])|(refine EvC.condT ?_ ?_;simp (config := { maxSteps := 2000000 }) (disch:=first|omega|rfl) only[sB,Za];refine z02 ?_)|(refine EvC.condF ?_ ?_;simp (config := { maxSteps := 2000000 }) (disch:=first|omega|rfl) only[sB,Za];refine z02 ?_))
   exact z09 rfl (by simp only[sG,Za]) (by simp only[sG,Za]) ⟨_,rfl,hyE,rfl,fin⟩
 ·obtain⟨e,he,o,ho,k2,hb⟩:=hyes;have hres:=hE _ (by rw[hE2,if_pos ⟨o,ho,hb⟩]) (by simp);have e4:((Tr.nil.put 8 (some (Value.int .i64 0))).put 9 (some v5)).get 8=some (.int .i64 0):=by rw[Tr.get_put,if_neg (by decide),Tr.get_put,if_pos rfl]
  have e5:((Tr.nil.put 8 (some (Value.int .i64 0))).put 9 (some v5)).get 9=some v5:=by rw[Tr.get_put,if_pos rfl]
  rw[hres];have key:Ex.leave Tryz.prog okT Tryz.f12 (fun v H'=>∃e,v=.tuple ⟨[.int .i64 ((0,φ.opErr n m al rep,φ):Int × BadV × FSt).1,e]⟩∧Hy B H H'∧ErrB H' ((0,BadV.ball (opT (atomT n)),φ):Int × BadV × FSt).2.1 e∧∃blk',FsB H' B p fb ob blk' ((0,BadV.ball (opT (atomT n)),φ):Int × BadV × FSt).2.2) .ret ⟨(Tr.nil.put 8 (some (Value.int .i64 0))).put 9 (some v5),[],H5⟩ :=
   z09 rfl e4 e5 ⟨_,rfl,Hy.of (hx03.trans (hx4.trans hx5)),ht5,_,(h3.keep hx4 w3).keep hx5 hx4.wf⟩
  exact key
end Go.Proofs.hq
end

section
namespace Go.Proofs.hq
open Go Go.RowKit Go.Hb
variable {ok:Ok}
set_option maxRecDepth 10000
attribute [local irreducible] LX LG EL STG SOP SGO SGD SAL SRD SEF SEG SLK SCK ES
theorem z4o (t:Option Tm):∀n,BadV.of t=.code n→n≠0:=fun n h=>by cases t<;>cases h
theorem zko {φ:FSt}{n al:ByteArray}{m eof:Int}{bin rep:Bool}:∀c,(φ.openA n m bin al eof rep).2.1=.code c→c≠0:=fun c h=>by
 have key:∀c,φ.opErr n m al rep=.code c→c≠0:=fun c h=>by
  unfold FSt.opErr at h
  repeat' split at h
  all_goals first|(cases h;decide)|cases h
 unfold FSt.openA at h;cases he:φ.opErr n m al rep with
 |none=>rw[he] at h;cases h
 |ball t=>rw[he] at h;cases h
 |code d=>rw[he] at h;cases h;exact key _ he
theorem zmh {φ:FSt}{n to:Int}:∀c,(φ.advR n to).1=.code c→c≠0:=fun c h=>by
 unfold FSt.advR at h;split at h
 ·cases h
 ·cases h
 ·split at h
  ·cases h;decide
  ·cases h
theorem zkp {φ:FSt}{n b:Int}:∀c,(φ.putByteR n b).1=.code c→c≠0:=fun c h=>by
 unfold FSt.putByteR at h;split at h
 ·cases h
 ·cases h
 ·split at h
  ·cases h;decide
  ·exact z4o _ _ h
theorem zmi (φ:FSt) (n:ByteArray) (m:Int) (bin:Bool) (al:ByteArray) (eof:Int) (rep:Bool):φ.rf.openY n m bin al eof rep=((φ.openA n m bin al eof rep).1,(φ.openA n m bin al eof rep).2.1,(φ.openA n m bin al eof rep).2.2.rf):=by
 unfold FSt.openY FSt.openA;rw[zm4];cases φ.opErr n m al rep with
 |ball t=>rfl
 |code c=>rfl
 |none =>
  have e:φ.rf.openX n m bin al eof rep=(φ.openF n m bin al eof rep).rf:=by
   unfold FSt.openX FSt.openF FSt.rf;simp only[ZI,Zs,List.map_nil,FSt.mk.injEq,true_and,and_true];refine⟨rfl,?_⟩;congr 1;unfold Strm.rf FSt.opened;by_cases h:m=1
   ·simp only[if_pos h]
   ·simp only[if_neg h]
  rw[e];rfl
theorem FootV.new {n p fb ob:Nat}{blk:Int→Nat}{φ:FSt}:∀i,n≤i→FootV n p fb ob blk φ i:=fun i h=>.inr (.inr (.inr (.inr h)))
theorem FootR.new {n r f l:Nat}:∀i,n≤i→FootR n r f l i:=fun i h=>.inr (.inr (.inr h))
theorem Inv.pos {φ:FSt}{N:Int}(h:Inv φ N) {n:Int}:∀s,φ.get n=some s→0≤s.pos∧s.pos≤((φ.data s).size:Int)∧(φ.data s).size≤maxLen:=fun s hs=>by
 have h1:=h.po _ (z1q hs);have h2:=h.size s;exact⟨h1.1,h1.2,by unfold maxLen;omega⟩
theorem Inv.rcon {φ:FSt}{N:Int}(h:Inv φ N) {n:Int}:∀s,φ.rf.get n=some s→s.con=decide (n < 2):=fun s hs=>by
 rw[z3x] at hs;obtain⟨s',h1,rfl⟩:=Option.map_eq_some_iff.1 hs;rw[z7m];exact h.con _ (z1q h1)
theorem Inv.rcon2 {φ:FSt}{N:Int}(h:Inv φ N):∀o∈φ.rf.opens,o.2.con=decide (o.2.id < 2):=fun o ho=>by
 obtain⟨o',h1,rfl⟩:=List.mem_map.1 ho;simp only[z7m,zk5];rw[h.ids o' h1,h.con o' h1]
theorem zek:∀r:ByteArray,0 < r.size→0≤(cutC r).2∧(cutC r).2≤r.size:=fun r h0=>by
 have hb:=fun i=>z3f r i
 have k:=(zbg (n:=r.size) (hb 0) (hb (0+1)) (hb (0+2)) (hb (0+3)) h0).2.2;have hN:=ze8 r 0;rw[Nat.sub_zero] at hN;rw[←hN] at k;unfold cutC;simp only;split<;>omega
theorem zel:∀r:ByteArray,0 < r.size→0≤(cutB r).2∧(cutB r).2≤r.size:=fun r h0=>by unfold cutB;simp only;omega
theorem zq7 {H:Heap}{x y:Operand}{a:Bool}:dBin Tryz.prog .eql 4 x y (.bool a) (.bool a) H=some (.val (.bool true) H):=by
 cases a<;>kernel_rfl
abbrev callRow (kd id nn:Int) (nm:ByteArray) (bin:Bool) (al:ByteArray) (eof:Int) (rep pk:Bool):List Value:=[.int .i64 kd,.int .i64 id,.int .i64 nn,.string nm,.bool bin,.string al,.int .i64 eof,.bool rep,.bool pk]
theorem row9 {H:Heap}{p:Nat}{T:TypeId}{x0 x1 x2 x3 x4 x5 x6 x7 x8:Value}(h:H.get p=some (Blk.row [x0,x1,x2,x3,x4,x5,x6,x7,x8] T)) :
  H.load ⟨p,0,none⟩ 1=some [x0]∧H.load ⟨p,1,none⟩ 1=some [x1]∧H.load ⟨p,2,none⟩ 1=some [x2]∧H.load ⟨p,3,none⟩ 1=some [x3]∧H.load ⟨p,4,none⟩ 4=some [x4,x5,x6,x7]∧H.load ⟨p,8,none⟩ 1=some [x8]:=by
 refine⟨?_,?_,?_,?_,?_,?_⟩<;>simp only[Heap.load,Heap.cells,h]<;>rfl
set_option maxHeartbeats 32000000 in
theorem zqs {A H:Heap}{p r:Nat}{φ:FSt}{N kd id nn eof:Int}{nm al:ByteArray}{bin rep pk:Bool}(h:Two A H p r φ φ.rf) (hI:Inv φ N) (hN:N < 100000) (hid:i64 id) (hnn:i64 nn) (hnm:nm.size≤4611686018427387904) (hal:al.size≤4611686018427387904) :
  EvF Tryz.prog okT 9 [ptrV p,ptrV r,.agg ⟨callRow kd id nn nm bin al eof rep pk⟩] H fun v H'=>v=.bool true∧∃ φ',Two A H' p r φ' φ'.rf∧Inv φ' (N+1):=by
 refine EvF.enter rfl Tryz.func9 (by decide) rfl ?_;have hmx:maxLen=9223372036854775807:=rfl;have hw:=h.hx.wf;(repeat refine EvC.seq ?_);refine EvC.reg ?_;simp (config := { maxSteps := 2000000 }) (disch:=first|omega|rfl) only[sB,initTm,dBox,Za,Zb,Value.cells,one,reduceCtorEq];obtain⟨H0,e0,hx0,g0,n0,w0⟩:=new1 hw (.row (callRow kd id nn nm bin al eof rep pk) 36);simp only[e0];obtain⟨H1,e1,hx1,g1,n1,w1⟩:=new1 w0 (.row bad8 90);have c1:=hx1.get w0 g0;have q1:=row9 c1;have hT1:=(h.keep hx0).keep hx1;have hA0:=h.hx.next;have hA1:=hx0.next;obtain⟨fb,ob,blk,hv⟩:=hT1.v;have hnx:=hI.nx;have hwr:=hI.wr;have hout:=hI.out;have hU:=hI.up (M:=N+1) (by omega);have hkd:kd=1∨kd=2∨kd=3∨kd=4∨kd=5∨kd=6∨kd=7∨kd=8∨kd=9∨kd=10∨kd=11∨kd=12∨kd=13∨kd=14∨(kd < 1∨14 < kd):=by omega
 rcases hkd with hk|hk|hk|hk|hk|hk|hk|hk|hk|hk|hk|hk|hk|hk|hk
 ·subst hk;have z1:((1:Int) == 1)=true:=rfl
  repeat' (first|refine EvC.seq ?_|refine EvC.block ?_|(refine EvC.reg ?_;simp (config := { maxSteps := 2000000 }) (disch:=first|omega|rfl) only[sB,dAlloc,Za,reduceCtorEq,zr90,z3j,ld3,z7g,ld9,z4p,zja,ld34,cl12,e1,q1,z1])|(refine EvC.condT ?_ ?_;simp (config := { maxSteps := 2000000 }) (disch:=first|omega|rfl) only[sB,Za,reduceCtorEq];refine z02 ?_))
  refine(zgo (hv.foot H1.next) w1 FootV.new (fun o ho o' ho' hz e e'=>hI.al o ho o' ho' (by rw[e];exact hz) (by rw[e,e'])) (by omega) (fun o ho=>(hI.lt o ho).2) (by omega) hI.no hI.nf).mono ?_;rintro v H2 ⟨e,rfl,hy2,he2,blk2,hv2⟩;have w2:=hy2.1;have T2:=hT1.vcall hv hy2 hv2;have c2:=hv.keepRow w1 hy2 c1 rfl rfl;have b2:=hv.keepRow w1 hy2 g1 rfl rfl;have q2:=row9 c2;obtain⟨f,l,hr⟩:=T2.r
  repeat' (first|(refine EvC.reg ?_;simp (config := { maxSteps := 2000000 }) (disch:=first|omega|rfl) only[sB,Za,reduceCtorEq,ld3,z7g,ld9,z4p,zja,ld34,cl32,q2])|(refine z08 ?_;simp (config := { maxSteps := 2000000 }) (disch:=first|omega|rfl) only[sB,Za,reduceCtorEq]))
  refine(zkn (hr.foot H2.next) hI.rin w2 hI.rcon2 (by omega) (show 0≤φ.next∧φ.next < 1000000 by omega) hI.fd FootR.new).mono ?_;rintro v H3 ⟨hy3,bs,rfl,hb3,f3,l3,hr3⟩;rw[zmi] at hb3 hr3 ⊢;obtain⟨b1',b2',b3',b4',b5',b6',b7',ba,bn,bc,hbs⟩:=hb3.eight;have w3:=hy3.1;have T3:=T2.rcall hr hy3 hr3;have b3:=hr.keepRow w2 hy3 b2 rfl rfl rfl;have he3:=ErrB.rcall he2 hr w2 hy3;have T4:=T3.put (i:=H0.next) (by omega) b3 rfl rfl rfl rfl rfl (some (.row bs 90));have he4:=he3.put b3 rfl rfl (some (.row bs 90));have hb4:=hb3.put b3 rfl (some (.row bs 90));obtain⟨H4,e4⟩:∃H4,H3.put H0.next (some (.row bs 90))=H4:=⟨_,rfl⟩
  rw[e4] at T4 he4 hb4;have g4:H4.get H0.next=some (.row bs 90):=by rw[←e4,get_put,if_pos rfl]
  have w4:=T4.hx.wf;have fin:=z1u he4 hb4 w4 (zko);have l4:H4.load ⟨H0.next,0,none⟩ 8=some bs:=by rw[hbs] at g4 ⊢;simp only[Heap.load,Heap.cells,g4];rfl
  subst hbs
  repeat' (first|refine EvC.seq ?_|(refine EvC.reg ?_;simp (config := { maxSteps := 2000000 }) (disch:=first|omega|rfl) only[sB,Za,reduceCtorEq,ld90,cl37,l4])|(refine z08 ?_;simp (config := { maxSteps := 2000000 }) (disch:=first|omega|rfl) only[sB,Za,Zb,one,reduceCtorEq,st90,b3,e4]))
  refine fin.mono ?_;rintro v H5 ⟨rfl,hx5⟩
  repeat' (first|refine EvC.seq ?_|(refine EvC.ret ?_)|(refine EvC.reg ?_;simp (config := { maxSteps := 2000000 }) (disch:=first|omega|rfl) only[sB,Za,reduceCtorEq,z19 rfl]))
  exact z06 rfl (by simp only[sG,Za,reduceCtorEq]) ⟨rfl,(φ.openA nm nn bin al eof rep).2.2,T4.keep hx5,hI.open nm nn bin al eof rep⟩
 ·subst hk;have z1:((2:Int) == 1)=false:=rfl;have z2:((2:Int) == 2)=true:=rfl
  repeat' (first|refine EvC.seq ?_|refine EvC.block ?_|(refine EvC.reg ?_;simp (config := { maxSteps := 2000000 }) (disch:=first|omega|rfl) only[sB,dAlloc,Za,reduceCtorEq,zr90,z3j,ld3,z1f,cl13,e1,q1,z1,z2])|(refine EvC.condT ?_ ?_;simp (config := { maxSteps := 2000000 }) (disch:=first|omega|rfl) only[sB,Za,reduceCtorEq];refine z02 ?_)|(refine EvC.condF ?_ ?_;simp (config := { maxSteps := 2000000 }) (disch:=first|omega|rfl) only[sB,Za,reduceCtorEq];refine z02 ?_))
  refine(zg3 (hv.foot H1.next) w1 hid).mono ?_;rintro e H2 ⟨hy2,he2,hv2⟩;have w2:=hy2.1;have T2:=hT1.vcall hv hy2 hv2;have c2:=hv.keepRow w1 hy2 c1 rfl rfl;have b2:=hv.keepRow w1 hy2 g1 rfl rfl;have q2:=row9 c2;obtain⟨f,l,hr⟩:=T2.r
  repeat' (first|(refine EvC.reg ?_;simp (config := { maxSteps := 2000000 }) (disch:=first|omega|rfl) only[sB,Za,reduceCtorEq,ld3,z1f,cl33,q2]))
  refine(zhu (hr.foot H2.next) hI.rin w2 hid hI.rcon FootR.new).mono ?_;rintro v H3 ⟨hy3,bs,rfl,hb3,l3,hr3⟩;rw[zk8] at hb3 hr3;obtain⟨b1',b2',b3',b4',b5',b6',b7',ba,bn,bc,hbs⟩:=hb3.eight;have w3:=hy3.1;have T3:=T2.rcall hr hy3 hr3;have b3:=hr.keepRow w2 hy3 b2 rfl rfl rfl;have he3:=ErrB.rcall he2.b hr w2 hy3;have T4:=T3.put (i:=H0.next) (by omega) b3 rfl rfl rfl rfl rfl (some (.row bs 90));have he4:=he3.put b3 rfl rfl (some (.row bs 90));have hb4:=hb3.put b3 rfl (some (.row bs 90));obtain⟨H4,e4⟩:∃H4,H3.put H0.next (some (.row bs 90))=H4:=⟨_,rfl⟩
  rw[e4] at T4 he4 hb4;have g4:H4.get H0.next=some (.row bs 90):=by rw[←e4,get_put,if_pos rfl]
  have w4:=T4.hx.wf;have fin:=z1u he4 hb4 w4 (z4o _);have l4:H4.load ⟨H0.next,0,none⟩ 8=some bs:=by rw[hbs] at g4 ⊢;simp only[Heap.load,Heap.cells,g4];rfl
  subst hbs
  repeat' (first|refine EvC.seq ?_|(refine EvC.reg ?_;simp (config := { maxSteps := 2000000 }) (disch:=first|omega|rfl) only[sB,Za,reduceCtorEq,ld90,cl37,l4])|(refine z08 ?_;simp (config := { maxSteps := 2000000 }) (disch:=first|omega|rfl) only[sB,Zb,one,st90,b3,e4]))
  refine fin.mono ?_;rintro v H5 ⟨rfl,hx5⟩
  repeat' (first|refine EvC.seq ?_|(refine EvC.ret ?_)|(refine EvC.reg ?_;simp (config := { maxSteps := 2000000 }) (disch:=first|omega|rfl) only[sB,Za,reduceCtorEq,z19 rfl]))
  exact z06 rfl (by simp only[sG,Za,reduceCtorEq]) ⟨rfl,(φ.closeR id).2,T4.keep hx5,hU.close id⟩
 ·subst hk;have z1:((3:Int) == 1)=false:=rfl;have z2:((3:Int) == 2)=false:=rfl;have z3:((3:Int) == 3)=true:=rfl
  repeat' (first|refine EvC.seq ?_|refine EvC.block ?_|(refine EvC.reg ?_;simp (config := { maxSteps := 2000000 }) (disch:=first|omega|rfl) only[sB,dAlloc,Za,reduceCtorEq,zr90,z3j,ld3,z1f,cl14,e1,q1,z1,z2,z3])|(refine EvC.condT ?_ ?_;simp (config := { maxSteps := 2000000 }) (disch:=first|omega|rfl) only[sB,Za,reduceCtorEq];refine z02 ?_)|(refine EvC.condF ?_ ?_;simp (config := { maxSteps := 2000000 }) (disch:=first|omega|rfl) only[sB,Za,reduceCtorEq];refine z02 ?_))
  refine(zg6 (hv.foot H1.next) w1 hid).mono ?_;rintro e H2 ⟨hy2,he2,hv2⟩;have w2:=hy2.1;have T2:=hT1.vcall hv hy2 hv2;have c2:=hv.keepRow w1 hy2 c1 rfl rfl;have b2:=hv.keepRow w1 hy2 g1 rfl rfl;have q2:=row9 c2;obtain⟨f,l,hr⟩:=T2.r
  repeat' (first|(refine EvC.reg ?_;simp (config := { maxSteps := 2000000 }) (disch:=first|omega|rfl) only[sB,Za,reduceCtorEq,ld3,z1f,cl34,q2]))
  refine(zgm (inp:=true) (hr.foot H2.next) hI.rin w2 hid).mono ?_;rintro v H3 ⟨hy3,bs,rfl,hb3,hr3⟩;rw[if_pos rfl,zk9] at hb3 hr3;obtain⟨b1',b2',b3',b4',b5',b6',b7',ba,bn,bc,hbs⟩:=hb3.eight;have w3:=hy3.1;have T3:=T2.rcall hr hy3 hr3;have b3:=hr.keepRow w2 hy3 b2 rfl rfl rfl;have he3:=ErrB.rcall he2.b hr w2 hy3;have T4:=T3.put (i:=H0.next) (by omega) b3 rfl rfl rfl rfl rfl (some (.row bs 90));have he4:=he3.put b3 rfl rfl (some (.row bs 90));have hb4:=hb3.put b3 rfl (some (.row bs 90));obtain⟨H4,e4⟩:∃H4,H3.put H0.next (some (.row bs 90))=H4:=⟨_,rfl⟩
  rw[e4] at T4 he4 hb4;have g4:H4.get H0.next=some (.row bs 90):=by rw[←e4,get_put,if_pos rfl]
  have w4:=T4.hx.wf;have fin:=z1u he4 hb4 w4 (z4o _);have l4:H4.load ⟨H0.next,0,none⟩ 8=some bs:=by rw[hbs] at g4 ⊢;simp only[Heap.load,Heap.cells,g4];rfl
  subst hbs
  repeat' (first|refine EvC.seq ?_|(refine EvC.reg ?_;simp (config := { maxSteps := 2000000 }) (disch:=first|omega|rfl) only[sB,Za,reduceCtorEq,ld90,cl37,l4])|(refine z08 ?_;simp (config := { maxSteps := 2000000 }) (disch:=first|omega|rfl) only[sB,Zb,one,st90,b3,e4]))
  refine fin.mono ?_;rintro v H5 ⟨rfl,hx5⟩
  repeat' (first|refine EvC.seq ?_|(refine EvC.ret ?_)|(refine EvC.reg ?_;simp (config := { maxSteps := 2000000 }) (disch:=first|omega|rfl) only[sB,Za,reduceCtorEq,z19 rfl]))
  exact z06 rfl (by simp only[sG,Za,reduceCtorEq]) ⟨rfl,(φ.setInR id).2,T4.keep hx5,hU.setIn id⟩
 ·subst hk;have z1:((4:Int) == 1)=false:=rfl;have z2:((4:Int) == 2)=false:=rfl;have z3:((4:Int) == 3)=false:=rfl;have z4:((4:Int) == 4)=true:=rfl
  repeat' (first|refine EvC.seq ?_|refine EvC.block ?_|(refine EvC.reg ?_;simp (config := { maxSteps := 2000000 }) (disch:=first|omega|rfl) only[sB,dAlloc,Za,reduceCtorEq,zr90,z3j,ld3,z1f,cl15,e1,q1,z1,z2,z3,z4])|(refine EvC.condT ?_ ?_;simp (config := { maxSteps := 2000000 }) (disch:=first|omega|rfl) only[sB,Za,reduceCtorEq];refine z02 ?_)|(refine EvC.condF ?_ ?_;simp (config := { maxSteps := 2000000 }) (disch:=first|omega|rfl) only[sB,Za,reduceCtorEq];refine z02 ?_))
  refine(zd4 (hv.foot H1.next) w1 hid).mono ?_;rintro e H2 ⟨hy2,he2,hv2⟩;have w2:=hy2.1;have T2:=hT1.vcall hv hy2 hv2;have c2:=hv.keepRow w1 hy2 c1 rfl rfl;have b2:=hv.keepRow w1 hy2 g1 rfl rfl;have q2:=row9 c2;obtain⟨f,l,hr⟩:=T2.r
  repeat' (first|(refine EvC.reg ?_;simp (config := { maxSteps := 2000000 }) (disch:=first|omega|rfl) only[sB,Za,reduceCtorEq,ld3,z1f,cl34,q2]))
  refine(zgm (inp:=false) (hr.foot H2.next) hI.rin w2 hid).mono ?_;rintro v H3 ⟨hy3,bs,rfl,hb3,hr3⟩;rw[if_neg (by simp),zhr] at hb3 hr3;obtain⟨b1',b2',b3',b4',b5',b6',b7',ba,bn,bc,hbs⟩:=hb3.eight;have w3:=hy3.1;have T3:=T2.rcall hr hy3 hr3;have b3:=hr.keepRow w2 hy3 b2 rfl rfl rfl;have he3:=ErrB.rcall he2.b hr w2 hy3;have T4:=T3.put (i:=H0.next) (by omega) b3 rfl rfl rfl rfl rfl (some (.row bs 90));have he4:=he3.put b3 rfl rfl (some (.row bs 90));have hb4:=hb3.put b3 rfl (some (.row bs 90));obtain⟨H4,e4⟩:∃H4,H3.put H0.next (some (.row bs 90))=H4:=⟨_,rfl⟩
  rw[e4] at T4 he4 hb4;have g4:H4.get H0.next=some (.row bs 90):=by rw[←e4,get_put,if_pos rfl]
  have w4:=T4.hx.wf;have fin:=z1u he4 hb4 w4 (z4o _);have l4:H4.load ⟨H0.next,0,none⟩ 8=some bs:=by rw[hbs] at g4 ⊢;simp only[Heap.load,Heap.cells,g4];rfl
  subst hbs
  repeat' (first|refine EvC.seq ?_|(refine EvC.reg ?_;simp (config := { maxSteps := 2000000 }) (disch:=first|omega|rfl) only[sB,Za,reduceCtorEq,ld90,cl37,l4])|(refine z08 ?_;simp (config := { maxSteps := 2000000 }) (disch:=first|omega|rfl) only[sB,Zb,one,st90,b3,e4]))
  refine fin.mono ?_;rintro v H5 ⟨rfl,hx5⟩
  repeat' (first|refine EvC.seq ?_|(refine EvC.ret ?_)|(refine EvC.reg ?_;simp (config := { maxSteps := 2000000 }) (disch:=first|omega|rfl) only[sB,Za,reduceCtorEq,z19 rfl]))
  exact z06 rfl (by simp only[sG,Za,reduceCtorEq]) ⟨rfl,(φ.setOutR id).2,T4.keep hx5,hU.setOut id⟩
 ·subst hk;have z1:((5:Int) == 1)=false:=rfl;have z2:((5:Int) == 2)=false:=rfl;have z3:((5:Int) == 3)=false:=rfl;have z4:((5:Int) == 4)=false:=rfl;have z5:((5:Int) == 5)=true:=rfl
  repeat' (first|refine EvC.seq ?_|refine EvC.block ?_|(refine EvC.reg ?_;simp (config := { maxSteps := 2000000 }) (disch:=first|omega|rfl) only[sB,dAlloc,Za,reduceCtorEq,zr90,z3j,ld3,z1f,za3,ld4,cl16,e1,q1,z1,z2,z3,z4,z5])|(refine EvC.condT ?_ ?_;simp (config := { maxSteps := 2000000 }) (disch:=first|omega|rfl) only[sB,Za,reduceCtorEq];refine z02 ?_)|(refine EvC.condF ?_ ?_;simp (config := { maxSteps := 2000000 }) (disch:=first|omega|rfl) only[sB,Za,reduceCtorEq];refine z02 ?_))
  refine(zjt (peek:=pk) (hv.foot H1.next) w1 hid hI.pos).mono ?_;rintro v H2 ⟨e,rfl,hy2,he2,hv2⟩;have w2:=hy2.1;have T2:=hT1.vcall hv hy2 hv2;have c2:=hv.keepRow w1 hy2 c1 rfl rfl;have b2:=hv.keepRow w1 hy2 g1 rfl rfl;have q2:=row9 c2;obtain⟨f,l,hr⟩:=T2.r
  repeat' (first|(refine EvC.reg ?_;simp (config := { maxSteps := 2000000 }) (disch:=first|omega|rfl) only[sB,Za,reduceCtorEq,ld3,z1f,za3,ld4,cl35,q2])|(refine z08 ?_;simp (config := { maxSteps := 2000000 }) (disch:=first|omega|rfl) only[sB,Za,reduceCtorEq]))
  refine(zgk (bin:=false) (peek:=pk) (hr.foot H2.next) hI.rin w2 hid).mono ?_;rintro v H3 ⟨hy3,bs,rfl,hb3,hr3⟩;rw[show cutX false=cutC from rfl,zgd] at hb3 hr3 ⊢;obtain⟨b1',b2',b3',b4',b5',b6',b7',ba,bn,bc,hbs⟩:=hb3.eight;have w3:=hy3.1;have T3:=T2.rcall hr hy3 hr3;have b3:=hr.keepRow w2 hy3 b2 rfl rfl rfl;have he3:=ErrB.rcall he2.b hr w2 hy3;have T4:=T3.put (i:=H0.next) (by omega) b3 rfl rfl rfl rfl rfl (some (.row bs 90));have he4:=he3.put b3 rfl rfl (some (.row bs 90));have hb4:=hb3.put b3 rfl (some (.row bs 90));obtain⟨H4,e4⟩:∃H4,H3.put H0.next (some (.row bs 90))=H4:=⟨_,rfl⟩
  rw[e4] at T4 he4 hb4;have g4:H4.get H0.next=some (.row bs 90):=by rw[←e4,get_put,if_pos rfl]
  have w4:=T4.hx.wf;have fin:=z1u he4 hb4 w4 (z4o _);have l4:H4.load ⟨H0.next,0,none⟩ 8=some bs:=by rw[hbs] at g4 ⊢;simp only[Heap.load,Heap.cells,g4];rfl
  subst hbs
  repeat' (first|refine EvC.seq ?_|(refine EvC.reg ?_;simp (config := { maxSteps := 2000000 }) (disch:=first|omega|rfl) only[sB,Za,reduceCtorEq,ld90,cl37,l4])|(refine z08 ?_;simp (config := { maxSteps := 2000000 }) (disch:=first|omega|rfl) only[sB,Za,Zb,one,reduceCtorEq,st90,b3,e4]))
  refine fin.mono ?_;rintro v H5 ⟨rfl,hx5⟩
  repeat' (first|refine EvC.seq ?_|(refine EvC.ret ?_)|(refine EvC.reg ?_;simp (config := { maxSteps := 2000000 }) (disch:=first|omega|rfl) only[sB,Za,reduceCtorEq,z19 rfl]))
  exact z06 rfl (by simp only[sG,Za,reduceCtorEq]) ⟨rfl,(φ.readR id false pk cutC).2.2,T4.keep hx5,hU.read id false pk zek⟩
 ·subst hk;have z1:((6:Int) == 1)=false:=rfl;have z2:((6:Int) == 2)=false:=rfl;have z3:((6:Int) == 3)=false:=rfl;have z4:((6:Int) == 4)=false:=rfl;have z5:((6:Int) == 5)=false:=rfl;have z6:((6:Int) == 6)=true:=rfl
  repeat' (first|refine EvC.seq ?_|refine EvC.block ?_|(refine EvC.reg ?_;simp (config := { maxSteps := 2000000 }) (disch:=first|omega|rfl) only[sB,dAlloc,Za,reduceCtorEq,zr90,z3j,ld3,z1f,za3,ld4,cl17,e1,q1,z1,z2,z3,z4,z5,z6])|(refine EvC.condT ?_ ?_;simp (config := { maxSteps := 2000000 }) (disch:=first|omega|rfl) only[sB,Za,reduceCtorEq];refine z02 ?_)|(refine EvC.condF ?_ ?_;simp (config := { maxSteps := 2000000 }) (disch:=first|omega|rfl) only[sB,Za,reduceCtorEq];refine z02 ?_))
  refine(zjm (peek:=pk) (hv.foot H1.next) w1 hid hI.pos).mono ?_;rintro v H2 ⟨e,rfl,hy2,he2,hv2⟩;have w2:=hy2.1;have T2:=hT1.vcall hv hy2 hv2;have c2:=hv.keepRow w1 hy2 c1 rfl rfl;have b2:=hv.keepRow w1 hy2 g1 rfl rfl;have q2:=row9 c2;obtain⟨f,l,hr⟩:=T2.r
  repeat' (first|(refine EvC.reg ?_;simp (config := { maxSteps := 2000000 }) (disch:=first|omega|rfl) only[sB,Za,reduceCtorEq,ld3,z1f,za3,ld4,cl35,q2])|(refine z08 ?_;simp (config := { maxSteps := 2000000 }) (disch:=first|omega|rfl) only[sB,Za,reduceCtorEq]))
  refine(zgk (bin:=true) (peek:=pk) (hr.foot H2.next) hI.rin w2 hid).mono ?_;rintro v H3 ⟨hy3,bs,rfl,hb3,hr3⟩;rw[show cutX true=cutB from rfl,zgd] at hb3 hr3 ⊢;obtain⟨b1',b2',b3',b4',b5',b6',b7',ba,bn,bc,hbs⟩:=hb3.eight;have w3:=hy3.1;have T3:=T2.rcall hr hy3 hr3;have b3:=hr.keepRow w2 hy3 b2 rfl rfl rfl;have he3:=ErrB.rcall he2.b hr w2 hy3;have T4:=T3.put (i:=H0.next) (by omega) b3 rfl rfl rfl rfl rfl (some (.row bs 90));have he4:=he3.put b3 rfl rfl (some (.row bs 90));have hb4:=hb3.put b3 rfl (some (.row bs 90));obtain⟨H4,e4⟩:∃H4,H3.put H0.next (some (.row bs 90))=H4:=⟨_,rfl⟩
  rw[e4] at T4 he4 hb4;have g4:H4.get H0.next=some (.row bs 90):=by rw[←e4,get_put,if_pos rfl]
  have w4:=T4.hx.wf;have fin:=z1u he4 hb4 w4 (z4o _);have l4:H4.load ⟨H0.next,0,none⟩ 8=some bs:=by rw[hbs] at g4 ⊢;simp only[Heap.load,Heap.cells,g4];rfl
  subst hbs
  repeat' (first|refine EvC.seq ?_|(refine EvC.reg ?_;simp (config := { maxSteps := 2000000 }) (disch:=first|omega|rfl) only[sB,Za,reduceCtorEq,ld90,cl37,l4])|(refine z08 ?_;simp (config := { maxSteps := 2000000 }) (disch:=first|omega|rfl) only[sB,Za,Zb,one,reduceCtorEq,st90,b3,e4]))
  refine fin.mono ?_;rintro v H5 ⟨rfl,hx5⟩
  repeat' (first|refine EvC.seq ?_|(refine EvC.ret ?_)|(refine EvC.reg ?_;simp (config := { maxSteps := 2000000 }) (disch:=first|omega|rfl) only[sB,Za,reduceCtorEq,z19 rfl]))
  exact z06 rfl (by simp only[sG,Za,reduceCtorEq]) ⟨rfl,(φ.readR id true pk cutB).2.2,T4.keep hx5,hU.read id true pk zel⟩
 ·subst hk;have z1:((7:Int) == 1)=false:=rfl;have z2:((7:Int) == 2)=false:=rfl;have z3:((7:Int) == 3)=false:=rfl;have z4:((7:Int) == 4)=false:=rfl;have z5:((7:Int) == 5)=false:=rfl;have z6:((7:Int) == 6)=false:=rfl;have z7:((7:Int) == 7)=true:=rfl
  repeat' (first|refine EvC.seq ?_|refine EvC.block ?_|(refine EvC.reg ?_;simp (config := { maxSteps := 2000000 }) (disch:=first|omega|rfl) only[sB,dAlloc,Za,reduceCtorEq,zr90,z3j,ld3,z1f,cl23,e1,q1,z1,z2,z3,z4,z5,z6,z7])|(refine EvC.condT ?_ ?_;simp (config := { maxSteps := 2000000 }) (disch:=first|omega|rfl) only[sB,Za,reduceCtorEq];refine z02 ?_)|(refine EvC.condF ?_ ?_;simp (config := { maxSteps := 2000000 }) (disch:=first|omega|rfl) only[sB,Za,reduceCtorEq];refine z02 ?_))
  refine(zjx hv w1 hid).mono ?_;rintro v H2 ⟨e,rfl,hx2,he2⟩;have w2:=hx2.wf;have T2:=hT1.keep hx2;have q2:=row9 (hx2.get w1 c1);obtain⟨f,l,hr⟩:=T2.r
  repeat' (first|refine EvC.seq ?_|(refine EvC.reg ?_;simp (config := { maxSteps := 2000000 }) (disch:=first|omega|rfl) only[sB,Za,reduceCtorEq,ld3,z1f,cl36,q2])|(refine z08 ?_;simp (config := { maxSteps := 2000000 }) (disch:=first|omega|rfl) only[sB,Za,reduceCtorEq]))
  refine(zee hr hI.rin w2 hid).mono ?_;rintro v H3 ⟨hx3,bs,rfl,hb3⟩;rw[zhq] at hb3 ⊢;have w3:=hx3.wf;have he3:=(ErrR.b he2).keep hx3 w2;obtain⟨H4,e4,hx4,g4,n4,w4⟩:=z18 w3 (.row bad8 90) (.row bs 90);have fin:=z1u (he3.keep hx4 w3) (hb3.keep hx4 w3) w4 (z4o _);obtain⟨b1',b2',b3',b4',b5',b6',b7',ba,bn,bc,hbs⟩:=hb3.eight;have l4:H4.load ⟨H3.next,0,none⟩ 8=some bs:=by rw[hbs] at g4 ⊢;simp only[Heap.load,Heap.cells,g4];rfl
  subst hbs
  repeat' (first|refine EvC.seq ?_|(refine EvC.reg ?_;simp (config := { maxSteps := 2000000 }) (disch:=first|omega|rfl) only[sB,Za,reduceCtorEq,ld90,cl37,l4])|(refine z08 ?_;simp (config := { maxSteps := 2000000 }) (disch:=first|omega|rfl) only[sB,dAlloc,Za,Zb,one,reduceCtorEq,zr90,st90,e4]))
  refine fin.mono ?_;rintro v H5 ⟨rfl,hx5⟩;have hbq:((φ.sourceR id).1.data.toList == (φ.sourceR id).1.data.toList)=true:=beq_self_eq_true _
  repeat' (first|refine EvC.seq ?_|(refine EvC.ret ?_;try simp only[z05,z03])|(refine EvC.reg ?_;simp (config := { maxSteps := 2000000 }) (disch:=first|omega|rfl) only[sB,Za,reduceCtorEq,z19 rfl,z16,hbq]))
  exact z06 rfl (by simp only[sG,Za,reduceCtorEq]) ⟨rfl,φ,((T2.keep hx3).keep hx4).keep hx5,hU⟩
 ·subst hk;have z1:((8:Int) == 1)=false:=rfl;have z2:((8:Int) == 2)=false:=rfl;have z3:((8:Int) == 3)=false:=rfl;have z4:((8:Int) == 4)=false:=rfl;have z5:((8:Int) == 5)=false:=rfl;have z6:((8:Int) == 6)=false:=rfl;have z7:((8:Int) == 7)=false:=rfl;have z8:((8:Int) == 8)=true:=rfl
  repeat' (first|refine EvC.seq ?_|refine EvC.block ?_|(refine EvC.reg ?_;simp (config := { maxSteps := 2000000 }) (disch:=first|omega|rfl) only[sB,dAlloc,Za,reduceCtorEq,zr90,z3j,ld3,z4p,z1f,cl18,e1,q1,z1,z2,z3,z4,z5,z6,z7,z8])|(refine EvC.condT ?_ ?_;simp (config := { maxSteps := 2000000 }) (disch:=first|omega|rfl) only[sB,Za,reduceCtorEq];refine z02 ?_)|(refine EvC.condF ?_ ?_;simp (config := { maxSteps := 2000000 }) (disch:=first|omega|rfl) only[sB,Za,reduceCtorEq];refine z02 ?_))
  refine(zac (hv.foot H1.next) w1 hid).mono ?_;rintro e H2 ⟨hy2,he2,hv2⟩;have w2:=hy2.1;have T2:=hT1.vcall hv hy2 hv2;have c2:=hv.keepRow w1 hy2 c1 rfl rfl;have b2:=hv.keepRow w1 hy2 g1 rfl rfl;have q2:=row9 c2;obtain⟨f,l,hr⟩:=T2.r
  repeat' (first|(refine EvC.reg ?_;simp (config := { maxSteps := 2000000 }) (disch:=first|omega|rfl) only[sB,Za,reduceCtorEq,ld3,z4p,z1f,cl38,q2]))
  refine(zm6 (hr.foot H2.next) hI.rin w2 hid).mono ?_;rintro v H3 ⟨hy3,bs,rfl,hb3,hr3⟩;rw[zom] at hb3 hr3;obtain⟨b1',b2',b3',b4',b5',b6',b7',ba,bn,bc,hbs⟩:=hb3.eight;have w3:=hy3.1;have T3:=T2.rcall hr hy3 hr3;have b3:=hr.keepRow w2 hy3 b2 rfl rfl rfl;have he3:=ErrB.rcall he2 hr w2 hy3;have T4:=T3.put (i:=H0.next) (by omega) b3 rfl rfl rfl rfl rfl (some (.row bs 90));have he4:=he3.put b3 rfl rfl (some (.row bs 90));have hb4:=hb3.put b3 rfl (some (.row bs 90));obtain⟨H4,e4⟩:∃H4,H3.put H0.next (some (.row bs 90))=H4:=⟨_,rfl⟩
  rw[e4] at T4 he4 hb4;have g4:H4.get H0.next=some (.row bs 90):=by rw[←e4,get_put,if_pos rfl]
  have w4:=T4.hx.wf;have fin:=z1u he4 hb4 w4 (zmh);have l4:H4.load ⟨H0.next,0,none⟩ 8=some bs:=by rw[hbs] at g4 ⊢;simp only[Heap.load,Heap.cells,g4];rfl
  subst hbs
  repeat' (first|refine EvC.seq ?_|(refine EvC.reg ?_;simp (config := { maxSteps := 2000000 }) (disch:=first|omega|rfl) only[sB,Za,reduceCtorEq,ld90,cl37,l4])|(refine z08 ?_;simp (config := { maxSteps := 2000000 }) (disch:=first|omega|rfl) only[sB,Zb,one,st90,b3,e4]))
  refine fin.mono ?_;rintro v H5 ⟨rfl,hx5⟩
  repeat' (first|refine EvC.seq ?_|(refine EvC.ret ?_)|(refine EvC.reg ?_;simp (config := { maxSteps := 2000000 }) (disch:=first|omega|rfl) only[sB,Za,reduceCtorEq,z19 rfl]))
  exact z06 rfl (by simp only[sG,Za,reduceCtorEq]) ⟨rfl,(φ.advR id nn).2,T4.keep hx5,hU.adv id nn⟩
 ·subst hk;have z1:((9:Int) == 1)=false:=rfl;have z2:((9:Int) == 2)=false:=rfl;have z3:((9:Int) == 3)=false:=rfl;have z4:((9:Int) == 4)=false:=rfl;have z5:((9:Int) == 5)=false:=rfl;have z6:((9:Int) == 6)=false:=rfl;have z7:((9:Int) == 7)=false:=rfl;have z8:((9:Int) == 8)=false:=rfl;have z9:((9:Int) == 9)=true:=rfl
  repeat' (first|refine EvC.seq ?_|refine EvC.block ?_|(refine EvC.reg ?_;simp (config := { maxSteps := 2000000 }) (disch:=first|omega|rfl) only[sB,dAlloc,Za,reduceCtorEq,zr90,z3j,ld3,z7g,ld9,z1f,cl19,e1,q1,z1,z2,z3,z4,z5,z6,z7,z8,z9])|(refine EvC.condT ?_ ?_;simp (config := { maxSteps := 2000000 }) (disch:=first|omega|rfl) only[sB,Za,reduceCtorEq];refine z02 ?_)|(refine EvC.condF ?_ ?_;simp (config := { maxSteps := 2000000 }) (disch:=first|omega|rfl) only[sB,Za,reduceCtorEq];refine z02 ?_))
  refine(znk (hv.foot H1.next) w1 hid hwr.1 hwr.2 hnm (fun s hs=>hI.fileD _) (by omega)).mono ?_;rintro e H2 ⟨hy2,he2,hv2⟩;have w2:=hy2.1;have T2:=hT1.vcall hv hy2 hv2;have c2:=hv.keepRow w1 hy2 c1 rfl rfl;have b2:=hv.keepRow w1 hy2 g1 rfl rfl;have q2:=row9 c2;obtain⟨f,l,hr⟩:=T2.r
  repeat' (first|(refine EvC.reg ?_;simp (config := { maxSteps := 2000000 }) (disch:=first|omega|rfl) only[sB,Za,reduceCtorEq,ld3,z7g,ld9,z1f,cl39,q2]))
  refine(zkb (hr.foot H2.next) hI.rin w2 hid hnm).mono ?_;rintro v H3 ⟨hy3,bs,rfl,hb3,hr3⟩;rw[zon] at hb3 hr3;obtain⟨b1',b2',b3',b4',b5',b6',b7',ba,bn,bc,hbs⟩:=hb3.eight;have w3:=hy3.1;have T3:=T2.rcall hr hy3 hr3;have b3:=hr.keepRow w2 hy3 b2 rfl rfl rfl;have he3:=ErrB.rcall he2.b hr w2 hy3;have T4:=T3.put (i:=H0.next) (by omega) b3 rfl rfl rfl rfl rfl (some (.row bs 90));have he4:=he3.put b3 rfl rfl (some (.row bs 90));have hb4:=hb3.put b3 rfl (some (.row bs 90));obtain⟨H4,e4⟩:∃H4,H3.put H0.next (some (.row bs 90))=H4:=⟨_,rfl⟩
  rw[e4] at T4 he4 hb4;have g4:H4.get H0.next=some (.row bs 90):=by rw[←e4,get_put,if_pos rfl]
  have w4:=T4.hx.wf;have fin:=z1u he4 hb4 w4 (z4o _);have l4:H4.load ⟨H0.next,0,none⟩ 8=some bs:=by rw[hbs] at g4 ⊢;simp only[Heap.load,Heap.cells,g4];rfl
  subst hbs
  repeat' (first|refine EvC.seq ?_|(refine EvC.reg ?_;simp (config := { maxSteps := 2000000 }) (disch:=first|omega|rfl) only[sB,Za,reduceCtorEq,ld90,cl37,l4])|(refine z08 ?_;simp (config := { maxSteps := 2000000 }) (disch:=first|omega|rfl) only[sB,Zb,one,st90,b3,e4]))
  refine fin.mono ?_;rintro v H5 ⟨rfl,hx5⟩
  repeat' (first|refine EvC.seq ?_|(refine EvC.ret ?_)|(refine EvC.reg ?_;simp (config := { maxSteps := 2000000 }) (disch:=first|omega|rfl) only[sB,Za,reduceCtorEq,z19 rfl]))
  exact z06 rfl (by simp only[sG,Za,reduceCtorEq]) ⟨rfl,(φ.putR id nm).2,T4.keep hx5,hU.put id nm⟩
 ·subst hk;have z1:((10:Int) == 1)=false:=rfl;have z2:((10:Int) == 2)=false:=rfl;have z3:((10:Int) == 3)=false:=rfl;have z4:((10:Int) == 4)=false:=rfl;have z5:((10:Int) == 5)=false:=rfl;have z6:((10:Int) == 6)=false:=rfl;have z7:((10:Int) == 7)=false:=rfl;have z8:((10:Int) == 8)=false:=rfl;have z9:((10:Int) == 9)=false:=rfl;have z10:((10:Int) == 10)=true:=rfl
  repeat' (first|refine EvC.seq ?_|refine EvC.block ?_|(refine EvC.reg ?_;simp (config := { maxSteps := 2000000 }) (disch:=first|omega|rfl) only[sB,dAlloc,Za,reduceCtorEq,zr90,z3j,ld3,z4p,z1f,cl20,e1,q1,z1,z2,z3,z4,z5,z6,z7,z8,z9,z10])|(refine EvC.condT ?_ ?_;simp (config := { maxSteps := 2000000 }) (disch:=first|omega|rfl) only[sB,Za,reduceCtorEq];refine z02 ?_)|(refine EvC.condF ?_ ?_;simp (config := { maxSteps := 2000000 }) (disch:=first|omega|rfl) only[sB,Za,reduceCtorEq];refine z02 ?_))
  refine(zad (hv.foot H1.next) w1 hid hwr.1 hwr.2 (fun s hs=>hI.fileD _) (by omega)).mono ?_;rintro e H2 ⟨hy2,he2,hv2⟩;have w2:=hy2.1;have T2:=hT1.vcall hv hy2 hv2;have c2:=hv.keepRow w1 hy2 c1 rfl rfl;have b2:=hv.keepRow w1 hy2 g1 rfl rfl;have q2:=row9 c2;obtain⟨f,l,hr⟩:=T2.r
  repeat' (first|(refine EvC.reg ?_;simp (config := { maxSteps := 2000000 }) (disch:=first|omega|rfl) only[sB,Za,reduceCtorEq,ld3,z4p,z1f,cl40,q2]))
  refine(zkc (hr.foot H2.next) hI.rin w2 hid).mono ?_;rintro v H3 ⟨hy3,bs,rfl,hb3,hr3⟩;rw[zed] at hb3 hr3;obtain⟨b1',b2',b3',b4',b5',b6',b7',ba,bn,bc,hbs⟩:=hb3.eight;have w3:=hy3.1;have T3:=T2.rcall hr hy3 hr3;have b3:=hr.keepRow w2 hy3 b2 rfl rfl rfl;have he3:=ErrB.rcall he2 hr w2 hy3;have T4:=T3.put (i:=H0.next) (by omega) b3 rfl rfl rfl rfl rfl (some (.row bs 90));have he4:=he3.put b3 rfl rfl (some (.row bs 90));have hb4:=hb3.put b3 rfl (some (.row bs 90));obtain⟨H4,e4⟩:∃H4,H3.put H0.next (some (.row bs 90))=H4:=⟨_,rfl⟩
  rw[e4] at T4 he4 hb4;have g4:H4.get H0.next=some (.row bs 90):=by rw[←e4,get_put,if_pos rfl]
  have w4:=T4.hx.wf;have fin:=z1u he4 hb4 w4 (zkp);have l4:H4.load ⟨H0.next,0,none⟩ 8=some bs:=by rw[hbs] at g4 ⊢;simp only[Heap.load,Heap.cells,g4];rfl
  subst hbs
  repeat' (first|refine EvC.seq ?_|(refine EvC.reg ?_;simp (config := { maxSteps := 2000000 }) (disch:=first|omega|rfl) only[sB,Za,reduceCtorEq,ld90,cl37,l4])|(refine z08 ?_;simp (config := { maxSteps := 2000000 }) (disch:=first|omega|rfl) only[sB,Zb,one,st90,b3,e4]))
  refine fin.mono ?_;rintro v H5 ⟨rfl,hx5⟩
  repeat' (first|refine EvC.seq ?_|(refine EvC.ret ?_)|(refine EvC.reg ?_;simp (config := { maxSteps := 2000000 }) (disch:=first|omega|rfl) only[sB,Za,reduceCtorEq,z19 rfl]))
  exact z06 rfl (by simp only[sG,Za,reduceCtorEq]) ⟨rfl,(φ.putByteR id nn).2,T4.keep hx5,hU.putByte id nn⟩
 ·subst hk;have z1:((11:Int) == 1)=false:=rfl;have z2:((11:Int) == 2)=false:=rfl;have z3:((11:Int) == 3)=false:=rfl;have z4:((11:Int) == 4)=false:=rfl;have z5:((11:Int) == 5)=false:=rfl;have z6:((11:Int) == 6)=false:=rfl;have z7:((11:Int) == 7)=false:=rfl;have z8:((11:Int) == 8)=false:=rfl;have z9:((11:Int) == 9)=false:=rfl;have z10:((11:Int) == 10)=false:=rfl;have z11:((11:Int) == 11)=true:=rfl
  repeat' (first|refine EvC.seq ?_|refine EvC.block ?_|(refine EvC.reg ?_;simp (config := { maxSteps := 2000000 }) (disch:=first|omega|rfl) only[sB,dAlloc,Za,reduceCtorEq,zr90,z3j,ld3,z4p,z1f,cl21,e1,q1,z1,z2,z3,z4,z5,z6,z7,z8,z9,z10,z11])|(refine EvC.condT ?_ ?_;simp (config := { maxSteps := 2000000 }) (disch:=first|omega|rfl) only[sB,Za,reduceCtorEq];refine z02 ?_)|(refine EvC.condF ?_ ?_;simp (config := { maxSteps := 2000000 }) (disch:=first|omega|rfl) only[sB,Za,reduceCtorEq];refine z02 ?_))
  refine(zjn (hv.foot H1.next) w1 hid hnn).mono ?_;rintro e H2 ⟨hy2,he2,hv2⟩;have w2:=hy2.1;have T2:=hT1.vcall hv hy2 hv2;have c2:=hv.keepRow w1 hy2 c1 rfl rfl;have b2:=hv.keepRow w1 hy2 g1 rfl rfl;have q2:=row9 c2;obtain⟨f,l,hr⟩:=T2.r
  repeat' (first|(refine EvC.reg ?_;simp (config := { maxSteps := 2000000 }) (disch:=first|omega|rfl) only[sB,Za,reduceCtorEq,ld3,z4p,z1f,cl41,q2]))
  refine(zkl (hr.foot H2.next) hI.rin w2 hid hnn).mono ?_;rintro v H3 ⟨hy3,bs,rfl,hb3,hr3⟩;rw[zm3 hI.rp] at hb3 hr3;obtain⟨b1',b2',b3',b4',b5',b6',b7',ba,bn,bc,hbs⟩:=hb3.eight;have w3:=hy3.1;have T3:=T2.rcall hr hy3 hr3;have b3:=hr.keepRow w2 hy3 b2 rfl rfl rfl;have he3:=ErrB.rcall he2.b hr w2 hy3;have T4:=T3.put (i:=H0.next) (by omega) b3 rfl rfl rfl rfl rfl (some (.row bs 90));have he4:=he3.put b3 rfl rfl (some (.row bs 90));have hb4:=hb3.put b3 rfl (some (.row bs 90));obtain⟨H4,e4⟩:∃H4,H3.put H0.next (some (.row bs 90))=H4:=⟨_,rfl⟩
  rw[e4] at T4 he4 hb4;have g4:H4.get H0.next=some (.row bs 90):=by rw[←e4,get_put,if_pos rfl]
  have w4:=T4.hx.wf;have fin:=z1u he4 hb4 w4 (z4o _);have l4:H4.load ⟨H0.next,0,none⟩ 8=some bs:=by rw[hbs] at g4 ⊢;simp only[Heap.load,Heap.cells,g4];rfl
  subst hbs
  repeat' (first|refine EvC.seq ?_|(refine EvC.reg ?_;simp (config := { maxSteps := 2000000 }) (disch:=first|omega|rfl) only[sB,Za,reduceCtorEq,ld90,cl37,l4])|(refine z08 ?_;simp (config := { maxSteps := 2000000 }) (disch:=first|omega|rfl) only[sB,Zb,one,st90,b3,e4]))
  refine fin.mono ?_;rintro v H5 ⟨rfl,hx5⟩
  repeat' (first|refine EvC.seq ?_|(refine EvC.ret ?_)|(refine EvC.reg ?_;simp (config := { maxSteps := 2000000 }) (disch:=first|omega|rfl) only[sB,Za,reduceCtorEq,z19 rfl]))
  exact z06 rfl (by simp only[sG,Za,reduceCtorEq]) ⟨rfl,(φ.seekR id nn).2,T4.keep hx5,hU.seek id nn⟩
 ·subst hk;have z1:((12:Int) == 1)=false:=rfl;have z2:((12:Int) == 2)=false:=rfl;have z3:((12:Int) == 3)=false:=rfl;have z4:((12:Int) == 4)=false:=rfl;have z5:((12:Int) == 5)=false:=rfl;have z6:((12:Int) == 6)=false:=rfl;have z7:((12:Int) == 7)=false:=rfl;have z8:((12:Int) == 8)=false:=rfl;have z9:((12:Int) == 9)=false:=rfl;have z10:((12:Int) == 10)=false:=rfl;have z11:((12:Int) == 11)=false:=rfl;have z12:((12:Int) == 12)=true:=rfl
  repeat' (first|refine EvC.seq ?_|refine EvC.block ?_|(refine EvC.reg ?_;simp (config := { maxSteps := 2000000 }) (disch:=first|omega|rfl) only[sB,dAlloc,Za,reduceCtorEq,zr90,z3j,ld3,z1f,cl24,e1,q1,z1,z2,z3,z4,z5,z6,z7,z8,z9,z10,z11,z12])|(refine EvC.condT ?_ ?_;simp (config := { maxSteps := 2000000 }) (disch:=first|omega|rfl) only[sB,Za,reduceCtorEq];refine z02 ?_)|(refine EvC.condF ?_ ?_;simp (config := { maxSteps := 2000000 }) (disch:=first|omega|rfl) only[sB,Za,reduceCtorEq];refine z02 ?_))
  refine(zd2 hv w1 hid (fun s hs=>⟨(hI.pos s hs).1,(hI.pos s hs).2.1⟩)).mono ?_;rintro v H2 ⟨hx2,hor2⟩;have w2:=hx2.wf;have T2:=hT1.keep hx2;have q2:=row9 (hx2.get w1 c1);obtain⟨f,l,hr⟩:=T2.r;obtain⟨sv,bv,rfl,hsb⟩:∃sv bv,v=.tuple ⟨[.agg ⟨sv⟩,.bool bv]⟩∧((φ.get id=none∧sv=zero10∧bv=false)∨∃s,φ.get id=some s∧sv=φ.tell s∧bv=true):=by
   rcases hor2 with ⟨a,rfl⟩|⟨s,a,rfl⟩
   ·exact⟨_,_,rfl,.inl ⟨a,rfl,rfl⟩⟩
   ·exact⟨_,_,rfl,.inr ⟨s,a,rfl,rfl⟩⟩
  obtain⟨x0,x1,x2,x3,x4,x5,x6,x7,x8,x9,rfl⟩:∃x0 x1 x2 x3 x4 x5 x6 x7 x8 x9,sv=rowT ⟨x0,x1,x2,x3,x4,x5,x6,0,0,0,false⟩ x7 x8 x9:=by
   rcases hsb with ⟨-,rfl,-⟩|⟨s,-,rfl,-⟩
   ·exact⟨_,_,_,_,_,_,_,_,_,_,rfl⟩
   ·exact⟨_,_,_,_,_,_,_,_,_,_,rfl⟩
  obtain⟨H3,e3,hx3,g3,n3,w3⟩:=z18 w2 (.row zero10 61) (.row (rowT ⟨x0,x1,x2,x3,x4,x5,x6,0,0,0,false⟩ x7 x8 x9) 61);have q3:=row9 (hx3.get w2 (hx2.get w1 c1))
  repeat' (first|refine EvC.seq ?_|(refine EvC.reg ?_;simp (config := { maxSteps := 2000000 }) (disch:=first|omega|rfl) only[sB,Za,reduceCtorEq,ld3,z1f,cl42,q3])|(refine z08 ?_;simp (config := { maxSteps := 2000000 }) (disch:=first|omega|rfl) only[sB,dAlloc,Za,Zb,one,reduceCtorEq,zr61,st61,e3]))
  refine(zej (hr.keep hx3 w2) hI.rin w3 hid).mono ?_;rintro v H4 ⟨hx4,hor4⟩;have w4:=hx4.wf;obtain rfl:v=.tuple ⟨[.agg ⟨rowT ⟨x0,x1,x2,x3,x4,x5,x6,0,0,0,false⟩ x7 x8 x9⟩,.bool bv]⟩:=by
   rcases hor4 with ⟨a,rfl⟩|⟨s',a,rfl⟩<;>rcases hsb with ⟨b1,b2,rfl⟩|⟨s,b1,b2,rfl⟩
   ·rw[b2]
   ·rw[z3x,b1] at a;cases a
   ·rw[z3x,b1] at a;cases a
   ·rw[z3x,b1] at a;cases a;rw[zop,b2]
  obtain⟨H5,e5,hx5,g5,n5,w5⟩:=z18 w4 (.row zero10 61) (.row (rowT ⟨x0,x1,x2,x3,x4,x5,x6,0,0,0,false⟩ x7 x8 x9) 61);have l5:=(row10 g5).1;have l53:=(row10 (hx5.get w4 (hx4.get w3 g3))).1;have hbb:dBin Tryz.prog .eql 4 (.tmp 231) (.tmp 232) (.bool bv) (.bool bv) H5=some (.val (.bool true) H5):=by cases bv<;>kernel_rfl
  have hq:∀x y:Operand,dBin Tryz.prog .eql 61 x y (.agg ⟨[.int .i64 x0,.string x1,.int .i64 x2,.bool x3,.string x4,.int .i64 x5,.bool x6,.int .i64 x7,.int .i64 x8,.int .i64 x9]⟩) (.agg ⟨[.int .i64 x0,.string x1,.int .i64 x2,.bool x3,.string x4,.int .i64 x5,.bool x6,.int .i64 x7,.int .i64 x8,.int .i64 x9]⟩) H5=some (.val (.bool true) H5):=fun x y=>zqp (s:=⟨x0,x1,x2,x3,x4,x5,x6,0,0,0,false⟩)
  repeat' (first|refine EvC.seq ?_|(refine EvC.ret ?_;try simp only[z05,z03])|(refine EvC.reg ?_;simp (config := { maxSteps := 2000000 }) (disch:=first|omega|rfl) only[sB,Za,reduceCtorEq,ld61,l5,l53,hq,zq7])|(refine z08 ?_;simp (config := { maxSteps := 2000000 }) (disch:=first|omega|rfl) only[sB,dAlloc,Za,Zb,one,reduceCtorEq,zr61,st61,e5]))
  exact z06 rfl (by simp only[sG,Za,reduceCtorEq]) ⟨rfl,φ,(((T2.keep hx3).keep hx4).keep hx5),hU⟩
 ·subst hk;have z1:((13:Int) == 1)=false:=rfl;have z2:((13:Int) == 2)=false:=rfl;have z3:((13:Int) == 3)=false:=rfl;have z4:((13:Int) == 4)=false:=rfl;have z5:((13:Int) == 5)=false:=rfl;have z6:((13:Int) == 6)=false:=rfl;have z7:((13:Int) == 7)=false:=rfl;have z8:((13:Int) == 8)=false:=rfl;have z9:((13:Int) == 9)=false:=rfl;have z10:((13:Int) == 10)=false:=rfl;have z11:((13:Int) == 11)=false:=rfl;have z12:((13:Int) == 12)=false:=rfl;have z13:((13:Int) == 13)=true:=rfl
  repeat' (first|refine EvC.seq ?_|refine EvC.block ?_|(refine EvC.reg ?_;simp (config := { maxSteps := 2000000 }) (disch:=first|omega|rfl) only[sB,dAlloc,Za,reduceCtorEq,zr90,z3j,ld3,z7g,ld9,cl25,e1,q1,z1,z2,z3,z4,z5,z6,z7,z8,z9,z10,z11,z12,z13])|(refine EvC.condT ?_ ?_;simp (config := { maxSteps := 2000000 }) (disch:=first|omega|rfl) only[sB,Za,reduceCtorEq];refine z02 ?_)|(refine EvC.condF ?_ ?_;simp (config := { maxSteps := 2000000 }) (disch:=first|omega|rfl) only[sB,Za,reduceCtorEq];refine z02 ?_))
  refine(zg7 hv w1 (fun o ho o' ho' hz e e'=>hI.al o ho o' ho' (by rw[e];exact hz) (by rw[e,e']))).mono ?_;rintro v H2 ⟨hx2,rfl⟩;have w2:=hx2.wf;have T2:=hT1.keep hx2;have q2:=row9 (hx2.get w1 c1);obtain⟨f,l,hr⟩:=T2.r
  repeat' (first|refine EvC.seq ?_|(refine EvC.reg ?_;simp (config := { maxSteps := 2000000 }) (disch:=first|omega|rfl) only[sB,Za,reduceCtorEq,z7g,ld9,cl43,q2])|(refine z08 ?_;simp (config := { maxSteps := 2000000 }) (disch:=first|omega|rfl) only[sB,Za,reduceCtorEq]))
  refine(zai hr hI.rin.no).mono ?_;rintro v H3 ⟨hq,rfl⟩;have hq':=hq.symm;subst hq';rw[zge]
  repeat' (first|refine EvC.seq ?_|(refine EvC.ret ?_;try simp only[z05,z03])|(refine EvC.reg ?_;simp (config := { maxSteps := 2000000 }) (disch:=first|omega|rfl) only[sB,Za,reduceCtorEq,z19 rfl,zq7])|(refine z08 ?_;simp (config := { maxSteps := 2000000 }) (disch:=first|omega|rfl) only[sB,Za,reduceCtorEq]))
  exact z06 rfl (by simp only[sG,Za,reduceCtorEq]) ⟨rfl,φ,T2,hU⟩
 ·subst hk;have z1:((14:Int) == 1)=false:=rfl;have z2:((14:Int) == 2)=false:=rfl;have z3:((14:Int) == 3)=false:=rfl;have z4:((14:Int) == 4)=false:=rfl;have z5:((14:Int) == 5)=false:=rfl;have z6:((14:Int) == 6)=false:=rfl;have z7:((14:Int) == 7)=false:=rfl;have z8:((14:Int) == 8)=false:=rfl;have z9:((14:Int) == 9)=false:=rfl;have z10:((14:Int) == 10)=false:=rfl;have z11:((14:Int) == 11)=false:=rfl;have z12:((14:Int) == 12)=false:=rfl;have z13:((14:Int) == 13)=false:=rfl;have z14:((14:Int) == 14)=true:=rfl
  repeat' (first|refine EvC.seq ?_|refine EvC.block ?_|(refine EvC.reg ?_;simp (config := { maxSteps := 2000000 }) (disch:=first|omega|rfl) only[sB,dAlloc,Za,reduceCtorEq,zr90,z3j,ld3,cl10,e1,q1,z1,z2,z3,z4,z5,z6,z7,z8,z9,z10,z11,z12,z13,z14])|(refine EvC.condT ?_ ?_;simp (config := { maxSteps := 2000000 }) (disch:=first|omega|rfl) only[sB,Za,reduceCtorEq];refine z02 ?_)|(refine EvC.condF ?_ ?_;simp (config := { maxSteps := 2000000 }) (disch:=first|omega|rfl) only[sB,Za,reduceCtorEq];refine z02 ?_))
  refine(zmc hT1 hI (by omega)).mono ?_;rintro v H2 ⟨rfl,hx2⟩
  repeat' (first|(refine EvC.ret ?_;try simp only[z05,z03]))
  exact z06 rfl (by simp only[sG,Za,reduceCtorEq]) ⟨rfl,φ,hT1.keep hx2,hU⟩
 ·have fin:=z1u (b:=.none) (e:=.nilIface) (bs:=bad8) rfl rfl w1 (by simp);have z1:(kd == 1)=false:=z0r (by omega);have z2:(kd == 2)=false:=z0r (by omega);have z3:(kd == 3)=false:=z0r (by omega);have z4:(kd == 4)=false:=z0r (by omega);have z5:(kd == 5)=false:=z0r (by omega);have z6:(kd == 6)=false:=z0r (by omega);have z7:(kd == 7)=false:=z0r (by omega);have z8:(kd == 8)=false:=z0r (by omega);have z9:(kd == 9)=false:=z0r (by omega);have z10:(kd == 10)=false:=z0r (by omega);have z11:(kd == 11)=false:=z0r (by omega);have z12:(kd == 12)=false:=z0r (by omega);have z13:(kd == 13)=false:=z0r (by omega);have z14:(kd == 14)=false:=z0r (by omega);have l1:H1.load ⟨H0.next,0,none⟩ 8=some bad8:=by simp only[Heap.load,Heap.cells,g1];rfl
  repeat' (first|refine EvC.seq ?_|refine EvC.block ?_|(refine EvC.skip ?_;try simp only[sA])|(refine EvC.reg ?_;simp (config := { maxSteps := 2000000 }) (disch:=first|omega|rfl) only[sB,dAlloc,Za,reduceCtorEq,zr90,z3j,ld3,ld90,cl37,e1,q1,l1,z1,z2,z3,z4,z5,z6,z7,z8,z9,z10,z11,z12,z13,z14])|(refine EvC.condF ?_ ?_;simp (config := { maxSteps := 2000000 }) (disch:=first|omega|rfl) only[sB,Za,reduceCtorEq];refine z02 ?_))
  refine fin.mono ?_;rintro v H5 ⟨rfl,hx5⟩
  repeat' (first|refine EvC.seq ?_|(refine EvC.ret ?_)|(refine EvC.reg ?_;simp (config := { maxSteps := 2000000 }) (disch:=first|omega|rfl) only[sB,Za,reduceCtorEq,z19 rfl]))
  exact z06 rfl (by simp only[sG,Za,reduceCtorEq]) ⟨rfl,φ,hT1.keep hx5,hU⟩
end Go.Proofs.hq
end

section
namespace Go.Hb
open Go Go.RowKit
structure RdF (H:Heap) (L:List (ByteArray × ByteArray)) (a:Option Addr) (c:Nat):Prop where
 len:L.length≤c
 cap:c≤maxLen
 get:∀(i:Nat) (hi:i < L.length),∃b o,a=some ⟨b,o,none⟩∧H.load ⟨b,o+i*2,none⟩ 2=some [.string L[i].1,.string L[i].2]
theorem RdF.keep {H H':Heap}{L:List (ByteArray × ByteArray)}{a:Option Addr}{c:Nat}(h:RdF H L a c) (hx:HX H H') (hw:H.wf):RdF H' L a c:=⟨h.len,h.cap,fun i hi=>by obtain⟨b,o,e,l⟩:=h.get i hi;exact⟨b,o,e,hx.load hw l⟩⟩
end Go.Hb
namespace Go.Proofs.hq
open Go Go.RowKit Go.Hb
variable {ok:Ok}
set_option maxRecDepth 10000
attribute [local irreducible] LX LG EL STG SOP SGO SGD SAL SRD SEF SEG SLK SCK ES
theorem zqt {H:Heap}{m:Nat}{l:List (ByteArray × ByteArray)}(h:MapS H m (l.map fun x=>(x.1,.string x.2))) (n:ByteArray) (ok:Bool) :
  dLk Tryz.prog 74 (.map (some m)) (.string n) ok H=some (.val (if ok then .tuple #[.string (((l.find? fun o=>n == o.1).map (·.2)).getD Zg),.bool (l.find? fun o=>n == o.1).isSome] else .string (((l.find? fun o=>n == o.1).map (·.2)).getD Zg)) H):=by
 have hmg:=z91 l n;cases hg:l.find? fun o=>n == o.1 with
 |some d=>exact zbc (P:=Tryz.prog) (ok:=ok) spFl h (n:=n) (v:=.string d.2) (by rw[hmg,hg];rfl)
 |none=>exact zbd (P:=Tryz.prog) (ok:=ok) spFl h (n:=n) (by rw[hmg,hg];rfl)
def fErr:List (ByteArray × ByteArray)→List (ByteArray × ByteArray)→Option Int
 |_,[]=>none
 |seen,x :: l=>if (seen.find? fun o=>x.1 == o.1).isSome=true∨named x.1=false then some 81 else if 20000 < x.2.size then some 82 else fErr (seen++[x]) l
def endE (o:Option Int) (u:ByteArray):Int:=match o with
 |some e=>e
 |none=>if 20000 < u.size then 82 else 0
def newE (L:List (ByteArray × ByteArray)) (u:ByteArray):Int:=if 16 < L.length then 80 else endE (fErr [] L) u
def fs0 (L:List (ByteArray × ByteArray)) (u:ByteArray):FSt:=⟨L,[(0,str0),(1,str1)],2,u,e0,0,1,0⟩
theorem zdd {L:List (ByteArray × ByteArray)}{i:Nat}(hi:i < L.length):fErr (L.take i) (L.drop i)=if ((L.take i).find? fun o=>(L[i]).1 == o.1).isSome=true∨named (L[i]).1=false then some 81 else if 20000 < (L[i]).2.size then some 82 else fErr (L.take (i+1)) (L.drop (i+1)):=by
 rw[List.drop_eq_getElem_cons hi,fErr,List.take_append_getElem]
theorem zgp (L:List (ByteArray × ByteArray)):fErr (L.take L.length) (L.drop L.length)=none:=by rw[List.drop_length,fErr]
theorem zmj {l:List (ByteArray × ByteArray)}{n d:ByteArray}(h:(l.find? fun o=>n == o.1)=none):fset l n d=l++[(n,d)]:=by
 unfold fset;have:l.findIdx? (fun p=>n == p.1)=none:=List.findIdx?_eq_none_iff.2 fun x hx=>by simpa using List.find?_eq_none.1 h x hx
 rw[this]
end Go.Proofs.hq
end

section
namespace Go.Proofs.hq
open Go Go.RowKit Go.Hb
variable {ok:Ok}
set_option maxRecDepth 10000
attribute [local irreducible] LX LG EL STG SOP SGO SGD SAL SRD SEF SEG SLK SCK ES
set_option maxHeartbeats 8000000 in
theorem zp2 {H:Heap}{L:List (ByteArray × ByteArray)}{a:Option Addr}{c:Nat}{u:ByteArray}(hR:RdF H L a c) (hw:H.wf) :
  EvF Tryz.prog okT 7 [.slice a L.length c,.string u] H fun v H'=>HX H H'∧((newE L u≠0∧v=.tuple ⟨[.pointer none,.int .i64 (newE L u)]⟩)∨(newE L u=0∧∃p fb ob blk,v=.tuple ⟨[ptrV p,.int .i64 0]⟩∧FsB H' (fun i=>H.next≤i) p fb ob blk (fs0 L u))):=by
 refine EvF.enter rfl Tryz.func7 (by decide) rfl ?_;have hcl:=hR.len;have hcm:=hR.cap;have hmx:maxLen=9223372036854775807:=rfl;by_cases h16:16 < L.length
 ·have c1:decide ((16:Int) < (L.length:Int))=true:=decide_eq_true (by omega);have hE:newE L u=80:=by unfold newE;rw[if_pos h16]
  repeat' (first|refine EvC.seq ?_|(refine EvC.ret ?_;try simp only[z05,z03])|(refine EvC.reg ?_;simp (config := { maxSteps := 2000000 }) (disch:=first|omega|rfl) only[sB,initTm,Za,reduceCtorEq,ln22,c1,gt_iff_lt])|(refine EvC.condT ?_ ?_;simp (config := { maxSteps := 2000000 }) (disch:=first|omega|rfl) only[sB,Za,reduceCtorEq];refine z02 ?_))
  exact z09 rfl (by simp only[sB,Za,reduceCtorEq];rfl) (by simp only[sB,Za,reduceCtorEq];rfl) ⟨HX.refl hw,.inl ⟨by rw[hE];decide,by rw[hE]⟩⟩
 have c1:decide ((16:Int) < (L.length:Int))=false:=decide_eq_false (by omega);have hE:newE L u=endE (fErr [] L) u:=by unfold newE;rw[if_neg h16]
 repeat' (first|refine EvC.seq ?_|refine EvC.block ?_|(refine EvC.skip ?_;try simp only[z00])|(refine EvC.reg ?_;simp (config := { maxSteps := 2000000 }) (disch:=first|omega|rfl) only[sB,initTm,dBox,Za,Zb,Value.cells,one,reduceCtorEq,Zh,layC,ln22,bd77,c1,ze5])|(refine EvC.condF ?_ ?_;simp (config := { maxSteps := 2000000 }) (disch:=first|omega|rfl) only[sB,Za,reduceCtorEq];refine z02 ?_))
 obtain⟨H3,e3,hx3,gf,go,gp,n3,w3⟩:=zqn hw (.map [] 0) (.map [] 0) (.row [.map (some H.next),.map (some (H.next+1)),.int .i64 2,.string u,.string Zg,.int .i64 0,.int .i64 1,.int .i64 0] 77);simp only[e3];refine EvC.loop (fun k st=>∃tm G i,st=⟨tm,[],G⟩∧k=L.length - i∧i≤L.length∧tm.get 1=some (.string u)∧tm.get 6=some (ptrV (H.next+2))∧tm.get 19=some (.slice a L.length c)∧tm.get 20=some (.int .i64 L.length)∧tm.get 21=some (.int .i64 (i:Nat))∧HX H G∧H.next+3≤G.next ∧
  G.get (H.next+2)=some (.row [.map (some H.next),.map (some (H.next+1)),.int .i64 2,.string u,.string Zg,.int .i64 0,.int .i64 1,.int .i64 0] 77)∧G.get (H.next+1)=some (.map [] 0)∧MapS G H.next ((L.take i).map fun x=>(x.1,.string x.2))∧BornR G H.next∧((L.take i).map (·.1)).Nodup∧fErr [] L=fErr (L.take i) (L.drop i)) ?_ L.length _ ?_
 ·rintro k st ⟨tm,G,i,rfl,rfl,hi,t1,t6,t19,t20,t21,hxG,hnG,gp,go,mf,bf,hnd,hfe⟩;have wG:=hxG.wf;by_cases hlt:i < L.length
  ·obtain⟨b,o,rfl,hld⟩:=(hR.keep hxG hw).get i hlt;have hstep:=zdd hlt;obtain⟨x,hx⟩:∃x,x=L[i]:=⟨_,rfl⟩
   rw[←hx] at hld hstep;have hw1:IntKind.i64.wrap ((i:Int)+1)=((i+1:Nat):Int):=by rw[z0e]<;>omega
   obtain⟨H4,e4,hx4,g4,n4,w4⟩:=z18 wG (.row [.string Zg,.string Zg] 73) (.row [.string x.1,.string x.2] 73);have q4:=row8 (hx4.get wG gp);have f4:H4.load ⟨G.next,0,none⟩ 1=some [.string x.1]:=by simp only[Heap.load,Heap.cells,g4];rfl
   have f5:H4.load ⟨G.next,1,none⟩ 1=some [.string x.2]:=by simp only[Heap.load,Heap.cells,g4];rfl
   have hl4:=fun ok n'=>zqt (H:=⟨n',H4.t⟩) ((mf.heap (hx4.keep _ (MapS.lt mf wG))).heap rfl) x.1 ok
   obtain⟨H5,e5,hx5,w5⟩:=z5e w4 12;rw[n4] at e5;have hx35:=hx4.trans hx5;have q5:=row8 (hx35.get wG gp);have g5:=hx5.get w4 g4;have f5a:H5.load ⟨G.next,0,none⟩ 1=some [.string x.1]:=by simp only[Heap.load,Heap.cells,g5];rfl
   have f5b:H5.load ⟨G.next,1,none⟩ 1=some [.string x.2]:=by simp only[Heap.load,Heap.cells,g5];rfl
   repeat' (first|refine EvC.seq ?_|refine EvC.block ?_|(refine EvC.skip ?_;try simp only[z00])|(refine EvC.reg ?_;simp (config := { maxSteps := 2000000 }) (disch:=first|omega|rfl) only[sB,dAlloc,Za,Zb,one,ia22,ld73,zr73,st73,t19,t20,t21,decl hlt,hld])|(refine EvC.drw (id:=7) [([(0,0),(1,0),(2,0),(3,0),(4,0),(5,0),(6,0),(7,0),(8,0),(9,0),(10,0),(11,0)],none)] ?_ ?_;kernel_rfl;simp (config := { maxSteps := 2000000 }) (disch:=first|omega|rfl) only[sD,sB,Za,Zb,isAlloc,isRead])|(refine EvC.condT ?_ ?_;simp (config := { maxSteps := 2000000 }) (disch:=first|omega|rfl) only[sB];refine z02 ?_))
   simp only[e4];cases hf:(L.take i).find? fun o=>x.1 == o.1 with
   |some z =>
    rw[hf] at hl4;simp only[Option.isSome_some,Zo,Option.getD_some] at hl4;have hE2:newE L u=81:=by rw[hE,hfe,hstep,hf,if_pos (.inl rfl)];rfl
    repeat' (first|refine EvC.seq ?_|(refine EvC.ret ?_;try simp only[z05,z03])|(refine EvC.reg ?_;simp (config := { maxSteps := 2000000 }) (disch:=first|omega|rfl) only[sB,Za])|(refine zna ?_;simp (config := { maxSteps := 2000000 }) (disch:=first|omega|rfl) only[sD,sB,Za,reduceCtorEq,z3z,ld74,z40,ld9,t6,q4,f4,z01,z04,z1p,hl4,isAlloc,isRead])|(refine EvC.condT ?_ ?_;simp (config := { maxSteps := 2000000 }) (disch:=first|omega|rfl) only[sB,Za];refine z02 ?_))
    exact z09 rfl (by simp only[sB,Za];rfl) (by simp only[sB,Za];rfl) ⟨(by have:=(hxG.trans hx4).bump 12;rw[n4] at this;exact this),.inl ⟨by rw[hE2];decide,by rw[hE2]⟩⟩
   |none =>
    rw[hf] at hl4;simp only[Option.isSome_none,Option.map_none,Option.getD_none] at hl4
    repeat' (first|refine EvC.seq ?_|(refine EvC.reg ?_;simp (config := { maxSteps := 2000000 }) (disch:=first|omega|rfl) only[sB,Za,z40,ld9])|(refine zna ?_;simp (config := { maxSteps := 2000000 }) (disch:=first|omega|rfl) only[sD,sB,Za,reduceCtorEq,z3z,ld74,z40,ld9,t6,q4,f4,z01,z04,z1p,hl4,isAlloc,isRead]))
    simp only[e5]
    repeat' (first|(refine z08 ?_;simp (config := { maxSteps := 2000000 }) (disch:=first|omega|rfl) only[sB,Za,cl31,f5a]))
    refine(zg1 w5).mono ?_;rintro v H' ⟨rfl,hq⟩;have hq':=hq.symm;subst hq';cases hnm:named x.1 with
    |false =>
     have hE2:newE L u=81:=by rw[hE,hfe,hstep,hf,if_pos (.inr hnm)];rfl
     repeat' (first|refine EvC.seq ?_|(refine EvC.ret ?_;try simp only[z05,z03])|(refine EvC.reg ?_;simp (config := { maxSteps := 2000000 }) (disch:=first|omega|rfl) only[sA])|(refine z08 ?_;simp (config := { maxSteps := 2000000 }) (disch:=first|omega|rfl) only[sB,Za,reduceCtorEq,Zm])|(refine EvC.condT ?_ ?_;simp (config := { maxSteps := 2000000 }) (disch:=first|omega|rfl) only[sB,Za];refine z02 ?_))
     exact z09 rfl (by simp only[sB,Za];rfl) (by simp only[sB,Za];rfl) ⟨hxG.trans hx35,.inl ⟨by rw[hE2];decide,by rw[hE2]⟩⟩
    |true =>
     rw[hf,if_neg (fun q=>by rcases q with q|q;cases q;rw[hnm] at q;cases q)] at hstep;by_cases h20:(20000:Int) < x.2.size
     ·have hE2:newE L u=82:=by rw[hE,hfe,hstep,if_pos (by omega)];rfl
      repeat' (first|refine EvC.seq ?_|(refine EvC.skip ?_;try simp only[z00])|(refine EvC.ret ?_;try simp only[z05,z03])|(refine EvC.reg ?_;simp (config := { maxSteps := 2000000 }) (disch:=first|omega|rfl) only[sB,Za,ld9,z5i,ln9,f5b,gt_iff_lt,decide_eq_true h20])|(refine z08 ?_;simp (config := { maxSteps := 2000000 }) (disch:=first|omega|rfl) only[sB,Za,Zn,Zc])|(refine EvC.condT ?_ ?_;simp (config := { maxSteps := 2000000 }) (disch:=first|omega|rfl) only[sB,Za];refine z02 ?_)|(refine EvC.condF ?_ ?_;simp (config := { maxSteps := 2000000 }) (disch:=first|omega|rfl) only[sB,Za];refine z02 ?_))
      exact z09 rfl (by simp only[sB,Za];rfl) (by simp only[sB,Za];rfl) ⟨hxG.trans hx35,.inl ⟨by rw[hE2];decide,by rw[hE2]⟩⟩
     rw[if_neg (by omega)] at hstep;obtain⟨H6,e6,hx6,w6⟩:=z5e w5 9;have hx36:=hx35.trans hx6;have mf6:=mf.heap (hx36.keep _ (MapS.lt mf wG));obtain⟨Bm,hU,mf7,bf7⟩:=dUs (P:=Tryz.prog) (v:=.string x.2) spFl mf6 (n:=x.1);obtain⟨H7,e7⟩:∃H7,H6.put H.next (some Bm)=H7:=⟨_,rfl⟩
     have lfG:=MapS.lt mf wG;have hx7:HX H H7:=by rw[←e7];exact(hxG.trans hx36).put (Ze _) (by have:=hx36.next;omega) _
     have k7:∀i,i≠H.next→i < G.next→H7.get i=G.get i:=fun i h1 h2=>by rw[←e7,get_put,if_neg h1];exact hx36.keep i h2
     have bf7:=bf7 (bf.heap (hx36.keep _ lfG));rw[e7] at mf7 bf7;have q6:=row8 ((hx36.get wG gp));have g6:=hx6.get w5 g5;have f6a:H6.load ⟨G.next,0,none⟩ 1=some [.string x.1]:=by simp only[Heap.load,Heap.cells,g6];rfl
     have f6b:H6.load ⟨G.next,1,none⟩ 1=some [.string x.2]:=by simp only[Heap.load,Heap.cells,g6];rfl
     rw[←zcv,zmj hf] at mf7;have htk:L.take i++[(x.1,x.2)]=L.take (i+1):=by rw[hx];exact List.take_append_getElem hlt
     rw[htk] at mf7;have hnd7:((L.take (i+1)).map (·.1)).Nodup:=by
      rw[←htk,ZI,List.nodup_append];refine⟨hnd,by simp,fun y hy z hz e=>?_⟩;simp only[Zs,List.map_nil,List.mem_singleton] at hz;obtain⟨w,hw',rfl⟩:=List.mem_map.1 hy;have:=List.find?_eq_none.1 hf w hw';rw[z1z.2 (by rw[←hz,←e])] at this;exact this rfl
     repeat' (first|refine EvC.seq ?_|(refine EvC.skip ?_;try simp only[z00])|(refine EvC.reg ?_;simp (config := { maxSteps := 2000000 }) (disch:=first|omega|rfl) only[sB,Za,ld9,z5i,ln9,t21,f5b,gt_iff_lt,decide_eq_false h20,hw1])|(refine EvC.drw (id:=12) [([(0,0),(1,0),(2,0),(3,0),(4,0),(5,0),(6,0),(7,0)],some 8),([],none)] ?_ ?_;kernel_rfl;simp (config := { maxSteps := 2000000 }) (disch:=first|omega|rfl) only[sD,sB,Za,Zb,reduceCtorEq,z3z,ld74,z40,ld9,z5i,t6,q6,f6a,f6b,z01,z04,z1j,hU,e6,e7,isAlloc,isRead])|(refine z08 ?_;simp (config := { maxSteps := 2000000 }) (disch:=first|omega|rfl) only[sB,Za,Zn,Zc])|(refine EvC.condF ?_ ?_;simp (config := { maxSteps := 2000000 }) (disch:=first|omega|rfl) only[sB,Za];refine z02 ?_))
     exact⟨_,by omega,_,_,i+1,rfl,rfl,by omega,(by simp only[sG,Za,t1]),(by simp only[sG,Za,t6]),(by simp only[sG,Za,t19]),(by simp only[sG,Za,t20]),(by simp only[sG,Za]),hx7,by rw[←e7,z1b];have:=hx36.next;omega,(k7 _ (by omega) (by omega)).trans gp,(k7 _ (by omega) (by omega)).trans go,mf7,bf7,hnd7,by rw[hfe,hstep]⟩
  ·obtain rfl:i=L.length:=by omega
   rw[zgp] at hfe;rw[List.take_length] at mf hnd
   repeat' (first|refine EvC.seq ?_|(refine EvC.exit ?_;try simp only[sB])|(refine EvC.reg ?_;simp (config := { maxSteps := 2000000 }) (disch:=first|omega|rfl) only[sB,Za,t20,t21,decn hlt])|(refine EvC.condF ?_ ?_;simp (config := { maxSteps := 2000000 }) (disch:=first|omega|rfl) only[sB];refine z02 ?_))
   by_cases hu:(20000:Int) < u.size
   ·have hE2:newE L u=82:=by rw[hE,hfe];show (if 20000 < u.size then 82 else 0)=(82:Int);rw[if_pos (by omega)]
    repeat' (first|refine EvC.seq ?_|(refine EvC.ret ?_;try simp only[z05,z03])|(refine EvC.reg ?_;simp (config := { maxSteps := 2000000 }) (disch:=first|omega|rfl) only[sA])|(refine z08 ?_;simp (config := { maxSteps := 2000000 }) (disch:=first|omega|rfl) only[sB,Za,ln9,t1,gt_iff_lt,decide_eq_true hu])|(refine EvC.condT ?_ ?_;simp (config := { maxSteps := 2000000 }) (disch:=first|omega|rfl) only[sB,Za];refine z02 ?_))
    exact z09 rfl (by simp only[sB,Za];rfl) (by simp only[sB,Za];rfl) ⟨hxG,.inl ⟨by rw[hE2];decide,by rw[hE2]⟩⟩
   have hE2:newE L u=0:=by rw[hE,hfe];show (if 20000 < u.size then 82 else 0)=(0:Int);rw[if_neg (by omega)]
   have w7:=wG;have q7:=row8 gp;have mo7:MapR G (H.next+1) []:=⟨[],0,go,rfl⟩
   have bo7:BornR G (H.next+1):=⟨[],0,go,by simp,by simp⟩
   have n7:=hnG;obtain⟨H8,e8,hx8,g8,n8,w8⟩:=new1 w7 (.row [.int .i64 0,.string Zg,.int .i64 1,.bool false,.string ⟨#[117,115,101,114,95,105,110,112,117,116]⟩,.int .i64 3,.bool false,.int .i64 0,.int .i64 0,.int .i64 0,.bool true] 82);obtain⟨B9,hU9,mo9,bo9⟩:=z6j (P:=Tryz.prog) mpSt (mo7.heap (hx8.keep _ (mo7.lt w7))) (bo7.heap (hx8.keep _ (mo7.lt w7))) (v:=ptrV G.next) (n:=0) rfl;obtain⟨H9,e9⟩:∃H9,H8.put (H.next+1) (some B9)=H9:=⟨_,rfl⟩
   have hx9:HX H H9:=by rw[←e9];exact(hxG.trans hx8).put (by omega) (by omega) _
   rw[e9] at mo9 bo9 hU9;have w9:=hx9.wf;have k9:∀i,i≠H.next+1→i < H8.next→H9.get i=H8.get i:=fun i h1 h2=>by rw[←e9,get_put,if_neg h1]
   have gp9:=(k9 (H.next+2) (by omega) (by omega)).trans (hx8.get w7 gp);have n9:H9.next=H8.next:=by rw[←e9,z1b]
   have q9:=row8 gp9;obtain⟨H10,e10,hx10,g10,n10,w10⟩:=new1 w9 (.row [.int .i64 1,.string Zg,.int .i64 3,.bool false,.string ⟨#[117,115,101,114,95,111,117,116,112,117,116]⟩,.int .i64 3,.bool false,.int .i64 0,.int .i64 0,.int .i64 0,.bool true] 82);obtain⟨B11,hU11,mo11,bo11⟩:=z6j (P:=Tryz.prog) mpSt (mo9.heap (hx10.keep _ (mo9.lt w9))) (bo9.heap (hx10.keep _ (mo9.lt w9))) (v:=ptrV H9.next) (n:=1) rfl;obtain⟨H11,e11⟩:∃H11,H10.put (H.next+1) (some B11)=H11:=⟨_,rfl⟩
   have hx11:HX H H11:=by rw[←e11];exact(hx9.trans hx10).put (by omega) (by omega) _
   rw[e11] at mo11 bo11 hU11;have k11:∀i,i≠H.next+1→i < H10.next→H11.get i=H10.get i:=fun i h1 h2=>by rw[←e11,get_put,if_neg h1]
   have gp11:=(k11 (H.next+2) (by omega) (by omega)).trans (hx10.get w9 gp9);have hul:decide ((20000:Int) < (u.size:Int))=false:=decide_eq_false hu
   repeat' (first|refine EvC.seq ?_|(refine EvC.skip ?_;try simp only[z00])|(refine EvC.ret ?_)|(refine EvC.reg ?_;simp (config := { maxSteps := 2000000 }) (disch:=first|omega|rfl) only[sB,dBox,Za,Zb,Value.cells,one,Zh,layC,z3t,ld75,bd61,bd82,t6,q7,e8,hU9,q9,e10,hU11,z01,z04,z1j])|(refine z08 ?_;simp (config := { maxSteps := 2000000 }) (disch:=first|omega|rfl) only[sB,Za,ln9,t1,gt_iff_lt,hul])|(refine EvC.condF ?_ ?_;simp (config := { maxSteps := 2000000 }) (disch:=first|omega|rfl) only[sB,Za];refine z02 ?_))
   refine z09 rfl (by simp only[sG,Za]) (by simp only[sG,Za]) ⟨hx11,.inr ⟨hE2,H.next+2,H.next,H.next+1,fun i=>if i=0 then G.next else H9.next,rfl,?_⟩⟩;have kf:H11.get H.next=G.get H.next:=by rw[k11 _ (by omega) (by omega),hx10.keep _ (by omega),k9 _ (by omega) (by omega),hx8.keep _ (by omega)]
   have ka:H11.get G.next=H8.get G.next:=by rw[k11 _ (by omega) (by omega),hx10.keep _ (by omega),k9 _ (by omega) (by omega)]
   have kb:H11.get H9.next=H10.get H9.next:=by rw[k11 _ (by omega) (by omega)]
   refine⟨gp11,mf.heap kf,mo11,bo11,fun o ho=>?_,by simp [fs0],fun o ho o' ho' e=>?_,show H.next≤H.next+2 by omega,show H.next≤H.next from Ze _,show H.next≤H.next+1 by omega,fun o ho=>?_,by omega,bf.heap kf,hnd⟩
   ·simp only[fs0,List.mem_cons,List.not_mem_nil,or_false] at ho;rcases ho with rfl|rfl
    ·exact ka.trans g8
    ·exact kb.trans g10
   ·simp only[fs0,List.mem_cons,List.not_mem_nil,or_false] at ho ho';rcases ho with rfl|rfl<;>rcases ho' with rfl|rfl<;>simp at e ⊢<;>omega
   ·simp only[fs0,List.mem_cons,List.not_mem_nil,or_false] at ho;rcases ho with rfl|rfl
    ·show H.next≤G.next;omega
    ·show H.next≤H9.next;omega
 ·exact⟨_,_,0,rfl,rfl,Zz _,(by simp only[sG,Za,reduceCtorEq]),(by simp only[sG,Za,reduceCtorEq]),(by simp only[sG,Za,reduceCtorEq]),(by simp only[sG,Za,reduceCtorEq]),(by simp only[sB,Za,reduceCtorEq];rfl),hx3,by omega,gp,go,⟨[],0,gf,rfl⟩,⟨[],0,gf,by simp,by simp⟩,by simp,rfl⟩
end Go.Proofs.hq
end
