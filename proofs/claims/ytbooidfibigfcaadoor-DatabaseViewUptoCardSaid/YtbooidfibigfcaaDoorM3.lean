import Derived.Test.YtbooidfibigfcaaDoorM2
import Derived.Lib.ValidLaws
import Derived.DataReads
import Derived.Test.YtbooidfibigfcaaDoorProg
import Derived.KernelRfl
import Derived.WalkKit
/- Lemmas on the program's own code, towards the laws of this folder, part 3. Conditions: as each lemma says. -/
open Bool renaming and_eq_true -> Zj, false_eq_true -> Ze, not_false -> ZH, not_true -> Zq
open ByteArray renaming empty -> Zd
open Int renaming reduceToNat -> ZO
open List renaming drop_eq_getElem_cons -> ZI, ext_getElem? -> ZN, getElem?_append_left -> ZC, getElem?_eq_getElem -> Zc, getElem?_eq_none -> ZA, getElem?_map -> Zv, getElem?_take -> ZE, getElem_mem -> Zz, getElem_of_mem -> ZK, length_append -> Zy, length_cons -> ZJ, length_map -> Zt, length_take -> Zp, map_append -> ZB, map_cons -> Zx, mem_cons_of_mem -> Zm, mem_of_getElem? -> Zr, range -> Zi, take_of_length_le -> Zl
open Nat renaming beq -> Zu, beq_eq -> Zs, le_refl -> Zf, le_trans -> Zk, lt_of_lt_of_le -> Zh, lt_succ_self -> Zg, reduceAdd -> Zb, reduceEqDiff -> Za, reduceLeDiff -> Zn, zero_add -> ZF, zero_le -> Zo, zero_mul -> ZL
section
namespace Go.Hb
open Go Go.RowKit
section
variable {P:Program}{H:Heap}{e:TypeId}{s base b c:Nat}{L:List (List Value)}{v:Value}
theorem RepO.empty:RepO H e s base [] (.slice none 0 0):=.inl ⟨rfl,rfl⟩
theorem RepO.own (h:RepO H e s base L v) (h0:L≠[]):∃b c,OwnS H e s base L b c/\v=.slice (some ⟨b,0,none⟩) L.length c:=by
 rcases h with ⟨h1,_⟩|h
 ·exact absurd h1 h0
 ·exact h
theorem RepO.slice (h:RepO H e s base L v):∃a c,v=.slice a L.length c/\L.length<=c/\c<=maxLen:=by
 rcases h with ⟨rfl,rfl⟩|⟨b,c,h,rfl⟩
 ·exact⟨_,0,rfl,Zf _,Zo _⟩
 ·exact⟨_,c,rfl,h.len,h.cap⟩
theorem RepO.keep (h:RepO H e s base L v) {H':Heap}(hx:HX H H'):RepO H' e s base L v:=by
 rcases h with h|⟨b,c,h,hv⟩
 ·exact .inl h
 ·exact .inr ⟨b,c,h.keep hx,hv⟩
theorem RepO.before (h:RepO H e s base L v) {H':Heap}{lo:Nat}(hk:∀i,i < lo->H'.get i=H.get i) (hn:H.next<=H'.next) (hlo:∀b c,OwnS H e s base L b c->b < lo):RepO H' e s base L v:=by
 rcases h with h|⟨b,c,h,hv⟩
 ·exact .inl h
 ·exact .inr ⟨b,c,h.heap (hk b (hlo b c h)) hn,hv⟩
theorem RepO.putlo (h:RepO H e s base L v) {i:Nat}(hi:i < base) (B:Option Blk):RepO (H.put i B) e s base L v:=by
 rcases h with h|⟨b,c,h,hv⟩
 ·exact .inl h
 ·exact .inr ⟨b,c,h.heap (z2d (by have:=h.lo;omega)) (Zf _),hv⟩
theorem RepO.other (h:RepO H e s base L v) {i:Nat}{cs:List Value}{e':TypeId}(hi:H.get i=some (.row cs e')) (hne:e'≠e) (B:Option Blk):RepO (H.put i B) e s base L v:=by
 rcases h with h|⟨b,c,h,hv⟩
 ·exact .inl h
 ·refine .inr ⟨b,c,h.heap (z2d fun hb=>?_) (Zf _),hv⟩;obtain⟨cs',hg,_⟩:=h.row;rw[hb,hi] at hg;cases hg;exact hne rfl
theorem RepO.beside (h:RepO H e s base L v) {H2:Heap}{e':TypeId}(hk:∀i,i < H.next->(∀cs,H.get i≠some (.row cs e'))->H2.get i=H.get i) (hn:H.next<=H2.next) (hne:e'≠e):RepO H2 e s base L v:=by
 rcases h with h|⟨b,c,h,hv⟩
 ·exact .inl h
 ·refine .inr ⟨b,c,h.heap (hk b h.hi fun cs hcs=>?_) hn,hv⟩;obtain⟨cs',hg,_⟩:=h.row;rw[hcs] at hg;cases hg;exact hne rfl
theorem RepO.takeO (h:OwnS H e s base L b c) (m:Nat) (hm:m<=L.length):RepO H e s base (L.take m) (.slice (some ⟨b,0,Option.none⟩) m c):=by
 refine .inr ⟨b,c,h.take hm,?_⟩;rw[Zp,Nat.min_eq_left hm]
section
variable {ok:Ok}{x:Ctx}{d:Option Tmp}{tm:Tr Value}{ds:List Deferred}{H':Heap}{KK:Tr Value->List Deferred->Heap->Prop}
end
def sameK (v:Value) (G:Heap):Option Dr->Bool
 |some (.val u H')=>veq u v && Zu H'.next G.next
 |_=>false
theorem z8q {o:Oper}{ρ:Operand->Value}{hs:List Heap}:sameOn P o ρ v (H :: hs)=(sameK v H (dop P o ρ H) && sameOn P o ρ v hs):=by
 rw[sameOn];unfold sameK;cases dop P o ρ H with
 |none=>rfl
 |some r=>cases r<;>rfl
theorem zd7 {u:Value}{H':Heap}:sameK v H (some (.val u H'))=(veq u v && Zu H'.next H.next):=_root_.id rfl
theorem z3c {H:Heap}{n k:Nat}{a:Addr}:Heap.load ⟨n,H.t⟩ a k=H.load a k:=_root_.id rfl
theorem z7u {H:Heap}{n i:Nat}:Heap.get ⟨n,H.t⟩ i=H.get i:=_root_.id rfl
theorem RepO.takeR {a:Option Addr}{n c' m:Nat}(h:RepO H e s base L (.slice a n c')) (hm:m<=L.length):RepO H e s base (L.take m) (.slice a m c'):=by
 rcases h with ⟨rfl,hv⟩|⟨b,c,h,hv⟩
 ·cases hv;have:m=0:=by simpa using hm
  subst this;exact .inl ⟨by simp,rfl⟩
 ·cases hv;exact RepO.takeO h m hm
theorem RepO.low (h:RepO H e s base L v) {base':Nat}(hb:base'<=base):RepO H e s base' L v:=by
 rcases h with h|⟨b,c,h,hv⟩
 ·exact .inl h
 ·exact .inr ⟨b,c,⟨Zk hb h.lo,h.hi,h.row,h.len,h.cap,h.sz,h.all⟩,hv⟩
theorem RepO.rds {vs:List Value}(h:RepO H e 1 base (vs.map fun v=>[v]) v):∃a c,v=.slice a vs.length c/\RdS H vs a c:=by
 rcases h with ⟨h1,rfl⟩|⟨b,c,h,rfl⟩
 ·have:vs=[]:=by simpa using h1
  subst this;exact⟨_,0,rfl,RdS.nil⟩
 ·exact⟨_,c,by simp,h.rds⟩
theorem RepO.rds' {vs:List Value}{a:Option Addr}{n c:Nat}(h:RepO H e 1 base (vs.map fun v=>[v]) (.slice a n c)):n=vs.length/\RdS H vs a c:=by
 obtain⟨a',c',hv,hr⟩:=h.rds;cases hv;exact⟨rfl,hr⟩
theorem RepO.push {t:TypeId}(h:RepO H e s base L v) (hp:apOk P t e s) {y:List Value}(hy:y.length=s) (ha:y.all one=true) (hn:L.length+1<=most) (hb:base<=H.next) :
  ∃H2 v2,dAp P #[t,t] v (.slice (some ⟨H.next,0,Option.none⟩) 1 1) (H.new (some (.row y e)))=some (.val v2 H2)/\RepO H2 e s base (L++[y]) v2/\H2.next=H.next+2/\(∀A,HX A H->A.next<=base->HX A H2)/\(∀i,i < H.next->(∀cs,H.get i≠some (.row cs e))->H2.get i=H.get i):=by
 have hs0:0 < s:=by obtain⟨i,_,_,_,_,h0,_⟩:=hp;exact h0
 have hmax:most<=maxLen:=by simp [most,maxLen]
 have hl:(H.new (some (.row y e))).load ⟨H.next,0,Option.none⟩ (1*s)=some y:=by
  rw[z4l,Nat.one_mul];unfold cutC;simp [<-hy]
 rcases h with ⟨rfl,rfl⟩|⟨b,c,h,rfl⟩
 ·refine⟨_,_,z47 hp (by omega) (by simp [most]) hl ha,.inr ⟨_,1,OwnS.first hy ha (Nat.le_succ_of_le hb),rfl⟩,rfl,fun A hx _=>(hx.new _).new _,fun i hi _=>by rw[z1d (Nat.lt_succ_of_lt hi),z1d hi]⟩
 ·obtain⟨cs,hg,hle,ht⟩:=h.row;have hbn:b < H.next:=h.hi;have h1:OwnS (H.new (some (.row y e))) e s base L b c:=h.heap (by rw[z1d hbn]) (Nat.le_succ _);have hg1:(H.new (some (.row y e))).get b=some (.row cs e):=by rw[z1d hbn];exact hg
  have hone:(cs.take (L.length*s)).all one=true:=by
   rw[ht,List.all_eq_true];intro z hz;obtain⟨l,hl1,hl2⟩:=List.mem_flatten.1 hz;exact List.all_eq_true.1 (h.all l hl1) z hl2
  refine⟨_,_,z3a hp (by omega) hn hl ha hg1 hle hone,.inr ⟨_,_,h1.push hg1 hy ha (Zk hn hmax) (Nat.le_succ_of_le hb),by simp⟩,rfl,fun A hx hA=>?_,fun i hi hne=>?_⟩;rotate_left
  ·have hib:i≠b:=fun h=>hne cs (h ▸ hg)
   rw[z1d (by rw[z07];exact Nat.lt_succ_of_lt hi),z2d hib,z1d hi]
  have hx1:=hx.new (some (.row y e));have hx2:=hx1.put (i:=b) (by have:=h.lo;omega) (Nat.lt_succ_of_lt hbn) Option.none;exact hx2.new _
end
theorem z8r (b:ByteArray):∀(k i:Nat) (r:List UInt8),b.size - i=k->ByteArray.toList.loop b i r=r.reverse++b.data.toList.drop i
 |0,i,r,h=>by
  rw[ByteArray.toList.loop,if_neg (by omega),List.drop_of_length_le (by simp;omega),List.append_nil]
 |k+1,i,r,h=>by
  have hi:i < b.data.toList.length:=by simp;omega
  rw[ByteArray.toList.loop,if_pos (by omega),z8r b k (i+1) _ (by omega),List.reverse_cons,List.append_assoc,ZI hi];congr 1;have hi':i < b.data.size:=by simpa using hi
  have:b.get! i=b.data.toList[i]:=by
   unfold ByteArray.get!;simp;rw[getElem!_pos b.data i hi']
  rw[this];rfl
theorem z1s (b:ByteArray):b.toList=b.data.toList:=by
 unfold ByteArray.toList;rw[z8r b _ 0 [] rfl];rfl
theorem zgw {P:Program}{H:Heap}{t:TypeId}{x y:Operand}{a:ByteArray}:dBin P .eql t x y (.string a) (.string ⟨#[]⟩) H=some (.val (.bool (decide (a.size=0))) H):=by
 rw[z2c,z1s,z1s];congr 3;by_cases h:a.size=0
 ·have:a.data.toList=[]:=List.length_eq_zero_iff.1 (by simpa using h);rw[this,decide_eq_true h];rfl
 ·rw[decide_eq_false h];cases hd:a.data.toList with
  |nil=>exact absurd (by have:=congrArg List.length hd;simpa using this) h
  |cons b l=>rfl
theorem z2w {P:Program}{H:Heap}{t:TypeId}{x y:Operand}{a b:ByteArray}:dBin P .eql t x y (.string a) (.string b) H=some (.val (.bool (a.data.toList == b.data.toList)) H):=by
 rw[z2c,z1s,z1s]
end Go.Hb
end

section
namespace Go.Hb
open Go Go.RowKit
section
variable (P:Program) (ok:Ok) (x:Ctx) (ops:Array Oper) (base:Nat)
def STK (e:Option Nat) (S:List (List (Nat × Nat) × Option Nat)) (G:Heap) (gs:List Heap) (ds:List Deferred) (K:Tr Value->List Deferred->Heap->Prop) (tm:Tr Value) (H:Heap):Prop :=
 match e with
 |none=>K tm ds H
 |some e=>ES1 P ok x ops tm ds H (fun tm ds H=>ES P ok x ops base S H (G :: gs) tm ds K) ops.toList[e]?
def STG (L:List (Nat × Nat)) (e:Option Nat) (S:List (List (Nat × Nat) × Option Nat)) (G:Heap) (gs:List Heap) (ds:List Deferred) (K:Tr Value->List Deferred->Heap->Prop) (tm:Tr Value) (H:Heap):Prop:=EN P ops base G gs L tm H (STK P ok x ops base e S G gs ds K)
def SGO (i k:Nat) (L:List (Nat × Nat)) (e:Option Nat) (S:List (List (Nat × Nat) × Option Nat)) (G:Heap) (gs:List Heap) (ds:List Deferred) (K:Tr Value->List Deferred->Heap->Prop) (o:Oper) (tm:Tr Value) (H:Heap) (al:Bool):Prop :=
 match al with
 |true=>AK base i tm H (fun tm H=>STG P ok x ops base L e S G gs ds K tm H) o.dst (dalloc P o (ev tm))
 |false=>NK P k o tm gs (fun tm=>STG P ok x ops base L e S G gs ds K tm H) o.dst G.next (dop P o (ev tm) G)
def SAL (i:Nat) (L:List (Nat × Nat)) (e:Option Nat) (S:List (List (Nat × Nat) × Option Nat)) (G:Heap) (gs:List Heap) (ds:List Deferred) (K:Tr Value->List Deferred->Heap->Prop) (d:Option Tmp) (tm:Tr Value) (H:Heap) (r:Option (Blk × (Nat->Value))):Prop:=AK base i tm H (fun tm H=>STG P ok x ops base L e S G gs ds K tm H) d r
def SRD (k:Nat) (L:List (Nat × Nat)) (e:Option Nat) (S:List (List (Nat × Nat) × Option Nat)) (G:Heap) (gs:List Heap) (ds:List Deferred) (K:Tr Value->List Deferred->Heap->Prop) (o:Oper) (tm:Tr Value) (H:Heap) (r:Option Dr):Prop:=NK P k o tm gs (fun tm=>STG P ok x ops base L e S G gs ds K tm H) o.dst G.next r
def SOP (i k:Nat) (L:List (Nat × Nat)) (e:Option Nat) (S:List (List (Nat × Nat) × Option Nat)) (G:Heap) (gs:List Heap) (ds:List Deferred) (K:Tr Value->List Deferred->Heap->Prop) (tm:Tr Value) (H:Heap) (o:Option Oper):Prop:=EN1 P ops base G gs i k tm H (fun tm H=>STG P ok x ops base L e S G gs ds K tm H) o
def SGD (i k:Nat) (L:List (Nat × Nat)) (e:Option Nat) (S:List (List (Nat × Nat) × Option Nat)) (G:Heap) (gs:List Heap) (ds:List Deferred) (K:Tr Value->List Deferred->Heap->Prop) (o:Oper) (tm:Tr Value) (H:Heap) (w:Bool) (g:Option Value):Prop:=GK o.dst tm (SGO P ok x ops base i k L e S G gs ds K o tm H (isAlloc o)) (STG P ok x ops base L e S G gs ds K (putD tm o.dst undef) H) w g
def SLK (S:List (List (Nat × Nat) × Option Nat)) (G:Heap) (gs:List Heap) (ds:List Deferred) (K:Tr Value->List Deferred->Heap->Prop) (d:Option Tmp) (tm:Tr Value) (H:Heap) (r:Option Dr):Prop :=
 LK P ok x d tm ds H (fun tm ds H=>ES P ok x ops base S H (G :: gs) tm ds K) r
def SEF (S:List (List (Nat × Nat) × Option Nat)) (G:Heap) (gs:List Heap) (ds:List Deferred) (K:Tr Value->List Deferred->Heap->Prop) (tm:Tr Value) (H:Heap) (o:Option Oper):Prop :=
 ES1 P ok x ops tm ds H (fun tm ds H=>ES P ok x ops base S H (G :: gs) tm ds K) o
def SEG (S:List (List (Nat × Nat) × Option Nat)) (G:Heap) (gs:List Heap) (ds:List Deferred) (K:Tr Value->List Deferred->Heap->Prop) (o:Oper) (tm:Tr Value) (H:Heap) (w:Bool) (g:Option Value):Prop :=
 GK o.dst tm (SLK P ok x ops base S G gs ds K o.dst tm H (dop P o (ev tm) H)) (ES P ok x ops base S H (G :: gs) (putD tm o.dst undef) ds K) w g
def SCK (S:List (List (Nat × Nat) × Option Nat)) (G:Heap) (gs:List Heap) (ds:List Deferred) (K:Tr Value->List Deferred->Heap->Prop) (d:Option Tmp) (tm:Tr Value) (v:Value) (H':Heap):Prop :=
 ES P ok x ops base S H' (G :: gs) (putD tm d v) ds K
end
section
variable {P:Program}{ok:Ok}{x:Ctx}{ops:Array Oper}{base i k n j:Nat}{L:List (Nat × Nat)}{e:Option Nat}{S:List (List (Nat × Nat) × Option Nat)}{G H H' G':Heap}{gs:List Heap}{ds:List Deferred}{K:Tr Value->List Deferred->Heap->Prop}{tm:Tr Value}{w b:Bool}{v:Value}
 {d:Option Tmp}{op:Op}{ty:TypeId}{pos:String}{af:Array Edge}{gd:Option (Nat × Bool)}{o:Oper}
theorem zko:ES P ok x ops base ((L,none) :: S) G gs tm ds K=STG P ok x ops base L none S G gs ds K tm G:=_root_.id rfl
theorem zkp:ES P ok x ops base ((L,some n) :: S) G gs tm ds K=STG P ok x ops base L (some n) S G gs ds K tm G:=_root_.id rfl
theorem zpy:STG P ok x ops base ((i,k) :: L) e S G gs ds K tm H=SOP P ok x ops base i k L e S G gs ds K tm H ops.toList[i]?:=_root_.id rfl
theorem zkq:STG P ok x ops base [] (some n) S G gs ds K tm H=SEF P ok x ops base S G gs ds K tm H ops.toList[n]?:=_root_.id rfl
theorem zkr:STG P ok x ops base [] none S G gs ds K tm H=K tm ds H:=_root_.id rfl
theorem zgx:SOP P ok x ops base i k L e S G gs ds K tm H (some ⟨d,op,ty,pos,af,none⟩)=SGO P ok x ops base i k L e S G gs ds K ⟨d,op,ty,pos,af,none⟩ tm H (isAlloc ⟨d,op,ty,pos,af,none⟩):=by
 simp only[SOP,EN1,SGO]<;>rfl
theorem zd8:SOP P ok x ops base i k L e S G gs ds K tm H (some ⟨d,op,ty,pos,af,some (j,w)⟩)=SGD P ok x ops base i k L e S G gs ds K ⟨d,op,ty,pos,af,some (j,w)⟩ tm H w (guardOf ops tm j):=by
 simp only[SOP,EN1,SGD,SGO]<;>rfl
theorem zpz:SGD P ok x ops base i k L e S G gs ds K o tm H true (some (.bool true))=SGO P ok x ops base i k L e S G gs ds K o tm H (isAlloc o):=by simp [SGD,GK]
theorem zq0:SGD P ok x ops base i k L e S G gs ds K o tm H false (some (.bool false))=SGO P ok x ops base i k L e S G gs ds K o tm H (isAlloc o):=by simp [SGD,GK]
theorem zq1:SGD P ok x ops base i k L e S G gs ds K o tm H true (some (.bool false))=STG P ok x ops base L e S G gs ds K (putD tm o.dst undef) H:=by simp [SGD,GK]
theorem zq2:SGD P ok x ops base i k L e S G gs ds K o tm H false (some (.bool true))=STG P ok x ops base L e S G gs ds K (putD tm o.dst undef) H:=by simp [SGD,GK]
theorem zd9:SGD P ok x ops base i k L e S G gs ds K o tm H w (some undef)=STG P ok x ops base L e S G gs ds K (putD tm o.dst undef) H:=_root_.id rfl
theorem zda:SGO P ok x ops base i k L e S G gs ds K o tm H true=SAL P ok x ops base i L e S G gs ds K o.dst tm H (dalloc P o (ev tm)):=_root_.id rfl
theorem zgy:SGO P ok x ops base i k L e S G gs ds K o tm H false=SRD P ok x ops base k L e S G gs ds K o tm H (dop P o (ev tm) G):=_root_.id rfl
theorem zgz {B:Blk}{mk:Nat->Value}:SAL P ok x ops base i L e S G gs ds K d tm H (some (B,mk))=STG P ok x ops base L e S G gs ds K (putD tm d (mk (base+i))) (H.put (base+i) (some B)):=_root_.id rfl
theorem zks:SRD P ok x ops base k L e S G gs ds K ⟨d,op,ty,pos,af,gd⟩ tm H (some (.val v G'))=((isRead ⟨d,op,ty,pos,af,gd⟩=false\/(G'.next=G.next/\sameOn P ⟨d,op,ty,pos,af,gd⟩ (ev tm) v (gs.take (gs.length - k))=true))/\STG P ok x ops base L e S G gs ds K (putD tm d v) H):=_root_.id rfl
theorem zh0:SEF P ok x ops base S G gs ds K tm H (some ⟨d,op,ty,pos,af,none⟩)=SLK P ok x ops base S G gs ds K d tm H (dop P ⟨d,op,ty,pos,af,none⟩ (ev tm) H):=_root_.id rfl
theorem zdb:SEF P ok x ops base S G gs ds K tm H (some ⟨d,op,ty,pos,af,some (j,w)⟩)=SEG P ok x ops base S G gs ds K ⟨d,op,ty,pos,af,some (j,w)⟩ tm H w (guardOf ops tm j):=_root_.id rfl
theorem zq3:SEG P ok x ops base S G gs ds K ⟨d,op,ty,pos,af,gd⟩ tm H true (some (.bool true))=SLK P ok x ops base S G gs ds K d tm H (dop P ⟨d,op,ty,pos,af,gd⟩ (ev tm) H):=by simp [SEG,GK]
theorem zq4:SEG P ok x ops base S G gs ds K ⟨d,op,ty,pos,af,gd⟩ tm H false (some (.bool false))=SLK P ok x ops base S G gs ds K d tm H (dop P ⟨d,op,ty,pos,af,gd⟩ (ev tm) H):=by simp [SEG,GK]
theorem zq5:SEG P ok x ops base S G gs ds K o tm H true (some (.bool false))=ES P ok x ops base S H (G :: gs) (putD tm o.dst undef) ds K:=by simp [SEG,GK]
theorem zq6:SEG P ok x ops base S G gs ds K o tm H false (some (.bool true))=ES P ok x ops base S H (G :: gs) (putD tm o.dst undef) ds K:=by simp [SEG,GK]
theorem zdc:SEG P ok x ops base S G gs ds K o tm H w (some undef)=ES P ok x ops base S H (G :: gs) (putD tm o.dst undef) ds K:=_root_.id rfl
theorem zkt:SLK P ok x ops base S G gs ds K d tm H (some (.val v H'))=ES P ok x ops base S H' (G :: gs) (putD tm d v) ds K:=_root_.id rfl
theorem zh1 {f:FuncId}{args:List Value}:SLK P ok x ops base S G gs ds K d tm H (some (.call f args))=EvF P ok f args H (SCK P ok x ops base S G gs ds K d tm):=_root_.id rfl
theorem z0q (h:ES P ok x ops base S H' (G :: gs) (putD tm d v) ds K):SCK P ok x ops base S G gs ds K d tm v H':=h
end
end Go.Hb
end

section
namespace Go.Hb
open Go Go.RowKit
theorem zh2 {k:IntKind}{n:Int}:veq (.int k n) (.int k n)=true:=by simp [veq]
theorem zq7 {s:ByteArray}:veq (.string s) (.string s)=true:=by simp [veq]
theorem zku {b:Bool}:veq (.bool b) (.bool b)=true:=by simp [veq]
theorem zh3 {k:FloatKind}{n:Nat}:veq (.float k n) (.float k n)=true:=by simp [veq]
theorem zq8 {a:Option Addr}:veq (.pointer a) (.pointer a)=true:=by simp [veq]
theorem zq9 {a:Option Nat}:veq (.map a) (.map a)=true:=by simp [veq]
theorem zh4 {a:Option Addr}{n c:Nat}:veq (.slice a n c) (.slice a n c)=true:=by simp [veq]
theorem zqa {a b:List Value}:veq (.agg ⟨a⟩) (.agg ⟨b⟩)=veqL a b:=by simp [veq]
theorem zh5 {a b:List Value}:veq (.tuple ⟨a⟩) (.tuple ⟨b⟩)=veqL a b:=by simp [veq]
theorem zkv {x y:Value}{a b:List Value}:veqL (x :: a) (y :: b)=(veq x y && veqL a b):=by simp [veqL]
theorem zqb:veqL [] []=true:=by simp [veqL]
end Go.Hb
end

section
namespace Go.Hb
open Go Go.RowKit
theorem sA:type_of% (And.intro (And.intro (And.intro (And.intro (And.intro (And.intro (@zkf) (And.intro (@zpr) (@zg8))) (And.intro (@zps) (And.intro (@zkg) (@zg9)))) (And.intro (And.intro (@ztb) (And.intro (@ztc) (@ztd))) (And.intro (And.intro (@zte) (@zga)) (And.intro (@zki) (@z51))))) (And.intro (And.intro (And.intro (@zgb) (And.intro (@zgc) (@za7))) (And.intro (And.intro (@zgd) (@zcw)) (And.intro (@zcx) (@z64)))) (And.intro (And.intro (@z65) (And.intro (@zkh) (@zge))) (And.intro (And.intro (@zgf) (@zgi)) (And.intro (@zcy) (@zg6)))))) (And.intro (And.intro (And.intro (And.intro (@zpq) (And.intro (@zke) (@zcv))) (And.intro (@Tr.get_put) (And.intro (@z7t) (@zg7)))) (And.intro (And.intro (@Option.getD_some.{0}) (And.intro (@Nat.add_zero) (@ZF))) (And.intro (And.intro (@List.all_cons.{0}) (@List.all_nil.{0})) (And.intro (@Bool.and_self) (@zbh))))) (And.intro (And.intro (And.intro (@zgg) (And.intro (@zgh) (@z07))) (And.intro (And.intro (@get_new) (@get_put)) (And.intro (@z8d) (@z8e)))) (And.intro (And.intro (@List.drop_succ_cons.{0}) (And.intro (@List.drop_zero.{0}) (@List.take_succ_cons.{0}))) (And.intro (And.intro (@List.take_zero.{0}) (@List.length_cons.{0})) (And.intro (@List.length_nil.{0}) (@Nat.beq_refl))))))) (And.intro (And.intro (And.intro (And.intro (And.intro (@List.map_cons.{0,0}) (And.intro (@List.map_nil.{0,0}) (@z43))) (And.intro (@z8f) (And.intro (@z39) (@z8g)))) (And.intro (And.intro (@List.cons_append.{0}) (And.intro (@List.nil_append.{0}) (@List.append_nil.{0}))) (And.intro (And.intro (@Zf) (@and_self)) (And.intro (@and_true) (@true_and))))) (And.intro (And.intro (And.intro (@List.drop_nil.{0}) (And.intro (@z00) (@z3h))) (And.intro (And.intro (@z03) (@z50)) (And.intro (@z06) (@z01)))) (And.intro (And.intro (@za6) (And.intro (@z63) (@List.getElem?_cons_succ.{0}))) (And.intro (And.intro (@List.getElem?_cons_zero.{0}) (@zgj)) (And.intro (@zgk) (@zgl)))))) (And.intro (And.intro (And.intro (And.intro (@zgm) (And.intro (@zgn) (@zgo))) (And.intro (And.intro (@zpt) (@zpu)) (And.intro (@z8h) (@zpv)))) (And.intro (And.intro (@zpw) (And.intro (@zpx) (@zkj))) (And.intro (And.intro (@zcz) (@zgq)) (And.intro (@z5f) (@zgr))))) (And.intro (And.intro (And.intro (@zd0) (And.intro (@zab) (@z66))) (And.intro (And.intro (@z7i) (@zd4)) (And.intro (@z8m) (@zgt)))) (And.intro (And.intro (@zaa) (And.intro (@Option.map_some.{0,0}) (@Option.map_none.{0,0}))) (And.intro (And.intro (@List.getElem?_nil.{0}) (@Option.some.injEq.{0})) (And.intro (@Nat.mul_one) (@Int.toNat_natCast)))))))):=And.intro (And.intro (And.intro (And.intro (And.intro (And.intro (@zkf) (And.intro (@zpr) (@zg8))) (And.intro (@zps) (And.intro (@zkg) (@zg9)))) (And.intro (And.intro (@ztb) (And.intro (@ztc) (@ztd))) (And.intro (And.intro (@zte) (@zga)) (And.intro (@zki) (@z51))))) (And.intro (And.intro (And.intro (@zgb) (And.intro (@zgc) (@za7))) (And.intro (And.intro (@zgd) (@zcw)) (And.intro (@zcx) (@z64)))) (And.intro (And.intro (@z65) (And.intro (@zkh) (@zge))) (And.intro (And.intro (@zgf) (@zgi)) (And.intro (@zcy) (@zg6)))))) (And.intro (And.intro (And.intro (And.intro (@zpq) (And.intro (@zke) (@zcv))) (And.intro (@Tr.get_put) (And.intro (@z7t) (@zg7)))) (And.intro (And.intro (@Option.getD_some.{0}) (And.intro (@Nat.add_zero) (@ZF))) (And.intro (And.intro (@List.all_cons.{0}) (@List.all_nil.{0})) (And.intro (@Bool.and_self) (@zbh))))) (And.intro (And.intro (And.intro (@zgg) (And.intro (@zgh) (@z07))) (And.intro (And.intro (@get_new) (@get_put)) (And.intro (@z8d) (@z8e)))) (And.intro (And.intro (@List.drop_succ_cons.{0}) (And.intro (@List.drop_zero.{0}) (@List.take_succ_cons.{0}))) (And.intro (And.intro (@List.take_zero.{0}) (@List.length_cons.{0})) (And.intro (@List.length_nil.{0}) (@Nat.beq_refl))))))) (And.intro (And.intro (And.intro (And.intro (And.intro (@List.map_cons.{0,0}) (And.intro (@List.map_nil.{0,0}) (@z43))) (And.intro (@z8f) (And.intro (@z39) (@z8g)))) (And.intro (And.intro (@List.cons_append.{0}) (And.intro (@List.nil_append.{0}) (@List.append_nil.{0}))) (And.intro (And.intro (@Zf) (@and_self)) (And.intro (@and_true) (@true_and))))) (And.intro (And.intro (And.intro (@List.drop_nil.{0}) (And.intro (@z00) (@z3h))) (And.intro (And.intro (@z03) (@z50)) (And.intro (@z06) (@z01)))) (And.intro (And.intro (@za6) (And.intro (@z63) (@List.getElem?_cons_succ.{0}))) (And.intro (And.intro (@List.getElem?_cons_zero.{0}) (@zgj)) (And.intro (@zgk) (@zgl)))))) (And.intro (And.intro (And.intro (And.intro (@zgm) (And.intro (@zgn) (@zgo))) (And.intro (And.intro (@zpt) (@zpu)) (And.intro (@z8h) (@zpv)))) (And.intro (And.intro (@zpw) (And.intro (@zpx) (@zkj))) (And.intro (And.intro (@zcz) (@zgq)) (And.intro (@z5f) (@zgr))))) (And.intro (And.intro (And.intro (@zd0) (And.intro (@zab) (@z66))) (And.intro (And.intro (@z7i) (@zd4)) (And.intro (@z8m) (@zgt)))) (And.intro (And.intro (@zaa) (And.intro (@Option.map_some.{0,0}) (@Option.map_none.{0,0}))) (And.intro (And.intro (@List.getElem?_nil.{0}) (@Option.some.injEq.{0})) (And.intro (@Nat.mul_one) (@Int.toNat_natCast)))))))
theorem sD:type_of% (And.intro (And.intro (And.intro (And.intro (And.intro (@zko) (@zkp)) (And.intro (@zpy) (@zkq))) (And.intro (And.intro (@zkr) (@zgx)) (And.intro (@zd8) (And.intro (@zpz) (@zq0))))) (And.intro (And.intro (And.intro (@zq1) (@zq2)) (And.intro (@zd9) (@zda))) (And.intro (And.intro (@zgy) (@zgz)) (And.intro (@zks) (And.intro (@zh0) (@zdb)))))) (And.intro (And.intro (And.intro (And.intro (@zq3) (@zq4)) (And.intro (@zq5) (@zq6))) (And.intro (And.intro (@zdc) (@zkt)) (And.intro (@zh1) (And.intro (@true_or) (@or_true))))) (And.intro (And.intro (And.intro (@false_or) (@za9)) (And.intro (@Nat.sub_self) (@Nat.sub_zero))) (And.intro (And.intro (@z3c) (@z7u)) (And.intro (@List.size_toArray.{0}) (And.intro (@z8q) (@zd7))))))):=And.intro (And.intro (And.intro (And.intro (And.intro (@zko) (@zkp)) (And.intro (@zpy) (@zkq))) (And.intro (And.intro (@zkr) (@zgx)) (And.intro (@zd8) (And.intro (@zpz) (@zq0))))) (And.intro (And.intro (And.intro (@zq1) (@zq2)) (And.intro (@zd9) (@zda))) (And.intro (And.intro (@zgy) (@zgz)) (And.intro (@zks) (And.intro (@zh0) (@zdb)))))) (And.intro (And.intro (And.intro (And.intro (@zq3) (@zq4)) (And.intro (@zq5) (@zq6))) (And.intro (And.intro (@zdc) (@zkt)) (And.intro (@zh1) (And.intro (@true_or) (@or_true))))) (And.intro (And.intro (And.intro (@false_or) (@za9)) (And.intro (@Nat.sub_self) (@Nat.sub_zero))) (And.intro (And.intro (@z3c) (@z7u)) (And.intro (@List.size_toArray.{0}) (And.intro (@z8q) (@zd7))))))
theorem sV:type_of% (And.intro (And.intro (And.intro (@zh2) (@zq7)) (And.intro (@zku) (And.intro (@zh3) (@zq8)))) (And.intro (And.intro (@zq9) (And.intro (@zh4) (@zqa))) (And.intro (@zh5) (And.intro (@zkv) (@zqb))))):=And.intro (And.intro (And.intro (@zh2) (@zq7)) (And.intro (@zku) (And.intro (@zh3) (@zq8)))) (And.intro (And.intro (@zq9) (And.intro (@zh4) (@zqa))) (And.intro (@zh5) (And.intro (@zkv) (@zqb))))
theorem sB:type_of% (And.intro (@sA) (And.intro (@if_true.{1}) (@if_false.{1}))):=And.intro (@sA) (And.intro (@if_true.{1}) (@if_false.{1}))
theorem sG:type_of% (And.intro (@Tr.get_put) (And.intro (@if_true.{1}) (@if_false.{1}))):=And.intro (@Tr.get_put) (And.intro (@if_true.{1}) (@if_false.{1}))
end Go.Hb
end

section
namespace Go.Hb
open Go Go.RowKit
abbrev six (t:Tm) (a:Option Addr) (c:Nat):List Value:=[.int .i64 t.kind,.string t.name,.string t.num,.int .u64 t.bits,.int .i64 t.var,.slice a t.args.length c]
theorem row6 {H:Heap}{p:Nat}{T:TypeId}{x0 x1 x2 x3 x4 x5:Value}(h:H.get p=some (Blk.row [x0,x1,x2,x3,x4,x5] T)) :
  H.load ⟨p,0,none⟩ 1=some [x0]/\H.load ⟨p,1,none⟩ 1=some [x1]/\H.load ⟨p,2,none⟩ 1=some [x2]/\H.load ⟨p,3,none⟩ 1=some [x3]/\H.load ⟨p,4,none⟩ 1=some [x4]/\H.load ⟨p,5,none⟩ 1=some [x5] /\
  H.load ⟨p,0,none⟩ 6=some [x0,x1,x2,x3,x4,x5]:=by
 refine⟨?_,?_,?_,?_,?_,?_,?_⟩<;>simp only[Heap.load,Heap.cells,h]<;>rfl
theorem new1 {H:Heap}(hw:H.wf) (A:Blk):∃H2,H.new (some A)=H2/\HX H H2/\H2.get H.next=some A/\H2.next=H.next+1/\H2.wf:=by
 have hx:=(HX.refl hw).new (some A);exact⟨_,rfl,hx,z0i,rfl,hx.wf⟩
theorem new2 {H:Heap}(hw:H.wf) (A B:Blk):∃H2,(H.new (some A)).new (some B)=H2/\HX H H2/\H2.get H.next=some A/\H2.get (H.next+1)=some B/\H2.next=H.next+2/\H2.wf:=by
 have hx:=((HX.refl hw).new (some A)).new (some B);refine⟨_,rfl,hx,?_,?_,rfl,hx.wf⟩
 ·rw[get_new,if_neg (by show H.next≠H.next+1;omega),get_new,if_pos rfl]
 ·rw[get_new];exact if_pos rfl
theorem HX.get {H H':Heap}(h:HX H H') (hw:H.wf) {p:Nat}{B:Blk}(hp:H.get p=some B):H'.get p=some B:=by
 rw[h.keep p (hw p B hp)];exact hp
theorem HX.lt {H H':Heap}(h:HX H H') (hw:H.wf) {p:Nat}{B:Blk}(hp:H.get p=some B):p < H'.next:=Zh (hw p B hp) h.next
theorem RepT.six {H:Heap}{t:Tm}{cs:List Value}(r:RepT H t cs):∃a c cells,cs=six t a c/\i64 t.kind/\t.name.size<=maxLen/\t.num.size<=maxLen/\u64 t.bits/\i64 t.var/\RepL H t.args a c cells:=r.inv
theorem RepL.max {H:Heap}{l:List Tm}{a:Option Addr}{c:Nat}{cells:Nat->List Value}(r:RepL H l a c cells):l.length<=9223372036854775807:=Zk r.len r.cap
theorem RepL.el {H:Heap}{l:List Tm}{a:Option Addr}{c:Nat}{cells:Nat->List Value}(r:RepL H l a c cells) {i:Nat}(h:i < l.length) :
  ∃b o a' c',a=some ⟨b,o,none⟩/\H.load ⟨b,o+i*6,none⟩ 6=some (Hb.six l[i] a' c')/\RepT H l[i] (Hb.six l[i] a' c'):=by
 obtain⟨b,o,rfl,hl,hr⟩:=r.at (Zc h);obtain⟨a',c',cells',hc,-⟩:=hr.six;rw[hc] at hl hr;exact⟨b,o,a',c',rfl,hl,hr⟩
theorem decl {i n:Nat}(h:i < n):decide ((i:Int) < (n:Int))=true:=decide_eq_true (by omega)
theorem decn {i n:Nat}(h:¬i < n):decide ((i:Int) < (n:Int))=false:=decide_eq_false (by omega)
end Go.Hb
end

section
namespace Go.Hb
open Go Go.RowKit
theorem RepT.len {H:Heap}{t:Tm}{cs:List Value}(r:RepT H t cs):cs.length=6:=by obtain⟨a,c,cells,rfl,-⟩:=r.six;rfl
theorem RepL.of_row {H:Heap}{l:List Tm}{css:Nat->List Value}{b c:Nat}{vs:List Value}{T:TypeId}(g:H.get b=some (.row vs T)) (hv:∀i,i < l.length->(vs.drop (i*6)).take 6=css i)
  (hr:∀i t,l[i]?=some t->RepT H t (css i)) (hl:l.length<=c) (hm:c<=maxLen):RepL H l (some ⟨b,0,none⟩) c css:=by
 refine⟨hl,hm,(fun h=>by cases h),(fun i ad hi ha=>?_),hr⟩;cases ha;refine⟨rfl,?_⟩;have hlen:=(hr i l[i] (Zc hi)).len;unfold Heap.load Heap.cells;simp only[g,ZF,hv i hi];rw[if_pos (by rw[Zs];exact hlen)]
theorem RepL.two {H:Heap}{t t':Tm}{cs cs':List Value}{b:Nat}{T:TypeId}(r:RepT H t cs) (r':RepT H t' cs') (g:H.get b=some (.row (cs++cs') T)) :
  RepL H [t,t'] (some ⟨b,0,none⟩) 2 (fun i=>if i=0 then cs else cs'):=by
 refine RepL.of_row g (fun i hi=>?_) (fun i u hu=>?_) (Zf _) (by simp [maxLen])
 ·have h1:=r.len;have h2:=r'.len
  match i,hi with
  |0,_=>simp [h1]
  |1,_=>simp [h1,h2];exact Zl (by omega)
 ·match i,hu with
  |0,hu=>cases hu;exact r
  |1,hu=>cases hu;exact r'
end Go.Hb
end

section
namespace Go.Hb
open Go Go.RowKit
def Rg (a b:Nat):Nat->Prop:=fun n=>a<=n/\n < b
structure HK (S:Nat->Prop) (H H':Heap):Prop where
 next:H.next<=H'.next
 keep:∀i,i < H.next->¬S i->H'.get i=H.get i
 wf:H'.wf
theorem HX.hk {H H':Heap}(h:HX H H') (S:Nat->Prop):HK S H H':=⟨h.next,fun i hi _=>h.keep i hi,h.wf⟩
theorem HK.refl {S:Nat->Prop}{H:Heap}(h:H.wf):HK S H H:=(HX.refl h).hk S
theorem HK.trans {S:Nat->Prop}{A B C:Heap}(h:HK S A B) (k:HK S B C):HK S A C :=
 ⟨Zk h.next k.next,fun i hi hs=>by rw[k.keep i (Zh hi h.next) hs,h.keep i hi hs],k.wf⟩
theorem HK.sub {S S':Nat->Prop}{A B:Heap}(h:HK S A B) (hs:∀n,n < A.next->S n->S' n):HK S' A B:=⟨h.next,fun i hi hn=>h.keep i hi fun q=>hn (hs i hi q),h.wf⟩
theorem HK.put {S:Nat->Prop}{A H:Heap}(h:HK S A H) {i:Nat}(hi:S i\/A.next<=i) (hl:i < H.next) (B:Option Blk):HK S A (H.put i B):=by
 refine⟨h.next,fun j hj hs=>?_,fun j C hC=>?_⟩
 ·rw[Heap.get_put,if_neg (fun e=>by subst e;rcases hi with hi|hi;exact hs hi;omega)];exact h.keep j hj hs
 ·rw[Heap.get_put] at hC;show j < H.next;by_cases hj:j=i
  ·omega
  ·rw[if_neg hj] at hC;exact h.wf j C hC
theorem HK.new {S:Nat->Prop}{A H:Heap}(h:HK S A H) (B:Option Blk):HK S A (H.new B):=h.trans (((HX.refl h.wf).new B).hk S)
theorem HK.bump {S:Nat->Prop}{A H:Heap}(h:HK S A H) (k:Nat):HK S A ⟨H.next+k,H.t⟩:=h.trans (((HX.refl h.wf).bump k).hk S)
theorem HK.get {S:Nat->Prop}{H H':Heap}(h:HK S H H') (hw:H.wf) {p:Nat}{B:Blk}(hp:H.get p=some B) (hs:¬S p):H'.get p=some B:=by
 rw[h.keep p (hw p B hp) hs];exact hp
theorem HK.hx {S:Nat->Prop}{H H':Heap}(h:HK S H H') (hs:∀n,n < H.next->¬S n):HX H H':=⟨h.next,fun i hi=>h.keep i hi (hs i hi),h.wf⟩
theorem HX.then {S:Nat->Prop}{A B C:Heap}(h:HX A B) (k:HK S B C) (hs:∀n,n < A.next->¬S n):HX A C :=
 ⟨Zk h.next k.next,fun i hi=>by rw[k.keep i (Zh hi h.next) (hs i hi),h.keep i hi],k.wf⟩
structure Bd (t:Tm):Prop where
 kind:i64 t.kind
 name:t.name.size<=maxLen
 num:t.num.size<=maxLen
 bits:u64 t.bits
 var:i64 t.var
inductive FL (H:Heap) (T:TypeId):(Nat->Prop)->List Tm->Option Addr->Nat->Prop
 |nil (S:Nat->Prop):FL H T S [] none 0
 |row (S:Nat->Prop) (l:List Tm) (b c:Nat) (cells:List Value) (Si:Nat->Nat->Prop) (ai:Nat->Option Addr) (ci:Nat->Nat):l.length<=c->c<=maxLen->H.get b=some (.row cells T)->l.length*6<=cells.length ->
   (∀(i:Nat) (u:Tm),l[i]?=some u->(cells.drop (i*6)).take 6=six u (ai i) (ci i))->(∀(i:Nat) (u:Tm),l[i]?=some u->Bd u)->S b->(∀i,i < l.length->¬Si i b)->(∀i n,i < l.length->Si i n->S n) ->
   (∀i j n,i < l.length->j < l.length->Si i n->Si j n->i=j)->(∀(i:Nat) (u:Tm),l[i]?=some u->FL H T (Si i) u.args (ai i) (ci i))->FL H T S l (some ⟨b,0,none⟩) c
theorem FL.sub {H:Heap}{T:TypeId}{S S':Nat->Prop}{l:List Tm}{a:Option Addr}{c:Nat}(h:FL H T S l a c) (hs:∀n,S n->S' n):FL H T S' l a c:=by
 cases h with
 |nil=>exact .nil _
 |row _ _ b c cells Si ai ci h1 h2 h3 h4 h5 h6 h7 h8 h9 h10 h11=>exact .row S' l b c cells Si ai ci h1 h2 h3 h4 h5 h6 (hs _ h7) h8 (fun i n hi hn=>hs _ (h9 i n hi hn)) h10 h11
theorem FL.heap {H H':Heap}{T:TypeId}{S:Nat->Prop}{l:List Tm}{a:Option Addr}{c:Nat}(h:FL H T S l a c):(∀n,S n->n < H.next->H'.get n=H.get n)->H.wf->FL H' T S l a c:=by
 induction h with
 |nil=>intro _ _;exact .nil _
 |row S l b c cells Si ai ci h1 h2 h3 h4 h5 h6 h7 h8 h9 h10 h11 ih =>
  intro hk hw;exact .row S l b c cells Si ai ci h1 h2 (by rw[hk b h7 (hw b _ h3)];exact h3) h4 h5 h6 h7 h8 h9 h10 (fun i u hu=>ih i u hu (fun n hn=>hk n (h9 i n (List.getElem?_eq_some_iff.1 hu).1 hn)) hw)
theorem FL.keep {H H':Heap}{T:TypeId}{S:Nat->Prop}{l:List Tm}{a:Option Addr}{c:Nat}(h:FL H T S l a c) (hx:HX H H') (hw:H.wf):FL H' T S l a c:=h.heap (fun n _ hl=>hx.keep n hl) hw
theorem FL.beside {H H':Heap}{T:TypeId}{S S':Nat->Prop}{l:List Tm}{a:Option Addr}{c:Nat}(h:FL H T S l a c) (hx:HK S' H H') (hw:H.wf) (hd:∀n,S n->¬S' n):FL H' T S l a c:=h.heap (fun n hs hl=>hx.keep n hl (hd n hs)) hw
theorem FL.len {H:Heap}{T:TypeId}{S:Nat->Prop}{l:List Tm}{a:Option Addr}{c:Nat}(h:FL H T S l a c):l.length<=c/\c<=maxLen/\(a=none->l=[]/\c=0):=by
 cases h with
 |nil=>exact⟨Zf _,Zo _,fun _=>⟨rfl,rfl⟩⟩
 |row _ _ b c cells Si ai ci h1 h2=>exact⟨h1,h2,fun h=>by cases h⟩
theorem FL.rep {H:Heap}{T:TypeId}{S:Nat->Prop}{l:List Tm}{a:Option Addr}{c:Nat}(h:FL H T S l a c):∃cells,RepL H l a c cells:=by
 induction h with
 |nil=>exact⟨fun _=>[],Zf _,Zo _,fun _=>⟨rfl,rfl⟩,fun i ad hi=>by simp at hi,fun i t h=>by simp at h⟩
 |row S l b c cells Si ai ci h1 h2 h3 h4 h5 h6 h7 h8 h9 h10 h11 ih =>
  refine⟨fun i=>(cells.drop (i*6)).take 6,RepL.of_row h3 (fun i hi=>rfl) (fun i t ht=>?_) h1 h2⟩;show RepT H t ((cells.drop (i*6)).take 6);rw[h5 i t ht];obtain⟨cs,rl⟩:=ih i t ht;have hb:=h6 i t ht;obtain⟨k,s,u,bb,v,l'⟩:=t;exact .mk k s u bb v l' (ai i) (ci i) cs hb.kind hb.name hb.num hb.bits hb.var (Zk rl.len rl.cap) rl.len rl.cap rl.nil rl.load rl.rep
def RepF (H:Heap) (T:TypeId) (S:Nat->Prop) (t:Tm) (cs:List Value):Prop:=∃a c,cs=six t a c/\Bd t/\FL H T S t.args a c
theorem RepF.rep {H:Heap}{T:TypeId}{S:Nat->Prop}{t:Tm}{cs:List Value}(h:RepF H T S t cs):RepT H t cs:=by
 obtain⟨a,c,rfl,hb,hf⟩:=h;obtain⟨cells,rl⟩:=hf.rep;obtain⟨k,s,u,bb,v,l'⟩:=t;exact .mk k s u bb v l' a c cells hb.kind hb.name hb.num hb.bits hb.var (Zk rl.len rl.cap) rl.len rl.cap rl.nil rl.load rl.rep
theorem RepF.keep {H H':Heap}{T:TypeId}{S:Nat->Prop}{t:Tm}{cs:List Value}(h:RepF H T S t cs) (hx:HX H H') (hw:H.wf):RepF H' T S t cs:=by
 obtain⟨a,c,e,hb,hf⟩:=h;exact⟨a,c,e,hb,hf.keep hx hw⟩
theorem RepF.beside {H H':Heap}{T:TypeId}{S S':Nat->Prop}{t:Tm}{cs:List Value}(h:RepF H T S t cs) (hx:HK S' H H') (hw:H.wf) (hd:∀n,S n->¬S' n):RepF H' T S t cs:=by
 obtain⟨a,c,e,hb,hf⟩:=h;exact⟨a,c,e,hb,hf.beside hx hw hd⟩
theorem RepF.sub {H:Heap}{T:TypeId}{S S':Nat->Prop}{t:Tm}{cs:List Value}(h:RepF H T S t cs) (hs:∀n,S n->S' n):RepF H T S' t cs:=by
 obtain⟨a,c,e,hb,hf⟩:=h;exact⟨a,c,e,hb,hf.sub hs⟩
theorem RepT.bd {H:Heap}{t:Tm}{cs:List Value}(r:RepT H t cs):Bd t:=by
 obtain⟨a,c,cells,-,b1,b2,b3,b4,b5,-⟩:=r.six;exact⟨b1,b2,b3,b4,b5⟩
structure FLs (H:Heap) (T:TypeId) (S:Nat->Prop) (l:List Tm) (cells:List Value) (Si:Nat->Nat->Prop) (ai:Nat->Option Addr) (ci:Nat->Nat):Prop where
 el:∀(i:Nat) (u:Tm),l[i]?=some u->(cells.drop (i*6)).take 6=six u (ai i) (ci i)
 bd:∀(i:Nat) (u:Tm),l[i]?=some u->Bd u
 sub:∀i n,i < l.length->Si i n->S n
 one:∀i j n,i < l.length->j < l.length->Si i n->Si j n->i=j
 fl:∀(i:Nat) (u:Tm),l[i]?=some u->FL H T (Si i) u.args (ai i) (ci i)
theorem FLs.nil {H:Heap}{T:TypeId}{S:Nat->Prop}{cells:List Value}{Si:Nat->Nat->Prop}{ai:Nat->Option Addr}{ci:Nat->Nat}:FLs H T S [] cells Si ai ci :=
 ⟨fun i u h=>by simp at h,fun i u h=>by simp at h,fun i n h=>by simp at h,fun i j n h=>by simp at h,fun i u h=>by simp at h⟩
theorem FLs.snoc {H H':Heap}{T:TypeId}{S S' N:Nat->Prop}{l:List Tm}{cells cells':List Value}{Si:Nat->Nat->Prop}{ai:Nat->Option Addr}{ci:Nat->Nat}{t:Tm}{a:Option Addr}{c:Nat}
  (h:FLs H T S l cells Si ai ci) (hk:∀n,S n->n < H.next->H'.get n=H.get n) (hw:H.wf) (ht:FL H' T N t.args a c) (hb:Bd t) (hN:∀n,N n->¬S n) (hS:∀n,S n->S' n) (hNS:∀n,N n->S' n)
  (hc:∀i,i < l.length->(cells'.drop (i*6)).take 6=(cells.drop (i*6)).take 6) (hn:(cells'.drop (l.length*6)).take 6=six t a c) :
  FLs H' T S' (l++[t]) cells' (fun i=>if i < l.length then Si i else N) (fun i=>if i < l.length then ai i else a) (fun i=>if i < l.length then ci i else c):=by
 have key:∀(i:Nat) (u:Tm),(l++[t])[i]?=some u->(i < l.length/\l[i]?=some u)\/(i=l.length/\u=t):=fun i u hu=>by
  by_cases hi:i < l.length
  ·rw[ZC hi] at hu;exact .inl ⟨hi,hu⟩
  ·rw[List.getElem?_append_right (by omega)] at hu;have:i - l.length=0:=by
    have:=(List.getElem?_eq_some_iff.1 hu).1;simp at this;omega
   rw[this] at hu;simp at hu;exact .inr ⟨by omega,hu.symm⟩
 refine⟨fun i u hu=>?_,fun i u hu=>?_,fun i n hi hn=>?_,fun i j n hi hj hn hm=>?_,fun i u hu=>?_⟩
 ·rcases key i u hu with ⟨hi,hu⟩|⟨rfl,rfl⟩
  ·simp only[hi,if_true];rw[hc i hi];exact h.el i u hu
  ·simp only[Nat.lt_irrefl,if_false];exact hn
 ·rcases key i u hu with ⟨hi,hu⟩|⟨rfl,rfl⟩
  ·exact h.bd i u hu
  ·exact hb
 ·by_cases h1:i < l.length
  ·simp only[h1,if_true] at hn;exact hS n (h.sub i n h1 hn)
  ·simp only[h1,if_false] at hn;exact hNS n hn
 ·simp only[Zy,List.length_singleton] at hi hj;by_cases h1:i < l.length<;>by_cases h2:j < l.length
  ·simp only[h1,h2,if_true] at hn hm;exact h.one i j n h1 h2 hn hm
  ·simp only[h1,if_true] at hn;simp only[h2,if_false] at hm;exact absurd (h.sub i n h1 hn) (hN n hm)
  ·simp only[h2,if_true] at hm;simp only[h1,if_false] at hn;exact absurd (h.sub j n h2 hm) (hN n hn)
  ·omega
 ·rcases key i u hu with ⟨hi,hu⟩|⟨rfl,rfl⟩
  ·simp only[hi,if_true];exact(h.fl i u hu).heap (fun n hn hl=>hk n (h.sub i n hi hn) hl) hw
  ·simp only[Nat.lt_irrefl,if_false];exact ht
theorem FLs.heap {H H':Heap}{T:TypeId}{S:Nat->Prop}{l:List Tm}{cells:List Value}{Si:Nat->Nat->Prop}{ai:Nat->Option Addr}{ci:Nat->Nat}(h:FLs H T S l cells Si ai ci)
  (hk:∀n,S n->n < H.next->H'.get n=H.get n) (hw:H.wf):FLs H' T S l cells Si ai ci :=
 ⟨h.el,h.bd,h.sub,h.one,fun i u hu=>(h.fl i u hu).heap (fun n hn hl=>hk n (h.sub i n (List.getElem?_eq_some_iff.1 hu).1 hn) hl) hw⟩
theorem FLs.row {H:Heap}{T:TypeId}{S S':Nat->Prop}{l:List Tm}{cells:List Value}{Si:Nat->Nat->Prop}{ai:Nat->Option Addr}{ci:Nat->Nat}{b c:Nat}(h:FLs H T S l cells Si ai ci)
  (hl:l.length<=c) (hc:c<=maxLen) (hg:H.get b=some (.row cells T)) (hn:l.length*6<=cells.length) (hb:S' b) (hnb:¬S b) (hS:∀n,S n->S' n):FL H T S' l (some ⟨b,0,none⟩) c :=
 .row S' l b c cells Si ai ci hl hc hg hn h.el h.bd hb (fun i hi hs=>hnb (h.sub i b hi hs)) (fun i n hi hs=>hS n (h.sub i n hi hs)) h.one h.fl
theorem FLs.inv {H:Heap}{T:TypeId}{S:Nat->Prop}{l:List Tm}{b c:Nat}{a:Option Addr}(h:FL H T S l a c) (h0:l≠[]):∃b cells Si ai ci,a=some ⟨b,0,none⟩/\l.length<=c/\c<=maxLen/\H.get b=some (.row cells T)/\l.length*6<=cells.length /\
  S b/\(∀i,i < l.length->¬Si i b)/\FLs H T S l cells Si ai ci:=by
 cases h with
 |nil=>exact absurd rfl h0
 |row _ _ b c cells Si ai ci h1 h2 h3 h4 h5 h6 h7 h8 h9 h10 h11=>exact⟨b,cells,Si,ai,ci,rfl,h1,h2,h3,h4,h7,h8,⟨h5,h6,h9,h10,h11⟩⟩
end Go.Hb
end

section
namespace Go.Hb
open Go Go.RowKit
section
variable {P:Program}
theorem zdd {N:Nat}{w0:World}{τ:Nat->Value}{σ:Nat->Loc}{H:Heap}{w:World}{f:FuncId}{args:Array Value}{v:Value}(hv:flat v=true)
  (h:Calls P f args w fun e w'=>e=.returned v/\Below w.heap.size w w') (hH:HR P N w0 τ σ H w) :
  Calls P f args w fun e w'=>∃ σ',EnR σ' τ (.ret v) e/\HR P N w0 τ σ' H w'/\Step σ H w σ' H w':=by
 refine h.mono fun e w' ⟨he,hB⟩=>?_
 subst he;have hlt:=hH.lt;refine⟨σ,.flat _ hv,⟨hH.below.trans (hB.mono hH.size),Zk hH.size hB.size,hH.fresh,fun i B hi=>(hH.blk i B hi).world fun b S es hb=>hB.block b (hlt i b S es hb),hH.inj,
  fun i b S es hi=>Zh (hlt i b S es hi) hB.size⟩,Zf _,Ext.refl σ,fun i b S es hi=>.inr (.inl ⟨S,es,hi⟩),fun b hb _=>hB.block b hb,hB.size,fun _ _ hg=>⟨rfl,hg⟩⟩
def kLaw (fa fv:FuncId) (f:FuncId) (args:List Value) (H:Heap):Option (En × Heap) :=
 if f=fa then (match args with|[]=>some (.ret (.bool true),H)|_=>none)
 else if f=fv then (match args with|[.string s]=>if s.size<=9223372036854775807 then some (.ret (.bool (Lib.validD s.data.toList)),H) else none|_=>none)
 else none
def okLaw (mask:Nat) (fa fv:FuncId):Ok:=⟨mask,kLaw fa fv⟩
theorem zkw {N mask:Nat}{w0:World}{fa fv:FuncId}(hok:((Zi P.funcs.size).all fun f=>!mask.testBit f || okFn P f)=true)
  (ha:∀w,Calls P fa #[] w fun e w'=>e=.returned (.bool true)/\Below w.heap.size w w')
  (hv:∀(s:ByteArray) w,s.size<=9223372036854775807->Below N w0 w->Calls P fv #[.string s] w fun e w'=>e=.returned (.bool (Lib.validD s.data.toList))/\Below w.heap.size w w'):OkFns P N w0 (okLaw mask fa fv):=by
 refine⟨z6w hok,fun τ f args args' H en H' w σ _ hk hl hH _=>?_⟩;simp only[okLaw,kLaw] at hk;split at hk
 ·rename_i hf;subst hf;split at hk
  ·cases hk;have:args'=#[]:=by
    have:=hl.1;simp at this;exact Array.eq_empty_of_size_eq_zero this.symm
   subst this;exact zdd rfl (ha w) hH
  ·cases hk
 ·split at hk
  ·rename_i hf;subst hf;split at hk
   ·rename_i s;split at hk
    ·rename_i hs;cases hk;have hlen:args'.size=1:=by have:=hl.1;simpa using this.symm
     obtain⟨v,rfl⟩:∃v,args'=#[v]:=by
      match args',hlen with
      |⟨[v]⟩,_=>exact⟨v,rfl⟩
     have hvr:=hl.2 0 (.string s) v rfl rfl;rw[VR.flat_eq hvr rfl];exact zdd rfl (hv s w hs hH.below) hH
    ·cases hk
   ·cases hk
  ·cases hk
end
end Go.Hb
end

section
namespace Go.Proofs.hq
open Go Go.RowKit Go.Hb
abbrev ClF (n:Nat):Prop:=∀{d:Option Tmp}{args:Array Operand}{ats:Array TypeId}{ty:TypeId}{pos:String}{af:Array Edge}{g:Option (Nat × Bool)}{tm:Tr Value}{H:Heap},dop Tryd.prog ⟨d,.call ⟨.value (.func n),args,ats⟩,ty,pos,af,g⟩ (ev tm) H=some (.call n (args.toList.map (ev tm)))
theorem ln22 {ty:TypeId}{a:Option Addr}{n c:Nat}{H:Heap}:dLn Tryd.prog 22 ty (.slice a n c) H=some (.val (.int .i64 n) H):=z15 (e:=26) (by kernel_rfl)
theorem ia22 {b o n c i:Nat}{k:IntKind}{H:Heap}(h:i < n):dIndexAddr Tryd.prog 22 (.slice (some ⟨b,o,none⟩) n c) (.int k (i:Int)) H=some (.val (.pointer (some ⟨b,o+i*6,none⟩)) H):=z0w (e:=26) (by kernel_rfl) (by kernel_rfl) (by kernel_rfl) h
theorem iz22 {b o n c:Nat}{k:IntKind}{i:Int}{H:Heap}(h0:0<=i) (h:i < n):dIndexAddr Tryd.prog 22 (.slice (some ⟨b,o,none⟩) n c) (.int k i) H=some (.val (.pointer (some ⟨b,o+i.toNat*6,none⟩)) H):=z3k (e:=26) (by kernel_rfl) (by kernel_rfl) (by kernel_rfl) h0 h
theorem ld26 {ad:Addr}{H:Heap}:dLoad Tryd.prog 26 (.pointer (some ad)) H=dloadA 6 (H.load ad 6) H:=z1q (by kernel_rfl) (by kernel_rfl)
theorem cl17:ClF 17:=z09 (by kernel_rfl)
theorem cl18:ClF 18:=z09 (by kernel_rfl)
theorem ln45 {ty:TypeId}{a:Option Addr}{n c:Nat}{H:Heap}:dLn Tryd.prog 45 ty (.slice a n c) H=some (.val (.int .i64 n) H):=z15 (e:=57) (by kernel_rfl)
theorem ia45 {b o n c i:Nat}{k:IntKind}{H:Heap}(h:i < n):dIndexAddr Tryd.prog 45 (.slice (some ⟨b,o,none⟩) n c) (.int k (i:Int)) H=some (.val (.pointer (some ⟨b,o+i*31,none⟩)) H):=z0w (e:=57) (by kernel_rfl) (by kernel_rfl) (by kernel_rfl) h
theorem zad {b o:Nat}{H:Heap}:dFieldAddr Tryd.prog 57 (.pointer (some ⟨b,o,none⟩)) 1 H=some (.val (.pointer (some ⟨b,o+1,none⟩)) H):=z02 (u:=3) (by kernel_rfl) (by kernel_rfl)
theorem ld3 {ad:Addr}{H:Heap}:dLoad Tryd.prog 3 (.pointer (some ad)) H=dload1 (H.load ad 1) H:=z0a (by kernel_rfl)
theorem zqc {b o:Nat}{H:Heap}:dFieldAddr Tryd.prog 57 (.pointer (some ⟨b,o,none⟩)) 7 H=some (.val (.pointer (some ⟨b,o+8,none⟩)) H):=z02 (u:=55) (by kernel_rfl) (by kernel_rfl)
theorem ld55 {ad:Addr}{H:Heap}:dLoad Tryd.prog 55 (.pointer (some ad)) H=dloadA 15 (H.load ad 15) H:=z1q (by kernel_rfl) (by kernel_rfl)
theorem zqd {b o:Nat}{H:Heap}:dFieldAddr Tryd.prog 57 (.pointer (some ⟨b,o,none⟩)) 8 H=some (.val (.pointer (some ⟨b,o+23,none⟩)) H):=z02 (u:=4) (by kernel_rfl) (by kernel_rfl)
theorem ld4 {ad:Addr}{H:Heap}:dLoad Tryd.prog 4 (.pointer (some ad)) H=dload1 (H.load ad 1) H:=z0a (by kernel_rfl)
theorem cl19:ClF 19:=z09 (by kernel_rfl)
theorem ld47 {ad:Addr}{H:Heap}:dLoad Tryd.prog 47 (.pointer (some ad)) H=dloadA 2 (H.load ad 2) H:=z1q (by kernel_rfl) (by kernel_rfl)
theorem cl20:ClF 20:=z09 (by kernel_rfl)
theorem ln60 {ty:TypeId}{a:Option Addr}{n c:Nat}{H:Heap}:dLn Tryd.prog 60 ty (.slice a n c) H=some (.val (.int .i64 n) H):=z15 (e:=3) (by kernel_rfl)
theorem ia60 {b o n c i:Nat}{k:IntKind}{H:Heap}(h:i < n):dIndexAddr Tryd.prog 60 (.slice (some ⟨b,o,none⟩) n c) (.int k (i:Int)) H=some (.val (.pointer (some ⟨b,o+i*1,none⟩)) H):=z0w (e:=3) (by kernel_rfl) (by kernel_rfl) (by kernel_rfl) h
theorem cl21:ClF 21:=z09 (by kernel_rfl)
theorem zr55:zerosOf Tryd.prog 55=some [.int .i64 0,.string Zd,.string Zd,.int .u64 0,.int .i64 0,.slice none 0 0,.int .i64 0,.int .i64 0,.string Zd,.string Zd,.int .u64 0,.int .i64 0,.slice none 0 0,.slice none 0 0,.int .i64 0]:=by kernel_rfl
theorem st55 {b o:Nat}{H:Heap}{cs:List Value}:dStore Tryd.prog 55 (.pointer (some ⟨b,o,none⟩)) (.agg ⟨cs⟩) H=dStoreIf (Zu cs.length 15) ⟨b,o,none⟩ cs H (H.get b):=z1a (by kernel_rfl) (by kernel_rfl)
theorem ztg {v0:Value}{H:Heap}:dBuildS Tryd.prog 62 1 [(0,v0)] H=dBs 55 1 (([(0,v0)]:List (Nat × Value)).all fun p=>p.2.cells.toList.all one) (layC [(0,15)] [.int .i64 0,.string Zd,.string Zd,.int .u64 0,.int .i64 0,.slice none 0 0,.int .i64 0,.int .i64 0,.string Zd,.string Zd,.int .u64 0,.int .i64 0,.slice none 0 0,.slice none 0 0,.int .i64 0] (([(0,v0)]:List (Nat × Value)).map fun p=>(p.1,p.2.cells.toList))) H:=z13 (size:=15) (by kernel_rfl) rfl
theorem ap62:apOk Tryd.prog 62 55 15:=z45 (by kernel_rfl)
theorem zth {b o:Nat}{H:Heap}:dFieldAddr Tryd.prog 57 (.pointer (some ⟨b,o,none⟩)) 2 H=some (.val (.pointer (some ⟨b,o+2,none⟩)) H):=z02 (u:=3) (by kernel_rfl) (by kernel_rfl)
theorem cl22:ClF 22:=z09 (by kernel_rfl)
theorem zti {b o:Nat}{H:Heap}:dFieldAddr Tryd.prog 57 (.pointer (some ⟨b,o,none⟩)) 5 H=some (.val (.pointer (some ⟨b,o+5,none⟩)) H):=z02 (u:=47) (by kernel_rfl) (by kernel_rfl)
theorem cl23:ClF 23:=z09 (by kernel_rfl)
theorem ia62 {b o n c i:Nat}{k:IntKind}{H:Heap}(h:i < n):dIndexAddr Tryd.prog 62 (.slice (some ⟨b,o,none⟩) n c) (.int k (i:Int)) H=some (.val (.pointer (some ⟨b,o+i*15,none⟩)) H):=z0w (e:=55) (by kernel_rfl) (by kernel_rfl) (by kernel_rfl) h
theorem cl24:ClF 24:=z09 (by kernel_rfl)
theorem zde {v0:Value}{H:Heap}:dBuildS Tryd.prog 22 1 [(0,v0)] H=dBs 26 1 (([(0,v0)]:List (Nat × Value)).all fun p=>p.2.cells.toList.all one) (layC [(0,6)] [.int .i64 0,.string Zd,.string Zd,.int .u64 0,.int .i64 0,.slice none 0 0] (([(0,v0)]:List (Nat × Value)).map fun p=>(p.1,p.2.cells.toList))) H:=z13 (size:=6) (by kernel_rfl) rfl
theorem ld60 {ad:Addr}{H:Heap}:dLoad Tryd.prog 60 (.pointer (some ad)) H=dload1 (H.load ad 1) H:=z0a (by kernel_rfl)
theorem zkx {v0:Value}{H:Heap}:dBuildS Tryd.prog 60 1 [(0,v0)] H=dBs 3 1 (([(0,v0)]:List (Nat × Value)).all fun p=>p.2.cells.toList.all one) (layC [(0,1)] [.int .i64 0] (([(0,v0)]:List (Nat × Value)).map fun p=>(p.1,p.2.cells.toList))) H:=z13 (size:=1) (by kernel_rfl) rfl
theorem ap60:apOk Tryd.prog 60 3 1:=z45 (by kernel_rfl)
theorem st60 {b o:Nat}{H:Heap}{a:Option Addr}{n c:Nat}:dStore Tryd.prog 60 (.pointer (some ⟨b,o,none⟩)) (.slice a n c) H=dStoreB ⟨b,o,none⟩ [.slice a n c] H (H.get b):=z2u (by kernel_rfl) (by kernel_rfl)
theorem cl28:ClF 28:=z09 (by kernel_rfl)
theorem ln23 {ty:TypeId}{a:Option Addr}{n c:Nat}{H:Heap}:dLn Tryd.prog 23 ty (.slice a n c) H=some (.val (.int .i64 n) H):=z15 (e:=83) (by kernel_rfl)
theorem ia23 {b o n c i:Nat}{k:IntKind}{H:Heap}(h:i < n):dIndexAddr Tryd.prog 23 (.slice (some ⟨b,o,none⟩) n c) (.int k (i:Int)) H=some (.val (.pointer (some ⟨b,o+i*7,none⟩)) H):=z0w (e:=83) (by kernel_rfl) (by kernel_rfl) (by kernel_rfl) h
theorem zqe {b o:Nat}{H:Heap}:dFieldAddr Tryd.prog 83 (.pointer (some ⟨b,o,none⟩)) 1 H=some (.val (.pointer (some ⟨b,o+1,none⟩)) H):=z02 (u:=26) (by kernel_rfl) (by kernel_rfl)
theorem zdf {b o:Nat}{H:Heap}:dFieldAddr Tryd.prog 83 (.pointer (some ⟨b,o,none⟩)) 0 H=some (.val (.pointer (some ⟨b,o+0,none⟩)) H):=z02 (u:=3) (by kernel_rfl) (by kernel_rfl)
theorem zr26:zerosOf Tryd.prog 26=some [.int .i64 0,.string Zd,.string Zd,.int .u64 0,.int .i64 0,.slice none 0 0]:=by kernel_rfl
theorem st26 {b o:Nat}{H:Heap}{cs:List Value}:dStore Tryd.prog 26 (.pointer (some ⟨b,o,none⟩)) (.agg ⟨cs⟩) H=dStoreIf (Zu cs.length 6) ⟨b,o,none⟩ cs H (H.get b):=z1a (by kernel_rfl) (by kernel_rfl)
theorem ap22:apOk Tryd.prog 22 26 6:=z45 (by kernel_rfl)
theorem st3 {b o:Nat}{H:Heap}{k:IntKind}{n:Int}:dStore Tryd.prog 3 (.pointer (some ⟨b,o,none⟩)) (.int k n) H=dStoreB ⟨b,o,none⟩ [.int k n] H (H.get b):=z3t (by kernel_rfl) (by kernel_rfl)
theorem cl37:ClF 37:=z09 (by kernel_rfl)
theorem st4 {b o:Nat}{H:Heap}{s:Bool}:dStore Tryd.prog 4 (.pointer (some ⟨b,o,none⟩)) (.bool s) H=dStoreB ⟨b,o,none⟩ [.bool s] H (H.get b):=zf7 (by kernel_rfl) (by kernel_rfl)
theorem sl60:slcOk Tryd.prog 60 3 1:=⟨by kernel_rfl,by kernel_rfl,by kernel_rfl⟩
theorem bd47 {vs:List (Nat × Value)}{H:Heap}:dBuild Tryd.prog 47 vs H=dBd (vs.all fun p=>p.2.cells.toList.all one) (layC [(0,1),(1,1)] [.string Zd,.int .i64 0] (vs.map fun p=>(p.1,p.2.cells.toList))) H:=z1r (by kernel_rfl) (by kernel_rfl)
theorem zr47:zerosOf Tryd.prog 47=some [.string Zd,.int .i64 0]:=by kernel_rfl
theorem st47 {b o:Nat}{H:Heap}{cs:List Value}:dStore Tryd.prog 47 (.pointer (some ⟨b,o,none⟩)) (.agg ⟨cs⟩) H=dStoreIf (Zu cs.length 2) ⟨b,o,none⟩ cs H (H.get b):=z1a (by kernel_rfl) (by kernel_rfl)
theorem zv6 {vs:List (Nat × Value)}{H:Heap}:dBuild Tryd.prog 110 vs H=dBd (vs.all fun p=>p.2.cells.toList.all one) (layC [(0,1),(1,1),(2,1),(3,1),(4,1),(5,1),(6,1)] [.map none,.slice none 0 0,.int .i64 0,.map none,.map none,.map none,.map none] (vs.map fun p=>(p.1,p.2.cells.toList))) H:=z1r (by kernel_rfl) (by kernel_rfl)
theorem ztj {v0 v1 v2 v3 v4 v5:Value}{H:Heap}:dBuildS Tryd.prog 50 6 [(0,v0),(1,v1),(2,v2),(3,v3),(4,v4),(5,v5)] H=dBs 47 6 (([(0,v0),(1,v1),(2,v2),(3,v3),(4,v4),(5,v5)]:List (Nat × Value)).all fun p=>p.2.cells.toList.all one) (layC [(0,2),(2,2),(4,2),(6,2),(8,2),(10,2)] [.string Zd,.int .i64 0,.string Zd,.int .i64 0,.string Zd,.int .i64 0,.string Zd,.int .i64 0,.string Zd,.int .i64 0,.string Zd,.int .i64 0] (([(0,v0),(1,v1),(2,v2),(3,v3),(4,v4),(5,v5)]:List (Nat × Value)).map fun p=>(p.1,p.2.cells.toList))) H:=z13 (size:=2) (by kernel_rfl) rfl
theorem zrk {v0 v1:Value}{H:Heap}:dBuildS Tryd.prog 148 2 [(0,v0),(1,v1)] H=dBs 50 2 (([(0,v0),(1,v1)]:List (Nat × Value)).all fun p=>p.2.cells.toList.all one) (layC [(0,1),(1,1)] [.slice none 0 0,.slice none 0 0] (([(0,v0),(1,v1)]:List (Nat × Value)).map fun p=>(p.1,p.2.cells.toList))) H:=z13 (size:=1) (by kernel_rfl) rfl
theorem cl43:ClF 43:=z09 (by kernel_rfl)
theorem ln50 {ty:TypeId}{a:Option Addr}{n c:Nat}{H:Heap}:dLn Tryd.prog 50 ty (.slice a n c) H=some (.val (.int .i64 n) H):=z15 (e:=47) (by kernel_rfl)
theorem ia50 {b o n c i:Nat}{k:IntKind}{H:Heap}(h:i < n):dIndexAddr Tryd.prog 50 (.slice (some ⟨b,o,none⟩) n c) (.int k (i:Int)) H=some (.val (.pointer (some ⟨b,o+i*2,none⟩)) H):=z0w (e:=47) (by kernel_rfl) (by kernel_rfl) (by kernel_rfl) h
theorem zbk {b o:Nat}{H:Heap}:dFieldAddr Tryd.prog 110 (.pointer (some ⟨b,o,none⟩)) 0 H=some (.val (.pointer (some ⟨b,o+0,none⟩)) H):=z02 (u:=71) (by kernel_rfl) (by kernel_rfl)
theorem ld71 {ad:Addr}{H:Heap}:dLoad Tryd.prog 71 (.pointer (some ad)) H=dload1 (H.load ad 1) H:=z0a (by kernel_rfl)
theorem cl44:ClF 44:=z09 (by kernel_rfl)
theorem cl45:ClF 45:=z09 (by kernel_rfl)
theorem z8s {b o:Nat}{H:Heap}:dFieldAddr Tryd.prog 55 (.pointer (some ⟨b,o,none⟩)) 0 H=some (.val (.pointer (some ⟨b,o+0,none⟩)) H):=z02 (u:=26) (by kernel_rfl) (by kernel_rfl)
theorem z1t {b o:Nat}{H:Heap}:dFieldAddr Tryd.prog 26 (.pointer (some ⟨b,o,none⟩)) 1 H=some (.val (.pointer (some ⟨b,o+1,none⟩)) H):=z02 (u:=9) (by kernel_rfl) (by kernel_rfl)
theorem ld9 {ad:Addr}{H:Heap}:dLoad Tryd.prog 9 (.pointer (some ad)) H=dload1 (H.load ad 1) H:=z0a (by kernel_rfl)
theorem z10 {b o:Nat}{H:Heap}:dFieldAddr Tryd.prog 26 (.pointer (some ⟨b,o,none⟩)) 5 H=some (.val (.pointer (some ⟨b,o+5,none⟩)) H):=z02 (u:=22) (by kernel_rfl) (by kernel_rfl)
theorem ld22 {ad:Addr}{H:Heap}:dLoad Tryd.prog 22 (.pointer (some ad)) H=dload1 (H.load ad 1) H:=z0a (by kernel_rfl)
theorem zbl {vs:List (Nat × Value)}{H:Heap}:dBuild Tryd.prog 115 vs H=dBd (vs.all fun p=>p.2.cells.toList.all one) (layC [(0,1),(1,2)] [.string Zd,.string Zd,.int .i64 0] (vs.map fun p=>(p.1,p.2.cells.toList))) H:=z1r (by kernel_rfl) (by kernel_rfl)
theorem zv7:zerosOf Tryd.prog 115=some [.string Zd,.string Zd,.int .i64 0]:=by kernel_rfl
theorem zv8 {b o:Nat}{H:Heap}{cs:List Value}:dStore Tryd.prog 115 (.pointer (some ⟨b,o,none⟩)) (.agg ⟨cs⟩) H=dStoreIf (Zu cs.length 3) ⟨b,o,none⟩ cs H (H.get b):=z1a (by kernel_rfl) (by kernel_rfl)
theorem z3d {b o:Nat}{H:Heap}:dFieldAddr Tryd.prog 110 (.pointer (some ⟨b,o,none⟩)) 3 H=some (.val (.pointer (some ⟨b,o+3,none⟩)) H):=z02 (u:=104) (by kernel_rfl) (by kernel_rfl)
theorem z8t {ad:Addr}{H:Heap}:dLoad Tryd.prog 104 (.pointer (some ad)) H=dload1 (H.load ad 1) H:=z0a (by kernel_rfl)
theorem zky {ad:Addr}{H:Heap}:dLoad Tryd.prog 115 (.pointer (some ad)) H=dloadA 3 (H.load ad 3) H:=z1q (by kernel_rfl) (by kernel_rfl)
theorem zrl {b o:Nat}{H:Heap}:dFieldAddr Tryd.prog 115 (.pointer (some ⟨b,o,none⟩)) 1 H=some (.val (.pointer (some ⟨b,o+1,none⟩)) H):=z02 (u:=47) (by kernel_rfl) (by kernel_rfl)
theorem zfe {b o:Nat}{H:Heap}:dFieldAddr Tryd.prog 118 (.pointer (some ⟨b,o,none⟩)) 0 H=some (.val (.pointer (some ⟨b,o+0,none⟩)) H):=z02 (u:=3) (by kernel_rfl) (by kernel_rfl)
theorem z5o {b o:Nat}{H:Heap}:dFieldAddr Tryd.prog 110 (.pointer (some ⟨b,o,none⟩)) 2 H=some (.val (.pointer (some ⟨b,o+2,none⟩)) H):=z02 (u:=3) (by kernel_rfl) (by kernel_rfl)
theorem zv9 {vs:List (Nat × Value)}{H:Heap}:dBuild Tryd.prog 118 vs H=dBd (vs.all fun p=>p.2.cells.toList.all one) (layC [(0,1),(1,1)] [.int .i64 0,.slice none 0 0] (vs.map fun p=>(p.1,p.2.cells.toList))) H:=z1r (by kernel_rfl) (by kernel_rfl)
theorem z4n {b o:Nat}{H:Heap}:dFieldAddr Tryd.prog 110 (.pointer (some ⟨b,o,none⟩)) 1 H=some (.val (.pointer (some ⟨b,o+1,none⟩)) H):=z02 (u:=108) (by kernel_rfl) (by kernel_rfl)
theorem zdg {ad:Addr}{H:Heap}:dLoad Tryd.prog 108 (.pointer (some ad)) H=dload1 (H.load ad 1) H:=z0a (by kernel_rfl)
theorem zkz {ty:TypeId}{a:Option Addr}{n c:Nat}{H:Heap}:dLn Tryd.prog 108 ty (.slice a n c) H=some (.val (.int .i64 n) H):=z15 (e:=121) (by kernel_rfl)
theorem cl46:ClF 46:=z09 (by kernel_rfl)
theorem ztk {vs:List (Nat × Value)}{H:Heap}:dBuild Tryd.prog 121 vs H=dBd (vs.all fun p=>p.2.cells.toList.all one) (layC [(0,3),(3,15),(18,1)] [.string Zd,.string Zd,.int .i64 0,.int .i64 0,.string Zd,.string Zd,.int .u64 0,.int .i64 0,.slice none 0 0,.int .i64 0,.int .i64 0,.string Zd,.string Zd,.int .u64 0,.int .i64 0,.slice none 0 0,.slice none 0 0,.int .i64 0,.bool false] (vs.map fun p=>(p.1,p.2.cells.toList))) H:=z1r (by kernel_rfl) (by kernel_rfl)
theorem zl0 {v0:Value}{H:Heap}:dBuildS Tryd.prog 108 1 [(0,v0)] H=dBs 121 1 (([(0,v0)]:List (Nat × Value)).all fun p=>p.2.cells.toList.all one) (layC [(0,19)] [.string Zd,.string Zd,.int .i64 0,.int .i64 0,.string Zd,.string Zd,.int .u64 0,.int .i64 0,.slice none 0 0,.int .i64 0,.int .i64 0,.string Zd,.string Zd,.int .u64 0,.int .i64 0,.slice none 0 0,.slice none 0 0,.int .i64 0,.bool false] (([(0,v0)]:List (Nat × Value)).map fun p=>(p.1,p.2.cells.toList))) H:=z13 (size:=19) (by kernel_rfl) rfl
theorem zva:apOk Tryd.prog 108 121 19:=z45 (by kernel_rfl)
theorem ztl {b o:Nat}{H:Heap}{a:Option Addr}{n c:Nat}:dStore Tryd.prog 108 (.pointer (some ⟨b,o,none⟩)) (.slice a n c) H=dStoreB ⟨b,o,none⟩ [.slice a n c] H (H.get b):=z2u (by kernel_rfl) (by kernel_rfl)
theorem zbm {b o:Nat}{H:Heap}:dFieldAddr Tryd.prog 118 (.pointer (some ⟨b,o,none⟩)) 1 H=some (.val (.pointer (some ⟨b,o+1,none⟩)) H):=z02 (u:=60) (by kernel_rfl) (by kernel_rfl)
theorem cl47:ClF 47:=z09 (by kernel_rfl)
theorem cl48:ClF 48:=z09 (by kernel_rfl)
theorem bd55 {vs:List (Nat × Value)}{H:Heap}:dBuild Tryd.prog 55 vs H=dBd (vs.all fun p=>p.2.cells.toList.all one) (layC [(0,6),(6,8),(14,1)] [.int .i64 0,.string Zd,.string Zd,.int .u64 0,.int .i64 0,.slice none 0 0,.int .i64 0,.int .i64 0,.string Zd,.string Zd,.int .u64 0,.int .i64 0,.slice none 0 0,.slice none 0 0,.int .i64 0] (vs.map fun p=>(p.1,p.2.cells.toList))) H:=z1r (by kernel_rfl) (by kernel_rfl)
theorem zo2 {b o n c i:Nat}{k:IntKind}{H:Heap}(h:i < n):dIndexAddr Tryd.prog 108 (.slice (some ⟨b,o,none⟩) n c) (.int k (i:Int)) H=some (.val (.pointer (some ⟨b,o+i*19,none⟩)) H):=z0w (e:=121) (by kernel_rfl) (by kernel_rfl) (by kernel_rfl) h
theorem zvb {ad:Addr}{H:Heap}:dLoad Tryd.prog 121 (.pointer (some ad)) H=dloadA 19 (H.load ad 19) H:=z1q (by kernel_rfl) (by kernel_rfl)
theorem zvc:zerosOf Tryd.prog 121=some [.string Zd,.string Zd,.int .i64 0,.int .i64 0,.string Zd,.string Zd,.int .u64 0,.int .i64 0,.slice none 0 0,.int .i64 0,.int .i64 0,.string Zd,.string Zd,.int .u64 0,.int .i64 0,.slice none 0 0,.slice none 0 0,.int .i64 0,.bool false]:=by kernel_rfl
theorem zvd {b o:Nat}{H:Heap}{cs:List Value}:dStore Tryd.prog 121 (.pointer (some ⟨b,o,none⟩)) (.agg ⟨cs⟩) H=dStoreIf (Zu cs.length 19) ⟨b,o,none⟩ cs H (H.get b):=z1a (by kernel_rfl) (by kernel_rfl)
theorem zl1 {b o:Nat}{H:Heap}:dFieldAddr Tryd.prog 121 (.pointer (some ⟨b,o,none⟩)) 0 H=some (.val (.pointer (some ⟨b,o+0,none⟩)) H):=z02 (u:=115) (by kernel_rfl) (by kernel_rfl)
theorem zrm {b o:Nat}{H:Heap}:dFieldAddr Tryd.prog 115 (.pointer (some ⟨b,o,none⟩)) 0 H=some (.val (.pointer (some ⟨b,o+0,none⟩)) H):=z02 (u:=9) (by kernel_rfl) (by kernel_rfl)
theorem zrn {b o:Nat}{H:Heap}:dFieldAddr Tryd.prog 121 (.pointer (some ⟨b,o,none⟩)) 1 H=some (.val (.pointer (some ⟨b,o+3,none⟩)) H):=z02 (u:=55) (by kernel_rfl) (by kernel_rfl)
theorem zbn {b o:Nat}{H:Heap}:dFieldAddr Tryd.prog 121 (.pointer (some ⟨b,o,none⟩)) 2 H=some (.val (.pointer (some ⟨b,o+18,none⟩)) H):=z02 (u:=4) (by kernel_rfl) (by kernel_rfl)
theorem cl49:ClF 49:=z09 (by kernel_rfl)
theorem cl51:ClF 51:=z09 (by kernel_rfl)
theorem zh6 {b o:Nat}{H:Heap}:dFieldAddr Tryd.prog 55 (.pointer (some ⟨b,o,none⟩)) 1 H=some (.val (.pointer (some ⟨b,o+6,none⟩)) H):=z02 (u:=53) (by kernel_rfl) (by kernel_rfl)
theorem ld53 {ad:Addr}{H:Heap}:dLoad Tryd.prog 53 (.pointer (some ad)) H=dloadA 8 (H.load ad 8) H:=z1q (by kernel_rfl) (by kernel_rfl)
theorem cl52:ClF 52:=z09 (by kernel_rfl)
theorem zdh {b o:Nat}{H:Heap}:dFieldAddr Tryd.prog 55 (.pointer (some ⟨b,o,none⟩)) 2 H=some (.val (.pointer (some ⟨b,o+14,none⟩)) H):=z02 (u:=3) (by kernel_rfl) (by kernel_rfl)
theorem bd26 {vs:List (Nat × Value)}{H:Heap}:dBuild Tryd.prog 26 vs H=dBd (vs.all fun p=>p.2.cells.toList.all one) (layC [(0,1),(1,1),(2,1),(3,1),(4,1),(5,1)] [.int .i64 0,.string Zd,.string Zd,.int .u64 0,.int .i64 0,.slice none 0 0] (vs.map fun p=>(p.1,p.2.cells.toList))) H:=z1r (by kernel_rfl) (by kernel_rfl)
theorem cl53:ClF 53:=z09 (by kernel_rfl)
theorem cl54:ClF 54:=z09 (by kernel_rfl)
theorem z0o {b o:Nat}{H:Heap}:dFieldAddr Tryd.prog 26 (.pointer (some ⟨b,o,none⟩)) 0 H=some (.val (.pointer (some ⟨b,o+0,none⟩)) H):=z02 (u:=3) (by kernel_rfl) (by kernel_rfl)
theorem z67 {b o:Nat}{H:Heap}:dFieldAddr Tryd.prog 26 (.pointer (some ⟨b,o,none⟩)) 4 H=some (.val (.pointer (some ⟨b,o+4,none⟩)) H):=z02 (u:=3) (by kernel_rfl) (by kernel_rfl)
theorem zr3:zerosOf Tryd.prog 3=some [.int .i64 0]:=by kernel_rfl
theorem z5g {b o:Nat}{H:Heap}:dFieldAddr Tryd.prog 26 (.pointer (some ⟨b,o,none⟩)) 2 H=some (.val (.pointer (some ⟨b,o+2,none⟩)) H):=z02 (u:=9) (by kernel_rfl) (by kernel_rfl)
theorem z7j {b o:Nat}{H:Heap}:dFieldAddr Tryd.prog 26 (.pointer (some ⟨b,o,none⟩)) 3 H=some (.val (.pointer (some ⟨b,o+3,none⟩)) H):=z02 (u:=24) (by kernel_rfl) (by kernel_rfl)
theorem ld24 {ad:Addr}{H:Heap}:dLoad Tryd.prog 24 (.pointer (some ad)) H=dload1 (H.load ad 1) H:=z0a (by kernel_rfl)
theorem bd53 {vs:List (Nat × Value)}{H:Heap}:dBuild Tryd.prog 53 vs H=dBd (vs.all fun p=>p.2.cells.toList.all one) (layC [(0,1),(1,6),(7,1)] [.int .i64 0,.int .i64 0,.string Zd,.string Zd,.int .u64 0,.int .i64 0,.slice none 0 0,.slice none 0 0] (vs.map fun p=>(p.1,p.2.cells.toList))) H:=z1r (by kernel_rfl) (by kernel_rfl)
theorem cl70:ClF 70:=z09 (by kernel_rfl)
theorem ztm {ty:TypeId}{a:Option Addr}{n c:Nat}{H:Heap}:dLn Tryd.prog 148 ty (.slice a n c) H=some (.val (.int .i64 n) H):=z15 (e:=50) (by kernel_rfl)
theorem zo3 {b o n c:Nat}{k:IntKind}{i:Int}{H:Heap}(h0:0<=i) (h:i < n):dIndexAddr Tryd.prog 148 (.slice (some ⟨b,o,none⟩) n c) (.int k i) H=some (.val (.pointer (some ⟨b,o+i.toNat*1,none⟩)) H):=z3k (e:=50) (by kernel_rfl) (by kernel_rfl) (by kernel_rfl) h0 h
theorem ld50 {ad:Addr}{H:Heap}:dLoad Tryd.prog 50 (.pointer (some ad)) H=dload1 (H.load ad 1) H:=z0a (by kernel_rfl)
theorem cl71:ClF 71:=z09 (by kernel_rfl)
theorem ap50:apOk Tryd.prog 50 47 2:=z45 (by kernel_rfl)
theorem cl72:ClF 72:=z09 (by kernel_rfl)
theorem ln9 {ty:TypeId}{s:ByteArray}{H:Heap}:dLn Tryd.prog 9 ty (.string s) H=some (.val (.int .i64 s.size) H):=z6z (by kernel_rfl)
theorem cl73:ClF 73:=z09 (by kernel_rfl)
theorem cl74:ClF 74:=z09 (by kernel_rfl)
theorem cl75:ClF 75:=z09 (by kernel_rfl)
theorem zae {v0 v1:Value}{H:Heap}:dBuildS Tryd.prog 22 2 [(0,v0),(1,v1)] H=dBs 26 2 (([(0,v0),(1,v1)]:List (Nat × Value)).all fun p=>p.2.cells.toList.all one) (layC [(0,6),(6,6)] [.int .i64 0,.string Zd,.string Zd,.int .u64 0,.int .i64 0,.slice none 0 0,.int .i64 0,.string Zd,.string Zd,.int .u64 0,.int .i64 0,.slice none 0 0] (([(0,v0),(1,v1)]:List (Nat × Value)).map fun p=>(p.1,p.2.cells.toList))) H:=z13 (size:=6) (by kernel_rfl) rfl
theorem cl77:ClF 77:=z09 (by kernel_rfl)
theorem cl76:ClF 76:=z09 (by kernel_rfl)
theorem cl78:ClF 78:=z09 (by kernel_rfl)
theorem cl79:ClF 79:=z09 (by kernel_rfl)
theorem zve:zerosOf Tryd.prog 157=some [.nilFunc]:=by kernel_rfl
theorem zvf:zerosOf Tryd.prog 159=some [.nilFunc]:=by kernel_rfl
theorem zvg {b o:Nat}{H:Heap}{f:Fn}{x y:Array Value}:dStore Tryd.prog 159 (.pointer (some ⟨b,o,none⟩)) (.func f x y) H=dStoreB ⟨b,o,none⟩ [.func f x y] H (H.get b):=z7h (by kernel_rfl) (by kernel_rfl)
theorem zvh {b o:Nat}{H:Heap}{f:Fn}{x y:Array Value}:dStore Tryd.prog 157 (.pointer (some ⟨b,o,none⟩)) (.func f x y) H=dStoreB ⟨b,o,none⟩ [.func f x y] H (H.get b):=z7h (by kernel_rfl) (by kernel_rfl)
theorem ztn {ad:Addr}{H:Heap}:dLoad Tryd.prog 159 (.pointer (some ad)) H=dload1 (H.load ad 1) H:=z0a (by kernel_rfl)
theorem zto {ad:Addr}{H:Heap}:dLoad Tryd.prog 157 (.pointer (some ad)) H=dload1 (H.load ad 1) H:=z0a (by kernel_rfl)
theorem zqf {H:Heap}:dBuildS Tryd.prog 60 0 [] H=dBs 3 0 (([]:List (Nat × Value)).all fun p=>p.2.cells.toList.all one) (layC [] [] (([]:List (Nat × Value)).map fun p=>(p.1,p.2.cells.toList))) H:=z13 (size:=1) (by kernel_rfl) rfl
theorem cl85:ClF 85:=z09 (by kernel_rfl)
theorem cl86:ClF 86:=z09 (by kernel_rfl)
theorem z8u {b o:Nat}{H:Heap}:dFieldAddr Tryd.prog 53 (.pointer (some ⟨b,o,none⟩)) 1 H=some (.val (.pointer (some ⟨b,o+1,none⟩)) H):=z02 (u:=26) (by kernel_rfl) (by kernel_rfl)
theorem z1j {b o:Nat}{H:Heap}:dFieldAddr Tryd.prog 53 (.pointer (some ⟨b,o,none⟩)) 0 H=some (.val (.pointer (some ⟨b,o+0,none⟩)) H):=z02 (u:=3) (by kernel_rfl) (by kernel_rfl)
theorem z3e {b o:Nat}{H:Heap}:dFieldAddr Tryd.prog 53 (.pointer (some ⟨b,o,none⟩)) 2 H=some (.val (.pointer (some ⟨b,o+7,none⟩)) H):=z02 (u:=51) (by kernel_rfl) (by kernel_rfl)
theorem ld51 {ad:Addr}{H:Heap}:dLoad Tryd.prog 51 (.pointer (some ad)) H=dload1 (H.load ad 1) H:=z0a (by kernel_rfl)
theorem ln51 {ty:TypeId}{a:Option Addr}{n c:Nat}{H:Heap}:dLn Tryd.prog 51 ty (.slice a n c) H=some (.val (.int .i64 n) H):=z15 (e:=53) (by kernel_rfl)
theorem ia51 {b o n c i:Nat}{k:IntKind}{H:Heap}(h:i < n):dIndexAddr Tryd.prog 51 (.slice (some ⟨b,o,none⟩) n c) (.int k (i:Int)) H=some (.val (.pointer (some ⟨b,o+i*8,none⟩)) H):=z0w (e:=53) (by kernel_rfl) (by kernel_rfl) (by kernel_rfl) h
theorem zr60:zerosOf Tryd.prog 60=some [.slice none 0 0]:=by kernel_rfl
theorem ztp:zerosOf Tryd.prog 163=some [.map none]:=by kernel_rfl
theorem ztq {b o:Nat}{H:Heap}{a:Option Nat}:dStore Tryd.prog 163 (.pointer (some ⟨b,o,none⟩)) (.map a) H=dStoreB ⟨b,o,none⟩ [.map a] H (H.get b):=z8j (by kernel_rfl) (by kernel_rfl)
theorem cl87:ClF 87:=z09 (by kernel_rfl)
theorem st22 {b o:Nat}{H:Heap}{a:Option Addr}{n c:Nat}:dStore Tryd.prog 22 (.pointer (some ⟨b,o,none⟩)) (.slice a n c) H=dStoreB ⟨b,o,none⟩ [.slice a n c] H (H.get b):=z2u (by kernel_rfl) (by kernel_rfl)
theorem ztr {b o:Nat}{H:Heap}:dFieldAddr Tryd.prog 47 (.pointer (some ⟨b,o,none⟩)) 0 H=some (.val (.pointer (some ⟨b,o+0,none⟩)) H):=z02 (u:=9) (by kernel_rfl) (by kernel_rfl)
theorem zqg {b o:Nat}{H:Heap}:dFieldAddr Tryd.prog 47 (.pointer (some ⟨b,o,none⟩)) 1 H=some (.val (.pointer (some ⟨b,o+1,none⟩)) H):=z02 (u:=3) (by kernel_rfl) (by kernel_rfl)
theorem mk60:mkOk Tryd.prog 60 3 [.int .i64 0]:=zf8 (by kernel_rfl)
theorem sl50:slcOk Tryd.prog 50 47 2:=⟨by kernel_rfl,by kernel_rfl,by kernel_rfl⟩
theorem ix9 {s:ByteArray}{k:IntKind}{i:Nat}{H:Heap}(h:i < s.size):dIdx Tryd.prog 9 (.string s) (.int k (i:Int)) H=some (.val (.int .u8 (byteAt s i:Nat)) H):=z3b (by kernel_rfl) h
theorem iy9 {s:ByteArray}{k:IntKind}{i:Int}{H:Heap}(h0:0<=i) (h:i < s.size):dIdx Tryd.prog 9 (.string s) (.int k i) H=some (.val (.int .u8 (byteAt s i.toNat:Nat)) H):=ziv (by kernel_rfl) h0 h
theorem us9:Tryd.prog.underlying 9=some .string:=by kernel_rfl
theorem ld5 {ad:Addr}{H:Heap}:dLoad Tryd.prog 5 (.pointer (some ad)) H=dload1 (H.load ad 1) H:=z0a (by kernel_rfl)
theorem zl2 {k:IntKind}{n:Int}{H:Heap}:dCon Tryd.prog 5 3 (.int k n) H=some (.val (.int .i64 (IntKind.i64.wrap n)) H):=z52 (k:=.u8) (by kernel_rfl) (by kernel_rfl)
theorem cl92:ClF 92:=z09 (by kernel_rfl)
theorem cl93:ClF 93:=z09 (by kernel_rfl)
theorem cl94:ClF 94:=z09 (by kernel_rfl)
theorem zr53:zerosOf Tryd.prog 53=some [.int .i64 0,.int .i64 0,.string Zd,.string Zd,.int .u64 0,.int .i64 0,.slice none 0 0,.slice none 0 0]:=by kernel_rfl
theorem st53 {b o:Nat}{H:Heap}{cs:List Value}:dStore Tryd.prog 53 (.pointer (some ⟨b,o,none⟩)) (.agg ⟨cs⟩) H=dStoreIf (Zu cs.length 8) ⟨b,o,none⟩ cs H (H.get b):=z1a (by kernel_rfl) (by kernel_rfl)
theorem cl95:ClF 95:=z09 (by kernel_rfl)
theorem cl98:ClF 98:=z09 (by kernel_rfl)
theorem cl99:ClF 99:=z09 (by kernel_rfl)
theorem zdi:ClF 100:=z09 (by kernel_rfl)
theorem zo4:ClF 101:=z09 (by kernel_rfl)
theorem zo5:ClF 102:=z09 (by kernel_rfl)
theorem zl3 {b o:Nat}{H:Heap}:dFieldAddr Tryd.prog 187 (.pointer (some ⟨b,o,none⟩)) 0 H=some (.val (.pointer (some ⟨b,o+0,none⟩)) H):=z02 (u:=26) (by kernel_rfl) (by kernel_rfl)
theorem zro:ClF 103:=z09 (by kernel_rfl)
theorem zvi:ClF 104:=z09 (by kernel_rfl)
theorem cl81:ClF 81:=z09 (by kernel_rfl)
theorem zvj:zerosOf Tryd.prog 191=some [.map none]:=by kernel_rfl
theorem zvk {b o:Nat}{H:Heap}{a:Option Nat}:dStore Tryd.prog 191 (.pointer (some ⟨b,o,none⟩)) (.map a) H=dStoreB ⟨b,o,none⟩ [.map a] H (H.get b):=z8j (by kernel_rfl) (by kernel_rfl)
theorem ld83 {ad:Addr}{H:Heap}:dLoad Tryd.prog 83 (.pointer (some ad)) H=dloadA 7 (H.load ad 7) H:=z1q (by kernel_rfl) (by kernel_rfl)
theorem zr83:zerosOf Tryd.prog 83=some [.int .i64 0,.int .i64 0,.string Zd,.string Zd,.int .u64 0,.int .i64 0,.slice none 0 0]:=by kernel_rfl
theorem st83 {b o:Nat}{H:Heap}{cs:List Value}:dStore Tryd.prog 83 (.pointer (some ⟨b,o,none⟩)) (.agg ⟨cs⟩) H=dStoreIf (Zu cs.length 7) ⟨b,o,none⟩ cs H (H.get b):=z1a (by kernel_rfl) (by kernel_rfl)
theorem zff {ad:Addr}{H:Heap}:dLoad Tryd.prog 191 (.pointer (some ad)) H=dload1 (H.load ad 1) H:=z0a (by kernel_rfl)
theorem zo6:ClF 106:=z09 (by kernel_rfl)
theorem zl4 {v0:Value}{H:Heap}:dBuildS Tryd.prog 51 1 [(0,v0)] H=dBs 53 1 (([(0,v0)]:List (Nat × Value)).all fun p=>p.2.cells.toList.all one) (layC [(0,8)] [.int .i64 0,.int .i64 0,.string Zd,.string Zd,.int .u64 0,.int .i64 0,.slice none 0 0,.slice none 0 0] (([(0,v0)]:List (Nat × Value)).map fun p=>(p.1,p.2.cells.toList))) H:=z13 (size:=8) (by kernel_rfl) rfl
theorem ap51:apOk Tryd.prog 51 53 8:=z45 (by kernel_rfl)
theorem st51 {b o:Nat}{H:Heap}{a:Option Addr}{n c:Nat}:dStore Tryd.prog 51 (.pointer (some ⟨b,o,none⟩)) (.slice a n c) H=dStoreB ⟨b,o,none⟩ [.slice a n c] H (H.get b):=z2u (by kernel_rfl) (by kernel_rfl)
theorem zo7 {ad:Addr}{H:Heap}:dLoad Tryd.prog 163 (.pointer (some ad)) H=dload1 (H.load ad 1) H:=z0a (by kernel_rfl)
theorem zvl:zerosOf Tryd.prog 153=some [.nilIface]:=by kernel_rfl
theorem zrp {b o:Nat}{H:Heap}{u:TypeId}{v:Value}:dStore Tryd.prog 153 (.pointer (some ⟨b,o,none⟩)) (.iface u v) H=dStoreB ⟨b,o,none⟩ [.iface u v] H (H.get b):=zbi (by kernel_rfl) (by kernel_rfl)
theorem zts {b o:Nat}{H:Heap}  : dStore Tryd.prog 153 (.pointer (some ⟨b,o,none⟩)) (.nilIface) H=dStoreB ⟨b,o,none⟩ [.nilIface] H (H.get b):=z7q (by kernel_rfl) (by kernel_rfl)
theorem zo8:ClF 110:=z09 (by kernel_rfl)
theorem zo9 {ad:Addr}{H:Heap}:dLoad Tryd.prog 153 (.pointer (some ad)) H=dload1 (H.load ad 1) H:=z0a (by kernel_rfl)
theorem zvm {vs:List (Nat × Value)}{H:Heap}:dBuild Tryd.prog 187 vs H=dBd (vs.all fun p=>p.2.cells.toList.all one) (layC [(0,6)] [.int .i64 0,.string Zd,.string Zd,.int .u64 0,.int .i64 0,.slice none 0 0] (vs.map fun p=>(p.1,p.2.cells.toList))) H:=z1r (by kernel_rfl) (by kernel_rfl)
theorem mk22:mkOk Tryd.prog 22 26 [.int .i64 0,.string Zd,.string Zd,.int .u64 0,.int .i64 0,.slice none 0 0]:=zf8 (by kernel_rfl)
theorem zrq:ClF 113:=z09 (by kernel_rfl)
theorem ztt:zerosOf Tryd.prog 196=some []:=by kernel_rfl
theorem ztu {b o:Nat}{H:Heap}{cs:List Value}:dStore Tryd.prog 196 (.pointer (some ⟨b,o,none⟩)) (.agg ⟨cs⟩) H=dStoreIf (Zu cs.length 0) ⟨b,o,none⟩ cs H (H.get b):=z1a (by kernel_rfl) (by kernel_rfl)
theorem ztv {vs:List (Nat × Value)}{H:Heap}:dBuild Tryd.prog 196 vs H=dBd (vs.all fun p=>p.2.cells.toList.all one) (layC [] [] (vs.map fun p=>(p.1,p.2.cells.toList))) H:=z1r (by kernel_rfl) (by kernel_rfl)
theorem ztw:ClF 115:=z09 (by kernel_rfl)
theorem ztx:ClF 116:=z09 (by kernel_rfl)
theorem z9w:ClF 117:=z09 (by kernel_rfl)
theorem zqh {v0 v1 v2:Value}{H:Heap}:dBuildS Tryd.prog 22 3 [(0,v0),(1,v1),(2,v2)] H=dBs 26 3 (([(0,v0),(1,v1),(2,v2)]:List (Nat × Value)).all fun p=>p.2.cells.toList.all one) (layC [(0,6),(6,6),(12,6)] [.int .i64 0,.string Zd,.string Zd,.int .u64 0,.int .i64 0,.slice none 0 0,.int .i64 0,.string Zd,.string Zd,.int .u64 0,.int .i64 0,.slice none 0 0,.int .i64 0,.string Zd,.string Zd,.int .u64 0,.int .i64 0,.slice none 0 0] (([(0,v0),(1,v1),(2,v2)]:List (Nat × Value)).map fun p=>(p.1,p.2.cells.toList))) H:=z13 (size:=6) (by kernel_rfl) rfl
theorem zvn:ClF 123:=z09 (by kernel_rfl)
theorem zl5:zerosOf Tryd.prog 208=some [.bool false,.slice none 0 0]:=by kernel_rfl
theorem z9x {b o:Nat}{H:Heap}{cs:List Value}:dStore Tryd.prog 208 (.pointer (some ⟨b,o,none⟩)) (.agg ⟨cs⟩) H=dStoreIf (Zu cs.length 2) ⟨b,o,none⟩ cs H (H.get b):=z1a (by kernel_rfl) (by kernel_rfl)
theorem z9y {ad:Addr}{H:Heap}:dLoad Tryd.prog 208 (.pointer (some ad)) H=dloadA 2 (H.load ad 2) H:=z1q (by kernel_rfl) (by kernel_rfl)
theorem zvo:ClF 124:=z09 (by kernel_rfl)
theorem ziy {vs:List (Nat × Value)}{H:Heap}:dBuild Tryd.prog 208 vs H=dBd (vs.all fun p=>p.2.cells.toList.all one) (layC [(0,1),(1,1)] [.bool false,.slice none 0 0] (vs.map fun p=>(p.1,p.2.cells.toList))) H:=z1r (by kernel_rfl) (by kernel_rfl)
theorem zty:ClF 126:=z09 (by kernel_rfl)
theorem zqi {k:IntKind}{n:Int}{H:Heap}:dCon Tryd.prog 3 24 (.int k n) H=some (.val (.int .u64 (IntKind.u64.wrap n)) H):=z52 (k:=.i64) (by kernel_rfl) (by kernel_rfl)
theorem z68 {ty:TypeId}{a:Option Addr}{n c:Nat}{H:Heap}:dLn Tryd.prog 206 ty (.slice a n c) H=some (.val (.int .i64 n) H):=z15 (e:=214) (by kernel_rfl)
theorem ziz {b o n c i:Nat}{k:IntKind}{H:Heap}(h:i < n):dIndexAddr Tryd.prog 206 (.slice (some ⟨b,o,none⟩) n c) (.int k (i:Int)) H=some (.val (.pointer (some ⟨b,o+i*1,none⟩)) H):=z0w (e:=214) (by kernel_rfl) (by kernel_rfl) (by kernel_rfl) h
theorem zl6 {ad:Addr}{H:Heap}:dLoad Tryd.prog 214 (.pointer (some ad)) H=dload1 (H.load ad 1) H:=z0a (by kernel_rfl)
theorem zbo {k:IntKind}{n:Int}{H:Heap}:dCon Tryd.prog 214 24 (.int k n) H=some (.val (.int .u64 (IntKind.u64.wrap n)) H):=z52 (k:=.u32) (by kernel_rfl) (by kernel_rfl)
theorem zbp {k:IntKind}{n:Int}{H:Heap}:dCon Tryd.prog 24 214 (.int k n) H=some (.val (.int .u32 (IntKind.u32.wrap n)) H):=z52 (k:=.u64) (by kernel_rfl) (by kernel_rfl)
theorem ztz {b o:Nat}{H:Heap}{k:IntKind}{n:Int}:dStore Tryd.prog 214 (.pointer (some ⟨b,o,none⟩)) (.int k n) H=dStoreB ⟨b,o,none⟩ [.int k n] H (H.get b):=z3t (by kernel_rfl) (by kernel_rfl)
theorem zrr {v0:Value}{H:Heap}:dBuildS Tryd.prog 206 1 [(0,v0)] H=dBs 214 1 (([(0,v0)]:List (Nat × Value)).all fun p=>p.2.cells.toList.all one) (layC [(0,1)] [.int .u32 0] (([(0,v0)]:List (Nat × Value)).map fun p=>(p.1,p.2.cells.toList))) H:=z13 (size:=1) (by kernel_rfl) rfl
theorem zvp:apOk Tryd.prog 206 214 1:=z45 (by kernel_rfl)
theorem zu0:ClF 127:=z09 (by kernel_rfl)
theorem zvq:ClF 128:=z09 (by kernel_rfl)
theorem zrs {v0:Value}{H:Heap}:dBuildS Tryd.prog 224 1 [(0,v0)] H=dBs 208 1 (([(0,v0)]:List (Nat × Value)).all fun p=>p.2.cells.toList.all one) (layC [(0,2)] [.bool false,.slice none 0 0] (([(0,v0)]:List (Nat × Value)).map fun p=>(p.1,p.2.cells.toList))) H:=z13 (size:=2) (by kernel_rfl) rfl
theorem zvr:ClF 129:=z09 (by kernel_rfl)
theorem zl7 {b o:Nat}{H:Heap}:dFieldAddr Tryd.prog 208 (.pointer (some ⟨b,o,none⟩)) 1 H=some (.val (.pointer (some ⟨b,o+1,none⟩)) H):=z02 (u:=206) (by kernel_rfl) (by kernel_rfl)
theorem zu1 {ad:Addr}{H:Heap}:dLoad Tryd.prog 206 (.pointer (some ad)) H=dload1 (H.load ad 1) H:=z0a (by kernel_rfl)
theorem zoa:ClF 131:=z09 (by kernel_rfl)
theorem zvs:ClF 130:=z09 (by kernel_rfl)
theorem zrt {k:IntKind}{n:Int}{H:Heap}:dCon Tryd.prog 3 214 (.int k n) H=some (.val (.int .u32 (IntKind.u32.wrap n)) H):=z52 (k:=.i64) (by kernel_rfl) (by kernel_rfl)
theorem zvt:ClF 132:=z09 (by kernel_rfl)
theorem zl8 {v0:Value}{H:Heap}:dBuildS Tryd.prog 219 1 [(0,v0)] H=dBs 5 1 (([(0,v0)]:List (Nat × Value)).all fun p=>p.2.cells.toList.all one) (layC [(0,1)] [.int .u8 0] (([(0,v0)]:List (Nat × Value)).map fun p=>(p.1,p.2.cells.toList))) H:=z13 (size:=1) (by kernel_rfl) rfl
theorem zu2:apOk Tryd.prog 219 5 1:=z45 (by kernel_rfl)
theorem zru {b o:Nat}{H:Heap}:dFieldAddr Tryd.prog 208 (.pointer (some ⟨b,o,none⟩)) 0 H=some (.val (.pointer (some ⟨b,o+0,none⟩)) H):=z02 (u:=4) (by kernel_rfl) (by kernel_rfl)
theorem zvu {ty:TypeId}{a:Option Addr}{n c:Nat}{H:Heap}:dLn Tryd.prog 219 ty (.slice a n c) H=some (.val (.int .i64 n) H):=z15 (e:=5) (by kernel_rfl)
theorem zvv {b o n c i:Nat}{k:IntKind}{H:Heap}(h:i < n):dIndexAddr Tryd.prog 219 (.slice (some ⟨b,o,none⟩) n c) (.int k (i:Int)) H=some (.val (.pointer (some ⟨b,o+i*1,none⟩)) H):=z0w (e:=5) (by kernel_rfl) (by kernel_rfl) (by kernel_rfl) h
theorem st5 {b o:Nat}{H:Heap}{k:IntKind}{n:Int}:dStore Tryd.prog 5 (.pointer (some ⟨b,o,none⟩)) (.int k n) H=dStoreB ⟨b,o,none⟩ [.int k n] H (H.get b):=z3t (by kernel_rfl) (by kernel_rfl)
theorem zvw:ClF 134:=z09 (by kernel_rfl)
theorem zvx {ty:TypeId}{a:Option Addr}{n c:Nat}{H:Heap}:dLn Tryd.prog 224 ty (.slice a n c) H=some (.val (.int .i64 n) H):=z15 (e:=208) (by kernel_rfl)
theorem zvy {b o n c:Nat}{k:IntKind}{i:Int}{H:Heap}(h0:0<=i) (h:i < n):dIndexAddr Tryd.prog 224 (.slice (some ⟨b,o,none⟩) n c) (.int k i) H=some (.val (.pointer (some ⟨b,o+i.toNat*2,none⟩)) H):=z3k (e:=208) (by kernel_rfl) (by kernel_rfl) (by kernel_rfl) h0 h
theorem zu3:mkOk Tryd.prog 206 214 [.int .u32 0]:=zf8 (by kernel_rfl)
theorem zrv:slcOk Tryd.prog 206 214 1:=⟨by kernel_rfl,by kernel_rfl,by kernel_rfl⟩
theorem zbq {k:IntKind}{n:Int}{H:Heap}:dCon Tryd.prog 214 5 (.int k n) H=some (.val (.int .u8 (IntKind.u8.wrap n)) H):=z52 (k:=.u32) (by kernel_rfl) (by kernel_rfl)
end Go.Proofs.hq
end

section
namespace Go.Hb
def valB (B:Nat):List Nat->Nat
 |[]=>0
 |x :: l=>x+B*valB B l
theorem z25 (B:Nat):∀a b:List Nat,valB B (a++b)=valB B a+B ^ a.length*valB B b
 |[],b=>by simp [valB]
 |x :: a,b=>by
  rw[List.cons_append,valB,z25 B a b,valB,ZJ,Nat.pow_succ,Nat.mul_add];rw[show B ^ a.length*B*valB B b=B*(B ^ a.length*valB B b) by rw[Nat.mul_comm (B ^ a.length) B,Nat.mul_assoc]];omega
theorem z69 (B x:Nat):valB B [x]=x:=by simp [valB]
theorem zl9 (B:Nat):∀l:List Nat,(∀x∈l,x < B)->valB B l < B ^ l.length
 |[],_=>by simp [valB]
 |x :: l,h=>by
  have ih:=zl9 B l fun y hy=>h y (Zm _ hy)
  have hx:=h x (by simp);rw[valB,ZJ,Nat.pow_succ];have h1:B*(valB B l+1)<=B*B ^ l.length:=Nat.mul_le_mul_left _ ih;rw[Nat.mul_comm (B ^ l.length) B];rw[Nat.mul_add] at h1;omega
theorem z71 (B:Nat):∀l:List Nat,(∀x∈l,x=0)->valB B l=0
 |[],_=>rfl
 |x :: l,h=>by rw[valB,h x (by simp),z71 B l fun y hy=>h y (Zm _ hy)];simp
theorem zla {B:Nat}{l:List Nat}{n:Nat}(h:∀x∈l.drop n,x=0):valB B (l.take n)=valB B l:=by
 conv=>rhs;rw[<-List.take_append_drop n l]
 rw[z25,z71 B _ h];simp
theorem zrw {B c x:Nat}{d rest:List Nat}:valB B (d++[(x*10+c) % B])+B ^ (d.length+1)*(10*valB B rest+(x*10+c) / B)=valB B d+B ^ d.length*(10*valB B (x :: rest)+c):=by
 rw[z25,z69,valB,Nat.pow_succ];have h:=Nat.mod_add_div (x*10+c) B;generalize (x*10+c) % B=m at h ⊢;generalize (x*10+c) / B=q at h ⊢;generalize B ^ d.length=p;generalize valB B rest=v;have e1:p*B*(10*v+q)=p*(B*(10*v+q)):=Nat.mul_assoc ..;have e2:p*(10*(x+B*v)+c)=p*m+p*(B*(10*v+q)):=by
  rw[<-Nat.mul_add];congr 1;have e3:B*(10*v+q)=10*(B*v)+B*q:=by rw[Nat.mul_add,Nat.mul_left_comm]
  omega
 omega
theorem zlb {B c x:Nat}(hB:0 < B) (hx:x < B) (hc:c < 10):(x*10+c) / B < 10:=by
 rw[Nat.div_lt_iff_lt_mul hB];omega
theorem zrx {B x r:Nat}{low q:List Nat}:valB B (low++[x])+B ^ (low.length+1)*(10*valB B q+r)=valB B low+B ^ low.length*(10*valB B ((r*B+x) / 10 :: q)+(r*B+x) % 10):=by
 rw[z25,z69,valB,Nat.pow_succ];have h:=Nat.mod_add_div (r*B+x) 10;generalize (r*B+x) % 10=m at h ⊢;generalize (r*B+x) / 10=z at h ⊢;generalize B ^ low.length=p;generalize valB B q=v;have e1:p*B*(10*v+r)=p*(B*(10*v+r)):=Nat.mul_assoc ..;have e2:p*(10*(z+B*v)+m)=p*x+p*(B*(10*v+r)):=by
  rw[<-Nat.mul_add];congr 1;have e3:B*(10*v+r)=10*(B*v)+r*B:=by rw[Nat.mul_add,Nat.mul_left_comm,Nat.mul_comm B r]
  omega
 omega
theorem zob {B x r:Nat}(hx:x < B) (hr:r < 10):(r*B+x) / 10 < B:=by
 rw[Nat.div_lt_iff_lt_mul (by omega)];have:r*B<=9*B:=Nat.mul_le_mul_right _ (by omega);omega
def decR (n:Nat):List Nat:=if h:n=0 then [] else n % 10 :: decR (n / 10)
termination_by n
decreasing_by omega
theorem zlc:decR 0=[]:=by rw[decR];simp
theorem zh7 {n:Nat}(h:n≠0):decR n=n % 10 :: decR (n / 10):=by rw[decR,dif_neg h]
def digV (b:Nat):Nat:=if 48<=b/\b<=57 then b - 48 else if 97<=b/\b<=122 then b - 97+10 else if 65<=b/\b<=90 then b - 65+10 else 99
def mostBits:Nat:=4096
@[irreducible] def big:Nat:=2 ^ mostBits
theorem zdj:big=2 ^ mostBits:=by unfold big;rfl
def numD:List Nat->Nat->Option Nat
 |[],n=>some n
 |d :: l,n=>if big<=n*10+d then none else numD l (n*10+d)
def textD (neg:Bool) (n:Nat):List Nat:=if n=0 then [48] else ((decR n).map (48+·)++if neg then [45] else []).reverse
def canonD (s:List Nat):Bool :=
 let neg:=s.head? == some 45;let b:=if neg then s.tail else s
 if b=[] then false else if b.any (fun x=>10<=digV x) then false else match numD (b.map digV) 0 with
  |none=>false
  |some n=>textD neg n == s
theorem zld:∀(l:List Nat) (n m:Nat),n < big->numD l n=some m->m < big
 |[],n,m,h,e=>by cases e;exact h
 |d :: l,n,m,h,e=>by
  rw[numD] at e;split at e
  ·cases e
  ·rename_i hb;exact zld l _ m (Nat.lt_of_not_le hb) e
def nbits (n:Nat):Nat:=if n=0 then 0 else n.log2+1
theorem zaf {n s:Nat}(h:n≠0) (h1:2 ^ s<=n) (h2:n < 2 ^ (s+1)):nbits n=s+1:=by
 rw[nbits,if_neg h];have:=(Nat.log2_lt h).2 h2;have:=(Nat.le_log2 h).2 h1;omega
theorem zoc {n:Nat}(e:Nat):e < nbits n↔2 ^ e<=n:=by
 unfold nbits;by_cases h:n=0
 ·subst h;simp
 ·rw[if_neg h];constructor
  ·intro hh;exact(Nat.le_log2 h).1 (by omega)
  ·intro hh;have:=(Nat.le_log2 h).2 hh;omega
theorem z4o {n:Nat}:4096 < nbits n↔big<=n:=by rw[zdj];exact zoc mostBits
theorem zbr {n e:Nat}(h:2 ^ e<=n):nbits n=nbits (n / 2 ^ e)+e:=by
 have hp:0 < 2 ^ e:=Nat.two_pow_pos e;have h0:n / 2 ^ e≠0:=by
  have:=(Nat.le_div_iff_mul_le hp).2 (show 1*2 ^ e<=n by omega);omega
 have hb:nbits (n / 2 ^ e)=(n / 2 ^ e).log2+1:=by rw[nbits,if_neg h0]
 have h1:2 ^ (n / 2 ^ e).log2<=n / 2 ^ e:=Nat.log2_self_le h0;have h2:n / 2 ^ e < 2 ^ ((n / 2 ^ e).log2+1):=Nat.lt_log2_self;rw[hb,show (n / 2 ^ e).log2+1+e=((n / 2 ^ e).log2+e)+1 by omega];refine zaf (by omega) ?_ ?_
 ·rw[Nat.pow_add];exact(Nat.le_div_iff_mul_le hp).1 h1
 ·rw[show (n / 2 ^ e).log2+e+1=((n / 2 ^ e).log2+1)+e by omega,Nat.pow_add];exact(Nat.div_lt_iff_lt_mul hp).1 h2
theorem z6a {n:Nat}(h:n < 4294967296):nbits n<=32:=by
 unfold nbits;split
 ·omega
 ·rename_i h0;have:=(Nat.log2_lt (k:=32) h0).2 h;omega
theorem zdk {l:List Nat}{x e:Nat}(hl:∀y∈l,y < 2 ^ e) (hx:x≠0):nbits (valB (2 ^ e) (l++[x]))=e*l.length+nbits x:=by
 have hv:=zl9 (2 ^ e) l hl;rw[z25,z69,<-Nat.pow_mul] at *;have hb:nbits x=x.log2+1:=by rw[nbits,if_neg hx]
 rw[hb,<-Nat.add_assoc];have h1:2 ^ x.log2<=x:=Nat.log2_self_le hx;have h2:x < 2 ^ (x.log2+1):=Nat.lt_log2_self;refine zaf ?_ ?_ ?_
 ·have:0 < 2 ^ (e*l.length)*x:=Nat.mul_pos (Nat.two_pow_pos _) (by omega);omega
 ·rw[Nat.pow_add];have:=Nat.mul_le_mul_left (2 ^ (e*l.length)) h1;omega
 ·rw[Nat.add_assoc,Nat.pow_add];have:=Nat.mul_le_mul_left (2 ^ (e*l.length)) h2;rw[Nat.mul_succ] at this;omega
theorem zag {e k m n:Nat}(hm:m≠0) (h:m*10 ^ k<=n) (hn:n < 2 ^ e):k < e:=by
 have h1:2 ^ k<=10 ^ k:=Nat.pow_le_pow_left (by omega) k;have h2:1*10 ^ k<=m*10 ^ k:=Nat.mul_le_mul_right _ (by omega);have h3:2 ^ k < 2 ^ e:=by omega
 exact(Nat.pow_lt_pow_iff_right (by omega)).1 h3
end Go.Hb
end

section
namespace Go.Proofs.hq
open Go Go.RowKit Go.Hb
variable {ok:Ok}
set_option maxRecDepth 10000
attribute [local irreducible] LX LG EL STG SOP SGO SGD SAL SRD SEF SEG SLK SCK ES
theorem zj0 (b:Nat):(b < 48/\digV b=99)\/(48<=b/\b<=57/\digV b=b - 48)\/(58<=b/\b < 65/\digV b=99)\/(65<=b/\b<=90/\digV b=b - 55)\/(91<=b/\b < 97/\digV b=99)\/(97<=b/\b<=122/\digV b=b - 87)\/(123<=b/\digV b=99):=by
 unfold digV;by_cases h1:48<=b/\b<=57
 ·simp [h1]
 ·by_cases h2:97<=b/\b<=122
  ·rw[if_neg h1,if_pos h2];omega
  ·by_cases h3:65<=b/\b<=90
   ·rw[if_neg h1,if_neg h2,if_pos h3];omega
   ·rw[if_neg h1,if_neg h2,if_neg h3];omega
theorem zh8 (hk:∀args H,ok.K 126 args H=none) (hm:ok.testBit 126=true) (b:Nat) (hb:b < 256) (H:Heap) :
  EvF Tryd.prog ok 126 [.int .u8 (b:Int)] H fun v H'=>v=.int .i64 (digV b:Int)/\H'=H:=by
 refine EvF.enter (hk _ _) Tryd.func126 hm rfl ?_;rcases zj0 b with ⟨h1,h⟩|⟨h1,h2,h⟩|⟨h1,h2,h⟩|⟨h1,h2,h⟩|⟨h1,h2,h⟩|⟨h1,h2,h⟩|⟨h1,h⟩
 all_goals
  repeat' (first|refine qZa ?_|refine qZg ?_|(refine qZe ?_;try simp only[sA])|(refine qZf ?_;try simp only[z06,z01])|(refine qZb ?_;simp (config:=qZc) (disch:=first|omega|rfl) only[sB,initTm,Za,reduceCtorEq,zl2,decide_eq_true,decide_eq_false,z8o,z0d,Ze])|(refine qZd ?_ ?_;simp (config:=qZc) (disch:=first|omega|rfl) only[sB,Za,reduceCtorEq];refine z05 ?_)|(refine qZm ?_ ?_;simp (config:=qZc) (disch:=first|omega|rfl) only[sB,Za,reduceCtorEq];refine z05 ?_))
  exact z04 rfl (by simp only[sB,Za,reduceCtorEq];rfl) ⟨by simp only[Value.int.injEq,true_and];omega,rfl⟩
def u32V (n:Nat):Value:=.int .u32 (n:Int)
def i64V (n:Nat):Value:=.int .i64 (n:Int)
theorem zbs (hk:∀args H,ok.K 131 args H=none) (hm:ok.testBit 131=true) {L:List Nat}{a:Option Addr}{c:Nat}{H:Heap}(r:RdS H (L.map u32V) a c) :
  EvF Tryd.prog ok 131 [.slice a L.length c] H fun v H'=>∃m,v=.slice a m c/\m<=L.length/\(∀x∈L.drop m,x=0)/\(m≠0->L[m - 1]?≠some 0)/\H'=H:=by
 have hL:L.length<=c:=by simpa using r.len
 have hc:c<=9223372036854775807:=r.cap;refine EvF.enter (hk _ _) Tryd.func131 hm rfl ?_
 repeat' (first|refine qZa ?_|refine qZg ?_|(refine qZb ?_;simp (config:=qZc) (disch:=first|omega|rfl) only[sA,initTm]))
 refine qZk (fun k st=>∃tm n,st=⟨tm,[],H⟩/\k=n/\n<=L.length/\(∀x∈L.drop n,x=0)/\tm.get 0=some (.slice a n c)) ?_ L.length _ ?_
 ·rintro k st ⟨tm,n,rfl,rfl,hn,hz,g0⟩;by_cases h0:k=0
  ·subst h0
   repeat' (first|refine qZa ?_|(refine qZi ?_;try simp only[sB])|(refine qZf ?_)|(refine qZb ?_;simp (config:=qZc) (disch:=first|omega|rfl) only[sB,Za,reduceCtorEq,z68,g0,decide_eq_false,Ze])|(refine qZm ?_ ?_;simp (config:=qZc) (disch:=first|omega|rfl) only[sB,Za];refine z05 ?_))
   exact z04 rfl (by simp only[sG,Za]) ⟨0,rfl,by omega,hz,by simp,rfl⟩
  ·have hx:L[k - 1]?=some L[k - 1]:=Zc (by omega);generalize L[k - 1]=x at hx;obtain⟨b,o,rfl,hl⟩:=r.get (k - 1) (u32V x) (by simp [hx]);have e1:((k:Int) - 1)=((k - 1:Nat):Int):=by omega
   unfold u32V at hl;by_cases hx0:x=0
   ·repeat' (first|refine qZa ?_|refine qZg ?_|(refine qZe ?_;try simp only[z00])|(refine qZb ?_;simp (config:=qZc) (disch:=first|omega|rfl) only[sB,Za,reduceCtorEq,z68,ziz,zl6,g0,e1,hl,decide_eq_true,z0d,z0y,zkm zrv])|(refine qZd ?_ ?_;simp (config:=qZc) (disch:=first|omega|rfl) only[sB,Za];refine z05 ?_))
    refine⟨k - 1,by omega,_,k - 1,rfl,rfl,by omega,fun y hy=>?_,(by simp only[sG,reduceCtorEq])⟩;rw[ZI (by omega)] at hy;rcases List.mem_cons.1 hy with h|h
    ·rw[h,<-Option.some.inj ((Zc (by omega)).symm.trans hx)] at *;omega
    ·exact hz y (by rwa [show k - 1+1=k by omega] at h)
   ·repeat' (first|refine qZa ?_|(refine qZi ?_;try simp only[sB])|(refine qZf ?_)|(refine qZb ?_;simp (config:=qZc) (disch:=first|omega|rfl) only[sB,Za,reduceCtorEq,z68,ziz,zl6,g0,e1,hl,decide_eq_true,z0d,z0t])|(refine qZm ?_ ?_;simp (config:=qZc) (disch:=first|omega|rfl) only[sB,Za];refine z05 ?_))
    exact z04 rfl (by simp only[sG,Za]) ⟨k,rfl,hn,hz,fun _=>by rw[hx];simpa using hx0,rfl⟩
 ·exact⟨_,L.length,rfl,rfl,Zf _,by simp,(by simp only[sG,reduceCtorEq])⟩
theorem zh9 {s:ByteArray}(h:∀i:Fin 256,byteAt s i=nbits i) {y:Nat}(hy:y < 256):byteAt s y=nbits y:=h ⟨y,hy⟩
theorem zod (hk:∀args H,ok.K 134 args H=none) (hm:ok.testBit 134=true) {x:Nat}(hx:x < 4294967296) {H:Heap} :
  EvF Tryd.prog ok 134 [.int .u32 (x:Int)] H fun v H'=>v=.int .i64 (nbits x:Int)/\H'=H:=by
 refine EvF.enter (hk _ _) Tryd.func134 hm rfl ?_;by_cases h1:65536<=x
 ·have e1:nbits x=nbits (x / 65536)+16:=zbr (e:=16) h1;by_cases h2:16777216<=x
  ·have e2:nbits (x / 65536)=nbits (x / 65536 / 256)+8:=zbr (e:=8) (by omega)
   repeat' (first|refine qZa ?_|(refine qZb ?_;simp (config:=qZc) (disch:=first|omega|rfl) only[sB,initTm,Za,reduceCtorEq,zbq,decide_eq_true,z8n,zac,z0d,z8o])|(refine qZd ?_ ?_;simp (config:=qZc) (disch:=first|omega|rfl) only[sB,Za,reduceCtorEq];refine z05 ?_))
   rw[z3b Tryd.underlying9 (show x / 65536 / 256 < _ from by show _ < 256;omega)];generalize hB:byteAt _ (x / 65536 / 256)=B;have hB':B=nbits (x / 65536 / 256):=by rw[<-hB];exact zh9 (by decide +kernel) (by omega)
   have hl:=z6a (n:=x / 65536 / 256) (by omega)
   repeat' (first|(refine qZf ?_)|(refine z0n ?_;simp (config:=qZc) (disch:=first|omega|rfl) only[sB,Za,reduceCtorEq,zl2,z0d]))
   exact z04 rfl (by simp only[sB,Za,reduceCtorEq];rfl) ⟨by simp only[Value.int.injEq,true_and];omega,rfl⟩
  ·repeat' (first|refine qZa ?_|(refine qZe ?_;try simp only[z00])|(refine qZb ?_;simp (config:=qZc) (disch:=first|omega|rfl) only[sB,initTm,Za,reduceCtorEq,zbq,decide_eq_true,decide_eq_false,z8n,z8o])|(refine qZd ?_ ?_;simp (config:=qZc) (disch:=first|omega|rfl) only[sB,Za,reduceCtorEq];refine z05 ?_)|(refine qZm ?_ ?_;simp (config:=qZc) (disch:=first|omega|rfl) only[sB,Za,reduceCtorEq];refine z05 ?_))
   rw[z3b Tryd.underlying9 (show x / 65536 < _ from by show _ < 256;omega)];generalize hB:byteAt _ (x / 65536)=B;have hB':B=nbits (x / 65536):=by rw[<-hB];exact zh9 (by decide +kernel) (by omega)
   have hl:=z6a (n:=x / 65536) (by omega)
   repeat' (first|(refine qZf ?_)|(refine z0n ?_;simp (config:=qZc) (disch:=first|omega|rfl) only[sB,Za,reduceCtorEq,zl2,z0d]))
   exact z04 rfl (by simp only[sB,Za,reduceCtorEq];rfl) ⟨by simp only[Value.int.injEq,true_and];omega,rfl⟩
 ·by_cases h2:256<=x
  ·have e2:nbits x=nbits (x / 256)+8:=zbr (e:=8) h2
   repeat' (first|refine qZa ?_|(refine qZe ?_;try simp only[z00])|(refine qZb ?_;simp (config:=qZc) (disch:=first|omega|rfl) only[sB,initTm,Za,reduceCtorEq,zbq,decide_eq_true,decide_eq_false,zac,z0d,z8o])|(refine qZd ?_ ?_;simp (config:=qZc) (disch:=first|omega|rfl) only[sB,Za,reduceCtorEq];refine z05 ?_)|(refine qZm ?_ ?_;simp (config:=qZc) (disch:=first|omega|rfl) only[sB,Za,reduceCtorEq];refine z05 ?_))
   rw[z3b Tryd.underlying9 (show x / 256 < _ from by show _ < 256;omega)];generalize hB:byteAt _ (x / 256)=B;have hB':B=nbits (x / 256):=by rw[<-hB];exact zh9 (by decide +kernel) (by omega)
   have hl:=z6a (n:=x / 256) (by omega)
   repeat' (first|(refine qZf ?_)|(refine z0n ?_;simp (config:=qZc) (disch:=first|omega|rfl) only[sB,Za,reduceCtorEq,zl2,z0d]))
   exact z04 rfl (by simp only[sB,Za,reduceCtorEq];rfl) ⟨by simp only[Value.int.injEq,true_and];omega,rfl⟩
  ·repeat' (first|refine qZa ?_|(refine qZe ?_;try simp only[z00])|(refine qZb ?_;simp (config:=qZc) (disch:=first|omega|rfl) only[sB,initTm,Za,reduceCtorEq,zbq,decide_eq_false,z8o])|(refine qZm ?_ ?_;simp (config:=qZc) (disch:=first|omega|rfl) only[sB,Za,reduceCtorEq];refine z05 ?_))
   rw[z3b Tryd.underlying9 (show x < _ from by show _ < 256;omega)];generalize hB:byteAt _ (x)=B;have hB':B=nbits (x):=by rw[<-hB];exact zh9 (by decide +kernel) (by omega)
   have hl:=z6a (n:=x) (by omega)
   repeat' (first|(refine qZf ?_)|(refine z0n ?_;simp (config:=qZc) (disch:=first|omega|rfl) only[sB,Za,reduceCtorEq,zl2,z0d]))
   exact z04 rfl (by simp only[sB,Za,reduceCtorEq];rfl) ⟨by simp only[Value.int.injEq,true_and];omega,rfl⟩
theorem zu4 (a:Nat):(a:Int).tdiv 10=((a / 10:Nat):Int):=rfl
theorem zu5 (a:Nat):(a:Int).tmod 10=((a % 10:Nat):Int):=rfl
theorem zu6 {r x:Nat}(hr:r < 10) (hx:x < 4294967296):kOr .u64 (IntKind.u64.wrap ((r:Int)*2 ^ (min 32 IntKind.u64.bits))) (x:Int)=((r*4294967296+x:Nat):Int):=by
 have e1:((r:Int)*2 ^ (min 32 IntKind.u64.bits))=((r*4294967296:Nat):Int):=by
  show (r:Int)*2 ^ 32=_;omega
 rw[e1,z54 (by omega) (by omega)];unfold kOr;show IntKind.u64.wrap ((BitVec.ofInt 64 ((r*4294967296:Nat):Int) ||| BitVec.ofInt 64 (x:Int)).toNat:Int)=_;rw[BitVec.ofInt_natCast,BitVec.ofInt_natCast,BitVec.toNat_or,BitVec.toNat_ofNat,BitVec.toNat_ofNat,Nat.mod_eq_of_lt (by omega),Nat.mod_eq_of_lt (by omega)];have e2:r*4294967296 ||| x=r*4294967296+x:=by
  have:=Nat.two_pow_add_eq_or_of_lt (i:=32) (b:=x) hx r;rw[Nat.mul_comm] at this;exact this.symm
 rw[e2,z54 (by omega) (by omega)]
theorem zoe (hk:∀args H,ok.K 132 args H=none) (hm:ok.testBit 132=true) {r x:Nat}(hr:r < 10) (hx:x < 4294967296) {H:Heap}(hw:H.wf) :
  EvF Tryd.prog ok 132 [.int .u32 (r:Int),.int .u32 (x:Int),.int .u32 10] H fun v H'=>v=.tuple ⟨[.int .u32 ((r*4294967296+x) / 10:Nat),.int .u32 ((r*4294967296+x) % 10:Nat)]⟩/\HX H H':=by
 refine EvF.enter (hk _ _) Tryd.func132 hm rfl ?_
 repeat' (first|refine qZa ?_|(refine qZe ?_;try simp only[z00])|(refine qZf ?_)|(refine qZb ?_;simp (config:=qZc) (disch:=first|omega|rfl) only[sB,initTm,Za,Zb,reduceCtorEq,ZO,zbo,decide_eq_false,z1y,bShl,bOr,z54,zu6 hr hx])|(refine qZj [([(0,0),(1,0),(2,0),(3,0),(4,0),(5,0),(6,0),(7,0),(8,0),(9,0),(10,0),(11,0)],none)] ?_ ?_;kernel_rfl;simp (config:=qZc) (disch:=first|omega|rfl) only[sD,sB,Za,Zb,reduceCtorEq,zbo,zbp,z54,bQuo,bRem,wrap_u32,zu4,zu5,isAlloc,isRead])|(refine qZm ?_ ?_;simp (config:=qZc) (disch:=first|omega|rfl) only[sB,Za,reduceCtorEq];refine z05 ?_))
 exact z1c rfl (by simp only[sG,Za,reduceCtorEq]) (by simp only[sG,Za,reduceCtorEq]) ⟨rfl,(HX.refl hw).bump _⟩
end Go.Proofs.hq
end

section
namespace Go.Hb
open Go Go.RowKit
def kIns (fI e:Nat) (f:FuncId) (args:List Value) (H:Heap):Option (En × Heap) :=
 if f=fI then match args with
  |[.slice (some ⟨b,0,none⟩) n _,.int .i64 0,.slice (some ⟨vb,0,none⟩) 1 _]=>match H.get b,H.get vb with
   |some (.row cs e1),some (.row vs e2) =>
    if b≠vb/\0 < n/\n+1<=most/\e1=e/\e2=e/\n<=cs.length/\1<=vs.length/\(cs.take n).all one=true/\(vs.take 1).all one=true then
     some (.ret (.slice (some ⟨H.next,0,none⟩) (n+1) (n+1)),(H.put b none).new (some (.row (vs.take 1++cs.take n) e)))
    else none
   |_,_=>none
  |_=>none
 else none
def okIns (mask fI e:Nat):Ok:=⟨mask,kIns fI e⟩
end Go.Hb
end

section
namespace Go.Proofs.hq
open Go Go.RowKit Go.Hb
def okT:Ok:=⟨2 ^ 168 - 1,fun f args H=>if f=47 then kIns 47 3 f args H else kLaw 17 72 f args H⟩
theorem zu7 {H:Heap}(hw:H.wf):EvF Tryd.prog okT 17 [] H fun v H'=>v=.bool true/\HX H H' :=
 EvF.know (v:=.bool true) (H':=H) rfl ⟨rfl,HX.refl hw⟩
theorem zu8 {H:Heap}(hw:H.wf) {s:ByteArray}(hs:s.size<=9223372036854775807):EvF Tryd.prog okT 72 [.string s] H fun v H'=>v=.bool (Lib.validD s.data.toList)/\HX H H' :=
 EvF.know (v:=.bool (Lib.validD s.data.toList)) (H':=H) (by simp [okT,kLaw,hs]) ⟨rfl,HX.refl hw⟩
end Go.Proofs.hq
end

section
namespace Go.Proofs.hq
open Go Go.RowKit Go.Hb
variable {ok:Ok}
set_option maxRecDepth 10000
attribute [local irreducible] LX LG EL STG SOP SGO SGD SAL SRD SEF SEG SLK SCK ES
theorem z8v {B m:Nat}{L:List Nat}(hz:∀x∈L.drop m,x=0):valB B (L.take m)=valB B L:=zla hz
theorem zfg {L:List Nat}{m x:Nat}(hL:∀y∈L,y < 4294967296) (hm:m<=L.length) (hz:∀y∈L.drop m,y=0) (h0:m≠0) (hx:L[m - 1]?=some x) (hx0:x≠0) :
  nbits (valB 4294967296 L)=32*(m - 1)+nbits x:=by
 rw[<-z8v hz];have e:L.take m=L.take (m - 1)++[x]:=by
  have h1:m=(m - 1)+1:=by omega
  rw[h1,List.take_add_one];simp only[Nat.add_sub_cancel,hx,Option.toList_some]
 rw[e];have:=zdk (l:=L.take (m - 1)) (x:=x) (e:=32) (fun y hy=>hL y (List.mem_of_mem_take hy)) hx0;rw[Zp,Nat.min_eq_left (by omega)] at this;exact this
theorem zle {L:List Nat}{a:Option Addr}{c:Nat}{H:Heap}(r:RdS H (L.map u32V) a c) (hL:∀y∈L,y < 4294967296) (hlen:L.length<=1048576) :
  EvF Tryd.prog okT 127 [.slice a L.length c] H fun v H'=>v=.int .i64 (nbits (valB 4294967296 L):Nat)/\H'=H:=by
 have hLc:L.length<=c:=by simpa using r.len
 have hc:c<=9223372036854775807:=r.cap;refine EvF.enter rfl Tryd.func127 (by decide) rfl ?_
 repeat' (first|refine qZa ?_|(refine qZb ?_;simp (config:=qZc) (disch:=first|omega|rfl) only[sB,initTm,Za,reduceCtorEq,zoa]))
 refine(zbs (fun _ _=>rfl) (by decide) r).mono ?_;rintro v H' ⟨m,rfl,hm,hz,hn0,rfl⟩;by_cases h0:m=0
 ·subst h0
  repeat' (first|refine qZa ?_|(refine qZf ?_;try simp only[z06,z01])|(refine qZb ?_;simp (config:=qZc) (disch:=first|omega|rfl) only[sB,Za,reduceCtorEq,z68,z0y])|(refine qZd ?_ ?_;simp (config:=qZc) (disch:=first|omega|rfl) only[sB,Za,reduceCtorEq];refine z05 ?_))
  refine z04 rfl (by simp only[sB,Za,reduceCtorEq];rfl) ⟨?_,rfl⟩;rw[z71 _ L (by simpa using hz)];rfl
 ·have hx:L[m - 1]?=some L[m - 1]:=Zc (by omega);have hx0:=hn0 h0;have hxl:=hL L[m - 1] (Zz _);generalize L[m - 1]=x at hx hxl;rw[hx] at hx0;have hx0':x≠0:=fun h=>hx0 (by rw[h])
  have hnb:=zfg hL hm hz h0 hx hx0';have hle:=z6a (n:=x) (by omega);obtain⟨b,o,rfl,hl⟩:=r.get (m - 1) (u32V x) (by simp [hx]);unfold u32V at hl;have e1:((m:Int) - 1)=((m - 1:Nat):Int):=by omega
  repeat' (first|refine qZa ?_|(refine qZe ?_;try simp only[z00])|(refine qZb ?_;simp (config:=qZc) (disch:=first|omega|rfl) only[sB,Za,reduceCtorEq,z68,ziz,zl6,zvw,z0t,z0d,e1,hl])|(refine qZm ?_ ?_;simp (config:=qZc) (disch:=first|omega|rfl) only[sB,Za,reduceCtorEq];refine z05 ?_))
  refine(zod (fun _ _=>rfl) (by decide) (show x < 4294967296 from hxl)).mono ?_;rintro v H' ⟨rfl,rfl⟩
  repeat' (first|(refine qZf ?_)|(refine z0n ?_;simp (config:=qZc) (disch:=first|omega|rfl) only[sB,Za,reduceCtorEq,z0d]))
  refine z04 rfl (by simp only[sB,Za,reduceCtorEq];rfl) ⟨?_,rfl⟩;simp only[Value.int.injEq,true_and];omega
theorem zry {L:List Nat}{neg:Bool}{a:Option Addr}{b c:Nat}{H:Heap}(r:RdS H (L.map u32V) a c) (hL:∀y∈L,y < 4294967296) (hlen:L.length<=1048576) (hw:H.wf) (hb:b < H.next)
  (hl:H.load ⟨b,0,none⟩ 2=some [.bool neg,.slice a L.length c]) :
  EvF Tryd.prog okT 129 [.slice (some ⟨b,0,none⟩) 1 1] H fun v H'=>v=.bool (decide (4096 < nbits (valB 4294967296 L)))/\HX H H':=by
 refine EvF.enter rfl Tryd.func129 (by decide) rfl ?_
 repeat' (first|refine qZa ?_|refine qZg ?_|(refine qZb ?_;simp (config:=qZc) (disch:=first|omega|rfl) only[sB,initTm,Za,reduceCtorEq,zvx]))
 refine qZk (fun k st=>∃tm H',st=⟨tm,[],H'⟩/\HX H H'/\tm.get 5=some (.slice (some ⟨b,0,none⟩) 1 1)/\tm.get 6=some (.int .i64 1)/\((k=1/\tm.get 7=some (.int .i64 0))\/(k=0/\tm.get 7=some (.int .i64 1)/\¬ 4096 < nbits (valB 4294967296 L)))) ?_ 1 _ ?_
 ·rintro k st ⟨tm,H',rfl,hx,g5,g6,⟨rfl,g7⟩|⟨rfl,g7,hn⟩⟩
  ·have hl':=hx.load hw hl;have hx2:=((hx.new (some (Blk.row [.bool false,.slice none 0 0] 208))).put (i:=H'.next) hx.next (Zg _) (some (.row [.bool neg,.slice a L.length c] 208)))
   repeat' (first|refine qZa ?_|refine qZg ?_|(refine qZe ?_;try simp only[z00])|(refine qZb ?_;simp (config:=qZc) (disch:=first|omega|rfl) only[sB,dAlloc,Za,Zb,one,cutC,ZO,z9y,zl5,z9x,zl7,zu1,zu0,g5,g6,g7,hl',decide_eq_true,zvy,ZL])|(refine qZd ?_ ?_;simp (config:=qZc) (disch:=first|omega|rfl) only[sB];refine z05 ?_))
   refine(zle (r.keep hx2 hw) hL hlen).mono ?_;rintro v H2 ⟨rfl,rfl⟩;by_cases hbig:4096 < nbits (valB 4294967296 L)
   ·repeat' (first|refine qZa ?_|(refine qZf ?_;try simp only[z06,z01])|(refine qZb ?_;simp (config:=qZc) (disch:=first|omega|rfl) only[sA])|(refine z0n ?_;simp (config:=qZc) (disch:=first|omega|rfl) only[sA,decide_eq_true])|(refine qZd ?_ ?_;simp (config:=qZc) (disch:=first|omega|rfl) only[sB,Za];refine z05 ?_))
    exact z04 rfl (by simp only[sG,Za]) ⟨rfl,hx2⟩
   ·repeat' (first|(refine qZe ?_;try simp only[sA])|(refine qZb ?_;simp (config:=qZc) (disch:=first|omega|rfl) only[sB,Za,g7,z0d])|(refine z0n ?_;simp (config:=qZc) (disch:=first|omega|rfl) only[sA,decide_eq_false])|(refine qZm ?_ ?_;simp (config:=qZc) (disch:=first|omega|rfl) only[sB,Za];refine z05 ?_))
    exact⟨0,by omega,_,_,rfl,hx2,(by simp only[sG,Za,g5]),(by simp only[sG,Za,g6]),.inr ⟨rfl,(by simp only[sB,Za];rfl),hbig⟩⟩
  ·repeat' (first|refine qZa ?_|(refine qZi ?_;try simp only[sB])|(refine qZf ?_)|(refine qZb ?_;simp (config:=qZc) (disch:=first|omega|rfl) only[sA,g6,g7,decide_eq_false])|(refine qZm ?_ ?_;simp (config:=qZc) (disch:=first|omega|rfl) only[sB];refine z05 ?_))
   exact z04 rfl (by simp only[sG,Za]) ⟨rfl,hx⟩
 ·exact⟨_,_,rfl,HX.refl hw,(by simp only[sG,Za,reduceCtorEq]),(by simp only[sB,Za,reduceCtorEq];rfl),.inl ⟨rfl,(by simp only[sG,Za,reduceCtorEq])⟩⟩
theorem zu9 {L:List Nat}{a:Option Addr}{c:Nat}{H:Heap}(r:RdS H (L.map u32V) a c) (hlen:L.length<=1048576) (hw:H.wf) :
  EvF Tryd.prog okT 130 [.slice a L.length c] H fun v H'=>∃b c',OwnS H' 214 1 H.next (L.map fun x=>[u32V x]) b c'/\v=.slice (some ⟨b,0,none⟩) L.length c'/\HX H H':=by
 have hmost:L.length<=most:=by unfold most;omega
 have hm0:0<=most:=Zo _;have hmax:L.length<=maxLen:=Zk hlen (by simp [maxLen]);refine EvF.enter rfl Tryd.func130 (by decide) rfl ?_;by_cases h0:L.length=0
 ·have hL0:L=[]:=List.length_eq_zero_iff.1 h0;subst hL0
  repeat' (first|refine qZa ?_|(refine qZf ?_)|(refine qZb ?_;simp (config:=qZc) (disch:=first|omega|rfl) only[sB,initTm,Za,reduceCtorEq,z68,z70 zu3 hm0,zgs,List.replicate_zero,zo1 zrv]))
  refine z04 rfl (by simp only[sG,Za,reduceCtorEq]) ⟨H.next,0,?_,rfl,(HX.refl hw).new _⟩;exact OwnS.ones (vs:=[]) z0i (Zf _) (Zg _) (Zf _) (Zo _) rfl
 ·have hx:=(HX.refl hw).new (some (.row (List.replicate L.length (Value.int .u32 0)) 214));obtain⟨b,o,rfl,hl⟩:=(r.keep hx hw).all (by simpa using h0);rw[Zt] at hl;have hone:(L.map u32V).all one=true:=by simp [u32V,one]
  have hcp:=zrj (c:=L.length) (c':=c) (o:=0) (b:=H.next) zrv (Nat.pos_of_ne_zero h0) (by rw[Nat.mul_one];exact hl) hone z0i (by simp);have hsp:Hb.splice (List.replicate L.length (Value.int .u32 0)) 0 (L.map u32V)=L.map u32V:=by rw[z39];simp
  rw[hsp] at hcp
  repeat' (first|refine qZa ?_|(refine qZf ?_)|(refine qZb ?_;simp (config:=qZc) (disch:=first|omega|rfl) only[sB,initTm,Za,reduceCtorEq,z68,z70 zu3 hmost,zgs,hcp]))
  refine z04 rfl (by simp only[sG,Za,reduceCtorEq]) ⟨H.next,L.length,?_,rfl,hx.put (Zf _) (Zg _) _⟩;have:=OwnS.ones (H:=(H.new (some (.row (List.replicate L.length (Value.int .u32 0)) 214))).put H.next (some (.row (L.map u32V) 214))) (base:=H.next) (c:=L.length) z8i (Zf _) (Zg _) (by simp) hmax hone;rw[List.map_map] at this;exact this
theorem zrz {L:List Nat}{neg:Bool}{a:Option Addr}{c:Nat}{H:Heap}(r:RdS H (L.map u32V) a c) (hw:H.wf) :
  EvF Tryd.prog okT 128 [.bool neg,.slice a L.length c] H fun v H'=>∃m,v=.agg ⟨[.bool (neg && decide (0 < m)),.slice a m c]⟩/\m<=L.length/\(∀x∈L.drop m,x=0)/\(m≠0->L[m - 1]?≠some 0)/\HX H H':=by
 refine EvF.enter rfl Tryd.func128 (by decide) rfl ?_
 repeat' (first|refine qZa ?_|(refine qZb ?_;simp (config:=qZc) (disch:=first|omega|rfl) only[sB,initTm,dAlloc,Za,reduceCtorEq,zl5,zoa]))
 have hx:=(HX.refl hw).new (some (.row [.bool false,.slice none 0 0] 208));refine(zbs (fun _ _=>rfl) (by decide) (r.keep hx hw)).mono ?_;rintro v H' ⟨m,rfl,hm,hz,hn0,rfl⟩;cases neg with
 |false =>
  repeat' (first|refine qZa ?_|(refine qZf ?_)|(refine qZb ?_;simp (config:=qZc) (disch:=first|omega|rfl) only[sB,Za,Zb,Value.cells,one,reduceCtorEq,Zn,layC,ziy,z9x]))
  exact z0b rfl (by simp only[sB,Za,reduceCtorEq];rfl) (by simp only[sB,Zb,cutC,z9y];rfl) ⟨m,rfl,hm,hz,hn0,hx.put (Zf _) (Zg _) _⟩
 |true =>
  by_cases h0:0 < m
  ·repeat' (first|refine qZa ?_|(refine qZf ?_)|(refine qZb ?_;simp (config:=qZc) (disch:=first|omega|rfl) only[sB,Za,Zb,Value.cells,one,reduceCtorEq,Zn,layC,z68,ziy,z9x,decide_eq_true]))
   exact z0b rfl (by simp only[sB,Za,reduceCtorEq];rfl) (by simp only[sB,Zb,cutC,z9y];rfl) ⟨m,by first|rfl|simp [h0],hm,hz,hn0,hx.put (Zf _) (Zg _) _⟩
  ·repeat' (first|refine qZa ?_|(refine qZf ?_)|(refine qZb ?_;simp (config:=qZc) (disch:=first|omega|rfl) only[sB,Za,Zb,Value.cells,one,reduceCtorEq,Zn,layC,z68,ziy,z9x,decide_eq_false]))
   exact z0b rfl (by simp only[sB,Za,reduceCtorEq];rfl) (by simp only[sB,Zb,cutC,z9y];rfl) ⟨m,by first|rfl|simp [h0],hm,hz,hn0,hx.put (Zf _) (Zg _) _⟩
def bl (s:ByteArray):List Nat:=s.data.toList.map UInt8.toNat
theorem z6b (s:ByteArray):(bl s).length=s.size:=by simp [bl]
theorem zlf (s:ByteArray) {i:Nat}(h:i < s.size):(bl s)[i]?=some (byteAt s i):=by
 have h':i < s.data.toList.length:=by simpa using h
 unfold bl byteAt;rw[Zv,Zc h',List.getD_eq_getElem?_getD,Zc h'];rfl
theorem zj1 (s:ByteArray) (l m:Nat):bl (s.extract l m)=((bl s).take m).drop l:=by
 unfold bl;rw[ByteArray.data_extract,Array.toList_extract,List.extract_eq_take_drop,List.map_take,List.map_drop,<-List.drop_take]
def negS (l:List Nat):Bool:=l.head? == some 45
def bodyS (l:List Nat):List Nat:=if negS l then l.tail else l
def parseD (l:List Nat):Option Nat:=if bodyS l=[] then none else if (bodyS l).any (fun x=>10<=digV x) then none else numD ((bodyS l).map digV) 0
def limbsOK (L:List Nat):Prop:=(∀y∈L,y < 4294967296)/\L.getLast?≠some 0
theorem zdl {L:List Nat}(h:limbsOK L) (hb:¬ 4096 < nbits (valB 4294967296 L)):L.length<=128:=by
 rcases List.eq_nil_or_concat L with rfl|⟨l,x,rfl⟩
 ·simp
 ·rw[List.concat_eq_append] at *;have hx:x≠0:=by have:=h.2;simpa using this
  have:=zdk (l:=l) (x:=x) (e:=32) (fun y hy=>h.1 y (by simp [hy])) hx;have h0:1<=nbits x:=by unfold nbits;rw[if_neg hx];omega
  rw[show (2:Nat) ^ 32=4294967296 from rfl] at this;rw[this] at hb;simp;omega
def ParseT (H':Heap) (V:Nat->Value) (B:Nat) (l:List Nat) (v:Value):Prop :=
 (parseD l=none/\∃e:Int,e≠0/\v=.tuple ⟨[.agg ⟨[.bool false,.slice none 0 0]⟩,.int .i64 e]⟩) \/
 ∃n L a c,parseD l=some n/\v=.tuple ⟨[.agg ⟨[.bool (negS l && decide (0 < L.length)),.slice a L.length c]⟩,.int .i64 0]⟩/\RdS H' (L.map V) a c/\(∀y∈L,y < B)/\valB B L=n/\L.getLast?≠some 0/\L.length<=4096
set_option maxHeartbeats 2000000 in
theorem zof {s:ByteArray}(hs:s.size<=9223372036854775807) {H:Heap}(hw:H.wf) :
  EvF Tryd.prog okT 123 [.string s,.int .i64 10] H fun v H'=>ParseT H' u32V 4294967296 (bl s) v/\HX H H':=by
 refine EvF.enter rfl Tryd.func123 (by decide) rfl ?_;(repeat refine qZa ?_);refine qZb ?_;simp (config:=qZc) (disch:=first|omega|rfl) only[sA,initTm,dAlloc,zl5];have hx0:=(HX.refl hw).new (some (.row [.bool false,.slice none 0 0] 208));obtain⟨H1,hH1⟩:∃H1,H1=H.new (some (.row [.bool false,.slice none 0 0] 208)):=⟨_,rfl⟩
 have hn1:H1.next=H.next+1:=by rw[hH1];rfl
 have hg1:H1.get H.next=some (.row [.bool false,.slice none 0 0] 208):=by rw[hH1];exact z0i
 rw[<-hH1] at hx0 ⊢;(repeat refine qZa ?_);refine qZb ?_;simp (config:=qZc) (disch:=first|omega|rfl) only[sB,Za,reduceCtorEq,decide_eq_false,Ze];refine qZm (by simp (config:=qZc) (disch:=first|omega|rfl) only[sB,Za,reduceCtorEq]) ?_;(try refine qZe ?_);(try simp only[z00,z03]);(repeat refine qZa ?_);refine EvC.join (fun st=>∃tm,st=⟨tm,[],H1⟩/\tm.get 0=some (.string s)/\tm.get 1=some (.int .i64 10)/\tm.get 4=some (.pointer (some ⟨H.next,0,none⟩))/\tm.get 6=some (.bool (negS (bl s)))) ?_ ?_
 ·by_cases h0:s.size=0
  ·have hb:negS (bl s)=false:=by
    have:bl s=[]:=List.length_eq_zero_iff.1 (by rw[z6b];exact h0);rw[this];rfl
   rw[hb];refine qZb ?_;simp (config:=qZc) (disch:=first|omega|rfl) only[sB,Za,reduceCtorEq,ln9,decide_eq_false,Ze];exact⟨_,rfl,(by simp only[sG,reduceCtorEq]),(by simp only[sG,Za,reduceCtorEq]),(by simp only[sG,Za,reduceCtorEq]),(by simp only[sG,Za,reduceCtorEq])⟩
  ·have hb:negS (bl s)=(byteAt s 0 == 45):=by
    have:=zlf s (i:=0) (by omega);unfold negS;rw[List.head?_eq_getElem?,this];simp
   rw[hb];by_cases h45:byteAt s 0=45
   ·refine qZb ?_;simp (config:=qZc) (disch:=first|omega|rfl) only[sB,Za,reduceCtorEq,ZO,ln9,decide_eq_true,iy9,z0y];exact⟨_,rfl,(by simp only[sG,reduceCtorEq]),(by simp only[sG,Za,reduceCtorEq]),(by simp only[sG,Za,reduceCtorEq]),by simp only[sB,Za,reduceCtorEq];first|rfl|simp [h45]⟩
   ·refine qZb ?_;simp (config:=qZc) (disch:=first|omega|rfl) only[sB,Za,reduceCtorEq,ZO,ln9,decide_eq_true,iy9,z0t];exact⟨_,rfl,(by simp only[sG,reduceCtorEq]),(by simp only[sG,Za,reduceCtorEq]),(by simp only[sG,Za,reduceCtorEq]),by simp only[sB,Za,reduceCtorEq];first|rfl|simp [h45]⟩
 rintro st ⟨tm,rfl,g0,g1,g4,g6⟩;(try simp (config:=qZc) (disch:=first|omega|rfl) only[z00]);(repeat refine qZa ?_);refine qZb ?_;simp (config:=qZc) (disch:=first|omega|rfl) only[sA,g6];(repeat refine qZa ?_);have hbody:bodyS (bl s)=if negS (bl s) then (bl s).tail else bl s:=rfl
 refine EvC.join (fun st=>∃tm s',st=⟨tm,[],H1⟩/\bl s'=bodyS (bl s)/\s'.size<=9223372036854775807/\tm.get 0=some (.string s')/\tm.get 1=some (.int .i64 10)/\tm.get 4=some (.pointer (some ⟨H.next,0,none⟩))/\tm.get 6=some (.bool (negS (bl s)))) ?_ ?_
 ·cases hneg:negS (bl s) with
  |true =>
   have h1:1<=s.size:=by
    rw[<-z6b];cases hb:bl s with
    |nil=>rw[hb] at hneg;simp [negS] at hneg
    |cons x l=>simp
   have hsl:dSl Tryd.prog 9 (.string s) (some (.int .i64 1)) none none H1=some (.val (.string (s.extract 1 s.size)) H1):=zit (l:=1) us9 h1;rw[hneg] at g6 hbody;refine qZd (by simp only[sB]) ?_;refine qZb ?_;simp (config:=qZc) (disch:=first|omega|rfl) only[sB,Za,reduceCtorEq,g0,hsl];refine⟨_,s.extract 1 s.size,rfl,?_,?_,(by simp only[sG,reduceCtorEq]),(by simp only[sG,Za,reduceCtorEq,g1]),(by simp only[sG,Za,reduceCtorEq,g4]),(by simp only[sG,Za,reduceCtorEq,g6])⟩
   ·rw[zj1,hbody,Zl (by rw[z6b];exact Zf _)];simp
   ·have:(s.extract 1 s.size).size<=s.size:=by rw[ByteArray.size_extract];omega
    omega
  |false =>
   rw[hneg] at g6 hbody;refine qZm (by simp only[sB]) (qZe ?_);(try simp (config:=qZc) (disch:=first|omega|rfl) only[z00]);exact⟨_,s,rfl,by rw[hbody];rfl,hs,(by simp only[sG,reduceCtorEq,g0]),(by simp only[sG,Za,g1]),(by simp only[sG,Za,g4]),(by simp only[sG,Za,g6])⟩
 clear g0 g1 g4 g6;rintro st ⟨tm1,s',rfl,hbl,hs',g0,g1,g4,g6⟩;clear tm;generalize hneg:negS (bl s)=neg at g6;(try simp (config:=qZc) (disch:=first|omega|rfl) only[z00]);(repeat refine qZa ?_);refine qZb ?_;simp (config:=qZc) (disch:=first|omega|rfl) only[sB,ln9,g0];(repeat refine qZa ?_);refine EvC.join (fun st=>∃tm,st=⟨tm,[],H1⟩/\(bodyS (bl s)).any (fun x=>10<=digV x)=false/\tm.get 0=some (.string s')/\tm.get 1=some (.int .i64 10)/\tm.get 4=some (.pointer (some ⟨H.next,0,none⟩))/\tm.get 6=some (.bool neg)) ?_ ?_
 ·refine qZg (qZk (fun k st=>∃tm i,st=⟨tm,[],H1⟩/\k=s'.size - i/\i<=s'.size/\(∀x∈(bl s').take i,digV x < 10)/\tm.get 0=some (.string s')/\tm.get 1=some (.int .i64 10)/\tm.get 4=some (.pointer (some ⟨H.next,0,none⟩))/\tm.get 6=some (.bool neg)/\tm.get 32=some (.int .i64 s'.size)/\tm.get 33=some (.int .i64 (i:Nat))) ?_ s'.size _ ?_)
  ·rintro k st ⟨tm,i,rfl,hk,hi,hall,f0,f1,f4,f6,f32,f33⟩;by_cases hlt:i < s'.size
   ·have hgi:=zlf s' hlt
    repeat' (first|refine qZa ?_|refine qZg ?_|(refine qZe ?_;try simp only[z00])|(refine qZb ?_;simp (config:=qZc) (disch:=first|omega|rfl) only[sB,Za,reduceCtorEq,ix9,zty,f0,f1,f32,f33,decide_eq_true])|(refine qZd ?_ ?_;simp (config:=qZc) (disch:=first|omega|rfl) only[sB];refine z05 ?_))
    refine(zh8 (fun _ _=>rfl) (by decide) _ (zd3 s' i) H1).mono ?_;rintro v H' ⟨rfl,rfl⟩;by_cases hd:10<=digV (byteAt s' i)
    ·repeat' (first|refine qZa ?_|(refine qZf ?_;try simp only[z06,z01])|(refine qZb ?_;simp (config:=qZc) (disch:=first|omega|rfl) only[sB,Za,Zb,Value.cells,one,layC,ziy,z9x,f4,hg1])|(refine z0n ?_;simp (config:=qZc) (disch:=first|omega|rfl) only[sA,decide_eq_true])|(refine qZd ?_ ?_;simp (config:=qZc) (disch:=first|omega|rfl) only[sB,Za];refine z05 ?_))
     refine z0f rfl (by simp only[sB,Za,f4];rfl) (by simp only[sB,Zb,cutC,z9y]) (by simp only[sG,Za]) ⟨.inl ⟨?_,12,by omega,rfl⟩,?_⟩
     ·have hm:byteAt s' i∈bodyS (bl s):=by rw[<-hbl];exact Zr hgi
      unfold parseD;rw[if_neg (fun h=>by rw[h] at hm;cases hm),if_pos (List.any_eq_true.2 ⟨_,hm,decide_eq_true hd⟩)]
     ·exact hx0.put (Zf _) (by omega) _
    ·repeat' (first|(refine qZe ?_;try simp only[sA])|(refine qZb ?_;simp (config:=qZc) (disch:=first|omega|rfl) only[sB,Za,f33,z0d])|(refine z0n ?_;simp (config:=qZc) (disch:=first|omega|rfl) only[sA,decide_eq_false])|(refine qZm ?_ ?_;simp (config:=qZc) (disch:=first|omega|rfl) only[sB,Za];refine z05 ?_))
     refine⟨s'.size - (i+1),by omega,_,i+1,rfl,rfl,by omega,fun x hx=>?_,(by simp only[sG,reduceCtorEq,f0]),(by simp only[sG,Za,f1]),(by simp only[sG,Za,f4]),(by simp only[sG,Za,f6]),(by simp only[sG,Za,f32]),(by simp only[sB,Za];rfl)⟩;rw[List.take_add_one,hgi] at hx;rcases List.mem_append.1 hx with h|h
     ·exact hall x h
     ·simp at h;rw[h];omega
   ·repeat' (first|refine qZa ?_|(refine qZi ?_;try simp only[sB])|(refine qZb ?_;simp (config:=qZc) (disch:=first|omega|rfl) only[sA,f32,f33,decide_eq_false])|(refine qZm ?_ ?_;simp (config:=qZc) (disch:=first|omega|rfl) only[sB];refine z05 ?_))
    refine⟨_,rfl,?_,(by simp only[sG,reduceCtorEq,f0]),(by simp only[sG,Za,f1]),(by simp only[sG,Za,f4]),(by simp only[sG,Za,f6])⟩;rw[List.any_eq_false];intro x hx;rw[<-hbl] at hx;have:=hall x (by rw[Zl (by rw[z6b];omega)];exact hx);simp;omega
  ·exact⟨_,0,rfl,by omega,by omega,by simp,(by simp only[sG,reduceCtorEq,g0]),(by simp only[sG,Za,g1]),(by simp only[sG,Za,g4]),(by simp only[sG,Za,g6]),(by simp only[sG,Za]),(by simp only[sB,Za];rfl)⟩
 clear g0 g1 g4 g6 tm1;rintro st ⟨tm,rfl,hany,g0,g1,g4,g6⟩;by_cases hsz:s'.size=0
 ·repeat' (first|refine qZa ?_|(refine qZf ?_;try simp only[z06,z01])|(refine qZb ?_;simp (config:=qZc) (disch:=first|omega|rfl) only[sB,Za,Zb,Value.cells,one,layC,ziy,z9x,g0,g4,zgw,decide_eq_true,hg1])|(refine qZd ?_ ?_;simp (config:=qZc) (disch:=first|omega|rfl) only[sB,Za];refine z05 ?_))
  refine z0f rfl (by simp only[sB,Za,g4];rfl) (by simp only[sB,Zb,cutC,z9y]) (by simp only[sG,Za]) ⟨.inl ⟨?_,12,by omega,rfl⟩,hx0.put (Zf _) (by omega) _⟩;have:bodyS (bl s)=[]:=by rw[<-hbl];exact List.length_eq_zero_iff.1 (by rw[z6b];exact hsz)
  unfold parseD;rw[if_pos this]
 have hpd:parseD (bl s)=numD ((bl s').map digV) 0:=by
  have:bodyS (bl s)≠[]:=by rw[<-hbl];intro h;have:=congrArg List.length h;rw[z6b] at this;exact hsz this
  unfold parseD;rw[if_neg this,if_neg (by rw[hany];simp),hbl]
 repeat' (first|refine qZa ?_|refine qZg ?_|(refine qZe ?_;try simp only[z00])|(refine qZb ?_;simp (config:=qZc) (disch:=first|omega|rfl) only[sB,Za,reduceCtorEq,ln9,g0,zgw,decide_eq_false])|(refine qZm ?_ ?_;simp (config:=qZc) (disch:=first|omega|rfl) only[sB,Za];refine z05 ?_))
 have hdl:∀x∈bl s',digV x < 10:=by
  rw[<-hbl,List.any_eq_false] at hany;intro x hx;have:=hany x hx;simp at this;omega
 refine qZk (fun k st=>∃tm i n L v Hc,st=⟨tm,[],Hc⟩/\k=s'.size - i/\i<=s'.size/\numD (((bl s').map digV).drop i) n=numD ((bl s').map digV) 0/\n < big/\valB 4294967296 L=n/\limbsOK L/\HX H1 Hc /\
  RepO Hc 214 1 H1.next (L.map fun x=>[u32V x]) v/\tm.get 0=some (.string s')/\tm.get 1=some (.int .i64 10)/\tm.get 4=some (.pointer (some ⟨H.next,0,none⟩))/\tm.get 6=some (.bool neg)/\tm.get 8=some v /\
  tm.get 48=some (.int .i64 s'.size)/\tm.get 49=some (.int .i64 (i:Nat))) ?_ s'.size _ ?_
 ·clear g0 g1 g4 g6 tm;rintro k st ⟨tm,i,n,L,v,Hc,rfl,hk,hi,hnum,hnb,hval,hL,hxc,hrep,g0,g1,g4,g6,g8,g48,g49⟩;by_cases hlt:i < s'.size
  ·have hgi:=zlf s' hlt;have hdi:digV (byteAt s' i) < 10:=hdl _ (Zr hgi)
   repeat' (first|refine qZa ?_|refine qZg ?_|(refine qZe ?_;try simp only[z00])|(refine qZb ?_;simp (config:=qZc) (disch:=first|omega|rfl) only[sB,Za,reduceCtorEq,ix9,zty,g0,g48,g49,decide_eq_true])|(refine qZd ?_ ?_;simp (config:=qZc) (disch:=first|omega|rfl) only[sB];refine z05 ?_))
   refine(zh8 (fun _ _=>rfl) (by decide) _ (zd3 s' i) Hc).mono ?_;rintro v' H' ⟨rfl,rfl⟩;obtain⟨a,c,rfl,hLc,hcm⟩:=hrep.slice;rw[Zt] at hLc g8 hrep;have hcm':c<=9223372036854775807:=hcm
   repeat' (first|refine qZa ?_|refine qZg ?_|(refine qZb ?_;simp (config:=qZc) (disch:=first|omega|rfl) only[sB,Za,z68,g8])|(refine z0n ?_;simp (config:=qZc) (disch:=first|omega|rfl) only[sB,Za,zqi,z54]))
   refine qZk (fun k' st=>∃tm k d cy Hd,st=⟨tm,[],Hd⟩/\k'=L.length - k/\k<=L.length/\d.length=k/\(∀y∈d,y < 4294967296)/\cy < 10 /\
    valB 4294967296 d+4294967296 ^ k*(10*valB 4294967296 (L.drop k)+cy)=10*valB 4294967296 L+digV (byteAt s' i)/\(k≠0->L[k - 1]?≠some 0->cy≠0\/d.getLast?≠some 0)/\(k=0->cy=digV (byteAt s' i))/\HX H1 Hd /\
    RepO Hd 214 1 H1.next ((d++L.drop k).map fun x=>[u32V x]) (.slice a L.length c)/\tm.get 0=some (.string s')/\tm.get 1=some (.int .i64 10)/\tm.get 4=some (.pointer (some ⟨H.next,0,none⟩))/\tm.get 6=some (.bool neg) /\
    tm.get 8=some (.slice a L.length c)/\tm.get 10=some (.int .u64 (cy:Nat))/\tm.get 48=some (.int .i64 s'.size)/\tm.get 49=some (.int .i64 (i:Nat))/\tm.get 58=some (.int .i64 L.length)/\tm.get 59=some (.int .i64 (k:Nat))) ?_ L.length _ ?_
   ·clear hxc hrep g0 g1 g4 g6 g8 g48 g49 tm H';rintro k2 st ⟨tm,k,d,cy,Hd,rfl,hk2,hkl,hdk,hdb,hcy,hinv,hlast,hz0,hxc,hrep,g0,g1,g4,g6,g8,g10,g48,g49,g58,g59⟩;by_cases hkl2:k < L.length
    ·have hx:L[k]?=some L[k]:=Zc hkl2;have hdrop:L.drop k=L[k] :: L.drop (k+1):=ZI hkl2;have hxb:L[k] < 4294967296:=hL.1 _ (Zz _);generalize L[k]=x at hx hdrop hxb;rw[hdrop] at hrep hinv;obtain⟨b,c2,ho,hv⟩:=hrep.own (by simp);have hlm:((d++x :: L.drop (k+1)).map fun x=>[u32V x]).length=L.length:=by simp;omega
     rw[hlm] at hv;cases hv;have hld:=ho.load (i:=k) (x:=[u32V x]) (by rw[Zv,List.getElem?_append_right (by omega),hdk];simp);rw[Nat.mul_one] at hld;unfold u32V at hld;obtain⟨cs,hgb,hle,_⟩:=ho.row;rw[hlm,Nat.mul_one] at hle;have hk1:k+1<=cs.length:=by omega
     have e1:((x:Int)*10+(cy:Int))=((x*10+cy:Nat):Int):=by omega
     repeat' (first|refine qZa ?_|refine qZg ?_|(refine qZe ?_;try simp only[z00])|(refine qZb ?_;simp (config:=qZc) (disch:=first|omega|rfl) only[sB,Za,one,zqi,ziz,zl6,zbo,zbp,ztz,g1,g8,g10,g58,g59,hld,hgb,hk1,e1,z54,zd5,zfa,z0d,decide_eq_true])|(refine qZd ?_ ?_;simp (config:=qZc) (disch:=first|omega|rfl) only[sB];refine z05 ?_))
     have hset:=ho.set hgb (i:=k) (y:=[u32V ((x*10+cy) % 4294967296)]) (by rw[hlm];exact hkl2) rfl rfl;rw[Nat.mul_one] at hset;have hset2:((d++x :: L.drop (k+1)).map fun x=>[u32V x]).set k [u32V ((x*10+cy) % 4294967296)]=((d++[(x*10+cy) % 4294967296])++L.drop (k+1)).map fun x=>[u32V x]:=by
      rw[ZB,List.set_append_right _ _ (by simp;omega)];simp [hdk]
     rw[hset2] at hset;have hlm2:(((d++[(x*10+cy) % 4294967296])++L.drop (k+1)).map fun x=>[u32V x]).length=L.length:=by simp;omega
     have hcq:=zlb (B:=4294967296) (x:=x) (c:=cy) (by omega) hxb hcy;refine⟨L.length - (k+1),by omega,_,k+1,d++[(x*10+cy) % 4294967296],(x*10+cy) / 4294967296,_,rfl,rfl,by omega,by simp [hdk],?_,hcq,?_,?_,by omega,hxc.put ho.lo ho.hi _,.inr ⟨_,_,hset,by rw[hlm2]⟩,
      (by simp only[sG,reduceCtorEq,g0]),(by simp only[sG,Za,g1]),(by simp only[sG,Za,g4]),(by simp only[sG,Za,g6]),(by simp only[sG,Za,g8]),(by simp only[sG,Za]),(by simp only[sG,Za,g48]),(by simp only[sG,Za,g49]),(by simp only[sG,Za,g58]),(by simp only[sB,Za];rfl)⟩
     ·intro y hy;rcases List.mem_append.1 hy with h|h
      ·exact hdb y h
      ·simp at h;omega
     ·have:=zrw (B:=4294967296) (c:=cy) (x:=x) (d:=d) (rest:=L.drop (k+1));rw[hdk] at this;rw[this];exact hinv
     ·intro _ hl0;rw[show k+1 - 1=k by omega,hx] at hl0;have hx0:x≠0:=fun h=>hl0 (by rw[h])
      by_cases hq:(x*10+cy) / 4294967296=0
      ·refine .inr ?_;simp;omega
      ·exact .inl hq
    ·have hkL:k=L.length:=by omega
     have hdr:L.drop k=[]:=List.drop_of_length_le (by omega);rw[hdr] at hinv hrep;rw[List.append_nil] at hrep;simp only[valB,Nat.mul_zero,ZF] at hinv;have hfew:=zdl hL (by rw[z4o,hval];omega);have hlastL:k≠0->L[k - 1]?≠some 0:=fun h0=>by
      have:=hL.2;rw[List.getLast?_eq_getElem?] at this;rw[hkL];exact this
     have hlm:(d.map fun x=>[u32V x]).length=L.length:=by simp;omega
     repeat' (first|refine qZa ?_|(refine qZi ?_;try simp only[sB,Za])|(refine qZb ?_;simp (config:=qZc) (disch:=first|omega|rfl) only[sB,Za,g58,g59,g10,decide_eq_false])|(refine qZm ?_ ?_;simp (config:=qZc) (disch:=first|omega|rfl) only[sB,Za];refine z05 ?_))
     have hnn:n*10+digV (byteAt s' i)=valB 4294967296 d+4294967296 ^ k*cy:=by rw[hval] at hinv;omega
     have hnumi:numD ((bl s').map digV) 0=if big<=n*10+digV (byteAt s' i) then none else numD (((bl s').map digV).drop (i+1)) (n*10+digV (byteAt s' i)):=by
      rw[<-hnum,ZI (by simp [z6b];omega),numD];have:((bl s').map digV)[i]'(by simp [z6b];omega)=digV (byteAt s' i):=by
       apply Option.some.inj;rw[<-Zc,Zv,hgi];rfl
      rw[this]
     generalize n*10+digV (byteAt s' i)=n' at hnn hnumi;refine EvC.join (fun st=>∃tm L' v' Hc',st=⟨tm,[],Hc'⟩/\valB 4294967296 L'=n'/\limbsOK L'/\L'.length<=129/\HX H1 Hc'/\RepO Hc' 214 1 H1.next (L'.map fun x=>[u32V x]) v' /\
      tm.get 0=some (.string s')/\tm.get 1=some (.int .i64 10)/\tm.get 4=some (.pointer (some ⟨H.next,0,none⟩))/\tm.get 6=some (.bool neg)/\tm.get 8=some v'/\tm.get 48=some (.int .i64 s'.size)/\tm.get 49=some (.int .i64 (i:Nat))) ?_ ?_
     ·by_cases hc0:cy=0
      ·repeat' (first|(refine qZe ?_;try simp only[z00])|(refine qZm ?_ ?_;simp (config:=qZc) (disch:=first|omega|rfl) only[sB,Za,decide_eq_false];refine z05 ?_))
       refine⟨_,d,_,_,rfl,by rw[hnn,hc0];omega,⟨hdb,?_⟩,by omega,hxc,hrep,(by simp only[sG,reduceCtorEq,g0]),(by simp only[sG,Za,g1]),(by simp only[sG,Za,g4]),(by simp only[sG,Za,g6]),(by simp only[sG,Za,g8]),(by simp only[sG,Za,g48]),(by simp only[sG,Za,g49])⟩;by_cases hk0:k=0
       ·have:d=[]:=List.length_eq_zero_iff.1 (by omega);rw[this];simp
       ·rcases hlast hk0 (hlastL hk0) with h|h
        ·exact absurd hc0 h
        ·exact h
      ·obtain⟨H2,v2,hap,hrep2,_,hx2,_⟩:=hrep.push zvp (y:=[u32V cy]) rfl rfl (by simp [most];omega) hxc.next;unfold u32V at hap
       repeat' (first|(refine qZb ?_;simp (config:=qZc) (disch:=first|omega|rfl) only[sB,Za,Value.cells,one,layC,zbp,zrr,g8,g10,decide_eq_true,wrap_u32,hap])|(refine qZd ?_ ?_;simp (config:=qZc) (disch:=first|omega|rfl) only[sB,Za,decide_eq_true];refine z05 ?_))
       have hk2':((d++[cy]).map fun x=>[u32V x])=(d.map fun x=>[u32V x])++[[u32V cy]]:=by simp
       refine⟨_,d++[cy],_,_,rfl,?_,⟨?_,by simp;exact hc0⟩,by simp;omega,hx2 _ hxc (Zf _),by rw[hk2'];exact hrep2,(by simp only[sG,reduceCtorEq,g0]),(by simp only[sG,Za,g1]),(by simp only[sG,Za,g4]),(by simp only[sG,Za,g6]),(by simp only[sG,Za]),(by simp only[sG,Za,g48]),(by simp only[sG,Za,g49])⟩
       ·rw[z25,z69,hdk,hnn]
       ·intro y hy;rcases List.mem_append.1 hy with h|h
        ·exact hdb y h
        ·simp at h;omega
     clear g0 g1 g4 g6 g8 g10 g48 g49 g58 g59 tm hrep hxc;rintro st ⟨tm,L',v',Hc',rfl,hval',hL',hfew',hxc,hrep,g0,g1,g4,g6,g8,g48,g49⟩;obtain⟨a',c'',rfl,hr⟩:=RepO.rds (vs:=L'.map u32V) (by rw[List.map_map];exact hrep);rw[Zt] at g8 hrep
     repeat' (first|refine qZa ?_|(refine qZb ?_;simp (config:=qZc) (disch:=first|omega|rfl) only[sB,Za,zu0,g8]))
     refine(zle hr hL'.1 (by omega)).mono ?_;rintro v H2 ⟨rfl,rfl⟩;rw[hval'];have hg2:H2.get H.next=some (.row [.bool false,.slice none 0 0] 208):=by rw[hxc.keep _ (by omega)];exact hg1
     by_cases hbig:4096 < nbits n'
     ·repeat' (first|refine qZa ?_|(refine qZf ?_;try simp only[z06,z01])|(refine qZb ?_;simp (config:=qZc) (disch:=first|omega|rfl) only[sB,Za,Zb,Value.cells,one,layC,ziy,z9x,g4,hg2])|(refine z0n ?_;simp (config:=qZc) (disch:=first|omega|rfl) only[sA,decide_eq_true])|(refine qZd ?_ ?_;simp (config:=qZc) (disch:=first|omega|rfl) only[sB,Za];refine z05 ?_))
      refine z0f rfl (by simp only[sB,Za,g4];rfl) (by simp only[sB,Zb,cutC,z9y]) (by simp only[sG,Za]) ⟨.inl ⟨?_,10,by omega,rfl⟩,(hx0.trans hxc).put (Zf _) (by have:=hxc.next;omega) _⟩;rw[hpd,hnumi,if_pos (z4o.1 hbig)]
     ·repeat' (first|(refine qZe ?_;try simp only[sA])|(refine qZb ?_;simp (config:=qZc) (disch:=first|omega|rfl) only[sB,Za,g49,z0d])|(refine z0n ?_;simp (config:=qZc) (disch:=first|omega|rfl) only[sA,decide_eq_false])|(refine qZm ?_ ?_;simp (config:=qZc) (disch:=first|omega|rfl) only[sB,Za];refine z05 ?_))
      have hnb':¬big<=n':=fun h=>hbig (z4o.2 h)
      exact⟨s'.size - (i+1),by omega,_,i+1,n',L',_,_,rfl,rfl,by omega,by rw[hnumi,if_neg hnb'],Nat.lt_of_not_le hnb',hval',hL',hxc,hrep,(by simp only[sG,reduceCtorEq,g0]),(by simp only[sG,Za,g1]),(by simp only[sG,Za,g4]),(by simp only[sG,Za,g6]),(by simp only[sG,Za,g8]),(by simp only[sG,Za,g48]),(by simp only[sB,Za];rfl)⟩
   ·refine⟨_,0,[],digV (byteAt s' i),_,rfl,by omega,by omega,rfl,by simp,hdi,by simp [valB],by simp,fun _=>rfl,hxc,by simpa using hrep,(by simp only[sG,reduceCtorEq,g0]),(by simp only[sG,Za,g1]),(by simp only[sG,Za,g4]),(by simp only[sG,Za,g6]),(by simp only[sG,Za,g8]),(by simp only[sG,Za]),(by simp only[sG,Za,g48]),(by simp only[sG,Za,g49]),(by simp only[sG,Za]),(by simp only[sB,Za];rfl)⟩
  ·have hi':i=s'.size:=by omega
   have hnn:numD ((bl s').map digV) 0=some n:=by
    rw[<-hnum,List.drop_of_length_le (by simp [z6b];omega),numD]
   obtain⟨a',c'',rfl,hr⟩:=RepO.rds (vs:=L.map u32V) (by rw[List.map_map];exact hrep);rw[Zt] at g8
   repeat' (first|refine qZa ?_|(refine qZi ?_;try simp only[sB])|(refine qZb ?_;simp (config:=qZc) (disch:=first|omega|rfl) only[sB,Za,zvq,g48,g49,g6,g8,decide_eq_false])|(refine qZm ?_ ?_;simp (config:=qZc) (disch:=first|omega|rfl) only[sB];refine z05 ?_))
   refine(zrz hr hxc.wf).mono ?_;rintro v H2 ⟨m,rfl,hm,hz,hn0,hx2⟩;have hg2:H2.get H.next=some (.row [.bool false,.slice none 0 0] 208):=by rw[(hxc.trans hx2).keep _ (by omega)];exact hg1
   repeat' (first|(refine qZf ?_)|(refine z0n ?_;simp (config:=qZc) (disch:=first|omega|rfl) only[sB,Zb,one,z9x,g4,hg2]))
   have hx3:=hxc.trans hx2;have hm':m=L.length:=by
    rcases Nat.lt_or_ge m L.length with h|h
    ·have:=hz (L[L.length - 1]'(by omega)) (List.mem_drop_iff_getElem.2 ⟨L.length - 1 - m,by omega,by congr 1;omega⟩);have h2:=hL.2;rw[List.getLast?_eq_getElem?,Zc (by omega),this] at h2;exact absurd rfl h2
    ·omega
   subst hm';refine z0f rfl (by simp only[sB,Za,g4];rfl) (by simp only[sB,Zb,cutC,z9y];rfl) (by simp only[sB,Za];rfl) ⟨.inr ⟨n,L,a',c'',by rw[hpd,hnn],by rw[hneg],?_,hL.1,hval,hL.2,?_⟩,(hx0.trans hx3).put (Zf _) (by have:=hx3.next;omega) _⟩
   ·rw[Zt] at hrep;have h3:=(hrep.keep hx2).putlo (i:=H.next) (by omega) (some (.row [.bool (neg && decide (0 < L.length)),.slice a' L.length c''] 208));exact(RepO.rds' (vs:=L.map u32V) (by rw[List.map_map];exact h3)).2
   ·have:=zdl hL (by rw[z4o,hval];omega);omega
 ·exact⟨_,0,0,[],_,_,rfl,by omega,by omega,by simp,by rw[zdj];exact Nat.two_pow_pos _,rfl,⟨by simp,by simp⟩,HX.refl hx0.wf,RepO.empty,(by simp only[sG,reduceCtorEq,g0]),(by simp only[sG,Za,g1]),(by simp only[sG,Za,g4]),(by simp only[sG,Za,g6]),(by simp only[sG,Za]),(by simp only[sG,Za]),(by simp only[sB,Za];rfl)⟩
def u8V (n:Nat):Value:=.int .u8 (n:Int)
theorem zs0 {s:ByteArray}(h:∀i:Fin 10,byteAt s i=48+i) {y:Nat}(hy:y < 10):byteAt s y=48+y:=h ⟨y,hy⟩
theorem zha {B:Nat}(hB:0 < B) {M:List Nat}(h0:M≠[]) (h:M.getLast?≠some 0):valB B M≠0:=by
 rcases List.eq_nil_or_concat M with rfl|⟨l,x,rfl⟩
 ·exact absurd rfl h0
 ·rw[List.concat_eq_append] at *;have hx:x≠0:=by simpa using h
  rw[z25,z69];have:0 < B ^ l.length*x:=Nat.mul_pos (Nat.pow_pos hB) (by omega);omega
set_option maxHeartbeats 4000000 in
theorem zs1 {L:List Nat}{neg:Bool}{a:Option Addr}{c n:Nat}{H:Heap}(hw:H.wf) (r:RdS H (L.map u32V) a c) (hL:∀y∈L,y < 4294967296) (hlen:L.length<=4096) (hval:valB 4294967296 L=n) (hn:n < big) :
  EvF Tryd.prog okT 124 [.agg ⟨[.bool neg,.slice a L.length c]⟩,.int .i64 10] H fun v H'=>(∃t:ByteArray,v=.tuple ⟨[.string t,.int .i64 0]⟩/\bl t=textD neg n)/\HX H H':=by
 refine EvF.enter rfl Tryd.func124 (by decide) rfl ?_;(repeat refine qZa ?_);refine qZb ?_;simp (config:=qZc) (disch:=first|omega|rfl) only[sB,initTm,dBox,Value.cells,one,reduceCtorEq];have hx0:=(HX.refl hw).new (some (.row [.bool neg,.slice a L.length c] 208));obtain⟨H1,hH1⟩:∃H1,H1=H.new (some (.row [.bool neg,.slice a L.length c] 208)):=⟨_,rfl⟩
 have hn1:H1.next=H.next+1:=by rw[hH1];rfl
 have hg1:H1.get H.next=some (.row [.bool neg,.slice a L.length c] 208):=by rw[hH1];exact z0i
 have hl1:H1.load ⟨H.next,0,none⟩ 2=some [.bool neg,.slice a L.length c]:=by rw[hH1];exact z4l
 have hlb:H1.load ⟨H.next,0,none⟩ 1=some [.bool neg]:=by rw[hH1];exact z4l
 have hls:H1.load ⟨H.next,1,none⟩ 1=some [.slice a L.length c]:=by rw[hH1];exact z4l
 rw[<-hH1] at hx0 ⊢;have hw1:=hx0.wf;have hx2:=(HX.refl hw1).new (some (.row [.bool neg,.slice a L.length c] 208))
 repeat' (first|refine qZa ?_|(refine qZb ?_;simp (config:=qZc) (disch:=first|omega|rfl) only[sB,Za,Zb,Value.cells,one,reduceCtorEq,layC,z9y,zrs,zvr,hl1]))
 refine(zry ((r.keep hx0 hw).keep hx2 hw1) hL (by omega) hx2.wf (Zg _) z4l).mono ?_;rintro v H2 ⟨rfl,hx3⟩;have hx13:=hx2.trans hx3;have hl2:=hx13.load hw1 hls;have hlb2:=hx13.load hw1 hlb;have hng:¬ 4096 < nbits (valB 4294967296 L):=by rw[z4o,hval];omega
 rw[decide_eq_false hng]
 repeat' (first|refine qZa ?_|(refine qZe ?_;try simp only[z00])|(refine qZb ?_;simp (config:=qZc) (disch:=first|omega|rfl) only[sB,Za,reduceCtorEq,zl7,zu1,zoa,zvs,hl2,decide_eq_false,Ze])|(refine qZm ?_ ?_;simp (config:=qZc) (disch:=first|omega|rfl) only[sB,Za,reduceCtorEq];refine z05 ?_))
 have r2:=(r.keep hx0 hw).keep hx13 hw1;refine(zbs (fun _ _=>rfl) (by decide) r2).mono ?_;rintro v H3 ⟨m,rfl,hm,hz,hn0,rfl⟩;have hvm:valB 4294967296 (L.take m)=n:=by rw[z8v hz,hval]
 have hlm:(L.take m).length=m:=by rw[Zp];omega
 have hLm:∀y∈L.take m,y < 4294967296:=fun y hy=>hL y (List.mem_of_mem_take hy)
 have hlast:(L.take m).getLast?≠some 0:=by
  rw[List.getLast?_eq_getElem?,hlm];by_cases h0:m=0
  ·subst h0;simp
  ·rw[ZE,if_pos (by omega)];exact hn0 h0
 have r3:RdS H3 ((L.take m).map u32V) a c:=by rw[List.map_take];exact r2.take m
 generalize L.take m=M0 at hvm hlm hLm hlast r3;subst hlm
 skip
 refine(zu9 r3 (by omega) hx13.wf).mono ?_;rintro v H4 ⟨b,c2,ho,rfl,hx4⟩;have hx14:=hx13.trans hx4;by_cases h0:M0.length=0
 ·have hM:M0=[]:=List.length_eq_zero_iff.1 h0;subst hM
  repeat' (first|refine qZa ?_|(refine qZf ?_;try simp only[z06,z01])|(refine qZb ?_;simp (config:=qZc) (disch:=first|omega|rfl) only[sB,Za,reduceCtorEq,z68,z0y])|(refine qZd ?_ ?_;simp (config:=qZc) (disch:=first|omega|rfl) only[sB,Za,reduceCtorEq];refine z05 ?_))
  refine z1c rfl (by simp only[sB,Za,reduceCtorEq];rfl) (by simp only[sG,Za,reduceCtorEq]) ⟨⟨_,rfl,?_⟩,hx0.trans hx14⟩;rw[<-hvm];rfl
 ·have hnz:=zha (B:=4294967296) (by omega) (fun h=>h0 (by rw[h];rfl)) hlast;rw[hvm] at hnz
  repeat' (first|refine qZa ?_|refine qZg ?_|(refine qZe ?_;try simp only[z00])|(refine qZb ?_;simp (config:=qZc) (disch:=first|omega|rfl) only[sB,Za,reduceCtorEq,z68,z0t])|(refine qZm ?_ ?_;simp (config:=qZc) (disch:=first|omega|rfl) only[sB,Za,reduceCtorEq];refine z05 ?_))
  refine qZk (fun k st=>∃tm M od v6 v7 Hc,st=⟨tm,[],Hc⟩/\k=valB 4294967296 M/\(∀y∈M,y < 4294967296)/\M.length<=4096/\M.getLast?≠some 0/\decR n=od++decR (valB 4294967296 M)/\(M≠[]->valB 4294967296 M*10 ^ od.length<=n)/\od.length<=4096 /\
    (∀y∈od,y < 10)/\HX H3 Hc/\RepO Hc 214 1 H3.next (M.map fun x=>[u32V x]) v6/\RepO Hc 5 1 H3.next (od.map fun x=>[u8V (48+x)]) v7/\tm.get 1=some (.int .i64 10)/\tm.get 2=some (.pointer (some ⟨H.next,0,none⟩))/\tm.get 6=some v6/\tm.get 7=some v7) ?_ (valB 4294967296 M0) _ ?_
  ·rintro k st ⟨tm,M,od,v6,v7,Hc,rfl,rfl,hMb,hMl,hMn,hdec,hle,hol,hod,hxc,hr6,hr7,g1,g2,g6,g7⟩;by_cases hM0:M=[]
   ·subst hM0;obtain⟨a6,c6,rfl,-,-⟩:=hr6.slice;rw[Zt] at g6;have hlbc:=hxc.load hx13.wf hlb2;have hdec':decR n=od:=by rw[hdec];simp [valB,zlc]
    repeat' (first|refine qZa ?_|(refine qZi ?_;try simp only[sB])|(refine qZb ?_;simp (config:=qZc) (disch:=first|omega|rfl) only[sB,Za,z68,zru,ld4,g2,g6,hlbc,decide_eq_false])|(refine qZm ?_ ?_;simp (config:=qZc) (disch:=first|omega|rfl) only[sB,Za];refine z05 ?_))
    refine EvC.join (fun st=>∃tm o v Hd,st=⟨tm,[],Hd⟩/\o=(od.map fun x=>48+x)++(if neg then [45] else [])/\HX H3 Hd/\RepO Hd 5 1 H3.next (o.map fun x=>[u8V x]) v/\tm.get 7=some v) ?_ ?_
    ·cases neg with
     |true =>
      obtain⟨H5,v5,hap,hr7b,-,hx5,-⟩:=hr7.push zu2 (y:=[u8V 45]) rfl rfl (by simp [most];omega) hxc.next;have h45:u8V 45=.int .u8 45:=rfl;rw[h45] at hap;refine qZd (by simp only[sB,Za]) ?_
      repeat' (first|(refine qZb ?_;simp (config:=qZc) (disch:=first|omega|rfl) only[sB,Za,Value.cells,one,layC,zl8,g7,hap]))
      refine⟨_,_,_,_,rfl,rfl,hx5 _ hxc (Zf _),?_,(by simp only[sB,Za];rfl)⟩
      first|(rw[ZB,List.map_map];exact hr7b)|(simp only[if_true,ZB,List.map_map];exact hr7b)
     |false =>
      refine qZm (by simp only[sB,Za]) ?_
      repeat' (first|(refine qZe ?_;try simp only[sB,reduceCtorEq]))
      exact⟨_,_,_,_,rfl,rfl,hxc,by first|(rw[List.append_nil,List.map_map];exact hr7)|(simp only[Ze,if_false,List.append_nil,List.map_map];exact hr7),(by simp only[sG,Za,g7])⟩
    clear g1 g2 g6 g7 hr7 hr6 hxc hlbc tm;rintro st ⟨tm,o,v,Hd,rfl,ho',hxc,hr7,g7⟩;have hob:∀y∈o,y < 256:=by
     intro y hy;rw[ho'] at hy;rcases List.mem_append.1 hy with h|h
     ·obtain⟨x,hx,rfl⟩:=List.mem_map.1 h;have:=hod x hx;omega
     ·cases neg<;>simp at h
      omega
    have hon:0 < o.length:=by
     have:od≠[]:=by rw[<-hdec',zh7 hnz];simp
     rw[ho',Zy,Zt];have:=List.length_pos_iff.2 this;omega
    have hol2:o.length<=4097:=by
     rw[ho',Zy,Zt];cases neg<;>simp<;>omega
    have htx:textD neg n=o.reverse:=by
     unfold textD;rw[if_neg hnz,hdec',ho']
    obtain⟨b7,c7,ho7,rfl⟩:=hr7.own (by intro h;rw[List.map_eq_nil_iff] at h;rw[h] at hon;simp at hon);rw[Zt] at g7
    repeat' (first|refine qZa ?_|refine qZg ?_|(refine qZb ?_;simp (config:=qZc) (disch:=first|omega|rfl) only[sB,Za,zvu,g7,z0d]))
    refine qZk (fun k st=>∃(tm:Tr Value) (S:List Nat) (i:Nat) (He:Heap),st=⟨tm,[],He⟩/\k=o.length - i/\2*i<=o.length/\S.length=o.length/\(∀j,j < o.length->S[j]?=if j < i\/o.length - i<=j then o[o.length - 1 - j]? else o[j]?)/\HX H3 He /\
     OwnS He 5 1 H3.next (S.map fun x=>[u8V x]) b7 c7/\tm.get 7=some (.slice (some ⟨b7,0,none⟩) o.length c7)/\tm.get 10=some (.int .i64 (i:Nat))/\tm.get 11=some (.int .i64 ((o.length:Int) - 1 - (i:Int)))) ?_ o.length _ ?_
    ·clear g7 ho7 hr7 hxc tm;rintro k0 st ⟨tm,S,i,He,rfl,hk0,hi2,hSl,hS,hxc,ho7,g7,g10,g11⟩;by_cases hlt:2*i+1 < o.length
     ·obtain⟨k,hk⟩:∃k,k=o.length - 1 - i:=⟨_,rfl⟩
      have e1:((o.length:Int) - 1 - (i:Int))=(k:Int):=by omega
      rw[e1] at g11;have hxi:S[i]?=some S[i]:=Zc (by omega);have hxk:S[k]?=some S[k]:=Zc (by omega);generalize S[i]=x at hxi;generalize S[k]=y at hxk;have hldi:=ho7.load (i:=i) (x:=[u8V x]) (by rw[Zv,hxi];rfl);have hldk:=ho7.load (i:=k) (x:=[u8V y]) (by rw[Zv,hxk];rfl);rw[Nat.mul_one] at hldi hldk;unfold u8V at hldi hldk;obtain⟨cs,hgb,hcl,_⟩:=ho7.row;rw[Zt,hSl,Nat.mul_one] at hcl;have hk1:i+1<=cs.length:=by omega
      have hk2:k+1<=(Hb.splice cs i [Value.int .u8 (y:Int)]).length:=by rw[z28 (by simp;omega)];omega
      repeat' (first|refine qZa ?_|refine qZg ?_|(refine qZe ?_;try simp only[z00])|(refine qZb ?_;simp (config:=qZc) (disch:=first|omega|rfl) only[sB,Za,g10,g11,decide_eq_true,z0d])|(refine qZj [([(0,0),(1,0),(4,0),(5,0),(6,0),(7,0),(8,0),(9,0),(10,0),(11,0),(12,0)],some 13),([(2,0),(3,0),(14,1)],some 15),([],none)] ?_ ?_;kernel_rfl;simp (config:=qZc) (disch:=first|omega|rfl) only[sD,sB,Za,Zb,one,reduceCtorEq,zvv,ld5,st5,g7,g10,g11,hldi,hldk,hgb,hk1,hk2,isAlloc,isRead])|(refine qZd ?_ ?_;simp (config:=qZc) (disch:=first|omega|rfl) only[sB,Za];refine z05 ?_))
      have hb1:OwnS (⟨He.next+16,He.t⟩:Heap) 5 1 H3.next (S.map fun x=>[u8V x]) b7 c7:=ho7.heap rfl (Nat.le_add_right _ _);have hb2:=hb1.set (cs:=cs) hgb (i:=i) (y:=[u8V y]) (by simp;omega) rfl rfl;have hb3:=hb2.set z8i (i:=k) (y:=[u8V x]) (by simp;omega) rfl rfl;rw[Nat.mul_one,Nat.mul_one] at hb3;have hoi:o[i]?=some x:=by rw[<-hxi,hS i (by omega),if_neg (by omega)]
      have hok:o[k]?=some y:=by rw[<-hxk,hS k (by omega),if_neg (by omega)]
      have hmap:(((S.map fun x=>[u8V x]).set i [u8V y]).set k [u8V x])=((S.set i y).set k x).map fun x=>[u8V x]:=by simp [List.map_set]
      rw[hmap] at hb3;refine⟨o.length - (i+1),by omega,_,(S.set i y).set k x,i+1,_,rfl,rfl,by omega,by simp [hSl],fun j hj=>?_,((hxc.bump 16).put (i:=b7) ho7.lo (Zh ho7.hi (Nat.le_add_right _ _)) _).put (i:=b7) ho7.lo (Zh ho7.hi (Nat.le_add_right _ _)) _,hb3,(by simp only[sG,Za,g7]),(by simp only[sB,Za];rfl),by simp only[sB,Za];first|done|(congr 1;omega)⟩;by_cases hjk:j=k
      ·rw[hjk,List.getElem?_set_self (by simp;omega),if_pos (by omega),<-hoi]
       first|done|(congr 1;done)|(congr 1;omega)
      ·rw[List.getElem?_set_ne (by omega)];by_cases hji:j=i
       ·rw[hji,List.getElem?_set_self (by omega),if_pos (by omega),<-hok]
        first|done|(congr 1;done)|(congr 1;omega)
       ·rw[List.getElem?_set_ne (by omega),hS j hj];by_cases hc:j < i\/o.length - i<=j
        ·rw[if_pos hc,if_pos (by omega)]
        ·rw[if_neg hc,if_neg (by omega)]
     ·have hrev:S=o.reverse:=by
       apply ZN;intro j;by_cases hj:j < o.length
       ·rw[hS j hj,List.getElem?_reverse hj];split
        ·rfl
        ·congr 1;omega
       ·rw[ZA (by omega),ZA (by simp;omega)]
      have hrd:RdS He (S.map u8V) (some ⟨b7,0,none⟩) c7:=OwnS.rds (by rw[List.map_map];exact ho7);obtain⟨b8,o8,h8,hload⟩:=hrd.all (by intro h;rw[List.map_eq_nil_iff] at h;rw[h] at hSl;simp at hSl;omega);cases h8;rw[Zt,hSl] at hload;obtain⟨t,hdb,ht⟩:=zix (c:=c7) (l:=S) hload (by omega);have hcon:=ziw (P:=Tryd.prog) (src:=219) (dst:=9) (e:=5) (by kernel_rfl) (by kernel_rfl) (by kernel_rfl) hdb
      repeat' (first|refine qZa ?_|(refine qZi ?_;try simp only[sB])|(refine qZf ?_)|(refine qZb ?_;simp (config:=qZc) (disch:=first|omega|rfl) only[sB,Za,g7,g10,g11,hcon,decide_eq_false])|(refine qZm ?_ ?_;simp (config:=qZc) (disch:=first|omega|rfl) only[sB,Za];refine z05 ?_))
      refine z1c rfl (by simp only[sG,Za]) (by simp only[sG,Za]) ⟨⟨t,rfl,?_⟩,(hx0.trans hx13).trans hxc⟩;unfold bl;rw[ht,List.map_map,htx,<-hrev];have:∀l:List Nat,(∀y∈l,y < 256)->l.map (UInt8.toNat ∘ UInt8.ofNat)=l:=by
       intro l hl
       conv=>rhs;rw[<-List.map_id l]
       apply List.map_congr_left;intro y hy;have:=hl y hy;simp [UInt8.toNat_ofNat];omega
      exact this S fun y hy=>hob y (by rw[hrev] at hy;exact List.mem_reverse.1 hy)
    ·refine⟨_,o,0,_,rfl,rfl,by omega,rfl,fun j hj=>?_,hxc,ho7,(by simp only[sG,Za,g7]),(by simp only[sB,Za];rfl),by simp only[sB,Za];congr 1;omega⟩;rw[if_neg (by omega)]
   ·have hM1:0 < M.length:=List.length_pos_iff.2 hM0;have hvM:=zha (B:=4294967296) (by omega) hM0 hMn;obtain⟨b6,c6,ho6,rfl⟩:=hr6.own (by simpa using hM0);rw[Zt] at g6
    repeat' (first|refine qZa ?_|refine qZg ?_|(refine qZe ?_;try simp only[z00])|(refine qZb ?_;simp (config:=qZc) (disch:=first|omega|rfl) only[sB,Za,z68,g6,decide_eq_true,z0d])|(refine qZd ?_ ?_;simp (config:=qZc) (disch:=first|omega|rfl) only[sB,Za];refine z05 ?_))
    refine qZk (fun k st=>∃tm q r Hd,st=⟨tm,[],Hd⟩/\k<=M.length/\q.length=M.length - k/\(∀y∈q,y < 4294967296)/\r < 10/\valB 4294967296 (M.take k)+4294967296 ^ k*(10*valB 4294967296 q+r)=valB 4294967296 M/\HX H3 Hd /\
     OwnS Hd 214 1 H3.next ((M.take k++q).map fun x=>[u32V x]) b6 c6/\RepO Hd 5 1 H3.next (od.map fun x=>[u8V (48+x)]) v7/\tm.get 1=some (.int .i64 10)/\tm.get 2=some (.pointer (some ⟨H.next,0,none⟩)) /\
     tm.get 6=some (.slice (some ⟨b6,0,none⟩) M.length c6)/\tm.get 7=some v7/\tm.get 8=some (.int .u32 (r:Nat))/\tm.get 9=some (.int .i64 ((k:Int) - 1))) ?_ M.length _ ?_
    ·clear g1 g2 g6 g7 hxc hr6 hr7 ho6 tm;rintro k st ⟨tm,q,r,Hd,rfl,hk,hq,hqb,hr,hinv,hxc,ho6,hr7,g1,g2,g6,g7,g8,g9⟩;cases k with
     |zero =>
      rw[List.take_zero,List.nil_append] at ho6;simp only[List.take_zero,valB,Nat.pow_zero,Nat.one_mul,ZF] at hinv;have hqM:q.length=M.length:=by omega
      repeat' (first|refine qZa ?_|(refine qZi ?_;try simp only[sB,Za,reduceCtorEq])|(refine qZb ?_;simp (config:=qZc) (disch:=first|omega|rfl) only[sB,Za,zoa,g6,g9,decide_eq_false])|(refine qZm ?_ ?_;simp (config:=qZc) (disch:=first|omega|rfl) only[sB,Za];refine z05 ?_))
      have hrq:RdS Hd (q.map u32V) (some ⟨b6,0,none⟩) c6:=OwnS.rds (by rw[List.map_map];exact ho6);rw[<-hqM];refine(zbs (fun _ _=>rfl) (by decide) hrq).mono ?_;rintro v H' ⟨m,rfl,hm,hz,hn0,rfl⟩;have hmost:od.length+1<=most:=by
       have:=zag (e:=mostBits) hvM (hle hM0) (by rw[<-zdj];exact hn);simp [mostBits] at this;simp [most];omega
      obtain⟨H5,v5,hap,hr7b,hn5,hx5,hk5⟩:=hr7.push zu2 (y:=[u8V (48+r)]) rfl rfl (by simpa using hmost) hxc.next;unfold u8V at hap
      repeat' (first|(refine qZb ?_;simp (config:=qZc) (disch:=first|omega|rfl) only[sB,Za,g7,g8]))
      rw[z3b us9 (show r < _ from by show _ < 36;omega),zs0 (by decide) hr]
      repeat' (first|(refine z0n ?_;simp (config:=qZc) (disch:=first|omega|rfl) only[sB,Za,Value.cells,one,layC,zl8,hap]))
      have hvq:valB 4294967296 (q.take m)=valB 4294967296 q:=z8v hz;have hq10:valB 4294967296 q=valB 4294967296 M / 10:=by omega
      have hr10:r=valB 4294967296 M % 10:=by omega
      have hod2:((od++[r]).map fun x=>[u8V (48+x)])=(od.map fun x=>[u8V (48+x)])++[[u8V (48+r)]]:=by simp
      have ho7:RepO H5 214 1 H3.next ((q.take m).map fun x=>[u32V x]) (.slice (some ⟨b6,0,none⟩) m c6):=by
       have h1:=RepO.takeO ho6 m (by simpa using hm);rw[<-List.map_take] at h1;exact h1.beside hk5 (by omega) (by decide)
      refine⟨valB 4294967296 (q.take m),by rw[hvq];omega,_,q.take m,od++[r],_,_,_,rfl,rfl,fun y hy=>hqb y (List.mem_of_mem_take hy),by rw[Zp];omega,?_,?_,?_,?_,?_,hx5 _ hxc (Zf _),ho7,by rw[hod2];exact hr7b,(by simp only[sG,Za,g1]),(by simp only[sG,Za,g2]),(by simp only[sG,Za]),(by simp only[sG,Za])⟩
      ·rw[List.getLast?_eq_getElem?,Zp,Nat.min_eq_left hm];by_cases h0:m=0
       ·subst h0;simp
       ·rw[ZE,if_pos (by omega)];exact hn0 h0
      ·rw[hdec,zh7 hvM,hvq,hq10,<-hr10];simp
      ·intro _;rw[hvq,Zy,List.length_singleton,Nat.pow_succ];have h1:=hle hM0;have h2:valB 4294967296 q*(10 ^ od.length*10)=(valB 4294967296 q*10)*10 ^ od.length:=by rw[Nat.mul_comm (10 ^ od.length) 10,Nat.mul_assoc]
       rw[h2];exact Zk (Nat.mul_le_mul_right _ (by omega)) h1
      ·have:=zag (e:=mostBits) hvM (hle hM0) (by rw[<-zdj];exact hn);simp [mostBits] at this;simp;omega
      ·intro y hy;rcases List.mem_append.1 hy with h|h
       ·exact hod y h
       ·simp at h;omega
     |succ j =>
      have e0:(((j+1:Nat):Int) - 1)=(j:Int):=by omega
      rw[e0] at g9;have hx:M[j]?=some M[j]:=Zc (by omega);have hxb:M[j] < 4294967296:=hMb _ (Zz _);have htk:M.take (j+1)=M.take j++[M[j]]:=by rw[List.take_add_one,hx];rfl
      generalize M[j]=x at hx hxb htk;rw[htk] at hinv ho6;have hlj:(M.take j).length=j:=by rw[Zp];omega
      have hlm:(((M.take j++[x])++q).map fun x=>[u32V x]).length=M.length:=by simp;omega
      have hld:=ho6.load (i:=j) (x:=[u32V x]) (by rw[List.append_assoc,Zv,List.getElem?_append_right (by omega),hlj];simp);rw[Nat.mul_one] at hld;unfold u32V at hld
      repeat' (first|refine qZa ?_|refine qZg ?_|(refine qZe ?_;try simp only[z00])|(refine qZb ?_;simp (config:=qZc) (disch:=first|omega|rfl) only[sB,Za,ziz,zl6,zrt,zvt,g1,g6,g8,g9,hld,decide_eq_true,wrap_u32])|(refine qZd ?_ ?_;simp (config:=qZc) (disch:=first|omega|rfl) only[sB,Za];refine z05 ?_))
      refine(zoe (fun _ _=>rfl) (by decide) hr hxb hxc.wf).mono ?_;rintro v H' ⟨rfl,hxd⟩;have ho6':=ho6.keep hxd;have hr7':=hr7.keep hxd;obtain⟨cs,hgb,hcl,_⟩:=ho6'.row;rw[hlm,Nat.mul_one] at hcl;have hk1:j+1<=cs.length:=by omega
      repeat' (first|(refine qZb ?_;simp (config:=qZc) (disch:=first|omega|rfl) only[sB,Za,g9,z0d])|(refine z0n ?_;simp (config:=qZc) (disch:=first|omega|rfl) only[sB,Za,one,ziz,ztz,hgb,hk1]))
      have hset:=ho6'.set hgb (i:=j) (y:=[u32V ((r*4294967296+x) / 10)]) (by rw[hlm];omega) rfl rfl;rw[Nat.mul_one] at hset;have hset2:(((M.take j++[x])++q).map fun x=>[u32V x]).set j [u32V ((r*4294967296+x) / 10)]=(M.take j++((r*4294967296+x) / 10 :: q)).map fun x=>[u32V x]:=by
       rw[List.append_assoc,ZB,List.set_append_right _ _ (by rw[Zt,hlj];exact Zf _),Zt,hlj,Nat.sub_self];simp
      rw[hset2] at hset;have hinv2:=zrx (B:=4294967296) (x:=x) (r:=r) (low:=M.take j) (q:=q);rw[hlj] at hinv2;refine⟨j,by omega,_,(r*4294967296+x) / 10 :: q,(r*4294967296+x) % 10,_,rfl,by omega,by simp;omega,?_,by omega,by rw[<-hinv2];exact hinv,(hxc.trans hxd).put ho6'.lo ho6'.hi _,hset,hr7'.other hgb (by decide) _,(by simp only[sG,Za,g1]),(by simp only[sG,Za,g2]),(by simp only[sG,Za,g6]),(by simp only[sG,Za,g7]),(by simp only[sG,Za]),(by simp only[sG,Za])⟩;intro y hy;rcases List.mem_cons.1 hy with h|h
      ·rw[h];exact zob hxb hr
      ·exact hqb y h
    ·exact⟨_,[],0,_,rfl,Zf _,by simp,by simp,by omega,by simp [valB],hxc,by simpa using ho6,hr7,(by simp only[sG,Za,g1]),(by simp only[sG,Za,g2]),(by simp only[sG,Za,g6]),(by simp only[sG,Za,g7]),(by simp only[sB,Za];rfl),(by simp only[sG,Za])⟩
  ·exact⟨_,M0,[],.slice (some ⟨b,0,none⟩) M0.length c2,_,_,rfl,rfl,hLm,by omega,hlast,by rw[hvm];rfl,fun _=>by rw[hvm];simp,by simp,by simp,hx4,.inr ⟨b,c2,ho,by simp⟩,RepO.empty,(by simp only[sG,Za,reduceCtorEq]),(by simp only[sG,Za,reduceCtorEq]),(by simp only[sG,Za,reduceCtorEq]),(by simp only[sG,Za,reduceCtorEq])⟩
def bitsOK (L:List Nat):Prop:=(∀y∈L,y < 2)/\L.getLast?≠some 0
end Go.Proofs.hq
end

section
namespace Go.Proofs.hq
open Go Go.RowKit Go.Hb
theorem zqj:callable Tryd.prog 97=true:=by kernel_rfl
theorem zbt:isAgg? Tryd.prog 26=some true:=by kernel_rfl
theorem zog:isAgg? Tryd.prog 22=some false:=by kernel_rfl
theorem z49:Tryd.prog.cellsOf 26=6:=by kernel_rfl
theorem zhb:(Tryd.prog.info? 26).isSome=true:=by kernel_rfl
theorem z8w:fldOf Tryd.prog 26 5=some (5,22):=by kernel_rfl
theorem zlg:Zu (Tryd.prog.cellsOf 22) 0=false:=by kernel_rfl
theorem zqk:zerosOf Tryd.prog 26=some [.int .i64 0,.string Zd,.string Zd,.int .u64 0,.int .i64 0,.slice none 0 0]:=by kernel_rfl
mutual
def cnt:Tm->Nat->Nat
 |.mk _ _ _ _ _ l,n=>cntL l (n+1)
def cntL:List Tm->Nat->Nat
 |[],n=>n
 |t :: l,n=>if 4000 < n then n else cntL l (cnt t n)
end
theorem zhc {t:Tm}{k:Int}{s u:ByteArray}{b v:Int}{l:List Tm}(h:t∈l):SizeOf.sizeOf t < SizeOf.sizeOf (Tm.mk k s u b v l):=by
 have:=List.sizeOf_lt_of_mem h;simp;omega
theorem z23 {t u:Tm}{i:Nat}(h:t.args[i]?=some u):SizeOf.sizeOf u < SizeOf.sizeOf t:=by
 obtain⟨k,s,w,b,v,l⟩:=t;exact zhc (Zr h)
theorem z56 (t:Tm) (n:Nat):cnt t n=cntL t.args (n+1):=by
 obtain⟨k,s,w,b,v,l⟩:=t;rw[cnt];rfl
theorem zlh:∀(l:List Tm),(∀t∈l,∀n,n<=4000->cnt t n<=4001)->∀n,n<=4001->cntL l n<=4001
 |[],_,n,h=>by rw[cntL];exact h
 |t :: l,ht,n,h=>by
  rw[cntL];split
  ·exact h
  ·exact zlh l (fun u hu=>ht u (Zm _ hu)) _ (ht t (by simp) n (by omega))
theorem zhd:∀(m:Nat) (t:Tm),SizeOf.sizeOf t < m->∀n,n<=4000->cnt t n<=4001
 |0,t,h,_,_=>by omega
 |m+1,t,h,n,hn=>by
  rw[z56];refine zlh _ (fun u hu k hk=>zhd m u ?_ k hk) _ (by omega);obtain⟨i,hi,e⟩:=ZK hu;have:=z23 (t:=t) (u:=u) (i:=i) (by rw[Zc hi,e]);omega
theorem zli {l:List Tm}{i:Nat}{t:Tm}(h:l[i]?=some t) (n:Nat) (hn:n<=4000):cntL (l.drop i) n=cntL (l.drop (i+1)) (cnt t n):=by
 have hlt:=(List.getElem?_eq_some_iff.1 h).1;have he:l[i]=t:=(List.getElem?_eq_some_iff.1 h).2;rw[ZI hlt,cntL,if_neg (by omega),he]
theorem zlj {l:List Tm}{n:Nat}(hn:4000 < n):cntL l n=n:=by
 cases l with
 |nil=>rw[cntL]
 |cons t l=>rw[cntL,if_pos hn]
variable {ok:Ok}
set_option maxRecDepth 10000 in
theorem zoh (hk:∀args H,ok.K 97 args H=none) (hm:ok.testBit 97=true):∀(m:Nat) {t:Tm}{cs:List Value}{H:Heap},SizeOf.sizeOf t < m->RepT H t cs->H.wf->∀n:Nat,n<=4000 ->
  EvF Tryd.prog ok 97 [.agg ⟨cs⟩,.int .i64 n] H fun v H'=>v=.int .i64 (cnt t n)/\HX H H':=by
 intro m
 induction m with
 |zero=>intro t cs H h;omega
 |succ m ih =>
 intro t cs H hsz r hw n hn;obtain⟨a,c,cells,rfl,b1,b2,b3,b4,b5,rl⟩:=r.inv;refine EvF.enter (hk _ _) Tryd.func97 hm rfl ?_;refine qZa (qZb ?_);simp (disch:=omega) only[sB,initTm,dBox,Value.cells,one,reduceCtorEq];refine qZa (qZb ?_);simp (disch:=omega) only[sB,Za,reduceCtorEq,z0d];refine qZa (qZa (qZb ?_));simp (disch:=omega) only[sB,Za,reduceCtorEq,cutC,z02 z8w zlg,z0a zog,z15 Tryd.underlying22];refine qZg (qZk (fun k st=>∃tm H' i n',st=⟨tm,[],H'⟩/\k=t.args.length - i/\i<=t.args.length/\n'<=4001/\cntL (t.args.drop i) n'=cnt t n/\tm.get 1=some (.int .i64 (n':Nat)) /\
  tm.get 10=some (.slice a t.args.length c)/\tm.get 11=some (.int .i64 t.args.length)/\tm.get 12=some (.int .i64 (i:Nat))/\HX H H') ?_ t.args.length _ ?_)
 ·rintro k st ⟨tm,H',i,n',rfl,hk',hi,hn',hc,g1,g10,g11,g12,hx⟩;refine qZa (qZb ?_);simp (disch:=omega) only[sA,g11,g12];refine qZa ?_;by_cases hlt:i < t.args.length
  ·refine qZd (by simp only[sB];exact congrArg _ (decide_eq_true (by omega))) (qZe ?_);obtain⟨b,o,rfl,hload,hrep⟩:=rl.at (i:=i) (Zc hlt);obtain⟨a',c',cells',hcell,-⟩:=hrep.inv;have hld:=hx.load hw hload;rw[hcell] at hld hrep;refine qZa (qZg (qZa (qZb ?_)));simp (disch:=omega) only[sB,dAlloc,Za,Zb,one,g10,g12,z2y Tryd.underlying22 zhb hlt,z20 zbt,z49,hld,zqk,z6y zhb];refine qZa (qZa (qZb ?_));simp (disch:=omega) only[sB,Za,g1];have hx2:=(hx.new (some (Blk.row [Value.int IntKind.i64 0,Value.string Zd,Value.string Zd,Value.int IntKind.u64 0,Value.int IntKind.i64 0,Value.slice none 0 0] 26))).put (i:=H'.next) hx.next (Zg _)
    (some (.row [Value.int IntKind.i64 t.args[i].kind,Value.string t.args[i].name,Value.string t.args[i].num,Value.int IntKind.u64 t.args[i].bits,Value.int IntKind.i64 t.args[i].var,Value.slice a' t.args[i].args.length c'] 26))
   by_cases hov:4000 < n'
   ·refine qZd (by simp only[sB,Za];exact congrArg _ (decide_eq_true (by omega))) (qZi ?_);simp only[z50,z3h,reduceIte,Za,z00];refine qZa (qZb ?_);simp (disch:=omega) only[sB,Za,g1];refine qZf (z04 rfl (by simp only[sG,Za];rfl) ⟨?_,hx2⟩);rw[<-hc,zlj hov]
   ·refine qZm (by simp only[sB,Za];exact congrArg _ (decide_eq_false (by omega))) (qZe ?_);simp only[z00];refine qZb ?_;simp (disch:=omega) only[sB,Za,Zb,cutC,g1,z20 zbt,z49,z09 zqj];have ht:t.args[i]?=some t.args[i]:=Zc hlt;have hs:=z23 ht;have hx1:HX H H':=hx;refine(ih (t:=t.args[i]) (by omega) (hrep.mono hx2 hw) hx2.wf n' (by omega)).mono ?_;rintro v H2 ⟨rfl,hx3⟩;have hL:t.args.length<=9223372036854775807:=Zk rl.len rl.cap;refine qZb ?_;simp (disch:=omega) only[sB,Za,g12,z0d];refine⟨t.args.length - (i+1),by omega,_,_,i+1,cnt t.args[i] n',rfl,rfl,by omega,zhd _ _ (Zg _) _ (by omega),by rw[<-hc,zli ht _ (by omega)],by simp only[sG,Za],by simp only[sG,Za];exact g10,by simp only[sG,Za];exact g11,by simp only[sG,Za];rfl,hx2.trans hx3⟩
  ·refine qZm (by simp only[sB];exact congrArg _ (decide_eq_false (by omega))) (qZi ?_);simp only[z50,z3h,reduceIte,Za,z00];refine qZa (qZb ?_);simp (disch:=omega) only[sB,Za,g1];refine qZf (z04 rfl (by simp only[sG,Za];rfl) ⟨?_,hx⟩);rw[<-hc,List.drop_of_length_le (by omega),cntL]
 ·exact⟨_,_,0,n+1,rfl,rfl,by omega,by omega,by rw[z56];rfl,by simp only[sG,Za,reduceCtorEq];rfl,by simp only[sG,Za,reduceCtorEq],by simp only[sG,Za,reduceCtorEq],by simp only[sG,Za,reduceCtorEq];rfl,(HX.refl hw).new _⟩
end Go.Proofs.hq
end

section
namespace Go.Proofs.hq
open Go Go.RowKit Go.Hb
theorem zua:callable Tryd.prog 75=true:=by kernel_rfl
variable {ok:Ok}
theorem zoi (hk:∀f args H,(f=97\/f=75)->ok.K f args H=none) (hm:ok.testBit 97=true) (hm2:ok.testBit 75=true) {t:Tm}{cs:List Value}{H:Heap}(r:RepT H t cs) (hw:H.wf) :
  EvF Tryd.prog ok 75 [.agg ⟨cs⟩] H fun v H'=>v=.int .i64 (cnt t 0)/\HX H H':=by
 obtain⟨a,c,cells,rfl,b1,b2,b3,b4,b5,rl⟩:=r.inv;refine EvF.enter (hk _ _ _ (.inr rfl)) Tryd.func75 hm2 rfl ?_;(repeat refine qZa ?_);refine qZb ?_;simp (disch:=omega) only[sB,initTm,dBox,Value.cells,one];(repeat refine qZa ?_);refine qZb ?_;simp (disch:=omega) only[sB,Za,Zb,reduceCtorEq,cutC,z20 zbt,z49,z09 zqj];have hx:=(HX.refl hw).new (some (Blk.row [Value.int IntKind.i64 t.kind,Value.string t.name,Value.string t.num,Value.int IntKind.u64 t.bits,Value.int IntKind.i64 t.var,Value.slice a t.args.length c] 26));refine(zoh (hk 97 · · (.inl rfl)) hm _ (Zg _) (r.mono hx hw) hx.wf 0 (by omega)).mono ?_;rintro v H2 ⟨rfl,hx3⟩;have hle:=zhd _ t (Zg _) 0 (by omega);have hif:(if (4001:Int) < (cnt t 0:Int) then (4001:Int) else (cnt t 0:Int))=(cnt t 0:Int):=if_neg (by omega);simp (disch:=omega) only[sB,Za,reduceCtorEq,zrh,zri,hif];exact qZf (z04 rfl (by simp only[sG,Za,reduceCtorEq]) ⟨rfl,hx.trans hx3⟩)
end Go.Proofs.hq
end

section
namespace Go.Proofs.hq
open Go Go.RowKit Go.Hb
theorem z3l:fldOf Tryd.prog 26 0=some (0,3):=by kernel_rfl
theorem z3m:fldOf Tryd.prog 26 1=some (1,9):=by kernel_rfl
theorem z72:fldOf Tryd.prog 26 2=some (2,9):=by kernel_rfl
theorem z5p:fldOf Tryd.prog 26 3=some (3,24):=by kernel_rfl
theorem z8x:fldOf Tryd.prog 26 4=some (4,3):=by kernel_rfl
theorem one3:Zu (Tryd.prog.cellsOf 3) 0=false:=by kernel_rfl
theorem one9:Zu (Tryd.prog.cellsOf 9) 0=false:=by kernel_rfl
theorem zfh:Zu (Tryd.prog.cellsOf 24) 0=false:=by kernel_rfl
theorem z8y:Tryd.prog.cellsOf 3=1:=by kernel_rfl
theorem zhe:Tryd.prog.cellsOf 9=1:=by kernel_rfl
theorem zs2:Tryd.prog.cellsOf 24=1:=by kernel_rfl
theorem zs3:Tryd.prog.cellsOf 22=1:=by kernel_rfl
theorem agg3:isAgg? Tryd.prog 3=some false:=by kernel_rfl
theorem agg9:isAgg? Tryd.prog 9=some false:=by kernel_rfl
theorem zj2:isAgg? Tryd.prog 24=some false:=by kernel_rfl
theorem zvz:(Tryd.prog.info? 3).isSome=true:=by kernel_rfl
theorem zs4:(Tryd.prog.info? 9).isSome=true:=by kernel_rfl
theorem zub:(Tryd.prog.info? 24).isSome=true:=by kernel_rfl
theorem zuc:(Tryd.prog.info? 22).isSome=true:=by kernel_rfl
theorem z1u:ByteArray.toList { data:=#[] }=[]:=by
 rw[ByteArray.toList,ByteArray.toList.loop];rfl
def isE (s:ByteArray):Bool:=s.toList == []
def blankB (t:Tm):Bool :=
 (t.kind == 2 || t.kind == 5 || isE t.name) && (t.kind == 3 || isE t.num) && (t.kind == 4 || t.bits == 0) && (t.kind == 1 || t.var == 0) && (t.kind == 5 || (t.args.length:Int) == 0)
variable {ok:Ok}
set_option maxRecDepth 10000 in
set_option maxHeartbeats 2000000 in
theorem zoj (hk:∀args H,ok.K 118 args H=none) (hm:ok.testBit 118=true) {t:Tm}{cs:List Value}{H:Heap}(r:RepT H t cs) (hw:H.wf) :
  EvF Tryd.prog ok 118 [.agg ⟨cs⟩] H fun v H'=>v=.bool (blankB t)/\HX H H':=by
 obtain⟨a,c,cells,rfl,b1,b2,b3,b4,b5,rl⟩:=r.inv;refine EvF.enter (hk _ _) Tryd.func118 hm rfl ?_;(repeat refine qZa ?_);refine qZb ?_;simp (disch:=omega) only[sB,initTm,dBox,Value.cells,one];(repeat refine qZa ?_);refine qZb ?_;simp (disch:=omega) only[sB,Za,reduceCtorEq,cutC,z02 z3l one3,z0a agg3];refine EvC.meet (fun st=>∃tm H' nm nu b v a n c,st=⟨tm,[],H'⟩/\tm.get 1=some (.pointer (some ⟨H.next,0,none⟩))/\H'.get H.next=some (.row [.int .i64 t.kind,.string nm,.string nu,.int .u64 b,.int .i64 v,.slice a n c] 26) /\
  HX H H'/\(isE nm && isE nu && b == 0 && v == 0 && (n:Int) == 0)=blankB t) ?_ ?_
 ·refine qZg ?_;have hx0:=(HX.refl hw).new (some (Blk.row [Value.int IntKind.i64 t.kind,Value.string t.name,Value.string t.num,Value.int IntKind.u64 t.bits,Value.int IntKind.i64 t.var,Value.slice a t.args.length c] 26));have hxp:∀B,HX H ((H.new (some (Blk.row [Value.int IntKind.i64 t.kind,Value.string t.name,Value.string t.num,Value.int IntKind.u64 t.bits,Value.int IntKind.i64 t.var,Value.slice a t.args.length c] 26))).put H.next B):=fun B=>hx0.put (Zf _) (Zg _) B
  (repeat refine qZa ?_);refine qZb ?_;simp (disch:=omega) only[sB,Za,reduceCtorEq];by_cases k1:t.kind=1
  ·refine qZd (by simp only[sB,Za,reduceCtorEq];rw[k1];rfl) ?_;refine qZb ?_;simp (disch:=omega) only[sB,Za,Zb,one,reduceCtorEq,Zn,z02 z8x one3,z3t zvz z8y];exact⟨_,_,t.name,t.num,t.bits,0,a,t.args.length,c,rfl,by simp only[sG,Za,reduceCtorEq],by simp only[sB],hxp _,by simp [blankB,k1]⟩
  refine qZm (by simp only[sB,Za,reduceCtorEq];rw[show (t.kind == 1)=false by simpa using k1]) ?_;(repeat refine qZa ?_);refine qZb ?_;simp (disch:=omega) only[sB,Za,reduceCtorEq];by_cases k2:t.kind=2
  ·refine qZd (by simp only[sB,Za,reduceCtorEq];rw[k2];rfl) ?_;refine qZb ?_;simp (disch:=omega) only[sB,Za,Zb,one,reduceCtorEq,Zn,z02 z3m one9,z44 zs4 zhe];exact⟨_,_,Zd,t.num,t.bits,t.var,a,t.args.length,c,rfl,by simp only[sG,Za,reduceCtorEq],by simp only[sB];rfl,hxp _,by simp [blankB,k2,isE]⟩
  refine qZm (by simp only[sB,Za,reduceCtorEq];rw[show (t.kind == 2)=false by simpa using k2]) ?_;(repeat refine qZa ?_);refine qZb ?_;simp (disch:=omega) only[sB,Za,reduceCtorEq];by_cases k3:t.kind=3
  ·refine qZd (by simp only[sB,Za,reduceCtorEq];rw[k3];rfl) ?_;refine qZb ?_;simp (disch:=omega) only[sB,Za,Zb,one,reduceCtorEq,Zn,z02 z72 one9,z44 zs4 zhe];exact⟨_,_,t.name,Zd,t.bits,t.var,a,t.args.length,c,rfl,by simp only[sG,Za,reduceCtorEq],by simp only[sB];rfl,hxp _,by simp [blankB,k3,isE]⟩
  refine qZm (by simp only[sB,Za,reduceCtorEq];rw[show (t.kind == 3)=false by simpa using k3]) ?_;(repeat refine qZa ?_);refine qZb ?_;simp (disch:=omega) only[sB,Za,reduceCtorEq];by_cases k4:t.kind=4
  ·refine qZd (by simp only[sB,Za,reduceCtorEq];rw[k4];rfl) ?_;refine qZb ?_;simp (disch:=omega) only[sB,Za,Zb,one,reduceCtorEq,Zn,z02 z5p zfh,z3t zub zs2];exact⟨_,_,t.name,t.num,0,t.var,a,t.args.length,c,rfl,by simp only[sG,Za,reduceCtorEq],by simp only[sB],hxp _,by simp [blankB,k4]⟩
  refine qZm (by simp only[sB,Za,reduceCtorEq];rw[show (t.kind == 4)=false by simpa using k4]) ?_;(repeat refine qZa ?_);refine qZb ?_;simp (disch:=omega) only[sB,Za,reduceCtorEq];by_cases k5:t.kind=5
  ·refine qZd (by simp only[sB,Za,reduceCtorEq];rw[k5];rfl) ?_;refine qZb ?_;simp (disch:=omega) only[sB,Za,Zb,one,reduceCtorEq,Zn,z02 z3m one9,z02 z8w zlg,z44 zs4 zhe,z2u zuc zs3];exact⟨_,_,Zd,t.num,t.bits,t.var,none,0,0,rfl,by simp only[sG,Za,reduceCtorEq],by simp only[sB];rfl,(hxp _).put (Zf _) (Zg _) _,by simp [blankB,k5,isE]⟩
  refine qZm (by simp only[sB,Za,reduceCtorEq];rw[show (t.kind == 5)=false by simpa using k5]) (qZe ?_);exact⟨rfl,_,_,t.name,t.num,t.bits,t.var,a,t.args.length,c,rfl,by simp only[sG,Za,reduceCtorEq],by simp only[if_true,get_new],hx0,by simp [blankB,show (t.kind == 1)=false by simpa using k1,show (t.kind == 2)=false by simpa using k2,show (t.kind == 3)=false by simpa using k3,show (t.kind == 4)=false by simpa using k4,show (t.kind == 5)=false by simpa using k5]⟩
 ·rintro st ⟨tm,H',nm,nu,b,v,a,n,c,rfl,g1,hrow,hx,hres⟩;simp only[z00];have l1:H'.load ⟨H.next,1,none⟩ 1=some [.string nm]:=by simp only[Heap.load,Heap.cells,hrow];rfl
  have l2:H'.load ⟨H.next,2,none⟩ 1=some [.string nu]:=by simp only[Heap.load,Heap.cells,hrow];rfl
  have l3:H'.load ⟨H.next,3,none⟩ 1=some [.int .u64 b]:=by simp only[Heap.load,Heap.cells,hrow];rfl
  have l4:H'.load ⟨H.next,4,none⟩ 1=some [.int .i64 v]:=by simp only[Heap.load,Heap.cells,hrow];rfl
  have l5:H'.load ⟨H.next,5,none⟩ 1=some [.slice a n c]:=by simp only[Heap.load,Heap.cells,hrow];rfl
  (repeat refine qZa ?_);refine qZb ?_;unfold isE at hres;cases h1:(nm.toList == []) with
  |false =>
   simp (disch:=omega) only[sB,Za,z2c,g1,z02 z3m one9,z0a agg9,l1,z1u,h1,Ze];exact qZf (z04 rfl (by simp only[sG,Za];rfl) ⟨by rw[<-hres,h1];rfl,hx⟩)
  |true =>
  cases h2:(nu.toList == []) with
  |false =>
   simp (disch:=omega) only[sB,Za,z2c,g1,z02 z3m one9,z02 z72 one9,z0a agg9,l1,l2,z1u,Ze,h1,h2];exact qZf (z04 rfl (by simp only[sG,Za];rfl) ⟨by rw[<-hres,h1,h2];rfl,hx⟩)
  |true =>
  cases h3:(b == 0) with
  |false =>
   simp (disch:=omega) only[sB,Za,z2c,g1,z02 z3m one9,z02 z72 one9,z02 z5p zfh,z0a agg9,z0a zj2,l1,l2,l3,z1u,Ze,h1,h2,h3];exact qZf (z04 rfl (by simp only[sG,Za];rfl) ⟨by rw[<-hres,h1,h2,h3];rfl,hx⟩)
  |true =>
  cases h4:(v == 0) with
  |false =>
   simp (disch:=omega) only[sB,Za,z2c,g1,z02 z3m one9,z02 z72 one9,z02 z5p zfh,z02 z8x one3,z0a agg9,z0a agg3,z0a zj2,l1,l2,l3,l4,z1u,Ze,h1,h2,h3,h4];exact qZf (z04 rfl (by simp only[sG,Za];rfl) ⟨by rw[<-hres,h1,h2,h3,h4];rfl,hx⟩)
  |true =>
   simp (disch:=omega) only[sB,Za,z2c,g1,z02 z3m one9,z02 z72 one9,z02 z5p zfh,z02 z8x one3,z02 z8w zlg,z0a agg9,z0a agg3,z0a zj2,z0a zog,l1,l2,l3,l4,l5,z1u,z15 Tryd.underlying22,h1,h2,h3,h4];exact qZf (z04 rfl (by simp only[sG,Za];rfl) ⟨by rw[<-hres,h1,h2,h3,h4];rfl,hx⟩)
end Go.Proofs.hq
end

section
namespace Go.Proofs.hq
open Go Go.RowKit Go.Hb
def nodeE (utf num:ByteArray->Bool) (flt:Int->Bool) (t:Tm):Int :=
 if t.kind < 1\/5 < t.kind then 20 else if blankB t=false then 20 else if t.var < 0 then 20 else if t.kind=5/\(t.args.length=0\/64 < t.args.length) then 20
 else if utf t.name=false then 21 else if 1000 < t.name.size then 21 else if t.kind=3/\num t.num=false then 22 else if t.kind=4/\flt t.bits=false then 23 else 0
def bndB (t:Tm):Bool:=decide (t.var < 0) || (t.kind == 5 && ((t.args.length:Int) == 0 || decide ((t.args.length:Int) > 64)))
theorem zdm {utf num:ByteArray->Bool}{flt:Int->Bool}{t:Tm}(h1:¬(t.kind < 1\/5 < t.kind)) (h2:blankB t=true) (h3:bndB t=true):nodeE utf num flt t=20:=by
 rw[nodeE,if_neg h1,if_neg (by rw[h2];simp)];unfold bndB at h3;simp only[Bool.or_eq_true,Zj,beq_iff_eq,decide_eq_true_eq] at h3;by_cases hv:t.var < 0
 ·rw[if_pos hv]
 ·rw[if_neg hv,if_pos];rcases h3 with h|⟨h,h'|h'⟩
  ·exact absurd h hv
  ·exact⟨h,.inl (by omega)⟩
  ·exact⟨h,.inr (by omega)⟩
theorem zj3 {utf num:ByteArray->Bool}{flt:Int->Bool}{t:Tm}(h1:¬(t.kind < 1\/5 < t.kind)) (h2:blankB t=true) (h3:bndB t=false) :
  nodeE utf num flt t=if utf t.name=false then 21 else if 1000 < t.name.size then 21 else if t.kind=3/\num t.num=false then 22 else if t.kind=4/\flt t.bits=false then 23 else 0:=by
 rw[nodeE,if_neg h1,if_neg (by rw[h2];simp)];unfold bndB at h3;simp only[Bool.or_eq_false_iff,Bool.and_eq_false_iff,beq_eq_false_iff_ne,decide_eq_false_iff_not] at h3;rw[if_neg h3.1,if_neg (fun h=>by rcases h3.2 with h'|h'<;>first|exact h' h.1|(have:=h.2;omega))]
theorem zs5:callable Tryd.prog 118=true:=by kernel_rfl
theorem zs6:callable Tryd.prog 72=true:=by kernel_rfl
theorem zs7:callable Tryd.prog 119=true:=by kernel_rfl
def TellsS (ok:Ok) (f:FuncId) (g:ByteArray->Bool):Prop:=∀(s:ByteArray) (H:Heap),s.size<=maxLen->H.wf->EvF Tryd.prog ok f [.string s] H fun v H'=>v=.bool (g s)/\HX H H'
def TellsU (ok:Ok) (f:FuncId) (g:Int->Bool):Prop:=∀(n:Int) (H:Heap),u64 n->H.wf->EvF Tryd.prog ok f [.int .u64 n] H fun v H'=>v=.bool (g n)/\HX H H'
variable {ok:Ok}
end Go.Proofs.hq
end

section
namespace Go.Proofs.hq
open Go Go.RowKit Go.Hb
def rho0 (n:Int):Operand->Value
 |.func f=>.func (.func f) #[] #[]
 |_=>.int .u64 n
theorem zdn (n:Int) (d:Option Tmp) (k:Tmp) (ats:Array TypeId) (ty:TypeId) (pos:String) (af:Array Edge) (g:Option (Nat × Bool)) :
  pureRun Tryd.prog (execOp (rho0 n) ⟨d,.call ⟨.value (.func 120),#[.tmp k],ats⟩,ty,pos,af,g⟩)=some (.value (.float .f64 n.toNat)):=by kernel_rfl
theorem zok (l:List Value):dcall1 Tryd.prog 120 l=none:=by
 unfold dcall1;rw[Tryd.func120];rfl
theorem z7k {d:Option Tmp}{k:Tmp}{ats:Array TypeId}{ty:TypeId}{pos:String}{af:Array Edge}{g:Option (Nat × Bool)}{tm:Tr Value}{H:Heap}{n:Int}(hv:tm.get k=some (.int .u64 n)) :
  dop Tryd.prog ⟨d,.call ⟨.value (.func 120),#[.tmp k],ats⟩,ty,pos,af,g⟩ (ev tm) H=some (.val (.float .f64 n.toNat) H):=by
 have hρ:∀y∈(⟨d,.call ⟨.value (.func 120),#[.tmp k],ats⟩,ty,pos,af,g⟩:Oper).op.operands,ev tm y=rho0 n y:=by
  intro y hy;simp [Op.operands,Call.operands] at hy;rcases hy with rfl|rfl
  ·rfl
  ·show (tm.get k).getD junk=_;rw[hv];rfl
 have e:dop Tryd.prog ⟨d,.call ⟨.value (.func 120),#[.tmp k],ats⟩,ty,pos,af,g⟩ (ev tm) H=dflat Tryd.prog ⟨d,.call ⟨.value (.func 120),#[.tmp k],ats⟩,ty,pos,af,g⟩ (ev tm) H:=by
  simp only[dop,ev,zok]
 have hf:allFlat (ev tm) (⟨d,.call ⟨.value (.func 120),#[.tmp k],ats⟩,ty,pos,af,g⟩:Oper)=true:=by
  unfold allFlat;rw[List.all_eq_true];intro y hy;rw[hρ y (Array.mem_toList_iff.1 hy)];simp [Op.operands,Call.operands] at hy;rcases hy with rfl|rfl<;>rfl
 rw[e];unfold dflat;rw[hf,execOp_congr _ (by intro cs b h;cases h) hρ,zdn];rfl
end Go.Proofs.hq
end

section
namespace Go.Proofs.hq
open Go Go.RowKit Go.Hb
def TellsN (ok:Ok) (f g h:FuncId) (fn fi:Int->Bool):Prop:=∀(n:Int) (H:Heap) , u64 n->H.wf->EvF Tryd.prog ok g [.float .f64 n.toNat] H (fun v H'=>v=.bool (fn n)/\HX H H')/\EvF Tryd.prog ok h [.float .f64 n.toNat,.int .i64 0] H (fun v H'=>v=.bool (fi n)/\HX H H')
theorem zs8:callable Tryd.prog 121=true:=by kernel_rfl
theorem zs9:callable Tryd.prog 122=true:=by kernel_rfl
variable {ok:Ok}
set_option maxRecDepth 10000 in
set_option maxHeartbeats 8000000 in
theorem zsa {utf num:ByteArray->Bool}{fn fi:Int->Bool}(hk:∀args H,ok.K 111 args H=none) (hm:ok.testBit 111=true) (hk2:∀args H,ok.K 118 args H=none) (hm2:ok.testBit 118=true)
  (hU:TellsS ok 72 utf) (hN:TellsS ok 119 num) (hF:TellsN ok 120 121 122 fn fi)
  {t:Tm}{cs:List Value}{H:Heap}(r:RepT H t cs) (hw:H.wf):EvF Tryd.prog ok 111 [.agg ⟨cs⟩] H fun v H'=>v=.int .i64 (nodeE utf num (fun n=>!(fn n || fi n || n == 9223372036854775808)) t)/\HX H H':=by
 have rr:=r;obtain⟨a,c,cells,rfl,b1,b2,b3,b4,b5,rl⟩:=r.inv;have hx:=(HX.refl hw).new (some (Blk.row [Value.int IntKind.i64 t.kind,Value.string t.name,Value.string t.num,Value.int IntKind.u64 t.bits,Value.int IntKind.i64 t.var,Value.slice a t.args.length c] 26));refine EvF.enter (hk _ _) Tryd.func111 hm rfl ?_;(repeat refine qZa ?_);refine qZb ?_;simp (config:=qZc) (disch:=first|omega|rfl) only[sB,initTm,dBox,Value.cells,one];(repeat refine qZa ?_);refine qZg ?_;refine qZa (qZb ?_);by_cases hno:t.kind < 1\/5 < t.kind
 ·have hlt:decide (t.kind < 1)=true\/(decide (t.kind < 1)=false/\decide (t.kind > 5)=true):=by
   by_cases h:t.kind < 1
   ·exact .inl (by simp [h])
   ·exact .inr ⟨by simp [h],by simp;omega⟩
  rcases hlt with h|⟨h,h'⟩
  ·(try simp (config:=qZc) (disch:=first|omega|rfl) only[sB,Za,reduceCtorEq,cutC,h,z02 z3l one3,z0a agg3]);refine qZd (by simp only[sB,Za,reduceCtorEq]) ?_
   (repeat refine qZa ?_);refine qZb ?_;simp (config:=qZc) (disch:=first|omega|rfl) only[sA];refine qZf ?_;(try simp (config:=qZc) (disch:=first|omega|rfl) only[sA]);exact z04 rfl (by simp only[sG,Za,reduceCtorEq];rfl) ⟨by rw[nodeE,if_pos hno],hx⟩
  ·(try simp (config:=qZc) (disch:=first|omega|rfl) only[sB,Za,reduceCtorEq,cutC,h,h',z02 z3l one3,z0a agg3,Ze]);refine qZd (by simp only[sB,Za,reduceCtorEq]) ?_
   (repeat refine qZa ?_);refine qZb ?_;simp (config:=qZc) (disch:=first|omega|rfl) only[sA];refine qZf ?_;(try simp (config:=qZc) (disch:=first|omega|rfl) only[sA]);exact z04 rfl (by simp only[sG,Za,reduceCtorEq];rfl) ⟨by rw[nodeE,if_pos hno],hx⟩
 have q1:decide (t.kind < 1)=false:=by simp;omega
 have q2:decide (t.kind > 5)=false:=by simp;omega
 (try simp (config:=qZc) (disch:=first|omega|rfl) only[sB,Za,Zb,reduceCtorEq,cutC,q1,q2,z02 z3l one3,z0a agg3,Ze,z20 zbt,z49,z09 zs5]);refine(zoj hk2 hm2 (rr.mono hx hw) hx.wf).mono ?_
 rintro v H2 ⟨rfl,hx2⟩;have hxx:=hx.trans hx2;have hb2:H2.get H.next=some (Blk.row [Value.int IntKind.i64 t.kind,Value.string t.name,Value.string t.num,Value.int IntKind.u64 t.bits,Value.int IntKind.i64 t.var,Value.slice a t.args.length c] 26):=by rw[hx2.keep _ (Zg _),Heap.get_new,if_pos rfl]
 have l0:H2.load ⟨H.next,0,none⟩ 1=some [.int .i64 t.kind]:=by simp only[Heap.load,Heap.cells,hb2];rfl
 have l1:H2.load ⟨H.next,1,none⟩ 1=some [.string t.name]:=by simp only[Heap.load,Heap.cells,hb2];rfl
 have l2:H2.load ⟨H.next,2,none⟩ 1=some [.string t.num]:=by simp only[Heap.load,Heap.cells,hb2];rfl
 have l3:H2.load ⟨H.next,3,none⟩ 1=some [.int .u64 t.bits]:=by simp only[Heap.load,Heap.cells,hb2];rfl
 have l4:H2.load ⟨H.next,4,none⟩ 1=some [.int .i64 t.var]:=by simp only[Heap.load,Heap.cells,hb2];rfl
 have l5:H2.load ⟨H.next,5,none⟩ 1=some [.slice a t.args.length c]:=by simp only[Heap.load,Heap.cells,hb2];rfl
 cases hbl:blankB t with
 |false =>
  (try simp (config:=qZc) (disch:=first|omega|rfl) only[sB,Za,reduceCtorEq,ZH,Ze]);refine qZd (by simp only[sB,Za,reduceCtorEq]) ?_
  (repeat refine qZa ?_);refine qZb ?_;simp (config:=qZc) (disch:=first|omega|rfl) only[sA];refine qZf ?_;(try simp (config:=qZc) (disch:=first|omega|rfl) only[sA]);exact z04 rfl (by simp only[sG,Za,reduceCtorEq];rfl) ⟨by rw[nodeE,if_neg hno,if_pos hbl],hxx⟩
 |true =>
 by_cases hv:t.var < 0
 ·have hd:decide (t.var < 0)=true:=decide_eq_true hv;(try simp (config:=qZc) (disch:=first|omega|rfl) only[sB,Za,reduceCtorEq,l4,hd,z02 z8x one3,z0a agg3,Zq,Ze]);refine qZd (by simp only[sB,Za,reduceCtorEq]) ?_;(repeat refine qZa ?_);refine qZb ?_;simp (config:=qZc) (disch:=first|omega|rfl) only[sA];refine qZf ?_;(try simp (config:=qZc) (disch:=first|omega|rfl) only[sA]);exact z04 rfl (by simp only[sG,Za,reduceCtorEq];rfl) ⟨by rw[zdm hno hbl (by unfold bndB;rw[hd];rfl)],hxx⟩
 have hd:decide (t.var < 0)=false:=decide_eq_false hv;(try simp (config:=qZc) (disch:=first|omega|rfl) only[sB,Za,reduceCtorEq,l4,hd,z02 z8x one3,z0a agg3,Zq,Ze]);refine qZm (by simp only[sB,Za,reduceCtorEq]) ?_;refine EvC.frame (fun tm=>tm.get 1=some (.pointer (some ⟨H.next,0,none⟩))) (by simp only[sG,Za,reduceCtorEq]) ?_;rintro tm g1;refine qZa ?_;refine EvC.join (fun st=>∃tm,st=⟨tm,[],H2⟩/\tm.get 1=some (.pointer (some ⟨H.next,0,none⟩))/\tm.get 23=some (.bool (t.kind == 5 && ((t.args.length:Int) == 0 || decide ((t.args.length:Int) > 64))))) ?_ ?_
 ·refine qZb ?_;cases h2:(t.kind == 5)<;>cases h3:((t.args.length:Int) == 0)<;>cases h4:decide ((t.args.length:Int) > 64)
  all_goals
   (try simp (config:=qZc) (disch:=first|omega|rfl) only[sB,Za,g1,l0,l5,h2,h3,h4,z02 z3l one3,z02 z8w zlg,z0a agg3,z0a zog,z15 Tryd.underlying22,Ze]);exact⟨_,rfl,by simp only[sG,Za];exact g1,by simp only[sG,Za];rfl⟩
 clear g1 tm;rintro st ⟨tm,rfl,g1,g23⟩;(try simp (config:=qZc) (disch:=first|omega|rfl) only[z00]);cases hbad:(t.kind == 5 && ((t.args.length:Int) == 0 || decide ((t.args.length:Int) > 64))) with
 |true =>
  rw[hbad] at g23;refine qZd (by simp only[sA,g23]) ?_;(repeat refine qZa ?_);refine qZb ?_;simp (config:=qZc) (disch:=first|omega|rfl) only[sA];refine qZf ?_;(try simp (config:=qZc) (disch:=first|omega|rfl) only[sA]);exact z04 rfl (by simp only[sG];rfl) ⟨by rw[zdm hno hbl (by unfold bndB;rw[hd,hbad];rfl)],hxx⟩
 |false =>
 rw[hbad] at g23;have hne:=zj3 (utf:=utf) (num:=num) (flt:=fun n=>!(fn n || fi n || n == 9223372036854775808)) hno hbl (by unfold bndB;rw[hd,hbad];rfl);refine qZm (by simp only[sA,g23]) ?_;(repeat refine qZa ?_);refine qZb ?_;simp (config:=qZc) (disch:=first|omega|rfl) only[sB,Za,g1,l1,z02 z3m one9,z0a agg9,z09 zs6];refine(hU t.name _ b2 hx2.wf).mono ?_;rintro v H3 ⟨rfl,hx3⟩;have hxx3:=hxx.trans hx3;have hlt2:H.next < H2.next:=Zh (Zg _) hx2.next;have hb3:H3.get H.next=some (Blk.row [Value.int IntKind.i64 t.kind,Value.string t.name,Value.string t.num,Value.int IntKind.u64 t.bits,Value.int IntKind.i64 t.var,Value.slice a t.args.length c] 26):=by rw[hx3.keep _ hlt2];exact hb2
 have m0:H3.load ⟨H.next,0,none⟩ 1=some [.int .i64 t.kind]:=by simp only[Heap.load,Heap.cells,hb3];rfl
 have m1:H3.load ⟨H.next,1,none⟩ 1=some [.string t.name]:=by simp only[Heap.load,Heap.cells,hb3];rfl
 have m2:H3.load ⟨H.next,2,none⟩ 1=some [.string t.num]:=by simp only[Heap.load,Heap.cells,hb3];rfl
 have m3:H3.load ⟨H.next,3,none⟩ 1=some [.int .u64 t.bits]:=by simp only[Heap.load,Heap.cells,hb3];rfl
 cases hu:utf t.name with
 |false =>
  (try simp (config:=qZc) (disch:=first|omega|rfl) only[sB,Za,ZH]);refine qZd (by simp only[sB,Za]) ?_
  (repeat refine qZa ?_);refine qZb ?_;simp (config:=qZc) (disch:=first|omega|rfl) only[sA];refine qZf ?_;(try simp (config:=qZc) (disch:=first|omega|rfl) only[sA]);exact z04 rfl (by simp only[sG,Za];rfl) ⟨by rw[hne,if_pos hu],hxx3⟩
 |true =>
 rw[if_neg (by rw[hu];simp)] at hne;by_cases hlen:1000 < t.name.size
 ·have hd:decide ((t.name.size:Int) > 1000)=true:=decide_eq_true (by omega);(try simp (config:=qZc) (disch:=first|omega|rfl) only[sB,Za,g1,m1,hd,z02 z3m one9,z0a agg9,z6z Tryd.underlying9,Zq,Ze]);refine qZd (by simp only[sB,Za]) ?_;(repeat refine qZa ?_);refine qZb ?_;simp (config:=qZc) (disch:=first|omega|rfl) only[sA];refine qZf ?_;(try simp (config:=qZc) (disch:=first|omega|rfl) only[sA]);exact z04 rfl (by simp only[sG,Za];rfl) ⟨by rw[hne,if_pos hlen],hxx3⟩
 rw[if_neg hlen] at hne;have hd2:decide ((t.name.size:Int) > 1000)=false:=decide_eq_false (by omega);(try simp (config:=qZc) (disch:=first|omega|rfl) only[sB,Za,g1,m1,hd2,z02 z3m one9,z0a agg9,z6z Tryd.underlying9,Zq,Ze]);refine qZm (by simp only[sB,Za]) ?_;refine EvC.frame (fun tm=>tm.get 1=some (.pointer (some ⟨H.next,0,none⟩))) (by simp only[sG,Za];exact g1) ?_;clear g1 g23 tm;rintro tm g1;refine qZa (qZb ?_);by_cases k3:t.kind=3
 ·have q3:(t.kind == 3)=true:=by simp [k3]
  have q4:(t.kind == 4)=false:=by simp [k3]
  (try simp (config:=qZc) (disch:=first|omega|rfl) only[sB,Za,g1,m0,m2,q3,z02 z3l one3,z02 z72 one9,z0a agg9,z0a agg3,z09 zs7]);refine(hN t.num _ b3 hx3.wf).mono ?_
  rintro v H4 ⟨rfl,hx4⟩;have hb4:H4.get H.next=some (Blk.row [Value.int IntKind.i64 t.kind,Value.string t.name,Value.string t.num,Value.int IntKind.u64 t.bits,Value.int IntKind.i64 t.var,Value.slice a t.args.length c] 26):=by rw[hx4.keep _ (Zh hlt2 hx3.next)];exact hb3
  have n0:H4.load ⟨H.next,0,none⟩ 1=some [.int .i64 t.kind]:=by simp only[Heap.load,Heap.cells,hb4];rfl
  cases hn:num t.num with
  |false =>
   (try simp (config:=qZc) (disch:=first|omega|rfl) only[sB,Za,ZH]);refine qZd (by simp only[sB,Za]) ?_
   (repeat refine qZa ?_);refine qZb ?_;simp (config:=qZc) (disch:=first|omega|rfl) only[sA];refine qZf ?_;(try simp (config:=qZc) (disch:=first|omega|rfl) only[sA]);exact z04 rfl (by simp only[sG,Za];rfl) ⟨by rw[hne,if_pos ⟨k3,hn⟩],hxx3.trans hx4⟩
  |true =>
   (try simp (config:=qZc) (disch:=first|omega|rfl) only[sB,Za,Zq]);refine qZm (by simp only[sB,Za]) (qZe ?_)
   (try simp (config:=qZc) (disch:=first|omega|rfl) only[sA]);(repeat refine qZa ?_);refine qZb ?_;simp (config:=qZc) (disch:=first|omega|rfl) only[sB,Za,g1,n0,q4,z02 z3l one3,z0a agg3]
   refine qZm (by simp only[sB,Za]) (qZe ?_);(try simp (config:=qZc) (disch:=first|omega|rfl) only[z00]);(repeat refine qZa ?_);refine qZb ?_;simp (config:=qZc) (disch:=first|omega|rfl) only[sA];refine qZf ?_;(try simp (config:=qZc) (disch:=first|omega|rfl) only[]);exact z04 rfl (by simp only[sG,Za];rfl) ⟨by rw[hne,if_neg (by rw[hn];simp),if_neg (by rw[k3];simp)],hxx3.trans hx4⟩
 have q3:(t.kind == 3)=false:=by simp [k3]
 rw[if_neg (fun h=>k3 h.1)] at hne;(try simp (config:=qZc) (disch:=first|omega|rfl) only[sB,Za,g1,m0,q3,z02 z3l one3,z0a agg3,Ze]);refine qZm (by simp only[sB,Za]) (qZe ?_);(try simp (config:=qZc) (disch:=first|omega|rfl) only[sA]);by_cases k4:t.kind=4
 ·have q4:(t.kind == 4)=true:=by simp [k4]
  (repeat refine qZa ?_);refine qZb ?_;simp (config:=qZc) (disch:=first|omega|rfl) only[sB,Za,g1,m0,q4,z02 z3l one3,z0a agg3];refine qZd (by simp only[sB,Za]) ?_;(repeat refine qZa ?_);refine qZb ?_;simp (config:=qZc) (disch:=first|omega|rfl) only[sB,Za,g1,m3,z02 z5p zfh,z0a zj2];rw[z7k (n:=t.bits) (by simp only[sG,Za])];(try simp (config:=qZc) (disch:=first|omega|rfl) only[sB,Za]);refine EvC.frame (fun tm=>tm.get 1=some (.pointer (some ⟨H.next,0,none⟩))/\tm.get 3=some (.float .f64 t.bits.toNat)) ⟨by simp only[sG,Za];exact g1,by simp only[sG,Za]⟩ ?_;clear g1 tm;rintro tm ⟨g1,g3⟩;(repeat refine qZa ?_);refine qZb ?_;simp (config:=qZc) (disch:=first|omega|rfl) only[sB,Za,g3,z09 zs8];refine(hF t.bits _ b4 hx3.wf).1.mono ?_;rintro v H4 ⟨rfl,hx4⟩
  have hb4:H4.get H.next=some (Blk.row [Value.int IntKind.i64 t.kind,Value.string t.name,Value.string t.num,Value.int IntKind.u64 t.bits,Value.int IntKind.i64 t.var,Value.slice a t.args.length c] 26):=by rw[hx4.keep _ (Zh hlt2 hx3.next)];exact hb3
  cases hn:fn t.bits with
  |true =>
   (try simp (config:=qZc) (disch:=first|omega|rfl) only[sB,Za]);refine qZd (by simp only[sB,Za]) ?_
   (repeat refine qZa ?_);refine qZb ?_;simp (config:=qZc) (disch:=first|omega|rfl) only[sA];refine qZf ?_;(try simp (config:=qZc) (disch:=first|omega|rfl) only[z06]);exact z04 rfl (by simp only[sG,Za];rfl) ⟨by rw[hne,if_pos ⟨k4,by rw[hn];rfl⟩],hxx3.trans hx4⟩
  |false =>
  (try simp (config:=qZc) (disch:=first|omega|rfl) only[sB,Za,g3,Ze,z09 zs9]);refine(hF t.bits _ b4 hx4.wf).2.mono ?_
  rintro v H5 ⟨rfl,hx5⟩;have hb5:H5.get H.next=some (Blk.row [Value.int IntKind.i64 t.kind,Value.string t.name,Value.string t.num,Value.int IntKind.u64 t.bits,Value.int IntKind.i64 t.var,Value.slice a t.args.length c] 26):=by rw[hx5.keep _ (Zh (Zh hlt2 hx3.next) hx4.next)];exact hb4
  have n3:H5.load ⟨H.next,3,none⟩ 1=some [.int .u64 t.bits]:=by simp only[Heap.load,Heap.cells,hb5];rfl
  cases hi:fi t.bits with
  |true =>
   (try simp (config:=qZc) (disch:=first|omega|rfl) only[sB,Za]);refine qZd (by simp only[sB,Za]) ?_
   (repeat refine qZa ?_);refine qZb ?_;simp (config:=qZc) (disch:=first|omega|rfl) only[sA];refine qZf ?_;(try simp (config:=qZc) (disch:=first|omega|rfl) only[z06]);exact z04 rfl (by simp only[sG,Za];rfl) ⟨by rw[hne,if_pos ⟨k4,by rw[hn,hi];rfl⟩],(hxx3.trans hx4).trans hx5⟩
  |false =>
  cases hz:(t.bits == 9223372036854775808) with
  |true =>
   (try simp (config:=qZc) (disch:=first|omega|rfl) only[sB,Za,g1,n3,hz,z02 z5p zfh,z0a zj2,Ze]);refine qZd (by simp only[sB,Za]) ?_
   (repeat refine qZa ?_);refine qZb ?_;simp (config:=qZc) (disch:=first|omega|rfl) only[sA];refine qZf ?_;(try simp (config:=qZc) (disch:=first|omega|rfl) only[z06]);exact z04 rfl (by simp only[sG,Za];rfl) ⟨by rw[hne,if_pos ⟨k4,by rw[hn,hi,hz];rfl⟩],(hxx3.trans hx4).trans hx5⟩
  |false =>
   (try simp (config:=qZc) (disch:=first|omega|rfl) only[sB,Za,g1,n3,hz,z02 z5p zfh,z0a zj2,Ze]);refine qZm (by simp only[sB,Za]) (qZe ?_)
   (try simp (config:=qZc) (disch:=first|omega|rfl) only[z00]);(repeat refine qZa ?_);refine qZb ?_;simp (config:=qZc) (disch:=first|omega|rfl) only[sA]
   refine qZf ?_;(try simp (config:=qZc) (disch:=first|omega|rfl) only[]);exact z04 rfl (by simp only[sG,Za];rfl) ⟨by rw[hne,if_neg (by rw[hn,hi,hz];simp)],(hxx3.trans hx4).trans hx5⟩
 have q4:(t.kind == 4)=false:=by simp [k4]
 (repeat refine qZa ?_);refine qZb ?_;simp (config:=qZc) (disch:=first|omega|rfl) only[sB,Za,g1,m0,q4,z02 z3l one3,z0a agg3];refine qZm (by simp only[sB,Za]) (qZe ?_);(try simp (config:=qZc) (disch:=first|omega|rfl) only[z00]);(repeat refine qZa ?_);refine qZb ?_;simp (config:=qZc) (disch:=first|omega|rfl) only[sA];refine qZf ?_;(try simp (config:=qZc) (disch:=first|omega|rfl) only[]);exact z04 rfl (by simp only[sG,Za];rfl) ⟨by rw[hne,if_neg (fun h=>k4 h.1)],hxx3⟩
end Go.Proofs.hq
end

section
namespace Go.Proofs.hq
open Go Go.RowKit Go.Hb
theorem zql:callable Tryd.prog 96=true:=by kernel_rfl
theorem zud:callable Tryd.prog 111=true:=by kernel_rfl
mutual
def allE (E:Tm->Int):Tm->Int
 |.mk k s u b v l=>if E (.mk k s u b v l)=0 then allL E l else E (.mk k s u b v l)
def allL (E:Tm->Int):List Tm->Int
 |[]=>0
 |t :: l=>if allE E t=0 then allL E l else allE E t
end
theorem z5q (E:Tm->Int) (t:Tm):allE E t=if E t=0 then allL E t.args else E t:=by
 obtain⟨k,s,u,b,v,l⟩:=t;rw[allE];rfl
theorem zlk {E:Tm->Int}{l:List Tm}{i:Nat}{t:Tm}(h:l[i]?=some t):allL E (l.drop i)=if allE E t=0 then allL E (l.drop (i+1)) else allE E t:=by
 have hlt:=(List.getElem?_eq_some_iff.1 h).1;have he:l[i]=t:=(List.getElem?_eq_some_iff.1 h).2;rw[ZI hlt,allL,he]
def checkE (E:Tm->Int) (t:Tm):Int:=if 4000 < cnt t 0 then 24 else allE E t
def TellsT (ok:Ok) (f:FuncId) (E:Tm->Int):Prop:=∀(t:Tm) (cs:List Value) (H:Heap),RepT H t cs->H.wf->EvF Tryd.prog ok f [.agg ⟨cs⟩] H fun v H'=>v=.int .i64 (E t)/\HX H H'
theorem zqm {n:Int}(h:n≠0):(n != 0)=true:=by simp [h]
theorem zqn {n:Int}(h:n=0):(n != 0)=false:=by simp [h]
variable {ok:Ok}
set_option maxRecDepth 10000 in
set_option maxHeartbeats 2000000 in
theorem zdo {E:Tm->Int}(hE:TellsT ok 111 E) (hk:∀args H,ok.K 96 args H=none) (hm:ok.testBit 96=true):TellsT ok 96 (allE E):=by
 have main:∀(m:Nat) {t:Tm}{cs:List Value}{H:Heap},SizeOf.sizeOf t < m->RepT H t cs->H.wf->EvF Tryd.prog ok 96 [.agg ⟨cs⟩] H fun v H'=>v=.int .i64 (allE E t)/\HX H H':=by
  intro m
  induction m with
  |zero=>intro t cs H h;omega
  |succ m ih =>
  intro t cs H hsz r hw;have rr:=r;obtain⟨a,c,cells,rfl,b1,b2,b3,b4,b5,rl⟩:=r.inv;have hx:=(HX.refl hw).new (some (Blk.row [Value.int IntKind.i64 t.kind,Value.string t.name,Value.string t.num,Value.int IntKind.u64 t.bits,Value.int IntKind.i64 t.var,Value.slice a t.args.length c] 26));refine EvF.enter (hk _ _) Tryd.func96 hm rfl ?_;(repeat refine qZa ?_);refine qZb ?_;simp (config:=qZc) (disch:=first|omega|rfl) only[sB,initTm,dBox,Value.cells,one];(repeat refine qZa ?_);refine qZb ?_;simp (config:=qZc) (disch:=first|omega|rfl) only[sB,Za,Zb,reduceCtorEq,cutC,z20 zbt,z49,z09 zud];refine(hE t _ _ (rr.mono hx hw) hx.wf).mono ?_;rintro v H2 ⟨rfl,hx2⟩;have hxx:=hx.trans hx2;have hb2:H2.get H.next=some (Blk.row [Value.int IntKind.i64 t.kind,Value.string t.name,Value.string t.num,Value.int IntKind.u64 t.bits,Value.int IntKind.i64 t.var,Value.slice a t.args.length c] 26):=by rw[hx2.keep _ (Zg _),Heap.get_new,if_pos rfl]
  have l5:H2.load ⟨H.next,5,none⟩ 1=some [.slice a t.args.length c]:=by simp only[Heap.load,Heap.cells,hb2];rfl
  (try simp (config:=qZc) (disch:=first|omega|rfl) only[]);by_cases he:E t=0
  ·(repeat refine qZa ?_);refine qZb ?_;simp (config:=qZc) (disch:=first|omega|rfl) only[sB,Za,reduceCtorEq,zqn he];refine qZm (by simp only[sB,Za,reduceCtorEq]) (qZe ?_);(try simp (config:=qZc) (disch:=first|omega|rfl) only[z00]);(repeat refine qZa ?_);refine qZb ?_;simp (config:=qZc) (disch:=first|omega|rfl) only[sB,Za,reduceCtorEq,z02 z8w zlg,z0a zog,l5,z15 Tryd.underlying22];refine qZg (qZk (fun k st=>∃tm H' i,st=⟨tm,[],H'⟩/\k=t.args.length - i/\i<=t.args.length/\allL E (t.args.drop i)=allE E t /\
    tm.get 13=some (.slice a t.args.length c)/\tm.get 14=some (.int .i64 t.args.length)/\tm.get 15=some (.int .i64 (i:Nat))/\HX H H') ?_ t.args.length _ ?_)
   ·rintro k st ⟨tm,H',i,rfl,hk',hi,hc,g13,g14,g15,hx'⟩;(repeat refine qZa ?_);refine qZb ?_;simp (config:=qZc) (disch:=first|omega|rfl) only[sA,g14,g15];by_cases hlt:i < t.args.length
    ·(repeat refine qZa ?_);refine qZd (by simp only[sB];exact congrArg _ (decide_eq_true (by omega))) (qZe ?_);obtain⟨b,o,rfl,hload,hrep⟩:=rl.at (i:=i) (Zc hlt);obtain⟨a',c',cells',hcell,-⟩:=hrep.inv;have hld:=hx'.load hw hload;rw[hcell] at hld hrep;(try simp (config:=qZc) (disch:=first|omega|rfl) only[z00]);(repeat refine qZa ?_);refine qZg ?_;(repeat refine qZa ?_);refine qZb ?_;simp (config:=qZc) (disch:=first|omega|rfl) only[sB,dAlloc,Za,Zb,one,g13,g15,z2y Tryd.underlying22 zhb hlt,z20 zbt,z49,hld,zqk,z6y zhb];(repeat refine qZa ?_);refine qZb ?_;simp (config:=qZc) (disch:=first|omega|rfl) only[sB,Za,Zb,cutC,z20 zbt,z49,z09 zql];have hx3:=(hx'.new (some (Blk.row [Value.int IntKind.i64 0,Value.string Zd,Value.string Zd,Value.int IntKind.u64 0,Value.int IntKind.i64 0,Value.slice none 0 0] 26))).put (i:=H'.next) hx'.next (Zg _)
      (some (.row [Value.int IntKind.i64 t.args[i].kind,Value.string t.args[i].name,Value.string t.args[i].num,Value.int IntKind.u64 t.args[i].bits,Value.int IntKind.i64 t.args[i].var,Value.slice a' t.args[i].args.length c'] 26))
     have ht:t.args[i]?=some t.args[i]:=Zc hlt;have hs:=z23 ht;refine(ih (t:=t.args[i]) (by omega) (hrep.mono hx3 hw) hx3.wf).mono ?_;rintro v H4 ⟨rfl,hx4⟩;have hL:t.args.length<=9223372036854775807:=Zk rl.len rl.cap;have hd:=zlk (E:=E) ht;(try simp (config:=qZc) (disch:=first|omega|rfl) only[]);by_cases hz:allE E t.args[i]=0
     ·(repeat refine qZa ?_);refine qZb ?_;simp (config:=qZc) (disch:=first|omega|rfl) only[sB,Za,zqn hz];refine qZm (by simp only[sB,Za]) (qZe ?_);(try simp (config:=qZc) (disch:=first|omega|rfl) only[sA]);refine qZb ?_;simp (config:=qZc) (disch:=first|omega|rfl) only[sB,Za,g15,z0d];exact⟨t.args.length - (i+1),by omega,_,_,i+1,rfl,rfl,by omega,by rw[<-hc,hd,if_pos hz],by simp only[sG,Za];exact g13,by simp only[sG,Za];exact g14,by simp only[sG,Za];rfl,hx3.trans hx4⟩
     ·(repeat refine qZa ?_);refine qZb ?_;simp (config:=qZc) (disch:=first|omega|rfl) only[sB,Za,zqm hz];refine qZd (by simp only[sB,Za]) ?_;(repeat refine qZa ?_);refine qZb ?_;simp (config:=qZc) (disch:=first|omega|rfl) only[sB,Za];refine qZf ?_;(try simp (config:=qZc) (disch:=first|omega|rfl) only[sA]);exact z04 rfl (by simp only[sG,Za];rfl) ⟨by rw[<-hc,hd,if_neg hz],hx3.trans hx4⟩
    ·(repeat refine qZa ?_);refine qZm (by simp only[sB];exact congrArg _ (decide_eq_false (by omega))) (qZi ?_);(try simp (config:=qZc) (disch:=first|omega|rfl) only[sB]);(repeat refine qZa ?_);refine qZb ?_;simp (config:=qZc) (disch:=first|omega|rfl) only[sA];refine qZf (z04 rfl (by simp only[sG,Za];rfl) ⟨?_,hx'⟩);rw[<-hc,List.drop_of_length_le (by omega),allL]
   ·exact⟨_,_,0,rfl,rfl,by omega,by rw[z5q,if_pos he];rfl,by simp only[sG,Za,reduceCtorEq],by simp only[sG,Za,reduceCtorEq],by simp only[sG,Za,reduceCtorEq];rfl,hxx⟩
  ·(repeat refine qZa ?_);refine qZb ?_;simp (config:=qZc) (disch:=first|omega|rfl) only[sB,Za,reduceCtorEq,zqm he];refine qZd (by simp only[sB,Za,reduceCtorEq]) ?_;(repeat refine qZa ?_);refine qZb ?_;simp (config:=qZc) (disch:=first|omega|rfl) only[sB,Za,reduceCtorEq];refine qZf ?_;(try simp (config:=qZc) (disch:=first|omega|rfl) only[z06]);exact z04 rfl (by simp only[sG,Za,reduceCtorEq];rfl) ⟨by rw[z5q,if_neg he],hxx⟩
 exact fun t cs H r hw=>main _ (Zg _) r hw
end Go.Proofs.hq
end

section
namespace Go.Proofs.hq
open Go Go.RowKit Go.Hb
variable {ok:Ok}
set_option maxRecDepth 10000 in
theorem zol {E:Tm->Int}(hN:TellsT ok 75 fun t=>cnt t 0) (hE:TellsT ok 96 (allE E)) (hk:∀args H,ok.K 74 args H=none) (hm:ok.testBit 74=true):TellsT ok 74 (checkE E):=by
 intro t cs H r hw;have rr:=r;obtain⟨a,c,cells,rfl,b1,b2,b3,b4,b5,rl⟩:=r.inv;have hx:=(HX.refl hw).new (some (Blk.row [Value.int IntKind.i64 t.kind,Value.string t.name,Value.string t.num,Value.int IntKind.u64 t.bits,Value.int IntKind.i64 t.var,Value.slice a t.args.length c] 26));refine EvF.enter (hk _ _) Tryd.func74 hm rfl ?_;(repeat refine qZa ?_);refine qZb ?_;simp (config:=qZc) (disch:=first|omega|rfl) only[sB,initTm,dBox,Value.cells,one];(repeat refine qZa ?_);refine qZb ?_;simp (config:=qZc) (disch:=first|omega|rfl) only[sB,Za,Zb,reduceCtorEq,cutC,z20 zbt,z49,z09 zua];refine(hN t _ _ (rr.mono hx hw) hx.wf).mono ?_;rintro v H2 ⟨rfl,hx2⟩;have hxx:=hx.trans hx2;have hb2:H2.get H.next=some (Blk.row [Value.int IntKind.i64 t.kind,Value.string t.name,Value.string t.num,Value.int IntKind.u64 t.bits,Value.int IntKind.i64 t.var,Value.slice a t.args.length c] 26):=by rw[hx2.keep _ (Zg _),Heap.get_new,if_pos rfl]
 have l6:H2.load ⟨H.next,0,none⟩ 6=some [Value.int IntKind.i64 t.kind,Value.string t.name,Value.string t.num,Value.int IntKind.u64 t.bits,Value.int IntKind.i64 t.var,Value.slice a t.args.length c]:=by simp only[Heap.load,Heap.cells,hb2];rfl
 by_cases hov:4000 < cnt t 0
 ·refine qZd (by simp only[sB,Za,reduceCtorEq];exact congrArg _ (decide_eq_true (by omega))) ?_;(repeat refine qZa ?_);refine qZb ?_;simp (config:=qZc) (disch:=first|omega|rfl) only[sA];refine qZf ?_;(try simp (config:=qZc) (disch:=first|omega|rfl) only[z06]);exact z04 rfl (by simp only[sG,Za,reduceCtorEq];rfl) ⟨by rw[checkE,if_pos hov],hxx⟩
 ·refine qZm (by simp only[sB,Za,reduceCtorEq];exact congrArg _ (decide_eq_false (by omega))) (qZe ?_);(try simp (config:=qZc) (disch:=first|omega|rfl) only[sA]);(repeat refine qZa ?_);refine qZb ?_;simp (config:=qZc) (disch:=first|omega|rfl) only[sB,Za,reduceCtorEq,z20 zbt,z49,l6,z09 zql];refine(hE t _ _ (rr.mono hxx hw) hx2.wf).mono ?_;rintro v H3 ⟨rfl,hx3⟩;(try simp (config:=qZc) (disch:=first|omega|rfl) only[]);refine qZf ?_;(try simp (config:=qZc) (disch:=first|omega|rfl) only[]);exact z04 rfl (by simp only[sG,Za,reduceCtorEq];rfl) ⟨by rw[checkE,if_neg hov],hxx.trans hx3⟩
end Go.Proofs.hq
end

section
namespace Go.Proofs.hq
open Go Go.RowKit Go.Hb
section
variable {P:Program}{H:Heap}
theorem zll {t:TypeId}{x y:Operand}{k:FloatKind}{a b:Nat}:dBin P .neq t x y (.float k a) (.float k b) H=some (.val (.bool (k.format.order a b != some .eq)) H):=by
 simp [dBin,dnil,flat,eqGuard,binOp,Op.floatCmp,Sem.bind];rfl
theorem zlm {t:TypeId}{x y:Operand}{k:FloatKind}{a b:Nat}:dBin P .gtr t x y (.float k a) (.float k b) H=some (.val (.bool (k.format.order a b == some .gt)) H):=by
 simp [dBin,dnil,flat,eqGuard,binOp,Op.floatCmp,Sem.bind];rfl
def iAndNot (k:IntKind) (a b:Int):Int:=k.wrap (BitVec.ofInt k.bits a &&& ~~~BitVec.ofInt k.bits b).toNat
def iAnd (k:IntKind) (a b:Int):Int:=k.wrap (BitVec.ofInt k.bits a &&& BitVec.ofInt k.bits b).toNat
theorem zfi {t:TypeId}{x y:Operand}{k:IntKind}{a b:Int}:dBin P .andNot t x y (.int k a) (.int k b) H=some (.val (.int k (iAndNot k a b)) H):=by
 simp [dBin,dnil,flat,eqGuard,binOp,Op.intBits,Sem.bind,-BitVec.toNat_and,-BitVec.toNat_not,-BitVec.toNat_ofInt];rfl
end
def rhoF (n:Nat):Operand->Value
 |.func f=>.func (.func f) #[] #[]
 |_=>.float .f64 n
theorem zom (n:Nat) (d:Option Tmp) (k:Tmp) (ats:Array TypeId) (ty:TypeId) (pos:String) (af:Array Edge) (g:Option (Nat × Bool)) :
  pureRun Tryd.prog (execOp (rhoF n) ⟨d,.call ⟨.value (.func 133),#[.tmp k],ats⟩,ty,pos,af,g⟩)=some (.value (.int .u64 n)):=by kernel_rfl
theorem zln (l:List Value):dcall1 Tryd.prog 133 l=none:=by
 unfold dcall1;rw[Tryd.func133];rfl
theorem zon {d:Option Tmp}{k:Tmp}{ats:Array TypeId}{ty:TypeId}{pos:String}{af:Array Edge}{g:Option (Nat × Bool)}{tm:Tr Value}{H:Heap}{n:Nat}(hv:tm.get k=some (.float .f64 n)) :
  dop Tryd.prog ⟨d,.call ⟨.value (.func 133),#[.tmp k],ats⟩,ty,pos,af,g⟩ (ev tm) H=some (.val (.int .u64 n) H):=by
 have hρ:∀y∈(⟨d,.call ⟨.value (.func 133),#[.tmp k],ats⟩,ty,pos,af,g⟩:Oper).op.operands,ev tm y=rhoF n y:=by
  intro y hy;simp [Op.operands,Call.operands] at hy;rcases hy with rfl|rfl
  ·rfl
  ·show (tm.get k).getD junk=_;rw[hv];rfl
 have e:dop Tryd.prog ⟨d,.call ⟨.value (.func 133),#[.tmp k],ats⟩,ty,pos,af,g⟩ (ev tm) H=dflat Tryd.prog ⟨d,.call ⟨.value (.func 133),#[.tmp k],ats⟩,ty,pos,af,g⟩ (ev tm) H:=by
  simp only[dop,ev,zln]
 have hf:allFlat (ev tm) (⟨d,.call ⟨.value (.func 133),#[.tmp k],ats⟩,ty,pos,af,g⟩:Oper)=true:=by
  unfold allFlat;rw[List.all_eq_true];intro y hy;rw[hρ y (Array.mem_toList_iff.1 hy)];simp [Op.operands,Call.operands] at hy;rcases hy with rfl|rfl<;>rfl
 rw[e];unfold dflat;rw[hf,execOp_congr _ (by intro cs b h;cases h) hρ,zom];rfl
theorem zsb:callable Tryd.prog 125=true:=by kernel_rfl
def fnB (n:Int):Bool:=FloatKind.f64.format.order n.toNat n.toNat != some .eq
def absN (m:Nat):Nat:=(iAndNot .u64 m 9223372036854775808).toNat
def fiB (n:Int):Bool:=FloatKind.f64.format.order (absN n.toNat) 9218868437227405311 == some .gt
variable {ok:Ok}
set_option maxRecDepth 10000
theorem zue (hk:∀args H,ok.K 125 args H=none) (hm:ok.testBit 125=true) (m:Nat) (H:Heap) (hw:H.wf):EvF Tryd.prog ok 125 [.float .f64 m] H fun v H'=>v=.float .f64 (absN m)/\HX H H':=by
 refine EvF.enter (hk _ _) Tryd.func125 hm rfl ?_;(repeat refine qZa ?_);refine qZb ?_;simp (config:=qZc) (disch:=first|omega|rfl) only[sA,initTm];(repeat refine qZa ?_);refine qZb ?_;simp (config:=qZc) (disch:=first|omega|rfl) only[sB,reduceCtorEq];rw[zon (n:=m) (by simp only[sG,Za,reduceCtorEq])];(try simp (config:=qZc) (disch:=first|omega|rfl) only[sB,Za,reduceCtorEq,zfi]);rw[z7k (n:=iAndNot .u64 m 9223372036854775808) (by simp only[sG,Za,reduceCtorEq])];(try simp (config:=qZc) (disch:=first|omega|rfl) only[sB,Za,reduceCtorEq]);refine qZf ?_;exact z04 rfl (by simp only[sG,Za,reduceCtorEq];rfl) ⟨rfl,HX.refl hw⟩
theorem zoo (hk:∀args H,ok.K 121 args H=none) (hm:ok.testBit 121=true) (n:Int) (H:Heap) (hw:H.wf):EvF Tryd.prog ok 121 [.float .f64 n.toNat] H fun v H'=>v=.bool (fnB n)/\HX H H':=by
 refine EvF.enter (hk _ _) Tryd.func121 hm rfl ?_;(repeat refine qZa ?_);refine qZb ?_;simp (config:=qZc) (disch:=first|omega|rfl) only[sA,initTm];(repeat refine qZa ?_);refine qZb ?_;simp (config:=qZc) (disch:=first|omega|rfl) only[sB,Za,reduceCtorEq,zll];refine qZf ?_;exact z04 rfl (by simp only[sG,Za,reduceCtorEq];rfl) ⟨rfl,HX.refl hw⟩
theorem zop (hk:∀f args H,(f=122\/f=125)->ok.K f args H=none) (hm:ok.testBit 122=true) (hm2:ok.testBit 125=true) (n:Int) (H:Heap) (hw:H.wf) :
  EvF Tryd.prog ok 122 [.float .f64 n.toNat,.int .i64 0] H fun v H'=>v=.bool (fiB n)/\HX H H':=by
 refine EvF.enter (hk _ _ _ (.inl rfl)) Tryd.func122 hm rfl ?_;(repeat refine qZa ?_);refine qZb ?_;simp (config:=qZc) (disch:=first|omega|rfl) only[sA,initTm];(repeat refine qZa ?_);refine qZb ?_;simp (config:=qZc) (disch:=first|omega|rfl) only[sB,Za,reduceCtorEq];refine qZd (by simp only[sB,Za,reduceCtorEq];rfl) ?_;refine qZb ?_;simp (config:=qZc) (disch:=first|omega|rfl) only[sB,Za,reduceCtorEq,z09 zsb];refine(zue (hk 125 · · (.inr rfl)) hm2 n.toNat H hw).mono ?_;rintro v H2 ⟨rfl,hx⟩;(try simp (config:=qZc) (disch:=first|omega|rfl) only[]);(repeat refine qZa ?_);refine qZb ?_;simp (config:=qZc) (disch:=first|omega|rfl) only[sB,Za,reduceCtorEq,zlm];refine qZf ?_;exact z04 rfl (by simp only[sG,Za,reduceCtorEq];rfl) ⟨rfl,hx⟩
def flB (n:Int):Bool:=!(iAnd .u64 (n.fdiv (2 ^ (min (Int.toNat 52) IntKind.u64.bits))) 2047 == 2047) && !(n == 9223372036854775808)
end Go.Proofs.hq
end

section
namespace Go.Proofs.hq
open Go Go.RowKit Go.Hb
end Go.Proofs.hq
end

section
namespace Go.Proofs.hq
end Go.Proofs.hq
end

section
namespace Go.Hb
open Go.Lib
def contR:Nat->List UInt8->Nat->Option Nat
 |0,_,c=>some c
 |_+1,[],_=>none
 |n+1,b :: l,c=>if b.toNat < 128\/192<=b.toNat then none else contR n l (c*64+b.toNat - 128)
def leadR (b:Nat):Option (Nat × Nat × Nat) :=
 if 192<=b/\b < 224 then some (1,128,b - 192) else if 224<=b/\b < 240 then some (2,2048,b - 224) else if 240<=b/\b < 248 then some (3,65536,b - 240) else none
abbrev badR (lo c:Nat):Prop:=c < lo\/1114111 < c\/(55296<=c/\c < 57344)
def stepR (l:List UInt8):Option Nat :=
 match l with
 |[]=>none
 |b :: l=>match leadR b.toNat with
  |none=>none
  |some (n,lo,c)=>match contR n l c with
   |none=>none
   |some c=>if badR lo c then none else some (n+1)
def utfR:Nat->List UInt8->Bool
 |0,_=>true
 |_+1,[]=>true
 |k+1,b :: l=>if b.toNat < 128 then utfR k l else match stepR (b :: l) with
  |none=>false
  |some n=>utfR k ((b :: l).drop n)
def stepN (n m b1 b2 b3:Nat):Option Nat :=
 if 192<=m/\m < 224 then (if n < 2\/b1 < 128\/192<=b1 then none else if badR 128 ((m - 192)*64+b1 - 128) then none else some 2)
 else if 224<=m/\m < 240 then (if n < 3\/b1 < 128\/192<=b1\/b2 < 128\/192<=b2 then none else if badR 2048 (((m - 224)*64+b1 - 128)*64+b2 - 128) then none else some 3)
 else if 240<=m/\m < 248 then (if n < 4\/b1 < 128\/192<=b1\/b2 < 128\/192<=b2\/b3 < 128\/192<=b3 then none else if badR 65536 ((((m - 240)*64+b1 - 128)*64+b2 - 128)*64+b3 - 128) then none else some 4)
 else none
end Go.Hb
end

section
namespace Go.Proofs.hq
open Go Go.RowKit Go.Hb
variable {ok:Ok}
set_option maxRecDepth 10000
end Go.Proofs.hq
end

section
namespace Go.Proofs.hq
open Go Go.RowKit Go.Hb
variable {ok:Ok}
set_option maxRecDepth 10000
attribute [local irreducible] LX LG EL STG SOP SGO SGD SAL SRD SEF SEG SLK SCK ES
def canonS (s:ByteArray):Bool:=match parseD (bl s) with|none=>false|some n=>textD (negS (bl s)) n == bl s
theorem zlo {l:List Nat}{n:Nat}(h:parseD l=some n):n < big:=by
 unfold parseD at h;split at h
 ·cases h
 ·split at h
  ·cases h
  ·exact zld _ 0 n (by rw[zdj];exact Nat.two_pow_pos _) h
theorem toNat_inj:∀{a b:List UInt8},a.map UInt8.toNat=b.map UInt8.toNat->a=b
 |[],[],_=>rfl
 |x :: a,y :: b,h=>by
  simp only[Zx,List.cons.injEq] at h;rw[UInt8.toNat_inj.1 h.1,toNat_inj h.2]
 |[],_ :: _,h=>by simp at h
 |_ :: _,[],h=>by simp at h
theorem zoq (t s:ByteArray):(t.data.toList == s.data.toList)=(bl t == bl s):=by
 by_cases h:t.data.toList=s.data.toList
 ·rw[beq_iff_eq.2 h,beq_iff_eq.2 (show bl t=bl s by unfold bl;rw[h])]
 ·have h2:bl t≠bl s:=fun h3=>h (toNat_inj h3)
  rw[beq_eq_false_iff_ne.2 h,beq_eq_false_iff_ne.2 h2]
theorem zj4:TellsS okT 119 canonS:=by
 intro s H hs hw;refine EvF.enter rfl Tryd.func119 (by decide) rfl ?_
 repeat' (first|refine qZa ?_|(refine qZb ?_;simp (config:=qZc) (disch:=first|omega|rfl) only[sB,initTm,Za,reduceCtorEq,zvn]))
 refine(zof hs hw).mono ?_;rintro v H1 ⟨hP,hx1⟩;rcases hP with ⟨hnone,e,he,rfl⟩|⟨n,L,a,c,hsome,rfl,hr,hLb,hval,hlast,hlen⟩
 ·have hx2:=(hx1.new (some (.row [.bool false,.slice none 0 0] 208))).put (i:=H1.next) hx1.next (Zg _) (some (.row [.bool false,.slice none 0 0] 208))
  repeat' (first|refine qZa ?_|(refine qZf ?_;try simp only[z06,z01])|(refine qZb ?_;simp (config:=qZc) (disch:=first|omega|rfl) only[sB,Za,reduceCtorEq,z1y])|(refine z0n ?_;simp (config:=qZc) (disch:=first|omega|rfl) only[sB,dAlloc,Za,Zb,one,reduceCtorEq,zl5,z9x])|(refine qZd ?_ ?_;simp (config:=qZc) (disch:=first|omega|rfl) only[sB,Za,reduceCtorEq];refine z05 ?_))
  exact z04 rfl (by simp only[sB,Za,reduceCtorEq];rfl) ⟨by unfold canonS;rw[hnone],hx2⟩
 ·have hn:n < big:=zlo hsome;have hx2:=((HX.refl hx1.wf).new (some (.row [.bool false,.slice none 0 0] 208))).put (i:=H1.next) (Zf _) (Zg _) (some (.row [.bool (negS (bl s) && decide (0 < L.length)),.slice a L.length c] 208))
  repeat' (first|refine qZa ?_|(refine qZe ?_;try simp only[z00])|(refine qZb ?_;simp (config:=qZc) (disch:=first|omega|rfl) only[sB,Za,Zb,reduceCtorEq,cutC,z9y,zvo,z0x])|(refine z0n ?_;simp (config:=qZc) (disch:=first|omega|rfl) only[sB,dAlloc,Za,Zb,one,reduceCtorEq,zl5,z9x])|(refine qZm ?_ ?_;simp (config:=qZc) (disch:=first|omega|rfl) only[sB,Za,reduceCtorEq];refine z05 ?_))
  refine(zs1 hx2.wf (hr.keep hx2 hx1.wf) hLb hlen hval hn).mono ?_;rintro v H2 ⟨⟨t,rfl,ht⟩,hx3⟩;have htx:textD (negS (bl s) && decide (0 < L.length)) n=textD (negS (bl s)) n:=by
   by_cases h0:0 < L.length
   ·simp [h0]
   ·have:L=[]:=List.length_eq_zero_iff.1 (by omega);subst this;have:n=0:=by rw[<-hval];rfl
    subst this;rfl
  rw[htx] at ht;have heq:(t.data.toList == s.data.toList)=canonS s:=by
   rw[zoq,ht];unfold canonS;rw[hsome]
  repeat' (first|refine qZa ?_|(refine qZf ?_)|(refine qZb ?_;simp (config:=qZc) (disch:=first|omega|rfl) only[sB,Za,reduceCtorEq,z0y,z2w,heq])|(refine z0n ?_;simp (config:=qZc) (disch:=first|omega|rfl) only[sB,Za,reduceCtorEq]))
  exact z04 rfl (by simp only[sG,Za,reduceCtorEq]) ⟨rfl,(hx1.trans hx2).trans hx3⟩
def utfS (s:ByteArray):Bool:=Lib.validD s.data.toList
def fltS (n:Int):Bool:=!(fnB n || fiB n || n == 9223372036854775808)
def nodeS:Tm->Int:=nodeE utfS canonS fltS
theorem z8z:TellsS okT 72 utfS:=fun _ _ hs hw=>zu8 hw hs
theorem zlp:TellsN okT 120 121 122 fnB fiB:=fun n H hn hw=>⟨zoo (fun _ _=>rfl) (by decide) n H hw,zop (fun f _ _ h=>by rcases h with rfl|rfl<;>rfl) (by decide) (by decide) n H hw⟩
theorem zj5:TellsT okT 111 nodeS:=fun t cs H r hw=>zsa (fun _ _=>rfl) (by decide) (fun _ _=>rfl) (by decide) z8z zj4 zlp r hw
theorem z1i:TellsT okT 75 fun t=>cnt t 0:=fun t cs H r hw=>zoi (fun f _ _ h=>by rcases h with rfl|rfl<;>rfl) (by decide) (by decide) r hw
def checkS:Tm->Int:=checkE nodeS
theorem z2n:TellsT okT 74 checkS:=zol z1i (zdo zj5 (fun _ _=>rfl) (by decide)) (fun _ _=>rfl) (by decide)
end Go.Proofs.hq
end

section
namespace Go.Proofs.hq
open Go Go.RowKit Go.Hb
def orZ (a b:Int):Int:=if a=0 then b else a
theorem zfj (x y:Int):orZ (-x) (-y)=-(orZ x y):=by
 unfold orZ;by_cases h:x=0
 ·subst h;simp
 ·rw[if_neg h,if_neg (by omega)]
theorem z7v {x y:Int}:orZ x y=0↔x=0/\y=0:=by
 unfold orZ;by_cases h:x=0
 ·rw[if_pos h];simp [h]
 ·rw[if_neg h];simp [h]
theorem z57 {a b:ByteArray}(h:a.toList=b.toList):a=b:=by
 rw[z1s,z1s] at h;obtain⟨⟨a⟩⟩:=a;obtain⟨⟨b⟩⟩:=b;simp at h;rw[h]
def Fine (t:Tm):Prop:=allE nodeS t=0
theorem zhf {E:Tm->Int}:∀{l:List Tm},allL E l=0->∀u∈l,allE E u=0
 |[],_,u,hu=>by simp at hu
 |t :: l,h,u,hu=>by
  rw[allL] at h;split at h
  ·rename_i h0;rcases List.mem_cons.1 hu with rfl|hu
   ·exact h0
   ·exact zhf h u hu
  ·rename_i h0;exact absurd h h0
theorem Fine.node {t:Tm}(h:Fine t):nodeS t=0:=by
 unfold Fine at h;rw[z5q] at h;split at h
 ·assumption
 ·rename_i h0;exact absurd h h0
theorem Fine.args {t:Tm}(h:Fine t):∀u∈t.args,Fine u:=by
 have h1:=h.node;unfold Fine at h;rw[z5q,if_pos h1] at h;exact zhf h
theorem z2f {t:Tm}(h:nodeS t=0):1<=t.kind/\t.kind<=5/\blankB t=true/\0<=t.var/\(t.kind=5->1<=t.args.length/\t.args.length<=64)/\(t.kind=3->canonS t.num=true)/\(t.kind=4->fltS t.bits=true)/\utfS t.name=true/\t.name.size<=1000:=by
 unfold nodeS nodeE at h;split at h
 ·omega
 split at h
 ·omega
 split at h
 ·omega
 split at h
 ·omega
 split at h
 ·omega
 split at h
 ·omega
 split at h
 ·omega
 split at h
 ·omega
 rename_i h1 h2 h3 h4 h5 h6 h7 h8;refine⟨by omega,by omega,by simpa using h2,by omega,fun h=>?_,fun h=>?_,fun h=>?_,by simpa using h5,by omega⟩
 ·have:=fun q=>h4 ⟨h,q⟩;omega
 ·cases hh:canonS t.num with
  |true=>rfl
  |false=>exact absurd ⟨h,hh⟩ h7
 ·cases hh:fltS t.bits with
  |true=>rfl
  |false=>exact absurd ⟨h,hh⟩ h8
theorem zqo {s:ByteArray}(h:isE s=true):s=Zd:=by
 unfold isE at h;have h1:s.toList=[]:=by simpa using h
 apply z57;rw[h1];exact z1u.symm
theorem z0g {t u:Tm}(h:u∈t.args):SizeOf.sizeOf u < SizeOf.sizeOf t:=by
 obtain⟨k,s,w,b,v,l⟩:=t;exact zhc h
theorem z29 {t:Tm}(h:blankB t=true):(t.kind≠2->t.kind≠5->t.name=Zd)/\(t.kind≠3->t.num=Zd)/\(t.kind≠4->t.bits=0)/\(t.kind≠1->t.var=0)/\(t.kind≠5->t.args=[]):=by
 unfold blankB at h;simp only[Zj,Bool.or_eq_true,beq_iff_eq] at h;obtain⟨⟨⟨⟨h1,h2⟩,h3⟩,h4⟩,h5⟩:=h;refine⟨fun a b=>?_,fun a=>?_,fun a=>?_,fun a=>?_,fun a=>?_⟩
 ·rcases h1 with (h|h)|h
  ·exact absurd h a
  ·exact absurd h b
  ·exact zqo h
 ·rcases h2 with h|h
  ·exact absurd h a
  ·exact zqo h
 ·rcases h3 with h|h
  ·exact absurd h a
  ·exact h
 ·rcases h4 with h|h
  ·exact absurd h a
  ·exact h
 ·rcases h5 with h|h
  ·exact absurd h a
  ·exact List.length_eq_zero_iff.1 (by omega)
theorem zqp {t t':Tm}(h1:t.kind=t'.kind) (h2:t.name=t'.name) (h3:t.num=t'.num) (h4:t.bits=t'.bits) (h5:t.var=t'.var) (h6:t.args=t'.args):t=t':=by
 obtain⟨k,s,u,b,v,l⟩:=t;obtain⟨k',s',u',b',v',l'⟩:=t';simp only[Tm.kind,Tm.name,Tm.num,Tm.bits,Tm.var,Tm.args] at *;subst h1 h2 h3 h4 h5 h6;rfl
theorem z0h {t:Tm}:checkS t=0↔cnt t 0<=4000/\Fine t:=by
 unfold checkS checkE Fine;by_cases h:4000 < cnt t 0
 ·rw[if_pos h];constructor
  ·intro h;omega
  ·intro h;omega
 ·rw[if_neg h];constructor
  ·intro h';exact⟨by omega,h'⟩
  ·intro h';exact h'.2
end Go.Proofs.hq
end

section
namespace Go.Hb
open Go Go.RowKit
theorem z6c {cs vs:List Value}{o k:Nat}(h:o+vs.length<=cs.length):(splice cs o vs)[k]?=if o<=k/\k < o+vs.length then vs[k - o]? else cs[k]?:=by
 rw[z1o _ _ _ (by omega)];simp only[List.getElem?_append,ZE,List.getElem?_drop,Zp,Zy]
 grind
theorem z2o {cs vs:List Value}{o s:Nat}(h:o+s<=cs.length) (hv:vs.length=s):((splice cs o vs).drop o).take s=vs:=by
 apply ZN;intro k;rw[ZE,List.getElem?_drop,z6c (by omega)];by_cases hk:k < s
 ·rw[if_pos hk,if_pos (by omega),show o+k - o=k by omega]
 ·rw[if_neg hk,ZA (by omega)]
theorem z2a {cs vs:List Value}{o j s:Nat}(h:o+s<=cs.length) (hv:vs.length=s) (hd:j+s<=o\/o+s<=j):((splice cs o vs).drop j).take s=(cs.drop j).take s:=by
 apply ZN;intro k;rw[ZE,List.getElem?_drop,z6c (by omega),ZE,List.getElem?_drop];by_cases hk:k < s
 ·rw[if_pos hk,if_neg (by omega),if_pos hk]
 ·rw[if_neg hk,if_neg hk]
theorem mul6 {i j:Nat}(h:i < j):i*6+6<=j*6:=by omega
theorem HX.pt {A H:Heap}(h:HX A H) {i:Nat}{B0:Blk}(hi:A.next<=i) (hg:H.get i=some B0) (B:Option Blk):HX A (H.put i B):=h.put hi (h.wf i _ hg) B
theorem z0r {H:Heap}(hw:H.wf) (A B:Blk):∃H2,(H.new (some A)).put H.next (some B)=H2/\HX H H2/\H2.get H.next=some B/\H2.next=H.next+1/\H2.wf:=by
 have hx:=((HX.refl hw).new (some A)).put (i:=H.next) (Zf _) (Zg _) (some B);exact⟨_,rfl,hx,by rw[get_put,if_pos rfl],rfl,hx.wf⟩
end Go.Hb
namespace Go.Proofs.hq
open Go Go.RowKit Go.Hb
variable {ok:Ok}
set_option maxRecDepth 10000
attribute [local irreducible] LX LG EL STG SOP SGO SGD SAL SRD SEF SEG SLK SCK ES
theorem z58 {t:Tm}(h:Fine t):t.args.length<=64:=by
 have k:=z2f h.node;by_cases h5:t.kind=5
 ·exact(k.2.2.2.2.1 h5).2
 ·rw[(z29 k.2.2.1).2.2.2.2 h5];exact Zo _
abbrev zero6:List Value:=[.int .i64 0,.string Zd,.string Zd,.int .u64 0,.int .i64 0,.slice none 0 0]
set_option maxHeartbeats 4000000 in
theorem zlq {m:Nat}:∀{t:Tm}{cs:List Value}{H:Heap},SizeOf.sizeOf t < m->RepT H t cs->Fine t->H.wf ->
  EvF Tryd.prog okT 113 [.agg ⟨cs⟩] H fun v H'=>∃cs',v=.agg ⟨cs'⟩/\RepF H' 26 (Rg H.next H'.next) t cs'/\HX H H':=by
 induction m with
 |zero=>intro t cs H h;omega
 |succ m ih =>
 intro t cs H hsz r hf hw;have hbd:=r.bd;have hfew:=z58 hf;obtain⟨a,c,cells,rfl,-,-,-,-,-,rl⟩:=r.six;refine EvF.enter rfl Tryd.func113 (by decide) rfl ?_;(repeat refine qZa ?_);refine qZb ?_;simp (config:=qZc) (disch:=first|omega|rfl) only[sB,initTm,dBox,dAlloc,Value.cells,one,zr26];obtain⟨H2,e2,hx2,gp,gq,hn2,hw2⟩:=new2 hw (.row (six t a c) 26) (.row zero6 26);simp only[e2];have q1:=row6 gp;clear e2;have hmost:t.args.length<=most:=by unfold most;omega
 have ne1:(H.next+1=H.next)=False:=by simp
 have ne2:(H.next=H.next+1)=False:=by simp
 by_cases h0:t.args.length=0
 ·have h0':(t.args.length:Int)=0:=by omega
  have he:t.args=[]:=List.length_eq_zero_iff.1 h0
  repeat' (first|refine qZa ?_|(refine qZf ?_;try simp only[z06,z01])|(refine qZb ?_;simp (config:=qZc) (disch:=first|omega|rfl) only[sB,Za,Zb,one,reduceCtorEq,cutC,z10,ld22,ln22,st22,ld26,st26,q1,gp,gq,z0y h0',ne1])|(refine qZd ?_ ?_;simp (config:=qZc) (disch:=first|omega|rfl) only[sB,Za,reduceCtorEq];refine z05 ?_))
  have hx3:=(hx2.pt (Zf _) gp (some (.row [.int .i64 t.kind,.string t.name,.string t.num,.int .u64 t.bits,.int .i64 t.var,.slice none 0 0] 26))).pt (i:=H.next+1) (Nat.le_succ _) (by rw[get_put,if_neg (by omega)];exact gq)
   (some (.row [.int .i64 t.kind,.string t.name,.string t.num,.int .u64 t.bits,.int .i64 t.var,.slice none 0 0] 26))
  refine z0b rfl (by simp only[sB,Za,reduceCtorEq];rfl) (by simp only[sB,Zb,cutC,ld26];rfl) ⟨_,rfl,⟨none,0,?_,hbd,?_⟩,hx3⟩
  ·simp only[six,h0]
  ·rw[he];exact .nil _
 ·have h0':(t.args.length:Int)≠0:=by omega
  have ne3:(H.next=H2.next)=False:=by simp;omega
  repeat' (first|refine qZa ?_|refine qZg ?_|(refine qZe ?_;try simp only[z00])|(refine qZb ?_;simp (config:=qZc) (disch:=first|omega|rfl) only[sB,Za,reduceCtorEq,cutC,z10,ld22,ln22,q1,z0t h0',z70 mk22,ne3])|(refine qZm ?_ ?_;simp (config:=qZc) (disch:=first|omega|rfl) only[sB,Za,reduceCtorEq];refine z05 ?_))
  obtain⟨H3,e3,hx3,gr,hn3,hw3⟩:=new1 hw2 (.row (repL t.args.length zero6) 26);simp only[e3];clear e3;have gp3:=hx3.get hw2 gp;have gq3:=hx3.get hw2 gq;have hx23:=hx2.trans hx3;have hmax:=rl.max;rw[hn2] at gr hn3;refine qZk (fun k st=>∃tm H' i cells' Si ai ci,st=⟨tm,[],H'⟩/\k=t.args.length - i/\i<=t.args.length /\
   tm.get 1=some (.pointer (some ⟨H.next,0,none⟩))/\tm.get 2=some (.pointer (some ⟨H.next+1,0,none⟩))/\tm.get 3=some (.slice (some ⟨H.next+2,0,none⟩) t.args.length t.args.length) /\
   tm.get 17=some (.slice a t.args.length c)/\tm.get 18=some (.int .i64 t.args.length)/\tm.get 19=some (.int .i64 (i:Nat)) /\
   H'.get H.next=some (.row (six t a c) 26)/\H'.get (H.next+1)=some (.row zero6 26)/\H'.get (H.next+2)=some (.row cells' 26)/\cells'.length=t.args.length*6 /\
   FLs H' 26 (Rg (H.next+3) H'.next) (t.args.take i) cells' Si ai ci/\HX H H') ?_ t.args.length _ ?_
  ·rintro k st ⟨tm,H',i,cells',Si,ai,ci,rfl,rfl,hi,t1,t2,t3,t17,t18,t19,gp',gq',gr',hlen,hfl,hx'⟩;have q1:=row6 gp';by_cases hlt:i < t.args.length
   ·obtain⟨b,o,a1,c1,rfl,hld,hr1⟩:=rl.el hlt;have hld1:=hx'.load hw hld
    repeat' (first|refine qZa ?_|refine qZg ?_|(refine qZe ?_;try simp only[z00])|(refine qZb ?_;simp (config:=qZc) (disch:=first|omega|rfl) only[sB,dAlloc,Za,Zb,one,cutC,zr26,ld26,st26,ia22,zrq,t3,t17,t18,t19,decl hlt,hld1])|(refine qZd ?_ ?_;simp (config:=qZc) (disch:=first|omega|rfl) only[sB];refine z05 ?_))
    obtain⟨H4,e4,hx4,g4,hn4,hw4⟩:=z0r hx'.wf (.row zero6 26) (.row (six t.args[i] a1 c1) 26);simp only[e4];clear e4;have hs:=z23 (Zc hlt);refine(ih (t:=t.args[i]) (by omega) (hr1.mono (hx'.trans hx4) hw) (hf.args _ (Zz _)) hw4).mono ?_;rintro v H5 ⟨cs',rfl,⟨a2,c2,rfl,hb2,hf2⟩,hx5⟩;have hx45:=hx4.trans hx5;have gr5:=hx45.get hx'.wf gr';have gp5:=hx45.get hx'.wf gp';have gq5:=hx45.get hx'.wf gq';have hle:i*6+6<=cells'.length:=by rw[hlen];exact mul6 hlt
    have hln:=hx45.next;have hln2:=hx5.next;have hlt3:=hx'.wf _ _ gq';have hlt4:=hx'.wf _ _ gr'
    repeat' (first|(refine qZb ?_;simp (config:=qZc) (disch:=first|omega|rfl) only[sB,Za,t19,z0d])|(refine z0n ?_;simp (config:=qZc) (disch:=first|omega|rfl) only[sB,Zb,one,st26,gr5,hle]))
    have hx6:=(hx'.trans hx45).pt (i:=H.next+2) (by omega) gr5 (some (.row (Hb.splice cells' (i*6) (six t.args[i] a2 c2)) 26));have et:t.args.take (i+1)=t.args.take i++[t.args[i]]:=(List.take_append_getElem hlt).symm;have etl:(t.args.take i).length=i:=by rw[Zp];omega
    obtain⟨Si',ai',ci',hsn⟩:∃Si ai ci,FLs (H5.put (H.next+2) (some (.row (Hb.splice cells' (i*6) (six t.args[i] a2 c2)) 26))) 26 (Rg (H.next+3) H5.next) (t.args.take (i+1)) (Hb.splice cells' (i*6) (six t.args[i] a2 c2)) Si ai ci:=by
     rw[et];refine⟨_,_,_,hfl.snoc (S':=Rg (H.next+3) H5.next) (N:=Rg H4.next H5.next) (fun n hn hl=>?_) hx'.wf (hf2.heap (fun n hn hl=>?_) hx5.wf) hb2 (fun n hn hs=>?_) (fun n hn=>?_) (fun n hn=>?_) (fun j hj=>?_) ?_⟩
     ·have:=hn.1;rw[get_put,if_neg (by omega)];exact hx45.keep n hl
     ·have:=hn.1;rw[get_put,if_neg (by omega)]
     ·have:=hn.1;have:=hs.2;omega
     ·exact⟨hn.1,by have:=hn.2;omega⟩
     ·exact⟨by have:=hn.1;omega,hn.2⟩
     ·rw[etl] at hj;exact z2a hle rfl (.inl (mul6 hj))
     ·rw[etl];exact z2o hle rfl
    exact⟨t.args.length - (i+1),by omega,_,_,i+1,Hb.splice cells' (i*6) (six t.args[i] a2 c2),Si',ai',ci',rfl,rfl,by omega,(by simp only[sG,Za,t1]),(by simp only[sG,Za,t2]),(by simp only[sG,Za,t3]),(by simp only[sG,Za,t17]),(by simp only[sG,Za,t18]),(by simp only[sB,Za];rfl),
     by rw[get_put,if_neg (by omega)];exact gp5,by rw[get_put,if_neg (by omega)];exact gq5,by rw[get_put,if_pos rfl],by rw[z28 hle];exact hlen,hsn,hx6⟩
   ·repeat' (first|refine qZa ?_|(refine qZi ?_;try simp only[sB])|(refine qZf ?_)|(refine qZb ?_;simp (config:=qZc) (disch:=first|omega|rfl) only[sB,Za,Zb,one,cutC,z10,st22,ld26,st26,t1,t2,t3,t18,t19,q1,gp',gq',decn hlt,ne1])|(refine qZm ?_ ?_;simp (config:=qZc) (disch:=first|omega|rfl) only[sB];refine z05 ?_))
    have hi':i=t.args.length:=by omega
    have hlt3:=hx'.wf _ _ gr';have hx7:=(hx'.pt (Zf _) gp' (some (.row (six t (some ⟨H.next+2,0,none⟩) t.args.length) 26))).pt (i:=H.next+1) (Nat.le_succ _) (by rw[get_put,if_neg (by omega)];exact gq')
     (some (.row (six t (some ⟨H.next+2,0,none⟩) t.args.length) 26))
    refine z0b rfl (by simp only[sB,Za,t2];rfl) (by simp only[sB,Zb,cutC,ld26]) ⟨_,rfl,⟨some ⟨H.next+2,0,none⟩,t.args.length,rfl,hbd,?_⟩,hx7⟩;rw[hi',Zl (Zf _)] at hfl;refine(hfl.heap (fun n hn _=>?_) hx'.wf).row (Zf _) (Zk hfew (by simp [maxLen])) (cells:=cells') ?_ (by omega) ⟨by omega,hlt3⟩ (fun h=>?_) (fun n hn=>⟨by have:=hn.1;omega,hn.2⟩)
    ·have:=hn.1;rw[get_put,if_neg (by omega),get_put,if_neg (by omega)]
    ·rw[get_put,if_neg (by omega),get_put,if_neg (by omega)];exact gr'
    ·have:=h.1;omega
  ·refine⟨_,_,0,repL t.args.length zero6,fun _ _=>False,fun _=>none,fun _=>0,rfl,rfl,by omega,(by simp only[sG,Za,reduceCtorEq]),(by simp only[sG,Za,reduceCtorEq]),by rw[hn2];first|(simp only[sG,Za,reduceCtorEq];rfl)|simp only[sG,Za,reduceCtorEq],(by simp only[sG,Za,reduceCtorEq]),(by simp only[sG,Za,reduceCtorEq]),(by simp only[sB,Za,reduceCtorEq];rfl),gp3,gq3,gr,by rw[z48];rfl,FLs.nil,hx23⟩
end Go.Proofs.hq
end
