import Derived.Test.YtfalgpiidlhhjaaGreatDoorM2
import Derived.Lib.ValidLaws
import Derived.DataReads
import Derived.Test.YtfalgpiidlhhjaaGreatDoorProg
import Derived.KernelRfl
import Derived.WalkKit
/- Lemmas on the program's own code, towards the laws of this folder, part 3. Conditions: as each lemma says. -/
open Bool renaming and_eq_true -> Zi, false_eq_true -> Zd, not_false -> Zw, not_true -> Zn
open ByteArray renaming empty -> Zh
open Int renaming toNat_natCast -> Zv
open List renaming append_assoc -> ZF, drop_eq_getElem_cons -> ZB, getElem?_append_left -> ZI, getElem?_eq_getElem -> Zc, getElem?_eq_none -> ZM, getElem?_map -> Zj, getElem?_take -> ZJ, getElem_mem -> ZD, length_append -> Zm, length_map -> Zp, length_singleton -> ZN, length_take -> ZH, map_append -> ZK, mem_cons_of_mem -> Zl, mem_of_getElem? -> ZG, range -> Zg, take_of_length_le -> Zq
open Nat renaming beq -> Zt, beq_eq -> Zu, le_refl -> Ze, le_trans -> ZC, lt_of_lt_of_le -> Zo, lt_succ_self -> Zf, reduceAdd -> Zb, reduceEqDiff -> Za, reduceLeDiff -> Zr, zero_le -> ZA
open Option renaming bind_some -> Zs
section
namespace Go.Hb
open Go Go.RowKit
section
variable {P:Program}{H:Heap}{e:TypeId}{s base b c:Nat}{L:List (List Value)}{v:Value}
theorem RepO.empty:RepO H e s base [] (.slice none 0 0):=.inl ⟨rfl,rfl⟩
theorem RepO.own (h:RepO H e s base L v) (h0:L≠[]):∃b c,OwnS H e s base L b c/\v=.slice (some ⟨b,0,none⟩) L.length c:=by
 rcases h with ⟨h1,_⟩|h
 ·exact absurd h1 h0
 ·exact h
theorem RepO.slice (h:RepO H e s base L v):∃a c,v=.slice a L.length c/\L.length<=c/\c<=maxLen:=by
 rcases h with ⟨rfl,rfl⟩|⟨b,c,h,rfl⟩
 ·exact⟨_,0,rfl,Ze _,ZA _⟩
 ·exact⟨_,c,rfl,h.len,h.cap⟩
theorem RepO.keep (h:RepO H e s base L v) {H':Heap}(hx:HX H H'):RepO H' e s base L v:=by
 rcases h with h|⟨b,c,h,hv⟩
 ·exact .inl h
 ·exact .inr ⟨b,c,h.keep hx,hv⟩
theorem RepO.before (h:RepO H e s base L v) {H':Heap}{lo:Nat}(hk:∀i,i < lo->H'.get i=H.get i) (hn:H.next<=H'.next) (hlo:∀b c,OwnS H e s base L b c->b < lo):RepO H' e s base L v:=by
 rcases h with h|⟨b,c,h,hv⟩
 ·exact .inl h
 ·exact .inr ⟨b,c,h.heap (hk b (hlo b c h)) hn,hv⟩
theorem RepO.putlo (h:RepO H e s base L v) {i:Nat}(hi:i < base) (B:Option Blk):RepO (H.put i B) e s base L v:=by
 rcases h with h|⟨b,c,h,hv⟩
 ·exact .inl h
 ·exact .inr ⟨b,c,h.heap (z3q (by have:=h.lo;omega)) (Ze _),hv⟩
theorem RepO.other (h:RepO H e s base L v) {i:Nat}{cs:List Value}{e':TypeId}(hi:H.get i=some (.row cs e')) (hne:e'≠e) (B:Option Blk):RepO (H.put i B) e s base L v:=by
 rcases h with h|⟨b,c,h,hv⟩
 ·exact .inl h
 ·refine .inr ⟨b,c,h.heap (z3q fun hb=>?_) (Ze _),hv⟩;obtain⟨cs',hg,_⟩:=h.row;rw[hb,hi] at hg;cases hg;exact hne rfl
theorem RepO.beside (h:RepO H e s base L v) {H2:Heap}{e':TypeId}(hk:∀i,i < H.next->(∀cs,H.get i≠some (.row cs e'))->H2.get i=H.get i) (hn:H.next<=H2.next) (hne:e'≠e):RepO H2 e s base L v:=by
 rcases h with h|⟨b,c,h,hv⟩
 ·exact .inl h
 ·refine .inr ⟨b,c,h.heap (hk b h.hi fun cs hcs=>?_) hn,hv⟩;obtain⟨cs',hg,_⟩:=h.row;rw[hcs] at hg;cases hg;exact hne rfl
theorem RepO.takeO (h:OwnS H e s base L b c) (m:Nat) (hm:m<=L.length):RepO H e s base (L.take m) (.slice (some ⟨b,0,Option.none⟩) m c):=by
 refine .inr ⟨b,c,h.take hm,?_⟩;rw[ZH,Nat.min_eq_left hm]
section
variable {ok:Ok}{x:Ctx}{d:Option Tmp}{tm:Tr Value}{ds:List Deferred}{H':Heap}{KK:Tr Value->List Deferred->Heap->Prop}
end
def sameK (v:Value) (G:Heap):Option Dr->Bool
 |some (.val u H')=>veq u v && Zt H'.next G.next
 |_=>false
theorem z8h {o:Oper}{ρ:Operand->Value}{hs:List Heap}:sameOn P o ρ v (H :: hs)=(sameK v H (dop P o ρ H) && sameOn P o ρ v hs):=by
 rw[sameOn];unfold sameK;cases dop P o ρ H with
 |none=>rfl
 |some r=>cases r<;>rfl
theorem zcj {u:Value}{H':Heap}:sameK v H (some (.val u H'))=(veq u v && Zt H'.next H.next):=_root_.id rfl
theorem z4j {H:Heap}{n k:Nat}{a:Addr}:Heap.load ⟨n,H.t⟩ a k=H.load a k:=_root_.id rfl
theorem zgi {H:Heap}{n i:Nat}:Heap.get ⟨n,H.t⟩ i=H.get i:=_root_.id rfl
theorem RepO.takeR {a:Option Addr}{n c' m:Nat}(h:RepO H e s base L (.slice a n c')) (hm:m<=L.length):RepO H e s base (L.take m) (.slice a m c'):=by
 rcases h with ⟨rfl,hv⟩|⟨b,c,h,hv⟩
 ·cases hv;have:m=0:=by simpa using hm
  subst this;exact .inl ⟨by simp,rfl⟩
 ·cases hv;exact RepO.takeO h m hm
theorem RepO.low (h:RepO H e s base L v) {base':Nat}(hb:base'<=base):RepO H e s base' L v:=by
 rcases h with h|⟨b,c,h,hv⟩
 ·exact .inl h
 ·exact .inr ⟨b,c,⟨ZC hb h.lo,h.hi,h.row,h.len,h.cap,h.sz,h.all⟩,hv⟩
theorem RepO.rds {vs:List Value}(h:RepO H e 1 base (vs.map fun v=>[v]) v):∃a c,v=.slice a vs.length c/\RdS H vs a c:=by
 rcases h with ⟨h1,rfl⟩|⟨b,c,h,rfl⟩
 ·have:vs=[]:=by simpa using h1
  subst this;exact⟨_,0,rfl,RdS.nil⟩
 ·exact⟨_,c,by simp,h.rds⟩
theorem RepO.rds' {vs:List Value}{a:Option Addr}{n c:Nat}(h:RepO H e 1 base (vs.map fun v=>[v]) (.slice a n c)):n=vs.length/\RdS H vs a c:=by
 obtain⟨a',c',hv,hr⟩:=h.rds;cases hv;exact⟨rfl,hr⟩
theorem RepO.push {t:TypeId}(h:RepO H e s base L v) (hp:apOk P t e s) {y:List Value}(hy:y.length=s) (ha:y.all one=true) (hn:L.length+1<=most) (hb:base<=H.next) :
  ∃H2 v2,dAp P #[t,t] v (.slice (some ⟨H.next,0,Option.none⟩) 1 1) (H.new (some (.row y e)))=some (.val v2 H2)/\RepO H2 e s base (L++[y]) v2/\H2.next=H.next+2/\(∀A,HX A H->A.next<=base->HX A H2)/\(∀i,i < H.next->(∀cs,H.get i≠some (.row cs e))->H2.get i=H.get i):=by
 have hs0:0 < s:=by obtain⟨i,_,_,_,_,h0,_⟩:=hp;exact h0
 have hmax:most<=maxLen:=by simp [most,maxLen]
 have hl:(H.new (some (.row y e))).load ⟨H.next,0,Option.none⟩ (1*s)=some y:=by
  rw[z3p,Nat.one_mul];unfold cutC;simp [<-hy]
 rcases h with ⟨rfl,rfl⟩|⟨b,c,h,rfl⟩
 ·refine⟨_,_,z6m hp (by omega) (by simp [most]) hl ha,.inr ⟨_,1,OwnS.first hy ha (Nat.le_succ_of_le hb),rfl⟩,rfl,fun A hx _=>(hx.new _).new _,fun i hi _=>by rw[z1f (Nat.lt_succ_of_lt hi),z1f hi]⟩
 ·obtain⟨cs,hg,hle,ht⟩:=h.row;have hbn:b < H.next:=h.hi;have h1:OwnS (H.new (some (.row y e))) e s base L b c:=h.heap (by rw[z1f hbn]) (Nat.le_succ _);have hg1:(H.new (some (.row y e))).get b=some (.row cs e):=by rw[z1f hbn];exact hg
  have hone:(cs.take (L.length*s)).all one=true:=by
   rw[ht,List.all_eq_true];intro z hz;obtain⟨l,hl1,hl2⟩:=List.mem_flatten.1 hz;exact List.all_eq_true.1 (h.all l hl1) z hl2
  refine⟨_,_,z5g hp (by omega) hn hl ha hg1 hle hone,.inr ⟨_,_,h1.push hg1 hy ha (ZC hn hmax) (Nat.le_succ_of_le hb),by simp⟩,rfl,fun A hx hA=>?_,fun i hi hne=>?_⟩;rotate_left
  ·have hib:i≠b:=fun h=>hne cs (h ▸ hg)
   rw[z1f (by rw[z14];exact Nat.lt_succ_of_lt hi),z3q hib,z1f hi]
  have hx1:=hx.new (some (.row y e));have hx2:=hx1.put (i:=b) (by have:=h.lo;omega) (Nat.lt_succ_of_lt hbn) Option.none;exact hx2.new _
end
theorem z8i (b:ByteArray):∀(k i:Nat) (r:List UInt8),b.size - i=k->ByteArray.toList.loop b i r=r.reverse++b.data.toList.drop i
 |0,i,r,h=>by
  rw[ByteArray.toList.loop,if_neg (by omega),List.drop_of_length_le (by simp;omega),List.append_nil]
 |k+1,i,r,h=>by
  have hi:i < b.data.toList.length:=by simp;omega
  rw[ByteArray.toList.loop,if_pos (by omega),z8i b k (i+1) _ (by omega),List.reverse_cons,ZF,ZB hi];congr 1;have hi':i < b.data.size:=by simpa using hi
  have:b.get! i=b.data.toList[i]:=by
   unfold ByteArray.get!;simp;rw[getElem!_pos b.data i hi']
  rw[this];rfl
theorem z2d (b:ByteArray):b.toList=b.data.toList:=by
 unfold ByteArray.toList;rw[z8i b _ 0 [] rfl];rfl
theorem zgj {P:Program}{H:Heap}{t:TypeId}{x y:Operand}{a:ByteArray}:dBin P .eql t x y (.string a) (.string ⟨#[]⟩) H=some (.val (.bool (decide (a.size=0))) H):=by
 rw[z32,z2d,z2d];congr 3;by_cases h:a.size=0
 ·have:a.data.toList=[]:=List.length_eq_zero_iff.1 (by simpa using h);rw[this,decide_eq_true h];rfl
 ·rw[decide_eq_false h];cases hd:a.data.toList with
  |nil=>exact absurd (by have:=congrArg List.length hd;simpa using this) h
  |cons b l=>rfl
theorem zck {P:Program}{H:Heap}{t:TypeId}{x y:Operand}{a b:ByteArray}:dBin P .eql t x y (.string a) (.string b) H=some (.val (.bool (a.data.toList == b.data.toList)) H):=by
 rw[z32,z2d,z2d]
end Go.Hb
end

section
namespace Go.Hb
open Go Go.RowKit
section
variable (P:Program) (ok:Ok) (x:Ctx) (ops:Array Oper) (base:Nat)
def STK (e:Option Nat) (S:List (List (Nat × Nat) × Option Nat)) (G:Heap) (gs:List Heap) (ds:List Deferred) (K:Tr Value->List Deferred->Heap->Prop) (tm:Tr Value) (H:Heap):Prop :=
 match e with
 |none=>K tm ds H
 |some e=>ES1 P ok x ops tm ds H (fun tm ds H=>ES P ok x ops base S H (G :: gs) tm ds K) ops.toList[e]?
def STG (L:List (Nat × Nat)) (e:Option Nat) (S:List (List (Nat × Nat) × Option Nat)) (G:Heap) (gs:List Heap) (ds:List Deferred) (K:Tr Value->List Deferred->Heap->Prop) (tm:Tr Value) (H:Heap):Prop:=EN P ops base G gs L tm H (STK P ok x ops base e S G gs ds K)
def SGO (i k:Nat) (L:List (Nat × Nat)) (e:Option Nat) (S:List (List (Nat × Nat) × Option Nat)) (G:Heap) (gs:List Heap) (ds:List Deferred) (K:Tr Value->List Deferred->Heap->Prop) (o:Oper) (tm:Tr Value) (H:Heap) (al:Bool):Prop :=
 match al with
 |true=>AK base i tm H (fun tm H=>STG P ok x ops base L e S G gs ds K tm H) o.dst (dalloc P o (ev tm))
 |false=>NK P k o tm gs (fun tm=>STG P ok x ops base L e S G gs ds K tm H) o.dst G.next (dop P o (ev tm) G)
def SAL (i:Nat) (L:List (Nat × Nat)) (e:Option Nat) (S:List (List (Nat × Nat) × Option Nat)) (G:Heap) (gs:List Heap) (ds:List Deferred) (K:Tr Value->List Deferred->Heap->Prop) (d:Option Tmp) (tm:Tr Value) (H:Heap) (r:Option (Blk × (Nat->Value))):Prop:=AK base i tm H (fun tm H=>STG P ok x ops base L e S G gs ds K tm H) d r
def SRD (k:Nat) (L:List (Nat × Nat)) (e:Option Nat) (S:List (List (Nat × Nat) × Option Nat)) (G:Heap) (gs:List Heap) (ds:List Deferred) (K:Tr Value->List Deferred->Heap->Prop) (o:Oper) (tm:Tr Value) (H:Heap) (r:Option Dr):Prop:=NK P k o tm gs (fun tm=>STG P ok x ops base L e S G gs ds K tm H) o.dst G.next r
def SOP (i k:Nat) (L:List (Nat × Nat)) (e:Option Nat) (S:List (List (Nat × Nat) × Option Nat)) (G:Heap) (gs:List Heap) (ds:List Deferred) (K:Tr Value->List Deferred->Heap->Prop) (tm:Tr Value) (H:Heap) (o:Option Oper):Prop:=EN1 P ops base G gs i k tm H (fun tm H=>STG P ok x ops base L e S G gs ds K tm H) o
def SGD (i k:Nat) (L:List (Nat × Nat)) (e:Option Nat) (S:List (List (Nat × Nat) × Option Nat)) (G:Heap) (gs:List Heap) (ds:List Deferred) (K:Tr Value->List Deferred->Heap->Prop) (o:Oper) (tm:Tr Value) (H:Heap) (w:Bool) (g:Option Value):Prop:=GK o.dst tm (SGO P ok x ops base i k L e S G gs ds K o tm H (isAlloc o)) (STG P ok x ops base L e S G gs ds K (putD tm o.dst undef) H) w g
def SLK (S:List (List (Nat × Nat) × Option Nat)) (G:Heap) (gs:List Heap) (ds:List Deferred) (K:Tr Value->List Deferred->Heap->Prop) (d:Option Tmp) (tm:Tr Value) (H:Heap) (r:Option Dr):Prop :=
 LK P ok x d tm ds H (fun tm ds H=>ES P ok x ops base S H (G :: gs) tm ds K) r
def SEF (S:List (List (Nat × Nat) × Option Nat)) (G:Heap) (gs:List Heap) (ds:List Deferred) (K:Tr Value->List Deferred->Heap->Prop) (tm:Tr Value) (H:Heap) (o:Option Oper):Prop :=
 ES1 P ok x ops tm ds H (fun tm ds H=>ES P ok x ops base S H (G :: gs) tm ds K) o
def SEG (S:List (List (Nat × Nat) × Option Nat)) (G:Heap) (gs:List Heap) (ds:List Deferred) (K:Tr Value->List Deferred->Heap->Prop) (o:Oper) (tm:Tr Value) (H:Heap) (w:Bool) (g:Option Value):Prop :=
 GK o.dst tm (SLK P ok x ops base S G gs ds K o.dst tm H (dop P o (ev tm) H)) (ES P ok x ops base S H (G :: gs) (putD tm o.dst undef) ds K) w g
def SCK (S:List (List (Nat × Nat) × Option Nat)) (G:Heap) (gs:List Heap) (ds:List Deferred) (K:Tr Value->List Deferred->Heap->Prop) (d:Option Tmp) (tm:Tr Value) (v:Value) (H':Heap):Prop :=
 ES P ok x ops base S H' (G :: gs) (putD tm d v) ds K
end
section
variable {P:Program}{ok:Ok}{x:Ctx}{ops:Array Oper}{base i k n j:Nat}{L:List (Nat × Nat)}{e:Option Nat}{S:List (List (Nat × Nat) × Option Nat)}{G H H' G':Heap}{gs:List Heap}{ds:List Deferred}{K:Tr Value->List Deferred->Heap->Prop}{tm:Tr Value}{w b:Bool}{v:Value}
 {d:Option Tmp}{op:Op}{ty:TypeId}{pos:String}{af:Array Edge}{gd:Option (Nat × Bool)}{o:Oper}
theorem zkb:ES P ok x ops base ((L,none) :: S) G gs tm ds K=STG P ok x ops base L none S G gs ds K tm G:=_root_.id rfl
theorem zkc:ES P ok x ops base ((L,some n) :: S) G gs tm ds K=STG P ok x ops base L (some n) S G gs ds K tm G:=_root_.id rfl
theorem zpd:STG P ok x ops base ((i,k) :: L) e S G gs ds K tm H=SOP P ok x ops base i k L e S G gs ds K tm H ops.toList[i]?:=_root_.id rfl
theorem zkd:STG P ok x ops base [] (some n) S G gs ds K tm H=SEF P ok x ops base S G gs ds K tm H ops.toList[n]?:=_root_.id rfl
theorem zke:STG P ok x ops base [] none S G gs ds K tm H=K tm ds H:=_root_.id rfl
theorem zgk:SOP P ok x ops base i k L e S G gs ds K tm H (some ⟨d,op,ty,pos,af,none⟩)=SGO P ok x ops base i k L e S G gs ds K ⟨d,op,ty,pos,af,none⟩ tm H (isAlloc ⟨d,op,ty,pos,af,none⟩):=by
 simp only[SOP,EN1,SGO]<;>rfl
theorem zcl:SOP P ok x ops base i k L e S G gs ds K tm H (some ⟨d,op,ty,pos,af,some (j,w)⟩)=SGD P ok x ops base i k L e S G gs ds K ⟨d,op,ty,pos,af,some (j,w)⟩ tm H w (guardOf ops tm j):=by
 simp only[SOP,EN1,SGD,SGO]<;>rfl
theorem zpe:SGD P ok x ops base i k L e S G gs ds K o tm H true (some (.bool true))=SGO P ok x ops base i k L e S G gs ds K o tm H (isAlloc o):=by simp [SGD,GK]
theorem zpf:SGD P ok x ops base i k L e S G gs ds K o tm H false (some (.bool false))=SGO P ok x ops base i k L e S G gs ds K o tm H (isAlloc o):=by simp [SGD,GK]
theorem zpg:SGD P ok x ops base i k L e S G gs ds K o tm H true (some (.bool false))=STG P ok x ops base L e S G gs ds K (putD tm o.dst undef) H:=by simp [SGD,GK]
theorem zph:SGD P ok x ops base i k L e S G gs ds K o tm H false (some (.bool true))=STG P ok x ops base L e S G gs ds K (putD tm o.dst undef) H:=by simp [SGD,GK]
theorem zcm:SGD P ok x ops base i k L e S G gs ds K o tm H w (some undef)=STG P ok x ops base L e S G gs ds K (putD tm o.dst undef) H:=_root_.id rfl
theorem zcn:SGO P ok x ops base i k L e S G gs ds K o tm H true=SAL P ok x ops base i L e S G gs ds K o.dst tm H (dalloc P o (ev tm)):=_root_.id rfl
theorem zgl:SGO P ok x ops base i k L e S G gs ds K o tm H false=SRD P ok x ops base k L e S G gs ds K o tm H (dop P o (ev tm) G):=_root_.id rfl
theorem zgm {B:Blk}{mk:Nat->Value}:SAL P ok x ops base i L e S G gs ds K d tm H (some (B,mk))=STG P ok x ops base L e S G gs ds K (putD tm d (mk (base+i))) (H.put (base+i) (some B)):=_root_.id rfl
theorem zkf:SRD P ok x ops base k L e S G gs ds K ⟨d,op,ty,pos,af,gd⟩ tm H (some (.val v G'))=((isRead ⟨d,op,ty,pos,af,gd⟩=false\/(G'.next=G.next/\sameOn P ⟨d,op,ty,pos,af,gd⟩ (ev tm) v (gs.take (gs.length - k))=true))/\STG P ok x ops base L e S G gs ds K (putD tm d v) H):=_root_.id rfl
theorem zgn:SEF P ok x ops base S G gs ds K tm H (some ⟨d,op,ty,pos,af,none⟩)=SLK P ok x ops base S G gs ds K d tm H (dop P ⟨d,op,ty,pos,af,none⟩ (ev tm) H):=_root_.id rfl
theorem zco:SEF P ok x ops base S G gs ds K tm H (some ⟨d,op,ty,pos,af,some (j,w)⟩)=SEG P ok x ops base S G gs ds K ⟨d,op,ty,pos,af,some (j,w)⟩ tm H w (guardOf ops tm j):=_root_.id rfl
theorem zpi:SEG P ok x ops base S G gs ds K ⟨d,op,ty,pos,af,gd⟩ tm H true (some (.bool true))=SLK P ok x ops base S G gs ds K d tm H (dop P ⟨d,op,ty,pos,af,gd⟩ (ev tm) H):=by simp [SEG,GK]
theorem zpj:SEG P ok x ops base S G gs ds K ⟨d,op,ty,pos,af,gd⟩ tm H false (some (.bool false))=SLK P ok x ops base S G gs ds K d tm H (dop P ⟨d,op,ty,pos,af,gd⟩ (ev tm) H):=by simp [SEG,GK]
theorem zpk:SEG P ok x ops base S G gs ds K o tm H true (some (.bool false))=ES P ok x ops base S H (G :: gs) (putD tm o.dst undef) ds K:=by simp [SEG,GK]
theorem zpl:SEG P ok x ops base S G gs ds K o tm H false (some (.bool true))=ES P ok x ops base S H (G :: gs) (putD tm o.dst undef) ds K:=by simp [SEG,GK]
theorem zcp:SEG P ok x ops base S G gs ds K o tm H w (some undef)=ES P ok x ops base S H (G :: gs) (putD tm o.dst undef) ds K:=_root_.id rfl
theorem zkg:SLK P ok x ops base S G gs ds K d tm H (some (.val v H'))=ES P ok x ops base S H' (G :: gs) (putD tm d v) ds K:=_root_.id rfl
theorem zgo {f:FuncId}{args:List Value}:SLK P ok x ops base S G gs ds K d tm H (some (.call f args))=EvF P ok f args H (SCK P ok x ops base S G gs ds K d tm):=_root_.id rfl
theorem z0p (h:ES P ok x ops base S H' (G :: gs) (putD tm d v) ds K):SCK P ok x ops base S G gs ds K d tm v H':=h
theorem zpm {r:Option Dr}(h:SRD P ok x ops base k L e S G gs ds K o tm H r):SRD P ok x ops base k L e S G gs ds K o tm H r:=h
theorem zcq {r:Option Dr}(h:SLK P ok x ops base S G gs ds K d tm H r):SLK P ok x ops base S G gs ds K d tm H r:=h
end
end Go.Hb
end

section
namespace Go.Hb
open Go Go.RowKit
theorem zkh {k:IntKind}{n:Int}:veq (.int k n) (.int k n)=true:=by simp [veq]
theorem zpn {s:ByteArray}:veq (.string s) (.string s)=true:=by simp [veq]
theorem zki {b:Bool}:veq (.bool b) (.bool b)=true:=by simp [veq]
theorem zgp {k:FloatKind}{n:Nat}:veq (.float k n) (.float k n)=true:=by simp [veq]
theorem z8j {a:Option Addr}:veq (.pointer a) (.pointer a)=true:=by simp [veq]
theorem zpo {a:Option Nat}:veq (.map a) (.map a)=true:=by simp [veq]
theorem zgq {a:Option Addr}{n c:Nat}:veq (.slice a n c) (.slice a n c)=true:=by simp [veq]
theorem zpp {a b:List Value}:veq (.agg ⟨a⟩) (.agg ⟨b⟩)=veqL a b:=by simp [veq]
theorem zgr {a b:List Value}:veq (.tuple ⟨a⟩) (.tuple ⟨b⟩)=veqL a b:=by simp [veq]
theorem zkj {x y:Value}{a b:List Value}:veqL (x :: a) (y :: b)=(veq x y && veqL a b):=by simp [veqL]
theorem zpq:veqL [] []=true:=by simp [veqL]
end Go.Hb
end

section
namespace Go.Hb
open Go Go.RowKit
theorem sA:type_of% (And.intro (And.intro (And.intro (And.intro (And.intro (And.intro (@zk5) (And.intro (@zp6) (@zfv))) (And.intro (@zp7) (And.intro (@zk6) (@zfw)))) (And.intro (And.intro (@zsl) (And.intro (@zsm) (@zsn))) (And.intro (And.intro (@zso) (@zfx)) (And.intro (@zk8) (@z9s))))) (And.intro (And.intro (And.intro (@zfy) (And.intro (@zfz) (@z9t))) (And.intro (And.intro (@zg0) (@zc7)) (And.intro (@zc8) (@z60)))) (And.intro (And.intro (@z61) (And.intro (@zk7) (@zg1))) (And.intro (And.intro (@zg2) (@zg5)) (And.intro (@zc9) (@zax)))))) (And.intro (And.intro (And.intro (And.intro (@zp5) (And.intro (@zk4) (@zc6))) (And.intro (@Tr.get_put) (And.intro (@zay) (@zfu)))) (And.intro (And.intro (@Option.getD_some.{0}) (And.intro (@Nat.add_zero) (@Nat.zero_add))) (And.intro (And.intro (@List.all_cons.{0}) (@List.all_nil.{0})) (And.intro (@Bool.and_self) (@zaz))))) (And.intro (And.intro (And.intro (@zg3) (And.intro (@zg4) (@z14))) (And.intro (And.intro (@get_new) (@get_put)) (And.intro (@z82) (@z83)))) (And.intro (And.intro (@List.drop_succ_cons.{0}) (And.intro (@List.drop_zero.{0}) (@List.take_succ_cons.{0}))) (And.intro (And.intro (@List.take_zero.{0}) (@List.length_cons.{0})) (And.intro (@List.length_nil.{0}) (@Nat.beq_refl))))))) (And.intro (And.intro (And.intro (And.intro (And.intro (@List.map_cons.{0,0}) (And.intro (@List.map_nil.{0,0}) (@z43))) (And.intro (@z84) (And.intro (@z45) (@z85)))) (And.intro (And.intro (@List.cons_append.{0}) (And.intro (@List.nil_append.{0}) (@List.append_nil.{0}))) (And.intro (And.intro (@Ze) (@and_self)) (And.intro (@and_true) (@true_and))))) (And.intro (And.intro (And.intro (@List.drop_nil.{0}) (And.intro (@z00) (@z37))) (And.intro (And.intro (@z0b) (@z4v)) (And.intro (@z04) (@z02)))) (And.intro (And.intro (@z9r) (And.intro (@z5z) (@List.getElem?_cons_succ.{0}))) (And.intro (And.intro (@List.getElem?_cons_zero.{0}) (@zg6)) (And.intro (@zg7) (@zg8)))))) (And.intro (And.intro (And.intro (And.intro (@zg9) (And.intro (@zga) (@zgb))) (And.intro (And.intro (@zp8) (@zp9)) (And.intro (@z87) (@zpa)))) (And.intro (And.intro (@zpb) (And.intro (@zpc) (@zk9))) (And.intro (And.intro (@zcb) (@zgd)) (And.intro (@z54) (@zge))))) (And.intro (And.intro (And.intro (@zcc) (And.intro (@z9x) (@z62))) (And.intro (And.intro (@z74) (@zcg)) (And.intro (@z8d) (@zgg)))) (And.intro (And.intro (@z9w) (And.intro (@Option.map_some.{0,0}) (@Option.map_none.{0,0}))) (And.intro (And.intro (@List.getElem?_nil.{0}) (@Option.some.injEq.{0})) (And.intro (@Nat.mul_one) (@Zv)))))))):=And.intro (And.intro (And.intro (And.intro (And.intro (And.intro (@zk5) (And.intro (@zp6) (@zfv))) (And.intro (@zp7) (And.intro (@zk6) (@zfw)))) (And.intro (And.intro (@zsl) (And.intro (@zsm) (@zsn))) (And.intro (And.intro (@zso) (@zfx)) (And.intro (@zk8) (@z9s))))) (And.intro (And.intro (And.intro (@zfy) (And.intro (@zfz) (@z9t))) (And.intro (And.intro (@zg0) (@zc7)) (And.intro (@zc8) (@z60)))) (And.intro (And.intro (@z61) (And.intro (@zk7) (@zg1))) (And.intro (And.intro (@zg2) (@zg5)) (And.intro (@zc9) (@zax)))))) (And.intro (And.intro (And.intro (And.intro (@zp5) (And.intro (@zk4) (@zc6))) (And.intro (@Tr.get_put) (And.intro (@zay) (@zfu)))) (And.intro (And.intro (@Option.getD_some.{0}) (And.intro (@Nat.add_zero) (@Nat.zero_add))) (And.intro (And.intro (@List.all_cons.{0}) (@List.all_nil.{0})) (And.intro (@Bool.and_self) (@zaz))))) (And.intro (And.intro (And.intro (@zg3) (And.intro (@zg4) (@z14))) (And.intro (And.intro (@get_new) (@get_put)) (And.intro (@z82) (@z83)))) (And.intro (And.intro (@List.drop_succ_cons.{0}) (And.intro (@List.drop_zero.{0}) (@List.take_succ_cons.{0}))) (And.intro (And.intro (@List.take_zero.{0}) (@List.length_cons.{0})) (And.intro (@List.length_nil.{0}) (@Nat.beq_refl))))))) (And.intro (And.intro (And.intro (And.intro (And.intro (@List.map_cons.{0,0}) (And.intro (@List.map_nil.{0,0}) (@z43))) (And.intro (@z84) (And.intro (@z45) (@z85)))) (And.intro (And.intro (@List.cons_append.{0}) (And.intro (@List.nil_append.{0}) (@List.append_nil.{0}))) (And.intro (And.intro (@Ze) (@and_self)) (And.intro (@and_true) (@true_and))))) (And.intro (And.intro (And.intro (@List.drop_nil.{0}) (And.intro (@z00) (@z37))) (And.intro (And.intro (@z0b) (@z4v)) (And.intro (@z04) (@z02)))) (And.intro (And.intro (@z9r) (And.intro (@z5z) (@List.getElem?_cons_succ.{0}))) (And.intro (And.intro (@List.getElem?_cons_zero.{0}) (@zg6)) (And.intro (@zg7) (@zg8)))))) (And.intro (And.intro (And.intro (And.intro (@zg9) (And.intro (@zga) (@zgb))) (And.intro (And.intro (@zp8) (@zp9)) (And.intro (@z87) (@zpa)))) (And.intro (And.intro (@zpb) (And.intro (@zpc) (@zk9))) (And.intro (And.intro (@zcb) (@zgd)) (And.intro (@z54) (@zge))))) (And.intro (And.intro (And.intro (@zcc) (And.intro (@z9x) (@z62))) (And.intro (And.intro (@z74) (@zcg)) (And.intro (@z8d) (@zgg)))) (And.intro (And.intro (@z9w) (And.intro (@Option.map_some.{0,0}) (@Option.map_none.{0,0}))) (And.intro (And.intro (@List.getElem?_nil.{0}) (@Option.some.injEq.{0})) (And.intro (@Nat.mul_one) (@Zv)))))))
theorem sD:type_of% (And.intro (And.intro (And.intro (And.intro (And.intro (@zkb) (@zkc)) (And.intro (@zpd) (@zkd))) (And.intro (And.intro (@zke) (@zgk)) (And.intro (@zcl) (And.intro (@zpe) (@zpf))))) (And.intro (And.intro (And.intro (@zpg) (@zph)) (And.intro (@zcm) (@zcn))) (And.intro (And.intro (@zgl) (@zgm)) (And.intro (@zkf) (And.intro (@zgn) (@zco)))))) (And.intro (And.intro (And.intro (And.intro (@zpi) (@zpj)) (And.intro (@zpk) (@zpl))) (And.intro (And.intro (@zcp) (@zkg)) (And.intro (@zgo) (And.intro (@true_or) (@or_true))))) (And.intro (And.intro (And.intro (@false_or) (@z9v)) (And.intro (@Nat.sub_self) (@Nat.sub_zero))) (And.intro (And.intro (@z4j) (@zgi)) (And.intro (@List.size_toArray.{0}) (And.intro (@z8h) (@zcj))))))):=And.intro (And.intro (And.intro (And.intro (And.intro (@zkb) (@zkc)) (And.intro (@zpd) (@zkd))) (And.intro (And.intro (@zke) (@zgk)) (And.intro (@zcl) (And.intro (@zpe) (@zpf))))) (And.intro (And.intro (And.intro (@zpg) (@zph)) (And.intro (@zcm) (@zcn))) (And.intro (And.intro (@zgl) (@zgm)) (And.intro (@zkf) (And.intro (@zgn) (@zco)))))) (And.intro (And.intro (And.intro (And.intro (@zpi) (@zpj)) (And.intro (@zpk) (@zpl))) (And.intro (And.intro (@zcp) (@zkg)) (And.intro (@zgo) (And.intro (@true_or) (@or_true))))) (And.intro (And.intro (And.intro (@false_or) (@z9v)) (And.intro (@Nat.sub_self) (@Nat.sub_zero))) (And.intro (And.intro (@z4j) (@zgi)) (And.intro (@List.size_toArray.{0}) (And.intro (@z8h) (@zcj))))))
theorem sV:type_of% (And.intro (And.intro (And.intro (@zkh) (@zpn)) (And.intro (@zki) (And.intro (@zgp) (@z8j)))) (And.intro (And.intro (@zpo) (And.intro (@zgq) (@zpp))) (And.intro (@zgr) (And.intro (@zkj) (@zpq))))):=And.intro (And.intro (And.intro (@zkh) (@zpn)) (And.intro (@zki) (And.intro (@zgp) (@z8j)))) (And.intro (And.intro (@zpo) (And.intro (@zgq) (@zpp))) (And.intro (@zgr) (And.intro (@zkj) (@zpq))))
theorem sB:type_of% (And.intro (@sA) (And.intro (@if_true.{1}) (@if_false.{1}))):=And.intro (@sA) (And.intro (@if_true.{1}) (@if_false.{1}))
theorem sG:type_of% (And.intro (@Tr.get_put) (And.intro (@if_true.{1}) (@if_false.{1}))):=And.intro (@Tr.get_put) (And.intro (@if_true.{1}) (@if_false.{1}))
end Go.Hb
end

section
namespace Go.Hb
open Go Go.RowKit
def MapR (H:Heap) (r:Nat) (M:List (Int × Value)):Prop:=∃es clock,H.get r=some (.map es clock)/\es.map (fun e=>(e.key,e.val))=M.map fun p=>(Value.int .i64 p.1,p.2)
section
variable {P:Program}{H:Heap}
theorem z8k:∀(es:List MapEntry) (M:List (Int × Value)) (n:Int) (i:Nat),es.map (fun e=>(e.key,e.val))=M.map (fun p=>(Value.int .i64 p.1,p.2)) ->
  Instr.findNow (.int .i64) (.int .i64 n) (keysOf es) i=some ((M.findIdx? fun p=>p.1 == n).map fun j=>(i+j,.bool false))
 |[],[],_,_,_=>rfl
 |[],_ :: _,_,_,h=>by simp at h
 |_ :: _,[],_,_,h=>by simp at h
 |e :: es,p :: M,n,i,h=>by
  simp only[List.map_cons,List.cons.injEq,Prod.mk.injEq] at h;have hk:e.key=.int .i64 p.1:=h.1.1;have ih:=z8k es M n (i+1) h.2;unfold keysOf at ih ⊢;rw[List.map_cons];unfold Instr.findNow;simp only[hk,Instr.sameNow,if_true,List.findIdx?_cons];by_cases he:p.1=n
  ·subst he;simp
  ·have h1:(n == p.1)=false:=by simp;omega
   have h2:(p.1 == n)=false:=by simp;omega
   simp only[h1,h2];rw[ih];cases M.findIdx? fun p=>p.1 == n with
   |none=>rfl
   |some j=>simp only[Option.map_some,Option.some.injEq,Prod.mk.injEq,and_true,Zd,if_false];omega
theorem z8l {kt:TypeId}{emp:Bool}{es:List MapEntry}{M:List (Int × Value)}{n:Int}(hk:P.underlying kt=some (.int .i64)) (h:es.map (fun e=>(e.key,e.val))=M.map fun p=>(Value.int .i64 p.1,p.2)) :
  dfind P emp kt (.int .i64 n) es=some (M.findIdx? fun p=>p.1 == n):=by
 have hu:pureRun P (underlying kt)=some (.int .i64):=z0i hk;have h1:pureRun P (Instr.checkKey emp 10000 kt (.int .i64 n))=some ():=by
  unfold Instr.checkKey;rw[z09,hu,Zs];rfl
 have h2:pureRun P (Instr.findKey kt (.int .i64 n) (keysOf es))=some ((M.findIdx? fun p=>p.1 == n).map fun j=>(j,.bool false)):=by
  unfold Instr.findKey;rw[z09,hu,Zs,z8k es M n 0 h];simp only[Nat.zero_add];rfl
 unfold dfind;rw[h1,h2];simp only[flat];cases M.findIdx? fun p=>p.1 == n<;>rfl
def mGet (M:List (Int × Value)) (n:Int):Option Value:=(M.find? fun p=>p.1 == n).map (·.2)
theorem zb3 {M:List (Int × Value)}{n:Int}:(M.findIdx? fun p=>p.1 == n)=none/\mGet M n=none\/∃i v,(M.findIdx? fun p=>p.1 == n)=some i/\M[i]?=some (n,v)/\mGet M n=some v:=by
 unfold mGet
 induction M with
 |nil=>left;exact⟨rfl,rfl⟩
 |cons p M ih =>
  by_cases hp:p.1=n
  ·right;have hb:(p.1 == n)=true:=by simp [hp]
   refine⟨0,p.2,by simp [List.findIdx?_cons,hb],by rw[<-hp];rfl,by simp [List.find?_cons,hb]⟩
  ·have hb:(p.1 == n)=false:=by simp [hp]
   rcases ih with ⟨h1,h2⟩|⟨i,v,h1,h2,h3⟩
   ·left;exact⟨by simp [List.findIdx?_cons,hb];simpa using h1,by simpa [List.find?_cons,hb] using h2⟩
   ·right;refine⟨i+1,v,by simp [List.findIdx?_cons,hb,h1],by simpa using h2,by simpa [List.find?_cons,hb] using h3⟩
def dLk (P:Program) (t:TypeId) (m k:Value) (ok:Bool) (H:Heap):Option Dr:=dlookup P t m k ok H
def dUp (P:Program) (t:TypeId) (m k v:Value) (H:Heap):Option Dr:=dupdate P t m k v H
def mpOk (P:Program) (t kt et:TypeId) (z:Value):Prop:=P.underlying t=some (.map kt et)/\P.underlying kt=some (.int .i64)/\pureRun P (zeroValue et)=some z/\flat z=true
theorem z15 {d:Option Tmp}{t:TypeId}{m k:Operand}{ok:Bool}{ty:TypeId}{pos:String}{af:Array Edge}{g:Option (Nat × Bool)}{ρ:Operand->Value}:dop P ⟨d,.lookup t m k ok,ty,pos,af,g⟩ ρ H=dLk P t (ρ m) (ρ k) ok H:=_root_.id rfl
theorem z24 {d:Option Tmp}{t:TypeId}{m k v:Operand}{ty:TypeId}{pos:String}{af:Array Edge}{g:Option (Nat × Bool)}{ρ:Operand->Value}:dop P ⟨d,.mapUpdate t m k v,ty,pos,af,g⟩ ρ H=dUp P t (ρ m) (ρ k) (ρ v) H:=_root_.id rfl
theorem z47 {d:Option Tmp}{t:TypeId}{ty:TypeId}{pos:String}{af:Array Edge}{g:Option (Nat × Bool)}{ρ:Operand->Value}:dop P ⟨d,.makeMap t none,ty,pos,af,g⟩ ρ H=some (.val (.map (some H.next)) (H.new (some (.map [] 0)))):=_root_.id rfl
theorem MapR.new:MapR (H.new (some (.map [] 0))) H.next []:=⟨[],0,by rw[Heap.get_new,if_pos rfl],rfl⟩
theorem MapR.heap {H':Heap}{r:Nat}{M:List (Int × Value)}(h:MapR H r M) (hk:H'.get r=H.get r):MapR H' r M:=by
 obtain⟨es,clock,hg,he⟩:=h;exact⟨es,clock,hk.trans hg,he⟩
theorem MapR.lt {r:Nat}{M:List (Int × Value)}(h:MapR H r M) (hw:H.wf):r < H.next:=by obtain⟨es,clock,hg,he⟩:=h;exact hw _ _ hg
theorem z4w {t kt et:TypeId}{z v:Value}{r:Nat}{M:List (Int × Value)}{n:Int}{ok:Bool}(h:mpOk P t kt et z) (hm:MapR H r M) (hv:mGet M n=some v) :
  dLk P t (.map (some r)) (.int .i64 n) ok H=some (.val (if ok then .tuple #[v,.bool true] else v) H):=by
 obtain⟨h1,h2,h3,h4⟩:=h;obtain⟨es,clock,hg,he⟩:=hm;rcases zb3 (M:=M) (n:=n) with ⟨_,h5⟩|⟨i,u,h5,h6,h7⟩
 ·rw[h5] at hv;cases hv
 ·rw[h7] at hv;cases hv;have hi:∃e,es[i]?=some e/\e.val=v:=by
   have:=congrArg (·[i]?) he;simp only[Zj,h6,Option.map_some,Option.map_eq_some_iff,Prod.mk.injEq] at this;obtain⟨e,h8,-,h9⟩:=this;exact⟨e,h8,h9⟩
  obtain⟨e,h8,h9⟩:=hi;simp only[dLk,dlookup,h1,hg,z8l h2 he,h5,h8,h9]
theorem z63 {t kt et:TypeId}{z:Value}{r:Nat}{M:List (Int × Value)}{n:Int}{ok:Bool}(h:mpOk P t kt et z) (hm:MapR H r M) (hv:mGet M n=none) :
  dLk P t (.map (some r)) (.int .i64 n) ok H=some (.val (if ok then .tuple #[z,.bool false] else z) H):=by
 obtain⟨h1,h2,h3,h4⟩:=h;obtain⟨es,clock,hg,he⟩:=hm;rcases zb3 (M:=M) (n:=n) with ⟨h5,_⟩|⟨i,u,h5,h6,h7⟩
 ·simp only[dLk,dlookup,h1,hg,z8l h2 he,h5,h3,h4,if_true]
 ·rw[h7] at hv;cases hv
theorem zkk {t kt et:TypeId}{z v:Value}{r:Nat}{M:List (Int × Value)}{n:Int}(h:mpOk P t kt et z) (hm:MapR H r M) (hv:mGet M n=none) :
  ∃B,dUp P t (.map (some r)) (.int .i64 n) v H=some (.val undef (H.put r (some B)))/\MapR (H.put r (some B)) r (M++[(n,v)]):=by
 obtain⟨h1,h2,h3,h4⟩:=h;obtain⟨es,clock,hg,he⟩:=hm;rcases zb3 (M:=M) (n:=n) with ⟨h5,_⟩|⟨i,u,h5,h6,h7⟩
 ·refine⟨.map (es++[{ key:=.int .i64 n,val:=v,born:=clock }]) (clock+1),by simp only[dUp,dupdate,h1,hg,z8l h2 he,h5],_,_,by rw[Heap.get_put,if_pos rfl],?_⟩;rw[ZK,ZK,he];rfl
 ·rw[h7] at hv;cases hv
theorem zcr {M:List (Int × Value)}{n m:Int}{v:Value}(h:mGet M n=none):mGet (M++[(n,v)]) m=if m=n then some v else mGet M m:=by
 unfold mGet at *;rw[List.find?_append];by_cases hm:m=n
 ·subst hm;have:M.find? (fun p=>p.1 == m)=none:=by simpa using h
  rw[if_pos rfl,this];simp
 ·rw[if_neg hm];have:((n == m):Bool)=false:=by simp;omega
  simp [List.find?_cons,this]
end
end Go.Hb
end

section
namespace Go.Hb
open Go Go.RowKit
abbrev six (t:Tm) (a:Option Addr) (c:Nat):List Value:=[.int .i64 t.kind,.string t.name,.string t.num,.int .u64 t.bits,.int .i64 t.var,.slice a t.args.length c]
theorem row6 {H:Heap}{p:Nat}{T:TypeId}{x0 x1 x2 x3 x4 x5:Value}(h:H.get p=some (Blk.row [x0,x1,x2,x3,x4,x5] T)) :
  H.load ⟨p,0,none⟩ 1=some [x0]/\H.load ⟨p,1,none⟩ 1=some [x1]/\H.load ⟨p,2,none⟩ 1=some [x2]/\H.load ⟨p,3,none⟩ 1=some [x3]/\H.load ⟨p,4,none⟩ 1=some [x4]/\H.load ⟨p,5,none⟩ 1=some [x5] /\
  H.load ⟨p,0,none⟩ 6=some [x0,x1,x2,x3,x4,x5]:=by
 refine⟨?_,?_,?_,?_,?_,?_,?_⟩<;>simp only[Heap.load,Heap.cells,h]<;>rfl
theorem row2 {H:Heap}{p:Nat}{T:TypeId}{x0 x1:Value}(h:H.get p=some (Blk.row [x0,x1] T)):H.load ⟨p,0,none⟩ 1=some [x0]/\H.load ⟨p,1,none⟩ 1=some [x1]:=by
 refine⟨?_,?_⟩<;>simp only[Heap.load,Heap.cells,h]<;>rfl
theorem new1 {H:Heap}(hw:H.wf) (A:Blk):∃H2,H.new (some A)=H2/\HX H H2/\H2.get H.next=some A/\H2.next=H.next+1/\H2.wf:=by
 have hx:=(HX.refl hw).new (some A);exact⟨_,rfl,hx,z0z,rfl,hx.wf⟩
theorem new2 {H:Heap}(hw:H.wf) (A B:Blk):∃H2,(H.new (some A)).new (some B)=H2/\HX H H2/\H2.get H.next=some A/\H2.get (H.next+1)=some B/\H2.next=H.next+2/\H2.wf:=by
 have hx:=((HX.refl hw).new (some A)).new (some B);refine⟨_,rfl,hx,?_,?_,rfl,hx.wf⟩
 ·rw[get_new,if_neg (by show H.next≠H.next+1;omega),get_new,if_pos rfl]
 ·rw[get_new];exact if_pos rfl
theorem zii {H:Heap}(hw:H.wf) (n i:Nat) (hi:i < n) (A:Blk):∃H2,Heap.put ⟨H.next+n,H.t⟩ (H.next+i) (some A)=H2/\HX H H2/\H2.get (H.next+i)=some A/\H2.wf:=by
 have hx:=((HX.refl hw).bump n).put (i:=H.next+i) (Nat.le_add_right _ _) (show H.next+i < H.next+n by omega) (some A);exact⟨_,rfl,hx,by rw[get_put,if_pos rfl],hx.wf⟩
theorem z3g {H:Heap}(hw:H.wf) (n:Nat):∃H2,(⟨H.next+n,H.t⟩:Heap)=H2/\HX H H2/\H2.wf:=⟨_,rfl,(HX.refl hw).bump n,((HX.refl hw).bump n).wf⟩
theorem HX.get {H H':Heap}(h:HX H H') (hw:H.wf) {p:Nat}{B:Blk}(hp:H.get p=some B):H'.get p=some B:=by
 rw[h.keep p (hw p B hp)];exact hp
theorem HX.lt {H H':Heap}(h:HX H H') (hw:H.wf) {p:Nat}{B:Blk}(hp:H.get p=some B):p < H'.next:=Zo (hw p B hp) h.next
theorem RepT.six {H:Heap}{t:Tm}{cs:List Value}(r:RepT H t cs):∃a c cells,cs=six t a c/\i64 t.kind/\t.name.size<=maxLen/\t.num.size<=maxLen/\u64 t.bits/\i64 t.var/\RepL H t.args a c cells:=r.inv
theorem RepL.max {H:Heap}{l:List Tm}{a:Option Addr}{c:Nat}{cells:Nat->List Value}(r:RepL H l a c cells):l.length<=9223372036854775807:=ZC r.len r.cap
theorem RepL.el {H:Heap}{l:List Tm}{a:Option Addr}{c:Nat}{cells:Nat->List Value}(r:RepL H l a c cells) {i:Nat}(h:i < l.length) :
  ∃b o a' c',a=some ⟨b,o,none⟩/\H.load ⟨b,o+i*6,none⟩ 6=some (Hb.six l[i] a' c')/\RepT H l[i] (Hb.six l[i] a' c'):=by
 obtain⟨b,o,rfl,hl,hr⟩:=r.at (Zc h);obtain⟨a',c',cells',hc,-⟩:=hr.six;rw[hc] at hl hr;exact⟨b,o,a',c',rfl,hl,hr⟩
theorem decl {i n:Nat}(h:i < n):decide ((i:Int) < (n:Int))=true:=decide_eq_true (by omega)
theorem decn {i n:Nat}(h:¬i < n):decide ((i:Int) < (n:Int))=false:=decide_eq_false (by omega)
end Go.Hb
end

section
namespace Go.Hb
open Go Go.RowKit
theorem RepT.len {H:Heap}{t:Tm}{cs:List Value}(r:RepT H t cs):cs.length=6:=by obtain⟨a,c,cells,rfl,-⟩:=r.six;rfl
theorem RepL.of_row {H:Heap}{l:List Tm}{css:Nat->List Value}{b c:Nat}{vs:List Value}{T:TypeId}(g:H.get b=some (.row vs T)) (hv:∀i,i < l.length->(vs.drop (i*6)).take 6=css i)
  (hr:∀i t,l[i]?=some t->RepT H t (css i)) (hl:l.length<=c) (hm:c<=maxLen):RepL H l (some ⟨b,0,none⟩) c css:=by
 refine⟨hl,hm,(fun h=>by cases h),(fun i ad hi ha=>?_),hr⟩;cases ha;refine⟨rfl,?_⟩;have hlen:=(hr i l[i] (Zc hi)).len;unfold Heap.load Heap.cells;simp only[g,Nat.zero_add,hv i hi];rw[if_pos (by rw[Zu];exact hlen)]
theorem RepL.two {H:Heap}{t t':Tm}{cs cs':List Value}{b:Nat}{T:TypeId}(r:RepT H t cs) (r':RepT H t' cs') (g:H.get b=some (.row (cs++cs') T)) :
  RepL H [t,t'] (some ⟨b,0,none⟩) 2 (fun i=>if i=0 then cs else cs'):=by
 refine RepL.of_row g (fun i hi=>?_) (fun i u hu=>?_) (Ze _) (by simp [maxLen])
 ·have h1:=r.len;have h2:=r'.len
  match i,hi with
  |0,_=>simp [h1]
  |1,_=>simp [h1,h2];exact Zq (by omega)
 ·match i,hu with
  |0,hu=>cases hu;exact r
  |1,hu=>cases hu;exact r'
theorem RepL.three {H:Heap}{t t' t2:Tm}{cs cs' cs2:List Value}{b:Nat}{T:TypeId}(r:RepT H t cs) (r':RepT H t' cs') (r2:RepT H t2 cs2) (g:H.get b=some (.row (cs++cs'++cs2) T)) :
  RepL H [t,t',t2] (some ⟨b,0,none⟩) 3 (fun i=>if i=0 then cs else if i=1 then cs' else cs2):=by
 refine RepL.of_row g (fun i hi=>?_) (fun i u hu=>?_) (Ze _) (by simp [maxLen])
 ·have h1:=r.len;have h2:=r'.len;have h3:=r2.len
  match i,hi with
  |0,_=>simp [h1]
  |1,_=>simp [h1,h2]
  |2,_ =>
   have e:(cs++cs'++cs2).drop 12=cs2:=by rw[show 12=(cs++cs').length by simp [h1,h2],List.drop_left]
   show ((cs++cs'++cs2).drop 12).take 6=_;rw[e];exact Zq (by omega)
 ·match i,hu with
  |0,hu=>cases hu;exact r
  |1,hu=>cases hu;exact r'
  |2,hu=>cases hu;exact r2
end Go.Hb
end

section
namespace Go.Hb
open Go Go.RowKit
def Rg (a b:Nat):Nat->Prop:=fun n=>a<=n/\n < b
structure HK (S:Nat->Prop) (H H':Heap):Prop where
 next:H.next<=H'.next
 keep:∀i,i < H.next->¬S i->H'.get i=H.get i
 wf:H'.wf
theorem HX.hk {H H':Heap}(h:HX H H') (S:Nat->Prop):HK S H H':=⟨h.next,fun i hi _=>h.keep i hi,h.wf⟩
theorem HK.refl {S:Nat->Prop}{H:Heap}(h:H.wf):HK S H H:=(HX.refl h).hk S
theorem HK.trans {S:Nat->Prop}{A B C:Heap}(h:HK S A B) (k:HK S B C):HK S A C :=
 ⟨ZC h.next k.next,fun i hi hs=>by rw[k.keep i (Zo hi h.next) hs,h.keep i hi hs],k.wf⟩
theorem HK.sub {S S':Nat->Prop}{A B:Heap}(h:HK S A B) (hs:∀n,n < A.next->S n->S' n):HK S' A B:=⟨h.next,fun i hi hn=>h.keep i hi fun q=>hn (hs i hi q),h.wf⟩
theorem HK.put {S:Nat->Prop}{A H:Heap}(h:HK S A H) {i:Nat}(hi:S i\/A.next<=i) (hl:i < H.next) (B:Option Blk):HK S A (H.put i B):=by
 refine⟨h.next,fun j hj hs=>?_,fun j C hC=>?_⟩
 ·rw[Heap.get_put,if_neg (fun e=>by subst e;rcases hi with hi|hi;exact hs hi;omega)];exact h.keep j hj hs
 ·rw[Heap.get_put] at hC;show j < H.next;by_cases hj:j=i
  ·omega
  ·rw[if_neg hj] at hC;exact h.wf j C hC
theorem HK.new {S:Nat->Prop}{A H:Heap}(h:HK S A H) (B:Option Blk):HK S A (H.new B):=h.trans (((HX.refl h.wf).new B).hk S)
theorem HK.bump {S:Nat->Prop}{A H:Heap}(h:HK S A H) (k:Nat):HK S A ⟨H.next+k,H.t⟩:=h.trans (((HX.refl h.wf).bump k).hk S)
theorem HK.get {S:Nat->Prop}{H H':Heap}(h:HK S H H') (hw:H.wf) {p:Nat}{B:Blk}(hp:H.get p=some B) (hs:¬S p):H'.get p=some B:=by
 rw[h.keep p (hw p B hp) hs];exact hp
theorem HK.hx {S:Nat->Prop}{H H':Heap}(h:HK S H H') (hs:∀n,n < H.next->¬S n):HX H H':=⟨h.next,fun i hi=>h.keep i hi (hs i hi),h.wf⟩
theorem HX.then {S:Nat->Prop}{A B C:Heap}(h:HX A B) (k:HK S B C) (hs:∀n,n < A.next->¬S n):HX A C :=
 ⟨ZC h.next k.next,fun i hi=>by rw[k.keep i (Zo hi h.next) (hs i hi),h.keep i hi],k.wf⟩
structure Bd (t:Tm):Prop where
 kind:i64 t.kind
 name:t.name.size<=maxLen
 num:t.num.size<=maxLen
 bits:u64 t.bits
 var:i64 t.var
inductive FL (H:Heap) (T:TypeId):(Nat->Prop)->List Tm->Option Addr->Nat->Prop
 |nil (S:Nat->Prop):FL H T S [] none 0
 |row (S:Nat->Prop) (l:List Tm) (b c:Nat) (cells:List Value) (Si:Nat->Nat->Prop) (ai:Nat->Option Addr) (ci:Nat->Nat):l.length<=c->c<=maxLen->H.get b=some (.row cells T)->l.length*6<=cells.length ->
   (∀(i:Nat) (u:Tm),l[i]?=some u->(cells.drop (i*6)).take 6=six u (ai i) (ci i))->(∀(i:Nat) (u:Tm),l[i]?=some u->Bd u)->S b->(∀i,i < l.length->¬Si i b)->(∀i n,i < l.length->Si i n->S n) ->
   (∀i j n,i < l.length->j < l.length->Si i n->Si j n->i=j)->(∀(i:Nat) (u:Tm),l[i]?=some u->FL H T (Si i) u.args (ai i) (ci i))->FL H T S l (some ⟨b,0,none⟩) c
theorem FL.sub {H:Heap}{T:TypeId}{S S':Nat->Prop}{l:List Tm}{a:Option Addr}{c:Nat}(h:FL H T S l a c) (hs:∀n,S n->S' n):FL H T S' l a c:=by
 cases h with
 |nil=>exact .nil _
 |row _ _ b c cells Si ai ci h1 h2 h3 h4 h5 h6 h7 h8 h9 h10 h11=>exact .row S' l b c cells Si ai ci h1 h2 h3 h4 h5 h6 (hs _ h7) h8 (fun i n hi hn=>hs _ (h9 i n hi hn)) h10 h11
theorem FL.heap {H H':Heap}{T:TypeId}{S:Nat->Prop}{l:List Tm}{a:Option Addr}{c:Nat}(h:FL H T S l a c):(∀n,S n->n < H.next->H'.get n=H.get n)->H.wf->FL H' T S l a c:=by
 induction h with
 |nil=>intro _ _;exact .nil _
 |row S l b c cells Si ai ci h1 h2 h3 h4 h5 h6 h7 h8 h9 h10 h11 ih =>
  intro hk hw;exact .row S l b c cells Si ai ci h1 h2 (by rw[hk b h7 (hw b _ h3)];exact h3) h4 h5 h6 h7 h8 h9 h10 (fun i u hu=>ih i u hu (fun n hn=>hk n (h9 i n (List.getElem?_eq_some_iff.1 hu).1 hn)) hw)
theorem FL.keep {H H':Heap}{T:TypeId}{S:Nat->Prop}{l:List Tm}{a:Option Addr}{c:Nat}(h:FL H T S l a c) (hx:HX H H') (hw:H.wf):FL H' T S l a c:=h.heap (fun n _ hl=>hx.keep n hl) hw
theorem FL.beside {H H':Heap}{T:TypeId}{S S':Nat->Prop}{l:List Tm}{a:Option Addr}{c:Nat}(h:FL H T S l a c) (hx:HK S' H H') (hw:H.wf) (hd:∀n,S n->¬S' n):FL H' T S l a c:=h.heap (fun n hs hl=>hx.keep n hl (hd n hs)) hw
theorem FL.len {H:Heap}{T:TypeId}{S:Nat->Prop}{l:List Tm}{a:Option Addr}{c:Nat}(h:FL H T S l a c):l.length<=c/\c<=maxLen/\(a=none->l=[]/\c=0):=by
 cases h with
 |nil=>exact⟨Ze _,ZA _,fun _=>⟨rfl,rfl⟩⟩
 |row _ _ b c cells Si ai ci h1 h2=>exact⟨h1,h2,fun h=>by cases h⟩
theorem FL.rep {H:Heap}{T:TypeId}{S:Nat->Prop}{l:List Tm}{a:Option Addr}{c:Nat}(h:FL H T S l a c):∃cells,RepL H l a c cells:=by
 induction h with
 |nil=>exact⟨fun _=>[],Ze _,ZA _,fun _=>⟨rfl,rfl⟩,fun i ad hi=>by simp at hi,fun i t h=>by simp at h⟩
 |row S l b c cells Si ai ci h1 h2 h3 h4 h5 h6 h7 h8 h9 h10 h11 ih =>
  refine⟨fun i=>(cells.drop (i*6)).take 6,RepL.of_row h3 (fun i hi=>rfl) (fun i t ht=>?_) h1 h2⟩;show RepT H t ((cells.drop (i*6)).take 6);rw[h5 i t ht];obtain⟨cs,rl⟩:=ih i t ht;have hb:=h6 i t ht;obtain⟨k,s,u,bb,v,l'⟩:=t;exact .mk k s u bb v l' (ai i) (ci i) cs hb.kind hb.name hb.num hb.bits hb.var (ZC rl.len rl.cap) rl.len rl.cap rl.nil rl.load rl.rep
def RepF (H:Heap) (T:TypeId) (S:Nat->Prop) (t:Tm) (cs:List Value):Prop:=∃a c,cs=six t a c/\Bd t/\FL H T S t.args a c
theorem RepF.rep {H:Heap}{T:TypeId}{S:Nat->Prop}{t:Tm}{cs:List Value}(h:RepF H T S t cs):RepT H t cs:=by
 obtain⟨a,c,rfl,hb,hf⟩:=h;obtain⟨cells,rl⟩:=hf.rep;obtain⟨k,s,u,bb,v,l'⟩:=t;exact .mk k s u bb v l' a c cells hb.kind hb.name hb.num hb.bits hb.var (ZC rl.len rl.cap) rl.len rl.cap rl.nil rl.load rl.rep
theorem RepF.keep {H H':Heap}{T:TypeId}{S:Nat->Prop}{t:Tm}{cs:List Value}(h:RepF H T S t cs) (hx:HX H H') (hw:H.wf):RepF H' T S t cs:=by
 obtain⟨a,c,e,hb,hf⟩:=h;exact⟨a,c,e,hb,hf.keep hx hw⟩
theorem RepF.beside {H H':Heap}{T:TypeId}{S S':Nat->Prop}{t:Tm}{cs:List Value}(h:RepF H T S t cs) (hx:HK S' H H') (hw:H.wf) (hd:∀n,S n->¬S' n):RepF H' T S t cs:=by
 obtain⟨a,c,e,hb,hf⟩:=h;exact⟨a,c,e,hb,hf.beside hx hw hd⟩
theorem RepF.sub {H:Heap}{T:TypeId}{S S':Nat->Prop}{t:Tm}{cs:List Value}(h:RepF H T S t cs) (hs:∀n,S n->S' n):RepF H T S' t cs:=by
 obtain⟨a,c,e,hb,hf⟩:=h;exact⟨a,c,e,hb,hf.sub hs⟩
theorem RepT.bd {H:Heap}{t:Tm}{cs:List Value}(r:RepT H t cs):Bd t:=by
 obtain⟨a,c,cells,-,b1,b2,b3,b4,b5,-⟩:=r.six;exact⟨b1,b2,b3,b4,b5⟩
structure FLs (H:Heap) (T:TypeId) (S:Nat->Prop) (l:List Tm) (cells:List Value) (Si:Nat->Nat->Prop) (ai:Nat->Option Addr) (ci:Nat->Nat):Prop where
 el:∀(i:Nat) (u:Tm),l[i]?=some u->(cells.drop (i*6)).take 6=six u (ai i) (ci i)
 bd:∀(i:Nat) (u:Tm),l[i]?=some u->Bd u
 sub:∀i n,i < l.length->Si i n->S n
 one:∀i j n,i < l.length->j < l.length->Si i n->Si j n->i=j
 fl:∀(i:Nat) (u:Tm),l[i]?=some u->FL H T (Si i) u.args (ai i) (ci i)
theorem FLs.nil {H:Heap}{T:TypeId}{S:Nat->Prop}{cells:List Value}{Si:Nat->Nat->Prop}{ai:Nat->Option Addr}{ci:Nat->Nat}:FLs H T S [] cells Si ai ci :=
 ⟨fun i u h=>by simp at h,fun i u h=>by simp at h,fun i n h=>by simp at h,fun i j n h=>by simp at h,fun i u h=>by simp at h⟩
theorem FLs.snoc {H H':Heap}{T:TypeId}{S S' N:Nat->Prop}{l:List Tm}{cells cells':List Value}{Si:Nat->Nat->Prop}{ai:Nat->Option Addr}{ci:Nat->Nat}{t:Tm}{a:Option Addr}{c:Nat}
  (h:FLs H T S l cells Si ai ci) (hk:∀n,S n->n < H.next->H'.get n=H.get n) (hw:H.wf) (ht:FL H' T N t.args a c) (hb:Bd t) (hN:∀n,N n->¬S n) (hS:∀n,S n->S' n) (hNS:∀n,N n->S' n)
  (hc:∀i,i < l.length->(cells'.drop (i*6)).take 6=(cells.drop (i*6)).take 6) (hn:(cells'.drop (l.length*6)).take 6=six t a c) :
  FLs H' T S' (l++[t]) cells' (fun i=>if i < l.length then Si i else N) (fun i=>if i < l.length then ai i else a) (fun i=>if i < l.length then ci i else c):=by
 have key:∀(i:Nat) (u:Tm),(l++[t])[i]?=some u->(i < l.length/\l[i]?=some u)\/(i=l.length/\u=t):=fun i u hu=>by
  by_cases hi:i < l.length
  ·rw[ZI hi] at hu;exact .inl ⟨hi,hu⟩
  ·rw[List.getElem?_append_right (by omega)] at hu;have:i - l.length=0:=by
    have:=(List.getElem?_eq_some_iff.1 hu).1;simp at this;omega
   rw[this] at hu;simp at hu;exact .inr ⟨by omega,hu.symm⟩
 refine⟨fun i u hu=>?_,fun i u hu=>?_,fun i n hi hn=>?_,fun i j n hi hj hn hm=>?_,fun i u hu=>?_⟩
 ·rcases key i u hu with ⟨hi,hu⟩|⟨rfl,rfl⟩
  ·simp only[hi,if_true];rw[hc i hi];exact h.el i u hu
  ·simp only[Nat.lt_irrefl,if_false];exact hn
 ·rcases key i u hu with ⟨hi,hu⟩|⟨rfl,rfl⟩
  ·exact h.bd i u hu
  ·exact hb
 ·by_cases h1:i < l.length
  ·simp only[h1,if_true] at hn;exact hS n (h.sub i n h1 hn)
  ·simp only[h1,if_false] at hn;exact hNS n hn
 ·simp only[Zm,ZN] at hi hj;by_cases h1:i < l.length<;>by_cases h2:j < l.length
  ·simp only[h1,h2,if_true] at hn hm;exact h.one i j n h1 h2 hn hm
  ·simp only[h1,if_true] at hn;simp only[h2,if_false] at hm;exact absurd (h.sub i n h1 hn) (hN n hm)
  ·simp only[h2,if_true] at hm;simp only[h1,if_false] at hn;exact absurd (h.sub j n h2 hm) (hN n hn)
  ·omega
 ·rcases key i u hu with ⟨hi,hu⟩|⟨rfl,rfl⟩
  ·simp only[hi,if_true];exact(h.fl i u hu).heap (fun n hn hl=>hk n (h.sub i n hi hn) hl) hw
  ·simp only[Nat.lt_irrefl,if_false];exact ht
theorem FLs.heap {H H':Heap}{T:TypeId}{S:Nat->Prop}{l:List Tm}{cells:List Value}{Si:Nat->Nat->Prop}{ai:Nat->Option Addr}{ci:Nat->Nat}(h:FLs H T S l cells Si ai ci)
  (hk:∀n,S n->n < H.next->H'.get n=H.get n) (hw:H.wf):FLs H' T S l cells Si ai ci :=
 ⟨h.el,h.bd,h.sub,h.one,fun i u hu=>(h.fl i u hu).heap (fun n hn hl=>hk n (h.sub i n (List.getElem?_eq_some_iff.1 hu).1 hn) hl) hw⟩
theorem FLs.row {H:Heap}{T:TypeId}{S S':Nat->Prop}{l:List Tm}{cells:List Value}{Si:Nat->Nat->Prop}{ai:Nat->Option Addr}{ci:Nat->Nat}{b c:Nat}(h:FLs H T S l cells Si ai ci)
  (hl:l.length<=c) (hc:c<=maxLen) (hg:H.get b=some (.row cells T)) (hn:l.length*6<=cells.length) (hb:S' b) (hnb:¬S b) (hS:∀n,S n->S' n):FL H T S' l (some ⟨b,0,none⟩) c :=
 .row S' l b c cells Si ai ci hl hc hg hn h.el h.bd hb (fun i hi hs=>hnb (h.sub i b hi hs)) (fun i n hi hs=>hS n (h.sub i n hi hs)) h.one h.fl
theorem FLs.inv {H:Heap}{T:TypeId}{S:Nat->Prop}{l:List Tm}{b c:Nat}{a:Option Addr}(h:FL H T S l a c) (h0:l≠[]):∃b cells Si ai ci,a=some ⟨b,0,none⟩/\l.length<=c/\c<=maxLen/\H.get b=some (.row cells T)/\l.length*6<=cells.length /\
  S b/\(∀i,i < l.length->¬Si i b)/\FLs H T S l cells Si ai ci:=by
 cases h with
 |nil=>exact absurd rfl h0
 |row _ _ b c cells Si ai ci h1 h2 h3 h4 h5 h6 h7 h8 h9 h10 h11=>exact⟨b,cells,Si,ai,ci,rfl,h1,h2,h3,h4,h7,h8,⟨h5,h6,h9,h10,h11⟩⟩
end Go.Hb
end

section
namespace Go.Hb
open Go Go.RowKit
section
variable {P:Program}
theorem zcs {N:Nat}{w0:World}{τ:Nat->Value}{σ:Nat->Loc}{H:Heap}{w:World}{f:FuncId}{args:Array Value}{v:Value}(hv:flat v=true)
  (h:Calls P f args w fun e w'=>e=.returned v/\Below w.heap.size w w') (hH:HR P N w0 τ σ H w) :
  Calls P f args w fun e w'=>∃ σ',EnR σ' τ (.ret v) e/\HR P N w0 τ σ' H w'/\Step σ H w σ' H w':=by
 refine h.mono fun e w' ⟨he,hB⟩=>?_
 subst he;have hlt:=hH.lt;refine⟨σ,.flat _ hv,⟨hH.below.trans (hB.mono hH.size),ZC hH.size hB.size,hH.fresh,fun i B hi=>(hH.blk i B hi).world fun b S es hb=>hB.block b (hlt i b S es hb),hH.inj,
  fun i b S es hi=>Zo (hlt i b S es hi) hB.size⟩,Ze _,Ext.refl σ,fun i b S es hi=>.inr (.inl ⟨S,es,hi⟩),fun b hb _=>hB.block b hb,hB.size,fun _ _ hg=>⟨rfl,hg⟩⟩
def kLaw (fa fv:FuncId) (f:FuncId) (args:List Value) (H:Heap):Option (En × Heap) :=
 if f=fa then (match args with|[]=>some (.ret (.bool true),H)|_=>none)
 else if f=fv then (match args with|[.string s]=>if s.size<=9223372036854775807 then some (.ret (.bool (Lib.validD s.data.toList)),H) else none|_=>none)
 else none
def okLaw (mask:Nat) (fa fv:FuncId):Ok:=⟨mask,kLaw fa fv⟩
theorem zkl {N mask:Nat}{w0:World}{fa fv:FuncId}(hok:((Zg P.funcs.size).all fun f=>!mask.testBit f || okFn P f)=true)
  (ha:∀w,Calls P fa #[] w fun e w'=>e=.returned (.bool true)/\Below w.heap.size w w')
  (hv:∀(s:ByteArray) w,s.size<=9223372036854775807->Below N w0 w->Calls P fv #[.string s] w fun e w'=>e=.returned (.bool (Lib.validD s.data.toList))/\Below w.heap.size w w'):OkFns P N w0 (okLaw mask fa fv):=by
 refine⟨z9q hok,fun τ f args args' H en H' w σ _ hk hl hH _=>?_⟩;simp only[okLaw,kLaw] at hk;split at hk
 ·rename_i hf;subst hf;split at hk
  ·cases hk;have:args'=#[]:=by
    have:=hl.1;simp at this;exact Array.eq_empty_of_size_eq_zero this.symm
   subst this;exact zcs rfl (ha w) hH
  ·cases hk
 ·split at hk
  ·rename_i hf;subst hf;split at hk
   ·rename_i s;split at hk
    ·rename_i hs;cases hk;have hlen:args'.size=1:=by have:=hl.1;simpa using this.symm
     obtain⟨v,rfl⟩:∃v,args'=#[v]:=by
      match args',hlen with
      |⟨[v]⟩,_=>exact⟨v,rfl⟩
     have hvr:=hl.2 0 (.string s) v rfl rfl;rw[VR.flat_eq hvr rfl];exact zcs rfl (hv s w hs hH.below) hH
    ·cases hk
   ·cases hk
  ·cases hk
theorem zkm {mask:Nat}{W:World}{fa fv f:FuncId}{args:Array Value}(hm:P.follows .mixedOrders=true) (hok:((Zg P.funcs.size).all fun f=>!mask.testBit f || okFn P f)=true)
  (ha:∀w,Calls P fa #[] w fun e w'=>e=.returned (.bool true)/\Below w.heap.size w w')
  (hv:∀(s:ByteArray) w,s.size<=9223372036854775807->Below W.heap.size W w->Calls P fv #[.string s] w fun e w'=>e=.returned (.bool (Lib.validD s.data.toList))/\Below w.heap.size w w')
  (h:EvF P (okLaw mask fa fv) f (args.toList.map (abV P W)) (heapW P W) fun v _=>v=.bool true):Calls P f args W fun e W'=>e=.returned (.bool true)/\Below W.heap.size W W' :=
 zep hm (zkl hok ha hv) h
theorem znl {mask:Nat}{fa fv:FuncId}{H:Heap}(hw:H.wf):EvF P (okLaw mask fa fv) fa [] H fun v H'=>v=.bool true/\HX H H' :=
 EvF.know (v:=.bool true) (H':=H) (by simp [okLaw,kLaw]) ⟨rfl,HX.refl hw⟩
theorem znm {mask:Nat}{fa fv:FuncId}{H:Heap}(hne:fv≠fa) (hw:H.wf) {s:ByteArray}(hs:s.size<=9223372036854775807):EvF P (okLaw mask fa fv) fv [.string s] H fun v H'=>v=.bool (Lib.validD s.data.toList)/\HX H H' :=
 EvF.know (v:=.bool (Lib.validD s.data.toList)) (H':=H) (by simp [okLaw,kLaw,hne,hs]) ⟨rfl,HX.refl hw⟩
end
end Go.Hb
end

section
namespace Go.Proofs.hq
open Go Go.RowKit Go.Hb
abbrev ClF (n:Nat):Prop:=∀{d:Option Tmp}{args:Array Operand}{ats:Array TypeId}{ty:TypeId}{pos:String}{af:Array Edge}{g:Option (Nat × Bool)}{tm:Tr Value}{H:Heap},dop Tryz.prog ⟨d,.call ⟨.value (.func n),args,ats⟩,ty,pos,af,g⟩ (ev tm) H=some (.call n (args.toList.map (ev tm)))
theorem cl5:ClF 5:=z08 (by kernel_rfl)
theorem cl6:ClF 6:=z08 (by kernel_rfl)
theorem cl9:ClF 9:=z08 (by kernel_rfl)
theorem ld40 {ad:Addr}{H:Heap}:dLoad Tryz.prog 40 (.pointer (some ad)) H=dloadA 6 (H.load ad 6) H:=z1o (by kernel_rfl) (by kernel_rfl)
theorem cl10:ClF 10:=z08 (by kernel_rfl)
theorem zr40:zerosOf Tryz.prog 40=some [.int .i64 0,.string Zh,.string Zh,.int .u64 0,.int .i64 0,.slice none 0 0]:=by kernel_rfl
theorem st40 {b o:Nat}{H:Heap}{cs:List Value}:dStore Tryz.prog 40 (.pointer (some ⟨b,o,none⟩)) (.agg ⟨cs⟩) H=dStoreIf (Zt cs.length 6) ⟨b,o,none⟩ cs H (H.get b):=z1g (by kernel_rfl) (by kernel_rfl)
theorem cl11:ClF 11:=z08 (by kernel_rfl)
theorem zpr {v0 v1:Value}{H:Heap}:dBuildS Tryz.prog 32 2 [(0,v0),(1,v1)] H=dBs 40 2 (([(0,v0),(1,v1)]:List (Nat × Value)).all fun p=>p.2.cells.toList.all one) (layC [(0,6),(6,6)] [.int .i64 0,.string Zh,.string Zh,.int .u64 0,.int .i64 0,.slice none 0 0,.int .i64 0,.string Zh,.string Zh,.int .u64 0,.int .i64 0,.slice none 0 0] (([(0,v0),(1,v1)]:List (Nat × Value)).map fun p=>(p.1,p.2.cells.toList))) H:=z11 (size:=6) (by kernel_rfl) rfl
theorem cl12:ClF 12:=z08 (by kernel_rfl)
theorem ln28 {ty:TypeId}{a:Option Addr}{n c:Nat}{H:Heap}:dLn Tryz.prog 28 ty (.slice a n c) H=some (.val (.int .i64 n) H):=z19 (e:=3) (by kernel_rfl)
theorem ia28 {b o n c i:Nat}{k:IntKind}{H:Heap}(h:i < n):dIndexAddr Tryz.prog 28 (.slice (some ⟨b,o,none⟩) n c) (.int k (i:Int)) H=some (.val (.pointer (some ⟨b,o+i*1,none⟩)) H):=z0t (e:=3) (by kernel_rfl) (by kernel_rfl) (by kernel_rfl) h
theorem ld3 {ad:Addr}{H:Heap}:dLoad Tryz.prog 3 (.pointer (some ad)) H=dload1 (H.load ad 1) H:=z0c (by kernel_rfl)
theorem cl13:ClF 13:=z08 (by kernel_rfl)
theorem cl14:ClF 14:=z08 (by kernel_rfl)
theorem zr42:zerosOf Tryz.prog 42=some [.int .i64 0,.int .i64 0]:=by kernel_rfl
theorem st42 {b o:Nat}{H:Heap}{cs:List Value}:dStore Tryz.prog 42 (.pointer (some ⟨b,o,none⟩)) (.agg ⟨cs⟩) H=dStoreIf (Zt cs.length 2) ⟨b,o,none⟩ cs H (H.get b):=z1g (by kernel_rfl) (by kernel_rfl)
theorem ld42 {ad:Addr}{H:Heap}:dLoad Tryz.prog 42 (.pointer (some ad)) H=dloadA 2 (H.load ad 2) H:=z1o (by kernel_rfl) (by kernel_rfl)
theorem cl15:ClF 15:=z08 (by kernel_rfl)
theorem cl16:ClF 16:=z08 (by kernel_rfl)
theorem cl17:ClF 17:=z08 (by kernel_rfl)
theorem cl18:ClF 18:=z08 (by kernel_rfl)
theorem zgs {v0:Value}{H:Heap}:dBuildS Tryz.prog 32 1 [(0,v0)] H=dBs 40 1 (([(0,v0)]:List (Nat × Value)).all fun p=>p.2.cells.toList.all one) (layC [(0,6)] [.int .i64 0,.string Zh,.string Zh,.int .u64 0,.int .i64 0,.slice none 0 0] (([(0,v0)]:List (Nat × Value)).map fun p=>(p.1,p.2.cells.toList))) H:=z11 (size:=6) (by kernel_rfl) rfl
theorem cl19:ClF 19:=z08 (by kernel_rfl)
theorem bd76 {vs:List (Nat × Value)}{H:Heap}:dBuild Tryz.prog 76 vs H=dBd (vs.all fun p=>p.2.cells.toList.all one) (layC [(0,1),(1,1),(2,1),(3,1),(4,1),(5,1),(6,1),(7,1),(8,1),(9,1)] [.slice none 0 0,.slice none 0 0,.slice none 0 0,.slice none 0 0,.slice none 0 0,.slice none 0 0,.map none,.map none,.slice none 0 0,.slice none 0 0] (vs.map fun p=>(p.1,p.2.cells.toList))) H:=z1z (by kernel_rfl) (by kernel_rfl)
theorem cl30:ClF 30:=z08 (by kernel_rfl)
theorem cl32:ClF 32:=z08 (by kernel_rfl)
theorem ld27 {ad:Addr}{H:Heap}:dLoad Tryz.prog 27 (.pointer (some ad)) H=dload1 (H.load ad 1) H:=z0c (by kernel_rfl)
theorem ln27 {ty:TypeId}{a:Option Addr}{n c:Nat}{H:Heap}:dLn Tryz.prog 27 ty (.slice a n c) H=some (.val (.int .i64 n) H):=z19 (e:=42) (by kernel_rfl)
theorem ld28 {ad:Addr}{H:Heap}:dLoad Tryz.prog 28 (.pointer (some ad)) H=dload1 (H.load ad 1) H:=z0c (by kernel_rfl)
theorem cl37:ClF 37:=z08 (by kernel_rfl)
theorem bd42 {vs:List (Nat × Value)}{H:Heap}:dBuild Tryz.prog 42 vs H=dBd (vs.all fun p=>p.2.cells.toList.all one) (layC [(0,1),(1,1)] [.int .i64 0,.int .i64 0] (vs.map fun p=>(p.1,p.2.cells.toList))) H:=z1z (by kernel_rfl) (by kernel_rfl)
theorem ia27 {b o n c i:Nat}{k:IntKind}{H:Heap}(h:i < n):dIndexAddr Tryz.prog 27 (.slice (some ⟨b,o,none⟩) n c) (.int k (i:Int)) H=some (.val (.pointer (some ⟨b,o+i*2,none⟩)) H):=z0t (e:=42) (by kernel_rfl) (by kernel_rfl) (by kernel_rfl) h
theorem cl38:ClF 38:=z08 (by kernel_rfl)
theorem cl40:ClF 40:=z08 (by kernel_rfl)
theorem z75 {b o:Nat}{H:Heap}:dFieldAddr Tryz.prog 76 (.pointer (some ⟨b,o,none⟩)) 9 H=some (.val (.pointer (some ⟨b,o+9,none⟩)) H):=z06 (u:=74) (by kernel_rfl) (by kernel_rfl)
theorem ld74 {ad:Addr}{H:Heap}:dLoad Tryz.prog 74 (.pointer (some ad)) H=dload1 (H.load ad 1) H:=z0c (by kernel_rfl)
theorem zct {b o:Nat}{H:Heap}:dFieldAddr Tryz.prog 76 (.pointer (some ⟨b,o,none⟩)) 8 H=some (.val (.pointer (some ⟨b,o+8,none⟩)) H):=z06 (u:=73) (by kernel_rfl) (by kernel_rfl)
theorem ld73 {ad:Addr}{H:Heap}:dLoad Tryz.prog 73 (.pointer (some ad)) H=dload1 (H.load ad 1) H:=z0c (by kernel_rfl)
theorem ln73 {ty:TypeId}{a:Option Addr}{n c:Nat}{H:Heap}:dLn Tryz.prog 73 ty (.slice a n c) H=some (.val (.int .i64 n) H):=z19 (e:=121) (by kernel_rfl)
theorem z1n {b o:Nat}{H:Heap}:dFieldAddr Tryz.prog 76 (.pointer (some ⟨b,o,none⟩)) 0 H=some (.val (.pointer (some ⟨b,o+0,none⟩)) H):=z06 (u:=27) (by kernel_rfl) (by kernel_rfl)
theorem z3r {b o:Nat}{H:Heap}:dFieldAddr Tryz.prog 76 (.pointer (some ⟨b,o,none⟩)) 2 H=some (.val (.pointer (some ⟨b,o+2,none⟩)) H):=z06 (u:=28) (by kernel_rfl) (by kernel_rfl)
theorem bd83 {vs:List (Nat × Value)}{H:Heap}:dBuild Tryz.prog 83 vs H=dBd (vs.all fun p=>p.2.cells.toList.all one) (layC [(0,1),(1,1),(2,1)] [.int .i64 0,.int .i64 0,.int .i64 0] (vs.map fun p=>(p.1,p.2.cells.toList))) H:=z1z (by kernel_rfl) (by kernel_rfl)
theorem zsr {v0:Value}{H:Heap}:dBuildS Tryz.prog 74 1 [(0,v0)] H=dBs 83 1 (([(0,v0)]:List (Nat × Value)).all fun p=>p.2.cells.toList.all one) (layC [(0,3)] [.int .i64 0,.int .i64 0,.int .i64 0] (([(0,v0)]:List (Nat × Value)).map fun p=>(p.1,p.2.cells.toList))) H:=z11 (size:=3) (by kernel_rfl) rfl
theorem ap74:apOk Tryz.prog 74 83 3:=z33 (by kernel_rfl)
theorem st74 {b o:Nat}{H:Heap}{a:Option Addr}{n c:Nat}:dStore Tryz.prog 74 (.pointer (some ⟨b,o,none⟩)) (.slice a n c) H=dStoreB ⟨b,o,none⟩ [.slice a n c] H (H.get b):=z1m (by kernel_rfl) (by kernel_rfl)
theorem ln74 {ty:TypeId}{a:Option Addr}{n c:Nat}{H:Heap}:dLn Tryz.prog 74 ty (.slice a n c) H=some (.val (.int .i64 n) H):=z19 (e:=83) (by kernel_rfl)
theorem cl42:ClF 42:=z08 (by kernel_rfl)
theorem zr85:zerosOf Tryz.prog 85=some [.map none]:=by kernel_rfl
theorem st85 {b o:Nat}{H:Heap}{a:Option Nat}:dStore Tryz.prog 85 (.pointer (some ⟨b,o,none⟩)) (.map a) H=dStoreB ⟨b,o,none⟩ [.map a] H (H.get b):=z89 (by kernel_rfl) (by kernel_rfl)
theorem ln48 {ty:TypeId}{a:Option Addr}{n c:Nat}{H:Heap}:dLn Tryz.prog 48 ty (.slice a n c) H=some (.val (.int .i64 n) H):=z19 (e:=87) (by kernel_rfl)
theorem ia48 {b o n c i:Nat}{k:IntKind}{H:Heap}(h:i < n):dIndexAddr Tryz.prog 48 (.slice (some ⟨b,o,none⟩) n c) (.int k (i:Int)) H=some (.val (.pointer (some ⟨b,o+i*7,none⟩)) H):=z0t (e:=87) (by kernel_rfl) (by kernel_rfl) (by kernel_rfl) h
theorem ld87 {ad:Addr}{H:Heap}:dLoad Tryz.prog 87 (.pointer (some ad)) H=dloadA 7 (H.load ad 7) H:=z1o (by kernel_rfl) (by kernel_rfl)
theorem zr87:zerosOf Tryz.prog 87=some [.int .i64 0,.int .i64 0,.string Zh,.string Zh,.int .u64 0,.int .i64 0,.slice none 0 0]:=by kernel_rfl
theorem st87 {b o:Nat}{H:Heap}{cs:List Value}:dStore Tryz.prog 87 (.pointer (some ⟨b,o,none⟩)) (.agg ⟨cs⟩) H=dStoreIf (Zt cs.length 7) ⟨b,o,none⟩ cs H (H.get b):=z1g (by kernel_rfl) (by kernel_rfl)
theorem ld85 {ad:Addr}{H:Heap}:dLoad Tryz.prog 85 (.pointer (some ad)) H=dload1 (H.load ad 1) H:=z0c (by kernel_rfl)
theorem z76 {b o:Nat}{H:Heap}:dFieldAddr Tryz.prog 87 (.pointer (some ⟨b,o,none⟩)) 0 H=some (.val (.pointer (some ⟨b,o+0,none⟩)) H):=z06 (u:=3) (by kernel_rfl) (by kernel_rfl)
theorem zkn {b o:Nat}{H:Heap}:dFieldAddr Tryz.prog 87 (.pointer (some ⟨b,o,none⟩)) 1 H=some (.val (.pointer (some ⟨b,o+1,none⟩)) H):=z06 (u:=40) (by kernel_rfl) (by kernel_rfl)
theorem cl43:ClF 43:=z08 (by kernel_rfl)
theorem zr3:zerosOf Tryz.prog 3=some [.int .i64 0]:=by kernel_rfl
theorem st3 {b o:Nat}{H:Heap}{k:IntKind}{n:Int}:dStore Tryz.prog 3 (.pointer (some ⟨b,o,none⟩)) (.int k n) H=dStoreB ⟨b,o,none⟩ [.int k n] H (H.get b):=z2w (by kernel_rfl) (by kernel_rfl)
theorem cl44:ClF 44:=z08 (by kernel_rfl)
theorem cl46:ClF 46:=z08 (by kernel_rfl)
theorem z1c {b o:Nat}{H:Heap}:dFieldAddr Tryz.prog 40 (.pointer (some ⟨b,o,none⟩)) 0 H=some (.val (.pointer (some ⟨b,o+0,none⟩)) H):=z06 (u:=3) (by kernel_rfl) (by kernel_rfl)
theorem z38 {b o:Nat}{H:Heap}:dFieldAddr Tryz.prog 40 (.pointer (some ⟨b,o,none⟩)) 1 H=some (.val (.pointer (some ⟨b,o+1,none⟩)) H):=z06 (u:=9) (by kernel_rfl) (by kernel_rfl)
theorem ld9 {ad:Addr}{H:Heap}:dLoad Tryz.prog 9 (.pointer (some ad)) H=dload1 (H.load ad 1) H:=z0c (by kernel_rfl)
theorem z4k {b o:Nat}{H:Heap}:dFieldAddr Tryz.prog 40 (.pointer (some ⟨b,o,none⟩)) 2 H=some (.val (.pointer (some ⟨b,o+2,none⟩)) H):=z06 (u:=9) (by kernel_rfl) (by kernel_rfl)
theorem z56 {b o:Nat}{H:Heap}:dFieldAddr Tryz.prog 40 (.pointer (some ⟨b,o,none⟩)) 3 H=some (.val (.pointer (some ⟨b,o+3,none⟩)) H):=z06 (u:=38) (by kernel_rfl) (by kernel_rfl)
theorem ld38 {ad:Addr}{H:Heap}:dLoad Tryz.prog 38 (.pointer (some ad)) H=dload1 (H.load ad 1) H:=z0c (by kernel_rfl)
theorem z4d {b o:Nat}{H:Heap}:dFieldAddr Tryz.prog 40 (.pointer (some ⟨b,o,none⟩)) 4 H=some (.val (.pointer (some ⟨b,o+4,none⟩)) H):=z06 (u:=3) (by kernel_rfl) (by kernel_rfl)
theorem z1k {b o:Nat}{H:Heap}:dFieldAddr Tryz.prog 40 (.pointer (some ⟨b,o,none⟩)) 5 H=some (.val (.pointer (some ⟨b,o+5,none⟩)) H):=z06 (u:=32) (by kernel_rfl) (by kernel_rfl)
theorem ld32 {ad:Addr}{H:Heap}:dLoad Tryz.prog 32 (.pointer (some ad)) H=dload1 (H.load ad 1) H:=z0c (by kernel_rfl)
theorem ln32 {ty:TypeId}{a:Option Addr}{n c:Nat}{H:Heap}:dLn Tryz.prog 32 ty (.slice a n c) H=some (.val (.int .i64 n) H):=z19 (e:=40) (by kernel_rfl)
theorem ia32 {b o n c i:Nat}{k:IntKind}{H:Heap}(h:i < n):dIndexAddr Tryz.prog 32 (.slice (some ⟨b,o,none⟩) n c) (.int k (i:Int)) H=some (.val (.pointer (some ⟨b,o+i*6,none⟩)) H):=z0t (e:=40) (by kernel_rfl) (by kernel_rfl) (by kernel_rfl) h
theorem cl48:ClF 48:=z08 (by kernel_rfl)
theorem bd40 {vs:List (Nat × Value)}{H:Heap}:dBuild Tryz.prog 40 vs H=dBd (vs.all fun p=>p.2.cells.toList.all one) (layC [(0,1),(1,1),(2,1),(3,1),(4,1),(5,1)] [.int .i64 0,.string Zh,.string Zh,.int .u64 0,.int .i64 0,.slice none 0 0] (vs.map fun p=>(p.1,p.2.cells.toList))) H:=z1z (by kernel_rfl) (by kernel_rfl)
theorem cl49:ClF 49:=z08 (by kernel_rfl)
theorem cl50:ClF 50:=z08 (by kernel_rfl)
theorem cl51:ClF 51:=z08 (by kernel_rfl)
theorem cl52:ClF 52:=z08 (by kernel_rfl)
theorem zr52:zerosOf Tryz.prog 52=some [.nilFunc]:=by kernel_rfl
theorem st52 {b o:Nat}{H:Heap}{f:Fn}{x y:Array Value}:dStore Tryz.prog 52 (.pointer (some ⟨b,o,none⟩)) (.func f x y) H=dStoreB ⟨b,o,none⟩ [.func f x y] H (H.get b):=zca (by kernel_rfl) (by kernel_rfl)
theorem ld52 {ad:Addr}{H:Heap}:dLoad Tryz.prog 52 (.pointer (some ad)) H=dload1 (H.load ad 1) H:=z0c (by kernel_rfl)
theorem cl55:ClF 55:=z08 (by kernel_rfl)
theorem cl56:ClF 56:=z08 (by kernel_rfl)
theorem bd87 {vs:List (Nat × Value)}{H:Heap}:dBuild Tryz.prog 87 vs H=dBd (vs.all fun p=>p.2.cells.toList.all one) (layC [(0,1),(1,6)] [.int .i64 0,.int .i64 0,.string Zh,.string Zh,.int .u64 0,.int .i64 0,.slice none 0 0] (vs.map fun p=>(p.1,p.2.cells.toList))) H:=z1z (by kernel_rfl) (by kernel_rfl)
theorem zss {v0:Value}{H:Heap}:dBuildS Tryz.prog 48 1 [(0,v0)] H=dBs 87 1 (([(0,v0)]:List (Nat × Value)).all fun p=>p.2.cells.toList.all one) (layC [(0,7)] [.int .i64 0,.int .i64 0,.string Zh,.string Zh,.int .u64 0,.int .i64 0,.slice none 0 0] (([(0,v0)]:List (Nat × Value)).map fun p=>(p.1,p.2.cells.toList))) H:=z11 (size:=7) (by kernel_rfl) rfl
theorem ap48:apOk Tryz.prog 48 87 7:=z33 (by kernel_rfl)
theorem cl57:ClF 57:=z08 (by kernel_rfl)
theorem zgt {v0:Value}{H:Heap}:dBuildS Tryz.prog 28 1 [(0,v0)] H=dBs 3 1 (([(0,v0)]:List (Nat × Value)).all fun p=>p.2.cells.toList.all one) (layC [(0,1)] [.int .i64 0] (([(0,v0)]:List (Nat × Value)).map fun p=>(p.1,p.2.cells.toList))) H:=z11 (size:=1) (by kernel_rfl) rfl
theorem ap28:apOk Tryz.prog 28 3 1:=z33 (by kernel_rfl)
theorem st28 {b o:Nat}{H:Heap}{a:Option Addr}{n c:Nat}:dStore Tryz.prog 28 (.pointer (some ⟨b,o,none⟩)) (.slice a n c) H=dStoreB ⟨b,o,none⟩ [.slice a n c] H (H.get b):=z1m (by kernel_rfl) (by kernel_rfl)
theorem zcu {b o:Nat}{H:Heap}:dFieldAddr Tryz.prog 76 (.pointer (some ⟨b,o,none⟩)) 3 H=some (.val (.pointer (some ⟨b,o+3,none⟩)) H):=z06 (u:=29) (by kernel_rfl) (by kernel_rfl)
theorem ld29 {ad:Addr}{H:Heap}:dLoad Tryz.prog 29 (.pointer (some ad)) H=dload1 (H.load ad 1) H:=z0c (by kernel_rfl)
theorem zst {v0:Value}{H:Heap}:dBuildS Tryz.prog 29 1 [(0,v0)] H=dBs 4 1 (([(0,v0)]:List (Nat × Value)).all fun p=>p.2.cells.toList.all one) (layC [(0,1)] [.bool false] (([(0,v0)]:List (Nat × Value)).map fun p=>(p.1,p.2.cells.toList))) H:=z11 (size:=1) (by kernel_rfl) rfl
theorem ap29:apOk Tryz.prog 29 4 1:=z33 (by kernel_rfl)
theorem st29 {b o:Nat}{H:Heap}{a:Option Addr}{n c:Nat}:dStore Tryz.prog 29 (.pointer (some ⟨b,o,none⟩)) (.slice a n c) H=dStoreB ⟨b,o,none⟩ [.slice a n c] H (H.get b):=z1m (by kernel_rfl) (by kernel_rfl)
theorem cl60:ClF 60:=z08 (by kernel_rfl)
theorem cl61:ClF 61:=z08 (by kernel_rfl)
theorem cl62:ClF 62:=z08 (by kernel_rfl)
theorem ap32:apOk Tryz.prog 32 40 6:=z33 (by kernel_rfl)
theorem zsu {v0 v1:Value}{H:Heap}:dBuildS Tryz.prog 27 2 [(0,v0),(1,v1)] H=dBs 42 2 (([(0,v0),(1,v1)]:List (Nat × Value)).all fun p=>p.2.cells.toList.all one) (layC [(0,2),(2,2)] [.int .i64 0,.int .i64 0,.int .i64 0,.int .i64 0] (([(0,v0),(1,v1)]:List (Nat × Value)).map fun p=>(p.1,p.2.cells.toList))) H:=z11 (size:=2) (by kernel_rfl) rfl
theorem cl63:ClF 63:=z08 (by kernel_rfl)
theorem zsv {vs:List (Nat × Value)}{H:Heap}:dBuild Tryz.prog 110 vs H=dBd (vs.all fun p=>p.2.cells.toList.all one) (layC [(0,2),(2,2)] [.int .i64 0,.int .i64 0,.int .i64 0,.int .i64 0] (vs.map fun p=>(p.1,p.2.cells.toList))) H:=z1z (by kernel_rfl) (by kernel_rfl)
theorem zko {v0:Value}{H:Heap}:dBuildS Tryz.prog 111 1 [(0,v0)] H=dBs 110 1 (([(0,v0)]:List (Nat × Value)).all fun p=>p.2.cells.toList.all one) (layC [(0,4)] [.int .i64 0,.int .i64 0,.int .i64 0,.int .i64 0] (([(0,v0)]:List (Nat × Value)).map fun p=>(p.1,p.2.cells.toList))) H:=z11 (size:=4) (by kernel_rfl) rfl
theorem zij {ty:TypeId}{a:Option Addr}{n c:Nat}{H:Heap}:dLn Tryz.prog 111 ty (.slice a n c) H=some (.val (.int .i64 n) H):=z19 (e:=110) (by kernel_rfl)
theorem zqj {b o n c i:Nat}{k:IntKind}{H:Heap}(h:i < n):dIndexAddr Tryz.prog 111 (.slice (some ⟨b,o,none⟩) n c) (.int k (i:Int)) H=some (.val (.pointer (some ⟨b,o+i*4,none⟩)) H):=z0t (e:=110) (by kernel_rfl) (by kernel_rfl) (by kernel_rfl) h
theorem zsw {ad:Addr}{H:Heap}:dLoad Tryz.prog 110 (.pointer (some ad)) H=dloadA 4 (H.load ad 4) H:=z1o (by kernel_rfl) (by kernel_rfl)
theorem zu5:zerosOf Tryz.prog 110=some [.int .i64 0,.int .i64 0,.int .i64 0,.int .i64 0]:=by kernel_rfl
theorem zsx {b o:Nat}{H:Heap}{cs:List Value}:dStore Tryz.prog 110 (.pointer (some ⟨b,o,none⟩)) (.agg ⟨cs⟩) H=dStoreIf (Zt cs.length 4) ⟨b,o,none⟩ cs H (H.get b):=z1g (by kernel_rfl) (by kernel_rfl)
theorem zu6:slcOk Tryz.prog 111 110 4:=⟨by kernel_rfl,by kernel_rfl,by kernel_rfl⟩
theorem zqk {b o:Nat}{H:Heap}:dFieldAddr Tryz.prog 110 (.pointer (some ⟨b,o,none⟩)) 0 H=some (.val (.pointer (some ⟨b,o+0,none⟩)) H):=z06 (u:=42) (by kernel_rfl) (by kernel_rfl)
theorem cl64:ClF 64:=z08 (by kernel_rfl)
theorem zql {b o:Nat}{H:Heap}:dFieldAddr Tryz.prog 110 (.pointer (some ⟨b,o,none⟩)) 1 H=some (.val (.pointer (some ⟨b,o+2,none⟩)) H):=z06 (u:=42) (by kernel_rfl) (by kernel_rfl)
theorem cl59:ClF 59:=z08 (by kernel_rfl)
theorem z0w {b o:Nat}{H:Heap}:dFieldAddr Tryz.prog 42 (.pointer (some ⟨b,o,none⟩)) 0 H=some (.val (.pointer (some ⟨b,o+0,none⟩)) H):=z06 (u:=3) (by kernel_rfl) (by kernel_rfl)
theorem cl67:ClF 67:=z08 (by kernel_rfl)
theorem zik:zerosOf Tryz.prog 116=some [.string Zh,.int .i64 0]:=by kernel_rfl
theorem zil {b o:Nat}{H:Heap}{cs:List Value}:dStore Tryz.prog 116 (.pointer (some ⟨b,o,none⟩)) (.agg ⟨cs⟩) H=dStoreIf (Zt cs.length 2) ⟨b,o,none⟩ cs H (H.get b):=z1g (by kernel_rfl) (by kernel_rfl)
theorem zu7:apOk Tryz.prog 111 110 4:=z33 (by kernel_rfl)
theorem cl71:ClF 71:=z08 (by kernel_rfl)
theorem ia29 {b o n c i:Nat}{k:IntKind}{H:Heap}(h:i < n):dIndexAddr Tryz.prog 29 (.slice (some ⟨b,o,none⟩) n c) (.int k (i:Int)) H=some (.val (.pointer (some ⟨b,o+i*1,none⟩)) H):=z0t (e:=4) (by kernel_rfl) (by kernel_rfl) (by kernel_rfl) h
theorem ld4 {ad:Addr}{H:Heap}:dLoad Tryz.prog 4 (.pointer (some ad)) H=dload1 (H.load ad 1) H:=z0c (by kernel_rfl)
theorem st4 {b o:Nat}{H:Heap}{s:Bool}:dStore Tryz.prog 4 (.pointer (some ⟨b,o,none⟩)) (.bool s) H=dStoreB ⟨b,o,none⟩ [.bool s] H (H.get b):=zeq (by kernel_rfl) (by kernel_rfl)
theorem zu8 {vs:List (Nat × Value)}{H:Heap}:dBuild Tryz.prog 121 vs H=dBd (vs.all fun p=>p.2.cells.toList.all one) (layC [(0,1),(1,1)] [.int .i64 0,.int .i64 0] (vs.map fun p=>(p.1,p.2.cells.toList))) H:=z1z (by kernel_rfl) (by kernel_rfl)
theorem zsy {v0:Value}{H:Heap}:dBuildS Tryz.prog 73 1 [(0,v0)] H=dBs 121 1 (([(0,v0)]:List (Nat × Value)).all fun p=>p.2.cells.toList.all one) (layC [(0,2)] [.int .i64 0,.int .i64 0] (([(0,v0)]:List (Nat × Value)).map fun p=>(p.1,p.2.cells.toList))) H:=z11 (size:=2) (by kernel_rfl) rfl
theorem ap73:apOk Tryz.prog 73 121 2:=z33 (by kernel_rfl)
theorem st73 {b o:Nat}{H:Heap}{a:Option Addr}{n c:Nat}:dStore Tryz.prog 73 (.pointer (some ⟨b,o,none⟩)) (.slice a n c) H=dStoreB ⟨b,o,none⟩ [.slice a n c] H (H.get b):=z1m (by kernel_rfl) (by kernel_rfl)
theorem ld24 {ad:Addr}{H:Heap}:dLoad Tryz.prog 24 (.pointer (some ad)) H=dload1 (H.load ad 1) H:=z0c (by kernel_rfl)
theorem cl74:ClF 74:=z08 (by kernel_rfl)
theorem ia74 {b o n c i:Nat}{k:IntKind}{H:Heap}(h:i < n):dIndexAddr Tryz.prog 74 (.slice (some ⟨b,o,none⟩) n c) (.int k (i:Int)) H=some (.val (.pointer (some ⟨b,o+i*3,none⟩)) H):=z0t (e:=83) (by kernel_rfl) (by kernel_rfl) (by kernel_rfl) h
theorem ld83 {ad:Addr}{H:Heap}:dLoad Tryz.prog 83 (.pointer (some ad)) H=dloadA 3 (H.load ad 3) H:=z1o (by kernel_rfl) (by kernel_rfl)
theorem zr83:zerosOf Tryz.prog 83=some [.int .i64 0,.int .i64 0,.int .i64 0]:=by kernel_rfl
theorem st83 {b o:Nat}{H:Heap}{cs:List Value}:dStore Tryz.prog 83 (.pointer (some ⟨b,o,none⟩)) (.agg ⟨cs⟩) H=dStoreIf (Zt cs.length 3) ⟨b,o,none⟩ cs H (H.get b):=z1g (by kernel_rfl) (by kernel_rfl)
theorem zps {b o:Nat}{H:Heap}:dFieldAddr Tryz.prog 83 (.pointer (some ⟨b,o,none⟩)) 0 H=some (.val (.pointer (some ⟨b,o+0,none⟩)) H):=z06 (u:=3) (by kernel_rfl) (by kernel_rfl)
theorem sl73:slcOk Tryz.prog 73 121 2:=⟨by kernel_rfl,by kernel_rfl,by kernel_rfl⟩
theorem cl75:ClF 75:=z08 (by kernel_rfl)
theorem zu9:zerosOf Tryz.prog 121=some [.int .i64 0,.int .i64 0]:=by kernel_rfl
theorem zua {b o:Nat}{H:Heap}{cs:List Value}:dStore Tryz.prog 121 (.pointer (some ⟨b,o,none⟩)) (.agg ⟨cs⟩) H=dStoreIf (Zt cs.length 2) ⟨b,o,none⟩ cs H (H.get b):=z1g (by kernel_rfl) (by kernel_rfl)
theorem zkp {b o:Nat}{H:Heap}:dFieldAddr Tryz.prog 121 (.pointer (some ⟨b,o,none⟩)) 0 H=some (.val (.pointer (some ⟨b,o+0,none⟩)) H):=z06 (u:=3) (by kernel_rfl) (by kernel_rfl)
theorem zkq {b o:Nat}{H:Heap}:dFieldAddr Tryz.prog 121 (.pointer (some ⟨b,o,none⟩)) 1 H=some (.val (.pointer (some ⟨b,o+1,none⟩)) H):=z06 (u:=3) (by kernel_rfl) (by kernel_rfl)
theorem zsz {b o:Nat}{H:Heap}:dFieldAddr Tryz.prog 83 (.pointer (some ⟨b,o,none⟩)) 1 H=some (.val (.pointer (some ⟨b,o+1,none⟩)) H):=z06 (u:=3) (by kernel_rfl) (by kernel_rfl)
theorem sl27:slcOk Tryz.prog 27 42 2:=⟨by kernel_rfl,by kernel_rfl,by kernel_rfl⟩
theorem z77 {b o:Nat}{H:Heap}:dFieldAddr Tryz.prog 76 (.pointer (some ⟨b,o,none⟩)) 1 H=some (.val (.pointer (some ⟨b,o+1,none⟩)) H):=z06 (u:=28) (by kernel_rfl) (by kernel_rfl)
theorem sl28:slcOk Tryz.prog 28 3 1:=⟨by kernel_rfl,by kernel_rfl,by kernel_rfl⟩
theorem st27 {b o:Nat}{H:Heap}{a:Option Addr}{n c:Nat}:dStore Tryz.prog 27 (.pointer (some ⟨b,o,none⟩)) (.slice a n c) H=dStoreB ⟨b,o,none⟩ [.slice a n c] H (H.get b):=z1m (by kernel_rfl) (by kernel_rfl)
theorem zt0 {b o:Nat}{H:Heap}:dFieldAddr Tryz.prog 83 (.pointer (some ⟨b,o,none⟩)) 2 H=some (.val (.pointer (some ⟨b,o+2,none⟩)) H):=z06 (u:=3) (by kernel_rfl) (by kernel_rfl)
theorem sl29:slcOk Tryz.prog 29 4 1:=⟨by kernel_rfl,by kernel_rfl,by kernel_rfl⟩
theorem sl74:slcOk Tryz.prog 74 83 3:=⟨by kernel_rfl,by kernel_rfl,by kernel_rfl⟩
theorem z21 {b o:Nat}{H:Heap}:dFieldAddr Tryz.prog 42 (.pointer (some ⟨b,o,none⟩)) 1 H=some (.val (.pointer (some ⟨b,o+1,none⟩)) H):=z06 (u:=3) (by kernel_rfl) (by kernel_rfl)
theorem st32 {b o:Nat}{H:Heap}{a:Option Addr}{n c:Nat}:dStore Tryz.prog 32 (.pointer (some ⟨b,o,none⟩)) (.slice a n c) H=dStoreB ⟨b,o,none⟩ [.slice a n c] H (H.get b):=z1m (by kernel_rfl) (by kernel_rfl)
theorem mk32:mkOk Tryz.prog 32 40 [.int .i64 0,.string Zh,.string Zh,.int .u64 0,.int .i64 0,.slice none 0 0]:=zer (by kernel_rfl)
theorem cl88:ClF 88:=z08 (by kernel_rfl)
theorem cl89:ClF 89:=z08 (by kernel_rfl)
theorem cl90:ClF 90:=z08 (by kernel_rfl)
theorem zcv {b o:Nat}{H:Heap}:dFieldAddr Tryz.prog 76 (.pointer (some ⟨b,o,none⟩)) 4 H=some (.val (.pointer (some ⟨b,o+4,none⟩)) H):=z06 (u:=32) (by kernel_rfl) (by kernel_rfl)
theorem cl91:ClF 91:=z08 (by kernel_rfl)
theorem zgu {b o:Nat}{H:Heap}:dFieldAddr Tryz.prog 76 (.pointer (some ⟨b,o,none⟩)) 5 H=some (.val (.pointer (some ⟨b,o+5,none⟩)) H):=z06 (u:=33) (by kernel_rfl) (by kernel_rfl)
theorem ld33 {ad:Addr}{H:Heap}:dLoad Tryz.prog 33 (.pointer (some ad)) H=dload1 (H.load ad 1) H:=z0c (by kernel_rfl)
theorem ia33 {b o n c i:Nat}{k:IntKind}{H:Heap}(h:i < n):dIndexAddr Tryz.prog 33 (.slice (some ⟨b,o,none⟩) n c) (.int k (i:Int)) H=some (.val (.pointer (some ⟨b,o+i*2,none⟩)) H):=z0t (e:=116) (by kernel_rfl) (by kernel_rfl) (by kernel_rfl) h
theorem zb4 {ad:Addr}{H:Heap}:dLoad Tryz.prog 116 (.pointer (some ad)) H=dloadA 2 (H.load ad 2) H:=z1o (by kernel_rfl) (by kernel_rfl)
theorem zqm {b o:Nat}{H:Heap}:dFieldAddr Tryz.prog 116 (.pointer (some ⟨b,o,none⟩)) 0 H=some (.val (.pointer (some ⟨b,o+0,none⟩)) H):=z06 (u:=9) (by kernel_rfl) (by kernel_rfl)
theorem zb5 {b o:Nat}{H:Heap}:dFieldAddr Tryz.prog 116 (.pointer (some ⟨b,o,none⟩)) 1 H=some (.val (.pointer (some ⟨b,o+1,none⟩)) H):=z06 (u:=3) (by kernel_rfl) (by kernel_rfl)
theorem cl54:ClF 54:=z08 (by kernel_rfl)
theorem cl92:ClF 92:=z08 (by kernel_rfl)
theorem cl93:ClF 93:=z08 (by kernel_rfl)
theorem cl94:ClF 94:=z08 (by kernel_rfl)
theorem cl97:ClF 97:=z08 (by kernel_rfl)
theorem zkr {v0 v1:Value}{H:Heap}:dBuildS Tryz.prog 28 2 [(0,v0),(1,v1)] H=dBs 3 2 (([(0,v0),(1,v1)]:List (Nat × Value)).all fun p=>p.2.cells.toList.all one) (layC [(0,1),(1,1)] [.int .i64 0,.int .i64 0] (([(0,v0),(1,v1)]:List (Nat × Value)).map fun p=>(p.1,p.2.cells.toList))) H:=z11 (size:=1) (by kernel_rfl) rfl
theorem cl96:ClF 96:=z08 (by kernel_rfl)
theorem zr28:zerosOf Tryz.prog 28=some [.slice none 0 0]:=by kernel_rfl
theorem zub:zerosOf Tryz.prog 146=some [.map none]:=by kernel_rfl
theorem zuc {b o:Nat}{H:Heap}{a:Option Nat}:dStore Tryz.prog 146 (.pointer (some ⟨b,o,none⟩)) (.map a) H=dStoreB ⟨b,o,none⟩ [.map a] H (H.get b):=z89 (by kernel_rfl) (by kernel_rfl)
theorem zew {k:IntKind}{n:Int}{H:Heap}:dCon Tryz.prog 3 150 (.int k n) H=some (.val (.int .u64 (IntKind.u64.wrap n)) H):=z2j (k:=.i64) (by kernel_rfl) (by kernel_rfl)
theorem zqn:ClF 100:=z08 (by kernel_rfl)
theorem cl99:ClF 99:=z08 (by kernel_rfl)
theorem zt1:ClF 101:=z08 (by kernel_rfl)
theorem zks {v0:Value}{H:Heap}:dBuildS Tryz.prog 27 1 [(0,v0)] H=dBs 42 1 (([(0,v0)]:List (Nat × Value)).all fun p=>p.2.cells.toList.all one) (layC [(0,2)] [.int .i64 0,.int .i64 0] (([(0,v0)]:List (Nat × Value)).map fun p=>(p.1,p.2.cells.toList))) H:=z11 (size:=2) (by kernel_rfl) rfl
theorem ap27:apOk Tryz.prog 27 42 2:=z33 (by kernel_rfl)
theorem zud:ClF 102:=z08 (by kernel_rfl)
theorem zue {vs:List (Nat × Value)}{H:Heap}:dBuild Tryz.prog 116 vs H=dBd (vs.all fun p=>p.2.cells.toList.all one) (layC [(0,1),(1,1)] [.string Zh,.int .i64 0] (vs.map fun p=>(p.1,p.2.cells.toList))) H:=z1z (by kernel_rfl) (by kernel_rfl)
theorem zuf:ClF 103:=z08 (by kernel_rfl)
theorem zqo:ClF 104:=z08 (by kernel_rfl)
theorem zug:ClF 106:=z08 (by kernel_rfl)
theorem zt2 {H:Heap}:dBuildS Tryz.prog 27 0 [] H=dBs 42 0 (([]:List (Nat × Value)).all fun p=>p.2.cells.toList.all one) (layC [] [] (([]:List (Nat × Value)).map fun p=>(p.1,p.2.cells.toList))) H:=z11 (size:=2) (by kernel_rfl) rfl
theorem zt3:ClF 120:=z08 (by kernel_rfl)
theorem zuh:mkOk Tryz.prog 111 110 [.int .i64 0,.int .i64 0,.int .i64 0,.int .i64 0]:=zer (by kernel_rfl)
theorem zui:ClF 121:=z08 (by kernel_rfl)
theorem ln9 {ty:TypeId}{s:ByteArray}{H:Heap}:dLn Tryz.prog 9 ty (.string s) H=some (.val (.int .i64 s.size) H):=z6l (by kernel_rfl)
theorem zt4:ClF 122:=z08 (by kernel_rfl)
theorem zt5:ClF 123:=z08 (by kernel_rfl)
theorem zt6 {ad:Addr}{H:Heap}:dLoad Tryz.prog 146 (.pointer (some ad)) H=dload1 (H.load ad 1) H:=z0c (by kernel_rfl)
theorem zqp:ClF 124:=z08 (by kernel_rfl)
theorem zuj:ClF 125:=z08 (by kernel_rfl)
theorem zuk:ClF 126:=z08 (by kernel_rfl)
theorem zul:ClF 127:=z08 (by kernel_rfl)
theorem zum:ClF 128:=z08 (by kernel_rfl)
theorem zun:ClF 129:=z08 (by kernel_rfl)
theorem zuo:ClF 130:=z08 (by kernel_rfl)
theorem zup:ClF 131:=z08 (by kernel_rfl)
theorem zuq:ClF 132:=z08 (by kernel_rfl)
theorem zur:ClF 133:=z08 (by kernel_rfl)
theorem zus {vs:List (Nat × Value)}{H:Heap}:dBuild Tryz.prog 180 vs H=dBd (vs.all fun p=>p.2.cells.toList.all one) (layC [(0,1),(1,1),(2,1),(3,1)] [.int .i64 0,.string Zh,.string Zh,.int .u64 0] (vs.map fun p=>(p.1,p.2.cells.toList))) H:=z1z (by kernel_rfl) (by kernel_rfl)
theorem zut:zerosOf Tryz.prog 180=some [.int .i64 0,.string Zh,.string Zh,.int .u64 0]:=by kernel_rfl
theorem zuu {b o:Nat}{H:Heap}{cs:List Value}:dStore Tryz.prog 180 (.pointer (some ⟨b,o,none⟩)) (.agg ⟨cs⟩) H=dStoreIf (Zt cs.length 4) ⟨b,o,none⟩ cs H (H.get b):=z1g (by kernel_rfl) (by kernel_rfl)
theorem zkt {b o:Nat}{H:Heap}:dFieldAddr Tryz.prog 76 (.pointer (some ⟨b,o,none⟩)) 6 H=some (.val (.pointer (some ⟨b,o+6,none⟩)) H):=z06 (u:=71) (by kernel_rfl) (by kernel_rfl)
theorem ld71 {ad:Addr}{H:Heap}:dLoad Tryz.prog 71 (.pointer (some ad)) H=dload1 (H.load ad 1) H:=z0c (by kernel_rfl)
theorem zqq {ad:Addr}{H:Heap}:dLoad Tryz.prog 180 (.pointer (some ad)) H=dloadA 4 (H.load ad 4) H:=z1o (by kernel_rfl) (by kernel_rfl)
theorem zku {b o:Nat}{H:Heap}:dFieldAddr Tryz.prog 76 (.pointer (some ⟨b,o,none⟩)) 7 H=some (.val (.pointer (some ⟨b,o+7,none⟩)) H):=z06 (u:=72) (by kernel_rfl) (by kernel_rfl)
theorem ld72 {ad:Addr}{H:Heap}:dLoad Tryz.prog 72 (.pointer (some ad)) H=dload1 (H.load ad 1) H:=z0c (by kernel_rfl)
theorem ln33 {ty:TypeId}{a:Option Addr}{n c:Nat}{H:Heap}:dLn Tryz.prog 33 ty (.slice a n c) H=some (.val (.int .i64 n) H):=z19 (e:=116) (by kernel_rfl)
theorem zt7 {v0:Value}{H:Heap}:dBuildS Tryz.prog 33 1 [(0,v0)] H=dBs 116 1 (([(0,v0)]:List (Nat × Value)).all fun p=>p.2.cells.toList.all one) (layC [(0,2)] [.string Zh,.int .i64 0] (([(0,v0)]:List (Nat × Value)).map fun p=>(p.1,p.2.cells.toList))) H:=z11 (size:=2) (by kernel_rfl) rfl
theorem ap33:apOk Tryz.prog 33 116 2:=z33 (by kernel_rfl)
theorem st33 {b o:Nat}{H:Heap}{a:Option Addr}{n c:Nat}:dStore Tryz.prog 33 (.pointer (some ⟨b,o,none⟩)) (.slice a n c) H=dStoreB ⟨b,o,none⟩ [.slice a n c] H (H.get b):=z1m (by kernel_rfl) (by kernel_rfl)
theorem ia73 {b o n c i:Nat}{k:IntKind}{H:Heap}(h:i < n):dIndexAddr Tryz.prog 73 (.slice (some ⟨b,o,none⟩) n c) (.int k (i:Int)) H=some (.val (.pointer (some ⟨b,o+i*2,none⟩)) H):=z0t (e:=121) (by kernel_rfl) (by kernel_rfl) (by kernel_rfl) h
theorem zuv {ad:Addr}{H:Heap}:dLoad Tryz.prog 121 (.pointer (some ad)) H=dloadA 2 (H.load ad 2) H:=z1o (by kernel_rfl) (by kernel_rfl)
theorem zuw:ClF 149:=z08 (by kernel_rfl)
theorem zux:ClF 150:=z08 (by kernel_rfl)
theorem zt8:ClF 151:=z08 (by kernel_rfl)
theorem zqr {k:IntKind}{n:Int}{H:Heap}:dCon Tryz.prog 3 189 (.int k n) H=some (.val (.int .u64 (IntKind.u64.wrap n)) H):=z2j (k:=.i64) (by kernel_rfl) (by kernel_rfl)
theorem zuy:zerosOf Tryz.prog 189=some [.int .u64 0]:=by kernel_rfl
theorem znn {b o:Nat}{H:Heap}{k:IntKind}{n:Int}:dStore Tryz.prog 189 (.pointer (some ⟨b,o,none⟩)) (.int k n) H=dStoreB ⟨b,o,none⟩ [.int k n] H (H.get b):=z2w (by kernel_rfl) (by kernel_rfl)
theorem zuz:ClF 152:=z08 (by kernel_rfl)
theorem zv0:ClF 153:=z08 (by kernel_rfl)
theorem zqs {k:IntKind}{n:Int}{H:Heap}:dCon Tryz.prog 150 3 (.int k n) H=some (.val (.int .i64 (IntKind.i64.wrap n)) H):=z2j (k:=.u64) (by kernel_rfl) (by kernel_rfl)
theorem zqt:ClF 154:=z08 (by kernel_rfl)
theorem zt9:ClF 155:=z08 (by kernel_rfl)
theorem zb6 {k:IntKind}{n:Int}{H:Heap}:dCon Tryz.prog 177 5 (.int k n) H=some (.val (.int .u8 (IntKind.u8.wrap n)) H):=z2j (k:=.u32) (by kernel_rfl) (by kernel_rfl)
theorem ix9 {s:ByteArray}{k:IntKind}{i:Nat}{H:Heap}(h:i < s.size):dIdx Tryz.prog 9 (.string s) (.int k (i:Int)) H=some (.val (.int .u8 (byteAt s i:Nat)) H):=z20 (by kernel_rfl) h
theorem iy9 {s:ByteArray}{k:IntKind}{i:Int}{H:Heap}(h0:0<=i) (h:i < s.size):dIdx Tryz.prog 9 (.string s) (.int k i) H=some (.val (.int .u8 (byteAt s i.toNat:Nat)) H):=zif (by kernel_rfl) h0 h
theorem zcw {k:IntKind}{n:Int}{H:Heap}:dCon Tryz.prog 5 3 (.int k n) H=some (.val (.int .i64 (IntKind.i64.wrap n)) H):=z2j (k:=.u8) (by kernel_rfl) (by kernel_rfl)
theorem zkv {k:IntKind}{n:Int}{H:Heap}:dCon Tryz.prog 38 5 (.int k n) H=some (.val (.int .u8 (IntKind.u8.wrap n)) H):=z2j (k:=.u64) (by kernel_rfl) (by kernel_rfl)
theorem us9:Tryz.prog.underlying 9=some .string:=by kernel_rfl
theorem ld5 {ad:Addr}{H:Heap}:dLoad Tryz.prog 5 (.pointer (some ad)) H=dload1 (H.load ad 1) H:=z0c (by kernel_rfl)
theorem zv1:ClF 166:=z08 (by kernel_rfl)
theorem zkw:zerosOf Tryz.prog 205=some [.bool false,.slice none 0 0]:=by kernel_rfl
theorem z9h {b o:Nat}{H:Heap}{cs:List Value}:dStore Tryz.prog 205 (.pointer (some ⟨b,o,none⟩)) (.agg ⟨cs⟩) H=dStoreIf (Zt cs.length 2) ⟨b,o,none⟩ cs H (H.get b):=z1g (by kernel_rfl) (by kernel_rfl)
theorem z9i {ad:Addr}{H:Heap}:dLoad Tryz.prog 205 (.pointer (some ad)) H=dloadA 2 (H.load ad 2) H:=z1o (by kernel_rfl) (by kernel_rfl)
theorem zv2:ClF 167:=z08 (by kernel_rfl)
theorem zno {ad:Addr}{H:Heap}:dLoad Tryz.prog 189 (.pointer (some ad)) H=dload1 (H.load ad 1) H:=z0c (by kernel_rfl)
theorem zqu:ClF 169:=z08 (by kernel_rfl)
theorem zim {vs:List (Nat × Value)}{H:Heap}:dBuild Tryz.prog 205 vs H=dBd (vs.all fun p=>p.2.cells.toList.all one) (layC [(0,1),(1,1)] [.bool false,.slice none 0 0] (vs.map fun p=>(p.1,p.2.cells.toList))) H:=z1z (by kernel_rfl) (by kernel_rfl)
theorem zta:ClF 172:=z08 (by kernel_rfl)
theorem zpt {k:IntKind}{n:Int}{H:Heap}:dCon Tryz.prog 3 38 (.int k n) H=some (.val (.int .u64 (IntKind.u64.wrap n)) H):=z2j (k:=.i64) (by kernel_rfl) (by kernel_rfl)
theorem z64 {ty:TypeId}{a:Option Addr}{n c:Nat}{H:Heap}:dLn Tryz.prog 203 ty (.slice a n c) H=some (.val (.int .i64 n) H):=z19 (e:=177) (by kernel_rfl)
theorem zin {b o n c i:Nat}{k:IntKind}{H:Heap}(h:i < n):dIndexAddr Tryz.prog 203 (.slice (some ⟨b,o,none⟩) n c) (.int k (i:Int)) H=some (.val (.pointer (some ⟨b,o+i*1,none⟩)) H):=z0t (e:=177) (by kernel_rfl) (by kernel_rfl) (by kernel_rfl) h
theorem zkx {ad:Addr}{H:Heap}:dLoad Tryz.prog 177 (.pointer (some ad)) H=dload1 (H.load ad 1) H:=z0c (by kernel_rfl)
theorem zb7 {k:IntKind}{n:Int}{H:Heap}:dCon Tryz.prog 177 38 (.int k n) H=some (.val (.int .u64 (IntKind.u64.wrap n)) H):=z2j (k:=.u32) (by kernel_rfl) (by kernel_rfl)
theorem zb8 {k:IntKind}{n:Int}{H:Heap}:dCon Tryz.prog 38 177 (.int k n) H=some (.val (.int .u32 (IntKind.u32.wrap n)) H):=z2j (k:=.u64) (by kernel_rfl) (by kernel_rfl)
theorem ztb {b o:Nat}{H:Heap}{k:IntKind}{n:Int}:dStore Tryz.prog 177 (.pointer (some ⟨b,o,none⟩)) (.int k n) H=dStoreB ⟨b,o,none⟩ [.int k n] H (H.get b):=z2w (by kernel_rfl) (by kernel_rfl)
theorem zqv {v0:Value}{H:Heap}:dBuildS Tryz.prog 203 1 [(0,v0)] H=dBs 177 1 (([(0,v0)]:List (Nat × Value)).all fun p=>p.2.cells.toList.all one) (layC [(0,1)] [.int .u32 0] (([(0,v0)]:List (Nat × Value)).map fun p=>(p.1,p.2.cells.toList))) H:=z11 (size:=1) (by kernel_rfl) rfl
theorem zv3:apOk Tryz.prog 203 177 1:=z33 (by kernel_rfl)
theorem ztc:ClF 173:=z08 (by kernel_rfl)
theorem zv4:ClF 174:=z08 (by kernel_rfl)
theorem zqw {v0:Value}{H:Heap}:dBuildS Tryz.prog 231 1 [(0,v0)] H=dBs 205 1 (([(0,v0)]:List (Nat × Value)).all fun p=>p.2.cells.toList.all one) (layC [(0,2)] [.bool false,.slice none 0 0] (([(0,v0)]:List (Nat × Value)).map fun p=>(p.1,p.2.cells.toList))) H:=z11 (size:=2) (by kernel_rfl) rfl
theorem zv5:ClF 175:=z08 (by kernel_rfl)
theorem zky {b o:Nat}{H:Heap}:dFieldAddr Tryz.prog 205 (.pointer (some ⟨b,o,none⟩)) 1 H=some (.val (.pointer (some ⟨b,o+1,none⟩)) H):=z06 (u:=203) (by kernel_rfl) (by kernel_rfl)
theorem ztd {ad:Addr}{H:Heap}:dLoad Tryz.prog 203 (.pointer (some ad)) H=dload1 (H.load ad 1) H:=z0c (by kernel_rfl)
theorem znp:ClF 177:=z08 (by kernel_rfl)
theorem zv6:ClF 176:=z08 (by kernel_rfl)
theorem zqx {k:IntKind}{n:Int}{H:Heap}:dCon Tryz.prog 3 177 (.int k n) H=some (.val (.int .u32 (IntKind.u32.wrap n)) H):=z2j (k:=.i64) (by kernel_rfl) (by kernel_rfl)
theorem zv7:ClF 178:=z08 (by kernel_rfl)
theorem zkz {v0:Value}{H:Heap}:dBuildS Tryz.prog 224 1 [(0,v0)] H=dBs 5 1 (([(0,v0)]:List (Nat × Value)).all fun p=>p.2.cells.toList.all one) (layC [(0,1)] [.int .u8 0] (([(0,v0)]:List (Nat × Value)).map fun p=>(p.1,p.2.cells.toList))) H:=z11 (size:=1) (by kernel_rfl) rfl
theorem zte:apOk Tryz.prog 224 5 1:=z33 (by kernel_rfl)
theorem zqy {b o:Nat}{H:Heap}:dFieldAddr Tryz.prog 205 (.pointer (some ⟨b,o,none⟩)) 0 H=some (.val (.pointer (some ⟨b,o+0,none⟩)) H):=z06 (u:=4) (by kernel_rfl) (by kernel_rfl)
theorem zv8 {ty:TypeId}{a:Option Addr}{n c:Nat}{H:Heap}:dLn Tryz.prog 224 ty (.slice a n c) H=some (.val (.int .i64 n) H):=z19 (e:=5) (by kernel_rfl)
theorem zv9 {b o n c i:Nat}{k:IntKind}{H:Heap}(h:i < n):dIndexAddr Tryz.prog 224 (.slice (some ⟨b,o,none⟩) n c) (.int k (i:Int)) H=some (.val (.pointer (some ⟨b,o+i*1,none⟩)) H):=z0t (e:=5) (by kernel_rfl) (by kernel_rfl) (by kernel_rfl) h
theorem st5 {b o:Nat}{H:Heap}{k:IntKind}{n:Int}:dStore Tryz.prog 5 (.pointer (some ⟨b,o,none⟩)) (.int k n) H=dStoreB ⟨b,o,none⟩ [.int k n] H (H.get b):=z2w (by kernel_rfl) (by kernel_rfl)
theorem zva {ty:TypeId}{a:Option Addr}{n c:Nat}{H:Heap}:dLn Tryz.prog 231 ty (.slice a n c) H=some (.val (.int .i64 n) H):=z19 (e:=205) (by kernel_rfl)
theorem zvb {b o n c:Nat}{k:IntKind}{i:Int}{H:Heap}(h0:0<=i) (h:i < n):dIndexAddr Tryz.prog 231 (.slice (some ⟨b,o,none⟩) n c) (.int k i) H=some (.val (.pointer (some ⟨b,o+i.toNat*2,none⟩)) H):=z9g (e:=205) (by kernel_rfl) (by kernel_rfl) (by kernel_rfl) h0 h
theorem ztf:mkOk Tryz.prog 203 177 [.int .u32 0]:=zer (by kernel_rfl)
theorem zqz:slcOk Tryz.prog 203 177 1:=⟨by kernel_rfl,by kernel_rfl,by kernel_rfl⟩
end Go.Proofs.hq
end

section
namespace Go.Hb
def valB (B:Nat):List Nat->Nat
 |[]=>0
 |x :: l=>x+B*valB B l
theorem z22 (B:Nat):∀a b:List Nat,valB B (a++b)=valB B a+B ^ a.length*valB B b
 |[],b=>by simp [valB]
 |x :: a,b=>by
  rw[List.cons_append,valB,z22 B a b,valB,List.length_cons,Nat.pow_succ,Nat.mul_add];rw[show B ^ a.length*B*valB B b=B*(B ^ a.length*valB B b) by rw[Nat.mul_comm (B ^ a.length) B,Nat.mul_assoc]];omega
theorem z65 (B x:Nat):valB B [x]=x:=by simp [valB]
theorem zl0 (B:Nat):∀l:List Nat,(∀x∈l,x < B)->valB B l < B ^ l.length
 |[],_=>by simp [valB]
 |x :: l,h=>by
  have ih:=zl0 B l fun y hy=>h y (Zl _ hy)
  have hx:=h x (by simp);rw[valB,List.length_cons,Nat.pow_succ];have h1:B*(valB B l+1)<=B*B ^ l.length:=Nat.mul_le_mul_left _ ih;rw[Nat.mul_comm (B ^ l.length) B];rw[Nat.mul_add] at h1;omega
theorem z6n (B:Nat):∀l:List Nat,(∀x∈l,x=0)->valB B l=0
 |[],_=>rfl
 |x :: l,h=>by rw[valB,h x (by simp),z6n B l fun y hy=>h y (Zl _ hy)];simp
theorem zl1 {B:Nat}{l:List Nat}{n:Nat}(h:∀x∈l.drop n,x=0):valB B (l.take n)=valB B l:=by
 conv=>rhs;rw[<-List.take_append_drop n l]
 rw[z22,z6n B _ h];simp
theorem zr0 {B c x:Nat}{d rest:List Nat}:valB B (d++[(x*10+c) % B])+B ^ (d.length+1)*(10*valB B rest+(x*10+c) / B)=valB B d+B ^ d.length*(10*valB B (x :: rest)+c):=by
 rw[z22,z65,valB,Nat.pow_succ];have h:=Nat.mod_add_div (x*10+c) B;generalize (x*10+c) % B=m at h ⊢;generalize (x*10+c) / B=q at h ⊢;generalize B ^ d.length=p;generalize valB B rest=v;have e1:p*B*(10*v+q)=p*(B*(10*v+q)):=Nat.mul_assoc ..;have e2:p*(10*(x+B*v)+c)=p*m+p*(B*(10*v+q)):=by
  rw[<-Nat.mul_add];congr 1;have e3:B*(10*v+q)=10*(B*v)+B*q:=by rw[Nat.mul_add,Nat.mul_left_comm]
  omega
 omega
theorem zl2 {B c x:Nat}(hB:0 < B) (hx:x < B) (hc:c < 10):(x*10+c) / B < 10:=by
 rw[Nat.div_lt_iff_lt_mul hB];omega
theorem zr1 {B x r:Nat}{low q:List Nat}:valB B (low++[x])+B ^ (low.length+1)*(10*valB B q+r)=valB B low+B ^ low.length*(10*valB B ((r*B+x) / 10 :: q)+(r*B+x) % 10):=by
 rw[z22,z65,valB,Nat.pow_succ];have h:=Nat.mod_add_div (r*B+x) 10;generalize (r*B+x) % 10=m at h ⊢;generalize (r*B+x) / 10=z at h ⊢;generalize B ^ low.length=p;generalize valB B q=v;have e1:p*B*(10*v+r)=p*(B*(10*v+r)):=Nat.mul_assoc ..;have e2:p*(10*(z+B*v)+m)=p*x+p*(B*(10*v+r)):=by
  rw[<-Nat.mul_add];congr 1;have e3:B*(10*v+r)=10*(B*v)+r*B:=by rw[Nat.mul_add,Nat.mul_left_comm,Nat.mul_comm B r]
  omega
 omega
theorem znq {B x r:Nat}(hx:x < B) (hr:r < 10):(r*B+x) / 10 < B:=by
 rw[Nat.div_lt_iff_lt_mul (by omega)];have:r*B<=9*B:=Nat.mul_le_mul_right _ (by omega);omega
def decR (n:Nat):List Nat:=if h:n=0 then [] else n % 10 :: decR (n / 10)
termination_by n
decreasing_by omega
theorem zl3:decR 0=[]:=by rw[decR];simp
theorem zgv {n:Nat}(h:n≠0):decR n=n % 10 :: decR (n / 10):=by rw[decR,dif_neg h]
def digV (b:Nat):Nat:=if 48<=b/\b<=57 then b - 48 else if 97<=b/\b<=122 then b - 97+10 else if 65<=b/\b<=90 then b - 65+10 else 99
def mostBits:Nat:=4096
@[irreducible] def big:Nat:=2 ^ mostBits
theorem zcx:big=2 ^ mostBits:=by unfold big;rfl
def numD:List Nat->Nat->Option Nat
 |[],n=>some n
 |d :: l,n=>if big<=n*10+d then none else numD l (n*10+d)
def textD (neg:Bool) (n:Nat):List Nat:=if n=0 then [48] else ((decR n).map (48+·)++if neg then [45] else []).reverse
def canonD (s:List Nat):Bool :=
 let neg:=s.head? == some 45;let b:=if neg then s.tail else s
 if b=[] then false else if b.any (fun x=>10<=digV x) then false else match numD (b.map digV) 0 with
  |none=>false
  |some n=>textD neg n == s
theorem zl4:∀(l:List Nat) (n m:Nat),n < big->numD l n=some m->m < big
 |[],n,m,h,e=>by cases e;exact h
 |d :: l,n,m,h,e=>by
  rw[numD] at e;split at e
  ·cases e
  ·rename_i hb;exact zl4 l _ m (Nat.lt_of_not_le hb) e
def nbits (n:Nat):Nat:=if n=0 then 0 else n.log2+1
theorem z9z {n s:Nat}(h:n≠0) (h1:2 ^ s<=n) (h2:n < 2 ^ (s+1)):nbits n=s+1:=by
 rw[nbits,if_neg h];have:=(Nat.log2_lt h).2 h2;have:=(Nat.le_log2 h).2 h1;omega
theorem zb9 {n:Nat}(e:Nat):e < nbits n↔2 ^ e<=n:=by
 unfold nbits;by_cases h:n=0
 ·subst h;simp
 ·rw[if_neg h];constructor
  ·intro hh;exact(Nat.le_log2 h).1 (by omega)
  ·intro hh;have:=(Nat.le_log2 h).2 hh;omega
theorem z4l {n:Nat}:4096 < nbits n↔big<=n:=by rw[zcx];exact zb9 mostBits
theorem z66 {n e:Nat}(h:2 ^ e<=n):nbits n=nbits (n / 2 ^ e)+e:=by
 have hp:0 < 2 ^ e:=Nat.two_pow_pos e;have h0:n / 2 ^ e≠0:=by
  have:=(Nat.le_div_iff_mul_le hp).2 (show 1*2 ^ e<=n by omega);omega
 have hb:nbits (n / 2 ^ e)=(n / 2 ^ e).log2+1:=by rw[nbits,if_neg h0]
 have h1:2 ^ (n / 2 ^ e).log2<=n / 2 ^ e:=Nat.log2_self_le h0;have h2:n / 2 ^ e < 2 ^ ((n / 2 ^ e).log2+1):=Nat.lt_log2_self;rw[hb,show (n / 2 ^ e).log2+1+e=((n / 2 ^ e).log2+e)+1 by omega];refine z9z (by omega) ?_ ?_
 ·rw[Nat.pow_add];exact(Nat.le_div_iff_mul_le hp).1 h1
 ·rw[show (n / 2 ^ e).log2+e+1=((n / 2 ^ e).log2+1)+e by omega,Nat.pow_add];exact(Nat.div_lt_iff_lt_mul hp).1 h2
theorem z39 {n:Nat}(h:n < 4294967296):nbits n<=32:=by
 unfold nbits;split
 ·omega
 ·rename_i h0;have:=(Nat.log2_lt (k:=32) h0).2 h;omega
theorem zcy {l:List Nat}{x e:Nat}(hl:∀y∈l,y < 2 ^ e) (hx:x≠0):nbits (valB (2 ^ e) (l++[x]))=e*l.length+nbits x:=by
 have hv:=zl0 (2 ^ e) l hl;rw[z22,z65,<-Nat.pow_mul] at *;have hb:nbits x=x.log2+1:=by rw[nbits,if_neg hx]
 rw[hb,<-Nat.add_assoc];have h1:2 ^ x.log2<=x:=Nat.log2_self_le hx;have h2:x < 2 ^ (x.log2+1):=Nat.lt_log2_self;refine z9z ?_ ?_ ?_
 ·have:0 < 2 ^ (e*l.length)*x:=Nat.mul_pos (Nat.two_pow_pos _) (by omega);omega
 ·rw[Nat.pow_add];have:=Nat.mul_le_mul_left (2 ^ (e*l.length)) h1;omega
 ·rw[Nat.add_assoc,Nat.pow_add];have:=Nat.mul_le_mul_left (2 ^ (e*l.length)) h2;rw[Nat.mul_succ] at this;omega
theorem za0 {e k m n:Nat}(hm:m≠0) (h:m*10 ^ k<=n) (hn:n < 2 ^ e):k < e:=by
 have h1:2 ^ k<=10 ^ k:=Nat.pow_le_pow_left (by omega) k;have h2:1*10 ^ k<=m*10 ^ k:=Nat.mul_le_mul_right _ (by omega);have h3:2 ^ k < 2 ^ e:=by omega
 exact(Nat.pow_lt_pow_iff_right (by omega)).1 h3
end Go.Hb
end

section
namespace Go.Proofs.hq
open Go Go.RowKit Go.Hb
variable {ok:Ok}
set_option maxRecDepth 10000
attribute [local irreducible] LX LG EL STG SOP SGO SGD SAL SRD SEF SEG SLK SCK ES
theorem zio (b:Nat):(b < 48/\digV b=99)\/(48<=b/\b<=57/\digV b=b - 48)\/(58<=b/\b < 65/\digV b=99)\/(65<=b/\b<=90/\digV b=b - 55)\/(91<=b/\b < 97/\digV b=99)\/(97<=b/\b<=122/\digV b=b - 87)\/(123<=b/\digV b=99):=by
 unfold digV;by_cases h1:48<=b/\b<=57
 ·simp [h1]
 ·by_cases h2:97<=b/\b<=122
  ·rw[if_neg h1,if_pos h2];omega
  ·by_cases h3:65<=b/\b<=90
   ·rw[if_neg h1,if_neg h2,if_pos h3];omega
   ·rw[if_neg h1,if_neg h2,if_neg h3];omega
theorem zgw (hk:∀args H,ok.K 172 args H=none) (hm:ok.testBit 172=true) (b:Nat) (hb:b < 256) (H:Heap) :
  EvF Tryz.prog ok 172 [.int .u8 (b:Int)] H fun v H'=>v=.int .i64 (digV b:Int)/\H'=H:=by
 refine EvF.enter (hk _ _) Tryz.func172 hm rfl ?_;rcases zio b with ⟨h1,h⟩|⟨h1,h2,h⟩|⟨h1,h2,h⟩|⟨h1,h2,h⟩|⟨h1,h2,h⟩|⟨h1,h2,h⟩|⟨h1,h⟩
 all_goals
  repeat' (first|refine qZa ?_|refine qZg ?_|(refine qZe ?_;try simp only[sA])|(refine qZf ?_;try simp only[z04,z02])|(refine qZb ?_;simp (config:=qZc) (disch:=first|omega|rfl) only[sB,initTm,Za,reduceCtorEq,zcw,decide_eq_true,decide_eq_false,z4i,z05,Zd])|(refine qZd ?_ ?_;simp (config:=qZc) only[sB,Za,reduceCtorEq];refine z01 ?_)|(refine qZm ?_ ?_;simp (config:=qZc) only[sB,Za,reduceCtorEq];refine z01 ?_))
  exact z03 rfl (by simp only[sB,Za,reduceCtorEq];rfl) ⟨by simp only[Value.int.injEq,true_and];omega,rfl⟩
def u32V (n:Nat):Value:=.int .u32 (n:Int)
def i64V (n:Nat):Value:=.int .i64 (n:Int)
theorem zba (hk:∀args H,ok.K 177 args H=none) (hm:ok.testBit 177=true) {L:List Nat}{a:Option Addr}{c:Nat}{H:Heap}(r:RdS H (L.map u32V) a c) :
  EvF Tryz.prog ok 177 [.slice a L.length c] H fun v H'=>∃m,v=.slice a m c/\m<=L.length/\(∀x∈L.drop m,x=0)/\(m≠0->L[m - 1]?≠some 0)/\H'=H:=by
 have hL:L.length<=c:=by simpa using r.len
 have hc:c<=9223372036854775807:=r.cap;refine EvF.enter (hk _ _) Tryz.func177 hm rfl ?_
 repeat' (first|refine qZa ?_|refine qZg ?_|(refine qZb ?_;simp only[sA,initTm]))
 refine qZk (fun k st=>∃tm n,st=⟨tm,[],H⟩/\k=n/\n<=L.length/\(∀x∈L.drop n,x=0)/\tm.get 0=some (.slice a n c)) ?_ L.length _ ?_
 ·rintro k st ⟨tm,n,rfl,rfl,hn,hz,g0⟩;by_cases h0:k=0
  ·subst h0
   repeat' (first|refine qZa ?_|(refine qZi ?_;try simp only[sB])|(refine qZf ?_)|(refine qZb ?_;simp (config:=qZc) (disch:=first|omega|rfl) only[sB,Za,reduceCtorEq,z64,g0,decide_eq_false,Zd])|(refine qZm ?_ ?_;simp (config:=qZc) (disch:=first|omega|rfl) only[sB,Za];refine z01 ?_))
   exact z03 rfl (by simp only[sG,Za]) ⟨0,rfl,by omega,hz,by simp,rfl⟩
  ·have hx:L[k - 1]?=some L[k - 1]:=Zc (by omega);generalize L[k - 1]=x at hx;obtain⟨b,o,rfl,hl⟩:=r.get (k - 1) (u32V x) (by simp [hx]);have e1:((k:Int) - 1)=((k - 1:Nat):Int):=by omega
   unfold u32V at hl;by_cases hx0:x=0
   ·repeat' (first|refine qZa ?_|refine qZg ?_|(refine qZe ?_;try simp only[z00])|(refine qZb ?_;simp (config:=qZc) (disch:=first|omega|rfl) only[sB,Za,reduceCtorEq,z64,zin,zkx,g0,e1,hl,decide_eq_true,z05,z0v,z55 zqz])|(refine qZd ?_ ?_;simp (config:=qZc) (disch:=first|omega|rfl) only[sB,Za];refine z01 ?_))
    refine⟨k - 1,by omega,_,k - 1,rfl,rfl,by omega,fun y hy=>?_,(by simp only[sG,reduceCtorEq])⟩;rw[ZB (by omega)] at hy;rcases List.mem_cons.1 hy with h|h
    ·rw[h,<-Option.some.inj ((Zc (by omega)).symm.trans hx)] at *;omega
    ·exact hz y (by rwa [show k - 1+1=k by omega] at h)
   ·repeat' (first|refine qZa ?_|(refine qZi ?_;try simp only[sB])|(refine qZf ?_)|(refine qZb ?_;simp (config:=qZc) (disch:=first|omega|rfl) only[sB,Za,reduceCtorEq,z64,zin,zkx,g0,e1,hl,decide_eq_true,z05,z0h])|(refine qZm ?_ ?_;simp (config:=qZc) (disch:=first|omega|rfl) only[sB,Za];refine z01 ?_))
    exact z03 rfl (by simp only[sG,Za]) ⟨k,rfl,hn,hz,fun _=>by rw[hx];simpa using hx0,rfl⟩
 ·exact⟨_,L.length,rfl,rfl,Ze _,by simp,(by simp only[sG,reduceCtorEq])⟩
theorem z8m {s:ByteArray}(h:∀i:Fin 256,byteAt s i=nbits i) {y:Nat}(hy:y < 256):byteAt s y=nbits y:=h ⟨y,hy⟩
theorem znr (hk:∀args H,ok.K 132 args H=none) (hm:ok.testBit 132=true) {x:Nat}(hx:x < 4294967296) {H:Heap} :
  EvF Tryz.prog ok 132 [.int .u32 (x:Int)] H fun v H'=>v=.int .i64 (nbits x:Int)/\H'=H:=by
 refine EvF.enter (hk _ _) Tryz.func132 hm rfl ?_;by_cases h1:65536<=x
 ·have e1:nbits x=nbits (x / 65536)+16:=z66 (e:=16) h1;by_cases h2:16777216<=x
  ·have e2:nbits (x / 65536)=nbits (x / 65536 / 256)+8:=z66 (e:=8) (by omega)
   repeat' (first|refine qZa ?_|(refine qZb ?_;simp (config:=qZc) (disch:=first|omega|rfl) only[sB,initTm,Za,reduceCtorEq,zb6,decide_eq_true,z8e,z9y,z05,z4i])|(refine qZd ?_ ?_;simp (config:=qZc) only[sB,Za,reduceCtorEq];refine z01 ?_))
   rw[z20 Tryz.underlying9 (show x / 65536 / 256 < _ from by show _ < 256;omega)];generalize hB:byteAt _ (x / 65536 / 256)=B;have hB':B=nbits (x / 65536 / 256):=by rw[<-hB];exact z8m (by decide +kernel) (by omega)
   have hl:=z39 (n:=x / 65536 / 256) (by omega)
   repeat' (first|(refine qZf ?_)|(refine z0f ?_;simp (config:=qZc) (disch:=first|omega|rfl) only[sB,Za,reduceCtorEq,zcw,z05]))
   exact z03 rfl (by simp only[sB,Za,reduceCtorEq];rfl) ⟨by simp only[Value.int.injEq,true_and];omega,rfl⟩
  ·repeat' (first|refine qZa ?_|(refine qZe ?_;try simp only[z00])|(refine qZb ?_;simp (config:=qZc) (disch:=first|omega|rfl) only[sB,initTm,Za,reduceCtorEq,zb6,decide_eq_true,decide_eq_false,z8e,z4i])|(refine qZd ?_ ?_;simp (config:=qZc) only[sB,Za,reduceCtorEq];refine z01 ?_)|(refine qZm ?_ ?_;simp (config:=qZc) only[sB,Za,reduceCtorEq];refine z01 ?_))
   rw[z20 Tryz.underlying9 (show x / 65536 < _ from by show _ < 256;omega)];generalize hB:byteAt _ (x / 65536)=B;have hB':B=nbits (x / 65536):=by rw[<-hB];exact z8m (by decide +kernel) (by omega)
   have hl:=z39 (n:=x / 65536) (by omega)
   repeat' (first|(refine qZf ?_)|(refine z0f ?_;simp (config:=qZc) (disch:=first|omega|rfl) only[sB,Za,reduceCtorEq,zcw,z05]))
   exact z03 rfl (by simp only[sB,Za,reduceCtorEq];rfl) ⟨by simp only[Value.int.injEq,true_and];omega,rfl⟩
 ·by_cases h2:256<=x
  ·have e2:nbits x=nbits (x / 256)+8:=z66 (e:=8) h2
   repeat' (first|refine qZa ?_|(refine qZe ?_;try simp only[z00])|(refine qZb ?_;simp (config:=qZc) (disch:=first|omega|rfl) only[sB,initTm,Za,reduceCtorEq,zb6,decide_eq_true,decide_eq_false,z9y,z05,z4i])|(refine qZd ?_ ?_;simp (config:=qZc) only[sB,Za,reduceCtorEq];refine z01 ?_)|(refine qZm ?_ ?_;simp (config:=qZc) only[sB,Za,reduceCtorEq];refine z01 ?_))
   rw[z20 Tryz.underlying9 (show x / 256 < _ from by show _ < 256;omega)];generalize hB:byteAt _ (x / 256)=B;have hB':B=nbits (x / 256):=by rw[<-hB];exact z8m (by decide +kernel) (by omega)
   have hl:=z39 (n:=x / 256) (by omega)
   repeat' (first|(refine qZf ?_)|(refine z0f ?_;simp (config:=qZc) (disch:=first|omega|rfl) only[sB,Za,reduceCtorEq,zcw,z05]))
   exact z03 rfl (by simp only[sB,Za,reduceCtorEq];rfl) ⟨by simp only[Value.int.injEq,true_and];omega,rfl⟩
  ·repeat' (first|refine qZa ?_|(refine qZe ?_;try simp only[z00])|(refine qZb ?_;simp (config:=qZc) (disch:=first|omega|rfl) only[sB,initTm,Za,reduceCtorEq,zb6,decide_eq_false,z4i])|(refine qZm ?_ ?_;simp (config:=qZc) only[sB,Za,reduceCtorEq];refine z01 ?_))
   rw[z20 Tryz.underlying9 (show x < _ from by show _ < 256;omega)];generalize hB:byteAt _ (x)=B;have hB':B=nbits (x):=by rw[<-hB];exact z8m (by decide +kernel) (by omega)
   have hl:=z39 (n:=x) (by omega)
   repeat' (first|(refine qZf ?_)|(refine z0f ?_;simp (config:=qZc) (disch:=first|omega|rfl) only[sB,Za,reduceCtorEq,zcw,z05]))
   exact z03 rfl (by simp only[sB,Za,reduceCtorEq];rfl) ⟨by simp only[Value.int.injEq,true_and];omega,rfl⟩
theorem ztg (a:Nat):(a:Int).tdiv 10=((a / 10:Nat):Int):=rfl
theorem zth (a:Nat):(a:Int).tmod 10=((a % 10:Nat):Int):=rfl
theorem zti {r x:Nat}(hr:r < 10) (hx:x < 4294967296):kOr .u64 (IntKind.u64.wrap ((r:Int)*2 ^ (min 32 IntKind.u64.bits))) (x:Int)=((r*4294967296+x:Nat):Int):=by
 have e1:((r:Int)*2 ^ (min 32 IntKind.u64.bits))=((r*4294967296:Nat):Int):=by
  show (r:Int)*2 ^ 32=_;omega
 rw[e1,wrap_u64 (by omega) (by omega)];unfold kOr;show IntKind.u64.wrap ((BitVec.ofInt 64 ((r*4294967296:Nat):Int) ||| BitVec.ofInt 64 (x:Int)).toNat:Int)=_;rw[BitVec.ofInt_natCast,BitVec.ofInt_natCast,BitVec.toNat_or,BitVec.toNat_ofNat,BitVec.toNat_ofNat,Nat.mod_eq_of_lt (by omega),Nat.mod_eq_of_lt (by omega)];have e2:r*4294967296 ||| x=r*4294967296+x:=by
  have:=Nat.two_pow_add_eq_or_of_lt (i:=32) (b:=x) hx r;rw[Nat.mul_comm] at this;exact this.symm
 rw[e2,wrap_u64 (by omega) (by omega)]
theorem zns (hk:∀args H,ok.K 178 args H=none) (hm:ok.testBit 178=true) {r x:Nat}(hr:r < 10) (hx:x < 4294967296) {H:Heap}(hw:H.wf) :
  EvF Tryz.prog ok 178 [.int .u32 (r:Int),.int .u32 (x:Int),.int .u32 10] H fun v H'=>v=.tuple ⟨[.int .u32 ((r*4294967296+x) / 10:Nat),.int .u32 ((r*4294967296+x) % 10:Nat)]⟩/\HX H H':=by
 refine EvF.enter (hk _ _) Tryz.func178 hm rfl ?_
 repeat' (first|refine qZa ?_|(refine qZe ?_;try simp only[z00])|(refine qZf ?_)|(refine qZb ?_;simp (config:=qZc) (disch:=first|omega|rfl) only[sB,initTm,Za,Zb,reduceCtorEq,Int.reduceToNat,zb7,decide_eq_false,z29,bShl,bOr,wrap_u64,zti hr hx])|(refine qZj [([(0,0),(1,0),(2,0),(3,0),(4,0),(5,0),(6,0),(7,0),(8,0),(9,0),(10,0),(11,0)],none)] ?_ ?_;kernel_rfl;simp (config:=qZc) (disch:=first|omega|rfl) only[sD,sB,Za,Zb,reduceCtorEq,zb7,zb8,wrap_u64,bQuo,bRem,wrap_u32,ztg,zth,isAlloc,isRead])|(refine qZm ?_ ?_;simp (config:=qZc) only[sB,Za,reduceCtorEq];refine z01 ?_))
 exact z0j rfl (by simp only[sG,Za,reduceCtorEq]) (by simp only[sG,Za,reduceCtorEq]) ⟨rfl,(HX.refl hw).bump _⟩
end Go.Proofs.hq
end

section
namespace Go.Proofs.hq
open Go Go.RowKit Go.Hb
def okT:Ok:=okLaw (2 ^ 216 - 1) 5 145
end Go.Proofs.hq
end

section
namespace Go.Proofs.hq
open Go Go.RowKit Go.Hb
variable {ok:Ok}
set_option maxRecDepth 10000
attribute [local irreducible] LX LG EL STG SOP SGO SGD SAL SRD SEF SEG SLK SCK ES
theorem z8n {B m:Nat}{L:List Nat}(hz:∀x∈L.drop m,x=0):valB B (L.take m)=valB B L:=zl1 hz
theorem zex {L:List Nat}{m x:Nat}(hL:∀y∈L,y < 4294967296) (hm:m<=L.length) (hz:∀y∈L.drop m,y=0) (h0:m≠0) (hx:L[m - 1]?=some x) (hx0:x≠0) :
  nbits (valB 4294967296 L)=32*(m - 1)+nbits x:=by
 rw[<-z8n hz];have e:L.take m=L.take (m - 1)++[x]:=by
  have h1:m=(m - 1)+1:=by omega
  rw[h1,List.take_add_one];simp only[Nat.add_sub_cancel,hx,Option.toList_some]
 rw[e];have:=zcy (l:=L.take (m - 1)) (x:=x) (e:=32) (fun y hy=>hL y (List.mem_of_mem_take hy)) hx0;rw[ZH,Nat.min_eq_left (by omega)] at this;exact this
theorem zl5 {L:List Nat}{a:Option Addr}{c:Nat}{H:Heap}(r:RdS H (L.map u32V) a c) (hL:∀y∈L,y < 4294967296) (hlen:L.length<=1048576) :
  EvF Tryz.prog okT 173 [.slice a L.length c] H fun v H'=>v=.int .i64 (nbits (valB 4294967296 L):Nat)/\H'=H:=by
 have hLc:L.length<=c:=by simpa using r.len
 have hc:c<=9223372036854775807:=r.cap;refine EvF.enter rfl Tryz.func173 (by decide) rfl ?_
 repeat' (first|refine qZa ?_|(refine qZb ?_;simp only[sB,initTm,Za,reduceCtorEq,znp]))
 refine(zba (fun _ _=>rfl) (by decide) r).mono ?_;rintro v H' ⟨m,rfl,hm,hz,hn0,rfl⟩;by_cases h0:m=0
 ·subst h0
  repeat' (first|refine qZa ?_|(refine qZf ?_;try simp only[z04,z02])|(refine qZb ?_;simp (disch:=first|omega|rfl) only[sB,Za,reduceCtorEq,z64,z0v])|(refine qZd ?_ ?_;simp only[sB,Za,reduceCtorEq];refine z01 ?_))
  refine z03 rfl (by simp only[sB,Za,reduceCtorEq];rfl) ⟨?_,rfl⟩;rw[z6n _ L (by simpa using hz)];rfl
 ·have hx:L[m - 1]?=some L[m - 1]:=Zc (by omega);have hx0:=hn0 h0;have hxl:=hL L[m - 1] (ZD _);generalize L[m - 1]=x at hx hxl;rw[hx] at hx0;have hx0':x≠0:=fun h=>hx0 (by rw[h])
  have hnb:=zex hL hm hz h0 hx hx0';have hle:=z39 (n:=x) (by omega);obtain⟨b,o,rfl,hl⟩:=r.get (m - 1) (u32V x) (by simp [hx]);unfold u32V at hl;have e1:((m:Int) - 1)=((m - 1:Nat):Int):=by omega
  repeat' (first|refine qZa ?_|(refine qZe ?_;try simp only[z00])|(refine qZb ?_;simp (disch:=first|omega|rfl) only[sB,Za,reduceCtorEq,z64,zin,zkx,zuq,z0h,z05,e1,hl])|(refine qZm ?_ ?_;simp only[sB,Za,reduceCtorEq];refine z01 ?_))
  refine(znr (fun _ _=>rfl) (by decide) (show x < 4294967296 from hxl)).mono ?_;rintro v H' ⟨rfl,rfl⟩
  repeat' (first|(refine qZf ?_)|(refine z0f ?_;simp (disch:=first|omega|rfl) only[sB,Za,reduceCtorEq,z05]))
  refine z03 rfl (by simp only[sB,Za,reduceCtorEq];rfl) ⟨?_,rfl⟩;simp only[Value.int.injEq,true_and];omega
theorem zr2 {L:List Nat}{neg:Bool}{a:Option Addr}{b c:Nat}{H:Heap}(r:RdS H (L.map u32V) a c) (hL:∀y∈L,y < 4294967296) (hlen:L.length<=1048576) (hw:H.wf) (hb:b < H.next)
  (hl:H.load ⟨b,0,none⟩ 2=some [.bool neg,.slice a L.length c]) :
  EvF Tryz.prog okT 175 [.slice (some ⟨b,0,none⟩) 1 1] H fun v H'=>v=.bool (decide (4096 < nbits (valB 4294967296 L)))/\HX H H':=by
 refine EvF.enter rfl Tryz.func175 (by decide) rfl ?_
 repeat' (first|refine qZa ?_|refine qZg ?_|(refine qZb ?_;simp (disch:=first|omega|rfl) only[sB,initTm,Za,reduceCtorEq,zva]))
 refine qZk (fun k st=>∃tm H',st=⟨tm,[],H'⟩/\HX H H'/\tm.get 5=some (.slice (some ⟨b,0,none⟩) 1 1)/\tm.get 6=some (.int .i64 1)/\((k=1/\tm.get 7=some (.int .i64 0))\/(k=0/\tm.get 7=some (.int .i64 1)/\¬ 4096 < nbits (valB 4294967296 L)))) ?_ 1 _ ?_
 ·rintro k st ⟨tm,H',rfl,hx,g5,g6,⟨rfl,g7⟩|⟨rfl,g7,hn⟩⟩
  ·have hl':=hx.load hw hl;have hx2:=((hx.new (some (Blk.row [.bool false,.slice none 0 0] 205))).put (i:=H'.next) hx.next (Zf _) (some (.row [.bool neg,.slice a L.length c] 205)))
   repeat' (first|refine qZa ?_|refine qZg ?_|(refine qZe ?_;try simp only[z00])|(refine qZb ?_;simp (disch:=first|omega|rfl) only[sB,dAlloc,Za,Zb,one,cutC,Int.reduceToNat,z9i,zkw,z9h,zky,ztd,ztc,g5,g6,g7,hl',decide_eq_true,zvb,Nat.zero_mul])|(refine qZd ?_ ?_;simp (disch:=first|omega|rfl) only[sB];refine z01 ?_))
   refine(zl5 (r.keep hx2 hw) hL hlen).mono ?_;rintro v H2 ⟨rfl,rfl⟩;by_cases hbig:4096 < nbits (valB 4294967296 L)
   ·repeat' (first|refine qZa ?_|(refine qZf ?_;try simp only[z04,z02])|(refine qZb ?_;simp (disch:=first|omega|rfl) only[sA])|(refine z0f ?_;simp (disch:=first|omega|rfl) only[sA,decide_eq_true])|(refine qZd ?_ ?_;simp (disch:=first|omega|rfl) only[sB,Za];refine z01 ?_))
    exact z03 rfl (by simp only[sG,Za]) ⟨rfl,hx2⟩
   ·repeat' (first|(refine qZe ?_;try simp only[sA])|(refine qZb ?_;simp (disch:=first|omega|rfl) only[sB,Za,g7,z05])|(refine z0f ?_;simp (disch:=first|omega|rfl) only[sA,decide_eq_false])|(refine qZm ?_ ?_;simp (disch:=first|omega|rfl) only[sB,Za];refine z01 ?_))
    exact⟨0,by omega,_,_,rfl,hx2,(by simp only[sG,Za,g5]),(by simp only[sG,Za,g6]),.inr ⟨rfl,(by simp only[sB,Za];rfl),hbig⟩⟩
  ·repeat' (first|refine qZa ?_|(refine qZi ?_;try simp only[sB])|(refine qZf ?_)|(refine qZb ?_;simp (disch:=first|omega|rfl) only[sA,g6,g7,decide_eq_false])|(refine qZm ?_ ?_;simp (disch:=first|omega|rfl) only[sB];refine z01 ?_))
   exact z03 rfl (by simp only[sG,Za]) ⟨rfl,hx⟩
 ·exact⟨_,_,rfl,HX.refl hw,(by simp only[sG,Za,reduceCtorEq]),(by simp only[sB,Za,reduceCtorEq];rfl),.inl ⟨rfl,(by simp only[sG,Za,reduceCtorEq])⟩⟩
theorem ztj {L:List Nat}{a:Option Addr}{c:Nat}{H:Heap}(r:RdS H (L.map u32V) a c) (hlen:L.length<=1048576) (hw:H.wf) :
  EvF Tryz.prog okT 176 [.slice a L.length c] H fun v H'=>∃b c',OwnS H' 177 1 H.next (L.map fun x=>[u32V x]) b c'/\v=.slice (some ⟨b,0,none⟩) L.length c'/\HX H H':=by
 have hmost:L.length<=most:=by unfold most;omega
 have hm0:0<=most:=ZA _;have hmax:L.length<=maxLen:=ZC hlen (by simp [maxLen]);refine EvF.enter rfl Tryz.func176 (by decide) rfl ?_;by_cases h0:L.length=0
 ·have hL0:L=[]:=List.length_eq_zero_iff.1 h0;subst hL0
  repeat' (first|refine qZa ?_|(refine qZf ?_)|(refine qZb ?_;simp only[sB,initTm,Za,reduceCtorEq,z64,z8b ztf hm0,zgf,List.replicate_zero,znk zqz]))
  refine z03 rfl (by simp only[sG,Za,reduceCtorEq]) ⟨H.next,0,?_,rfl,(HX.refl hw).new _⟩;exact OwnS.ones (vs:=[]) z0z (Ze _) (Zf _) (Ze _) (ZA _) rfl
 ·have hx:=(HX.refl hw).new (some (.row (List.replicate L.length (Value.int .u32 0)) 177));obtain⟨b,o,rfl,hl⟩:=(r.keep hx hw).all (by simpa using h0);rw[Zp] at hl;have hone:(L.map u32V).all one=true:=by simp [u32V,one]
  have hcp:=zqi (c:=L.length) (c':=c) (o:=0) (b:=H.next) zqz (Nat.pos_of_ne_zero h0) (by rw[Nat.mul_one];exact hl) hone z0z (by simp);have hsp:Hb.splice (List.replicate L.length (Value.int .u32 0)) 0 (L.map u32V)=L.map u32V:=by rw[z45];simp
  rw[hsp] at hcp
  repeat' (first|refine qZa ?_|(refine qZf ?_)|(refine qZb ?_;simp only[sB,initTm,Za,reduceCtorEq,z64,z8b ztf hmost,zgf,hcp]))
  refine z03 rfl (by simp only[sG,Za,reduceCtorEq]) ⟨H.next,L.length,?_,rfl,hx.put (Ze _) (Zf _) _⟩;have:=OwnS.ones (H:=(H.new (some (.row (List.replicate L.length (Value.int .u32 0)) 177))).put H.next (some (.row (L.map u32V) 177))) (base:=H.next) (c:=L.length) z88 (Ze _) (Zf _) (by simp) hmax hone;rw[List.map_map] at this;exact this
theorem zr4 {L:List Nat}{neg:Bool}{a:Option Addr}{c:Nat}{H:Heap}(r:RdS H (L.map u32V) a c) (hw:H.wf) :
  EvF Tryz.prog okT 174 [.bool neg,.slice a L.length c] H fun v H'=>∃m,v=.agg ⟨[.bool (neg && decide (0 < m)),.slice a m c]⟩/\m<=L.length/\(∀x∈L.drop m,x=0)/\(m≠0->L[m - 1]?≠some 0)/\HX H H':=by
 refine EvF.enter rfl Tryz.func174 (by decide) rfl ?_
 repeat' (first|refine qZa ?_|(refine qZb ?_;simp only[sB,initTm,dAlloc,Za,reduceCtorEq,zkw,znp]))
 have hx:=(HX.refl hw).new (some (.row [.bool false,.slice none 0 0] 205));refine(zba (fun _ _=>rfl) (by decide) (r.keep hx hw)).mono ?_;rintro v H' ⟨m,rfl,hm,hz,hn0,rfl⟩;cases neg with
 |false =>
  repeat' (first|refine qZa ?_|(refine qZf ?_)|(refine qZb ?_;simp only[sB,Za,Zb,Value.cells,one,reduceCtorEq,Zr,layC,zim,z9h]))
  exact z0s rfl (by simp only[sB,Za,reduceCtorEq];rfl) (by simp only[sB,Zb,cutC,z9i];rfl) ⟨m,rfl,hm,hz,hn0,hx.put (Ze _) (Zf _) _⟩
 |true =>
  by_cases h0:0 < m
  ·repeat' (first|refine qZa ?_|(refine qZf ?_)|(refine qZb ?_;simp only[sB,Za,Zb,Value.cells,one,reduceCtorEq,Zr,layC,z64,zim,z9h,decide_eq_true]))
   exact z0s rfl (by simp only[sB,Za,reduceCtorEq];rfl) (by simp only[sB,Zb,cutC,z9i];rfl) ⟨m,by first|rfl|simp [h0],hm,hz,hn0,hx.put (Ze _) (Zf _) _⟩
  ·repeat' (first|refine qZa ?_|(refine qZf ?_)|(refine qZb ?_;simp only[sB,Za,Zb,Value.cells,one,reduceCtorEq,Zr,layC,z64,zim,z9h,decide_eq_false]))
   exact z0s rfl (by simp only[sB,Za,reduceCtorEq];rfl) (by simp only[sB,Zb,cutC,z9i];rfl) ⟨m,by first|rfl|simp [h0],hm,hz,hn0,hx.put (Ze _) (Zf _) _⟩
def bl (s:ByteArray):List Nat:=s.data.toList.map UInt8.toNat
theorem z67 (s:ByteArray):(bl s).length=s.size:=by simp [bl]
theorem zl6 (s:ByteArray) {i:Nat}(h:i < s.size):(bl s)[i]?=some (byteAt s i):=by
 have h':i < s.data.toList.length:=by simpa using h
 unfold bl byteAt;rw[Zj,Zc h',List.getD_eq_getElem?_getD,Zc h'];rfl
theorem ziq (s:ByteArray) (l m:Nat):bl (s.extract l m)=((bl s).take m).drop l:=by
 unfold bl;rw[ByteArray.data_extract,Array.toList_extract,List.extract_eq_take_drop,List.map_take,List.map_drop,<-List.drop_take]
def negS (l:List Nat):Bool:=l.head? == some 45
def bodyS (l:List Nat):List Nat:=if negS l then l.tail else l
def parseD (l:List Nat):Option Nat:=if bodyS l=[] then none else if (bodyS l).any (fun x=>10<=digV x) then none else numD ((bodyS l).map digV) 0
def limbsOK (L:List Nat):Prop:=(∀y∈L,y < 4294967296)/\L.getLast?≠some 0
theorem zcz {L:List Nat}(h:limbsOK L) (hb:¬ 4096 < nbits (valB 4294967296 L)):L.length<=128:=by
 rcases List.eq_nil_or_concat L with rfl|⟨l,x,rfl⟩
 ·simp
 ·rw[List.concat_eq_append] at *;have hx:x≠0:=by have:=h.2;simpa using this
  have:=zcy (l:=l) (x:=x) (e:=32) (fun y hy=>h.1 y (by simp [hy])) hx;have h0:1<=nbits x:=by unfold nbits;rw[if_neg hx];omega
  rw[show (2:Nat) ^ 32=4294967296 from rfl] at this;rw[this] at hb;simp;omega
def ParseT (H':Heap) (V:Nat->Value) (B:Nat) (l:List Nat) (v:Value):Prop :=
 (parseD l=none/\∃e:Int,e≠0/\v=.tuple ⟨[.agg ⟨[.bool false,.slice none 0 0]⟩,.int .i64 e]⟩) \/
 ∃n L a c,parseD l=some n/\v=.tuple ⟨[.agg ⟨[.bool (negS l && decide (0 < L.length)),.slice a L.length c]⟩,.int .i64 0]⟩/\RdS H' (L.map V) a c/\(∀y∈L,y < B)/\valB B L=n/\L.getLast?≠some 0/\L.length<=4096
set_option maxHeartbeats 2000000 in
theorem znt {s:ByteArray}(hs:s.size<=9223372036854775807) {H:Heap}(hw:H.wf) :
  EvF Tryz.prog okT 166 [.string s,.int .i64 10] H fun v H'=>ParseT H' u32V 4294967296 (bl s) v/\HX H H':=by
 refine EvF.enter rfl Tryz.func166 (by decide) rfl ?_;(repeat refine qZa ?_);refine qZb ?_;simp only[sA,initTm,dAlloc,zkw];have hx0:=(HX.refl hw).new (some (.row [.bool false,.slice none 0 0] 205));obtain⟨H1,hH1⟩:∃H1,H1=H.new (some (.row [.bool false,.slice none 0 0] 205)):=⟨_,rfl⟩
 have hn1:H1.next=H.next+1:=by rw[hH1];rfl
 have hg1:H1.get H.next=some (.row [.bool false,.slice none 0 0] 205):=by rw[hH1];exact z0z
 rw[<-hH1] at hx0 ⊢;(repeat refine qZa ?_);refine qZb ?_;simp (disch:=first|omega|rfl) only[sB,Za,reduceCtorEq,decide_eq_false,Zd];refine qZm (by simp (disch:=first|omega|rfl) only[sB,Za,reduceCtorEq]) ?_;(try refine qZe ?_);(try simp only[z00,z0b]);(repeat refine qZa ?_);refine EvC.join (fun st=>∃tm,st=⟨tm,[],H1⟩/\tm.get 0=some (.string s)/\tm.get 1=some (.int .i64 10)/\tm.get 4=some (.pointer (some ⟨H.next,0,none⟩))/\tm.get 6=some (.bool (negS (bl s)))) ?_ ?_
 ·by_cases h0:s.size=0
  ·have hb:negS (bl s)=false:=by
    have:bl s=[]:=List.length_eq_zero_iff.1 (by rw[z67];exact h0);rw[this];rfl
   rw[hb];refine qZb ?_;simp (disch:=first|omega|rfl) only[sB,Za,reduceCtorEq,ln9,decide_eq_false,Zd];exact⟨_,rfl,(by simp only[sG,reduceCtorEq]),(by simp only[sG,Za,reduceCtorEq]),(by simp only[sG,Za,reduceCtorEq]),(by simp only[sG,Za,reduceCtorEq])⟩
  ·have hb:negS (bl s)=(byteAt s 0 == 45):=by
    have:=zl6 s (i:=0) (by omega);unfold negS;rw[List.head?_eq_getElem?,this];simp
   rw[hb];by_cases h45:byteAt s 0=45
   ·refine qZb ?_;simp (disch:=first|omega|rfl) only[sB,Za,reduceCtorEq,Int.reduceToNat,ln9,decide_eq_true,iy9,z0v];exact⟨_,rfl,(by simp only[sG,reduceCtorEq]),(by simp only[sG,Za,reduceCtorEq]),(by simp only[sG,Za,reduceCtorEq]),by simp only[sB,Za,reduceCtorEq];first|rfl|simp [h45]⟩
   ·refine qZb ?_;simp (disch:=first|omega|rfl) only[sB,Za,reduceCtorEq,Int.reduceToNat,ln9,decide_eq_true,iy9,z0h];exact⟨_,rfl,(by simp only[sG,reduceCtorEq]),(by simp only[sG,Za,reduceCtorEq]),(by simp only[sG,Za,reduceCtorEq]),by simp only[sB,Za,reduceCtorEq];first|rfl|simp [h45]⟩
 rintro st ⟨tm,rfl,g0,g1,g4,g6⟩;(try simp only[z00]);(repeat refine qZa ?_);refine qZb ?_;simp only[sA,g6];(repeat refine qZa ?_);have hbody:bodyS (bl s)=if negS (bl s) then (bl s).tail else bl s:=rfl
 refine EvC.join (fun st=>∃tm s',st=⟨tm,[],H1⟩/\bl s'=bodyS (bl s)/\s'.size<=9223372036854775807/\tm.get 0=some (.string s')/\tm.get 1=some (.int .i64 10)/\tm.get 4=some (.pointer (some ⟨H.next,0,none⟩))/\tm.get 6=some (.bool (negS (bl s)))) ?_ ?_
 ·cases hneg:negS (bl s) with
  |true =>
   have h1:1<=s.size:=by
    rw[<-z67];cases hb:bl s with
    |nil=>rw[hb] at hneg;simp [negS] at hneg
    |cons x l=>simp
   have hsl:dSl Tryz.prog 9 (.string s) (some (.int .i64 1)) none none H1=some (.val (.string (s.extract 1 s.size)) H1):=zic (l:=1) us9 h1;rw[hneg] at g6 hbody;refine qZd (by simp only[sB]) ?_;refine qZb ?_;simp only[sB,Za,reduceCtorEq,g0,hsl];refine⟨_,s.extract 1 s.size,rfl,?_,?_,(by simp only[sG,reduceCtorEq]),(by simp only[sG,Za,reduceCtorEq,g1]),(by simp only[sG,Za,reduceCtorEq,g4]),(by simp only[sG,Za,reduceCtorEq,g6])⟩
   ·rw[ziq,hbody,Zq (by rw[z67];exact Ze _)];simp
   ·have:(s.extract 1 s.size).size<=s.size:=by rw[ByteArray.size_extract];omega
    omega
  |false =>
   rw[hneg] at g6 hbody;refine qZm (by simp only[sB]) (qZe ?_);(try simp only[z00]);exact⟨_,s,rfl,by rw[hbody];rfl,hs,(by simp only[sG,reduceCtorEq,g0]),(by simp only[sG,Za,g1]),(by simp only[sG,Za,g4]),(by simp only[sG,Za,g6])⟩
 clear g0 g1 g4 g6;rintro st ⟨tm1,s',rfl,hbl,hs',g0,g1,g4,g6⟩;clear tm;generalize hneg:negS (bl s)=neg at g6;(try simp only[z00]);(repeat refine qZa ?_);refine qZb ?_;simp only[sB,ln9,g0];(repeat refine qZa ?_);refine EvC.join (fun st=>∃tm,st=⟨tm,[],H1⟩/\(bodyS (bl s)).any (fun x=>10<=digV x)=false/\tm.get 0=some (.string s')/\tm.get 1=some (.int .i64 10)/\tm.get 4=some (.pointer (some ⟨H.next,0,none⟩))/\tm.get 6=some (.bool neg)) ?_ ?_
 ·refine qZg (qZk (fun k st=>∃tm i,st=⟨tm,[],H1⟩/\k=s'.size - i/\i<=s'.size/\(∀x∈(bl s').take i,digV x < 10)/\tm.get 0=some (.string s')/\tm.get 1=some (.int .i64 10)/\tm.get 4=some (.pointer (some ⟨H.next,0,none⟩))/\tm.get 6=some (.bool neg)/\tm.get 32=some (.int .i64 s'.size)/\tm.get 33=some (.int .i64 (i:Nat))) ?_ s'.size _ ?_)
  ·rintro k st ⟨tm,i,rfl,hk,hi,hall,f0,f1,f4,f6,f32,f33⟩;by_cases hlt:i < s'.size
   ·have hgi:=zl6 s' hlt
    repeat' (first|refine qZa ?_|refine qZg ?_|(refine qZe ?_;try simp only[z00])|(refine qZb ?_;simp (disch:=first|omega|rfl) only[sB,Za,reduceCtorEq,ix9,zta,f0,f1,f32,f33,decide_eq_true])|(refine qZd ?_ ?_;simp (disch:=first|omega|rfl) only[sB];refine z01 ?_))
    refine(zgw (fun _ _=>rfl) (by decide) _ (zcf s' i) H1).mono ?_;rintro v H' ⟨rfl,rfl⟩;by_cases hd:10<=digV (byteAt s' i)
    ·repeat' (first|refine qZa ?_|(refine qZf ?_;try simp only[z04,z02])|(refine qZb ?_;simp (disch:=first|omega|rfl) only[sB,Za,Zb,Value.cells,one,layC,zim,z9h,f4,hg1])|(refine z0f ?_;simp (disch:=first|omega|rfl) only[sA,decide_eq_true])|(refine qZd ?_ ?_;simp (disch:=first|omega|rfl) only[sB,Za];refine z01 ?_))
     refine z0d rfl (by simp only[sB,Za,f4];rfl) (by simp only[sB,Zb,cutC,z9i]) (by simp only[sG,Za]) ⟨.inl ⟨?_,12,by omega,rfl⟩,?_⟩
     ·have hm:byteAt s' i∈bodyS (bl s):=by rw[<-hbl];exact ZG hgi
      unfold parseD;rw[if_neg (fun h=>by rw[h] at hm;cases hm),if_pos (List.any_eq_true.2 ⟨_,hm,decide_eq_true hd⟩)]
     ·exact hx0.put (Ze _) (by omega) _
    ·repeat' (first|(refine qZe ?_;try simp only[sA])|(refine qZb ?_;simp (disch:=first|omega|rfl) only[sB,Za,f33,z05])|(refine z0f ?_;simp (disch:=first|omega|rfl) only[sA,decide_eq_false])|(refine qZm ?_ ?_;simp (disch:=first|omega|rfl) only[sB,Za];refine z01 ?_))
     refine⟨s'.size - (i+1),by omega,_,i+1,rfl,rfl,by omega,fun x hx=>?_,(by simp only[sG,reduceCtorEq,f0]),(by simp only[sG,Za,f1]),(by simp only[sG,Za,f4]),(by simp only[sG,Za,f6]),(by simp only[sG,Za,f32]),(by simp only[sB,Za];rfl)⟩;rw[List.take_add_one,hgi] at hx;rcases List.mem_append.1 hx with h|h
     ·exact hall x h
     ·simp at h;rw[h];omega
   ·repeat' (first|refine qZa ?_|(refine qZi ?_;try simp only[sB])|(refine qZb ?_;simp (disch:=first|omega|rfl) only[sA,f32,f33,decide_eq_false])|(refine qZm ?_ ?_;simp (disch:=first|omega|rfl) only[sB];refine z01 ?_))
    refine⟨_,rfl,?_,(by simp only[sG,reduceCtorEq,f0]),(by simp only[sG,Za,f1]),(by simp only[sG,Za,f4]),(by simp only[sG,Za,f6])⟩;rw[List.any_eq_false];intro x hx;rw[<-hbl] at hx;have:=hall x (by rw[Zq (by rw[z67];omega)];exact hx);simp;omega
  ·exact⟨_,0,rfl,by omega,by omega,by simp,(by simp only[sG,reduceCtorEq,g0]),(by simp only[sG,Za,g1]),(by simp only[sG,Za,g4]),(by simp only[sG,Za,g6]),(by simp only[sG,Za]),(by simp only[sB,Za];rfl)⟩
 clear g0 g1 g4 g6 tm1;rintro st ⟨tm,rfl,hany,g0,g1,g4,g6⟩;by_cases hsz:s'.size=0
 ·repeat' (first|refine qZa ?_|(refine qZf ?_;try simp only[z04,z02])|(refine qZb ?_;simp (disch:=first|omega|rfl) only[sB,Za,Zb,Value.cells,one,layC,zim,z9h,g0,g4,zgj,decide_eq_true,hg1])|(refine qZd ?_ ?_;simp (disch:=first|omega|rfl) only[sB,Za];refine z01 ?_))
  refine z0d rfl (by simp only[sB,Za,g4];rfl) (by simp only[sB,Zb,cutC,z9i]) (by simp only[sG,Za]) ⟨.inl ⟨?_,12,by omega,rfl⟩,hx0.put (Ze _) (by omega) _⟩;have:bodyS (bl s)=[]:=by rw[<-hbl];exact List.length_eq_zero_iff.1 (by rw[z67];exact hsz)
  unfold parseD;rw[if_pos this]
 have hpd:parseD (bl s)=numD ((bl s').map digV) 0:=by
  have:bodyS (bl s)≠[]:=by rw[<-hbl];intro h;have:=congrArg List.length h;rw[z67] at this;exact hsz this
  unfold parseD;rw[if_neg this,if_neg (by rw[hany];simp),hbl]
 repeat' (first|refine qZa ?_|refine qZg ?_|(refine qZe ?_;try simp only[z00])|(refine qZb ?_;simp (disch:=first|omega|rfl) only[sB,Za,reduceCtorEq,ln9,g0,zgj,decide_eq_false])|(refine qZm ?_ ?_;simp (disch:=first|omega|rfl) only[sB,Za];refine z01 ?_))
 have hdl:∀x∈bl s',digV x < 10:=by
  rw[<-hbl,List.any_eq_false] at hany;intro x hx;have:=hany x hx;simp at this;omega
 refine qZk (fun k st=>∃tm i n L v Hc,st=⟨tm,[],Hc⟩/\k=s'.size - i/\i<=s'.size/\numD (((bl s').map digV).drop i) n=numD ((bl s').map digV) 0/\n < big/\valB 4294967296 L=n/\limbsOK L/\HX H1 Hc /\
  RepO Hc 177 1 H1.next (L.map fun x=>[u32V x]) v/\tm.get 0=some (.string s')/\tm.get 1=some (.int .i64 10)/\tm.get 4=some (.pointer (some ⟨H.next,0,none⟩))/\tm.get 6=some (.bool neg)/\tm.get 8=some v /\
  tm.get 48=some (.int .i64 s'.size)/\tm.get 49=some (.int .i64 (i:Nat))) ?_ s'.size _ ?_
 ·clear g0 g1 g4 g6 tm;rintro k st ⟨tm,i,n,L,v,Hc,rfl,hk,hi,hnum,hnb,hval,hL,hxc,hrep,g0,g1,g4,g6,g8,g48,g49⟩;by_cases hlt:i < s'.size
  ·have hgi:=zl6 s' hlt;have hdi:digV (byteAt s' i) < 10:=hdl _ (ZG hgi)
   repeat' (first|refine qZa ?_|refine qZg ?_|(refine qZe ?_;try simp only[z00])|(refine qZb ?_;simp (disch:=first|omega|rfl) only[sB,Za,reduceCtorEq,ix9,zta,g0,g48,g49,decide_eq_true])|(refine qZd ?_ ?_;simp (disch:=first|omega|rfl) only[sB];refine z01 ?_))
   refine(zgw (fun _ _=>rfl) (by decide) _ (zcf s' i) Hc).mono ?_;rintro v' H' ⟨rfl,rfl⟩;obtain⟨a,c,rfl,hLc,hcm⟩:=hrep.slice;rw[Zp] at hLc g8 hrep;have hcm':c<=9223372036854775807:=hcm
   repeat' (first|refine qZa ?_|refine qZg ?_|(refine qZb ?_;simp (disch:=first|omega|rfl) only[sB,Za,z64,g8])|(refine z0f ?_;simp (disch:=first|omega|rfl) only[sB,Za,zpt,wrap_u64]))
   refine qZk (fun k' st=>∃tm k d cy Hd,st=⟨tm,[],Hd⟩/\k'=L.length - k/\k<=L.length/\d.length=k/\(∀y∈d,y < 4294967296)/\cy < 10 /\
    valB 4294967296 d+4294967296 ^ k*(10*valB 4294967296 (L.drop k)+cy)=10*valB 4294967296 L+digV (byteAt s' i)/\(k≠0->L[k - 1]?≠some 0->cy≠0\/d.getLast?≠some 0)/\(k=0->cy=digV (byteAt s' i))/\HX H1 Hd /\
    RepO Hd 177 1 H1.next ((d++L.drop k).map fun x=>[u32V x]) (.slice a L.length c)/\tm.get 0=some (.string s')/\tm.get 1=some (.int .i64 10)/\tm.get 4=some (.pointer (some ⟨H.next,0,none⟩))/\tm.get 6=some (.bool neg) /\
    tm.get 8=some (.slice a L.length c)/\tm.get 10=some (.int .u64 (cy:Nat))/\tm.get 48=some (.int .i64 s'.size)/\tm.get 49=some (.int .i64 (i:Nat))/\tm.get 58=some (.int .i64 L.length)/\tm.get 59=some (.int .i64 (k:Nat))) ?_ L.length _ ?_
   ·clear hxc hrep g0 g1 g4 g6 g8 g48 g49 tm H';rintro k2 st ⟨tm,k,d,cy,Hd,rfl,hk2,hkl,hdk,hdb,hcy,hinv,hlast,hz0,hxc,hrep,g0,g1,g4,g6,g8,g10,g48,g49,g58,g59⟩;by_cases hkl2:k < L.length
    ·have hx:L[k]?=some L[k]:=Zc hkl2;have hdrop:L.drop k=L[k] :: L.drop (k+1):=ZB hkl2;have hxb:L[k] < 4294967296:=hL.1 _ (ZD _);generalize L[k]=x at hx hdrop hxb;rw[hdrop] at hrep hinv;obtain⟨b,c2,ho,hv⟩:=hrep.own (by simp);have hlm:((d++x :: L.drop (k+1)).map fun x=>[u32V x]).length=L.length:=by simp;omega
     rw[hlm] at hv;cases hv;have hld:=ho.load (i:=k) (x:=[u32V x]) (by rw[Zj,List.getElem?_append_right (by omega),hdk];simp);rw[Nat.mul_one] at hld;unfold u32V at hld;obtain⟨cs,hgb,hle,_⟩:=ho.row;rw[hlm,Nat.mul_one] at hle;have hk1:k+1<=cs.length:=by omega
     have e1:((x:Int)*10+(cy:Int))=((x*10+cy:Nat):Int):=by omega
     repeat' (first|refine qZa ?_|refine qZg ?_|(refine qZe ?_;try simp only[z00])|(refine qZb ?_;simp (disch:=first|omega|rfl) only[sB,Za,one,zpt,zin,zkx,zb7,zb8,ztb,g1,g8,g10,g58,g59,hld,hgb,hk1,e1,wrap_u64,zch,zet,z05,decide_eq_true])|(refine qZd ?_ ?_;simp (disch:=first|omega|rfl) only[sB];refine z01 ?_))
     have hset:=ho.set hgb (i:=k) (y:=[u32V ((x*10+cy) % 4294967296)]) (by rw[hlm];exact hkl2) rfl rfl;rw[Nat.mul_one] at hset;have hset2:((d++x :: L.drop (k+1)).map fun x=>[u32V x]).set k [u32V ((x*10+cy) % 4294967296)]=((d++[(x*10+cy) % 4294967296])++L.drop (k+1)).map fun x=>[u32V x]:=by
      rw[ZK,List.set_append_right _ _ (by simp;omega)];simp [hdk]
     rw[hset2] at hset;have hlm2:(((d++[(x*10+cy) % 4294967296])++L.drop (k+1)).map fun x=>[u32V x]).length=L.length:=by simp;omega
     have hcq:=zl2 (B:=4294967296) (x:=x) (c:=cy) (by omega) hxb hcy;refine⟨L.length - (k+1),by omega,_,k+1,d++[(x*10+cy) % 4294967296],(x*10+cy) / 4294967296,_,rfl,rfl,by omega,by simp [hdk],?_,hcq,?_,?_,by omega,hxc.put ho.lo ho.hi _,.inr ⟨_,_,hset,by rw[hlm2]⟩,
      (by simp only[sG,reduceCtorEq,g0]),(by simp only[sG,Za,g1]),(by simp only[sG,Za,g4]),(by simp only[sG,Za,g6]),(by simp only[sG,Za,g8]),(by simp only[sG,Za]),(by simp only[sG,Za,g48]),(by simp only[sG,Za,g49]),(by simp only[sG,Za,g58]),(by simp only[sB,Za];rfl)⟩
     ·intro y hy;rcases List.mem_append.1 hy with h|h
      ·exact hdb y h
      ·simp at h;omega
     ·have:=zr0 (B:=4294967296) (c:=cy) (x:=x) (d:=d) (rest:=L.drop (k+1));rw[hdk] at this;rw[this];exact hinv
     ·intro _ hl0;rw[show k+1 - 1=k by omega,hx] at hl0;have hx0:x≠0:=fun h=>hl0 (by rw[h])
      by_cases hq:(x*10+cy) / 4294967296=0
      ·refine .inr ?_;simp;omega
      ·exact .inl hq
    ·have hkL:k=L.length:=by omega
     have hdr:L.drop k=[]:=List.drop_of_length_le (by omega);rw[hdr] at hinv hrep;rw[List.append_nil] at hrep;simp only[valB,Nat.mul_zero,Nat.zero_add] at hinv;have hfew:=zcz hL (by rw[z4l,hval];omega);have hlastL:k≠0->L[k - 1]?≠some 0:=fun h0=>by
      have:=hL.2;rw[List.getLast?_eq_getElem?] at this;rw[hkL];exact this
     have hlm:(d.map fun x=>[u32V x]).length=L.length:=by simp;omega
     repeat' (first|refine qZa ?_|(refine qZi ?_;try simp only[sB,Za])|(refine qZb ?_;simp (disch:=first|omega|rfl) only[sB,Za,g58,g59,g10,decide_eq_false])|(refine qZm ?_ ?_;simp (disch:=first|omega|rfl) only[sB,Za];refine z01 ?_))
     have hnn:n*10+digV (byteAt s' i)=valB 4294967296 d+4294967296 ^ k*cy:=by rw[hval] at hinv;omega
     have hnumi:numD ((bl s').map digV) 0=if big<=n*10+digV (byteAt s' i) then none else numD (((bl s').map digV).drop (i+1)) (n*10+digV (byteAt s' i)):=by
      rw[<-hnum,ZB (by simp [z67];omega),numD];have:((bl s').map digV)[i]'(by simp [z67];omega)=digV (byteAt s' i):=by
       apply Option.some.inj;rw[<-Zc,Zj,hgi];rfl
      rw[this]
     generalize n*10+digV (byteAt s' i)=n' at hnn hnumi;refine EvC.join (fun st=>∃tm L' v' Hc',st=⟨tm,[],Hc'⟩/\valB 4294967296 L'=n'/\limbsOK L'/\L'.length<=129/\HX H1 Hc'/\RepO Hc' 177 1 H1.next (L'.map fun x=>[u32V x]) v' /\
      tm.get 0=some (.string s')/\tm.get 1=some (.int .i64 10)/\tm.get 4=some (.pointer (some ⟨H.next,0,none⟩))/\tm.get 6=some (.bool neg)/\tm.get 8=some v'/\tm.get 48=some (.int .i64 s'.size)/\tm.get 49=some (.int .i64 (i:Nat))) ?_ ?_
     ·by_cases hc0:cy=0
      ·repeat' (first|(refine qZe ?_;try simp only[z00])|(refine qZm ?_ ?_;simp (disch:=first|omega|rfl) only[sB,Za,decide_eq_false];refine z01 ?_))
       refine⟨_,d,_,_,rfl,by rw[hnn,hc0];omega,⟨hdb,?_⟩,by omega,hxc,hrep,(by simp only[sG,reduceCtorEq,g0]),(by simp only[sG,Za,g1]),(by simp only[sG,Za,g4]),(by simp only[sG,Za,g6]),(by simp only[sG,Za,g8]),(by simp only[sG,Za,g48]),(by simp only[sG,Za,g49])⟩;by_cases hk0:k=0
       ·have:d=[]:=List.length_eq_zero_iff.1 (by omega);rw[this];simp
       ·rcases hlast hk0 (hlastL hk0) with h|h
        ·exact absurd hc0 h
        ·exact h
      ·obtain⟨H2,v2,hap,hrep2,_,hx2,_⟩:=hrep.push zv3 (y:=[u32V cy]) rfl rfl (by simp [most];omega) hxc.next;unfold u32V at hap
       repeat' (first|(refine qZb ?_;simp (disch:=first|omega|rfl) only[sB,Za,Value.cells,one,layC,zb8,zqv,g8,g10,decide_eq_true,wrap_u32,hap])|(refine qZd ?_ ?_;simp (disch:=first|omega|rfl) only[sB,Za,decide_eq_true];refine z01 ?_))
       have hk2':((d++[cy]).map fun x=>[u32V x])=(d.map fun x=>[u32V x])++[[u32V cy]]:=by simp
       refine⟨_,d++[cy],_,_,rfl,?_,⟨?_,by simp;exact hc0⟩,by simp;omega,hx2 _ hxc (Ze _),by rw[hk2'];exact hrep2,(by simp only[sG,reduceCtorEq,g0]),(by simp only[sG,Za,g1]),(by simp only[sG,Za,g4]),(by simp only[sG,Za,g6]),(by simp only[sG,Za]),(by simp only[sG,Za,g48]),(by simp only[sG,Za,g49])⟩
       ·rw[z22,z65,hdk,hnn]
       ·intro y hy;rcases List.mem_append.1 hy with h|h
        ·exact hdb y h
        ·simp at h;omega
     clear g0 g1 g4 g6 g8 g10 g48 g49 g58 g59 tm hrep hxc;rintro st ⟨tm,L',v',Hc',rfl,hval',hL',hfew',hxc,hrep,g0,g1,g4,g6,g8,g48,g49⟩;obtain⟨a',c'',rfl,hr⟩:=RepO.rds (vs:=L'.map u32V) (by rw[List.map_map];exact hrep);rw[Zp] at g8 hrep
     repeat' (first|refine qZa ?_|(refine qZb ?_;simp (disch:=first|omega|rfl) only[sB,Za,ztc,g8]))
     refine(zl5 hr hL'.1 (by omega)).mono ?_;rintro v H2 ⟨rfl,rfl⟩;rw[hval'];have hg2:H2.get H.next=some (.row [.bool false,.slice none 0 0] 205):=by rw[hxc.keep _ (by omega)];exact hg1
     by_cases hbig:4096 < nbits n'
     ·repeat' (first|refine qZa ?_|(refine qZf ?_;try simp only[z04,z02])|(refine qZb ?_;simp (disch:=first|omega|rfl) only[sB,Za,Zb,Value.cells,one,layC,zim,z9h,g4,hg2])|(refine z0f ?_;simp (disch:=first|omega|rfl) only[sA,decide_eq_true])|(refine qZd ?_ ?_;simp (disch:=first|omega|rfl) only[sB,Za];refine z01 ?_))
      refine z0d rfl (by simp only[sB,Za,g4];rfl) (by simp only[sB,Zb,cutC,z9i]) (by simp only[sG,Za]) ⟨.inl ⟨?_,10,by omega,rfl⟩,(hx0.trans hxc).put (Ze _) (by have:=hxc.next;omega) _⟩;rw[hpd,hnumi,if_pos (z4l.1 hbig)]
     ·repeat' (first|(refine qZe ?_;try simp only[sA])|(refine qZb ?_;simp (disch:=first|omega|rfl) only[sB,Za,g49,z05])|(refine z0f ?_;simp (disch:=first|omega|rfl) only[sA,decide_eq_false])|(refine qZm ?_ ?_;simp (disch:=first|omega|rfl) only[sB,Za];refine z01 ?_))
      have hnb':¬big<=n':=fun h=>hbig (z4l.2 h)
      exact⟨s'.size - (i+1),by omega,_,i+1,n',L',_,_,rfl,rfl,by omega,by rw[hnumi,if_neg hnb'],Nat.lt_of_not_le hnb',hval',hL',hxc,hrep,(by simp only[sG,reduceCtorEq,g0]),(by simp only[sG,Za,g1]),(by simp only[sG,Za,g4]),(by simp only[sG,Za,g6]),(by simp only[sG,Za,g8]),(by simp only[sG,Za,g48]),(by simp only[sB,Za];rfl)⟩
   ·refine⟨_,0,[],digV (byteAt s' i),_,rfl,by omega,by omega,rfl,by simp,hdi,by simp [valB],by simp,fun _=>rfl,hxc,by simpa using hrep,(by simp only[sG,reduceCtorEq,g0]),(by simp only[sG,Za,g1]),(by simp only[sG,Za,g4]),(by simp only[sG,Za,g6]),(by simp only[sG,Za,g8]),(by simp only[sG,Za]),(by simp only[sG,Za,g48]),(by simp only[sG,Za,g49]),(by simp only[sG,Za]),(by simp only[sB,Za];rfl)⟩
  ·have hi':i=s'.size:=by omega
   have hnn:numD ((bl s').map digV) 0=some n:=by
    rw[<-hnum,List.drop_of_length_le (by simp [z67];omega),numD]
   obtain⟨a',c'',rfl,hr⟩:=RepO.rds (vs:=L.map u32V) (by rw[List.map_map];exact hrep);rw[Zp] at g8
   repeat' (first|refine qZa ?_|(refine qZi ?_;try simp only[sB])|(refine qZb ?_;simp (disch:=first|omega|rfl) only[sB,Za,zv4,g48,g49,g6,g8,decide_eq_false])|(refine qZm ?_ ?_;simp (disch:=first|omega|rfl) only[sB];refine z01 ?_))
   refine(zr4 hr hxc.wf).mono ?_;rintro v H2 ⟨m,rfl,hm,hz,hn0,hx2⟩;have hg2:H2.get H.next=some (.row [.bool false,.slice none 0 0] 205):=by rw[(hxc.trans hx2).keep _ (by omega)];exact hg1
   repeat' (first|(refine qZf ?_)|(refine z0f ?_;simp only[sB,Zb,one,z9h,g4,hg2]))
   have hx3:=hxc.trans hx2;have hm':m=L.length:=by
    rcases Nat.lt_or_ge m L.length with h|h
    ·have:=hz (L[L.length - 1]'(by omega)) (List.mem_drop_iff_getElem.2 ⟨L.length - 1 - m,by omega,by congr 1;omega⟩);have h2:=hL.2;rw[List.getLast?_eq_getElem?,Zc (by omega),this] at h2;exact absurd rfl h2
    ·omega
   subst hm';refine z0d rfl (by simp only[sB,Za,g4];rfl) (by simp only[sB,Zb,cutC,z9i];rfl) (by simp only[sB,Za];rfl) ⟨.inr ⟨n,L,a',c'',by rw[hpd,hnn],by rw[hneg],?_,hL.1,hval,hL.2,?_⟩,(hx0.trans hx3).put (Ze _) (by have:=hx3.next;omega) _⟩
   ·rw[Zp] at hrep;have h3:=(hrep.keep hx2).putlo (i:=H.next) (by omega) (some (.row [.bool (neg && decide (0 < L.length)),.slice a' L.length c''] 205));exact(RepO.rds' (vs:=L.map u32V) (by rw[List.map_map];exact h3)).2
   ·have:=zcz hL (by rw[z4l,hval];omega);omega
 ·exact⟨_,0,0,[],_,_,rfl,by omega,by omega,by simp,by rw[zcx];exact Nat.two_pow_pos _,rfl,⟨by simp,by simp⟩,HX.refl hx0.wf,RepO.empty,(by simp only[sG,reduceCtorEq,g0]),(by simp only[sG,Za,g1]),(by simp only[sG,Za,g4]),(by simp only[sG,Za,g6]),(by simp only[sG,Za]),(by simp only[sG,Za]),(by simp only[sB,Za];rfl)⟩
def u8V (n:Nat):Value:=.int .u8 (n:Int)
theorem zr5 {s:ByteArray}(h:∀i:Fin 10,byteAt s i=48+i) {y:Nat}(hy:y < 10):byteAt s y=48+y:=h ⟨y,hy⟩
theorem zgx {B:Nat}(hB:0 < B) {M:List Nat}(h0:M≠[]) (h:M.getLast?≠some 0):valB B M≠0:=by
 rcases List.eq_nil_or_concat M with rfl|⟨l,x,rfl⟩
 ·exact absurd rfl h0
 ·rw[List.concat_eq_append] at *;have hx:x≠0:=by simpa using h
  rw[z22,z65];have:0 < B ^ l.length*x:=Nat.mul_pos (Nat.pow_pos hB) (by omega);omega
set_option maxHeartbeats 4000000 in
theorem zr6 {L:List Nat}{neg:Bool}{a:Option Addr}{c n:Nat}{H:Heap}(hw:H.wf) (r:RdS H (L.map u32V) a c) (hL:∀y∈L,y < 4294967296) (hlen:L.length<=4096) (hval:valB 4294967296 L=n) (hn:n < big) :
  EvF Tryz.prog okT 167 [.agg ⟨[.bool neg,.slice a L.length c]⟩,.int .i64 10] H fun v H'=>(∃t:ByteArray,v=.tuple ⟨[.string t,.int .i64 0]⟩/\bl t=textD neg n)/\HX H H':=by
 refine EvF.enter rfl Tryz.func167 (by decide) rfl ?_;(repeat refine qZa ?_);refine qZb ?_;simp only[sB,initTm,dBox,Value.cells,one,reduceCtorEq];have hx0:=(HX.refl hw).new (some (.row [.bool neg,.slice a L.length c] 205));obtain⟨H1,hH1⟩:∃H1,H1=H.new (some (.row [.bool neg,.slice a L.length c] 205)):=⟨_,rfl⟩
 have hn1:H1.next=H.next+1:=by rw[hH1];rfl
 have hg1:H1.get H.next=some (.row [.bool neg,.slice a L.length c] 205):=by rw[hH1];exact z0z
 have hl1:H1.load ⟨H.next,0,none⟩ 2=some [.bool neg,.slice a L.length c]:=by rw[hH1];exact z3p
 have hlb:H1.load ⟨H.next,0,none⟩ 1=some [.bool neg]:=by rw[hH1];exact z3p
 have hls:H1.load ⟨H.next,1,none⟩ 1=some [.slice a L.length c]:=by rw[hH1];exact z3p
 rw[<-hH1] at hx0 ⊢;have hw1:=hx0.wf;have hx2:=(HX.refl hw1).new (some (.row [.bool neg,.slice a L.length c] 205))
 repeat' (first|refine qZa ?_|(refine qZb ?_;simp only[sB,Za,Zb,Value.cells,one,reduceCtorEq,layC,z9i,zqw,zv5,hl1]))
 refine(zr2 ((r.keep hx0 hw).keep hx2 hw1) hL (by omega) hx2.wf (Zf _) z3p).mono ?_;rintro v H2 ⟨rfl,hx3⟩;have hx13:=hx2.trans hx3;have hl2:=hx13.load hw1 hls;have hlb2:=hx13.load hw1 hlb;have hng:¬ 4096 < nbits (valB 4294967296 L):=by rw[z4l,hval];omega
 rw[decide_eq_false hng]
 repeat' (first|refine qZa ?_|(refine qZe ?_;try simp only[z00])|(refine qZb ?_;simp (disch:=first|omega|rfl) only[sB,Za,reduceCtorEq,zky,ztd,znp,zv6,hl2,decide_eq_false,Zd])|(refine qZm ?_ ?_;simp (disch:=first|omega|rfl) only[sB,Za,reduceCtorEq];refine z01 ?_))
 have r2:=(r.keep hx0 hw).keep hx13 hw1;refine(zba (fun _ _=>rfl) (by decide) r2).mono ?_;rintro v H3 ⟨m,rfl,hm,hz,hn0,rfl⟩;have hvm:valB 4294967296 (L.take m)=n:=by rw[z8n hz,hval]
 have hlm:(L.take m).length=m:=by rw[ZH];omega
 have hLm:∀y∈L.take m,y < 4294967296:=fun y hy=>hL y (List.mem_of_mem_take hy)
 have hlast:(L.take m).getLast?≠some 0:=by
  rw[List.getLast?_eq_getElem?,hlm];by_cases h0:m=0
  ·subst h0;simp
  ·rw[ZJ,if_pos (by omega)];exact hn0 h0
 have r3:RdS H3 ((L.take m).map u32V) a c:=by rw[List.map_take];exact r2.take m
 generalize L.take m=M0 at hvm hlm hLm hlast r3;subst hlm
 skip
 refine(ztj r3 (by omega) hx13.wf).mono ?_;rintro v H4 ⟨b,c2,ho,rfl,hx4⟩;have hx14:=hx13.trans hx4;by_cases h0:M0.length=0
 ·have hM:M0=[]:=List.length_eq_zero_iff.1 h0;subst hM
  repeat' (first|refine qZa ?_|(refine qZf ?_;try simp only[z04,z02])|(refine qZb ?_;simp (disch:=first|omega|rfl) only[sB,Za,reduceCtorEq,z64,z0v])|(refine qZd ?_ ?_;simp (disch:=first|omega|rfl) only[sB,Za,reduceCtorEq];refine z01 ?_))
  refine z0j rfl (by simp only[sB,Za,reduceCtorEq];rfl) (by simp only[sG,Za,reduceCtorEq]) ⟨⟨_,rfl,?_⟩,hx0.trans hx14⟩;rw[<-hvm];rfl
 ·have hnz:=zgx (B:=4294967296) (by omega) (fun h=>h0 (by rw[h];rfl)) hlast;rw[hvm] at hnz
  repeat' (first|refine qZa ?_|refine qZg ?_|(refine qZe ?_;try simp only[z00])|(refine qZb ?_;simp (disch:=first|omega|rfl) only[sB,Za,reduceCtorEq,z64,z0h])|(refine qZm ?_ ?_;simp (disch:=first|omega|rfl) only[sB,Za,reduceCtorEq];refine z01 ?_))
  refine qZk (fun k st=>∃tm M od v6 v7 Hc,st=⟨tm,[],Hc⟩/\k=valB 4294967296 M/\(∀y∈M,y < 4294967296)/\M.length<=4096/\M.getLast?≠some 0/\decR n=od++decR (valB 4294967296 M)/\(M≠[]->valB 4294967296 M*10 ^ od.length<=n)/\od.length<=4096 /\
    (∀y∈od,y < 10)/\HX H3 Hc/\RepO Hc 177 1 H3.next (M.map fun x=>[u32V x]) v6/\RepO Hc 5 1 H3.next (od.map fun x=>[u8V (48+x)]) v7/\tm.get 1=some (.int .i64 10)/\tm.get 2=some (.pointer (some ⟨H.next,0,none⟩))/\tm.get 6=some v6/\tm.get 7=some v7) ?_ (valB 4294967296 M0) _ ?_
  ·rintro k st ⟨tm,M,od,v6,v7,Hc,rfl,rfl,hMb,hMl,hMn,hdec,hle,hol,hod,hxc,hr6,hr7,g1,g2,g6,g7⟩;by_cases hM0:M=[]
   ·subst hM0;obtain⟨a6,c6,rfl,-,-⟩:=hr6.slice;rw[Zp] at g6;have hlbc:=hxc.load hx13.wf hlb2;have hdec':decR n=od:=by rw[hdec];simp [valB,zl3]
    repeat' (first|refine qZa ?_|(refine qZi ?_;try simp only[sB])|(refine qZb ?_;simp (disch:=first|omega|rfl) only[sB,Za,z64,zqy,ld4,g2,g6,hlbc,decide_eq_false])|(refine qZm ?_ ?_;simp (disch:=first|omega|rfl) only[sB,Za];refine z01 ?_))
    refine EvC.join (fun st=>∃tm o v Hd,st=⟨tm,[],Hd⟩/\o=(od.map fun x=>48+x)++(if neg then [45] else [])/\HX H3 Hd/\RepO Hd 5 1 H3.next (o.map fun x=>[u8V x]) v/\tm.get 7=some v) ?_ ?_
    ·cases neg with
     |true =>
      obtain⟨H5,v5,hap,hr7b,-,hx5,-⟩:=hr7.push zte (y:=[u8V 45]) rfl rfl (by simp [most];omega) hxc.next;have h45:u8V 45=.int .u8 45:=rfl;rw[h45] at hap;refine qZd (by simp only[sB,Za]) ?_
      repeat' (first|(refine qZb ?_;simp (disch:=first|omega|rfl) only[sB,Za,Value.cells,one,layC,zkz,g7,hap]))
      refine⟨_,_,_,_,rfl,rfl,hx5 _ hxc (Ze _),?_,(by simp only[sB,Za];rfl)⟩
      first|(rw[ZK,List.map_map];exact hr7b)|(simp only[if_true,ZK,List.map_map];exact hr7b)
     |false =>
      refine qZm (by simp only[sB,Za]) ?_
      repeat' (first|(refine qZe ?_;try simp only[sB,reduceCtorEq]))
      exact⟨_,_,_,_,rfl,rfl,hxc,by first|(rw[List.append_nil,List.map_map];exact hr7)|(simp only[Zd,if_false,List.append_nil,List.map_map];exact hr7),(by simp only[sG,Za,g7])⟩
    clear g1 g2 g6 g7 hr7 hr6 hxc hlbc tm;rintro st ⟨tm,o,v,Hd,rfl,ho',hxc,hr7,g7⟩;have hob:∀y∈o,y < 256:=by
     intro y hy;rw[ho'] at hy;rcases List.mem_append.1 hy with h|h
     ·obtain⟨x,hx,rfl⟩:=List.mem_map.1 h;have:=hod x hx;omega
     ·cases neg<;>simp at h
      omega
    have hon:0 < o.length:=by
     have:od≠[]:=by rw[<-hdec',zgv hnz];simp
     rw[ho',Zm,Zp];have:=List.length_pos_iff.2 this;omega
    have hol2:o.length<=4097:=by
     rw[ho',Zm,Zp];cases neg<;>simp<;>omega
    have htx:textD neg n=o.reverse:=by
     unfold textD;rw[if_neg hnz,hdec',ho']
    obtain⟨b7,c7,ho7,rfl⟩:=hr7.own (by intro h;rw[List.map_eq_nil_iff] at h;rw[h] at hon;simp at hon);rw[Zp] at g7
    repeat' (first|refine qZa ?_|refine qZg ?_|(refine qZb ?_;simp (disch:=first|omega|rfl) only[sB,Za,zv8,g7,z05]))
    refine qZk (fun k st=>∃(tm:Tr Value) (S:List Nat) (i:Nat) (He:Heap),st=⟨tm,[],He⟩/\k=o.length - i/\2*i<=o.length/\S.length=o.length/\(∀j,j < o.length->S[j]?=if j < i\/o.length - i<=j then o[o.length - 1 - j]? else o[j]?)/\HX H3 He /\
     OwnS He 5 1 H3.next (S.map fun x=>[u8V x]) b7 c7/\tm.get 7=some (.slice (some ⟨b7,0,none⟩) o.length c7)/\tm.get 10=some (.int .i64 (i:Nat))/\tm.get 11=some (.int .i64 ((o.length:Int) - 1 - (i:Int)))) ?_ o.length _ ?_
    ·clear g7 ho7 hr7 hxc tm;rintro k0 st ⟨tm,S,i,He,rfl,hk0,hi2,hSl,hS,hxc,ho7,g7,g10,g11⟩;by_cases hlt:2*i+1 < o.length
     ·obtain⟨k,hk⟩:∃k,k=o.length - 1 - i:=⟨_,rfl⟩
      have e1:((o.length:Int) - 1 - (i:Int))=(k:Int):=by omega
      rw[e1] at g11;have hxi:S[i]?=some S[i]:=Zc (by omega);have hxk:S[k]?=some S[k]:=Zc (by omega);generalize S[i]=x at hxi;generalize S[k]=y at hxk;have hldi:=ho7.load (i:=i) (x:=[u8V x]) (by rw[Zj,hxi];rfl);have hldk:=ho7.load (i:=k) (x:=[u8V y]) (by rw[Zj,hxk];rfl);rw[Nat.mul_one] at hldi hldk;unfold u8V at hldi hldk;obtain⟨cs,hgb,hcl,_⟩:=ho7.row;rw[Zp,hSl,Nat.mul_one] at hcl;have hk1:i+1<=cs.length:=by omega
      have hk2:k+1<=(Hb.splice cs i [Value.int .u8 (y:Int)]).length:=by rw[z0k (by simp;omega)];omega
      repeat' (first|refine qZa ?_|refine qZg ?_|(refine qZe ?_;try simp only[z00])|(refine qZb ?_;simp (disch:=first|omega|rfl) only[sB,Za,g10,g11,decide_eq_true,z05])|(refine qZj [([(0,0),(1,0),(4,0),(5,0),(6,0),(7,0),(8,0),(9,0),(10,0),(11,0),(12,0)],some 13),([(2,0),(3,0),(14,1)],some 15),([],none)] ?_ ?_;kernel_rfl;simp (disch:=first|omega|rfl) only[sD,sB,Za,Zb,one,reduceCtorEq,zv9,ld5,st5,g7,g10,g11,hldi,hldk,hgb,hk1,hk2,isAlloc,isRead])|(refine qZd ?_ ?_;simp (disch:=first|omega|rfl) only[sB,Za];refine z01 ?_))
      have hb1:OwnS (⟨He.next+16,He.t⟩:Heap) 5 1 H3.next (S.map fun x=>[u8V x]) b7 c7:=ho7.heap rfl (Nat.le_add_right _ _);have hb2:=hb1.set (cs:=cs) hgb (i:=i) (y:=[u8V y]) (by simp;omega) rfl rfl;have hb3:=hb2.set z88 (i:=k) (y:=[u8V x]) (by simp;omega) rfl rfl;rw[Nat.mul_one,Nat.mul_one] at hb3;have hoi:o[i]?=some x:=by rw[<-hxi,hS i (by omega),if_neg (by omega)]
      have hok:o[k]?=some y:=by rw[<-hxk,hS k (by omega),if_neg (by omega)]
      have hmap:(((S.map fun x=>[u8V x]).set i [u8V y]).set k [u8V x])=((S.set i y).set k x).map fun x=>[u8V x]:=by simp [List.map_set]
      rw[hmap] at hb3;refine⟨o.length - (i+1),by omega,_,(S.set i y).set k x,i+1,_,rfl,rfl,by omega,by simp [hSl],fun j hj=>?_,((hxc.bump 16).put (i:=b7) ho7.lo (Zo ho7.hi (Nat.le_add_right _ _)) _).put (i:=b7) ho7.lo (Zo ho7.hi (Nat.le_add_right _ _)) _,hb3,(by simp only[sG,Za,g7]),(by simp only[sB,Za];rfl),by simp only[sB,Za];first|done|(congr 1;omega)⟩;by_cases hjk:j=k
      ·rw[hjk,List.getElem?_set_self (by simp;omega),if_pos (by omega),<-hoi]
       first|done|(congr 1;done)|(congr 1;omega)
      ·rw[List.getElem?_set_ne (by omega)];by_cases hji:j=i
       ·rw[hji,List.getElem?_set_self (by omega),if_pos (by omega),<-hok]
        first|done|(congr 1;done)|(congr 1;omega)
       ·rw[List.getElem?_set_ne (by omega),hS j hj];by_cases hc:j < i\/o.length - i<=j
        ·rw[if_pos hc,if_pos (by omega)]
        ·rw[if_neg hc,if_neg (by omega)]
     ·have hrev:S=o.reverse:=by
       apply List.ext_getElem?;intro j;by_cases hj:j < o.length
       ·rw[hS j hj,List.getElem?_reverse hj];split
        ·rfl
        ·congr 1;omega
       ·rw[ZM (by omega),ZM (by simp;omega)]
      have hrd:RdS He (S.map u8V) (some ⟨b7,0,none⟩) c7:=OwnS.rds (by rw[List.map_map];exact ho7);obtain⟨b8,o8,h8,hload⟩:=hrd.all (by intro h;rw[List.map_eq_nil_iff] at h;rw[h] at hSl;simp at hSl;omega);cases h8;rw[Zp,hSl] at hload;obtain⟨t,hdb,ht⟩:=zih (c:=c7) (l:=S) hload (by omega);have hcon:=zig (P:=Tryz.prog) (src:=224) (dst:=9) (e:=5) (by kernel_rfl) (by kernel_rfl) (by kernel_rfl) hdb
      repeat' (first|refine qZa ?_|(refine qZi ?_;try simp only[sB])|(refine qZf ?_)|(refine qZb ?_;simp (disch:=first|omega|rfl) only[sB,Za,g7,g10,g11,hcon,decide_eq_false])|(refine qZm ?_ ?_;simp (disch:=first|omega|rfl) only[sB,Za];refine z01 ?_))
      refine z0j rfl (by simp only[sG,Za]) (by simp only[sG,Za]) ⟨⟨t,rfl,?_⟩,(hx0.trans hx13).trans hxc⟩;unfold bl;rw[ht,List.map_map,htx,<-hrev];have:∀l:List Nat,(∀y∈l,y < 256)->l.map (UInt8.toNat ∘ UInt8.ofNat)=l:=by
       intro l hl
       conv=>rhs;rw[<-List.map_id l]
       apply List.map_congr_left;intro y hy;have:=hl y hy;simp [UInt8.toNat_ofNat];omega
      exact this S fun y hy=>hob y (by rw[hrev] at hy;exact List.mem_reverse.1 hy)
    ·refine⟨_,o,0,_,rfl,rfl,by omega,rfl,fun j hj=>?_,hxc,ho7,(by simp only[sG,Za,g7]),(by simp only[sB,Za];rfl),by simp only[sB,Za];congr 1;omega⟩;rw[if_neg (by omega)]
   ·have hM1:0 < M.length:=List.length_pos_iff.2 hM0;have hvM:=zgx (B:=4294967296) (by omega) hM0 hMn;obtain⟨b6,c6,ho6,rfl⟩:=hr6.own (by simpa using hM0);rw[Zp] at g6
    repeat' (first|refine qZa ?_|refine qZg ?_|(refine qZe ?_;try simp only[z00])|(refine qZb ?_;simp (disch:=first|omega|rfl) only[sB,Za,z64,g6,decide_eq_true,z05])|(refine qZd ?_ ?_;simp (disch:=first|omega|rfl) only[sB,Za];refine z01 ?_))
    refine qZk (fun k st=>∃tm q r Hd,st=⟨tm,[],Hd⟩/\k<=M.length/\q.length=M.length - k/\(∀y∈q,y < 4294967296)/\r < 10/\valB 4294967296 (M.take k)+4294967296 ^ k*(10*valB 4294967296 q+r)=valB 4294967296 M/\HX H3 Hd /\
     OwnS Hd 177 1 H3.next ((M.take k++q).map fun x=>[u32V x]) b6 c6/\RepO Hd 5 1 H3.next (od.map fun x=>[u8V (48+x)]) v7/\tm.get 1=some (.int .i64 10)/\tm.get 2=some (.pointer (some ⟨H.next,0,none⟩)) /\
     tm.get 6=some (.slice (some ⟨b6,0,none⟩) M.length c6)/\tm.get 7=some v7/\tm.get 8=some (.int .u32 (r:Nat))/\tm.get 9=some (.int .i64 ((k:Int) - 1))) ?_ M.length _ ?_
    ·clear g1 g2 g6 g7 hxc hr6 hr7 ho6 tm;rintro k st ⟨tm,q,r,Hd,rfl,hk,hq,hqb,hr,hinv,hxc,ho6,hr7,g1,g2,g6,g7,g8,g9⟩;cases k with
     |zero =>
      rw[List.take_zero,List.nil_append] at ho6;simp only[List.take_zero,valB,Nat.pow_zero,Nat.one_mul,Nat.zero_add] at hinv;have hqM:q.length=M.length:=by omega
      repeat' (first|refine qZa ?_|(refine qZi ?_;try simp only[sB,Za,reduceCtorEq])|(refine qZb ?_;simp (disch:=first|omega|rfl) only[sB,Za,znp,g6,g9,decide_eq_false])|(refine qZm ?_ ?_;simp (disch:=first|omega|rfl) only[sB,Za];refine z01 ?_))
      have hrq:RdS Hd (q.map u32V) (some ⟨b6,0,none⟩) c6:=OwnS.rds (by rw[List.map_map];exact ho6);rw[<-hqM];refine(zba (fun _ _=>rfl) (by decide) hrq).mono ?_;rintro v H' ⟨m,rfl,hm,hz,hn0,rfl⟩;have hmost:od.length+1<=most:=by
       have:=za0 (e:=mostBits) hvM (hle hM0) (by rw[<-zcx];exact hn);simp [mostBits] at this;simp [most];omega
      obtain⟨H5,v5,hap,hr7b,hn5,hx5,hk5⟩:=hr7.push zte (y:=[u8V (48+r)]) rfl rfl (by simpa using hmost) hxc.next;unfold u8V at hap
      repeat' (first|(refine qZb ?_;simp only[sB,Za,g7,g8]))
      rw[z20 us9 (show r < _ from by show _ < 36;omega),zr5 (by decide) hr]
      repeat' (first|(refine z0f ?_;simp only[sB,Za,Value.cells,one,layC,zkz,hap]))
      have hvq:valB 4294967296 (q.take m)=valB 4294967296 q:=z8n hz;have hq10:valB 4294967296 q=valB 4294967296 M / 10:=by omega
      have hr10:r=valB 4294967296 M % 10:=by omega
      have hod2:((od++[r]).map fun x=>[u8V (48+x)])=(od.map fun x=>[u8V (48+x)])++[[u8V (48+r)]]:=by simp
      have ho7:RepO H5 177 1 H3.next ((q.take m).map fun x=>[u32V x]) (.slice (some ⟨b6,0,none⟩) m c6):=by
       have h1:=RepO.takeO ho6 m (by simpa using hm);rw[<-List.map_take] at h1;exact h1.beside hk5 (by omega) (by decide)
      refine⟨valB 4294967296 (q.take m),by rw[hvq];omega,_,q.take m,od++[r],_,_,_,rfl,rfl,fun y hy=>hqb y (List.mem_of_mem_take hy),by rw[ZH];omega,?_,?_,?_,?_,?_,hx5 _ hxc (Ze _),ho7,by rw[hod2];exact hr7b,(by simp only[sG,Za,g1]),(by simp only[sG,Za,g2]),(by simp only[sG,Za]),(by simp only[sG,Za])⟩
      ·rw[List.getLast?_eq_getElem?,ZH,Nat.min_eq_left hm];by_cases h0:m=0
       ·subst h0;simp
       ·rw[ZJ,if_pos (by omega)];exact hn0 h0
      ·rw[hdec,zgv hvM,hvq,hq10,<-hr10];simp
      ·intro _;rw[hvq,Zm,ZN,Nat.pow_succ];have h1:=hle hM0;have h2:valB 4294967296 q*(10 ^ od.length*10)=(valB 4294967296 q*10)*10 ^ od.length:=by rw[Nat.mul_comm (10 ^ od.length) 10,Nat.mul_assoc]
       rw[h2];exact ZC (Nat.mul_le_mul_right _ (by omega)) h1
      ·have:=za0 (e:=mostBits) hvM (hle hM0) (by rw[<-zcx];exact hn);simp [mostBits] at this;simp;omega
      ·intro y hy;rcases List.mem_append.1 hy with h|h
       ·exact hod y h
       ·simp at h;omega
     |succ j =>
      have e0:(((j+1:Nat):Int) - 1)=(j:Int):=by omega
      rw[e0] at g9;have hx:M[j]?=some M[j]:=Zc (by omega);have hxb:M[j] < 4294967296:=hMb _ (ZD _);have htk:M.take (j+1)=M.take j++[M[j]]:=by rw[List.take_add_one,hx];rfl
      generalize M[j]=x at hx hxb htk;rw[htk] at hinv ho6;have hlj:(M.take j).length=j:=by rw[ZH];omega
      have hlm:(((M.take j++[x])++q).map fun x=>[u32V x]).length=M.length:=by simp;omega
      have hld:=ho6.load (i:=j) (x:=[u32V x]) (by rw[ZF,Zj,List.getElem?_append_right (by omega),hlj];simp);rw[Nat.mul_one] at hld;unfold u32V at hld
      repeat' (first|refine qZa ?_|refine qZg ?_|(refine qZe ?_;try simp only[z00])|(refine qZb ?_;simp (disch:=first|omega|rfl) only[sB,Za,zin,zkx,zqx,zv7,g1,g6,g8,g9,hld,decide_eq_true,wrap_u32])|(refine qZd ?_ ?_;simp (disch:=first|omega|rfl) only[sB,Za];refine z01 ?_))
      refine(zns (fun _ _=>rfl) (by decide) hr hxb hxc.wf).mono ?_;rintro v H' ⟨rfl,hxd⟩;have ho6':=ho6.keep hxd;have hr7':=hr7.keep hxd;obtain⟨cs,hgb,hcl,_⟩:=ho6'.row;rw[hlm,Nat.mul_one] at hcl;have hk1:j+1<=cs.length:=by omega
      repeat' (first|(refine qZb ?_;simp (disch:=first|omega|rfl) only[sB,Za,g9,z05])|(refine z0f ?_;simp (disch:=first|omega|rfl) only[sB,Za,one,zin,ztb,hgb,hk1]))
      have hset:=ho6'.set hgb (i:=j) (y:=[u32V ((r*4294967296+x) / 10)]) (by rw[hlm];omega) rfl rfl;rw[Nat.mul_one] at hset;have hset2:(((M.take j++[x])++q).map fun x=>[u32V x]).set j [u32V ((r*4294967296+x) / 10)]=(M.take j++((r*4294967296+x) / 10 :: q)).map fun x=>[u32V x]:=by
       rw[ZF,ZK,List.set_append_right _ _ (by rw[Zp,hlj];exact Ze _),Zp,hlj,Nat.sub_self];simp
      rw[hset2] at hset;have hinv2:=zr1 (B:=4294967296) (x:=x) (r:=r) (low:=M.take j) (q:=q);rw[hlj] at hinv2;refine⟨j,by omega,_,(r*4294967296+x) / 10 :: q,(r*4294967296+x) % 10,_,rfl,by omega,by simp;omega,?_,by omega,by rw[<-hinv2];exact hinv,(hxc.trans hxd).put ho6'.lo ho6'.hi _,hset,hr7'.other hgb (by decide) _,(by simp only[sG,Za,g1]),(by simp only[sG,Za,g2]),(by simp only[sG,Za,g6]),(by simp only[sG,Za,g7]),(by simp only[sG,Za]),(by simp only[sG,Za])⟩;intro y hy;rcases List.mem_cons.1 hy with h|h
      ·rw[h];exact znq hxb hr
      ·exact hqb y h
    ·exact⟨_,[],0,_,rfl,Ze _,by simp,by simp,by omega,by simp [valB],hxc,by simpa using ho6,hr7,(by simp only[sG,Za,g1]),(by simp only[sG,Za,g2]),(by simp only[sG,Za,g6]),(by simp only[sG,Za,g7]),(by simp only[sB,Za];rfl),(by simp only[sG,Za])⟩
  ·exact⟨_,M0,[],.slice (some ⟨b,0,none⟩) M0.length c2,_,_,rfl,rfl,hLm,by omega,hlast,by rw[hvm];rfl,fun _=>by rw[hvm];simp,by simp,by simp,hx4,.inr ⟨b,c2,ho,by simp⟩,RepO.empty,(by simp only[sG,Za,reduceCtorEq]),(by simp only[sG,Za,reduceCtorEq]),(by simp only[sG,Za,reduceCtorEq]),(by simp only[sG,Za,reduceCtorEq])⟩
def bitsOK (L:List Nat):Prop:=(∀y∈L,y < 2)/\L.getLast?≠some 0
end Go.Proofs.hq
end

section
namespace Go.Proofs.hq
open Go Go.RowKit Go.Hb
theorem zpu:callable Tryz.prog 87=true:=by kernel_rfl
theorem zbb:isAgg? Tryz.prog 40=some true:=by kernel_rfl
theorem znu:isAgg? Tryz.prog 32=some false:=by kernel_rfl
theorem z48:Tryz.prog.cellsOf 40=6:=by kernel_rfl
theorem zgy:(Tryz.prog.info? 40).isSome=true:=by kernel_rfl
theorem z8o:fldOf Tryz.prog 40 5=some (5,32):=by kernel_rfl
theorem zl7:Zt (Tryz.prog.cellsOf 32) 0=false:=by kernel_rfl
theorem zpv:zerosOf Tryz.prog 40=some [.int .i64 0,.string Zh,.string Zh,.int .u64 0,.int .i64 0,.slice none 0 0]:=by kernel_rfl
mutual
def cnt:Tm->Nat->Nat
 |.mk _ _ _ _ _ l,n=>cntL l (n+1)
def cntL:List Tm->Nat->Nat
 |[],n=>n
 |t :: l,n=>if 4000 < n then n else cntL l (cnt t n)
end
theorem zgz {t:Tm}{k:Int}{s u:ByteArray}{b v:Int}{l:List Tm}(h:t∈l):SizeOf.sizeOf t < SizeOf.sizeOf (Tm.mk k s u b v l):=by
 have:=List.sizeOf_lt_of_mem h;simp;omega
theorem z1t {t u:Tm}{i:Nat}(h:t.args[i]?=some u):SizeOf.sizeOf u < SizeOf.sizeOf t:=by
 obtain⟨k,s,w,b,v,l⟩:=t;exact zgz (ZG h)
theorem z4x (t:Tm) (n:Nat):cnt t n=cntL t.args (n+1):=by
 obtain⟨k,s,w,b,v,l⟩:=t;rw[cnt];rfl
theorem zl8:∀(l:List Tm),(∀t∈l,∀n,n<=4000->cnt t n<=4001)->∀n,n<=4001->cntL l n<=4001
 |[],_,n,h=>by rw[cntL];exact h
 |t :: l,ht,n,h=>by
  rw[cntL];split
  ·exact h
  ·exact zl8 l (fun u hu=>ht u (Zl _ hu)) _ (ht t (by simp) n (by omega))
theorem zh0:∀(m:Nat) (t:Tm),SizeOf.sizeOf t < m->∀n,n<=4000->cnt t n<=4001
 |0,t,h,_,_=>by omega
 |m+1,t,h,n,hn=>by
  rw[z4x];refine zl8 _ (fun u hu k hk=>zh0 m u ?_ k hk) _ (by omega);obtain⟨i,hi,e⟩:=List.getElem_of_mem hu;have:=z1t (t:=t) (u:=u) (i:=i) (by rw[Zc hi,e]);omega
theorem zl9 {l:List Tm}{i:Nat}{t:Tm}(h:l[i]?=some t) (n:Nat) (hn:n<=4000):cntL (l.drop i) n=cntL (l.drop (i+1)) (cnt t n):=by
 have hlt:=(List.getElem?_eq_some_iff.1 h).1;have he:l[i]=t:=(List.getElem?_eq_some_iff.1 h).2;rw[ZB hlt,cntL,if_neg (by omega),he]
theorem zla {l:List Tm}{n:Nat}(hn:4000 < n):cntL l n=n:=by
 cases l with
 |nil=>rw[cntL]
 |cons t l=>rw[cntL,if_pos hn]
variable {ok:Ok}
set_option maxRecDepth 10000 in
theorem znv (hk:∀args H,ok.K 87 args H=none) (hm:ok.testBit 87=true):∀(m:Nat) {t:Tm}{cs:List Value}{H:Heap},SizeOf.sizeOf t < m->RepT H t cs->H.wf->∀n:Nat,n<=4000 ->
  EvF Tryz.prog ok 87 [.agg ⟨cs⟩,.int .i64 n] H fun v H'=>v=.int .i64 (cnt t n)/\HX H H':=by
 intro m
 induction m with
 |zero=>intro t cs H h;omega
 |succ m ih =>
 intro t cs H hsz r hw n hn;obtain⟨a,c,cells,rfl,b1,b2,b3,b4,b5,rl⟩:=r.inv;refine EvF.enter (hk _ _) Tryz.func87 hm rfl ?_;refine qZa (qZb ?_);simp (disch:=omega) only[sB,initTm,dBox,Value.cells,one,reduceCtorEq];refine qZa (qZb ?_);simp (disch:=omega) only[sB,Za,reduceCtorEq,z05];refine qZa (qZa (qZb ?_));simp (disch:=omega) only[sB,Za,reduceCtorEq,cutC,z06 z8o zl7,z0c znu,z19 Tryz.underlying32];refine qZg (qZk (fun k st=>∃tm H' i n',st=⟨tm,[],H'⟩/\k=t.args.length - i/\i<=t.args.length/\n'<=4001/\cntL (t.args.drop i) n'=cnt t n/\tm.get 1=some (.int .i64 (n':Nat)) /\
  tm.get 10=some (.slice a t.args.length c)/\tm.get 11=some (.int .i64 t.args.length)/\tm.get 12=some (.int .i64 (i:Nat))/\HX H H') ?_ t.args.length _ ?_)
 ·rintro k st ⟨tm,H',i,n',rfl,hk',hi,hn',hc,g1,g10,g11,g12,hx⟩;refine qZa (qZb ?_);simp (disch:=omega) only[sA,g11,g12];refine qZa ?_;by_cases hlt:i < t.args.length
  ·refine qZd (by simp only[sB];exact congrArg _ (decide_eq_true (by omega))) (qZe ?_);obtain⟨b,o,rfl,hload,hrep⟩:=rl.at (i:=i) (Zc hlt);obtain⟨a',c',cells',hcell,-⟩:=hrep.inv;have hld:=hx.load hw hload;rw[hcell] at hld hrep;refine qZa (qZg (qZa (qZb ?_)));simp (disch:=omega) only[sB,dAlloc,Za,Zb,one,g10,g12,z2l Tryz.underlying32 zgy hlt,z1y zbb,z48,hld,zpv,z6k zgy];refine qZa (qZa (qZb ?_));simp (disch:=omega) only[sB,Za,g1];have hx2:=(hx.new (some (Blk.row [Value.int IntKind.i64 0,Value.string Zh,Value.string Zh,Value.int IntKind.u64 0,Value.int IntKind.i64 0,Value.slice none 0 0] 40))).put (i:=H'.next) hx.next (Zf _)
    (some (.row [Value.int IntKind.i64 t.args[i].kind,Value.string t.args[i].name,Value.string t.args[i].num,Value.int IntKind.u64 t.args[i].bits,Value.int IntKind.i64 t.args[i].var,Value.slice a' t.args[i].args.length c'] 40))
   by_cases hov:4000 < n'
   ·refine qZd (by simp only[sB,Za];exact congrArg _ (decide_eq_true (by omega))) (qZi ?_);simp only[z4v,z37,reduceIte,Za,z00];refine qZa (qZb ?_);simp (disch:=omega) only[sB,Za,g1];refine qZf (z03 rfl (by simp only[sG,Za];rfl) ⟨?_,hx2⟩);rw[<-hc,zla hov]
   ·refine qZm (by simp only[sB,Za];exact congrArg _ (decide_eq_false (by omega))) (qZe ?_);simp only[z00];refine qZb ?_;simp (disch:=omega) only[sB,Za,Zb,cutC,g1,z1y zbb,z48,z08 zpu];have ht:t.args[i]?=some t.args[i]:=Zc hlt;have hs:=z1t ht;have hx1:HX H H':=hx;refine(ih (t:=t.args[i]) (by omega) (hrep.mono hx2 hw) hx2.wf n' (by omega)).mono ?_;rintro v H2 ⟨rfl,hx3⟩;have hL:t.args.length<=9223372036854775807:=ZC rl.len rl.cap;refine qZb ?_;simp (disch:=omega) only[sB,Za,g12,z05];refine⟨t.args.length - (i+1),by omega,_,_,i+1,cnt t.args[i] n',rfl,rfl,by omega,zh0 _ _ (Zf _) _ (by omega),by rw[<-hc,zl9 ht _ (by omega)],by simp only[sG,Za],by simp only[sG,Za];exact g10,by simp only[sG,Za];exact g11,by simp only[sG,Za];rfl,hx2.trans hx3⟩
  ·refine qZm (by simp only[sB];exact congrArg _ (decide_eq_false (by omega))) (qZi ?_);simp only[z4v,z37,reduceIte,Za,z00];refine qZa (qZb ?_);simp (disch:=omega) only[sB,Za,g1];refine qZf (z03 rfl (by simp only[sG,Za];rfl) ⟨?_,hx⟩);rw[<-hc,List.drop_of_length_le (by omega),cntL]
 ·exact⟨_,_,0,n+1,rfl,rfl,by omega,by omega,by rw[z4x];rfl,by simp only[sG,Za,reduceCtorEq];rfl,by simp only[sG,Za,reduceCtorEq],by simp only[sG,Za,reduceCtorEq],by simp only[sG,Za,reduceCtorEq];rfl,(HX.refl hw).new _⟩
end Go.Proofs.hq
end

section
namespace Go.Proofs.hq
open Go Go.RowKit Go.Hb
theorem ztk:callable Tryz.prog 43=true:=by kernel_rfl
variable {ok:Ok}
theorem znw (hk:∀f args H,(f=87\/f=43)->ok.K f args H=none) (hm:ok.testBit 87=true) (hm2:ok.testBit 43=true) {t:Tm}{cs:List Value}{H:Heap}(r:RepT H t cs) (hw:H.wf) :
  EvF Tryz.prog ok 43 [.agg ⟨cs⟩] H fun v H'=>v=.int .i64 (cnt t 0)/\HX H H':=by
 obtain⟨a,c,cells,rfl,b1,b2,b3,b4,b5,rl⟩:=r.inv;refine EvF.enter (hk _ _ _ (.inr rfl)) Tryz.func43 hm2 rfl ?_;(repeat refine qZa ?_);refine qZb ?_;simp (disch:=omega) only[sB,initTm,dBox,Value.cells,one];(repeat refine qZa ?_);refine qZb ?_;simp (disch:=omega) only[sB,Za,Zb,reduceCtorEq,cutC,z1y zbb,z48,z08 zpu];have hx:=(HX.refl hw).new (some (Blk.row [Value.int IntKind.i64 t.kind,Value.string t.name,Value.string t.num,Value.int IntKind.u64 t.bits,Value.int IntKind.i64 t.var,Value.slice a t.args.length c] 40));refine(znv (hk 87 · · (.inl rfl)) hm _ (Zf _) (r.mono hx hw) hx.wf 0 (by omega)).mono ?_;rintro v H2 ⟨rfl,hx3⟩;have hle:=zh0 _ t (Zf _) 0 (by omega);have hif:(if (4001:Int) < (cnt t 0:Int) then (4001:Int) else (cnt t 0:Int))=(cnt t 0:Int):=if_neg (by omega);simp (disch:=omega) only[sB,Za,reduceCtorEq,zqf,zqg,hif];exact qZf (z03 rfl (by simp only[sG,Za,reduceCtorEq]) ⟨rfl,hx.trans hx3⟩)
end Go.Proofs.hq
end

section
namespace Go.Proofs.hq
open Go Go.RowKit Go.Hb
theorem z3h:fldOf Tryz.prog 40 0=some (0,3):=by kernel_rfl
theorem z3i:fldOf Tryz.prog 40 1=some (1,9):=by kernel_rfl
theorem z6o:fldOf Tryz.prog 40 2=some (2,9):=by kernel_rfl
theorem z5h:fldOf Tryz.prog 40 3=some (3,38):=by kernel_rfl
theorem z8p:fldOf Tryz.prog 40 4=some (4,3):=by kernel_rfl
theorem one3:Zt (Tryz.prog.cellsOf 3) 0=false:=by kernel_rfl
theorem one9:Zt (Tryz.prog.cellsOf 9) 0=false:=by kernel_rfl
theorem zey:Zt (Tryz.prog.cellsOf 38) 0=false:=by kernel_rfl
theorem zpw:Tryz.prog.cellsOf 3=1:=by kernel_rfl
theorem zlb:Tryz.prog.cellsOf 9=1:=by kernel_rfl
theorem zr7:Tryz.prog.cellsOf 38=1:=by kernel_rfl
theorem zr8:Tryz.prog.cellsOf 32=1:=by kernel_rfl
theorem agg3:isAgg? Tryz.prog 3=some false:=by kernel_rfl
theorem agg9:isAgg? Tryz.prog 9=some false:=by kernel_rfl
theorem zir:isAgg? Tryz.prog 38=some false:=by kernel_rfl
theorem zvc:(Tryz.prog.info? 3).isSome=true:=by kernel_rfl
theorem zr9:(Tryz.prog.info? 9).isSome=true:=by kernel_rfl
theorem ztl:(Tryz.prog.info? 38).isSome=true:=by kernel_rfl
theorem ztm:(Tryz.prog.info? 32).isSome=true:=by kernel_rfl
theorem z1u:ByteArray.toList { data:=#[] }=[]:=by
 rw[ByteArray.toList,ByteArray.toList.loop];rfl
def isE (s:ByteArray):Bool:=s.toList == []
def blankB (t:Tm):Bool :=
 (t.kind == 2 || t.kind == 5 || isE t.name) && (t.kind == 3 || isE t.num) && (t.kind == 4 || t.bits == 0) && (t.kind == 1 || t.var == 0) && (t.kind == 5 || (t.args.length:Int) == 0)
variable {ok:Ok}
set_option maxRecDepth 10000 in
set_option maxHeartbeats 2000000 in
theorem znx (hk:∀args H,ok.K 144 args H=none) (hm:ok.testBit 144=true) {t:Tm}{cs:List Value}{H:Heap}(r:RepT H t cs) (hw:H.wf) :
  EvF Tryz.prog ok 144 [.agg ⟨cs⟩] H fun v H'=>v=.bool (blankB t)/\HX H H':=by
 obtain⟨a,c,cells,rfl,b1,b2,b3,b4,b5,rl⟩:=r.inv;refine EvF.enter (hk _ _) Tryz.func144 hm rfl ?_;(repeat refine qZa ?_);refine qZb ?_;simp (disch:=omega) only[sB,initTm,dBox,Value.cells,one];(repeat refine qZa ?_);refine qZb ?_;simp (disch:=omega) only[sB,Za,reduceCtorEq,cutC,z06 z3h one3,z0c agg3];refine EvC.meet (fun st=>∃tm H' nm nu b v a n c,st=⟨tm,[],H'⟩/\tm.get 1=some (.pointer (some ⟨H.next,0,none⟩))/\H'.get H.next=some (.row [.int .i64 t.kind,.string nm,.string nu,.int .u64 b,.int .i64 v,.slice a n c] 40) /\
  HX H H'/\(isE nm && isE nu && b == 0 && v == 0 && (n:Int) == 0)=blankB t) ?_ ?_
 ·refine qZg ?_;have hx0:=(HX.refl hw).new (some (Blk.row [Value.int IntKind.i64 t.kind,Value.string t.name,Value.string t.num,Value.int IntKind.u64 t.bits,Value.int IntKind.i64 t.var,Value.slice a t.args.length c] 40));have hxp:∀B,HX H ((H.new (some (Blk.row [Value.int IntKind.i64 t.kind,Value.string t.name,Value.string t.num,Value.int IntKind.u64 t.bits,Value.int IntKind.i64 t.var,Value.slice a t.args.length c] 40))).put H.next B):=fun B=>hx0.put (Ze _) (Zf _) B
  (repeat refine qZa ?_);refine qZb ?_;simp (disch:=omega) only[sB,Za,reduceCtorEq];by_cases k1:t.kind=1
  ·refine qZd (by simp only[sB,Za,reduceCtorEq];rw[k1];rfl) ?_;refine qZb ?_;simp (disch:=omega) only[sB,Za,Zb,one,reduceCtorEq,Zr,z06 z8p one3,z2w zvc zpw];exact⟨_,_,t.name,t.num,t.bits,0,a,t.args.length,c,rfl,by simp only[sG,Za,reduceCtorEq],by simp only[sB],hxp _,by simp [blankB,k1]⟩
  refine qZm (by simp only[sB,Za,reduceCtorEq];rw[show (t.kind == 1)=false by simpa using k1]) ?_;(repeat refine qZa ?_);refine qZb ?_;simp (disch:=omega) only[sB,Za,reduceCtorEq];by_cases k2:t.kind=2
  ·refine qZd (by simp only[sB,Za,reduceCtorEq];rw[k2];rfl) ?_;refine qZb ?_;simp (disch:=omega) only[sB,Za,Zb,one,reduceCtorEq,Zr,z06 z3i one9,z44 zr9 zlb];exact⟨_,_,Zh,t.num,t.bits,t.var,a,t.args.length,c,rfl,by simp only[sG,Za,reduceCtorEq],by simp only[sB];rfl,hxp _,by simp [blankB,k2,isE]⟩
  refine qZm (by simp only[sB,Za,reduceCtorEq];rw[show (t.kind == 2)=false by simpa using k2]) ?_;(repeat refine qZa ?_);refine qZb ?_;simp (disch:=omega) only[sB,Za,reduceCtorEq];by_cases k3:t.kind=3
  ·refine qZd (by simp only[sB,Za,reduceCtorEq];rw[k3];rfl) ?_;refine qZb ?_;simp (disch:=omega) only[sB,Za,Zb,one,reduceCtorEq,Zr,z06 z6o one9,z44 zr9 zlb];exact⟨_,_,t.name,Zh,t.bits,t.var,a,t.args.length,c,rfl,by simp only[sG,Za,reduceCtorEq],by simp only[sB];rfl,hxp _,by simp [blankB,k3,isE]⟩
  refine qZm (by simp only[sB,Za,reduceCtorEq];rw[show (t.kind == 3)=false by simpa using k3]) ?_;(repeat refine qZa ?_);refine qZb ?_;simp (disch:=omega) only[sB,Za,reduceCtorEq];by_cases k4:t.kind=4
  ·refine qZd (by simp only[sB,Za,reduceCtorEq];rw[k4];rfl) ?_;refine qZb ?_;simp (disch:=omega) only[sB,Za,Zb,one,reduceCtorEq,Zr,z06 z5h zey,z2w ztl zr7];exact⟨_,_,t.name,t.num,0,t.var,a,t.args.length,c,rfl,by simp only[sG,Za,reduceCtorEq],by simp only[sB],hxp _,by simp [blankB,k4]⟩
  refine qZm (by simp only[sB,Za,reduceCtorEq];rw[show (t.kind == 4)=false by simpa using k4]) ?_;(repeat refine qZa ?_);refine qZb ?_;simp (disch:=omega) only[sB,Za,reduceCtorEq];by_cases k5:t.kind=5
  ·refine qZd (by simp only[sB,Za,reduceCtorEq];rw[k5];rfl) ?_;refine qZb ?_;simp (disch:=omega) only[sB,Za,Zb,one,reduceCtorEq,Zr,z06 z3i one9,z06 z8o zl7,z44 zr9 zlb,z1m ztm zr8];exact⟨_,_,Zh,t.num,t.bits,t.var,none,0,0,rfl,by simp only[sG,Za,reduceCtorEq],by simp only[sB];rfl,(hxp _).put (Ze _) (Zf _) _,by simp [blankB,k5,isE]⟩
  refine qZm (by simp only[sB,Za,reduceCtorEq];rw[show (t.kind == 5)=false by simpa using k5]) (qZe ?_);exact⟨rfl,_,_,t.name,t.num,t.bits,t.var,a,t.args.length,c,rfl,by simp only[sG,Za,reduceCtorEq],by simp only[if_true,get_new],hx0,by simp [blankB,show (t.kind == 1)=false by simpa using k1,show (t.kind == 2)=false by simpa using k2,show (t.kind == 3)=false by simpa using k3,show (t.kind == 4)=false by simpa using k4,show (t.kind == 5)=false by simpa using k5]⟩
 ·rintro st ⟨tm,H',nm,nu,b,v,a,n,c,rfl,g1,hrow,hx,hres⟩;simp only[z00];have l1:H'.load ⟨H.next,1,none⟩ 1=some [.string nm]:=by simp only[Heap.load,Heap.cells,hrow];rfl
  have l2:H'.load ⟨H.next,2,none⟩ 1=some [.string nu]:=by simp only[Heap.load,Heap.cells,hrow];rfl
  have l3:H'.load ⟨H.next,3,none⟩ 1=some [.int .u64 b]:=by simp only[Heap.load,Heap.cells,hrow];rfl
  have l4:H'.load ⟨H.next,4,none⟩ 1=some [.int .i64 v]:=by simp only[Heap.load,Heap.cells,hrow];rfl
  have l5:H'.load ⟨H.next,5,none⟩ 1=some [.slice a n c]:=by simp only[Heap.load,Heap.cells,hrow];rfl
  (repeat refine qZa ?_);refine qZb ?_;unfold isE at hres;cases h1:(nm.toList == []) with
  |false =>
   simp (disch:=omega) only[sB,Za,z32,g1,z06 z3i one9,z0c agg9,l1,z1u,h1,Zd];exact qZf (z03 rfl (by simp only[sG,Za];rfl) ⟨by rw[<-hres,h1];rfl,hx⟩)
  |true =>
  cases h2:(nu.toList == []) with
  |false =>
   simp (disch:=omega) only[sB,Za,z32,g1,z06 z3i one9,z06 z6o one9,z0c agg9,l1,l2,z1u,Zd,h1,h2];exact qZf (z03 rfl (by simp only[sG,Za];rfl) ⟨by rw[<-hres,h1,h2];rfl,hx⟩)
  |true =>
  cases h3:(b == 0) with
  |false =>
   simp (disch:=omega) only[sB,Za,z32,g1,z06 z3i one9,z06 z6o one9,z06 z5h zey,z0c agg9,z0c zir,l1,l2,l3,z1u,Zd,h1,h2,h3];exact qZf (z03 rfl (by simp only[sG,Za];rfl) ⟨by rw[<-hres,h1,h2,h3];rfl,hx⟩)
  |true =>
  cases h4:(v == 0) with
  |false =>
   simp (disch:=omega) only[sB,Za,z32,g1,z06 z3i one9,z06 z6o one9,z06 z5h zey,z06 z8p one3,z0c agg9,z0c agg3,z0c zir,l1,l2,l3,l4,z1u,Zd,h1,h2,h3,h4];exact qZf (z03 rfl (by simp only[sG,Za];rfl) ⟨by rw[<-hres,h1,h2,h3,h4];rfl,hx⟩)
  |true =>
   simp (disch:=omega) only[sB,Za,z32,g1,z06 z3i one9,z06 z6o one9,z06 z5h zey,z06 z8p one3,z06 z8o zl7,z0c agg9,z0c agg3,z0c zir,z0c znu,l1,l2,l3,l4,l5,z1u,z19 Tryz.underlying32,h1,h2,h3,h4];exact qZf (z03 rfl (by simp only[sG,Za];rfl) ⟨by rw[<-hres,h1,h2,h3,h4];rfl,hx⟩)
end Go.Proofs.hq
end

section
namespace Go.Proofs.hq
open Go Go.RowKit Go.Hb
def nodeE (utf num:ByteArray->Bool) (flt:Int->Bool) (t:Tm):Int :=
 if t.kind < 1\/5 < t.kind then 20 else if blankB t=false then 20 else if t.var < 0 then 20 else if t.kind=5/\(t.args.length=0\/64 < t.args.length) then 20
 else if utf t.name=false then 21 else if 1000 < t.name.size then 21 else if t.kind=3/\num t.num=false then 22 else if t.kind=4/\flt t.bits=false then 23 else 0
def bndB (t:Tm):Bool:=decide (t.var < 0) || (t.kind == 5 && ((t.args.length:Int) == 0 || decide ((t.args.length:Int) > 64)))
theorem zd0 {utf num:ByteArray->Bool}{flt:Int->Bool}{t:Tm}(h1:¬(t.kind < 1\/5 < t.kind)) (h2:blankB t=true) (h3:bndB t=true):nodeE utf num flt t=20:=by
 rw[nodeE,if_neg h1,if_neg (by rw[h2];simp)];unfold bndB at h3;simp only[Bool.or_eq_true,Zi,beq_iff_eq,decide_eq_true_eq] at h3;by_cases hv:t.var < 0
 ·rw[if_pos hv]
 ·rw[if_neg hv,if_pos];rcases h3 with h|⟨h,h'|h'⟩
  ·exact absurd h hv
  ·exact⟨h,.inl (by omega)⟩
  ·exact⟨h,.inr (by omega)⟩
theorem zis {utf num:ByteArray->Bool}{flt:Int->Bool}{t:Tm}(h1:¬(t.kind < 1\/5 < t.kind)) (h2:blankB t=true) (h3:bndB t=false) :
  nodeE utf num flt t=if utf t.name=false then 21 else if 1000 < t.name.size then 21 else if t.kind=3/\num t.num=false then 22 else if t.kind=4/\flt t.bits=false then 23 else 0:=by
 rw[nodeE,if_neg h1,if_neg (by rw[h2];simp)];unfold bndB at h3;simp only[Bool.or_eq_false_iff,Bool.and_eq_false_iff,beq_eq_false_iff_ne,decide_eq_false_iff_not] at h3;rw[if_neg h3.1,if_neg (fun h=>by rcases h3.2 with h'|h'<;>first|exact h' h.1|(have:=h.2;omega))]
theorem zra:callable Tryz.prog 144=true:=by kernel_rfl
theorem zrb:callable Tryz.prog 145=true:=by kernel_rfl
theorem zrc:callable Tryz.prog 146=true:=by kernel_rfl
def TellsS (ok:Ok) (f:FuncId) (g:ByteArray->Bool):Prop:=∀(s:ByteArray) (H:Heap),s.size<=maxLen->H.wf->EvF Tryz.prog ok f [.string s] H fun v H'=>v=.bool (g s)/\HX H H'
def TellsU (ok:Ok) (f:FuncId) (g:Int->Bool):Prop:=∀(n:Int) (H:Heap),u64 n->H.wf->EvF Tryz.prog ok f [.int .u64 n] H fun v H'=>v=.bool (g n)/\HX H H'
variable {ok:Ok}
end Go.Proofs.hq
end

section
namespace Go.Proofs.hq
open Go Go.RowKit Go.Hb
def rho0 (n:Int):Operand->Value
 |.func f=>.func (.func f) #[] #[]
 |_=>.int .u64 n
theorem zd1 (n:Int) (d:Option Tmp) (k:Tmp) (ats:Array TypeId) (ty:TypeId) (pos:String) (af:Array Edge) (g:Option (Nat × Bool)) :
  pureRun Tryz.prog (execOp (rho0 n) ⟨d,.call ⟨.value (.func 95),#[.tmp k],ats⟩,ty,pos,af,g⟩)=some (.value (.float .f64 n.toNat)):=by kernel_rfl
theorem zny (l:List Value):dcall1 Tryz.prog 95 l=none:=by
 unfold dcall1;rw[Tryz.func95];rfl
theorem z3a {d:Option Tmp}{k:Tmp}{ats:Array TypeId}{ty:TypeId}{pos:String}{af:Array Edge}{g:Option (Nat × Bool)}{tm:Tr Value}{H:Heap}{n:Int}(hv:tm.get k=some (.int .u64 n)) :
  dop Tryz.prog ⟨d,.call ⟨.value (.func 95),#[.tmp k],ats⟩,ty,pos,af,g⟩ (ev tm) H=some (.val (.float .f64 n.toNat) H):=by
 have hρ:∀y∈(⟨d,.call ⟨.value (.func 95),#[.tmp k],ats⟩,ty,pos,af,g⟩:Oper).op.operands,ev tm y=rho0 n y:=by
  intro y hy;simp [Op.operands,Call.operands] at hy;rcases hy with rfl|rfl
  ·rfl
  ·show (tm.get k).getD junk=_;rw[hv];rfl
 have e:dop Tryz.prog ⟨d,.call ⟨.value (.func 95),#[.tmp k],ats⟩,ty,pos,af,g⟩ (ev tm) H=dflat Tryz.prog ⟨d,.call ⟨.value (.func 95),#[.tmp k],ats⟩,ty,pos,af,g⟩ (ev tm) H:=by
  simp only[dop,ev,zny]
 have hf:allFlat (ev tm) (⟨d,.call ⟨.value (.func 95),#[.tmp k],ats⟩,ty,pos,af,g⟩:Oper)=true:=by
  unfold allFlat;rw[List.all_eq_true];intro y hy;rw[hρ y (Array.mem_toList_iff.1 hy)];simp [Op.operands,Call.operands] at hy;rcases hy with rfl|rfl<;>rfl
 rw[e];unfold dflat;rw[hf,execOp_congr _ (by intro cs b h;cases h) hρ,zd1];rfl
end Go.Proofs.hq
end

section
namespace Go.Proofs.hq
open Go Go.RowKit Go.Hb
def TellsN (ok:Ok) (f g h:FuncId) (fn fi:Int->Bool):Prop:=∀(n:Int) (H:Heap) , u64 n->H.wf->EvF Tryz.prog ok g [.float .f64 n.toNat] H (fun v H'=>v=.bool (fn n)/\HX H H')/\EvF Tryz.prog ok h [.float .f64 n.toNat,.int .i64 0] H (fun v H'=>v=.bool (fi n)/\HX H H')
theorem zrd:callable Tryz.prog 147=true:=by kernel_rfl
theorem zre:callable Tryz.prog 148=true:=by kernel_rfl
variable {ok:Ok}
set_option maxRecDepth 10000 in
set_option maxHeartbeats 8000000 in
theorem zrf {utf num:ByteArray->Bool}{fn fi:Int->Bool}(hk:∀args H,ok.K 119 args H=none) (hm:ok.testBit 119=true) (hk2:∀args H,ok.K 144 args H=none) (hm2:ok.testBit 144=true)
  (hU:TellsS ok 145 utf) (hN:TellsS ok 146 num) (hF:TellsN ok 95 147 148 fn fi)
  {t:Tm}{cs:List Value}{H:Heap}(r:RepT H t cs) (hw:H.wf):EvF Tryz.prog ok 119 [.agg ⟨cs⟩] H fun v H'=>v=.int .i64 (nodeE utf num (fun n=>!(fn n || fi n || n == 9223372036854775808)) t)/\HX H H':=by
 have rr:=r;obtain⟨a,c,cells,rfl,b1,b2,b3,b4,b5,rl⟩:=r.inv;have hx:=(HX.refl hw).new (some (Blk.row [Value.int IntKind.i64 t.kind,Value.string t.name,Value.string t.num,Value.int IntKind.u64 t.bits,Value.int IntKind.i64 t.var,Value.slice a t.args.length c] 40));refine EvF.enter (hk _ _) Tryz.func119 hm rfl ?_;(repeat refine qZa ?_);refine qZb ?_;simp only[sB,initTm,dBox,Value.cells,one];(repeat refine qZa ?_);refine qZg ?_;refine qZa (qZb ?_);by_cases hno:t.kind < 1\/5 < t.kind
 ·have hlt:decide (t.kind < 1)=true\/(decide (t.kind < 1)=false/\decide (t.kind > 5)=true):=by
   by_cases h:t.kind < 1
   ·exact .inl (by simp [h])
   ·exact .inr ⟨by simp [h],by simp;omega⟩
  rcases hlt with h|⟨h,h'⟩
  ·(try simp only[sB,Za,reduceCtorEq,cutC,h,z06 z3h one3,z0c agg3]);refine qZd (by simp only[sB,Za,reduceCtorEq]) ?_
   (repeat refine qZa ?_);refine qZb ?_;simp only[sA];refine qZf ?_;(try simp only[sA]);exact z03 rfl (by simp only[sG,Za,reduceCtorEq];rfl) ⟨by rw[nodeE,if_pos hno],hx⟩
  ·(try simp only[sB,Za,reduceCtorEq,cutC,h,h',z06 z3h one3,z0c agg3,Zd]);refine qZd (by simp only[sB,Za,reduceCtorEq]) ?_
   (repeat refine qZa ?_);refine qZb ?_;simp only[sA];refine qZf ?_;(try simp only[sA]);exact z03 rfl (by simp only[sG,Za,reduceCtorEq];rfl) ⟨by rw[nodeE,if_pos hno],hx⟩
 have q1:decide (t.kind < 1)=false:=by simp;omega
 have q2:decide (t.kind > 5)=false:=by simp;omega
 (try simp only[sB,Za,Zb,reduceCtorEq,cutC,q1,q2,z06 z3h one3,z0c agg3,Zd,z1y zbb,z48,z08 zra]);refine(znx hk2 hm2 (rr.mono hx hw) hx.wf).mono ?_
 rintro v H2 ⟨rfl,hx2⟩;have hxx:=hx.trans hx2;have hb2:H2.get H.next=some (Blk.row [Value.int IntKind.i64 t.kind,Value.string t.name,Value.string t.num,Value.int IntKind.u64 t.bits,Value.int IntKind.i64 t.var,Value.slice a t.args.length c] 40):=by rw[hx2.keep _ (Zf _),Heap.get_new,if_pos rfl]
 have l0:H2.load ⟨H.next,0,none⟩ 1=some [.int .i64 t.kind]:=by simp only[Heap.load,Heap.cells,hb2];rfl
 have l1:H2.load ⟨H.next,1,none⟩ 1=some [.string t.name]:=by simp only[Heap.load,Heap.cells,hb2];rfl
 have l2:H2.load ⟨H.next,2,none⟩ 1=some [.string t.num]:=by simp only[Heap.load,Heap.cells,hb2];rfl
 have l3:H2.load ⟨H.next,3,none⟩ 1=some [.int .u64 t.bits]:=by simp only[Heap.load,Heap.cells,hb2];rfl
 have l4:H2.load ⟨H.next,4,none⟩ 1=some [.int .i64 t.var]:=by simp only[Heap.load,Heap.cells,hb2];rfl
 have l5:H2.load ⟨H.next,5,none⟩ 1=some [.slice a t.args.length c]:=by simp only[Heap.load,Heap.cells,hb2];rfl
 cases hbl:blankB t with
 |false =>
  (try simp only[sB,Za,reduceCtorEq,Zw,Zd]);refine qZd (by simp only[sB,Za,reduceCtorEq]) ?_
  (repeat refine qZa ?_);refine qZb ?_;simp only[sA];refine qZf ?_;(try simp only[sA]);exact z03 rfl (by simp only[sG,Za,reduceCtorEq];rfl) ⟨by rw[nodeE,if_neg hno,if_pos hbl],hxx⟩
 |true =>
 by_cases hv:t.var < 0
 ·have hd:decide (t.var < 0)=true:=decide_eq_true hv;(try simp only[sB,Za,reduceCtorEq,l4,hd,z06 z8p one3,z0c agg3,Zn,Zd]);refine qZd (by simp only[sB,Za,reduceCtorEq]) ?_;(repeat refine qZa ?_);refine qZb ?_;simp only[sA];refine qZf ?_;(try simp only[sA]);exact z03 rfl (by simp only[sG,Za,reduceCtorEq];rfl) ⟨by rw[zd0 hno hbl (by unfold bndB;rw[hd];rfl)],hxx⟩
 have hd:decide (t.var < 0)=false:=decide_eq_false hv;(try simp only[sB,Za,reduceCtorEq,l4,hd,z06 z8p one3,z0c agg3,Zn,Zd]);refine qZm (by simp only[sB,Za,reduceCtorEq]) ?_;refine EvC.frame (fun tm=>tm.get 1=some (.pointer (some ⟨H.next,0,none⟩))) (by simp only[sG,Za,reduceCtorEq]) ?_;rintro tm g1;refine qZa ?_;refine EvC.join (fun st=>∃tm,st=⟨tm,[],H2⟩/\tm.get 1=some (.pointer (some ⟨H.next,0,none⟩))/\tm.get 23=some (.bool (t.kind == 5 && ((t.args.length:Int) == 0 || decide ((t.args.length:Int) > 64))))) ?_ ?_
 ·refine qZb ?_;cases h2:(t.kind == 5)<;>cases h3:((t.args.length:Int) == 0)<;>cases h4:decide ((t.args.length:Int) > 64)
  all_goals
   (try simp only[sB,Za,g1,l0,l5,h2,h3,h4,z06 z3h one3,z06 z8o zl7,z0c agg3,z0c znu,z19 Tryz.underlying32,Zd]);exact⟨_,rfl,by simp only[sG,Za];exact g1,by simp only[sG,Za];rfl⟩
 clear g1 tm;rintro st ⟨tm,rfl,g1,g23⟩;(try simp only[z00]);cases hbad:(t.kind == 5 && ((t.args.length:Int) == 0 || decide ((t.args.length:Int) > 64))) with
 |true =>
  rw[hbad] at g23;refine qZd (by simp only[sA,g23]) ?_;(repeat refine qZa ?_);refine qZb ?_;simp only[sA];refine qZf ?_;(try simp only[sA]);exact z03 rfl (by simp only[sG];rfl) ⟨by rw[zd0 hno hbl (by unfold bndB;rw[hd,hbad];rfl)],hxx⟩
 |false =>
 rw[hbad] at g23;have hne:=zis (utf:=utf) (num:=num) (flt:=fun n=>!(fn n || fi n || n == 9223372036854775808)) hno hbl (by unfold bndB;rw[hd,hbad];rfl);refine qZm (by simp only[sA,g23]) ?_;(repeat refine qZa ?_);refine qZb ?_;simp only[sB,Za,g1,l1,z06 z3i one9,z0c agg9,z08 zrb];refine(hU t.name _ b2 hx2.wf).mono ?_;rintro v H3 ⟨rfl,hx3⟩;have hxx3:=hxx.trans hx3;have hlt2:H.next < H2.next:=Zo (Zf _) hx2.next;have hb3:H3.get H.next=some (Blk.row [Value.int IntKind.i64 t.kind,Value.string t.name,Value.string t.num,Value.int IntKind.u64 t.bits,Value.int IntKind.i64 t.var,Value.slice a t.args.length c] 40):=by rw[hx3.keep _ hlt2];exact hb2
 have m0:H3.load ⟨H.next,0,none⟩ 1=some [.int .i64 t.kind]:=by simp only[Heap.load,Heap.cells,hb3];rfl
 have m1:H3.load ⟨H.next,1,none⟩ 1=some [.string t.name]:=by simp only[Heap.load,Heap.cells,hb3];rfl
 have m2:H3.load ⟨H.next,2,none⟩ 1=some [.string t.num]:=by simp only[Heap.load,Heap.cells,hb3];rfl
 have m3:H3.load ⟨H.next,3,none⟩ 1=some [.int .u64 t.bits]:=by simp only[Heap.load,Heap.cells,hb3];rfl
 cases hu:utf t.name with
 |false =>
  (try simp only[sB,Za,Zw]);refine qZd (by simp only[sB,Za]) ?_
  (repeat refine qZa ?_);refine qZb ?_;simp only[sA];refine qZf ?_;(try simp only[sA]);exact z03 rfl (by simp only[sG,Za];rfl) ⟨by rw[hne,if_pos hu],hxx3⟩
 |true =>
 rw[if_neg (by rw[hu];simp)] at hne;by_cases hlen:1000 < t.name.size
 ·have hd:decide ((t.name.size:Int) > 1000)=true:=decide_eq_true (by omega);(try simp only[sB,Za,g1,m1,hd,z06 z3i one9,z0c agg9,z6l Tryz.underlying9,Zn,Zd]);refine qZd (by simp only[sB,Za]) ?_;(repeat refine qZa ?_);refine qZb ?_;simp only[sA];refine qZf ?_;(try simp only[sA]);exact z03 rfl (by simp only[sG,Za];rfl) ⟨by rw[hne,if_pos hlen],hxx3⟩
 rw[if_neg hlen] at hne;have hd2:decide ((t.name.size:Int) > 1000)=false:=decide_eq_false (by omega);(try simp only[sB,Za,g1,m1,hd2,z06 z3i one9,z0c agg9,z6l Tryz.underlying9,Zn,Zd]);refine qZm (by simp only[sB,Za]) ?_;refine EvC.frame (fun tm=>tm.get 1=some (.pointer (some ⟨H.next,0,none⟩))) (by simp only[sG,Za];exact g1) ?_;clear g1 g23 tm;rintro tm g1;refine qZa (qZb ?_);by_cases k3:t.kind=3
 ·have q3:(t.kind == 3)=true:=by simp [k3]
  have q4:(t.kind == 4)=false:=by simp [k3]
  (try simp only[sB,Za,g1,m0,m2,q3,z06 z3h one3,z06 z6o one9,z0c agg9,z0c agg3,z08 zrc]);refine(hN t.num _ b3 hx3.wf).mono ?_
  rintro v H4 ⟨rfl,hx4⟩;have hb4:H4.get H.next=some (Blk.row [Value.int IntKind.i64 t.kind,Value.string t.name,Value.string t.num,Value.int IntKind.u64 t.bits,Value.int IntKind.i64 t.var,Value.slice a t.args.length c] 40):=by rw[hx4.keep _ (Zo hlt2 hx3.next)];exact hb3
  have n0:H4.load ⟨H.next,0,none⟩ 1=some [.int .i64 t.kind]:=by simp only[Heap.load,Heap.cells,hb4];rfl
  cases hn:num t.num with
  |false =>
   (try simp only[sB,Za,Zw]);refine qZd (by simp only[sB,Za]) ?_
   (repeat refine qZa ?_);refine qZb ?_;simp only[sA];refine qZf ?_;(try simp only[sA]);exact z03 rfl (by simp only[sG,Za];rfl) ⟨by rw[hne,if_pos ⟨k3,hn⟩],hxx3.trans hx4⟩
  |true =>
   (try simp only[sB,Za,Zn]);refine qZm (by simp only[sB,Za]) (qZe ?_)
   (try simp only[sA]);(repeat refine qZa ?_);refine qZb ?_;simp only[sB,Za,g1,n0,q4,z06 z3h one3,z0c agg3]
   refine qZm (by simp only[sB,Za]) (qZe ?_);(try simp only[z00]);(repeat refine qZa ?_);refine qZb ?_;simp only[sA];refine qZf ?_;(try simp only[]);exact z03 rfl (by simp only[sG,Za];rfl) ⟨by rw[hne,if_neg (by rw[hn];simp),if_neg (by rw[k3];simp)],hxx3.trans hx4⟩
 have q3:(t.kind == 3)=false:=by simp [k3]
 rw[if_neg (fun h=>k3 h.1)] at hne;(try simp only[sB,Za,g1,m0,q3,z06 z3h one3,z0c agg3,Zd]);refine qZm (by simp only[sB,Za]) (qZe ?_);(try simp only[sA]);by_cases k4:t.kind=4
 ·have q4:(t.kind == 4)=true:=by simp [k4]
  (repeat refine qZa ?_);refine qZb ?_;simp only[sB,Za,g1,m0,q4,z06 z3h one3,z0c agg3];refine qZd (by simp only[sB,Za]) ?_;(repeat refine qZa ?_);refine qZb ?_;simp only[sB,Za,g1,m3,z06 z5h zey,z0c zir];rw[z3a (n:=t.bits) (by simp only[sG,Za])];(try simp only[sB,Za]);refine EvC.frame (fun tm=>tm.get 1=some (.pointer (some ⟨H.next,0,none⟩))/\tm.get 3=some (.float .f64 t.bits.toNat)) ⟨by simp only[sG,Za];exact g1,by simp only[sG,Za]⟩ ?_;clear g1 tm;rintro tm ⟨g1,g3⟩;(repeat refine qZa ?_);refine qZb ?_;simp only[sB,Za,g3,z08 zrd];refine(hF t.bits _ b4 hx3.wf).1.mono ?_;rintro v H4 ⟨rfl,hx4⟩;have hb4:H4.get H.next=some (Blk.row [Value.int IntKind.i64 t.kind,Value.string t.name,Value.string t.num,Value.int IntKind.u64 t.bits,Value.int IntKind.i64 t.var,Value.slice a t.args.length c] 40):=by rw[hx4.keep _ (Zo hlt2 hx3.next)];exact hb3
  cases hn:fn t.bits with
  |true =>
   (try simp only[sB,Za]);refine qZd (by simp only[sB,Za]) ?_
   (repeat refine qZa ?_);refine qZb ?_;simp only[sA];refine qZf ?_;(try simp only[z04]);exact z03 rfl (by simp only[sG,Za];rfl) ⟨by rw[hne,if_pos ⟨k4,by rw[hn];rfl⟩],hxx3.trans hx4⟩
  |false =>
  (try simp only[sB,Za,g3,Zd,z08 zre]);refine(hF t.bits _ b4 hx4.wf).2.mono ?_
  rintro v H5 ⟨rfl,hx5⟩;have hb5:H5.get H.next=some (Blk.row [Value.int IntKind.i64 t.kind,Value.string t.name,Value.string t.num,Value.int IntKind.u64 t.bits,Value.int IntKind.i64 t.var,Value.slice a t.args.length c] 40):=by rw[hx5.keep _ (Zo (Zo hlt2 hx3.next) hx4.next)];exact hb4
  have n3:H5.load ⟨H.next,3,none⟩ 1=some [.int .u64 t.bits]:=by simp only[Heap.load,Heap.cells,hb5];rfl
  cases hi:fi t.bits with
  |true =>
   (try simp only[sB,Za]);refine qZd (by simp only[sB,Za]) ?_
   (repeat refine qZa ?_);refine qZb ?_;simp only[sA];refine qZf ?_;(try simp only[z04]);exact z03 rfl (by simp only[sG,Za];rfl) ⟨by rw[hne,if_pos ⟨k4,by rw[hn,hi];rfl⟩],(hxx3.trans hx4).trans hx5⟩
  |false =>
  cases hz:(t.bits == 9223372036854775808) with
  |true =>
   (try simp only[sB,Za,g1,n3,hz,z06 z5h zey,z0c zir,Zd]);refine qZd (by simp only[sB,Za]) ?_
   (repeat refine qZa ?_);refine qZb ?_;simp only[sA];refine qZf ?_;(try simp only[z04]);exact z03 rfl (by simp only[sG,Za];rfl) ⟨by rw[hne,if_pos ⟨k4,by rw[hn,hi,hz];rfl⟩],(hxx3.trans hx4).trans hx5⟩
  |false =>
   (try simp only[sB,Za,g1,n3,hz,z06 z5h zey,z0c zir,Zd]);refine qZm (by simp only[sB,Za]) (qZe ?_)
   (try simp only[z00]);(repeat refine qZa ?_);refine qZb ?_;simp only[sA]
   refine qZf ?_;(try simp only[]);exact z03 rfl (by simp only[sG,Za];rfl) ⟨by rw[hne,if_neg (by rw[hn,hi,hz];simp)],(hxx3.trans hx4).trans hx5⟩
 have q4:(t.kind == 4)=false:=by simp [k4]
 (repeat refine qZa ?_);refine qZb ?_;simp only[sB,Za,g1,m0,q4,z06 z3h one3,z0c agg3];refine qZm (by simp only[sB,Za]) (qZe ?_);(try simp only[z00]);(repeat refine qZa ?_);refine qZb ?_;simp only[sA];refine qZf ?_;(try simp only[]);exact z03 rfl (by simp only[sG,Za];rfl) ⟨by rw[hne,if_neg (fun h=>k4 h.1)],hxx3⟩
end Go.Proofs.hq
end

section
namespace Go.Proofs.hq
open Go Go.RowKit Go.Hb
theorem zpx:callable Tryz.prog 86=true:=by kernel_rfl
theorem ztn:callable Tryz.prog 119=true:=by kernel_rfl
mutual
def allE (E:Tm->Int):Tm->Int
 |.mk k s u b v l=>if E (.mk k s u b v l)=0 then allL E l else E (.mk k s u b v l)
def allL (E:Tm->Int):List Tm->Int
 |[]=>0
 |t :: l=>if allE E t=0 then allL E l else allE E t
end
theorem z5i (E:Tm->Int) (t:Tm):allE E t=if E t=0 then allL E t.args else E t:=by
 obtain⟨k,s,u,b,v,l⟩:=t;rw[allE];rfl
theorem zlc {E:Tm->Int}{l:List Tm}{i:Nat}{t:Tm}(h:l[i]?=some t):allL E (l.drop i)=if allE E t=0 then allL E (l.drop (i+1)) else allE E t:=by
 have hlt:=(List.getElem?_eq_some_iff.1 h).1;have he:l[i]=t:=(List.getElem?_eq_some_iff.1 h).2;rw[ZB hlt,allL,he]
def checkE (E:Tm->Int) (t:Tm):Int:=if 4000 < cnt t 0 then 24 else allE E t
def TellsT (ok:Ok) (f:FuncId) (E:Tm->Int):Prop:=∀(t:Tm) (cs:List Value) (H:Heap),RepT H t cs->H.wf->EvF Tryz.prog ok f [.agg ⟨cs⟩] H fun v H'=>v=.int .i64 (E t)/\HX H H'
theorem zpy {n:Int}(h:n≠0):(n != 0)=true:=by simp [h]
theorem zpz {n:Int}(h:n=0):(n != 0)=false:=by simp [h]
variable {ok:Ok}
set_option maxRecDepth 10000 in
set_option maxHeartbeats 2000000 in
theorem zd2 {E:Tm->Int}(hE:TellsT ok 119 E) (hk:∀args H,ok.K 86 args H=none) (hm:ok.testBit 86=true):TellsT ok 86 (allE E):=by
 have main:∀(m:Nat) {t:Tm}{cs:List Value}{H:Heap},SizeOf.sizeOf t < m->RepT H t cs->H.wf->EvF Tryz.prog ok 86 [.agg ⟨cs⟩] H fun v H'=>v=.int .i64 (allE E t)/\HX H H':=by
  intro m
  induction m with
  |zero=>intro t cs H h;omega
  |succ m ih =>
  intro t cs H hsz r hw;have rr:=r;obtain⟨a,c,cells,rfl,b1,b2,b3,b4,b5,rl⟩:=r.inv;have hx:=(HX.refl hw).new (some (Blk.row [Value.int IntKind.i64 t.kind,Value.string t.name,Value.string t.num,Value.int IntKind.u64 t.bits,Value.int IntKind.i64 t.var,Value.slice a t.args.length c] 40));refine EvF.enter (hk _ _) Tryz.func86 hm rfl ?_;(repeat refine qZa ?_);refine qZb ?_;simp only[sB,initTm,dBox,Value.cells,one];(repeat refine qZa ?_);refine qZb ?_;simp only[sB,Za,Zb,reduceCtorEq,cutC,z1y zbb,z48,z08 ztn];refine(hE t _ _ (rr.mono hx hw) hx.wf).mono ?_;rintro v H2 ⟨rfl,hx2⟩;have hxx:=hx.trans hx2;have hb2:H2.get H.next=some (Blk.row [Value.int IntKind.i64 t.kind,Value.string t.name,Value.string t.num,Value.int IntKind.u64 t.bits,Value.int IntKind.i64 t.var,Value.slice a t.args.length c] 40):=by rw[hx2.keep _ (Zf _),Heap.get_new,if_pos rfl]
  have l5:H2.load ⟨H.next,5,none⟩ 1=some [.slice a t.args.length c]:=by simp only[Heap.load,Heap.cells,hb2];rfl
  (try simp only[]);by_cases he:E t=0
  ·(repeat refine qZa ?_);refine qZb ?_;simp only[sB,Za,reduceCtorEq,zpz he];refine qZm (by simp only[sB,Za,reduceCtorEq]) (qZe ?_);(try simp only[z00]);(repeat refine qZa ?_);refine qZb ?_;simp only[sB,Za,reduceCtorEq,z06 z8o zl7,z0c znu,l5,z19 Tryz.underlying32];refine qZg (qZk (fun k st=>∃tm H' i,st=⟨tm,[],H'⟩/\k=t.args.length - i/\i<=t.args.length/\allL E (t.args.drop i)=allE E t /\
    tm.get 13=some (.slice a t.args.length c)/\tm.get 14=some (.int .i64 t.args.length)/\tm.get 15=some (.int .i64 (i:Nat))/\HX H H') ?_ t.args.length _ ?_)
   ·rintro k st ⟨tm,H',i,rfl,hk',hi,hc,g13,g14,g15,hx'⟩;(repeat refine qZa ?_);refine qZb ?_;simp only[sA,g14,g15];by_cases hlt:i < t.args.length
    ·(repeat refine qZa ?_);refine qZd (by simp only[sB];exact congrArg _ (decide_eq_true (by omega))) (qZe ?_);obtain⟨b,o,rfl,hload,hrep⟩:=rl.at (i:=i) (Zc hlt);obtain⟨a',c',cells',hcell,-⟩:=hrep.inv;have hld:=hx'.load hw hload;rw[hcell] at hld hrep;(try simp only[z00]);(repeat refine qZa ?_);refine qZg ?_;(repeat refine qZa ?_);refine qZb ?_;simp only[sB,dAlloc,Za,Zb,one,g13,g15,z2l Tryz.underlying32 zgy hlt,z1y zbb,z48,hld,zpv,z6k zgy];(repeat refine qZa ?_);refine qZb ?_;simp only[sB,Za,Zb,cutC,z1y zbb,z48,z08 zpx];have hx3:=(hx'.new (some (Blk.row [Value.int IntKind.i64 0,Value.string Zh,Value.string Zh,Value.int IntKind.u64 0,Value.int IntKind.i64 0,Value.slice none 0 0] 40))).put (i:=H'.next) hx'.next (Zf _)
      (some (.row [Value.int IntKind.i64 t.args[i].kind,Value.string t.args[i].name,Value.string t.args[i].num,Value.int IntKind.u64 t.args[i].bits,Value.int IntKind.i64 t.args[i].var,Value.slice a' t.args[i].args.length c'] 40))
     have ht:t.args[i]?=some t.args[i]:=Zc hlt;have hs:=z1t ht;refine(ih (t:=t.args[i]) (by omega) (hrep.mono hx3 hw) hx3.wf).mono ?_;rintro v H4 ⟨rfl,hx4⟩;have hL:t.args.length<=9223372036854775807:=ZC rl.len rl.cap;have hd:=zlc (E:=E) ht;(try simp only[]);by_cases hz:allE E t.args[i]=0
     ·(repeat refine qZa ?_);refine qZb ?_;simp only[sB,Za,zpz hz];refine qZm (by simp only[sB,Za]) (qZe ?_);(try simp only[sA]);refine qZb ?_;simp (config:=qZc) (disch:=first|omega|rfl) only[sB,Za,g15,z05];exact⟨t.args.length - (i+1),by omega,_,_,i+1,rfl,rfl,by omega,by rw[<-hc,hd,if_pos hz],by simp only[sG,Za];exact g13,by simp only[sG,Za];exact g14,by simp only[sG,Za];rfl,hx3.trans hx4⟩
     ·(repeat refine qZa ?_);refine qZb ?_;simp only[sB,Za,zpy hz];refine qZd (by simp only[sB,Za]) ?_;(repeat refine qZa ?_);refine qZb ?_;simp only[sB,Za];refine qZf ?_;(try simp only[sA]);exact z03 rfl (by simp only[sG,Za];rfl) ⟨by rw[<-hc,hd,if_neg hz],hx3.trans hx4⟩
    ·(repeat refine qZa ?_);refine qZm (by simp only[sB];exact congrArg _ (decide_eq_false (by omega))) (qZi ?_);(try simp only[sB]);(repeat refine qZa ?_);refine qZb ?_;simp only[sA];refine qZf (z03 rfl (by simp only[sG,Za];rfl) ⟨?_,hx'⟩);rw[<-hc,List.drop_of_length_le (by omega),allL]
   ·exact⟨_,_,0,rfl,rfl,by omega,by rw[z5i,if_pos he];rfl,by simp only[sG,Za,reduceCtorEq],by simp only[sG,Za,reduceCtorEq],by simp only[sG,Za,reduceCtorEq];rfl,hxx⟩
  ·(repeat refine qZa ?_);refine qZb ?_;simp only[sB,Za,reduceCtorEq,zpy he];refine qZd (by simp only[sB,Za,reduceCtorEq]) ?_;(repeat refine qZa ?_);refine qZb ?_;simp only[sB,Za,reduceCtorEq];refine qZf ?_;(try simp only[z04]);exact z03 rfl (by simp only[sG,Za,reduceCtorEq];rfl) ⟨by rw[z5i,if_neg he],hxx⟩
 exact fun t cs H r hw=>main _ (Zf _) r hw
end Go.Proofs.hq
end

section
namespace Go.Proofs.hq
open Go Go.RowKit Go.Hb
variable {ok:Ok}
set_option maxRecDepth 10000 in
theorem znz {E:Tm->Int}(hN:TellsT ok 43 fun t=>cnt t 0) (hE:TellsT ok 86 (allE E)) (hk:∀args H,ok.K 42 args H=none) (hm:ok.testBit 42=true):TellsT ok 42 (checkE E):=by
 intro t cs H r hw;have rr:=r;obtain⟨a,c,cells,rfl,b1,b2,b3,b4,b5,rl⟩:=r.inv;have hx:=(HX.refl hw).new (some (Blk.row [Value.int IntKind.i64 t.kind,Value.string t.name,Value.string t.num,Value.int IntKind.u64 t.bits,Value.int IntKind.i64 t.var,Value.slice a t.args.length c] 40));refine EvF.enter (hk _ _) Tryz.func42 hm rfl ?_;(repeat refine qZa ?_);refine qZb ?_;simp only[sB,initTm,dBox,Value.cells,one];(repeat refine qZa ?_);refine qZb ?_;simp only[sB,Za,Zb,reduceCtorEq,cutC,z1y zbb,z48,z08 ztk];refine(hN t _ _ (rr.mono hx hw) hx.wf).mono ?_;rintro v H2 ⟨rfl,hx2⟩;have hxx:=hx.trans hx2;have hb2:H2.get H.next=some (Blk.row [Value.int IntKind.i64 t.kind,Value.string t.name,Value.string t.num,Value.int IntKind.u64 t.bits,Value.int IntKind.i64 t.var,Value.slice a t.args.length c] 40):=by rw[hx2.keep _ (Zf _),Heap.get_new,if_pos rfl]
 have l6:H2.load ⟨H.next,0,none⟩ 6=some [Value.int IntKind.i64 t.kind,Value.string t.name,Value.string t.num,Value.int IntKind.u64 t.bits,Value.int IntKind.i64 t.var,Value.slice a t.args.length c]:=by simp only[Heap.load,Heap.cells,hb2];rfl
 by_cases hov:4000 < cnt t 0
 ·refine qZd (by simp only[sB,Za,reduceCtorEq];exact congrArg _ (decide_eq_true (by omega))) ?_;(repeat refine qZa ?_);refine qZb ?_;simp only[sA];refine qZf ?_;(try simp only[z04]);exact z03 rfl (by simp only[sG,Za,reduceCtorEq];rfl) ⟨by rw[checkE,if_pos hov],hxx⟩
 ·refine qZm (by simp only[sB,Za,reduceCtorEq];exact congrArg _ (decide_eq_false (by omega))) (qZe ?_);(try simp only[sA]);(repeat refine qZa ?_);refine qZb ?_;simp only[sB,Za,reduceCtorEq,z1y zbb,z48,l6,z08 zpx];refine(hE t _ _ (rr.mono hxx hw) hx2.wf).mono ?_;rintro v H3 ⟨rfl,hx3⟩;(try simp only[]);refine qZf ?_;(try simp only[]);exact z03 rfl (by simp only[sG,Za,reduceCtorEq];rfl) ⟨by rw[checkE,if_neg hov],hxx.trans hx3⟩
end Go.Proofs.hq
end

section
namespace Go.Proofs.hq
open Go Go.RowKit Go.Hb
section
variable {P:Program}{H:Heap}
theorem zd3 {t:TypeId}{x y:Operand}{k:FloatKind}{a b:Nat}:dBin P .neq t x y (.float k a) (.float k b) H=some (.val (.bool (k.format.order a b != some .eq)) H):=by
 simp [dBin,dnil,flat,eqGuard,binOp,Op.floatCmp,Sem.bind];rfl
theorem z8q {t:TypeId}{x y:Operand}{k:FloatKind}{a b:Nat}:dBin P .gtr t x y (.float k a) (.float k b) H=some (.val (.bool (k.format.order a b == some .gt)) H):=by
 simp [dBin,dnil,flat,eqGuard,binOp,Op.floatCmp,Sem.bind];rfl
def iAndNot (k:IntKind) (a b:Int):Int:=k.wrap (BitVec.ofInt k.bits a &&& ~~~BitVec.ofInt k.bits b).toNat
def iAnd (k:IntKind) (a b:Int):Int:=k.wrap (BitVec.ofInt k.bits a &&& BitVec.ofInt k.bits b).toNat
theorem zez {t:TypeId}{x y:Operand}{k:IntKind}{a b:Int}:dBin P .andNot t x y (.int k a) (.int k b) H=some (.val (.int k (iAndNot k a b)) H):=by
 simp [dBin,dnil,flat,eqGuard,binOp,Op.intBits,Sem.bind,-BitVec.toNat_and,-BitVec.toNat_not,-BitVec.toNat_ofInt];rfl
end
def rhoF (n:Nat):Operand->Value
 |.func f=>.func (.func f) #[] #[]
 |_=>.float .f64 n
theorem zo0 (n:Nat) (d:Option Tmp) (k:Tmp) (ats:Array TypeId) (ty:TypeId) (pos:String) (af:Array Edge) (g:Option (Nat × Bool)) :
  pureRun Tryz.prog (execOp (rhoF n) ⟨d,.call ⟨.value (.func 179),#[.tmp k],ats⟩,ty,pos,af,g⟩)=some (.value (.int .u64 n)):=by kernel_rfl
theorem zld (l:List Value):dcall1 Tryz.prog 179 l=none:=by
 unfold dcall1;rw[Tryz.func179];rfl
theorem zo1 {d:Option Tmp}{k:Tmp}{ats:Array TypeId}{ty:TypeId}{pos:String}{af:Array Edge}{g:Option (Nat × Bool)}{tm:Tr Value}{H:Heap}{n:Nat}(hv:tm.get k=some (.float .f64 n)) :
  dop Tryz.prog ⟨d,.call ⟨.value (.func 179),#[.tmp k],ats⟩,ty,pos,af,g⟩ (ev tm) H=some (.val (.int .u64 n) H):=by
 have hρ:∀y∈(⟨d,.call ⟨.value (.func 179),#[.tmp k],ats⟩,ty,pos,af,g⟩:Oper).op.operands,ev tm y=rhoF n y:=by
  intro y hy;simp [Op.operands,Call.operands] at hy;rcases hy with rfl|rfl
  ·rfl
  ·show (tm.get k).getD junk=_;rw[hv];rfl
 have e:dop Tryz.prog ⟨d,.call ⟨.value (.func 179),#[.tmp k],ats⟩,ty,pos,af,g⟩ (ev tm) H=dflat Tryz.prog ⟨d,.call ⟨.value (.func 179),#[.tmp k],ats⟩,ty,pos,af,g⟩ (ev tm) H:=by
  simp only[dop,ev,zld]
 have hf:allFlat (ev tm) (⟨d,.call ⟨.value (.func 179),#[.tmp k],ats⟩,ty,pos,af,g⟩:Oper)=true:=by
  unfold allFlat;rw[List.all_eq_true];intro y hy;rw[hρ y (Array.mem_toList_iff.1 hy)];simp [Op.operands,Call.operands] at hy;rcases hy with rfl|rfl<;>rfl
 rw[e];unfold dflat;rw[hf,execOp_congr _ (by intro cs b h;cases h) hρ,zo0];rfl
theorem zrg:callable Tryz.prog 168=true:=by kernel_rfl
def fnB (n:Int):Bool:=FloatKind.f64.format.order n.toNat n.toNat != some .eq
def absN (m:Nat):Nat:=(iAndNot .u64 m 9223372036854775808).toNat
def fiB (n:Int):Bool:=FloatKind.f64.format.order (absN n.toNat) 9218868437227405311 == some .gt
variable {ok:Ok}
set_option maxRecDepth 10000
theorem zto (hk:∀args H,ok.K 168 args H=none) (hm:ok.testBit 168=true) (m:Nat) (H:Heap) (hw:H.wf):EvF Tryz.prog ok 168 [.float .f64 m] H fun v H'=>v=.float .f64 (absN m)/\HX H H':=by
 refine EvF.enter (hk _ _) Tryz.func168 hm rfl ?_;(repeat refine qZa ?_);refine qZb ?_;simp only[sA,initTm];(repeat refine qZa ?_);refine qZb ?_;simp only[sB,reduceCtorEq];rw[zo1 (n:=m) (by simp only[sG,Za,reduceCtorEq])];(try simp only[sB,Za,reduceCtorEq,zez]);rw[z3a (n:=iAndNot .u64 m 9223372036854775808) (by simp only[sG,Za,reduceCtorEq])];(try simp only[sB,Za,reduceCtorEq]);refine qZf ?_;exact z03 rfl (by simp only[sG,Za,reduceCtorEq];rfl) ⟨rfl,HX.refl hw⟩
theorem zo2 (hk:∀args H,ok.K 147 args H=none) (hm:ok.testBit 147=true) (n:Int) (H:Heap) (hw:H.wf):EvF Tryz.prog ok 147 [.float .f64 n.toNat] H fun v H'=>v=.bool (fnB n)/\HX H H':=by
 refine EvF.enter (hk _ _) Tryz.func147 hm rfl ?_;(repeat refine qZa ?_);refine qZb ?_;simp only[sA,initTm];(repeat refine qZa ?_);refine qZb ?_;simp only[sB,Za,reduceCtorEq,zd3];refine qZf ?_;exact z03 rfl (by simp only[sG,Za,reduceCtorEq];rfl) ⟨rfl,HX.refl hw⟩
theorem zo3 (hk:∀f args H,(f=148\/f=168)->ok.K f args H=none) (hm:ok.testBit 148=true) (hm2:ok.testBit 168=true) (n:Int) (H:Heap) (hw:H.wf) :
  EvF Tryz.prog ok 148 [.float .f64 n.toNat,.int .i64 0] H fun v H'=>v=.bool (fiB n)/\HX H H':=by
 refine EvF.enter (hk _ _ _ (.inl rfl)) Tryz.func148 hm rfl ?_;(repeat refine qZa ?_);refine qZb ?_;simp only[sA,initTm];(repeat refine qZa ?_);refine qZb ?_;simp only[sB,Za,reduceCtorEq];refine qZd (by simp only[sB,Za,reduceCtorEq];rfl) ?_;refine qZb ?_;simp only[sB,Za,reduceCtorEq,z08 zrg];refine(zto (hk 168 · · (.inr rfl)) hm2 n.toNat H hw).mono ?_;rintro v H2 ⟨rfl,hx⟩;(try simp only[]);(repeat refine qZa ?_);refine qZb ?_;simp only[sB,Za,reduceCtorEq,z8q];refine qZf ?_;exact z03 rfl (by simp only[sG,Za,reduceCtorEq];rfl) ⟨rfl,hx⟩
def flB (n:Int):Bool:=!(iAnd .u64 (n.fdiv (2 ^ (min (Int.toNat 52) IntKind.u64.bits))) 2047 == 2047) && !(n == 9223372036854775808)
end Go.Proofs.hq
end

section
namespace Go.Proofs.hq
open Go Go.RowKit Go.Hb
theorem zd4 (q:Nat) (h:q < 18446744073709551616):IntKind.u64.wrap (q:Int)=(q:Int):=by
 rw[IntKind.wrap_u64];omega
theorem zrh (m:Nat) (h:m < 18446744073709551616):absN m=m % 9223372036854775808:=by
 unfold absN iAndNot;have e:(BitVec.ofInt IntKind.u64.bits (m:Int) &&& ~~~BitVec.ofInt IntKind.u64.bits 9223372036854775808).toNat=m % 9223372036854775808:=by
  rw[BitVec.toNat_and];have h1:(BitVec.ofInt IntKind.u64.bits (m:Int)).toNat=m:=by
   rw[BitVec.ofInt_natCast,BitVec.toNat_ofNat];exact Nat.mod_eq_of_lt h
  have h2:(~~~BitVec.ofInt IntKind.u64.bits 9223372036854775808).toNat=9223372036854775807:=rfl;rw[h1,h2];exact Nat.and_two_pow_sub_one_eq_mod m 63
 rw[e,zd4 _ (by omega)];exact Zv _
theorem zbc (w:Nat):Ieee.double.read w =
  if w % 9223372036854775808 < 4503599627370496 then .number (w / 9223372036854775808 % 2 == 1) (w % 9223372036854775808) (-1074)
  else if w % 9223372036854775808 < 9218868437227405312 then .number (w / 9223372036854775808 % 2 == 1) (4503599627370496+w % 9223372036854775808 % 4503599627370496) (-1074+((w % 9223372036854775808 / 4503599627370496 - 1:Nat):Int))
  else if w % 9223372036854775808=9218868437227405312 then .infinity (w / 9223372036854775808 % 2 == 1)
  else .nan (w / 9223372036854775808 % 2 == 1) (w % 9223372036854775808 - 9218868437227405312):=rfl
theorem ztp (m:Nat):(FloatKind.f64.format.order m m != some .eq)=decide (9218868437227405312 < m % 9223372036854775808):=by
 show (Ieee.Datum.order (Ieee.double.read m) (Ieee.double.read m) != some .eq)=_;rw[zbc];split
 ·rename_i h;rw[decide_eq_false (by omega)];simp [Ieee.Datum.order]
 ·split
  ·rename_i h;rw[decide_eq_false (by omega)];simp [Ieee.Datum.order]
  ·split
   ·rename_i h;rw[decide_eq_false (by omega)];simp [Ieee.Datum.order]
   ·rw[decide_eq_true (by omega)];simp [Ieee.Datum.order]
theorem ztq (m k:Nat):m<=m <<< k:=by
 rw[Nat.shiftLeft_eq];exact Nat.le_mul_of_pos_right m (Nat.two_pow_pos k)
theorem ztr (g:Nat) (hg:g < 9223372036854775808):(FloatKind.f64.format.order g 9218868437227405311 == some .gt)=decide (g=9218868437227405312):=by
 show (Ieee.Datum.order (Ieee.double.read g) (Ieee.double.read 9218868437227405311) == some .gt)=_;have hM:Ieee.double.read 9218868437227405311=.number false 9007199254740991 971:=by rw[zbc];rfl
 have hmod:g % 9223372036854775808=g:=Nat.mod_eq_of_lt hg;have hneg:(g / 9223372036854775808 % 2 == 1)=false:=by
  rw[Nat.div_eq_of_lt hg];rfl
 have key:∀(m:Nat) (p:Int),m<=9007199254740991->p<=971->(Ieee.Datum.order (.number false m p) (.number false 9007199254740991 971) == some .gt)=false:=by
  intro m p hm hp;simp only[Ieee.Datum.order,Ieee.signed];have h1:min p 971=p:=by omega
  rw[h1];have h2:(p - p).toNat=0:=by omega
  rw[h2];have hle:=ztq 9007199254740991 (971 - p).toNat;have hng:compare ((m <<< 0:Nat):Int) ((9007199254740991 <<< (971 - p).toNat:Nat):Int)≠.gt:=by
   rw[Ne,Int.compare_eq_gt];have:m <<< 0=m:=rfl;rw[this];omega
  simpa using hng
 rw[zbc,hM,hmod,hneg];split
 ·rename_i h;rw[decide_eq_false (by omega)];exact key _ _ (by omega) (by omega)
 ·split
  ·rename_i h;rw[decide_eq_false (by omega)];exact key _ _ (by omega) (by omega)
  ·split
   ·rename_i h;rw[decide_eq_true h];rfl
   ·rename_i h;rw[decide_eq_false h];rfl
end Go.Proofs.hq
end

section
namespace Go.Proofs.hq
end Go.Proofs.hq
end

section
namespace Go.Hb
open Go.Lib
def contR:Nat->List UInt8->Nat->Option Nat
 |0,_,c=>some c
 |_+1,[],_=>none
 |n+1,b :: l,c=>if b.toNat < 128\/192<=b.toNat then none else contR n l (c*64+b.toNat - 128)
def leadR (b:Nat):Option (Nat × Nat × Nat) :=
 if 192<=b/\b < 224 then some (1,128,b - 192) else if 224<=b/\b < 240 then some (2,2048,b - 224) else if 240<=b/\b < 248 then some (3,65536,b - 240) else none
abbrev badR (lo c:Nat):Prop:=c < lo\/1114111 < c\/(55296<=c/\c < 57344)
def stepR (l:List UInt8):Option Nat :=
 match l with
 |[]=>none
 |b :: l=>match leadR b.toNat with
  |none=>none
  |some (n,lo,c)=>match contR n l c with
   |none=>none
   |some c=>if badR lo c then none else some (n+1)
def utfR:Nat->List UInt8->Bool
 |0,_=>true
 |_+1,[]=>true
 |k+1,b :: l=>if b.toNat < 128 then utfR k l else match stepR (b :: l) with
  |none=>false
  |some n=>utfR k ((b :: l).drop n)
def stepN (n m b1 b2 b3:Nat):Option Nat :=
 if 192<=m/\m < 224 then (if n < 2\/b1 < 128\/192<=b1 then none else if badR 128 ((m - 192)*64+b1 - 128) then none else some 2)
 else if 224<=m/\m < 240 then (if n < 3\/b1 < 128\/192<=b1\/b2 < 128\/192<=b2 then none else if badR 2048 (((m - 224)*64+b1 - 128)*64+b2 - 128) then none else some 3)
 else if 240<=m/\m < 248 then (if n < 4\/b1 < 128\/192<=b1\/b2 < 128\/192<=b2\/b3 < 128\/192<=b3 then none else if badR 65536 ((((m - 240)*64+b1 - 128)*64+b2 - 128)*64+b3 - 128) then none else some 4)
 else none
end Go.Hb
end

section
namespace Go.Proofs.hq
open Go Go.RowKit Go.Hb
variable {ok:Ok}
set_option maxRecDepth 10000
end Go.Proofs.hq
end

section
namespace Go.Proofs.hq
open Go Go.RowKit Go.Hb
variable {ok:Ok}
set_option maxRecDepth 10000
attribute [local irreducible] LX LG EL STG SOP SGO SGD SAL SRD SEF SEG SLK SCK ES
def canonS (s:ByteArray):Bool:=match parseD (bl s) with|none=>false|some n=>textD (negS (bl s)) n == bl s
theorem zle {l:List Nat}{n:Nat}(h:parseD l=some n):n < big:=by
 unfold parseD at h;split at h
 ·cases h
 ·split at h
  ·cases h
  ·exact zl4 _ 0 n (by rw[zcx];exact Nat.two_pow_pos _) h
theorem toNat_inj:∀{a b:List UInt8},a.map UInt8.toNat=b.map UInt8.toNat->a=b
 |[],[],_=>rfl
 |x :: a,y :: b,h=>by
  simp only[List.map_cons,List.cons.injEq] at h;rw[UInt8.toNat_inj.1 h.1,toNat_inj h.2]
 |[],_ :: _,h=>by simp at h
 |_ :: _,[],h=>by simp at h
theorem zo4 (t s:ByteArray):(t.data.toList == s.data.toList)=(bl t == bl s):=by
 by_cases h:t.data.toList=s.data.toList
 ·rw[beq_iff_eq.2 h,beq_iff_eq.2 (show bl t=bl s by unfold bl;rw[h])]
 ·have h2:bl t≠bl s:=fun h3=>h (toNat_inj h3)
  rw[beq_eq_false_iff_ne.2 h,beq_eq_false_iff_ne.2 h2]
theorem zit:TellsS okT 146 canonS:=by
 intro s H hs hw;refine EvF.enter rfl Tryz.func146 (by decide) rfl ?_
 repeat' (first|refine qZa ?_|(refine qZb ?_;simp (config:=qZc) only[sB,initTm,Za,reduceCtorEq,zv1]))
 refine(znt hs hw).mono ?_;rintro v H1 ⟨hP,hx1⟩;rcases hP with ⟨hnone,e,he,rfl⟩|⟨n,L,a,c,hsome,rfl,hr,hLb,hval,hlast,hlen⟩
 ·have hx2:=(hx1.new (some (.row [.bool false,.slice none 0 0] 205))).put (i:=H1.next) hx1.next (Zf _) (some (.row [.bool false,.slice none 0 0] 205))
  repeat' (first|refine qZa ?_|(refine qZf ?_;try simp only[z04,z02])|(refine qZb ?_;simp (config:=qZc) (disch:=first|omega|rfl) only[sB,Za,reduceCtorEq,z29])|(refine z0f ?_;simp (config:=qZc) (disch:=first|omega|rfl) only[sB,dAlloc,Za,Zb,one,reduceCtorEq,zkw,z9h])|(refine qZd ?_ ?_;simp (config:=qZc) only[sB,Za,reduceCtorEq];refine z01 ?_))
  exact z03 rfl (by simp only[sB,Za,reduceCtorEq];rfl) ⟨by unfold canonS;rw[hnone],hx2⟩
 ·have hn:n < big:=zle hsome;have hx2:=((HX.refl hx1.wf).new (some (.row [.bool false,.slice none 0 0] 205))).put (i:=H1.next) (Ze _) (Zf _) (some (.row [.bool (negS (bl s) && decide (0 < L.length)),.slice a L.length c] 205))
  repeat' (first|refine qZa ?_|(refine qZe ?_;try simp only[z00])|(refine qZb ?_;simp (config:=qZc) (disch:=first|omega|rfl) only[sB,Za,Zb,reduceCtorEq,cutC,z9i,zv2,z13])|(refine z0f ?_;simp (config:=qZc) (disch:=first|omega|rfl) only[sB,dAlloc,Za,Zb,one,reduceCtorEq,zkw,z9h])|(refine qZm ?_ ?_;simp (config:=qZc) only[sB,Za,reduceCtorEq];refine z01 ?_))
  refine(zr6 hx2.wf (hr.keep hx2 hx1.wf) hLb hlen hval hn).mono ?_;rintro v H2 ⟨⟨t,rfl,ht⟩,hx3⟩;have htx:textD (negS (bl s) && decide (0 < L.length)) n=textD (negS (bl s)) n:=by
   by_cases h0:0 < L.length
   ·simp [h0]
   ·have:L=[]:=List.length_eq_zero_iff.1 (by omega);subst this;have:n=0:=by rw[<-hval];rfl
    subst this;rfl
  rw[htx] at ht;have heq:(t.data.toList == s.data.toList)=canonS s:=by
   rw[zo4,ht];unfold canonS;rw[hsome]
  repeat' (first|refine qZa ?_|(refine qZf ?_)|(refine qZb ?_;simp (config:=qZc) (disch:=first|omega|rfl) only[sB,Za,reduceCtorEq,z0v,zck,heq])|(refine z0f ?_;simp (config:=qZc) only[sB,Za,reduceCtorEq]))
  exact z03 rfl (by simp only[sG,Za,reduceCtorEq]) ⟨rfl,(hx1.trans hx2).trans hx3⟩
def utfS (s:ByteArray):Bool:=Lib.validD s.data.toList
def fltS (n:Int):Bool:=!(fnB n || fiB n || n == 9223372036854775808)
def nodeS:Tm->Int:=nodeE utfS canonS fltS
theorem zf0:TellsS okT 145 utfS:=fun _ _ hs hw=>znm (by decide) hw hs
theorem zlf:TellsN okT 95 147 148 fnB fiB:=fun n H hn hw=>⟨zo2 (fun _ _=>rfl) (by decide) n H hw,zo3 (fun f _ _ h=>by rcases h with rfl|rfl<;>rfl) (by decide) (by decide) n H hw⟩
theorem ziu:TellsT okT 119 nodeS:=fun t cs H r hw=>zrf (fun _ _=>rfl) (by decide) (fun _ _=>rfl) (by decide) zf0 zit zlf r hw
theorem z5j:TellsT okT 43 fun t=>cnt t 0:=fun t cs H r hw=>znw (fun f _ _ h=>by rcases h with rfl|rfl<;>rfl) (by decide) (by decide) r hw
def checkS:Tm->Int:=checkE nodeS
theorem z5k:TellsT okT 42 checkS:=znz z5j (zd2 ziu (fun _ _=>rfl) (by decide)) (fun _ _=>rfl) (by decide)
end Go.Proofs.hq
end

section
namespace Go.Proofs.hq
open Go Go.RowKit Go.Hb
def orZ (a b:Int):Int:=if a=0 then b else a
theorem zf1 (x y:Int):orZ (-x) (-y)=-(orZ x y):=by
 unfold orZ;by_cases h:x=0
 ·subst h;simp
 ·rw[if_neg h,if_neg (by omega)]
theorem z3b {x y:Int}:orZ x y=0↔x=0/\y=0:=by
 unfold orZ;by_cases h:x=0
 ·rw[if_pos h];simp [h]
 ·rw[if_neg h];simp [h]
theorem z6p {a b:ByteArray}(h:a.toList=b.toList):a=b:=by
 rw[z2d,z2d] at h;obtain⟨⟨a⟩⟩:=a;obtain⟨⟨b⟩⟩:=b;simp at h;rw[h]
def Fine (t:Tm):Prop:=allE nodeS t=0
theorem zh1 {E:Tm->Int}:∀{l:List Tm},allL E l=0->∀u∈l,allE E u=0
 |[],_,u,hu=>by simp at hu
 |t :: l,h,u,hu=>by
  rw[allL] at h;split at h
  ·rename_i h0;rcases List.mem_cons.1 hu with rfl|hu
   ·exact h0
   ·exact zh1 h u hu
  ·rename_i h0;exact absurd h h0
theorem Fine.node {t:Tm}(h:Fine t):nodeS t=0:=by
 unfold Fine at h;rw[z5i] at h;split at h
 ·assumption
 ·rename_i h0;exact absurd h h0
theorem Fine.args {t:Tm}(h:Fine t):∀u∈t.args,Fine u:=by
 have h1:=h.node;unfold Fine at h;rw[z5i,if_pos h1] at h;exact zh1 h
theorem z1b {t:Tm}(h:nodeS t=0):1<=t.kind/\t.kind<=5/\blankB t=true/\0<=t.var/\(t.kind=5->1<=t.args.length/\t.args.length<=64)/\(t.kind=3->canonS t.num=true)/\(t.kind=4->fltS t.bits=true)/\utfS t.name=true/\t.name.size<=1000:=by
 unfold nodeS nodeE at h;split at h
 ·omega
 split at h
 ·omega
 split at h
 ·omega
 split at h
 ·omega
 split at h
 ·omega
 split at h
 ·omega
 split at h
 ·omega
 split at h
 ·omega
 rename_i h1 h2 h3 h4 h5 h6 h7 h8;refine⟨by omega,by omega,by simpa using h2,by omega,fun h=>?_,fun h=>?_,fun h=>?_,by simpa using h5,by omega⟩
 ·have:=fun q=>h4 ⟨h,q⟩;omega
 ·cases hh:canonS t.num with
  |true=>rfl
  |false=>exact absurd ⟨h,hh⟩ h7
 ·cases hh:fltS t.bits with
  |true=>rfl
  |false=>exact absurd ⟨h,hh⟩ h8
theorem zq0 {s:ByteArray}(h:isE s=true):s=Zh:=by
 unfold isE at h;have h1:s.toList=[]:=by simpa using h
 apply z6p;rw[h1];exact z1u.symm
theorem z0g {t u:Tm}(h:u∈t.args):SizeOf.sizeOf u < SizeOf.sizeOf t:=by
 obtain⟨k,s,w,b,v,l⟩:=t;exact zgz h
theorem z1h {t:Tm}(h:blankB t=true):(t.kind≠2->t.kind≠5->t.name=Zh)/\(t.kind≠3->t.num=Zh)/\(t.kind≠4->t.bits=0)/\(t.kind≠1->t.var=0)/\(t.kind≠5->t.args=[]):=by
 unfold blankB at h;simp only[Zi,Bool.or_eq_true,beq_iff_eq] at h;obtain⟨⟨⟨⟨h1,h2⟩,h3⟩,h4⟩,h5⟩:=h;refine⟨fun a b=>?_,fun a=>?_,fun a=>?_,fun a=>?_,fun a=>?_⟩
 ·rcases h1 with (h|h)|h
  ·exact absurd h a
  ·exact absurd h b
  ·exact zq0 h
 ·rcases h2 with h|h
  ·exact absurd h a
  ·exact zq0 h
 ·rcases h3 with h|h
  ·exact absurd h a
  ·exact h
 ·rcases h4 with h|h
  ·exact absurd h a
  ·exact h
 ·rcases h5 with h|h
  ·exact absurd h a
  ·exact List.length_eq_zero_iff.1 (by omega)
theorem za1 {t t':Tm}(h1:t.kind=t'.kind) (h2:t.name=t'.name) (h3:t.num=t'.num) (h4:t.bits=t'.bits) (h5:t.var=t'.var) (h6:t.args=t'.args):t=t':=by
 obtain⟨k,s,u,b,v,l⟩:=t;obtain⟨k',s',u',b',v',l'⟩:=t';simp only[Tm.kind,Tm.name,Tm.num,Tm.bits,Tm.var,Tm.args] at *;subst h1 h2 h3 h4 h5 h6;rfl
theorem z1d {t:Tm}:checkS t=0↔cnt t 0<=4000/\Fine t:=by
 unfold checkS checkE Fine;by_cases h:4000 < cnt t 0
 ·rw[if_pos h];constructor
  ·intro h;omega
  ·intro h;omega
 ·rw[if_neg h];constructor
  ·intro h';exact⟨by omega,h'⟩
  ·intro h';exact h'.2
end Go.Proofs.hq
end
