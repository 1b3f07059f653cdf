import Derived.Test.YtopekindmbjeoaaGreatDoorM2
import Derived.Lib.ValidLaws
import Derived.DataReads
import Derived.Test.YtopekindmbjeoaaGreatDoorProg
import Derived.KernelRfl
import Derived.WalkKit
/- Lemmas on the program's own code, towards the laws of this folder, part 3. Conditions: as each lemma says. -/
open Bool renaming false_eq_true → Zd
open ByteArray renaming empty → Ze
open Int renaming reduceToNat → Zv
open List renaming cons_append → ZK, drop_eq_getElem_cons → ZB, drop_of_length_le → ZM, getElem?_eq_getElem → Zc, getElem?_eq_none → Zy, getElem?_map → ZG, getElem?_take → ZF, getElem_mem → Zx, length_append → Zw, length_cons → ZE, length_map → Zq, length_take → Zl, map_append → ZD, map_map → ZI, mem_cons_of_mem → Zn, range → Zj, take_of_length_le → Zi
open Nat renaming beq → Zz, beq_eq → Zr, le_refl → Zg, le_trans → Zo, lt_of_lt_of_le → Zh, lt_succ_self → Zf, one_mul → ZL, reduceAdd → Zb, reduceEqDiff → Za, reduceLeDiff → Zk, zero_le → Zs, zero_mul → Zu
section
namespace Go.Hb
open Go Go.RowKit
section
variable {P:Program}{H:Heap}{e:TypeId}{s base b c:Nat}{L:List (List Value)}{v:Value}
theorem RepO.empty:RepO H e s base [] (.slice none 0 0):=.inl ⟨rfl,rfl⟩
theorem RepO.own (h:RepO H e s base L v) (h0:L≠[]):∃b c,OwnS H e s base L b c∧v=.slice (some ⟨b,0,none⟩) L.length c:=by
 rcases h with ⟨h1,_⟩|h
 ·exact absurd h1 h0
 ·exact h
theorem RepO.slice (h:RepO H e s base L v):∃a c,v=.slice a L.length c∧L.length≤c∧c≤maxLen:=by
 rcases h with ⟨rfl,rfl⟩|⟨b,c,h,rfl⟩
 ·exact⟨_,0,rfl,Zg _,Zs _⟩
 ·exact⟨_,c,rfl,h.len,h.cap⟩
theorem RepO.keep (h:RepO H e s base L v) {H':Heap}(hx:HX H H'):RepO H' e s base L v:=by
 rcases h with h|⟨b,c,h,hv⟩
 ·exact .inl h
 ·exact .inr ⟨b,c,h.keep hx,hv⟩
theorem RepO.before (h:RepO H e s base L v) {H':Heap}{lo:Nat}(hk:∀i,i < lo→H'.get i=H.get i) (hn:H.next≤H'.next) (hlo:∀b c,OwnS H e s base L b c→b < lo):RepO H' e s base L v:=by
 rcases h with h|⟨b,c,h,hv⟩
 ·exact .inl h
 ·exact .inr ⟨b,c,h.heap (hk b (hlo b c h)) hn,hv⟩
theorem RepO.putlo (h:RepO H e s base L v) {i:Nat}(hi:i < base) (B:Option Blk):RepO (H.put i B) e s base L v:=by
 rcases h with h|⟨b,c,h,hv⟩
 ·exact .inl h
 ·exact .inr ⟨b,c,h.heap (z30 (by have:=h.lo;omega)) (Zg _),hv⟩
theorem RepO.other (h:RepO H e s base L v) {i:Nat}{cs:List Value}{e':TypeId}(hi:H.get i=some (.row cs e')) (hne:e'≠e) (B:Option Blk):RepO (H.put i B) e s base L v:=by
 rcases h with h|⟨b,c,h,hv⟩
 ·exact .inl h
 ·refine .inr ⟨b,c,h.heap (z30 fun hb=>?_) (Zg _),hv⟩;obtain⟨cs',hg,_⟩:=h.row;rw[hb,hi] at hg;cases hg;exact hne rfl
theorem RepO.beside (h:RepO H e s base L v) {H2:Heap}{e':TypeId}(hk:∀i,i < H.next→(∀cs,H.get i≠some (.row cs e'))→H2.get i=H.get i) (hn:H.next≤H2.next) (hne:e'≠e):RepO H2 e s base L v:=by
 rcases h with h|⟨b,c,h,hv⟩
 ·exact .inl h
 ·refine .inr ⟨b,c,h.heap (hk b h.hi fun cs hcs=>?_) hn,hv⟩;obtain⟨cs',hg,_⟩:=h.row;rw[hcs] at hg;cases hg;exact hne rfl
theorem RepO.takeO (h:OwnS H e s base L b c) (m:Nat) (hm:m≤L.length):RepO H e s base (L.take m) (.slice (some ⟨b,0,Option.none⟩) m c):=by
 refine .inr ⟨b,c,h.take hm,?_⟩;rw[Zl,Nat.min_eq_left hm]
section
variable {ok:Ok}{x:Ctx}{d:Option Tmp}{tm:Tr Value}{ds:List Deferred}{H':Heap}{KK:Tr Value→List Deferred→Heap→Prop}
end
def sameK (v:Value) (G:Heap):Option Dr→Bool
 |some (.val u H')=>veq u v && Zz H'.next G.next
 |_=>false
theorem z9b {o:Oper}{ρ:Operand→Value}{hs:List Heap}:sameOn P o ρ v (H :: hs)=(sameK v H (dop P o ρ H) && sameOn P o ρ v hs):=by
 rw[sameOn];unfold sameK;cases dop P o ρ H with
 |none=>rfl
 |some r=>cases r<;>rfl
theorem zdo {u:Value}{H':Heap}:sameK v H (some (.val u H'))=(veq u v && Zz H'.next H.next):=_root_.id rfl
theorem zdp {H:Heap}{n k:Nat}{a:Addr}:Heap.load ⟨n,H.t⟩ a k=H.load a k:=_root_.id rfl
theorem zc6 {H:Heap}{n i:Nat}:Heap.get ⟨n,H.t⟩ i=H.get i:=_root_.id rfl
theorem RepO.takeR {a:Option Addr}{n c' m:Nat}(h:RepO H e s base L (.slice a n c')) (hm:m≤L.length):RepO H e s base (L.take m) (.slice a m c'):=by
 rcases h with ⟨rfl,hv⟩|⟨b,c,h,hv⟩
 ·cases hv;have:m=0:=by simpa using hm
  subst this;exact .inl ⟨by simp,rfl⟩
 ·cases hv;exact RepO.takeO h m hm
theorem RepO.low (h:RepO H e s base L v) {base':Nat}(hb:base'≤base):RepO H e s base' L v:=by
 rcases h with h|⟨b,c,h,hv⟩
 ·exact .inl h
 ·exact .inr ⟨b,c,⟨Zo hb h.lo,h.hi,h.row,h.len,h.cap,h.sz,h.all⟩,hv⟩
theorem RepO.rds {vs:List Value}(h:RepO H e 1 base (vs.map fun v=>[v]) v):∃a c,v=.slice a vs.length c∧RdS H vs a c:=by
 rcases h with ⟨h1,rfl⟩|⟨b,c,h,rfl⟩
 ·have:vs=[]:=by simpa using h1
  subst this;exact⟨_,0,rfl,RdS.nil⟩
 ·exact⟨_,c,by simp,h.rds⟩
theorem RepO.rds' {vs:List Value}{a:Option Addr}{n c:Nat}(h:RepO H e 1 base (vs.map fun v=>[v]) (.slice a n c)):n=vs.length∧RdS H vs a c:=by
 obtain⟨a',c',hv,hr⟩:=h.rds;cases hv;exact⟨rfl,hr⟩
theorem RepO.push {t:TypeId}(h:RepO H e s base L v) (hp:apOk P t e s) {y:List Value}(hy:y.length=s) (ha:y.all one=true) (hn:L.length+1≤most) (hb:base≤H.next) :
  ∃H2 v2,dAp P #[t,t] v (.slice (some ⟨H.next,0,Option.none⟩) 1 1) (H.new (some (.row y e)))=some (.val v2 H2)∧RepO H2 e s base (L++[y]) v2∧H2.next=H.next+2∧(∀A,HX A H→A.next≤base→HX A H2)∧(∀i,i < H.next→(∀cs,H.get i≠some (.row cs e))→H2.get i=H.get i):=by
 have hs0:0 < s:=by obtain⟨i,_,_,_,_,h0,_⟩:=hp;exact h0
 have hmax:most≤maxLen:=by simp [most,maxLen]
 have hl:(H.new (some (.row y e))).load ⟨H.next,0,Option.none⟩ (1*s)=some y:=by
  rw[z3h,ZL];unfold cutC;simp [←hy]
 rcases h with ⟨rfl,rfl⟩|⟨b,c,h,rfl⟩
 ·refine⟨_,_,z4r hp (by omega) (by simp [most]) hl ha,.inr ⟨_,1,OwnS.first hy ha (Nat.le_succ_of_le hb),rfl⟩,rfl,fun A hx _=>(hx.new _).new _,fun i hi _=>by rw[z1s (Nat.lt_succ_of_lt hi),z1s hi]⟩
 ·obtain⟨cs,hg,hle,ht⟩:=h.row;have hbn:b < H.next:=h.hi;have h1:OwnS (H.new (some (.row y e))) e s base L b c:=h.heap (by rw[z1s hbn]) (Nat.le_succ _);have hg1:(H.new (some (.row y e))).get b=some (.row cs e):=by rw[z1s hbn];exact hg
  have hone:(cs.take (L.length*s)).all one=true:=by
   rw[ht,List.all_eq_true];intro z hz;obtain⟨l,hl1,hl2⟩:=List.mem_flatten.1 hz;exact List.all_eq_true.1 (h.all l hl1) z hl2
  refine⟨_,_,z4c hp (by omega) hn hl ha hg1 hle hone,.inr ⟨_,_,h1.push hg1 hy ha (Zo hn hmax) (Nat.le_succ_of_le hb),by simp⟩,rfl,fun A hx hA=>?_,fun i hi hne=>?_⟩;rotate_left
  ·have hib:i≠b:=fun h=>hne cs (h ▸ hg)
   rw[z1s (by rw[z06];exact Nat.lt_succ_of_lt hi),z30 hib,z1s hi]
  have hx1:=hx.new (some (.row y e));have hx2:=hx1.put (i:=b) (by have:=h.lo;omega) (Nat.lt_succ_of_lt hbn) Option.none;exact hx2.new _
end
theorem z9c (b:ByteArray):∀(k i:Nat) (r:List UInt8),b.size - i=k→ByteArray.toList.loop b i r=r.reverse++b.data.toList.drop i
 |0,i,r,h=>by
  rw[ByteArray.toList.loop,if_neg (by omega),ZM (by simp;omega),List.append_nil]
 |k+1,i,r,h=>by
  have hi:i < b.data.toList.length:=by simp;omega
  rw[ByteArray.toList.loop,if_pos (by omega),z9c b k (i+1) _ (by omega),List.reverse_cons,List.append_assoc,ZB hi];congr 1;have hi':i < b.data.size:=by simpa using hi
  have:b.get! i=b.data.toList[i]:=by
   unfold ByteArray.get!;simp;rw[getElem!_pos b.data i hi']
  rw[this];rfl
theorem z1t (b:ByteArray):b.toList=b.data.toList:=by
 unfold ByteArray.toList;rw[z9c b _ 0 [] rfl];rfl
theorem z8d {P:Program}{H:Heap}{t:TypeId}{x y:Operand}{a:ByteArray}:dBin P .eql t x y (.string a) (.string ⟨#[]⟩) H=some (.val (.bool (decide (a.size=0))) H):=by
 rw[z2e,z1t,z1t];congr 3;by_cases h:a.size=0
 ·have:a.data.toList=[]:=List.length_eq_zero_iff.1 (by simpa using h);rw[this,decide_eq_true h];rfl
 ·rw[decide_eq_false h];cases hd:a.data.toList with
  |nil=>exact absurd (by have:=congrArg List.length hd;simpa using this) h
  |cons b l=>rfl
theorem z13 {P:Program}{H:Heap}{t:TypeId}{x y:Operand}{a b:ByteArray}:dBin P .eql t x y (.string a) (.string b) H=some (.val (.bool (a.data.toList == b.data.toList)) H):=by
 rw[z2e,z1t,z1t]
end Go.Hb
end

section
namespace Go.Hb
open Go Go.RowKit
section
variable (P:Program) (ok:Ok) (x:Ctx) (ops:Array Oper) (base:Nat)
def STK (e:Option Nat) (S:List (List (Nat × Nat) × Option Nat)) (G:Heap) (gs:List Heap) (ds:List Deferred) (K:Tr Value→List Deferred→Heap→Prop) (tm:Tr Value) (H:Heap):Prop :=
 match e with
 |none=>K tm ds H
 |some e=>ES1 P ok x ops tm ds H (fun tm ds H=>ES P ok x ops base S H (G :: gs) tm ds K) ops.toList[e]?
def STG (L:List (Nat × Nat)) (e:Option Nat) (S:List (List (Nat × Nat) × Option Nat)) (G:Heap) (gs:List Heap) (ds:List Deferred) (K:Tr Value→List Deferred→Heap→Prop) (tm:Tr Value) (H:Heap):Prop:=EN P ops base G gs L tm H (STK P ok x ops base e S G gs ds K)
def SGO (i k:Nat) (L:List (Nat × Nat)) (e:Option Nat) (S:List (List (Nat × Nat) × Option Nat)) (G:Heap) (gs:List Heap) (ds:List Deferred) (K:Tr Value→List Deferred→Heap→Prop) (o:Oper) (tm:Tr Value) (H:Heap) (al:Bool):Prop :=
 match al with
 |true=>AK base i tm H (fun tm H=>STG P ok x ops base L e S G gs ds K tm H) o.dst (dalloc P o (ev tm))
 |false=>NK P k o tm gs (fun tm=>STG P ok x ops base L e S G gs ds K tm H) o.dst G.next (dop P o (ev tm) G)
def SAL (i:Nat) (L:List (Nat × Nat)) (e:Option Nat) (S:List (List (Nat × Nat) × Option Nat)) (G:Heap) (gs:List Heap) (ds:List Deferred) (K:Tr Value→List Deferred→Heap→Prop) (d:Option Tmp) (tm:Tr Value) (H:Heap) (r:Option (Blk × (Nat→Value))):Prop:=AK base i tm H (fun tm H=>STG P ok x ops base L e S G gs ds K tm H) d r
def SRD (k:Nat) (L:List (Nat × Nat)) (e:Option Nat) (S:List (List (Nat × Nat) × Option Nat)) (G:Heap) (gs:List Heap) (ds:List Deferred) (K:Tr Value→List Deferred→Heap→Prop) (o:Oper) (tm:Tr Value) (H:Heap) (r:Option Dr):Prop:=NK P k o tm gs (fun tm=>STG P ok x ops base L e S G gs ds K tm H) o.dst G.next r
def SOP (i k:Nat) (L:List (Nat × Nat)) (e:Option Nat) (S:List (List (Nat × Nat) × Option Nat)) (G:Heap) (gs:List Heap) (ds:List Deferred) (K:Tr Value→List Deferred→Heap→Prop) (tm:Tr Value) (H:Heap) (o:Option Oper):Prop:=EN1 P ops base G gs i k tm H (fun tm H=>STG P ok x ops base L e S G gs ds K tm H) o
def SGD (i k:Nat) (L:List (Nat × Nat)) (e:Option Nat) (S:List (List (Nat × Nat) × Option Nat)) (G:Heap) (gs:List Heap) (ds:List Deferred) (K:Tr Value→List Deferred→Heap→Prop) (o:Oper) (tm:Tr Value) (H:Heap) (w:Bool) (g:Option Value):Prop:=GK o.dst tm (SGO P ok x ops base i k L e S G gs ds K o tm H (isAlloc o)) (STG P ok x ops base L e S G gs ds K (putD tm o.dst undef) H) w g
def SLK (S:List (List (Nat × Nat) × Option Nat)) (G:Heap) (gs:List Heap) (ds:List Deferred) (K:Tr Value→List Deferred→Heap→Prop) (d:Option Tmp) (tm:Tr Value) (H:Heap) (r:Option Dr):Prop :=
 LK P ok x d tm ds H (fun tm ds H=>ES P ok x ops base S H (G :: gs) tm ds K) r
def SEF (S:List (List (Nat × Nat) × Option Nat)) (G:Heap) (gs:List Heap) (ds:List Deferred) (K:Tr Value→List Deferred→Heap→Prop) (tm:Tr Value) (H:Heap) (o:Option Oper):Prop :=
 ES1 P ok x ops tm ds H (fun tm ds H=>ES P ok x ops base S H (G :: gs) tm ds K) o
def SEG (S:List (List (Nat × Nat) × Option Nat)) (G:Heap) (gs:List Heap) (ds:List Deferred) (K:Tr Value→List Deferred→Heap→Prop) (o:Oper) (tm:Tr Value) (H:Heap) (w:Bool) (g:Option Value):Prop :=
 GK o.dst tm (SLK P ok x ops base S G gs ds K o.dst tm H (dop P o (ev tm) H)) (ES P ok x ops base S H (G :: gs) (putD tm o.dst undef) ds K) w g
def SCK (S:List (List (Nat × Nat) × Option Nat)) (G:Heap) (gs:List Heap) (ds:List Deferred) (K:Tr Value→List Deferred→Heap→Prop) (d:Option Tmp) (tm:Tr Value) (v:Value) (H':Heap):Prop :=
 ES P ok x ops base S H' (G :: gs) (putD tm d v) ds K
end
section
variable {P:Program}{ok:Ok}{x:Ctx}{ops:Array Oper}{base i k n j:Nat}{L:List (Nat × Nat)}{e:Option Nat}{S:List (List (Nat × Nat) × Option Nat)}{G H H' G':Heap}{gs:List Heap}{ds:List Deferred}{K:Tr Value→List Deferred→Heap→Prop}{tm:Tr Value}{w b:Bool}{v:Value}
 {d:Option Tmp}{op:Op}{ty:TypeId}{pos:String}{af:Array Edge}{gd:Option (Nat × Bool)}{o:Oper}
theorem zki:ES P ok x ops base ((L,none) :: S) G gs tm ds K=STG P ok x ops base L none S G gs ds K tm G:=_root_.id rfl
theorem zkj:ES P ok x ops base ((L,some n) :: S) G gs tm ds K=STG P ok x ops base L (some n) S G gs ds K tm G:=_root_.id rfl
theorem zp9:STG P ok x ops base ((i,k) :: L) e S G gs ds K tm H=SOP P ok x ops base i k L e S G gs ds K tm H ops.toList[i]?:=_root_.id rfl
theorem zkk:STG P ok x ops base [] (some n) S G gs ds K tm H=SEF P ok x ops base S G gs ds K tm H ops.toList[n]?:=_root_.id rfl
theorem zkl:STG P ok x ops base [] none S G gs ds K tm H=K tm ds H:=_root_.id rfl
theorem zh9:SOP P ok x ops base i k L e S G gs ds K tm H (some ⟨d,op,ty,pos,af,none⟩)=SGO P ok x ops base i k L e S G gs ds K ⟨d,op,ty,pos,af,none⟩ tm H (isAlloc ⟨d,op,ty,pos,af,none⟩):=by
 simp only[SOP,EN1,SGO]<;>rfl
theorem zdq:SOP P ok x ops base i k L e S G gs ds K tm H (some ⟨d,op,ty,pos,af,some (j,w)⟩)=SGD P ok x ops base i k L e S G gs ds K ⟨d,op,ty,pos,af,some (j,w)⟩ tm H w (guardOf ops tm j):=by
 simp only[SOP,EN1,SGD,SGO]<;>rfl
theorem zpa:SGD P ok x ops base i k L e S G gs ds K o tm H true (some (.bool true))=SGO P ok x ops base i k L e S G gs ds K o tm H (isAlloc o):=by simp [SGD,GK]
theorem zpb:SGD P ok x ops base i k L e S G gs ds K o tm H false (some (.bool false))=SGO P ok x ops base i k L e S G gs ds K o tm H (isAlloc o):=by simp [SGD,GK]
theorem zpc:SGD P ok x ops base i k L e S G gs ds K o tm H true (some (.bool false))=STG P ok x ops base L e S G gs ds K (putD tm o.dst undef) H:=by simp [SGD,GK]
theorem zpd:SGD P ok x ops base i k L e S G gs ds K o tm H false (some (.bool true))=STG P ok x ops base L e S G gs ds K (putD tm o.dst undef) H:=by simp [SGD,GK]
theorem zdr:SGD P ok x ops base i k L e S G gs ds K o tm H w (some undef)=STG P ok x ops base L e S G gs ds K (putD tm o.dst undef) H:=_root_.id rfl
theorem zds:SGO P ok x ops base i k L e S G gs ds K o tm H true=SAL P ok x ops base i L e S G gs ds K o.dst tm H (dalloc P o (ev tm)):=_root_.id rfl
theorem zha:SGO P ok x ops base i k L e S G gs ds K o tm H false=SRD P ok x ops base k L e S G gs ds K o tm H (dop P o (ev tm) G):=_root_.id rfl
theorem zhb {B:Blk}{mk:Nat→Value}:SAL P ok x ops base i L e S G gs ds K d tm H (some (B,mk))=STG P ok x ops base L e S G gs ds K (putD tm d (mk (base+i))) (H.put (base+i) (some B)):=_root_.id rfl
theorem zkm:SRD P ok x ops base k L e S G gs ds K ⟨d,op,ty,pos,af,gd⟩ tm H (some (.val v G'))=((isRead ⟨d,op,ty,pos,af,gd⟩=false∨(G'.next=G.next∧sameOn P ⟨d,op,ty,pos,af,gd⟩ (ev tm) v (gs.take (gs.length - k))=true))∧STG P ok x ops base L e S G gs ds K (putD tm d v) H):=_root_.id rfl
theorem zhc:SEF P ok x ops base S G gs ds K tm H (some ⟨d,op,ty,pos,af,none⟩)=SLK P ok x ops base S G gs ds K d tm H (dop P ⟨d,op,ty,pos,af,none⟩ (ev tm) H):=_root_.id rfl
theorem zdt:SEF P ok x ops base S G gs ds K tm H (some ⟨d,op,ty,pos,af,some (j,w)⟩)=SEG P ok x ops base S G gs ds K ⟨d,op,ty,pos,af,some (j,w)⟩ tm H w (guardOf ops tm j):=_root_.id rfl
theorem zpe:SEG P ok x ops base S G gs ds K ⟨d,op,ty,pos,af,gd⟩ tm H true (some (.bool true))=SLK P ok x ops base S G gs ds K d tm H (dop P ⟨d,op,ty,pos,af,gd⟩ (ev tm) H):=by simp [SEG,GK]
theorem zpf:SEG P ok x ops base S G gs ds K ⟨d,op,ty,pos,af,gd⟩ tm H false (some (.bool false))=SLK P ok x ops base S G gs ds K d tm H (dop P ⟨d,op,ty,pos,af,gd⟩ (ev tm) H):=by simp [SEG,GK]
theorem zpg:SEG P ok x ops base S G gs ds K o tm H true (some (.bool false))=ES P ok x ops base S H (G :: gs) (putD tm o.dst undef) ds K:=by simp [SEG,GK]
theorem zph:SEG P ok x ops base S G gs ds K o tm H false (some (.bool true))=ES P ok x ops base S H (G :: gs) (putD tm o.dst undef) ds K:=by simp [SEG,GK]
theorem zdu:SEG P ok x ops base S G gs ds K o tm H w (some undef)=ES P ok x ops base S H (G :: gs) (putD tm o.dst undef) ds K:=_root_.id rfl
theorem zkn:SLK P ok x ops base S G gs ds K d tm H (some (.val v H'))=ES P ok x ops base S H' (G :: gs) (putD tm d v) ds K:=_root_.id rfl
theorem zhd {f:FuncId}{args:List Value}:SLK P ok x ops base S G gs ds K d tm H (some (.call f args))=EvF P ok f args H (SCK P ok x ops base S G gs ds K d tm):=_root_.id rfl
theorem z0h (h:ES P ok x ops base S H' (G :: gs) (putD tm d v) ds K):SCK P ok x ops base S G gs ds K d tm v H':=h
theorem zsb {r:Option Dr}(h:SLK P ok x ops base S G gs ds K d tm H r):SLK P ok x ops base S G gs ds K d tm H r:=h
end
end Go.Hb
end

section
namespace Go.Hb
open Go Go.RowKit
theorem zhe {k:IntKind}{n:Int}:veq (.int k n) (.int k n)=true:=by simp [veq]
theorem zpi {s:ByteArray}:veq (.string s) (.string s)=true:=by simp [veq]
theorem zko {b:Bool}:veq (.bool b) (.bool b)=true:=by simp [veq]
theorem zhf {k:FloatKind}{n:Nat}:veq (.float k n) (.float k n)=true:=by simp [veq]
theorem zpj {a:Option Addr}:veq (.pointer a) (.pointer a)=true:=by simp [veq]
theorem zpk {a:Option Nat}:veq (.map a) (.map a)=true:=by simp [veq]
theorem zhg {a:Option Addr}{n c:Nat}:veq (.slice a n c) (.slice a n c)=true:=by simp [veq]
theorem zpl {a b:List Value}:veq (.agg ⟨a⟩) (.agg ⟨b⟩)=veqL a b:=by simp [veq]
theorem zhh {a b:List Value}:veq (.tuple ⟨a⟩) (.tuple ⟨b⟩)=veqL a b:=by simp [veq]
theorem zkp {x y:Value}{a b:List Value}:veqL (x :: a) (y :: b)=(veq x y && veqL a b):=by simp [veqL]
theorem zpm:veqL [] []=true:=by simp [veqL]
end Go.Hb
end

section
namespace Go.Hb
open Go Go.RowKit
theorem sA:type_of% (And.intro (And.intro (And.intro (And.intro (And.intro (And.intro (@zkc) (And.intro (@zp2) (@zgl))) (And.intro (@zp3) (And.intro (@zkd) (@zgm)))) (And.intro (And.intro (@zs7) (And.intro (@zs8) (@zs9))) (And.intro (And.intro (@zsa) (@zgn)) (And.intro (@zkf) (@z5d))))) (And.intro (And.intro (And.intro (@zgo) (And.intro (@zgp) (@zaj))) (And.intro (And.intro (@zgq) (@zdf)) (And.intro (@zdg) (@z6l)))) (And.intro (And.intro (@z6m) (And.intro (@zke) (@zgr))) (And.intro (And.intro (@zgs) (@zgv)) (And.intro (@zdh) (@zgi)))))) (And.intro (And.intro (And.intro (And.intro (@zp1) (And.intro (@zkb) (@zde))) (And.intro (@Tr.get_put) (And.intro (@zgj) (@zgk)))) (And.intro (And.intro (@Option.getD_some.{0}) (And.intro (@Nat.add_zero) (@Nat.zero_add))) (And.intro (And.intro (@List.all_cons.{0}) (@List.all_nil.{0})) (And.intro (@Bool.and_self) (@zc2))))) (And.intro (And.intro (And.intro (@zgt) (And.intro (@zgu) (@z06))) (And.intro (And.intro (@get_new) (@get_put)) (And.intro (@z8z) (@z90)))) (And.intro (And.intro (@List.drop_succ_cons.{0}) (And.intro (@List.drop_zero.{0}) (@List.take_succ_cons.{0}))) (And.intro (And.intro (@List.take_zero.{0}) (@List.length_cons.{0})) (And.intro (@List.length_nil.{0}) (@Nat.beq_refl))))))) (And.intro (And.intro (And.intro (And.intro (And.intro (@List.map_cons.{0,0}) (And.intro (@List.map_nil.{0,0}) (@z49))) (And.intro (@z91) (And.intro (@z4b) (@z92)))) (And.intro (And.intro (@List.cons_append.{0}) (And.intro (@List.nil_append.{0}) (@List.append_nil.{0}))) (And.intro (And.intro (@Zg) (@and_self)) (And.intro (@and_true) (@true_and))))) (And.intro (And.intro (And.intro (@List.drop_nil.{0}) (And.intro (@z00) (@z2b))) (And.intro (And.intro (@z01) (@z38)) (And.intro (@z04) (@z02)))) (And.intro (And.intro (@zai) (And.intro (@z6k) (@List.getElem?_cons_succ.{0}))) (And.intro (And.intro (@List.getElem?_cons_zero.{0}) (@zgw)) (And.intro (@zgx) (@zgy)))))) (And.intro (And.intro (And.intro (And.intro (@zgz) (And.intro (@zh0) (@zh1))) (And.intro (And.intro (@zp4) (@zp5)) (And.intro (@z93) (@zp6)))) (And.intro (And.intro (@zp7) (And.intro (@zp8) (@zkg))) (And.intro (And.intro (@zdi) (@zh3)) (And.intro (@z5q) (@zh4))))) (And.intro (And.intro (And.intro (@zdj) (And.intro (@zao) (@z6o))) (And.intro (And.intro (@z80) (@zdl)) (And.intro (@z98) (@zh6)))) (And.intro (And.intro (@zam) (And.intro (@Option.map_some.{0,0}) (@Option.map_none.{0,0}))) (And.intro (And.intro (@List.getElem?_nil.{0}) (@Option.some.injEq.{0})) (And.intro (@Nat.mul_one) (@Int.toNat_natCast)))))))):=And.intro (And.intro (And.intro (And.intro (And.intro (And.intro (@zkc) (And.intro (@zp2) (@zgl))) (And.intro (@zp3) (And.intro (@zkd) (@zgm)))) (And.intro (And.intro (@zs7) (And.intro (@zs8) (@zs9))) (And.intro (And.intro (@zsa) (@zgn)) (And.intro (@zkf) (@z5d))))) (And.intro (And.intro (And.intro (@zgo) (And.intro (@zgp) (@zaj))) (And.intro (And.intro (@zgq) (@zdf)) (And.intro (@zdg) (@z6l)))) (And.intro (And.intro (@z6m) (And.intro (@zke) (@zgr))) (And.intro (And.intro (@zgs) (@zgv)) (And.intro (@zdh) (@zgi)))))) (And.intro (And.intro (And.intro (And.intro (@zp1) (And.intro (@zkb) (@zde))) (And.intro (@Tr.get_put) (And.intro (@zgj) (@zgk)))) (And.intro (And.intro (@Option.getD_some.{0}) (And.intro (@Nat.add_zero) (@Nat.zero_add))) (And.intro (And.intro (@List.all_cons.{0}) (@List.all_nil.{0})) (And.intro (@Bool.and_self) (@zc2))))) (And.intro (And.intro (And.intro (@zgt) (And.intro (@zgu) (@z06))) (And.intro (And.intro (@get_new) (@get_put)) (And.intro (@z8z) (@z90)))) (And.intro (And.intro (@List.drop_succ_cons.{0}) (And.intro (@List.drop_zero.{0}) (@List.take_succ_cons.{0}))) (And.intro (And.intro (@List.take_zero.{0}) (@List.length_cons.{0})) (And.intro (@List.length_nil.{0}) (@Nat.beq_refl))))))) (And.intro (And.intro (And.intro (And.intro (And.intro (@List.map_cons.{0,0}) (And.intro (@List.map_nil.{0,0}) (@z49))) (And.intro (@z91) (And.intro (@z4b) (@z92)))) (And.intro (And.intro (@List.cons_append.{0}) (And.intro (@List.nil_append.{0}) (@List.append_nil.{0}))) (And.intro (And.intro (@Zg) (@and_self)) (And.intro (@and_true) (@true_and))))) (And.intro (And.intro (And.intro (@List.drop_nil.{0}) (And.intro (@z00) (@z2b))) (And.intro (And.intro (@z01) (@z38)) (And.intro (@z04) (@z02)))) (And.intro (And.intro (@zai) (And.intro (@z6k) (@List.getElem?_cons_succ.{0}))) (And.intro (And.intro (@List.getElem?_cons_zero.{0}) (@zgw)) (And.intro (@zgx) (@zgy)))))) (And.intro (And.intro (And.intro (And.intro (@zgz) (And.intro (@zh0) (@zh1))) (And.intro (And.intro (@zp4) (@zp5)) (And.intro (@z93) (@zp6)))) (And.intro (And.intro (@zp7) (And.intro (@zp8) (@zkg))) (And.intro (And.intro (@zdi) (@zh3)) (And.intro (@z5q) (@zh4))))) (And.intro (And.intro (And.intro (@zdj) (And.intro (@zao) (@z6o))) (And.intro (And.intro (@z80) (@zdl)) (And.intro (@z98) (@zh6)))) (And.intro (And.intro (@zam) (And.intro (@Option.map_some.{0,0}) (@Option.map_none.{0,0}))) (And.intro (And.intro (@List.getElem?_nil.{0}) (@Option.some.injEq.{0})) (And.intro (@Nat.mul_one) (@Int.toNat_natCast)))))))
theorem sD:type_of% (And.intro (And.intro (And.intro (And.intro (And.intro (@zki) (@zkj)) (And.intro (@zp9) (@zkk))) (And.intro (And.intro (@zkl) (@zh9)) (And.intro (@zdq) (And.intro (@zpa) (@zpb))))) (And.intro (And.intro (And.intro (@zpc) (@zpd)) (And.intro (@zdr) (@zds))) (And.intro (And.intro (@zha) (@zhb)) (And.intro (@zkm) (And.intro (@zhc) (@zdt)))))) (And.intro (And.intro (And.intro (And.intro (@zpe) (@zpf)) (And.intro (@zpg) (@zph))) (And.intro (And.intro (@zdu) (@zkn)) (And.intro (@zhd) (And.intro (@true_or) (@or_true))))) (And.intro (And.intro (And.intro (@false_or) (@zal)) (And.intro (@Nat.sub_self) (@Nat.sub_zero))) (And.intro (And.intro (@zdp) (@zc6)) (And.intro (@List.size_toArray.{0}) (And.intro (@z9b) (@zdo))))))):=And.intro (And.intro (And.intro (And.intro (And.intro (@zki) (@zkj)) (And.intro (@zp9) (@zkk))) (And.intro (And.intro (@zkl) (@zh9)) (And.intro (@zdq) (And.intro (@zpa) (@zpb))))) (And.intro (And.intro (And.intro (@zpc) (@zpd)) (And.intro (@zdr) (@zds))) (And.intro (And.intro (@zha) (@zhb)) (And.intro (@zkm) (And.intro (@zhc) (@zdt)))))) (And.intro (And.intro (And.intro (And.intro (@zpe) (@zpf)) (And.intro (@zpg) (@zph))) (And.intro (And.intro (@zdu) (@zkn)) (And.intro (@zhd) (And.intro (@true_or) (@or_true))))) (And.intro (And.intro (And.intro (@false_or) (@zal)) (And.intro (@Nat.sub_self) (@Nat.sub_zero))) (And.intro (And.intro (@zdp) (@zc6)) (And.intro (@List.size_toArray.{0}) (And.intro (@z9b) (@zdo))))))
theorem sV:type_of% (And.intro (And.intro (And.intro (@zhe) (@zpi)) (And.intro (@zko) (And.intro (@zhf) (@zpj)))) (And.intro (And.intro (@zpk) (And.intro (@zhg) (@zpl))) (And.intro (@zhh) (And.intro (@zkp) (@zpm))))):=And.intro (And.intro (And.intro (@zhe) (@zpi)) (And.intro (@zko) (And.intro (@zhf) (@zpj)))) (And.intro (And.intro (@zpk) (And.intro (@zhg) (@zpl))) (And.intro (@zhh) (And.intro (@zkp) (@zpm))))
theorem sB:type_of% (And.intro (@sA) (And.intro (@if_true.{1}) (@if_false.{1}))):=And.intro (@sA) (And.intro (@if_true.{1}) (@if_false.{1}))
theorem sG:type_of% (And.intro (@Tr.get_put) (And.intro (@if_true.{1}) (@if_false.{1}))):=And.intro (@Tr.get_put) (And.intro (@if_true.{1}) (@if_false.{1}))
end Go.Hb
end

section
namespace Go.Hb
open Go Go.RowKit
abbrev six (t:Tm) (a:Option Addr) (c:Nat):List Value:=[.int .i64 t.kind,.string t.name,.string t.num,.int .u64 t.bits,.int .i64 t.var,.slice a t.args.length c]
theorem row6 {H:Heap}{p:Nat}{T:TypeId}{x0 x1 x2 x3 x4 x5:Value}(h:H.get p=some (Blk.row [x0,x1,x2,x3,x4,x5] T)) :
  H.load ⟨p,0,none⟩ 1=some [x0]∧H.load ⟨p,1,none⟩ 1=some [x1]∧H.load ⟨p,2,none⟩ 1=some [x2]∧H.load ⟨p,3,none⟩ 1=some [x3]∧H.load ⟨p,4,none⟩ 1=some [x4]∧H.load ⟨p,5,none⟩ 1=some [x5] ∧
  H.load ⟨p,0,none⟩ 6=some [x0,x1,x2,x3,x4,x5]:=by
 refine⟨?_,?_,?_,?_,?_,?_,?_⟩<;>simp only[Heap.load,Heap.cells,h]<;>rfl
theorem new1 {H:Heap}(hw:H.wf) (A:Blk):∃H2,H.new (some A)=H2∧HX H H2∧H2.get H.next=some A∧H2.next=H.next+1∧H2.wf:=by
 have hx:=(HX.refl hw).new (some A);exact⟨_,rfl,hx,z0o,rfl,hx.wf⟩
theorem new2 {H:Heap}(hw:H.wf) (A B:Blk):∃H2,(H.new (some A)).new (some B)=H2∧HX H H2∧H2.get H.next=some A∧H2.get (H.next+1)=some B∧H2.next=H.next+2∧H2.wf:=by
 have hx:=((HX.refl hw).new (some A)).new (some B);refine⟨_,rfl,hx,?_,?_,rfl,hx.wf⟩
 ·rw[get_new,if_neg (by show H.next≠H.next+1;omega),get_new,if_pos rfl]
 ·rw[get_new];exact if_pos rfl
theorem HX.get {H H':Heap}(h:HX H H') (hw:H.wf) {p:Nat}{B:Blk}(hp:H.get p=some B):H'.get p=some B:=by
 rw[h.keep p (hw p B hp)];exact hp
theorem HX.lt {H H':Heap}(h:HX H H') (hw:H.wf) {p:Nat}{B:Blk}(hp:H.get p=some B):p < H'.next:=Zh (hw p B hp) h.next
theorem RepT.six {H:Heap}{t:Tm}{cs:List Value}(r:RepT H t cs):∃a c cells,cs=six t a c∧i64 t.kind∧t.name.size≤maxLen∧t.num.size≤maxLen∧u64 t.bits∧i64 t.var∧RepL H t.args a c cells:=r.inv
theorem RepL.max {H:Heap}{l:List Tm}{a:Option Addr}{c:Nat}{cells:Nat→List Value}(r:RepL H l a c cells):l.length≤9223372036854775807:=Zo r.len r.cap
theorem RepL.el {H:Heap}{l:List Tm}{a:Option Addr}{c:Nat}{cells:Nat→List Value}(r:RepL H l a c cells) {i:Nat}(h:i < l.length) :
  ∃b o a' c',a=some ⟨b,o,none⟩∧H.load ⟨b,o+i*6,none⟩ 6=some (Hb.six l[i] a' c')∧RepT H l[i] (Hb.six l[i] a' c'):=by
 obtain⟨b,o,rfl,hl,hr⟩:=r.at (Zc h);obtain⟨a',c',cells',hc,-⟩:=hr.six;rw[hc] at hl hr;exact⟨b,o,a',c',rfl,hl,hr⟩
theorem decl {i n:Nat}(h:i < n):decide ((i:Int) < (n:Int))=true:=decide_eq_true (by omega)
theorem decn {i n:Nat}(h:¬i < n):decide ((i:Int) < (n:Int))=false:=decide_eq_false (by omega)
end Go.Hb
end

section
namespace Go.Hb
open Go Go.RowKit
theorem RepT.len {H:Heap}{t:Tm}{cs:List Value}(r:RepT H t cs):cs.length=6:=by obtain⟨a,c,cells,rfl,-⟩:=r.six;rfl
theorem RepL.of_row {H:Heap}{l:List Tm}{css:Nat→List Value}{b c:Nat}{vs:List Value}{T:TypeId}(g:H.get b=some (.row vs T)) (hv:∀i,i < l.length→(vs.drop (i*6)).take 6=css i)
  (hr:∀i t,l[i]?=some t→RepT H t (css i)) (hl:l.length≤c) (hm:c≤maxLen):RepL H l (some ⟨b,0,none⟩) c css:=by
 refine⟨hl,hm,(fun h=>by cases h),(fun i ad hi ha=>?_),hr⟩;cases ha;refine⟨rfl,?_⟩;have hlen:=(hr i l[i] (Zc hi)).len;unfold Heap.load Heap.cells;simp only[g,Nat.zero_add,hv i hi];rw[if_pos (by rw[Zr];exact hlen)]
theorem RepL.two {H:Heap}{t t':Tm}{cs cs':List Value}{b:Nat}{T:TypeId}(r:RepT H t cs) (r':RepT H t' cs') (g:H.get b=some (.row (cs++cs') T)) :
  RepL H [t,t'] (some ⟨b,0,none⟩) 2 (fun i=>if i=0 then cs else cs'):=by
 refine RepL.of_row g (fun i hi=>?_) (fun i u hu=>?_) (Zg _) (by simp [maxLen])
 ·have h1:=r.len;have h2:=r'.len
  match i,hi with
  |0,_=>simp [h1]
  |1,_=>simp [h1,h2];exact Zi (by omega)
 ·match i,hu with
  |0,hu=>cases hu;exact r
  |1,hu=>cases hu;exact r'
end Go.Hb
end

section
namespace Go.Hb
open Go Go.RowKit
def Rg (a b:Nat):Nat→Prop:=fun n=>a≤n∧n < b
structure HK (S:Nat→Prop) (H H':Heap):Prop where
 next:H.next≤H'.next
 keep:∀i,i < H.next→¬S i→H'.get i=H.get i
 wf:H'.wf
theorem HX.hk {H H':Heap}(h:HX H H') (S:Nat→Prop):HK S H H':=⟨h.next,fun i hi _=>h.keep i hi,h.wf⟩
theorem HK.refl {S:Nat→Prop}{H:Heap}(h:H.wf):HK S H H:=(HX.refl h).hk S
theorem HK.trans {S:Nat→Prop}{A B C:Heap}(h:HK S A B) (k:HK S B C):HK S A C :=
 ⟨Zo h.next k.next,fun i hi hs=>by rw[k.keep i (Zh hi h.next) hs,h.keep i hi hs],k.wf⟩
theorem HK.sub {S S':Nat→Prop}{A B:Heap}(h:HK S A B) (hs:∀n,n < A.next→S n→S' n):HK S' A B:=⟨h.next,fun i hi hn=>h.keep i hi fun q=>hn (hs i hi q),h.wf⟩
theorem HK.put {S:Nat→Prop}{A H:Heap}(h:HK S A H) {i:Nat}(hi:S i∨A.next≤i) (hl:i < H.next) (B:Option Blk):HK S A (H.put i B):=by
 refine⟨h.next,fun j hj hs=>?_,fun j C hC=>?_⟩
 ·rw[Heap.get_put,if_neg (fun e=>by subst e;rcases hi with hi|hi;exact hs hi;omega)];exact h.keep j hj hs
 ·rw[Heap.get_put] at hC;show j < H.next;by_cases hj:j=i
  ·omega
  ·rw[if_neg hj] at hC;exact h.wf j C hC
theorem HK.new {S:Nat→Prop}{A H:Heap}(h:HK S A H) (B:Option Blk):HK S A (H.new B):=h.trans (((HX.refl h.wf).new B).hk S)
theorem HK.bump {S:Nat→Prop}{A H:Heap}(h:HK S A H) (k:Nat):HK S A ⟨H.next+k,H.t⟩:=h.trans (((HX.refl h.wf).bump k).hk S)
theorem HK.get {S:Nat→Prop}{H H':Heap}(h:HK S H H') (hw:H.wf) {p:Nat}{B:Blk}(hp:H.get p=some B) (hs:¬S p):H'.get p=some B:=by
 rw[h.keep p (hw p B hp) hs];exact hp
theorem HK.hx {S:Nat→Prop}{H H':Heap}(h:HK S H H') (hs:∀n,n < H.next→¬S n):HX H H':=⟨h.next,fun i hi=>h.keep i hi (hs i hi),h.wf⟩
theorem HX.then {S:Nat→Prop}{A B C:Heap}(h:HX A B) (k:HK S B C) (hs:∀n,n < A.next→¬S n):HX A C :=
 ⟨Zo h.next k.next,fun i hi=>by rw[k.keep i (Zh hi h.next) (hs i hi),h.keep i hi],k.wf⟩
structure Bd (t:Tm):Prop where
 kind:i64 t.kind
 name:t.name.size≤maxLen
 num:t.num.size≤maxLen
 bits:u64 t.bits
 var:i64 t.var
inductive FL (H:Heap) (T:TypeId):(Nat→Prop)→List Tm→Option Addr→Nat→Prop
 |nil (S:Nat→Prop):FL H T S [] none 0
 |row (S:Nat→Prop) (l:List Tm) (b c:Nat) (cells:List Value) (Si:Nat→Nat→Prop) (ai:Nat→Option Addr) (ci:Nat→Nat):l.length≤c→c≤maxLen→H.get b=some (.row cells T)→l.length*6≤cells.length →
   (∀(i:Nat) (u:Tm),l[i]?=some u→(cells.drop (i*6)).take 6=six u (ai i) (ci i))→(∀(i:Nat) (u:Tm),l[i]?=some u→Bd u)→S b→(∀i,i < l.length→¬Si i b)→(∀i n,i < l.length→Si i n→S n) →
   (∀i j n,i < l.length→j < l.length→Si i n→Si j n→i=j)→(∀(i:Nat) (u:Tm),l[i]?=some u→FL H T (Si i) u.args (ai i) (ci i))→FL H T S l (some ⟨b,0,none⟩) c
theorem FL.sub {H:Heap}{T:TypeId}{S S':Nat→Prop}{l:List Tm}{a:Option Addr}{c:Nat}(h:FL H T S l a c) (hs:∀n,S n→S' n):FL H T S' l a c:=by
 cases h with
 |nil=>exact .nil _
 |row _ _ b c cells Si ai ci h1 h2 h3 h4 h5 h6 h7 h8 h9 h10 h11=>exact .row S' l b c cells Si ai ci h1 h2 h3 h4 h5 h6 (hs _ h7) h8 (fun i n hi hn=>hs _ (h9 i n hi hn)) h10 h11
theorem FL.heap {H H':Heap}{T:TypeId}{S:Nat→Prop}{l:List Tm}{a:Option Addr}{c:Nat}(h:FL H T S l a c):(∀n,S n→n < H.next→H'.get n=H.get n)→H.wf→FL H' T S l a c:=by
 induction h with
 |nil=>intro _ _;exact .nil _
 |row S l b c cells Si ai ci h1 h2 h3 h4 h5 h6 h7 h8 h9 h10 h11 ih =>
  intro hk hw;exact .row S l b c cells Si ai ci h1 h2 (by rw[hk b h7 (hw b _ h3)];exact h3) h4 h5 h6 h7 h8 h9 h10 (fun i u hu=>ih i u hu (fun n hn=>hk n (h9 i n (List.getElem?_eq_some_iff.1 hu).1 hn)) hw)
theorem FL.keep {H H':Heap}{T:TypeId}{S:Nat→Prop}{l:List Tm}{a:Option Addr}{c:Nat}(h:FL H T S l a c) (hx:HX H H') (hw:H.wf):FL H' T S l a c:=h.heap (fun n _ hl=>hx.keep n hl) hw
theorem FL.beside {H H':Heap}{T:TypeId}{S S':Nat→Prop}{l:List Tm}{a:Option Addr}{c:Nat}(h:FL H T S l a c) (hx:HK S' H H') (hw:H.wf) (hd:∀n,S n→¬S' n):FL H' T S l a c:=h.heap (fun n hs hl=>hx.keep n hl (hd n hs)) hw
theorem FL.len {H:Heap}{T:TypeId}{S:Nat→Prop}{l:List Tm}{a:Option Addr}{c:Nat}(h:FL H T S l a c):l.length≤c∧c≤maxLen∧(a=none→l=[]∧c=0):=by
 cases h with
 |nil=>exact⟨Zg _,Zs _,fun _=>⟨rfl,rfl⟩⟩
 |row _ _ b c cells Si ai ci h1 h2=>exact⟨h1,h2,fun h=>by cases h⟩
theorem FL.rep {H:Heap}{T:TypeId}{S:Nat→Prop}{l:List Tm}{a:Option Addr}{c:Nat}(h:FL H T S l a c):∃cells,RepL H l a c cells:=by
 induction h with
 |nil=>exact⟨fun _=>[],Zg _,Zs _,fun _=>⟨rfl,rfl⟩,fun i ad hi=>by simp at hi,fun i t h=>by simp at h⟩
 |row S l b c cells Si ai ci h1 h2 h3 h4 h5 h6 h7 h8 h9 h10 h11 ih =>
  refine⟨fun i=>(cells.drop (i*6)).take 6,RepL.of_row h3 (fun i hi=>rfl) (fun i t ht=>?_) h1 h2⟩;show RepT H t ((cells.drop (i*6)).take 6);rw[h5 i t ht];obtain⟨cs,rl⟩:=ih i t ht;have hb:=h6 i t ht;obtain⟨k,s,u,bb,v,l'⟩:=t;exact .mk k s u bb v l' (ai i) (ci i) cs hb.kind hb.name hb.num hb.bits hb.var (Zo rl.len rl.cap) rl.len rl.cap rl.nil rl.load rl.rep
def RepF (H:Heap) (T:TypeId) (S:Nat→Prop) (t:Tm) (cs:List Value):Prop:=∃a c,cs=six t a c∧Bd t∧FL H T S t.args a c
theorem RepF.rep {H:Heap}{T:TypeId}{S:Nat→Prop}{t:Tm}{cs:List Value}(h:RepF H T S t cs):RepT H t cs:=by
 obtain⟨a,c,rfl,hb,hf⟩:=h;obtain⟨cells,rl⟩:=hf.rep;obtain⟨k,s,u,bb,v,l'⟩:=t;exact .mk k s u bb v l' a c cells hb.kind hb.name hb.num hb.bits hb.var (Zo rl.len rl.cap) rl.len rl.cap rl.nil rl.load rl.rep
theorem RepF.keep {H H':Heap}{T:TypeId}{S:Nat→Prop}{t:Tm}{cs:List Value}(h:RepF H T S t cs) (hx:HX H H') (hw:H.wf):RepF H' T S t cs:=by
 obtain⟨a,c,e,hb,hf⟩:=h;exact⟨a,c,e,hb,hf.keep hx hw⟩
theorem RepF.beside {H H':Heap}{T:TypeId}{S S':Nat→Prop}{t:Tm}{cs:List Value}(h:RepF H T S t cs) (hx:HK S' H H') (hw:H.wf) (hd:∀n,S n→¬S' n):RepF H' T S t cs:=by
 obtain⟨a,c,e,hb,hf⟩:=h;exact⟨a,c,e,hb,hf.beside hx hw hd⟩
theorem RepF.sub {H:Heap}{T:TypeId}{S S':Nat→Prop}{t:Tm}{cs:List Value}(h:RepF H T S t cs) (hs:∀n,S n→S' n):RepF H T S' t cs:=by
 obtain⟨a,c,e,hb,hf⟩:=h;exact⟨a,c,e,hb,hf.sub hs⟩
theorem RepT.bd {H:Heap}{t:Tm}{cs:List Value}(r:RepT H t cs):Bd t:=by
 obtain⟨a,c,cells,-,b1,b2,b3,b4,b5,-⟩:=r.six;exact⟨b1,b2,b3,b4,b5⟩
structure FLs (H:Heap) (T:TypeId) (S:Nat→Prop) (l:List Tm) (cells:List Value) (Si:Nat→Nat→Prop) (ai:Nat→Option Addr) (ci:Nat→Nat):Prop where
 el:∀(i:Nat) (u:Tm),l[i]?=some u→(cells.drop (i*6)).take 6=six u (ai i) (ci i)
 bd:∀(i:Nat) (u:Tm),l[i]?=some u→Bd u
 sub:∀i n,i < l.length→Si i n→S n
 one:∀i j n,i < l.length→j < l.length→Si i n→Si j n→i=j
 fl:∀(i:Nat) (u:Tm),l[i]?=some u→FL H T (Si i) u.args (ai i) (ci i)
theorem FLs.nil {H:Heap}{T:TypeId}{S:Nat→Prop}{cells:List Value}{Si:Nat→Nat→Prop}{ai:Nat→Option Addr}{ci:Nat→Nat}:FLs H T S [] cells Si ai ci :=
 ⟨fun i u h=>by simp at h,fun i u h=>by simp at h,fun i n h=>by simp at h,fun i j n h=>by simp at h,fun i u h=>by simp at h⟩
theorem FLs.snoc {H H':Heap}{T:TypeId}{S S' N:Nat→Prop}{l:List Tm}{cells cells':List Value}{Si:Nat→Nat→Prop}{ai:Nat→Option Addr}{ci:Nat→Nat}{t:Tm}{a:Option Addr}{c:Nat}
  (h:FLs H T S l cells Si ai ci) (hk:∀n,S n→n < H.next→H'.get n=H.get n) (hw:H.wf) (ht:FL H' T N t.args a c) (hb:Bd t) (hN:∀n,N n→¬S n) (hS:∀n,S n→S' n) (hNS:∀n,N n→S' n)
  (hc:∀i,i < l.length→(cells'.drop (i*6)).take 6=(cells.drop (i*6)).take 6) (hn:(cells'.drop (l.length*6)).take 6=six t a c) :
  FLs H' T S' (l++[t]) cells' (fun i=>if i < l.length then Si i else N) (fun i=>if i < l.length then ai i else a) (fun i=>if i < l.length then ci i else c):=by
 have key:∀(i:Nat) (u:Tm),(l++[t])[i]?=some u→(i < l.length∧l[i]?=some u)∨(i=l.length∧u=t):=fun i u hu=>by
  by_cases hi:i < l.length
  ·rw[List.getElem?_append_left hi] at hu;exact .inl ⟨hi,hu⟩
  ·rw[List.getElem?_append_right (by omega)] at hu;have:i - l.length=0:=by
    have:=(List.getElem?_eq_some_iff.1 hu).1;simp at this;omega
   rw[this] at hu;simp at hu;exact .inr ⟨by omega,hu.symm⟩
 refine⟨fun i u hu=>?_,fun i u hu=>?_,fun i n hi hn=>?_,fun i j n hi hj hn hm=>?_,fun i u hu=>?_⟩
 ·rcases key i u hu with ⟨hi,hu⟩|⟨rfl,rfl⟩
  ·simp only[hi,if_true];rw[hc i hi];exact h.el i u hu
  ·simp only[Nat.lt_irrefl,if_false];exact hn
 ·rcases key i u hu with ⟨hi,hu⟩|⟨rfl,rfl⟩
  ·exact h.bd i u hu
  ·exact hb
 ·by_cases h1:i < l.length
  ·simp only[h1,if_true] at hn;exact hS n (h.sub i n h1 hn)
  ·simp only[h1,if_false] at hn;exact hNS n hn
 ·simp only[Zw,List.length_singleton] at hi hj;by_cases h1:i < l.length<;>by_cases h2:j < l.length
  ·simp only[h1,h2,if_true] at hn hm;exact h.one i j n h1 h2 hn hm
  ·simp only[h1,if_true] at hn;simp only[h2,if_false] at hm;exact absurd (h.sub i n h1 hn) (hN n hm)
  ·simp only[h2,if_true] at hm;simp only[h1,if_false] at hn;exact absurd (h.sub j n h2 hm) (hN n hn)
  ·omega
 ·rcases key i u hu with ⟨hi,hu⟩|⟨rfl,rfl⟩
  ·simp only[hi,if_true];exact(h.fl i u hu).heap (fun n hn hl=>hk n (h.sub i n hi hn) hl) hw
  ·simp only[Nat.lt_irrefl,if_false];exact ht
theorem FLs.heap {H H':Heap}{T:TypeId}{S:Nat→Prop}{l:List Tm}{cells:List Value}{Si:Nat→Nat→Prop}{ai:Nat→Option Addr}{ci:Nat→Nat}(h:FLs H T S l cells Si ai ci)
  (hk:∀n,S n→n < H.next→H'.get n=H.get n) (hw:H.wf):FLs H' T S l cells Si ai ci :=
 ⟨h.el,h.bd,h.sub,h.one,fun i u hu=>(h.fl i u hu).heap (fun n hn hl=>hk n (h.sub i n (List.getElem?_eq_some_iff.1 hu).1 hn) hl) hw⟩
theorem FLs.row {H:Heap}{T:TypeId}{S S':Nat→Prop}{l:List Tm}{cells:List Value}{Si:Nat→Nat→Prop}{ai:Nat→Option Addr}{ci:Nat→Nat}{b c:Nat}(h:FLs H T S l cells Si ai ci)
  (hl:l.length≤c) (hc:c≤maxLen) (hg:H.get b=some (.row cells T)) (hn:l.length*6≤cells.length) (hb:S' b) (hnb:¬S b) (hS:∀n,S n→S' n):FL H T S' l (some ⟨b,0,none⟩) c :=
 .row S' l b c cells Si ai ci hl hc hg hn h.el h.bd hb (fun i hi hs=>hnb (h.sub i b hi hs)) (fun i n hi hs=>hS n (h.sub i n hi hs)) h.one h.fl
theorem FLs.inv {H:Heap}{T:TypeId}{S:Nat→Prop}{l:List Tm}{b c:Nat}{a:Option Addr}(h:FL H T S l a c) (h0:l≠[]):∃b cells Si ai ci,a=some ⟨b,0,none⟩∧l.length≤c∧c≤maxLen∧H.get b=some (.row cells T)∧l.length*6≤cells.length ∧
  S b∧(∀i,i < l.length→¬Si i b)∧FLs H T S l cells Si ai ci:=by
 cases h with
 |nil=>exact absurd rfl h0
 |row _ _ b c cells Si ai ci h1 h2 h3 h4 h5 h6 h7 h8 h9 h10 h11=>exact⟨b,cells,Si,ai,ci,rfl,h1,h2,h3,h4,h7,h8,⟨h5,h6,h9,h10,h11⟩⟩
end Go.Hb
end

section
namespace Go.Hb
open Go Go.RowKit
section
variable {P:Program}
theorem zdv {N:Nat}{w0:World}{τ:Nat→Value}{σ:Nat→Loc}{H:Heap}{w:World}{f:FuncId}{args:Array Value}{v:Value}(hv:flat v=true)
  (h:Calls P f args w fun e w'=>e=.returned v∧Below w.heap.size w w') (hH:HR P N w0 τ σ H w) :
  Calls P f args w fun e w'=>∃ σ',EnR σ' τ (.ret v) e∧HR P N w0 τ σ' H w'∧Step σ H w σ' H w':=by
 refine h.mono fun e w' ⟨he,hB⟩=>?_
 subst he;have hlt:=hH.lt;refine⟨σ,.flat _ hv,⟨hH.below.trans (hB.mono hH.size),Zo hH.size hB.size,hH.fresh,fun i B hi=>(hH.blk i B hi).world fun b S es hb=>hB.block b (hlt i b S es hb),hH.inj,
  fun i b S es hi=>Zh (hlt i b S es hi) hB.size⟩,Zg _,Ext.refl σ,fun i b S es hi=>.inr (.inl ⟨S,es,hi⟩),fun b hb _=>hB.block b hb,hB.size,fun _ _ hg=>⟨rfl,hg⟩⟩
def kLaw (fa fv:FuncId) (f:FuncId) (args:List Value) (H:Heap):Option (En × Heap) :=
 if f=fa then (match args with|[]=>some (.ret (.bool true),H)|_=>none)
 else if f=fv then (match args with|[.string s]=>if s.size≤9223372036854775807 then some (.ret (.bool (Lib.validD s.data.toList)),H) else none|_=>none)
 else none
def okLaw (mask:Nat) (fa fv:FuncId):Ok:=⟨mask,kLaw fa fv⟩
theorem zkq {N mask:Nat}{w0:World}{fa fv:FuncId}(hok:((Zj P.funcs.size).all fun f=>!mask.testBit f || okFn P f)=true)
  (ha:∀w,Calls P fa #[] w fun e w'=>e=.returned (.bool true)∧Below w.heap.size w w')
  (hv:∀(s:ByteArray) w,s.size≤9223372036854775807→Below N w0 w→Calls P fv #[.string s] w fun e w'=>e=.returned (.bool (Lib.validD s.data.toList))∧Below w.heap.size w w'):OkFns P N w0 (okLaw mask fa fv):=by
 refine⟨zah hok,fun τ f args args' H en H' w σ _ hk hl hH _=>?_⟩;simp only[okLaw,kLaw] at hk;split at hk
 ·rename_i hf;subst hf;split at hk
  ·cases hk;have:args'=#[]:=by
    have:=hl.1;simp at this;exact Array.eq_empty_of_size_eq_zero this.symm
   subst this;exact zdv rfl (ha w) hH
  ·cases hk
 ·split at hk
  ·rename_i hf;subst hf;split at hk
   ·rename_i s;split at hk
    ·rename_i hs;cases hk;have hlen:args'.size=1:=by have:=hl.1;simpa using this.symm
     obtain⟨v,rfl⟩:∃v,args'=#[v]:=by
      match args',hlen with
      |⟨[v]⟩,_=>exact⟨v,rfl⟩
     have hvr:=hl.2 0 (.string s) v rfl rfl;rw[VR.flat_eq hvr rfl];exact zdv rfl (hv s w hs hH.below) hH
    ·cases hk
   ·cases hk
  ·cases hk
theorem zkr {mask:Nat}{W:World}{fa fv f:FuncId}{args:Array Value}(hm:P.follows .mixedOrders=true) (hok:((Zj P.funcs.size).all fun f=>!mask.testBit f || okFn P f)=true)
  (ha:∀w,Calls P fa #[] w fun e w'=>e=.returned (.bool true)∧Below w.heap.size w w')
  (hv:∀(s:ByteArray) w,s.size≤9223372036854775807→Below W.heap.size W w→Calls P fv #[.string s] w fun e w'=>e=.returned (.bool (Lib.validD s.data.toList))∧Below w.heap.size w w')
  (h:EvF P (okLaw mask fa fv) f (args.toList.map (abV P W)) (heapW P W) fun v _=>v=.bool true):Calls P f args W fun e W'=>e=.returned (.bool true)∧Below W.heap.size W W' :=
 zfn hm (zkq hok ha hv) h
theorem znl {mask:Nat}{fa fv:FuncId}{H:Heap}(hw:H.wf):EvF P (okLaw mask fa fv) fa [] H fun v H'=>v=.bool true∧HX H H' :=
 EvF.know (v:=.bool true) (H':=H) (by simp [okLaw,kLaw]) ⟨rfl,HX.refl hw⟩
theorem znm {mask:Nat}{fa fv:FuncId}{H:Heap}(hne:fv≠fa) (hw:H.wf) {s:ByteArray}(hs:s.size≤9223372036854775807):EvF P (okLaw mask fa fv) fv [.string s] H fun v H'=>v=.bool (Lib.validD s.data.toList)∧HX H H' :=
 EvF.know (v:=.bool (Lib.validD s.data.toList)) (H':=H) (by simp [okLaw,kLaw,hne,hs]) ⟨rfl,HX.refl hw⟩
end
end Go.Hb
end

section
namespace Go.Proofs.hq
open Go Go.RowKit Go.Hb
abbrev ClF (n:Nat):Prop:=∀{d:Option Tmp}{args:Array Operand}{ats:Array TypeId}{ty:TypeId}{pos:String}{af:Array Edge}{g:Option (Nat × Bool)}{tm:Tr Value}{H:Heap},dop Tryz.prog ⟨d,.call ⟨.value (.func n),args,ats⟩,ty,pos,af,g⟩ (ev tm) H=some (.call n (args.toList.map (ev tm)))
theorem cl5:ClF 5:=z08 (by kernel_rfl)
theorem ld25 {ad:Addr}{H:Heap}:dLoad Tryz.prog 25 (.pointer (some ad)) H=dloadA 6 (H.load ad 6) H:=z25 (by kernel_rfl) (by kernel_rfl)
theorem cl6:ClF 6:=z08 (by kernel_rfl)
theorem zr25:zerosOf Tryz.prog 25=some [.int .i64 0,.string Ze,.string Ze,.int .u64 0,.int .i64 0,.slice none 0 0]:=by kernel_rfl
theorem st25 {b o:Nat}{H:Heap}{cs:List Value}:dStore Tryz.prog 25 (.pointer (some ⟨b,o,none⟩)) (.agg ⟨cs⟩) H=dStoreIf (Zz cs.length 6) ⟨b,o,none⟩ cs H (H.get b):=z1e (by kernel_rfl) (by kernel_rfl)
theorem cl7:ClF 7:=z08 (by kernel_rfl)
theorem zr32:zerosOf Tryz.prog 32=some [.int .i64 0,.string Ze,.string Ze,.int .u64 0,.int .i64 0,.slice none 0 0,.int .i64 0,.int .i64 0,.string Ze,.string Ze,.int .u64 0,.int .i64 0,.slice none 0 0,.slice none 0 0,.int .i64 0]:=by kernel_rfl
theorem st32 {b o:Nat}{H:Heap}{cs:List Value}:dStore Tryz.prog 32 (.pointer (some ⟨b,o,none⟩)) (.agg ⟨cs⟩) H=dStoreIf (Zz cs.length 15) ⟨b,o,none⟩ cs H (H.get b):=z1e (by kernel_rfl) (by kernel_rfl)
theorem cl8:ClF 8:=z08 (by kernel_rfl)
theorem zr39:zerosOf Tryz.prog 39=some [.int .i64 0,.bool false,.int .i64 0,.string Ze,.string Ze,.int .u64 0,.int .i64 0,.slice none 0 0]:=by kernel_rfl
theorem st39 {b o:Nat}{H:Heap}{cs:List Value}:dStore Tryz.prog 39 (.pointer (some ⟨b,o,none⟩)) (.agg ⟨cs⟩) H=dStoreIf (Zz cs.length 8) ⟨b,o,none⟩ cs H (H.get b):=z1e (by kernel_rfl) (by kernel_rfl)
theorem ld32 {ad:Addr}{H:Heap}:dLoad Tryz.prog 32 (.pointer (some ad)) H=dloadA 15 (H.load ad 15) H:=z25 (by kernel_rfl) (by kernel_rfl)
theorem cl9:ClF 9:=z08 (by kernel_rfl)
theorem z6q {b o:Nat}{H:Heap}:dFieldAddr Tryz.prog 32 (.pointer (some ⟨b,o,none⟩)) 1 H=some (.val (.pointer (some ⟨b,o+6,none⟩)) H):=z05 (u:=30) (by kernel_rfl) (by kernel_rfl)
theorem ld30 {ad:Addr}{H:Heap}:dLoad Tryz.prog 30 (.pointer (some ad)) H=dloadA 8 (H.load ad 8) H:=z25 (by kernel_rfl) (by kernel_rfl)
theorem ld39 {ad:Addr}{H:Heap}:dLoad Tryz.prog 39 (.pointer (some ad)) H=dloadA 8 (H.load ad 8) H:=z25 (by kernel_rfl) (by kernel_rfl)
theorem cl12:ClF 12:=z08 (by kernel_rfl)
theorem cl14:ClF 14:=z08 (by kernel_rfl)
theorem z0g {b o:Nat}{H:Heap}:dFieldAddr Tryz.prog 25 (.pointer (some ⟨b,o,none⟩)) 0 H=some (.val (.pointer (some ⟨b,o+0,none⟩)) H):=z05 (u:=3) (by kernel_rfl) (by kernel_rfl)
theorem ld3 {ad:Addr}{H:Heap}:dLoad Tryz.prog 3 (.pointer (some ad)) H=dload1 (H.load ad 1) H:=z0c (by kernel_rfl)
theorem z16 {b o:Nat}{H:Heap}:dFieldAddr Tryz.prog 25 (.pointer (some ⟨b,o,none⟩)) 1 H=some (.val (.pointer (some ⟨b,o+1,none⟩)) H):=z05 (u:=9) (by kernel_rfl) (by kernel_rfl)
theorem ld9 {ad:Addr}{H:Heap}:dLoad Tryz.prog 9 (.pointer (some ad)) H=dload1 (H.load ad 1) H:=z0c (by kernel_rfl)
theorem z0j {b o:Nat}{H:Heap}:dFieldAddr Tryz.prog 25 (.pointer (some ⟨b,o,none⟩)) 5 H=some (.val (.pointer (some ⟨b,o+5,none⟩)) H):=z05 (u:=23) (by kernel_rfl) (by kernel_rfl)
theorem ld23 {ad:Addr}{H:Heap}:dLoad Tryz.prog 23 (.pointer (some ad)) H=dload1 (H.load ad 1) H:=z0c (by kernel_rfl)
theorem ln23 {ty:TypeId}{a:Option Addr}{n c:Nat}{H:Heap}:dLn Tryz.prog 23 ty (.slice a n c) H=some (.val (.int .i64 n) H):=z0x (e:=25) (by kernel_rfl)
theorem cl15:ClF 15:=z08 (by kernel_rfl)
theorem cl16:ClF 16:=z08 (by kernel_rfl)
theorem cl17:ClF 17:=z08 (by kernel_rfl)
theorem cl18:ClF 18:=z08 (by kernel_rfl)
theorem cl19:ClF 19:=z08 (by kernel_rfl)
theorem bd25 {vs:List (Nat × Value)}{H:Heap}:dBuild Tryz.prog 25 vs H=dBd (vs.all fun p=>p.2.cells.toList.all one) (layC [(0,1),(1,1),(2,1),(3,1),(4,1),(5,1)] [.int .i64 0,.string Ze,.string Ze,.int .u64 0,.int .i64 0,.slice none 0 0] (vs.map fun p=>(p.1,p.2.cells.toList))) H:=z2f (by kernel_rfl) (by kernel_rfl)
theorem ia23 {b o n c i:Nat}{k:IntKind}{H:Heap}(h:i < n):dIndexAddr Tryz.prog 23 (.slice (some ⟨b,o,none⟩) n c) (.int k (i:Int)) H=some (.val (.pointer (some ⟨b,o+i*6,none⟩)) H):=z1g (e:=25) (by kernel_rfl) (by kernel_rfl) (by kernel_rfl) h
theorem iz23 {b o n c:Nat}{k:IntKind}{i:Int}{H:Heap}(h0:0≤i) (h:i < n):dIndexAddr Tryz.prog 23 (.slice (some ⟨b,o,none⟩) n c) (.int k i) H=some (.val (.pointer (some ⟨b,o+i.toNat*6,none⟩)) H):=z5p (e:=25) (by kernel_rfl) (by kernel_rfl) (by kernel_rfl) h0 h
theorem cl20:ClF 20:=z08 (by kernel_rfl)
theorem cl21:ClF 21:=z08 (by kernel_rfl)
theorem cl22:ClF 22:=z08 (by kernel_rfl)
theorem z4s {v0:Value}{H:Heap}:dBuildS Tryz.prog 23 1 [(0,v0)] H=dBs 25 1 (([(0,v0)]:List (Nat × Value)).all fun p=>p.2.cells.toList.all one) (layC [(0,6)] [.int .i64 0,.string Ze,.string Ze,.int .u64 0,.int .i64 0,.slice none 0 0] (([(0,v0)]:List (Nat × Value)).map fun p=>(p.1,p.2.cells.toList))) H:=z1o (size:=6) (by kernel_rfl) rfl
theorem cl24:ClF 24:=z08 (by kernel_rfl)
theorem cl25:ClF 25:=z08 (by kernel_rfl)
theorem cl23:ClF 23:=z08 (by kernel_rfl)
theorem bd30 {vs:List (Nat × Value)}{H:Heap}:dBuild Tryz.prog 30 vs H=dBd (vs.all fun p=>p.2.cells.toList.all one) (layC [(0,1),(1,6),(7,1)] [.int .i64 0,.int .i64 0,.string Ze,.string Ze,.int .u64 0,.int .i64 0,.slice none 0 0,.slice none 0 0] (vs.map fun p=>(p.1,p.2.cells.toList))) H:=z2f (by kernel_rfl) (by kernel_rfl)
theorem bd32 {vs:List (Nat × Value)}{H:Heap}:dBuild Tryz.prog 32 vs H=dBd (vs.all fun p=>p.2.cells.toList.all one) (layC [(0,6),(6,8),(14,1)] [.int .i64 0,.string Ze,.string Ze,.int .u64 0,.int .i64 0,.slice none 0 0,.int .i64 0,.int .i64 0,.string Ze,.string Ze,.int .u64 0,.int .i64 0,.slice none 0 0,.slice none 0 0,.int .i64 0] (vs.map fun p=>(p.1,p.2.cells.toList))) H:=z2f (by kernel_rfl) (by kernel_rfl)
theorem cl26:ClF 26:=z08 (by kernel_rfl)
theorem zr30:zerosOf Tryz.prog 30=some [.int .i64 0,.int .i64 0,.string Ze,.string Ze,.int .u64 0,.int .i64 0,.slice none 0 0,.slice none 0 0]:=by kernel_rfl
theorem st30 {b o:Nat}{H:Heap}{cs:List Value}:dStore Tryz.prog 30 (.pointer (some ⟨b,o,none⟩)) (.agg ⟨cs⟩) H=dStoreIf (Zz cs.length 8) ⟨b,o,none⟩ cs H (H.get b):=z1e (by kernel_rfl) (by kernel_rfl)
theorem cl28:ClF 28:=z08 (by kernel_rfl)
theorem st23 {b o:Nat}{H:Heap}{a:Option Addr}{n c:Nat}:dStore Tryz.prog 23 (.pointer (some ⟨b,o,none⟩)) (.slice a n c) H=dStoreB ⟨b,o,none⟩ [.slice a n c] H (H.get b):=z3l (by kernel_rfl) (by kernel_rfl)
theorem ap23:apOk Tryz.prog 23 25 6:=z7j (by kernel_rfl)
theorem cl29:ClF 29:=z08 (by kernel_rfl)
theorem cl30:ClF 30:=z08 (by kernel_rfl)
theorem cl31:ClF 31:=z08 (by kernel_rfl)
theorem cl32:ClF 32:=z08 (by kernel_rfl)
theorem cl33:ClF 33:=z08 (by kernel_rfl)
theorem cl34:ClF 34:=z08 (by kernel_rfl)
theorem zpn {b o:Nat}{H:Heap}:dFieldAddr Tryz.prog 71 (.pointer (some ⟨b,o,none⟩)) 0 H=some (.val (.pointer (some ⟨b,o+0,none⟩)) H):=z05 (u:=25) (by kernel_rfl) (by kernel_rfl)
theorem cl35:ClF 35:=z08 (by kernel_rfl)
theorem cl36:ClF 36:=z08 (by kernel_rfl)
theorem cl37:ClF 37:=z08 (by kernel_rfl)
theorem z6r {v0 v1:Value}{H:Heap}:dBuildS Tryz.prog 23 2 [(0,v0),(1,v1)] H=dBs 25 2 (([(0,v0),(1,v1)]:List (Nat × Value)).all fun p=>p.2.cells.toList.all one) (layC [(0,6),(6,6)] [.int .i64 0,.string Ze,.string Ze,.int .u64 0,.int .i64 0,.slice none 0 0,.int .i64 0,.string Ze,.string Ze,.int .u64 0,.int .i64 0,.slice none 0 0] (([(0,v0),(1,v1)]:List (Nat × Value)).map fun p=>(p.1,p.2.cells.toList))) H:=z1o (size:=6) (by kernel_rfl) rfl
theorem cl38:ClF 38:=z08 (by kernel_rfl)
theorem cl39:ClF 39:=z08 (by kernel_rfl)
theorem ln77 {ty:TypeId}{a:Option Addr}{n c:Nat}{H:Heap}:dLn Tryz.prog 77 ty (.slice a n c) H=some (.val (.int .i64 n) H):=z0x (e:=3) (by kernel_rfl)
theorem bd39 {vs:List (Nat × Value)}{H:Heap}:dBuild Tryz.prog 39 vs H=dBd (vs.all fun p=>p.2.cells.toList.all one) (layC [(0,1),(1,1),(2,6)] [.int .i64 0,.bool false,.int .i64 0,.string Ze,.string Ze,.int .u64 0,.int .i64 0,.slice none 0 0] (vs.map fun p=>(p.1,p.2.cells.toList))) H:=z2f (by kernel_rfl) (by kernel_rfl)
theorem cl40:ClF 40:=z08 (by kernel_rfl)
theorem cl41:ClF 41:=z08 (by kernel_rfl)
theorem cl42:ClF 42:=z08 (by kernel_rfl)
theorem cl43:ClF 43:=z08 (by kernel_rfl)
theorem cl44:ClF 44:=z08 (by kernel_rfl)
theorem cl45:ClF 45:=z08 (by kernel_rfl)
theorem cl46:ClF 46:=z08 (by kernel_rfl)
theorem cl47:ClF 47:=z08 (by kernel_rfl)
theorem cl48:ClF 48:=z08 (by kernel_rfl)
theorem cl49:ClF 49:=z08 (by kernel_rfl)
theorem cl50:ClF 50:=z08 (by kernel_rfl)
theorem z4t {b o:Nat}{H:Heap}:dFieldAddr Tryz.prog 32 (.pointer (some ⟨b,o,none⟩)) 0 H=some (.val (.pointer (some ⟨b,o+0,none⟩)) H):=z05 (u:=25) (by kernel_rfl) (by kernel_rfl)
theorem cl51:ClF 51:=z08 (by kernel_rfl)
theorem zdw {b o:Nat}{H:Heap}:dFieldAddr Tryz.prog 32 (.pointer (some ⟨b,o,none⟩)) 2 H=some (.val (.pointer (some ⟨b,o+14,none⟩)) H):=z05 (u:=3) (by kernel_rfl) (by kernel_rfl)
theorem z5r {b o:Nat}{H:Heap}:dFieldAddr Tryz.prog 30 (.pointer (some ⟨b,o,none⟩)) 1 H=some (.val (.pointer (some ⟨b,o+1,none⟩)) H):=z05 (u:=25) (by kernel_rfl) (by kernel_rfl)
theorem z1k {b o:Nat}{H:Heap}:dFieldAddr Tryz.prog 30 (.pointer (some ⟨b,o,none⟩)) 2 H=some (.val (.pointer (some ⟨b,o+7,none⟩)) H):=z05 (u:=28) (by kernel_rfl) (by kernel_rfl)
theorem ld28 {ad:Addr}{H:Heap}:dLoad Tryz.prog 28 (.pointer (some ad)) H=dload1 (H.load ad 1) H:=z0c (by kernel_rfl)
theorem ln28 {ty:TypeId}{a:Option Addr}{n c:Nat}{H:Heap}:dLn Tryz.prog 28 ty (.slice a n c) H=some (.val (.int .i64 n) H):=z0x (e:=30) (by kernel_rfl)
theorem ia28 {b o n c i:Nat}{k:IntKind}{H:Heap}(h:i < n):dIndexAddr Tryz.prog 28 (.slice (some ⟨b,o,none⟩) n c) (.int k (i:Int)) H=some (.val (.pointer (some ⟨b,o+i*8,none⟩)) H):=z1g (e:=30) (by kernel_rfl) (by kernel_rfl) (by kernel_rfl) h
theorem zpo {b o:Nat}{H:Heap}:dFieldAddr Tryz.prog 39 (.pointer (some ⟨b,o,none⟩)) 1 H=some (.val (.pointer (some ⟨b,o+1,none⟩)) H):=z05 (u:=4) (by kernel_rfl) (by kernel_rfl)
theorem ld4 {ad:Addr}{H:Heap}:dLoad Tryz.prog 4 (.pointer (some ad)) H=dload1 (H.load ad 1) H:=z0c (by kernel_rfl)
theorem zks {b o:Nat}{H:Heap}:dFieldAddr Tryz.prog 39 (.pointer (some ⟨b,o,none⟩)) 0 H=some (.val (.pointer (some ⟨b,o+0,none⟩)) H):=z05 (u:=37) (by kernel_rfl) (by kernel_rfl)
theorem ld37 {ad:Addr}{H:Heap}:dLoad Tryz.prog 37 (.pointer (some ad)) H=dload1 (H.load ad 1) H:=z0c (by kernel_rfl)
theorem z5s {b o:Nat}{H:Heap}:dFieldAddr Tryz.prog 25 (.pointer (some ⟨b,o,none⟩)) 2 H=some (.val (.pointer (some ⟨b,o+2,none⟩)) H):=z05 (u:=9) (by kernel_rfl) (by kernel_rfl)
theorem z81 {b o:Nat}{H:Heap}:dFieldAddr Tryz.prog 25 (.pointer (some ⟨b,o,none⟩)) 3 H=some (.val (.pointer (some ⟨b,o+3,none⟩)) H):=z05 (u:=22) (by kernel_rfl) (by kernel_rfl)
theorem ld22 {ad:Addr}{H:Heap}:dLoad Tryz.prog 22 (.pointer (some ad)) H=dload1 (H.load ad 1) H:=z0c (by kernel_rfl)
theorem z4m {b o:Nat}{H:Heap}:dFieldAddr Tryz.prog 25 (.pointer (some ⟨b,o,none⟩)) 4 H=some (.val (.pointer (some ⟨b,o+4,none⟩)) H):=z05 (u:=3) (by kernel_rfl) (by kernel_rfl)
theorem cl53:ClF 53:=z08 (by kernel_rfl)
theorem cl54:ClF 54:=z08 (by kernel_rfl)
theorem cl55:ClF 55:=z08 (by kernel_rfl)
theorem cl56:ClF 56:=z08 (by kernel_rfl)
theorem cl57:ClF 57:=z08 (by kernel_rfl)
theorem cl58:ClF 58:=z08 (by kernel_rfl)
theorem cl59:ClF 59:=z08 (by kernel_rfl)
theorem cl60:ClF 60:=z08 (by kernel_rfl)
theorem zsc {H:Heap}:dBuildS Tryz.prog 23 0 [] H=dBs 25 0 (([]:List (Nat × Value)).all fun p=>p.2.cells.toList.all one) (layC [] [] (([]:List (Nat × Value)).map fun p=>(p.1,p.2.cells.toList))) H:=z1o (size:=6) (by kernel_rfl) rfl
theorem zr34:zerosOf Tryz.prog 34=some [.nilIface]:=by kernel_rfl
theorem st34 {b o:Nat}{H:Heap}{u:TypeId}{v:Value}:dStore Tryz.prog 34 (.pointer (some ⟨b,o,none⟩)) (.iface u v) H=dStoreB ⟨b,o,none⟩ [.iface u v] H (H.get b):=zc3 (by kernel_rfl) (by kernel_rfl)
theorem ztm {b o:Nat}{H:Heap}  : dStore Tryz.prog 34 (.pointer (some ⟨b,o,none⟩)) (.nilIface) H=dStoreB ⟨b,o,none⟩ [.nilIface] H (H.get b):=z8a (by kernel_rfl) (by kernel_rfl)
theorem cl62:ClF 62:=z08 (by kernel_rfl)
theorem ld34 {ad:Addr}{H:Heap}:dLoad Tryz.prog 34 (.pointer (some ad)) H=dload1 (H.load ad 1) H:=z0c (by kernel_rfl)
theorem cl63:ClF 63:=z08 (by kernel_rfl)
theorem bd71 {vs:List (Nat × Value)}{H:Heap}:dBuild Tryz.prog 71 vs H=dBd (vs.all fun p=>p.2.cells.toList.all one) (layC [(0,6)] [.int .i64 0,.string Ze,.string Ze,.int .u64 0,.int .i64 0,.slice none 0 0] (vs.map fun p=>(p.1,p.2.cells.toList))) H:=z2f (by kernel_rfl) (by kernel_rfl)
theorem z1f {b o:Nat}{H:Heap}:dFieldAddr Tryz.prog 30 (.pointer (some ⟨b,o,none⟩)) 0 H=some (.val (.pointer (some ⟨b,o+0,none⟩)) H):=z05 (u:=3) (by kernel_rfl) (by kernel_rfl)
theorem cl66:ClF 66:=z08 (by kernel_rfl)
theorem zsd:zerosOf Tryz.prog 103=some [.map none]:=by kernel_rfl
theorem zse {b o:Nat}{H:Heap}{a:Option Nat}:dStore Tryz.prog 103 (.pointer (some ⟨b,o,none⟩)) (.map a) H=dStoreB ⟨b,o,none⟩ [.map a] H (H.get b):=z95 (by kernel_rfl) (by kernel_rfl)
theorem cl67:ClF 67:=z08 (by kernel_rfl)
theorem ia77 {b o n c i:Nat}{k:IntKind}{H:Heap}(h:i < n):dIndexAddr Tryz.prog 77 (.slice (some ⟨b,o,none⟩) n c) (.int k (i:Int)) H=some (.val (.pointer (some ⟨b,o+i*1,none⟩)) H):=z1g (e:=3) (by kernel_rfl) (by kernel_rfl) (by kernel_rfl) h
theorem znn {ad:Addr}{H:Heap}:dLoad Tryz.prog 103 (.pointer (some ad)) H=dload1 (H.load ad 1) H:=z0c (by kernel_rfl)
theorem mk23:mkOk Tryz.prog 23 25 [.int .i64 0,.string Ze,.string Ze,.int .u64 0,.int .i64 0,.slice none 0 0]:=zfo (by kernel_rfl)
theorem cl68:ClF 68:=z08 (by kernel_rfl)
theorem cl70:ClF 70:=z08 (by kernel_rfl)
theorem cl71:ClF 71:=z08 (by kernel_rfl)
theorem cl72:ClF 72:=z08 (by kernel_rfl)
theorem zkt {v0 v1 v2:Value}{H:Heap}:dBuildS Tryz.prog 23 3 [(0,v0),(1,v1),(2,v2)] H=dBs 25 3 (([(0,v0),(1,v1),(2,v2)]:List (Nat × Value)).all fun p=>p.2.cells.toList.all one) (layC [(0,6),(6,6),(12,6)] [.int .i64 0,.string Ze,.string Ze,.int .u64 0,.int .i64 0,.slice none 0 0,.int .i64 0,.string Ze,.string Ze,.int .u64 0,.int .i64 0,.slice none 0 0,.int .i64 0,.string Ze,.string Ze,.int .u64 0,.int .i64 0,.slice none 0 0] (([(0,v0),(1,v1),(2,v2)]:List (Nat × Value)).map fun p=>(p.1,p.2.cells.toList))) H:=z1o (size:=6) (by kernel_rfl) rfl
theorem sl23:slcOk Tryz.prog 23 25 6:=⟨by kernel_rfl,by kernel_rfl,by kernel_rfl⟩
theorem ztn {vs:List (Nat × Value)}{H:Heap}:dBuild Tryz.prog 109 vs H=dBd (vs.all fun p=>p.2.cells.toList.all one) (layC [(0,1),(1,6)] [.int .i64 0,.int .i64 0,.string Ze,.string Ze,.int .u64 0,.int .i64 0,.slice none 0 0] (vs.map fun p=>(p.1,p.2.cells.toList))) H:=z2f (by kernel_rfl) (by kernel_rfl)
theorem zqq {v0:Value}{H:Heap}:dBuildS Tryz.prog 107 1 [(0,v0)] H=dBs 109 1 (([(0,v0)]:List (Nat × Value)).all fun p=>p.2.cells.toList.all one) (layC [(0,7)] [.int .i64 0,.int .i64 0,.string Ze,.string Ze,.int .u64 0,.int .i64 0,.slice none 0 0] (([(0,v0)]:List (Nat × Value)).map fun p=>(p.1,p.2.cells.toList))) H:=z1o (size:=7) (by kernel_rfl) rfl
theorem zto:apOk Tryz.prog 107 109 7:=z7j (by kernel_rfl)
theorem cl74:ClF 74:=z08 (by kernel_rfl)
theorem cl75:ClF 75:=z08 (by kernel_rfl)
theorem zdx {v0:Value}{H:Heap}:dBuildS Tryz.prog 28 1 [(0,v0)] H=dBs 30 1 (([(0,v0)]:List (Nat × Value)).all fun p=>p.2.cells.toList.all one) (layC [(0,8)] [.int .i64 0,.int .i64 0,.string Ze,.string Ze,.int .u64 0,.int .i64 0,.slice none 0 0,.slice none 0 0] (([(0,v0)]:List (Nat × Value)).map fun p=>(p.1,p.2.cells.toList))) H:=z1o (size:=8) (by kernel_rfl) rfl
theorem ap28:apOk Tryz.prog 28 30 8:=z7j (by kernel_rfl)
theorem st28 {b o:Nat}{H:Heap}{a:Option Addr}{n c:Nat}:dStore Tryz.prog 28 (.pointer (some ⟨b,o,none⟩)) (.slice a n c) H=dStoreB ⟨b,o,none⟩ [.slice a n c] H (H.get b):=z3l (by kernel_rfl) (by kernel_rfl)
theorem cl77:ClF 77:=z08 (by kernel_rfl)
theorem cl78:ClF 78:=z08 (by kernel_rfl)
theorem zr97:zerosOf Tryz.prog 97=some []:=by kernel_rfl
theorem st97 {b o:Nat}{H:Heap}{cs:List Value}:dStore Tryz.prog 97 (.pointer (some ⟨b,o,none⟩)) (.agg ⟨cs⟩) H=dStoreIf (Zz cs.length 0) ⟨b,o,none⟩ cs H (H.get b):=z1e (by kernel_rfl) (by kernel_rfl)
theorem bd97 {vs:List (Nat × Value)}{H:Heap}:dBuild Tryz.prog 97 vs H=dBd (vs.all fun p=>p.2.cells.toList.all one) (layC [] [] (vs.map fun p=>(p.1,p.2.cells.toList))) H:=z2f (by kernel_rfl) (by kernel_rfl)
theorem cl79:ClF 79:=z08 (by kernel_rfl)
theorem cl80:ClF 80:=z08 (by kernel_rfl)
theorem cl81:ClF 81:=z08 (by kernel_rfl)
theorem zr77:zerosOf Tryz.prog 77=some [.slice none 0 0]:=by kernel_rfl
theorem cl83:ClF 83:=z08 (by kernel_rfl)
theorem ld77 {ad:Addr}{H:Heap}:dLoad Tryz.prog 77 (.pointer (some ad)) H=dload1 (H.load ad 1) H:=z0c (by kernel_rfl)
theorem cl85:ClF 85:=z08 (by kernel_rfl)
theorem cl86:ClF 86:=z08 (by kernel_rfl)
theorem cl87:ClF 87:=z08 (by kernel_rfl)
theorem zku {v0:Value}{H:Heap}:dBuildS Tryz.prog 77 1 [(0,v0)] H=dBs 3 1 (([(0,v0)]:List (Nat × Value)).all fun p=>p.2.cells.toList.all one) (layC [(0,1)] [.int .i64 0] (([(0,v0)]:List (Nat × Value)).map fun p=>(p.1,p.2.cells.toList))) H:=z1o (size:=1) (by kernel_rfl) rfl
theorem ap77:apOk Tryz.prog 77 3 1:=z7j (by kernel_rfl)
theorem ln9 {ty:TypeId}{s:ByteArray}{H:Heap}:dLn Tryz.prog 9 ty (.string s) H=some (.val (.int .i64 s.size) H):=z1n (by kernel_rfl)
theorem ztp:zerosOf Tryz.prog 122=some [.map none]:=by kernel_rfl
theorem ztq {b o:Nat}{H:Heap}{a:Option Nat}:dStore Tryz.prog 122 (.pointer (some ⟨b,o,none⟩)) (.map a) H=dStoreB ⟨b,o,none⟩ [.map a] H (H.get b):=z95 (by kernel_rfl) (by kernel_rfl)
theorem zno {ty:TypeId}{a:Option Addr}{n c:Nat}{H:Heap}:dLn Tryz.prog 107 ty (.slice a n c) H=some (.val (.int .i64 n) H):=z0x (e:=109) (by kernel_rfl)
theorem zqr {b o n c i:Nat}{k:IntKind}{H:Heap}(h:i < n):dIndexAddr Tryz.prog 107 (.slice (some ⟨b,o,none⟩) n c) (.int k (i:Int)) H=some (.val (.pointer (some ⟨b,o+i*7,none⟩)) H):=z1g (e:=109) (by kernel_rfl) (by kernel_rfl) (by kernel_rfl) h
theorem ztr {ad:Addr}{H:Heap}:dLoad Tryz.prog 109 (.pointer (some ad)) H=dloadA 7 (H.load ad 7) H:=z25 (by kernel_rfl) (by kernel_rfl)
theorem zts:zerosOf Tryz.prog 109=some [.int .i64 0,.int .i64 0,.string Ze,.string Ze,.int .u64 0,.int .i64 0,.slice none 0 0]:=by kernel_rfl
theorem ztt {b o:Nat}{H:Heap}{cs:List Value}:dStore Tryz.prog 109 (.pointer (some ⟨b,o,none⟩)) (.agg ⟨cs⟩) H=dStoreIf (Zz cs.length 7) ⟨b,o,none⟩ cs H (H.get b):=z1e (by kernel_rfl) (by kernel_rfl)
theorem zfu {ad:Addr}{H:Heap}:dLoad Tryz.prog 122 (.pointer (some ad)) H=dload1 (H.load ad 1) H:=z0c (by kernel_rfl)
theorem z63 {b o:Nat}{H:Heap}:dFieldAddr Tryz.prog 109 (.pointer (some ⟨b,o,none⟩)) 0 H=some (.val (.pointer (some ⟨b,o+0,none⟩)) H):=z05 (u:=3) (by kernel_rfl) (by kernel_rfl)
theorem zfv {b o:Nat}{H:Heap}:dFieldAddr Tryz.prog 109 (.pointer (some ⟨b,o,none⟩)) 1 H=some (.val (.pointer (some ⟨b,o+1,none⟩)) H):=z05 (u:=25) (by kernel_rfl) (by kernel_rfl)
theorem zr3:zerosOf Tryz.prog 3=some [.int .i64 0]:=by kernel_rfl
theorem st3 {b o:Nat}{H:Heap}{k:IntKind}{n:Int}:dStore Tryz.prog 3 (.pointer (some ⟨b,o,none⟩)) (.int k n) H=dStoreB ⟨b,o,none⟩ [.int k n] H (H.get b):=z3w (by kernel_rfl) (by kernel_rfl)
theorem st77 {b o:Nat}{H:Heap}{a:Option Addr}{n c:Nat}:dStore Tryz.prog 77 (.pointer (some ⟨b,o,none⟩)) (.slice a n c) H=dStoreB ⟨b,o,none⟩ [.slice a n c] H (H.get b):=z3l (by kernel_rfl) (by kernel_rfl)
theorem ix9 {s:ByteArray}{k:IntKind}{i:Nat}{H:Heap}(h:i < s.size):dIdx Tryz.prog 9 (.string s) (.int k (i:Int)) H=some (.val (.int .u8 (byteAt s i:Nat)) H):=z1b (by kernel_rfl) h
theorem iy9 {s:ByteArray}{k:IntKind}{i:Int}{H:Heap}(h0:0≤i) (h:i < s.size):dIdx Tryz.prog 9 (.string s) (.int k i) H=some (.val (.int .u8 (byteAt s i.toNat:Nat)) H):=zj1 (by kernel_rfl) h0 h
theorem zj2 {k:IntKind}{n:Int}{H:Heap}:dCon Tryz.prog 5 3 (.int k n) H=some (.val (.int .i64 (IntKind.i64.wrap n)) H):=z2x (k:=.u8) (by kernel_rfl) (by kernel_rfl)
theorem cl99:ClF 99:=z08 (by kernel_rfl)
theorem znp:zerosOf Tryz.prog 128=some [.bool false,.slice none 0 0]:=by kernel_rfl
theorem zc7 {b o:Nat}{H:Heap}{cs:List Value}:dStore Tryz.prog 128 (.pointer (some ⟨b,o,none⟩)) (.agg ⟨cs⟩) H=dStoreIf (Zz cs.length 2) ⟨b,o,none⟩ cs H (H.get b):=z1e (by kernel_rfl) (by kernel_rfl)
theorem zdy {ad:Addr}{H:Heap}:dLoad Tryz.prog 128 (.pointer (some ad)) H=dloadA 2 (H.load ad 2) H:=z25 (by kernel_rfl) (by kernel_rfl)
theorem ztu:ClF 100:=z08 (by kernel_rfl)
theorem us9:Tryz.prog.underlying 9=some .string:=by kernel_rfl
theorem ld5 {ad:Addr}{H:Heap}:dLoad Tryz.prog 5 (.pointer (some ad)) H=dload1 (H.load ad 1) H:=z0c (by kernel_rfl)
theorem ztv:ClF 102:=z08 (by kernel_rfl)
theorem zkv:zerosOf Tryz.prog 140=some [.bool false,.slice none 0 0]:=by kernel_rfl
theorem za8 {b o:Nat}{H:Heap}{cs:List Value}:dStore Tryz.prog 140 (.pointer (some ⟨b,o,none⟩)) (.agg ⟨cs⟩) H=dStoreIf (Zz cs.length 2) ⟨b,o,none⟩ cs H (H.get b):=z1e (by kernel_rfl) (by kernel_rfl)
theorem za9 {ad:Addr}{H:Heap}:dLoad Tryz.prog 140 (.pointer (some ad)) H=dloadA 2 (H.load ad 2) H:=z25 (by kernel_rfl) (by kernel_rfl)
theorem ztw:ClF 103:=z08 (by kernel_rfl)
theorem zj3 {vs:List (Nat × Value)}{H:Heap}:dBuild Tryz.prog 128 vs H=dBd (vs.all fun p=>p.2.cells.toList.all one) (layC [(0,1),(1,1)] [.bool false,.slice none 0 0] (vs.map fun p=>(p.1,p.2.cells.toList))) H:=z2f (by kernel_rfl) (by kernel_rfl)
theorem zsf:ClF 105:=z08 (by kernel_rfl)
theorem ztx:ClF 106:=z08 (by kernel_rfl)
theorem zqs:ClF 107:=z08 (by kernel_rfl)
theorem zty:ClF 108:=z08 (by kernel_rfl)
theorem zkw {b o:Nat}{H:Heap}:dFieldAddr Tryz.prog 128 (.pointer (some ⟨b,o,none⟩)) 1 H=some (.val (.pointer (some ⟨b,o+1,none⟩)) H):=z05 (u:=77) (by kernel_rfl) (by kernel_rfl)
theorem mk77:mkOk Tryz.prog 77 3 [.int .i64 0]:=zfo (by kernel_rfl)
theorem z9d {v0:Value}{H:Heap}:dBuildS Tryz.prog 150 1 [(0,v0)] H=dBs 5 1 (([(0,v0)]:List (Nat × Value)).all fun p=>p.2.cells.toList.all one) (layC [(0,1)] [.int .u8 0] (([(0,v0)]:List (Nat × Value)).map fun p=>(p.1,p.2.cells.toList))) H:=z1o (size:=1) (by kernel_rfl) rfl
theorem zkx:apOk Tryz.prog 150 5 1:=z7j (by kernel_rfl)
theorem zqt {b o:Nat}{H:Heap}:dFieldAddr Tryz.prog 128 (.pointer (some ⟨b,o,none⟩)) 0 H=some (.val (.pointer (some ⟨b,o+0,none⟩)) H):=z05 (u:=4) (by kernel_rfl) (by kernel_rfl)
theorem zsg {ty:TypeId}{a:Option Addr}{n c:Nat}{H:Heap}:dLn Tryz.prog 150 ty (.slice a n c) H=some (.val (.int .i64 n) H):=z0x (e:=5) (by kernel_rfl)
theorem zsh {b o n c i:Nat}{k:IntKind}{H:Heap}(h:i < n):dIndexAddr Tryz.prog 150 (.slice (some ⟨b,o,none⟩) n c) (.int k (i:Int)) H=some (.val (.pointer (some ⟨b,o+i*1,none⟩)) H):=z1g (e:=5) (by kernel_rfl) (by kernel_rfl) (by kernel_rfl) h
theorem zj4 {vs:List (Nat × Value)}{H:Heap}:dBuild Tryz.prog 140 vs H=dBd (vs.all fun p=>p.2.cells.toList.all one) (layC [(0,1),(1,1)] [.bool false,.slice none 0 0] (vs.map fun p=>(p.1,p.2.cells.toList))) H:=z2f (by kernel_rfl) (by kernel_rfl)
theorem zsi:ClF 109:=z08 (by kernel_rfl)
theorem zpp {k:IntKind}{n:Int}{H:Heap}:dCon Tryz.prog 3 22 (.int k n) H=some (.val (.int .u64 (IntKind.u64.wrap n)) H):=z2x (k:=.i64) (by kernel_rfl) (by kernel_rfl)
theorem z6s {ty:TypeId}{a:Option Addr}{n c:Nat}{H:Heap}:dLn Tryz.prog 138 ty (.slice a n c) H=some (.val (.int .i64 n) H):=z0x (e:=151) (by kernel_rfl)
theorem zj5 {b o n c i:Nat}{k:IntKind}{H:Heap}(h:i < n):dIndexAddr Tryz.prog 138 (.slice (some ⟨b,o,none⟩) n c) (.int k (i:Int)) H=some (.val (.pointer (some ⟨b,o+i*1,none⟩)) H):=z1g (e:=151) (by kernel_rfl) (by kernel_rfl) (by kernel_rfl) h
theorem zky {ad:Addr}{H:Heap}:dLoad Tryz.prog 151 (.pointer (some ad)) H=dload1 (H.load ad 1) H:=z0c (by kernel_rfl)
theorem zc8 {k:IntKind}{n:Int}{H:Heap}:dCon Tryz.prog 151 22 (.int k n) H=some (.val (.int .u64 (IntKind.u64.wrap n)) H):=z2x (k:=.u32) (by kernel_rfl) (by kernel_rfl)
theorem zc9 {k:IntKind}{n:Int}{H:Heap}:dCon Tryz.prog 22 151 (.int k n) H=some (.val (.int .u32 (IntKind.u32.wrap n)) H):=z2x (k:=.u64) (by kernel_rfl) (by kernel_rfl)
theorem zsj {b o:Nat}{H:Heap}{k:IntKind}{n:Int}:dStore Tryz.prog 151 (.pointer (some ⟨b,o,none⟩)) (.int k n) H=dStoreB ⟨b,o,none⟩ [.int k n] H (H.get b):=z3w (by kernel_rfl) (by kernel_rfl)
theorem zqu {v0:Value}{H:Heap}:dBuildS Tryz.prog 138 1 [(0,v0)] H=dBs 151 1 (([(0,v0)]:List (Nat × Value)).all fun p=>p.2.cells.toList.all one) (layC [(0,1)] [.int .u32 0] (([(0,v0)]:List (Nat × Value)).map fun p=>(p.1,p.2.cells.toList))) H:=z1o (size:=1) (by kernel_rfl) rfl
theorem ztz:apOk Tryz.prog 138 151 1:=z7j (by kernel_rfl)
theorem zsk:ClF 110:=z08 (by kernel_rfl)
theorem zu0:ClF 111:=z08 (by kernel_rfl)
theorem zqv {v0:Value}{H:Heap}:dBuildS Tryz.prog 160 1 [(0,v0)] H=dBs 140 1 (([(0,v0)]:List (Nat × Value)).all fun p=>p.2.cells.toList.all one) (layC [(0,2)] [.bool false,.slice none 0 0] (([(0,v0)]:List (Nat × Value)).map fun p=>(p.1,p.2.cells.toList))) H:=z1o (size:=2) (by kernel_rfl) rfl
theorem zu1:ClF 112:=z08 (by kernel_rfl)
theorem zkz {b o:Nat}{H:Heap}:dFieldAddr Tryz.prog 140 (.pointer (some ⟨b,o,none⟩)) 1 H=some (.val (.pointer (some ⟨b,o+1,none⟩)) H):=z05 (u:=138) (by kernel_rfl) (by kernel_rfl)
theorem zsl {ad:Addr}{H:Heap}:dLoad Tryz.prog 138 (.pointer (some ad)) H=dload1 (H.load ad 1) H:=z0c (by kernel_rfl)
theorem znq:ClF 114:=z08 (by kernel_rfl)
theorem zu2:ClF 113:=z08 (by kernel_rfl)
theorem zqw {k:IntKind}{n:Int}{H:Heap}:dCon Tryz.prog 3 151 (.int k n) H=some (.val (.int .u32 (IntKind.u32.wrap n)) H):=z2x (k:=.i64) (by kernel_rfl) (by kernel_rfl)
theorem zu3:ClF 115:=z08 (by kernel_rfl)
theorem zqx {b o:Nat}{H:Heap}:dFieldAddr Tryz.prog 140 (.pointer (some ⟨b,o,none⟩)) 0 H=some (.val (.pointer (some ⟨b,o+0,none⟩)) H):=z05 (u:=4) (by kernel_rfl) (by kernel_rfl)
theorem st5 {b o:Nat}{H:Heap}{k:IntKind}{n:Int}:dStore Tryz.prog 5 (.pointer (some ⟨b,o,none⟩)) (.int k n) H=dStoreB ⟨b,o,none⟩ [.int k n] H (H.get b):=z3w (by kernel_rfl) (by kernel_rfl)
theorem sl77:slcOk Tryz.prog 77 3 1:=⟨by kernel_rfl,by kernel_rfl,by kernel_rfl⟩
theorem zu4:ClF 117:=z08 (by kernel_rfl)
theorem zu5 {ty:TypeId}{a:Option Addr}{n c:Nat}{H:Heap}:dLn Tryz.prog 160 ty (.slice a n c) H=some (.val (.int .i64 n) H):=z0x (e:=140) (by kernel_rfl)
theorem zu6 {b o n c:Nat}{k:IntKind}{i:Int}{H:Heap}(h0:0≤i) (h:i < n):dIndexAddr Tryz.prog 160 (.slice (some ⟨b,o,none⟩) n c) (.int k i) H=some (.val (.pointer (some ⟨b,o+i.toNat*2,none⟩)) H):=z5p (e:=140) (by kernel_rfl) (by kernel_rfl) (by kernel_rfl) h0 h
theorem zsm:mkOk Tryz.prog 138 151 [.int .u32 0]:=zfo (by kernel_rfl)
theorem zqy:slcOk Tryz.prog 138 151 1:=⟨by kernel_rfl,by kernel_rfl,by kernel_rfl⟩
theorem zca {k:IntKind}{n:Int}{H:Heap}:dCon Tryz.prog 151 5 (.int k n) H=some (.val (.int .u8 (IntKind.u8.wrap n)) H):=z2x (k:=.u32) (by kernel_rfl) (by kernel_rfl)
end Go.Proofs.hq
end

section
namespace Go.Hb
def valB (B:Nat):List Nat→Nat
 |[]=>0
 |x :: l=>x+B*valB B l
theorem z26 (B:Nat):∀a b:List Nat,valB B (a++b)=valB B a+B ^ a.length*valB B b
 |[],b=>by simp [valB]
 |x :: a,b=>by
  rw[ZK,valB,z26 B a b,valB,ZE,Nat.pow_succ,Nat.mul_add];rw[show B ^ a.length*B*valB B b=B*(B ^ a.length*valB B b) by rw[Nat.mul_comm (B ^ a.length) B,Nat.mul_assoc]];omega
theorem z6t (B x:Nat):valB B [x]=x:=by simp [valB]
theorem zl0 (B:Nat):∀l:List Nat,(∀x∈l,x < B)→valB B l < B ^ l.length
 |[],_=>by simp [valB]
 |x :: l,h=>by
  have ih:=zl0 B l fun y hy=>h y (Zn _ hy)
  have hx:=h x (by simp);rw[valB,ZE,Nat.pow_succ];have h1:B*(valB B l+1)≤B*B ^ l.length:=Nat.mul_le_mul_left _ ih;rw[Nat.mul_comm (B ^ l.length) B];rw[Nat.mul_add] at h1;omega
theorem z7m (B:Nat):∀l:List Nat,(∀x∈l,x=0)→valB B l=0
 |[],_=>rfl
 |x :: l,h=>by rw[valB,h x (by simp),z7m B l fun y hy=>h y (Zn _ hy)];simp
theorem zl1 {B:Nat}{l:List Nat}{n:Nat}(h:∀x∈l.drop n,x=0):valB B (l.take n)=valB B l:=by
 conv=>rhs;rw[←List.take_append_drop n l]
 rw[z26,z7m B _ h];simp
theorem zl2 {B c x:Nat}{d rest:List Nat}:valB B (d++[(x*10+c) % B])+B ^ (d.length+1)*(10*valB B rest+(x*10+c) / B)=valB B d+B ^ d.length*(10*valB B (x :: rest)+c):=by
 rw[z26,z6t,valB,Nat.pow_succ];have h:=Nat.mod_add_div (x*10+c) B;generalize (x*10+c) % B=m at h ⊢;generalize (x*10+c) / B=q at h ⊢;generalize B ^ d.length=p;generalize valB B rest=v;have e1:p*B*(10*v+q)=p*(B*(10*v+q)):=Nat.mul_assoc ..;have e2:p*(10*(x+B*v)+c)=p*m+p*(B*(10*v+q)):=by
  rw[←Nat.mul_add];congr 1;have e3:B*(10*v+q)=10*(B*v)+B*q:=by rw[Nat.mul_add,Nat.mul_left_comm]
  omega
 omega
theorem zl3 {B c x:Nat}(hB:0 < B) (hx:x < B) (hc:c < 10):(x*10+c) / B < 10:=by
 rw[Nat.div_lt_iff_lt_mul hB];omega
theorem zl4 {B x r:Nat}{low q:List Nat}:valB B (low++[x])+B ^ (low.length+1)*(10*valB B q+r)=valB B low+B ^ low.length*(10*valB B ((r*B+x) / 10 :: q)+(r*B+x) % 10):=by
 rw[z26,z6t,valB,Nat.pow_succ];have h:=Nat.mod_add_div (r*B+x) 10;generalize (r*B+x) % 10=m at h ⊢;generalize (r*B+x) / 10=z at h ⊢;generalize B ^ low.length=p;generalize valB B q=v;have e1:p*B*(10*v+r)=p*(B*(10*v+r)):=Nat.mul_assoc ..;have e2:p*(10*(z+B*v)+m)=p*x+p*(B*(10*v+r)):=by
  rw[←Nat.mul_add];congr 1;have e3:B*(10*v+r)=10*(B*v)+r*B:=by rw[Nat.mul_add,Nat.mul_left_comm,Nat.mul_comm B r]
  omega
 omega
theorem znr {B x r:Nat}(hx:x < B) (hr:r < 10):(r*B+x) / 10 < B:=by
 rw[Nat.div_lt_iff_lt_mul (by omega)];have:r*B≤9*B:=Nat.mul_le_mul_right _ (by omega);omega
def decR (n:Nat):List Nat:=if h:n=0 then [] else n % 10 :: decR (n / 10)
termination_by n
decreasing_by omega
theorem zdz:decR 0=[]:=by rw[decR];simp
theorem z8e {n:Nat}(h:n≠0):decR n=n % 10 :: decR (n / 10):=by rw[decR,dif_neg h]
def digV (b:Nat):Nat:=if 48≤b∧b≤57 then b - 48 else if 97≤b∧b≤122 then b - 97+10 else if 65≤b∧b≤90 then b - 65+10 else 99
def mostBits:Nat:=4096
@[irreducible] def big:Nat:=2 ^ mostBits
theorem z82:big=2 ^ mostBits:=by unfold big;rfl
def numD:List Nat→Nat→Option Nat
 |[],n=>some n
 |d :: l,n=>if big≤n*10+d then none else numD l (n*10+d)
def textD (neg:Bool) (n:Nat):List Nat:=if n=0 then [48] else ((decR n).map (48+·)++if neg then [45] else []).reverse
def canonD (s:List Nat):Bool :=
 let neg:=s.head? == some 45;let b:=if neg then s.tail else s
 if b=[] then false else if b.any (fun x=>10≤digV x) then false else match numD (b.map digV) 0 with
  |none=>false
  |some n=>textD neg n == s
theorem zl5:∀(l:List Nat) (n m:Nat),n < big→numD l n=some m→m < big
 |[],n,m,h,e=>by cases e;exact h
 |d :: l,n,m,h,e=>by
  rw[numD] at e;split at e
  ·cases e
  ·rename_i hb;exact zl5 l _ m (Nat.lt_of_not_le hb) e
def nbits (n:Nat):Nat:=if n=0 then 0 else n.log2+1
theorem zas {n s:Nat}(h:n≠0) (h1:2 ^ s≤n) (h2:n < 2 ^ (s+1)):nbits n=s+1:=by
 rw[nbits,if_neg h];have:=(Nat.log2_lt h).2 h2;have:=(Nat.le_log2 h).2 h1;omega
theorem zns {n:Nat}(e:Nat):e < nbits n↔2 ^ e≤n:=by
 unfold nbits;by_cases h:n=0
 ·subst h;simp
 ·rw[if_neg h];constructor
  ·intro hh;exact(Nat.le_log2 h).1 (by omega)
  ·intro hh;have:=(Nat.le_log2 h).2 hh;omega
theorem z31 {n:Nat}:4096 < nbits n↔big≤n:=by rw[z82];exact zns mostBits
theorem zcb {n e:Nat}(h:2 ^ e≤n):nbits n=nbits (n / 2 ^ e)+e:=by
 have hp:0 < 2 ^ e:=Nat.two_pow_pos e;have h0:n / 2 ^ e≠0:=by
  have:=(Nat.le_div_iff_mul_le hp).2 (show 1*2 ^ e≤n by omega);omega
 have hb:nbits (n / 2 ^ e)=(n / 2 ^ e).log2+1:=by rw[nbits,if_neg h0]
 have h1:2 ^ (n / 2 ^ e).log2≤n / 2 ^ e:=Nat.log2_self_le h0;have h2:n / 2 ^ e < 2 ^ ((n / 2 ^ e).log2+1):=Nat.lt_log2_self;rw[hb,show (n / 2 ^ e).log2+1+e=((n / 2 ^ e).log2+e)+1 by omega];refine zas (by omega) ?_ ?_
 ·rw[Nat.pow_add];exact(Nat.le_div_iff_mul_le hp).1 h1
 ·rw[show (n / 2 ^ e).log2+e+1=((n / 2 ^ e).log2+1)+e by omega,Nat.pow_add];exact(Nat.div_lt_iff_lt_mul hp).1 h2
theorem z6u {n:Nat}(h:n < 4294967296):nbits n≤32:=by
 unfold nbits;split
 ·omega
 ·rename_i h0;have:=(Nat.log2_lt (k:=32) h0).2 h;omega
theorem z9e {l:List Nat}{x e:Nat}(hl:∀y∈l,y < 2 ^ e) (hx:x≠0):nbits (valB (2 ^ e) (l++[x]))=e*l.length+nbits x:=by
 have hv:=zl0 (2 ^ e) l hl;rw[z26,z6t,←Nat.pow_mul] at *;have hb:nbits x=x.log2+1:=by rw[nbits,if_neg hx]
 rw[hb,←Nat.add_assoc];have h1:2 ^ x.log2≤x:=Nat.log2_self_le hx;have h2:x < 2 ^ (x.log2+1):=Nat.lt_log2_self;refine zas ?_ ?_ ?_
 ·have:0 < 2 ^ (e*l.length)*x:=Nat.mul_pos (Nat.two_pow_pos _) (by omega);omega
 ·rw[Nat.pow_add];have:=Nat.mul_le_mul_left (2 ^ (e*l.length)) h1;omega
 ·rw[Nat.add_assoc,Nat.pow_add];have:=Nat.mul_le_mul_left (2 ^ (e*l.length)) h2;rw[Nat.mul_succ] at this;omega
theorem z5f {e k m n:Nat}(hm:m≠0) (h:m*10 ^ k≤n) (hn:n < 2 ^ e):k < e:=by
 have h1:2 ^ k≤10 ^ k:=Nat.pow_le_pow_left (by omega) k;have h2:1*10 ^ k≤m*10 ^ k:=Nat.mul_le_mul_right _ (by omega);have h3:2 ^ k < 2 ^ e:=by omega
 exact(Nat.pow_lt_pow_iff_right (by omega)).1 h3
end Go.Hb
end

section
namespace Go.Proofs.hq
open Go Go.RowKit Go.Hb
variable {ok:Ok}
set_option maxRecDepth 10000
attribute [local irreducible] LX LG EL STG SOP SGO SGD SAL SRD SEF SEG SLK SCK ES
theorem zat (b:Nat):(b < 48∧digV b=99)∨(48≤b∧b≤57∧digV b=b - 48)∨(58≤b∧b < 65∧digV b=99)∨(65≤b∧b≤90∧digV b=b - 55)∨(91≤b∧b < 97∧digV b=99)∨(97≤b∧b≤122∧digV b=b - 87)∨(123≤b∧digV b=99):=by
 unfold digV;by_cases h1:48≤b∧b≤57
 ·simp [h1]
 ·by_cases h2:97≤b∧b≤122
  ·rw[if_neg h1,if_pos h2];omega
  ·by_cases h3:65≤b∧b≤90
   ·rw[if_neg h1,if_neg h2,if_pos h3];omega
   ·rw[if_neg h1,if_neg h2,if_neg h3];omega
theorem zhi (hk:∀args H,ok.K 109 args H=none) (hm:ok.testBit 109=true) (b:Nat) (hb:b < 256) (H:Heap) :
  EvF Tryz.prog ok 109 [.int .u8 (b:Int)] H fun v H'=>v=.int .i64 (digV b:Int)∧H'=H:=by
 refine EvF.enter (hk _ _) Tryz.func109 hm rfl ?_;rcases zat b with ⟨h1,h⟩|⟨h1,h2,h⟩|⟨h1,h2,h⟩|⟨h1,h2,h⟩|⟨h1,h2,h⟩|⟨h1,h2,h⟩|⟨h1,h⟩
 all_goals
  repeat' (first|refine EvC.seq ?_|refine EvC.block ?_|(refine EvC.skip ?_;try simp only[sA])|(refine EvC.ret ?_;try simp only[z04,z02])|(refine EvC.reg ?_;simp (disch:=first|omega|rfl) only[sB,initTm,Za,reduceCtorEq,zj2,decide_eq_true,decide_eq_false,z7l,z0b,Zd])|(refine EvC.condT ?_ ?_;simp only[sB,Za,reduceCtorEq];refine z07 ?_)|(refine EvC.condF ?_ ?_;simp only[sB,Za,reduceCtorEq];refine z07 ?_))
  exact z03 rfl (by simp only[sB,Za,reduceCtorEq];rfl) ⟨by simp only[Value.int.injEq,true_and];omega,rfl⟩
theorem zhj (hk:∀args H,ok.K 105 args H=none) (hm:ok.testBit 105=true) (b:Nat) (hb:b < 256) (H:Heap) :
  EvF Tryz.prog ok 105 [.int .u8 (b:Int)] H fun v H'=>v=.int .i64 (digV b:Int)∧H'=H:=by
 refine EvF.enter (hk _ _) Tryz.func105 hm rfl ?_;rcases zat b with ⟨h1,h⟩|⟨h1,h2,h⟩|⟨h1,h2,h⟩|⟨h1,h2,h⟩|⟨h1,h2,h⟩|⟨h1,h2,h⟩|⟨h1,h⟩
 all_goals
  repeat' (first|refine EvC.seq ?_|refine EvC.block ?_|(refine EvC.skip ?_;try simp only[sA])|(refine EvC.ret ?_;try simp only[z04,z02])|(refine EvC.reg ?_;simp (disch:=first|omega|rfl) only[sB,initTm,Za,reduceCtorEq,zj2,decide_eq_true,decide_eq_false,z7l,z0b,Zd])|(refine EvC.condT ?_ ?_;simp only[sB,Za,reduceCtorEq];refine z07 ?_)|(refine EvC.condF ?_ ?_;simp only[sB,Za,reduceCtorEq];refine z07 ?_))
  exact z03 rfl (by simp only[sB,Za,reduceCtorEq];rfl) ⟨by simp only[Value.int.injEq,true_and];omega,rfl⟩
def u32V (n:Nat):Value:=.int .u32 (n:Int)
def i64V (n:Nat):Value:=.int .i64 (n:Int)
theorem zcc (hk:∀args H,ok.K 114 args H=none) (hm:ok.testBit 114=true) {L:List Nat}{a:Option Addr}{c:Nat}{H:Heap}(r:RdS H (L.map u32V) a c) :
  EvF Tryz.prog ok 114 [.slice a L.length c] H fun v H'=>∃m,v=.slice a m c∧m≤L.length∧(∀x∈L.drop m,x=0)∧(m≠0→L[m - 1]?≠some 0)∧H'=H:=by
 have hL:L.length≤c:=by simpa using r.len
 have hc:c≤9223372036854775807:=r.cap;refine EvF.enter (hk _ _) Tryz.func114 hm rfl ?_
 repeat' (first|refine EvC.seq ?_|refine EvC.block ?_|(refine EvC.reg ?_;simp (disch:=first|omega|rfl) only[sA,initTm]))
 refine EvC.loop (fun k st=>∃tm n,st=⟨tm,[],H⟩∧k=n∧n≤L.length∧(∀x∈L.drop n,x=0)∧tm.get 0=some (.slice a n c)) ?_ L.length _ ?_
 ·rintro k st ⟨tm,n,rfl,rfl,hn,hz,g0⟩;by_cases h0:k=0
  ·subst h0
   repeat' (first|refine EvC.seq ?_|(refine EvC.exit ?_;try simp only[sB])|(refine EvC.ret ?_)|(refine EvC.reg ?_;simp (disch:=first|omega|rfl) only[sB,Za,reduceCtorEq,z6s,g0,decide_eq_false,Zd])|(refine EvC.condF ?_ ?_;simp (disch:=first|omega|rfl) only[sB,Za];refine z07 ?_))
   exact z03 rfl (by simp only[sG,Za]) ⟨0,rfl,by omega,hz,by simp,rfl⟩
  ·have hx:L[k - 1]?=some L[k - 1]:=Zc (by omega);generalize L[k - 1]=x at hx;obtain⟨b,o,rfl,hl⟩:=r.get (k - 1) (u32V x) (by simp [hx]);have e1:((k:Int) - 1)=((k - 1:Nat):Int):=by omega
   unfold u32V at hl;by_cases hx0:x=0
   ·repeat' (first|refine EvC.seq ?_|refine EvC.block ?_|(refine EvC.skip ?_;try simp only[z00])|(refine EvC.reg ?_;simp (disch:=first|omega|rfl) only[sB,Za,reduceCtorEq,z6s,zj5,zky,g0,e1,hl,decide_eq_true,z0b,z0k,zh5 zqy])|(refine EvC.condT ?_ ?_;simp (disch:=first|omega|rfl) only[sB,Za];refine z07 ?_))
    refine⟨k - 1,by omega,_,k - 1,rfl,rfl,by omega,fun y hy=>?_,(by simp only[sG,reduceCtorEq])⟩;rw[ZB (by omega)] at hy;rcases List.mem_cons.1 hy with h|h
    ·rw[h,←Option.some.inj ((Zc (by omega)).symm.trans hx)] at *;omega
    ·exact hz y (by rwa [show k - 1+1=k by omega] at h)
   ·repeat' (first|refine EvC.seq ?_|(refine EvC.exit ?_;try simp only[sB])|(refine EvC.ret ?_)|(refine EvC.reg ?_;simp (disch:=first|omega|rfl) only[sB,Za,reduceCtorEq,z6s,zj5,zky,g0,e1,hl,decide_eq_true,z0b,z0m])|(refine EvC.condF ?_ ?_;simp (disch:=first|omega|rfl) only[sB,Za];refine z07 ?_))
    exact z03 rfl (by simp only[sG,Za]) ⟨k,rfl,hn,hz,fun _=>by rw[hx];simpa using hx0,rfl⟩
 ·exact⟨_,L.length,rfl,rfl,Zg _,by simp,(by simp only[sG,reduceCtorEq])⟩
theorem zl6 (hk:∀args H,ok.K 107 args H=none) (hm:ok.testBit 107=true) {L:List Nat}{a:Option Addr}{c:Nat}{H:Heap}(r:RdS H (L.map i64V) a c) :
  EvF Tryz.prog ok 107 [.slice a L.length c] H fun v H'=>∃m,v=.slice a m c∧m≤L.length∧(∀x∈L.drop m,x=0)∧(m≠0→L[m - 1]?≠some 0)∧H'=H:=by
 have hL:L.length≤c:=by simpa using r.len
 have hc:c≤9223372036854775807:=r.cap;refine EvF.enter (hk _ _) Tryz.func107 hm rfl ?_
 repeat' (first|refine EvC.seq ?_|refine EvC.block ?_|(refine EvC.reg ?_;simp (disch:=first|omega|rfl) only[sB,initTm,Za,reduceCtorEq,ln77]))
 refine EvC.loop (fun k st=>∃tm n,st=⟨tm,[],H⟩∧k=n∧n≤L.length∧(∀x∈L.drop n,x=0)∧tm.get 0=some (.slice a L.length c)∧tm.get 3=some (.int .i64 (n:Nat))) ?_ L.length _ ?_
 ·rintro k st ⟨tm,n,rfl,rfl,hn,hz,g0,g3⟩;by_cases h0:k=0
  ·subst h0
   repeat' (first|refine EvC.seq ?_|(refine EvC.exit ?_;try simp only[sB])|(refine EvC.ret ?_)|(refine EvC.reg ?_;simp (disch:=first|omega|rfl) only[sB,Za,reduceCtorEq,g0,g3,decide_eq_false,Zd,zh5 sl77])|(refine EvC.condF ?_ ?_;simp (disch:=first|omega|rfl) only[sB,Za];refine z07 ?_))
   exact z03 rfl (by simp only[sG,Za]) ⟨0,rfl,by omega,hz,by simp,rfl⟩
  ·have hx:L[k - 1]?=some L[k - 1]:=Zc (by omega);generalize L[k - 1]=x at hx;obtain⟨b,o,rfl,hl⟩:=r.get (k - 1) (i64V x) (by simp [hx]);have e1:((k:Int) - 1)=((k - 1:Nat):Int):=by omega
   unfold i64V at hl;by_cases hx0:x=0
   ·repeat' (first|refine EvC.seq ?_|refine EvC.block ?_|(refine EvC.skip ?_;try simp only[z00])|(refine EvC.reg ?_;simp (disch:=first|omega|rfl) only[sB,Za,reduceCtorEq,ia77,ld3,g0,g3,e1,hl,decide_eq_true,z0b,z0k])|(refine EvC.condT ?_ ?_;simp (disch:=first|omega|rfl) only[sB,Za];refine z07 ?_))
    refine⟨k - 1,by omega,_,k - 1,rfl,rfl,by omega,fun y hy=>?_,(by simp only[sG,reduceCtorEq,g0]),(by simp only[sG,Za])⟩;rw[ZB (by omega)] at hy;rcases List.mem_cons.1 hy with h|h
    ·rw[h,←Option.some.inj ((Zc (by omega)).symm.trans hx)] at *;omega
    ·exact hz y (by rwa [show k - 1+1=k by omega] at h)
   ·repeat' (first|refine EvC.seq ?_|(refine EvC.exit ?_;try simp only[sB])|(refine EvC.ret ?_)|(refine EvC.reg ?_;simp (disch:=first|omega|rfl) only[sB,Za,reduceCtorEq,ia77,ld3,g0,g3,e1,hl,decide_eq_true,z0b,z0m,zh5 sl77])|(refine EvC.condF ?_ ?_;simp (disch:=first|omega|rfl) only[sB,Za];refine z07 ?_))
    exact z03 rfl (by simp only[sG,Za]) ⟨k,rfl,hn,hz,fun _=>by rw[hx];simpa using hx0,rfl⟩
 ·exact⟨_,L.length,rfl,rfl,Zg _,by simp,(by simp only[sG,reduceCtorEq]),(by simp only[sG,Za,reduceCtorEq])⟩
theorem zsn (hk:∀args H,ok.K 106 args H=none) (hm:ok.testBit 106=true) {L:List Nat}{a:Option Addr}{c k:Nat}{H:Heap}(r:RdS H (L.map i64V) a c) :
  EvF Tryz.prog ok 106 [.slice a L.length c,.int .i64 (k:Int)] H fun v H'=>v=.int .i64 (L.getD k 0:Nat)∧H'=H:=by
 refine EvF.enter (hk _ _) Tryz.func106 hm rfl ?_;by_cases hlt:k < L.length
 ·have hx:L[k]?=some L[k]:=Zc hlt;have hd:L.getD k 0=L[k]:=by rw[List.getD_eq_getElem?_getD,hx];rfl
  rw[hd];generalize L[k]=x at hx;obtain⟨b,o,rfl,hl⟩:=r.get k (i64V x) (by simp [hx]);unfold i64V at hl
  repeat' (first|refine EvC.seq ?_|(refine EvC.ret ?_;try simp only[z04,z02])|(refine EvC.reg ?_;simp (disch:=first|omega|rfl) only[sB,initTm,Za,reduceCtorEq,ln77,ia77,ld3,hl,decide_eq_true])|(refine EvC.condT ?_ ?_;simp (disch:=first|omega|rfl) only[sB,Za,reduceCtorEq];refine z07 ?_))
  exact z03 rfl (by simp only[sG,Za,reduceCtorEq]) ⟨rfl,rfl⟩
 ·have hd:L.getD k 0=0:=by rw[List.getD_eq_getElem?_getD,Zy (by omega)];rfl
  repeat' (first|refine EvC.seq ?_|(refine EvC.skip ?_;try simp only[z00])|(refine EvC.ret ?_)|(refine EvC.reg ?_;simp (disch:=first|omega|rfl) only[sB,initTm,Za,reduceCtorEq,ln77,decide_eq_true,decide_eq_false])|(refine EvC.condF ?_ ?_;simp (disch:=first|omega|rfl) only[sB,Za,reduceCtorEq];refine z07 ?_))
  exact z03 rfl (by simp only[sB,Za,reduceCtorEq];rfl) ⟨by rw[hd];rfl,rfl⟩
theorem zhk {s:ByteArray}(h:∀i:Fin 256,byteAt s i=nbits i) {y:Nat}(hy:y < 256):byteAt s y=nbits y:=h ⟨y,hy⟩
theorem znt (hk:∀args H,ok.K 117 args H=none) (hm:ok.testBit 117=true) {x:Nat}(hx:x < 4294967296) {H:Heap} :
  EvF Tryz.prog ok 117 [.int .u32 (x:Int)] H fun v H'=>v=.int .i64 (nbits x:Int)∧H'=H:=by
 refine EvF.enter (hk _ _) Tryz.func117 hm rfl ?_;by_cases h1:65536≤x
 ·have e1:nbits x=nbits (x / 65536)+16:=zcb (e:=16) h1;by_cases h2:16777216≤x
  ·have e2:nbits (x / 65536)=nbits (x / 65536 / 256)+8:=zcb (e:=8) (by omega)
   repeat' (first|refine EvC.seq ?_|(refine EvC.reg ?_;simp (disch:=first|omega|rfl) only[sB,initTm,Za,reduceCtorEq,zca,decide_eq_true,z99,zaq,z0b,z7l])|(refine EvC.condT ?_ ?_;simp only[sB,Za,reduceCtorEq];refine z07 ?_))
   rw[z1b Tryz.underlying9 (show x / 65536 / 256 < _ from by show _ < 256;omega)];generalize hB:byteAt _ (x / 65536 / 256)=B;have hB':B=nbits (x / 65536 / 256):=by rw[←hB];exact zhk (by decide +kernel) (by omega)
   have hl:=z6u (n:=x / 65536 / 256) (by omega)
   repeat' (first|(refine EvC.ret ?_)|(refine z0i ?_;simp (disch:=first|omega|rfl) only[sB,Za,reduceCtorEq,zj2,z0b]))
   exact z03 rfl (by simp only[sB,Za,reduceCtorEq];rfl) ⟨by simp only[Value.int.injEq,true_and];omega,rfl⟩
  ·repeat' (first|refine EvC.seq ?_|(refine EvC.skip ?_;try simp only[z00])|(refine EvC.reg ?_;simp (disch:=first|omega|rfl) only[sB,initTm,Za,reduceCtorEq,zca,decide_eq_true,decide_eq_false,z99,z7l])|(refine EvC.condT ?_ ?_;simp only[sB,Za,reduceCtorEq];refine z07 ?_)|(refine EvC.condF ?_ ?_;simp only[sB,Za,reduceCtorEq];refine z07 ?_))
   rw[z1b Tryz.underlying9 (show x / 65536 < _ from by show _ < 256;omega)];generalize hB:byteAt _ (x / 65536)=B;have hB':B=nbits (x / 65536):=by rw[←hB];exact zhk (by decide +kernel) (by omega)
   have hl:=z6u (n:=x / 65536) (by omega)
   repeat' (first|(refine EvC.ret ?_)|(refine z0i ?_;simp (disch:=first|omega|rfl) only[sB,Za,reduceCtorEq,zj2,z0b]))
   exact z03 rfl (by simp only[sB,Za,reduceCtorEq];rfl) ⟨by simp only[Value.int.injEq,true_and];omega,rfl⟩
 ·by_cases h2:256≤x
  ·have e2:nbits x=nbits (x / 256)+8:=zcb (e:=8) h2
   repeat' (first|refine EvC.seq ?_|(refine EvC.skip ?_;try simp only[z00])|(refine EvC.reg ?_;simp (disch:=first|omega|rfl) only[sB,initTm,Za,reduceCtorEq,zca,decide_eq_true,decide_eq_false,zaq,z0b,z7l])|(refine EvC.condT ?_ ?_;simp only[sB,Za,reduceCtorEq];refine z07 ?_)|(refine EvC.condF ?_ ?_;simp only[sB,Za,reduceCtorEq];refine z07 ?_))
   rw[z1b Tryz.underlying9 (show x / 256 < _ from by show _ < 256;omega)];generalize hB:byteAt _ (x / 256)=B;have hB':B=nbits (x / 256):=by rw[←hB];exact zhk (by decide +kernel) (by omega)
   have hl:=z6u (n:=x / 256) (by omega)
   repeat' (first|(refine EvC.ret ?_)|(refine z0i ?_;simp (disch:=first|omega|rfl) only[sB,Za,reduceCtorEq,zj2,z0b]))
   exact z03 rfl (by simp only[sB,Za,reduceCtorEq];rfl) ⟨by simp only[Value.int.injEq,true_and];omega,rfl⟩
  ·repeat' (first|refine EvC.seq ?_|(refine EvC.skip ?_;try simp only[z00])|(refine EvC.reg ?_;simp (disch:=first|omega|rfl) only[sB,initTm,Za,reduceCtorEq,zca,decide_eq_false,z7l])|(refine EvC.condF ?_ ?_;simp only[sB,Za,reduceCtorEq];refine z07 ?_))
   rw[z1b Tryz.underlying9 (show x < _ from by show _ < 256;omega)];generalize hB:byteAt _ (x)=B;have hB':B=nbits (x):=by rw[←hB];exact zhk (by decide +kernel) (by omega)
   have hl:=z6u (n:=x) (by omega)
   repeat' (first|(refine EvC.ret ?_)|(refine z0i ?_;simp (disch:=first|omega|rfl) only[sB,Za,reduceCtorEq,zj2,z0b]))
   exact z03 rfl (by simp only[sB,Za,reduceCtorEq];rfl) ⟨by simp only[Value.int.injEq,true_and];omega,rfl⟩
theorem zso (a:Nat):(a:Int).tdiv 10=((a / 10:Nat):Int):=rfl
theorem zsp (a:Nat):(a:Int).tmod 10=((a % 10:Nat):Int):=rfl
theorem zsq {r x:Nat}(hr:r < 10) (hx:x < 4294967296):kOr .u64 (IntKind.u64.wrap ((r:Int)*2 ^ (min 32 IntKind.u64.bits))) (x:Int)=((r*4294967296+x:Nat):Int):=by
 have e1:((r:Int)*2 ^ (min 32 IntKind.u64.bits))=((r*4294967296:Nat):Int):=by
  show (r:Int)*2 ^ 32=_;omega
 rw[e1,wrap_u64 (by omega) (by omega)];unfold kOr;show IntKind.u64.wrap ((BitVec.ofInt 64 ((r*4294967296:Nat):Int) ||| BitVec.ofInt 64 (x:Int)).toNat:Int)=_;rw[BitVec.ofInt_natCast,BitVec.ofInt_natCast,BitVec.toNat_or,BitVec.toNat_ofNat,BitVec.toNat_ofNat,Nat.mod_eq_of_lt (by omega),Nat.mod_eq_of_lt (by omega)];have e2:r*4294967296 ||| x=r*4294967296+x:=by
  have:=Nat.two_pow_add_eq_or_of_lt (i:=32) (b:=x) hx r;rw[Nat.mul_comm] at this;exact this.symm
 rw[e2,wrap_u64 (by omega) (by omega)]
theorem znu (hk:∀args H,ok.K 115 args H=none) (hm:ok.testBit 115=true) {r x:Nat}(hr:r < 10) (hx:x < 4294967296) {H:Heap}(hw:H.wf) :
  EvF Tryz.prog ok 115 [.int .u32 (r:Int),.int .u32 (x:Int),.int .u32 10] H fun v H'=>v=.tuple ⟨[.int .u32 ((r*4294967296+x) / 10:Nat),.int .u32 ((r*4294967296+x) % 10:Nat)]⟩∧HX H H':=by
 refine EvF.enter (hk _ _) Tryz.func115 hm rfl ?_
 repeat' (first|refine EvC.seq ?_|(refine EvC.skip ?_;try simp only[z00])|(refine EvC.ret ?_)|(refine EvC.reg ?_;simp (disch:=first|omega|rfl) only[sB,initTm,Za,Zb,reduceCtorEq,Zv,zc8,decide_eq_false,z1j,bShl,bOr,wrap_u64,zsq hr hx])|(refine EvC.drw [([(0,0),(1,0),(2,0),(3,0),(4,0),(5,0),(6,0),(7,0),(8,0),(9,0),(10,0),(11,0)],none)] ?_ ?_;kernel_rfl;simp (disch:=first|omega|rfl) only[sD,sB,Za,Zb,reduceCtorEq,zc8,zc9,wrap_u64,bQuo,bRem,wrap_u32,zso,zsp,isAlloc,isRead])|(refine EvC.condF ?_ ?_;simp only[sB,Za,reduceCtorEq];refine z07 ?_))
 exact z3g rfl (by simp only[sG,Za,reduceCtorEq]) (by simp only[sG,Za,reduceCtorEq]) ⟨rfl,(HX.refl hw).bump _⟩
end Go.Proofs.hq
end

section
namespace Go.Proofs.hq
open Go Go.RowKit Go.Hb
def okT:Ok:=okLaw (2 ^ 151 - 1) 5 94
end Go.Proofs.hq
end

section
namespace Go.Proofs.hq
open Go Go.RowKit Go.Hb
variable {ok:Ok}
set_option maxRecDepth 10000
attribute [local irreducible] LX LG EL STG SOP SGO SGD SAL SRD SEF SEG SLK SCK ES
theorem z4u {B m:Nat}{L:List Nat}(hz:∀x∈L.drop m,x=0):valB B (L.take m)=valB B L:=zl1 hz
theorem zfw {L:List Nat}{m x:Nat}(hL:∀y∈L,y < 4294967296) (hm:m≤L.length) (hz:∀y∈L.drop m,y=0) (h0:m≠0) (hx:L[m - 1]?=some x) (hx0:x≠0) :
  nbits (valB 4294967296 L)=32*(m - 1)+nbits x:=by
 rw[←z4u hz];have e:L.take m=L.take (m - 1)++[x]:=by
  have h1:m=(m - 1)+1:=by omega
  rw[h1,List.take_add_one];simp only[Nat.add_sub_cancel,hx,Option.toList_some]
 rw[e];have:=z9e (l:=L.take (m - 1)) (x:=x) (e:=32) (fun y hy=>hL y (List.mem_of_mem_take hy)) hx0;rw[Zl,Nat.min_eq_left (by omega)] at this;exact this
theorem zl7 {L:List Nat}{a:Option Addr}{c:Nat}{H:Heap}(r:RdS H (L.map u32V) a c) (hL:∀y∈L,y < 4294967296) (hlen:L.length≤1048576) :
  EvF Tryz.prog okT 110 [.slice a L.length c] H fun v H'=>v=.int .i64 (nbits (valB 4294967296 L):Nat)∧H'=H:=by
 have hLc:L.length≤c:=by simpa using r.len
 have hc:c≤9223372036854775807:=r.cap;refine EvF.enter rfl Tryz.func110 (by decide) rfl ?_
 repeat' (first|refine EvC.seq ?_|(refine EvC.reg ?_;simp only[sB,initTm,Za,reduceCtorEq,znq]))
 refine(zcc (fun _ _=>rfl) (by decide) r).mono ?_;rintro v H' ⟨m,rfl,hm,hz,hn0,rfl⟩;by_cases h0:m=0
 ·subst h0
  repeat' (first|refine EvC.seq ?_|(refine EvC.ret ?_;try simp only[z04,z02])|(refine EvC.reg ?_;simp (disch:=first|omega|rfl) only[sB,Za,reduceCtorEq,z6s,z0k])|(refine EvC.condT ?_ ?_;simp only[sB,Za,reduceCtorEq];refine z07 ?_))
  refine z03 rfl (by simp only[sB,Za,reduceCtorEq];rfl) ⟨?_,rfl⟩;rw[z7m _ L (by simpa using hz)];rfl
 ·have hx:L[m - 1]?=some L[m - 1]:=Zc (by omega);have hx0:=hn0 h0;have hxl:=hL L[m - 1] (Zx _);generalize L[m - 1]=x at hx hxl;rw[hx] at hx0;have hx0':x≠0:=fun h=>hx0 (by rw[h])
  have hnb:=zfw hL hm hz h0 hx hx0';have hle:=z6u (n:=x) (by omega);obtain⟨b,o,rfl,hl⟩:=r.get (m - 1) (u32V x) (by simp [hx]);unfold u32V at hl;have e1:((m:Int) - 1)=((m - 1:Nat):Int):=by omega
  repeat' (first|refine EvC.seq ?_|(refine EvC.skip ?_;try simp only[z00])|(refine EvC.reg ?_;simp (disch:=first|omega|rfl) only[sB,Za,reduceCtorEq,z6s,zj5,zky,zu4,z0m,z0b,e1,hl])|(refine EvC.condF ?_ ?_;simp only[sB,Za,reduceCtorEq];refine z07 ?_))
  refine(znt (fun _ _=>rfl) (by decide) (show x < 4294967296 from hxl)).mono ?_;rintro v H' ⟨rfl,rfl⟩
  repeat' (first|(refine EvC.ret ?_)|(refine z0i ?_;simp (disch:=first|omega|rfl) only[sB,Za,reduceCtorEq,z0b]))
  refine z03 rfl (by simp only[sB,Za,reduceCtorEq];rfl) ⟨?_,rfl⟩;simp only[Value.int.injEq,true_and];omega
theorem zqz {L:List Nat}{neg:Bool}{a:Option Addr}{b c:Nat}{H:Heap}(r:RdS H (L.map u32V) a c) (hL:∀y∈L,y < 4294967296) (hlen:L.length≤1048576) (hw:H.wf) (hb:b < H.next)
  (hl:H.load ⟨b,0,none⟩ 2=some [.bool neg,.slice a L.length c]) :
  EvF Tryz.prog okT 112 [.slice (some ⟨b,0,none⟩) 1 1] H fun v H'=>v=.bool (decide (4096 < nbits (valB 4294967296 L)))∧HX H H':=by
 refine EvF.enter rfl Tryz.func112 (by decide) rfl ?_
 repeat' (first|refine EvC.seq ?_|refine EvC.block ?_|(refine EvC.reg ?_;simp (disch:=first|omega|rfl) only[sB,initTm,Za,reduceCtorEq,zu5]))
 refine EvC.loop (fun k st=>∃tm H',st=⟨tm,[],H'⟩∧HX H H'∧tm.get 5=some (.slice (some ⟨b,0,none⟩) 1 1)∧tm.get 6=some (.int .i64 1)∧((k=1∧tm.get 7=some (.int .i64 0))∨(k=0∧tm.get 7=some (.int .i64 1)∧¬ 4096 < nbits (valB 4294967296 L)))) ?_ 1 _ ?_
 ·rintro k st ⟨tm,H',rfl,hx,g5,g6,⟨rfl,g7⟩|⟨rfl,g7,hn⟩⟩
  ·have hl':=hx.load hw hl;have hx2:=((hx.new (some (Blk.row [.bool false,.slice none 0 0] 140))).put (i:=H'.next) hx.next (Zf _) (some (.row [.bool neg,.slice a L.length c] 140)))
   repeat' (first|refine EvC.seq ?_|refine EvC.block ?_|(refine EvC.skip ?_;try simp only[z00])|(refine EvC.reg ?_;simp (disch:=first|omega|rfl) only[sB,dAlloc,Za,Zb,one,cutC,Zv,za9,zkv,za8,zkz,zsl,zsk,g5,g6,g7,hl',decide_eq_true,zu6,Zu])|(refine EvC.condT ?_ ?_;simp (disch:=first|omega|rfl) only[sB];refine z07 ?_))
   refine(zl7 (r.keep hx2 hw) hL hlen).mono ?_;rintro v H2 ⟨rfl,rfl⟩;by_cases hbig:4096 < nbits (valB 4294967296 L)
   ·repeat' (first|refine EvC.seq ?_|(refine EvC.ret ?_;try simp only[z04,z02])|(refine EvC.reg ?_;simp (disch:=first|omega|rfl) only[sA])|(refine z0i ?_;simp (disch:=first|omega|rfl) only[sA,decide_eq_true])|(refine EvC.condT ?_ ?_;simp (disch:=first|omega|rfl) only[sB,Za];refine z07 ?_))
    exact z03 rfl (by simp only[sG,Za]) ⟨rfl,hx2⟩
   ·repeat' (first|(refine EvC.skip ?_;try simp only[sA])|(refine EvC.reg ?_;simp (disch:=first|omega|rfl) only[sB,Za,g7,z0b])|(refine z0i ?_;simp (disch:=first|omega|rfl) only[sA,decide_eq_false])|(refine EvC.condF ?_ ?_;simp (disch:=first|omega|rfl) only[sB,Za];refine z07 ?_))
    exact⟨0,by omega,_,_,rfl,hx2,(by simp only[sG,Za,g5]),(by simp only[sG,Za,g6]),.inr ⟨rfl,(by simp only[sB,Za];rfl),hbig⟩⟩
  ·repeat' (first|refine EvC.seq ?_|(refine EvC.exit ?_;try simp only[sB])|(refine EvC.ret ?_)|(refine EvC.reg ?_;simp (disch:=first|omega|rfl) only[sA,g6,g7,decide_eq_false])|(refine EvC.condF ?_ ?_;simp (disch:=first|omega|rfl) only[sB];refine z07 ?_))
   exact z03 rfl (by simp only[sG,Za]) ⟨rfl,hx⟩
 ·exact⟨_,_,rfl,HX.refl hw,(by simp only[sG,Za,reduceCtorEq]),(by simp only[sB,Za,reduceCtorEq];rfl),.inl ⟨rfl,(by simp only[sG,Za,reduceCtorEq])⟩⟩
theorem zsr {L:List Nat}{a:Option Addr}{c:Nat}{H:Heap}(r:RdS H (L.map u32V) a c) (hlen:L.length≤1048576) (hw:H.wf) :
  EvF Tryz.prog okT 113 [.slice a L.length c] H fun v H'=>∃b c',OwnS H' 151 1 H.next (L.map fun x=>[u32V x]) b c'∧v=.slice (some ⟨b,0,none⟩) L.length c'∧HX H H':=by
 have hmost:L.length≤most:=hlen;have hm0:0≤most:=Zs _;have hmax:L.length≤maxLen:=Zo hlen (by simp [maxLen]);refine EvF.enter rfl Tryz.func113 (by decide) rfl ?_;by_cases h0:L.length=0
 ·have hL0:L=[]:=List.length_eq_zero_iff.1 h0;subst hL0
  repeat' (first|refine EvC.seq ?_|(refine EvC.ret ?_)|(refine EvC.reg ?_;simp only[sB,initTm,Za,reduceCtorEq,z6s,z61 zsm hm0,zc5,List.replicate_zero,znk zqy]))
  refine z03 rfl (by simp only[sG,Za,reduceCtorEq]) ⟨H.next,0,?_,rfl,(HX.refl hw).new _⟩;exact OwnS.ones (vs:=[]) z0o (Zg _) (Zf _) (Zg _) (Zs _) rfl
 ·have hx:=(HX.refl hw).new (some (.row (List.replicate L.length (Value.int .u32 0)) 151));obtain⟨b,o,rfl,hl⟩:=(r.keep hx hw).all (by simpa using h0);rw[Zq] at hl;have hone:(L.map u32V).all one=true:=by simp [u32V,one]
  have hcp:=zqp (c:=L.length) (c':=c) (o:=0) (b:=H.next) zqy (Nat.pos_of_ne_zero h0) (by rw[Nat.mul_one];exact hl) hone z0o (by simp);have hsp:Hb.splice (List.replicate L.length (Value.int .u32 0)) 0 (L.map u32V)=L.map u32V:=by rw[z4b];simp
  rw[hsp] at hcp
  repeat' (first|refine EvC.seq ?_|(refine EvC.ret ?_)|(refine EvC.reg ?_;simp only[sB,initTm,Za,reduceCtorEq,z6s,z61 zsm hmost,zc5,hcp]))
  refine z03 rfl (by simp only[sG,Za,reduceCtorEq]) ⟨H.next,L.length,?_,rfl,hx.put (Zg _) (Zf _) _⟩;have:=OwnS.ones (H:=(H.new (some (.row (List.replicate L.length (Value.int .u32 0)) 151))).put H.next (some (.row (L.map u32V) 151))) (base:=H.next) (c:=L.length) z94 (Zg _) (Zf _) (by simp) hmax hone;rw[ZI] at this;exact this
theorem zr0 {L:List Nat}{neg:Bool}{a:Option Addr}{c:Nat}{H:Heap}(r:RdS H (L.map u32V) a c) (hw:H.wf) :
  EvF Tryz.prog okT 111 [.bool neg,.slice a L.length c] H fun v H'=>∃m,v=.agg ⟨[.bool (neg && decide (0 < m)),.slice a m c]⟩∧m≤L.length∧(∀x∈L.drop m,x=0)∧(m≠0→L[m - 1]?≠some 0)∧HX H H':=by
 refine EvF.enter rfl Tryz.func111 (by decide) rfl ?_
 repeat' (first|refine EvC.seq ?_|(refine EvC.reg ?_;simp only[sB,initTm,dAlloc,Za,reduceCtorEq,zkv,znq]))
 have hx:=(HX.refl hw).new (some (.row [.bool false,.slice none 0 0] 140));refine(zcc (fun _ _=>rfl) (by decide) (r.keep hx hw)).mono ?_;rintro v H' ⟨m,rfl,hm,hz,hn0,rfl⟩;cases neg with
 |false =>
  repeat' (first|refine EvC.seq ?_|(refine EvC.ret ?_)|(refine EvC.reg ?_;simp only[sB,Za,Zb,Value.cells,one,reduceCtorEq,Zk,layC,zj4,za8]))
  exact z0a rfl (by simp only[sB,Za,reduceCtorEq];rfl) (by simp only[sB,Zb,cutC,za9];rfl) ⟨m,rfl,hm,hz,hn0,hx.put (Zg _) (Zf _) _⟩
 |true =>
  by_cases h0:0 < m
  ·repeat' (first|refine EvC.seq ?_|(refine EvC.ret ?_)|(refine EvC.reg ?_;simp only[sB,Za,Zb,Value.cells,one,reduceCtorEq,Zk,layC,z6s,zj4,za8,decide_eq_true]))
   exact z0a rfl (by simp only[sB,Za,reduceCtorEq];rfl) (by simp only[sB,Zb,cutC,za9];rfl) ⟨m,by first|rfl|simp [h0],hm,hz,hn0,hx.put (Zg _) (Zf _) _⟩
  ·repeat' (first|refine EvC.seq ?_|(refine EvC.ret ?_)|(refine EvC.reg ?_;simp only[sB,Za,Zb,Value.cells,one,reduceCtorEq,Zk,layC,z6s,zj4,za8,decide_eq_false]))
   exact z0a rfl (by simp only[sB,Za,reduceCtorEq];rfl) (by simp only[sB,Zb,cutC,za9];rfl) ⟨m,by first|rfl|simp [h0],hm,hz,hn0,hx.put (Zg _) (Zf _) _⟩
theorem znv {L:List Nat}{neg:Bool}{a:Option Addr}{c:Nat}{H:Heap}(r:RdS H (L.map i64V) a c) (hw:H.wf) :
  EvF Tryz.prog okT 108 [.bool neg,.slice a L.length c] H fun v H'=>∃m,v=.agg ⟨[.bool (neg && decide (0 < m)),.slice a m c]⟩∧m≤L.length∧(∀x∈L.drop m,x=0)∧(m≠0→L[m - 1]?≠some 0)∧HX H H':=by
 refine EvF.enter rfl Tryz.func108 (by decide) rfl ?_
 repeat' (first|refine EvC.seq ?_|(refine EvC.reg ?_;simp only[sB,initTm,dAlloc,Za,reduceCtorEq,znp,zqs]))
 have hx:=(HX.refl hw).new (some (.row [.bool false,.slice none 0 0] 128));refine(zl6 (fun _ _=>rfl) (by decide) (r.keep hx hw)).mono ?_;rintro v H' ⟨m,rfl,hm,hz,hn0,rfl⟩;cases neg with
 |false =>
  repeat' (first|refine EvC.seq ?_|(refine EvC.ret ?_)|(refine EvC.reg ?_;simp only[sB,Za,Zb,Value.cells,one,reduceCtorEq,Zk,layC,zj3,zc7]))
  exact z0a rfl (by simp only[sB,Za,reduceCtorEq];rfl) (by simp only[sB,Zb,cutC,zdy];rfl) ⟨m,rfl,hm,hz,hn0,hx.put (Zg _) (Zf _) _⟩
 |true =>
  by_cases h0:0 < m
  ·repeat' (first|refine EvC.seq ?_|(refine EvC.ret ?_)|(refine EvC.reg ?_;simp only[sB,Za,Zb,Value.cells,one,reduceCtorEq,Zk,layC,ln77,zj3,zc7,decide_eq_true]))
   exact z0a rfl (by simp only[sB,Za,reduceCtorEq];rfl) (by simp only[sB,Zb,cutC,zdy];rfl) ⟨m,by first|rfl|simp [h0],hm,hz,hn0,hx.put (Zg _) (Zf _) _⟩
  ·repeat' (first|refine EvC.seq ?_|(refine EvC.ret ?_)|(refine EvC.reg ?_;simp only[sB,Za,Zb,Value.cells,one,reduceCtorEq,Zk,layC,ln77,zj3,zc7,decide_eq_false]))
   exact z0a rfl (by simp only[sB,Za,reduceCtorEq];rfl) (by simp only[sB,Zb,cutC,zdy];rfl) ⟨m,by first|rfl|simp [h0],hm,hz,hn0,hx.put (Zg _) (Zf _) _⟩
def bl (s:ByteArray):List Nat:=s.data.toList.map UInt8.toNat
theorem z2m (s:ByteArray):(bl s).length=s.size:=by simp [bl]
theorem zau (s:ByteArray) {i:Nat}(h:i < s.size):(bl s)[i]?=some (byteAt s i):=by
 have h':i < s.data.toList.length:=by simpa using h
 unfold bl byteAt;rw[ZG,Zc h',List.getD_eq_getElem?_getD,Zc h'];rfl
theorem zav (s:ByteArray) (l m:Nat):bl (s.extract l m)=((bl s).take m).drop l:=by
 unfold bl;rw[ByteArray.data_extract,Array.toList_extract,List.extract_eq_take_drop,List.map_take,List.map_drop,←List.drop_take]
def negS (l:List Nat):Bool:=l.head? == some 45
def bodyS (l:List Nat):List Nat:=if negS l then l.tail else l
def parseD (l:List Nat):Option Nat:=if bodyS l=[] then none else if (bodyS l).any (fun x=>10≤digV x) then none else numD ((bodyS l).map digV) 0
def limbsOK (L:List Nat):Prop:=(∀y∈L,y < 4294967296)∧L.getLast?≠some 0
theorem ze0 {L:List Nat}(h:limbsOK L) (hb:¬ 4096 < nbits (valB 4294967296 L)):L.length≤128:=by
 rcases List.eq_nil_or_concat L with rfl|⟨l,x,rfl⟩
 ·simp
 ·rw[List.concat_eq_append] at *;have hx:x≠0:=by have:=h.2;simpa using this
  have:=z9e (l:=l) (x:=x) (e:=32) (fun y hy=>h.1 y (by simp [hy])) hx;have h0:1≤nbits x:=by unfold nbits;rw[if_neg hx];omega
  rw[show (2:Nat) ^ 32=4294967296 from rfl] at this;rw[this] at hb;simp;omega
def ParseT (H':Heap) (V:Nat→Value) (B:Nat) (l:List Nat) (v:Value):Prop :=
 (parseD l=none∧∃e:Int,e≠0∧v=.tuple ⟨[.agg ⟨[.bool false,.slice none 0 0]⟩,.int .i64 e]⟩) ∨
 ∃n L a c,parseD l=some n∧v=.tuple ⟨[.agg ⟨[.bool (negS l && decide (0 < L.length)),.slice a L.length c]⟩,.int .i64 0]⟩∧RdS H' (L.map V) a c∧(∀y∈L,y < B)∧valB B L=n∧L.getLast?≠some 0∧L.length≤4096
set_option maxHeartbeats 2000000 in
theorem znw {s:ByteArray}(hs:s.size≤9223372036854775807) {H:Heap}(hw:H.wf) :
  EvF Tryz.prog okT 102 [.string s,.int .i64 10] H fun v H'=>ParseT H' u32V 4294967296 (bl s) v∧HX H H':=by
 refine EvF.enter rfl Tryz.func102 (by decide) rfl ?_;(repeat refine EvC.seq ?_);refine EvC.reg ?_;simp (disch:=first|omega|rfl) only[sA,initTm,dAlloc,zkv];have hx0:=(HX.refl hw).new (some (.row [.bool false,.slice none 0 0] 140));obtain⟨H1,hH1⟩:∃H1,H1=H.new (some (.row [.bool false,.slice none 0 0] 140)):=⟨_,rfl⟩
 have hn1:H1.next=H.next+1:=by rw[hH1];rfl
 have hg1:H1.get H.next=some (.row [.bool false,.slice none 0 0] 140):=by rw[hH1];exact z0o
 rw[←hH1] at hx0 ⊢;(repeat refine EvC.seq ?_);refine EvC.reg ?_;simp (disch:=first|omega|rfl) only[sB,Za,reduceCtorEq,decide_eq_false,Zd];refine EvC.condF (by simp (disch:=first|omega|rfl) only[sB,Za,reduceCtorEq]) ?_;(try refine EvC.skip ?_);(try simp only[z00,z01]);(repeat refine EvC.seq ?_);refine EvC.join (fun st=>∃tm,st=⟨tm,[],H1⟩∧tm.get 0=some (.string s)∧tm.get 1=some (.int .i64 10)∧tm.get 4=some (.pointer (some ⟨H.next,0,none⟩))∧tm.get 6=some (.bool (negS (bl s)))) ?_ ?_
 ·by_cases h0:s.size=0
  ·have hb:negS (bl s)=false:=by
    have:bl s=[]:=List.length_eq_zero_iff.1 (by rw[z2m];exact h0);rw[this];rfl
   rw[hb];refine EvC.reg ?_;simp (disch:=first|omega|rfl) only[sB,Za,reduceCtorEq,ln9,decide_eq_false,Zd];exact⟨_,rfl,(by simp only[sG,reduceCtorEq]),(by simp only[sG,Za,reduceCtorEq]),(by simp only[sG,Za,reduceCtorEq]),(by simp only[sG,Za,reduceCtorEq])⟩
  ·have hb:negS (bl s)=(byteAt s 0 == 45):=by
    have:=zau s (i:=0) (by omega);unfold negS;rw[List.head?_eq_getElem?,this];simp
   rw[hb];by_cases h45:byteAt s 0=45
   ·refine EvC.reg ?_;simp (disch:=first|omega|rfl) only[sB,Za,reduceCtorEq,Zv,ln9,decide_eq_true,iy9,z0k];exact⟨_,rfl,(by simp only[sG,reduceCtorEq]),(by simp only[sG,Za,reduceCtorEq]),(by simp only[sG,Za,reduceCtorEq]),by simp only[sB,Za,reduceCtorEq];first|rfl|simp [h45]⟩
   ·refine EvC.reg ?_;simp (disch:=first|omega|rfl) only[sB,Za,reduceCtorEq,Zv,ln9,decide_eq_true,iy9,z0m];exact⟨_,rfl,(by simp only[sG,reduceCtorEq]),(by simp only[sG,Za,reduceCtorEq]),(by simp only[sG,Za,reduceCtorEq]),by simp only[sB,Za,reduceCtorEq];first|rfl|simp [h45]⟩
 rintro st ⟨tm,rfl,g0,g1,g4,g6⟩;try simp (disch:=first|omega|rfl) only[z00]
 (repeat refine EvC.seq ?_);refine EvC.reg ?_;simp (disch:=first|omega|rfl) only[sA,g6];(repeat refine EvC.seq ?_);have hbody:bodyS (bl s)=if negS (bl s) then (bl s).tail else bl s:=rfl
 refine EvC.join (fun st=>∃tm s',st=⟨tm,[],H1⟩∧bl s'=bodyS (bl s)∧s'.size≤9223372036854775807∧tm.get 0=some (.string s')∧tm.get 1=some (.int .i64 10)∧tm.get 4=some (.pointer (some ⟨H.next,0,none⟩))∧tm.get 6=some (.bool (negS (bl s)))) ?_ ?_
 ·cases hneg:negS (bl s) with
  |true =>
   have h1:1≤s.size:=by
    rw[←z2m];cases hb:bl s with
    |nil=>rw[hb] at hneg;simp [negS] at hneg
    |cons x l=>simp
   have hsl:dSl Tryz.prog 9 (.string s) (some (.int .i64 1)) none none H1=some (.val (.string (s.extract 1 s.size)) H1):=zan (l:=1) us9 h1;rw[hneg] at g6 hbody;refine EvC.condT (by simp only[sB]) ?_;refine EvC.reg ?_;simp (disch:=first|omega|rfl) only[sB,Za,reduceCtorEq,g0,hsl];refine⟨_,s.extract 1 s.size,rfl,?_,?_,(by simp only[sG,reduceCtorEq]),(by simp only[sG,Za,reduceCtorEq,g1]),(by simp only[sG,Za,reduceCtorEq,g4]),(by simp only[sG,Za,reduceCtorEq,g6])⟩
   ·rw[zav,hbody,Zi (by rw[z2m];exact Zg _)];simp
   ·have:(s.extract 1 s.size).size≤s.size:=by rw[ByteArray.size_extract];omega
    omega
  |false =>
   rw[hneg] at g6 hbody;refine EvC.condF (by simp only[sB]) (EvC.skip ?_);try simp (disch:=first|omega|rfl) only[z00]
   exact⟨_,s,rfl,by rw[hbody];rfl,hs,(by simp only[sG,reduceCtorEq,g0]),(by simp only[sG,Za,g1]),(by simp only[sG,Za,g4]),(by simp only[sG,Za,g6])⟩
 clear g0 g1 g4 g6;rintro st ⟨tm1,s',rfl,hbl,hs',g0,g1,g4,g6⟩;clear tm;generalize hneg:negS (bl s)=neg at g6;try simp (disch:=first|omega|rfl) only[z00]
 (repeat refine EvC.seq ?_);refine EvC.reg ?_;simp (disch:=first|omega|rfl) only[sB,ln9,g0];(repeat refine EvC.seq ?_);refine EvC.join (fun st=>∃tm,st=⟨tm,[],H1⟩∧(bodyS (bl s)).any (fun x=>10≤digV x)=false∧tm.get 0=some (.string s')∧tm.get 1=some (.int .i64 10)∧tm.get 4=some (.pointer (some ⟨H.next,0,none⟩))∧tm.get 6=some (.bool neg)) ?_ ?_
 ·refine EvC.block (EvC.loop (fun k st=>∃tm i,st=⟨tm,[],H1⟩∧k=s'.size - i∧i≤s'.size∧(∀x∈(bl s').take i,digV x < 10)∧tm.get 0=some (.string s')∧tm.get 1=some (.int .i64 10)∧tm.get 4=some (.pointer (some ⟨H.next,0,none⟩))∧tm.get 6=some (.bool neg)∧tm.get 32=some (.int .i64 s'.size)∧tm.get 33=some (.int .i64 (i:Nat))) ?_ s'.size _ ?_)
  ·rintro k st ⟨tm,i,rfl,hk,hi,hall,f0,f1,f4,f6,f32,f33⟩;by_cases hlt:i < s'.size
   ·have hgi:=zau s' hlt
    repeat' (first|refine EvC.seq ?_|refine EvC.block ?_|(refine EvC.skip ?_;try simp only[z00])|(refine EvC.reg ?_;simp (disch:=first|omega|rfl) only[sB,Za,reduceCtorEq,ix9,zsi,f0,f1,f32,f33,decide_eq_true])|(refine EvC.condT ?_ ?_;simp (disch:=first|omega|rfl) only[sB];refine z07 ?_))
    refine(zhi (fun _ _=>rfl) (by decide) _ (z6p s' i) H1).mono ?_;rintro v H' ⟨rfl,rfl⟩;by_cases hd:10≤digV (byteAt s' i)
    ·repeat' (first|refine EvC.seq ?_|(refine EvC.ret ?_;try simp only[z04,z02])|(refine EvC.reg ?_;simp (disch:=first|omega|rfl) only[sB,Za,Zb,Value.cells,one,layC,zj4,za8,f4,hg1])|(refine z0i ?_;simp (disch:=first|omega|rfl) only[sA,decide_eq_true])|(refine EvC.condT ?_ ?_;simp (disch:=first|omega|rfl) only[sB,Za];refine z07 ?_))
     refine z09 rfl (by simp only[sB,Za,f4];rfl) (by simp only[sB,Zb,cutC,za9]) (by simp only[sG,Za]) ⟨.inl ⟨?_,12,by omega,rfl⟩,?_⟩
     ·have hm:byteAt s' i∈bodyS (bl s):=by rw[←hbl];exact List.mem_of_getElem? hgi
      unfold parseD;rw[if_neg (fun h=>by rw[h] at hm;cases hm),if_pos (List.any_eq_true.2 ⟨_,hm,decide_eq_true hd⟩)]
     ·exact hx0.put (Zg _) (by omega) _
    ·repeat' (first|(refine EvC.skip ?_;try simp only[sA])|(refine EvC.reg ?_;simp (disch:=first|omega|rfl) only[sB,Za,f33,z0b])|(refine z0i ?_;simp (disch:=first|omega|rfl) only[sA,decide_eq_false])|(refine EvC.condF ?_ ?_;simp (disch:=first|omega|rfl) only[sB,Za];refine z07 ?_))
     refine⟨s'.size - (i+1),by omega,_,i+1,rfl,rfl,by omega,fun x hx=>?_,(by simp only[sG,reduceCtorEq,f0]),(by simp only[sG,Za,f1]),(by simp only[sG,Za,f4]),(by simp only[sG,Za,f6]),(by simp only[sG,Za,f32]),(by simp only[sB,Za];rfl)⟩;rw[List.take_add_one,hgi] at hx;rcases List.mem_append.1 hx with h|h
     ·exact hall x h
     ·simp at h;rw[h];omega
   ·repeat' (first|refine EvC.seq ?_|(refine EvC.exit ?_;try simp only[sB])|(refine EvC.reg ?_;simp (disch:=first|omega|rfl) only[sA,f32,f33,decide_eq_false])|(refine EvC.condF ?_ ?_;simp (disch:=first|omega|rfl) only[sB];refine z07 ?_))
    refine⟨_,rfl,?_,(by simp only[sG,reduceCtorEq,f0]),(by simp only[sG,Za,f1]),(by simp only[sG,Za,f4]),(by simp only[sG,Za,f6])⟩;rw[List.any_eq_false];intro x hx;rw[←hbl] at hx;have:=hall x (by rw[Zi (by rw[z2m];omega)];exact hx);simp;omega
  ·exact⟨_,0,rfl,by omega,by omega,by simp,(by simp only[sG,reduceCtorEq,g0]),(by simp only[sG,Za,g1]),(by simp only[sG,Za,g4]),(by simp only[sG,Za,g6]),(by simp only[sG,Za]),(by simp only[sB,Za];rfl)⟩
 clear g0 g1 g4 g6 tm1;rintro st ⟨tm,rfl,hany,g0,g1,g4,g6⟩;by_cases hsz:s'.size=0
 ·repeat' (first|refine EvC.seq ?_|(refine EvC.ret ?_;try simp only[z04,z02])|(refine EvC.reg ?_;simp (disch:=first|omega|rfl) only[sB,Za,Zb,Value.cells,one,layC,zj4,za8,g0,g4,z8d,decide_eq_true,hg1])|(refine EvC.condT ?_ ?_;simp (disch:=first|omega|rfl) only[sB,Za];refine z07 ?_))
  refine z09 rfl (by simp only[sB,Za,g4];rfl) (by simp only[sB,Zb,cutC,za9]) (by simp only[sG,Za]) ⟨.inl ⟨?_,12,by omega,rfl⟩,hx0.put (Zg _) (by omega) _⟩;have:bodyS (bl s)=[]:=by rw[←hbl];exact List.length_eq_zero_iff.1 (by rw[z2m];exact hsz)
  unfold parseD;rw[if_pos this]
 have hpd:parseD (bl s)=numD ((bl s').map digV) 0:=by
  have:bodyS (bl s)≠[]:=by rw[←hbl];intro h;have:=congrArg List.length h;rw[z2m] at this;exact hsz this
  unfold parseD;rw[if_neg this,if_neg (by rw[hany];simp),hbl]
 repeat' (first|refine EvC.seq ?_|refine EvC.block ?_|(refine EvC.skip ?_;try simp only[z00])|(refine EvC.reg ?_;simp (disch:=first|omega|rfl) only[sB,Za,reduceCtorEq,ln9,g0,z8d,decide_eq_false])|(refine EvC.condF ?_ ?_;simp (disch:=first|omega|rfl) only[sB,Za];refine z07 ?_))
 have hdl:∀x∈bl s',digV x < 10:=by
  rw[←hbl,List.any_eq_false] at hany;intro x hx;have:=hany x hx;simp at this;omega
 refine EvC.loop (fun k st=>∃tm i n L v Hc,st=⟨tm,[],Hc⟩∧k=s'.size - i∧i≤s'.size∧numD (((bl s').map digV).drop i) n=numD ((bl s').map digV) 0∧n < big∧valB 4294967296 L=n∧limbsOK L∧HX H1 Hc ∧
  RepO Hc 151 1 H1.next (L.map fun x=>[u32V x]) v∧tm.get 0=some (.string s')∧tm.get 1=some (.int .i64 10)∧tm.get 4=some (.pointer (some ⟨H.next,0,none⟩))∧tm.get 6=some (.bool neg)∧tm.get 8=some v ∧
  tm.get 48=some (.int .i64 s'.size)∧tm.get 49=some (.int .i64 (i:Nat))) ?_ s'.size _ ?_
 ·clear g0 g1 g4 g6 tm;rintro k st ⟨tm,i,n,L,v,Hc,rfl,hk,hi,hnum,hnb,hval,hL,hxc,hrep,g0,g1,g4,g6,g8,g48,g49⟩;by_cases hlt:i < s'.size
  ·have hgi:=zau s' hlt;have hdi:digV (byteAt s' i) < 10:=hdl _ (List.mem_of_getElem? hgi)
   repeat' (first|refine EvC.seq ?_|refine EvC.block ?_|(refine EvC.skip ?_;try simp only[z00])|(refine EvC.reg ?_;simp (disch:=first|omega|rfl) only[sB,Za,reduceCtorEq,ix9,zsi,g0,g48,g49,decide_eq_true])|(refine EvC.condT ?_ ?_;simp (disch:=first|omega|rfl) only[sB];refine z07 ?_))
   refine(zhi (fun _ _=>rfl) (by decide) _ (z6p s' i) Hc).mono ?_;rintro v' H' ⟨rfl,rfl⟩;obtain⟨a,c,rfl,hLc,hcm⟩:=hrep.slice;rw[Zq] at hLc g8 hrep;have hcm':c≤9223372036854775807:=hcm
   repeat' (first|refine EvC.seq ?_|refine EvC.block ?_|(refine EvC.reg ?_;simp (disch:=first|omega|rfl) only[sB,Za,z6s,g8])|(refine z0i ?_;simp (disch:=first|omega|rfl) only[sB,Za,zpp,wrap_u64]))
   refine EvC.loop (fun k' st=>∃tm k d cy Hd,st=⟨tm,[],Hd⟩∧k'=L.length - k∧k≤L.length∧d.length=k∧(∀y∈d,y < 4294967296)∧cy < 10 ∧
    valB 4294967296 d+4294967296 ^ k*(10*valB 4294967296 (L.drop k)+cy)=10*valB 4294967296 L+digV (byteAt s' i)∧(k≠0→L[k - 1]?≠some 0→cy≠0∨d.getLast?≠some 0)∧(k=0→cy=digV (byteAt s' i))∧HX H1 Hd ∧
    RepO Hd 151 1 H1.next ((d++L.drop k).map fun x=>[u32V x]) (.slice a L.length c)∧tm.get 0=some (.string s')∧tm.get 1=some (.int .i64 10)∧tm.get 4=some (.pointer (some ⟨H.next,0,none⟩))∧tm.get 6=some (.bool neg) ∧
    tm.get 8=some (.slice a L.length c)∧tm.get 10=some (.int .u64 (cy:Nat))∧tm.get 48=some (.int .i64 s'.size)∧tm.get 49=some (.int .i64 (i:Nat))∧tm.get 58=some (.int .i64 L.length)∧tm.get 59=some (.int .i64 (k:Nat))) ?_ L.length _ ?_
   ·clear hxc hrep g0 g1 g4 g6 g8 g48 g49 tm H';rintro k2 st ⟨tm,k,d,cy,Hd,rfl,hk2,hkl,hdk,hdb,hcy,hinv,hlast,hz0,hxc,hrep,g0,g1,g4,g6,g8,g10,g48,g49,g58,g59⟩;by_cases hkl2:k < L.length
    ·have hx:L[k]?=some L[k]:=Zc hkl2;have hdrop:L.drop k=L[k] :: L.drop (k+1):=ZB hkl2;have hxb:L[k] < 4294967296:=hL.1 _ (Zx _);generalize L[k]=x at hx hdrop hxb;rw[hdrop] at hrep hinv;obtain⟨b,c2,ho,hv⟩:=hrep.own (by simp);have hlm:((d++x :: L.drop (k+1)).map fun x=>[u32V x]).length=L.length:=by simp;omega
     rw[hlm] at hv;cases hv;have hld:=ho.load (i:=k) (x:=[u32V x]) (by rw[ZG,List.getElem?_append_right (by omega),hdk];simp);rw[Nat.mul_one] at hld;unfold u32V at hld;obtain⟨cs,hgb,hle,_⟩:=ho.row;rw[hlm,Nat.mul_one] at hle;have hk1:k+1≤cs.length:=by omega
     have e1:((x:Int)*10+(cy:Int))=((x*10+cy:Nat):Int):=by omega
     repeat' (first|refine EvC.seq ?_|refine EvC.block ?_|(refine EvC.skip ?_;try simp only[z00])|(refine EvC.reg ?_;simp (disch:=first|omega|rfl) only[sB,Za,one,zpp,zj5,zky,zc8,zc9,zsj,g1,g8,g10,g58,g59,hld,hgb,hk1,e1,wrap_u64,zdm,zfq,z0b,decide_eq_true])|(refine EvC.condT ?_ ?_;simp (disch:=first|omega|rfl) only[sB];refine z07 ?_))
     have hset:=ho.set hgb (i:=k) (y:=[u32V ((x*10+cy) % 4294967296)]) (by rw[hlm];exact hkl2) rfl rfl;rw[Nat.mul_one] at hset;have hset2:((d++x :: L.drop (k+1)).map fun x=>[u32V x]).set k [u32V ((x*10+cy) % 4294967296)]=((d++[(x*10+cy) % 4294967296])++L.drop (k+1)).map fun x=>[u32V x]:=by
      rw[ZD,List.set_append_right _ _ (by simp;omega)];simp [hdk]
     rw[hset2] at hset;have hlm2:(((d++[(x*10+cy) % 4294967296])++L.drop (k+1)).map fun x=>[u32V x]).length=L.length:=by simp;omega
     have hcq:=zl3 (B:=4294967296) (x:=x) (c:=cy) (by omega) hxb hcy;refine⟨L.length - (k+1),by omega,_,k+1,d++[(x*10+cy) % 4294967296],(x*10+cy) / 4294967296,_,rfl,rfl,by omega,by simp [hdk],?_,hcq,?_,?_,by omega,hxc.put ho.lo ho.hi _,.inr ⟨_,_,hset,by rw[hlm2]⟩,
      (by simp only[sG,reduceCtorEq,g0]),(by simp only[sG,Za,g1]),(by simp only[sG,Za,g4]),(by simp only[sG,Za,g6]),(by simp only[sG,Za,g8]),(by simp only[sG,Za]),(by simp only[sG,Za,g48]),(by simp only[sG,Za,g49]),(by simp only[sG,Za,g58]),(by simp only[sB,Za];rfl)⟩
     ·intro y hy;rcases List.mem_append.1 hy with h|h
      ·exact hdb y h
      ·simp at h;omega
     ·have:=zl2 (B:=4294967296) (c:=cy) (x:=x) (d:=d) (rest:=L.drop (k+1));rw[hdk] at this;rw[this];exact hinv
     ·intro _ hl0;rw[show k+1 - 1=k by omega,hx] at hl0;have hx0:x≠0:=fun h=>hl0 (by rw[h])
      by_cases hq:(x*10+cy) / 4294967296=0
      ·refine .inr ?_;simp;omega
      ·exact .inl hq
    ·have hkL:k=L.length:=by omega
     have hdr:L.drop k=[]:=ZM (by omega);rw[hdr] at hinv hrep;rw[List.append_nil] at hrep;simp only[valB,Nat.mul_zero,Nat.zero_add] at hinv;have hfew:=ze0 hL (by rw[z31,hval];omega);have hlastL:k≠0→L[k - 1]?≠some 0:=fun h0=>by
      have:=hL.2;rw[List.getLast?_eq_getElem?] at this;rw[hkL];exact this
     have hlm:(d.map fun x=>[u32V x]).length=L.length:=by simp;omega
     repeat' (first|refine EvC.seq ?_|(refine EvC.exit ?_;try simp only[sB,Za])|(refine EvC.reg ?_;simp (disch:=first|omega|rfl) only[sB,Za,g58,g59,g10,decide_eq_false])|(refine EvC.condF ?_ ?_;simp (disch:=first|omega|rfl) only[sB,Za];refine z07 ?_))
     have hnn:n*10+digV (byteAt s' i)=valB 4294967296 d+4294967296 ^ k*cy:=by rw[hval] at hinv;omega
     have hnumi:numD ((bl s').map digV) 0=if big≤n*10+digV (byteAt s' i) then none else numD (((bl s').map digV).drop (i+1)) (n*10+digV (byteAt s' i)):=by
      rw[←hnum,ZB (by simp [z2m];omega),numD];have:((bl s').map digV)[i]'(by simp [z2m];omega)=digV (byteAt s' i):=by
       apply Option.some.inj;rw[←Zc,ZG,hgi];rfl
      rw[this]
     generalize n*10+digV (byteAt s' i)=n' at hnn hnumi;refine EvC.join (fun st=>∃tm L' v' Hc',st=⟨tm,[],Hc'⟩∧valB 4294967296 L'=n'∧limbsOK L'∧L'.length≤129∧HX H1 Hc'∧RepO Hc' 151 1 H1.next (L'.map fun x=>[u32V x]) v' ∧
      tm.get 0=some (.string s')∧tm.get 1=some (.int .i64 10)∧tm.get 4=some (.pointer (some ⟨H.next,0,none⟩))∧tm.get 6=some (.bool neg)∧tm.get 8=some v'∧tm.get 48=some (.int .i64 s'.size)∧tm.get 49=some (.int .i64 (i:Nat))) ?_ ?_
     ·by_cases hc0:cy=0
      ·repeat' (first|(refine EvC.skip ?_;try simp only[z00])|(refine EvC.condF ?_ ?_;simp (disch:=first|omega|rfl) only[sB,Za,decide_eq_false];refine z07 ?_))
       refine⟨_,d,_,_,rfl,by rw[hnn,hc0];omega,⟨hdb,?_⟩,by omega,hxc,hrep,(by simp only[sG,reduceCtorEq,g0]),(by simp only[sG,Za,g1]),(by simp only[sG,Za,g4]),(by simp only[sG,Za,g6]),(by simp only[sG,Za,g8]),(by simp only[sG,Za,g48]),(by simp only[sG,Za,g49])⟩;by_cases hk0:k=0
       ·have:d=[]:=List.length_eq_zero_iff.1 (by omega);rw[this];simp
       ·rcases hlast hk0 (hlastL hk0) with h|h
        ·exact absurd hc0 h
        ·exact h
      ·obtain⟨H2,v2,hap,hrep2,_,hx2,_⟩:=hrep.push ztz (y:=[u32V cy]) rfl rfl (by simp [most];omega) hxc.next;unfold u32V at hap
       repeat' (first|(refine EvC.reg ?_;simp (disch:=first|omega|rfl) only[sB,Za,Value.cells,one,layC,zc9,zqu,g8,g10,decide_eq_true,wrap_u32,hap])|(refine EvC.condT ?_ ?_;simp (disch:=first|omega|rfl) only[sB,Za,decide_eq_true];refine z07 ?_))
       have hk2':((d++[cy]).map fun x=>[u32V x])=(d.map fun x=>[u32V x])++[[u32V cy]]:=by simp
       refine⟨_,d++[cy],_,_,rfl,?_,⟨?_,by simp;exact hc0⟩,by simp;omega,hx2 _ hxc (Zg _),by rw[hk2'];exact hrep2,(by simp only[sG,reduceCtorEq,g0]),(by simp only[sG,Za,g1]),(by simp only[sG,Za,g4]),(by simp only[sG,Za,g6]),(by simp only[sG,Za]),(by simp only[sG,Za,g48]),(by simp only[sG,Za,g49])⟩
       ·rw[z26,z6t,hdk,hnn]
       ·intro y hy;rcases List.mem_append.1 hy with h|h
        ·exact hdb y h
        ·simp at h;omega
     clear g0 g1 g4 g6 g8 g10 g48 g49 g58 g59 tm hrep hxc;rintro st ⟨tm,L',v',Hc',rfl,hval',hL',hfew',hxc,hrep,g0,g1,g4,g6,g8,g48,g49⟩;obtain⟨a',c'',rfl,hr⟩:=RepO.rds (vs:=L'.map u32V) (by rw[ZI];exact hrep);rw[Zq] at g8 hrep
     repeat' (first|refine EvC.seq ?_|(refine EvC.reg ?_;simp (disch:=first|omega|rfl) only[sB,Za,zsk,g8]))
     refine(zl7 hr hL'.1 (by omega)).mono ?_;rintro v H2 ⟨rfl,rfl⟩;rw[hval'];have hg2:H2.get H.next=some (.row [.bool false,.slice none 0 0] 140):=by rw[hxc.keep _ (by omega)];exact hg1
     by_cases hbig:4096 < nbits n'
     ·repeat' (first|refine EvC.seq ?_|(refine EvC.ret ?_;try simp only[z04,z02])|(refine EvC.reg ?_;simp (disch:=first|omega|rfl) only[sB,Za,Zb,Value.cells,one,layC,zj4,za8,g4,hg2])|(refine z0i ?_;simp (disch:=first|omega|rfl) only[sA,decide_eq_true])|(refine EvC.condT ?_ ?_;simp (disch:=first|omega|rfl) only[sB,Za];refine z07 ?_))
      refine z09 rfl (by simp only[sB,Za,g4];rfl) (by simp only[sB,Zb,cutC,za9]) (by simp only[sG,Za]) ⟨.inl ⟨?_,10,by omega,rfl⟩,(hx0.trans hxc).put (Zg _) (by have:=hxc.next;omega) _⟩;rw[hpd,hnumi,if_pos (z31.1 hbig)]
     ·repeat' (first|(refine EvC.skip ?_;try simp only[sA])|(refine EvC.reg ?_;simp (disch:=first|omega|rfl) only[sB,Za,g49,z0b])|(refine z0i ?_;simp (disch:=first|omega|rfl) only[sA,decide_eq_false])|(refine EvC.condF ?_ ?_;simp (disch:=first|omega|rfl) only[sB,Za];refine z07 ?_))
      have hnb':¬big≤n':=fun h=>hbig (z31.2 h)
      exact⟨s'.size - (i+1),by omega,_,i+1,n',L',_,_,rfl,rfl,by omega,by rw[hnumi,if_neg hnb'],Nat.lt_of_not_le hnb',hval',hL',hxc,hrep,(by simp only[sG,reduceCtorEq,g0]),(by simp only[sG,Za,g1]),(by simp only[sG,Za,g4]),(by simp only[sG,Za,g6]),(by simp only[sG,Za,g8]),(by simp only[sG,Za,g48]),(by simp only[sB,Za];rfl)⟩
   ·refine⟨_,0,[],digV (byteAt s' i),_,rfl,by omega,by omega,rfl,by simp,hdi,by simp [valB],by simp,fun _=>rfl,hxc,by simpa using hrep,(by simp only[sG,reduceCtorEq,g0]),(by simp only[sG,Za,g1]),(by simp only[sG,Za,g4]),(by simp only[sG,Za,g6]),(by simp only[sG,Za,g8]),(by simp only[sG,Za]),(by simp only[sG,Za,g48]),(by simp only[sG,Za,g49]),(by simp only[sG,Za]),(by simp only[sB,Za];rfl)⟩
  ·have hi':i=s'.size:=by omega
   have hnn:numD ((bl s').map digV) 0=some n:=by
    rw[←hnum,ZM (by simp [z2m];omega),numD]
   obtain⟨a',c'',rfl,hr⟩:=RepO.rds (vs:=L.map u32V) (by rw[ZI];exact hrep);rw[Zq] at g8
   repeat' (first|refine EvC.seq ?_|(refine EvC.exit ?_;try simp only[sB])|(refine EvC.reg ?_;simp (disch:=first|omega|rfl) only[sB,Za,zu0,g48,g49,g6,g8,decide_eq_false])|(refine EvC.condF ?_ ?_;simp (disch:=first|omega|rfl) only[sB];refine z07 ?_))
   refine(zr0 hr hxc.wf).mono ?_;rintro v H2 ⟨m,rfl,hm,hz,hn0,hx2⟩;have hg2:H2.get H.next=some (.row [.bool false,.slice none 0 0] 140):=by rw[(hxc.trans hx2).keep _ (by omega)];exact hg1
   repeat' (first|(refine EvC.ret ?_)|(refine z0i ?_;simp (disch:=first|omega|rfl) only[sB,Zb,one,za8,g4,hg2]))
   have hx3:=hxc.trans hx2;have hm':m=L.length:=by
    rcases Nat.lt_or_ge m L.length with h|h
    ·have:=hz (L[L.length - 1]'(by omega)) (List.mem_drop_iff_getElem.2 ⟨L.length - 1 - m,by omega,by congr 1;omega⟩);have h2:=hL.2;rw[List.getLast?_eq_getElem?,Zc (by omega),this] at h2;exact absurd rfl h2
    ·omega
   subst hm';refine z09 rfl (by simp only[sB,Za,g4];rfl) (by simp only[sB,Zb,cutC,za9];rfl) (by simp only[sB,Za];rfl) ⟨.inr ⟨n,L,a',c'',by rw[hpd,hnn],by rw[hneg],?_,hL.1,hval,hL.2,?_⟩,(hx0.trans hx3).put (Zg _) (by have:=hx3.next;omega) _⟩
   ·rw[Zq] at hrep;have h3:=(hrep.keep hx2).putlo (i:=H.next) (by omega) (some (.row [.bool (neg && decide (0 < L.length)),.slice a' L.length c''] 140));exact(RepO.rds' (vs:=L.map u32V) (by rw[ZI];exact h3)).2
   ·have:=ze0 hL (by rw[z31,hval];omega);omega
 ·exact⟨_,0,0,[],_,_,rfl,by omega,by omega,by simp,by rw[z82];exact Nat.two_pow_pos _,rfl,⟨by simp,by simp⟩,HX.refl hx0.wf,RepO.empty,(by simp only[sG,reduceCtorEq,g0]),(by simp only[sG,Za,g1]),(by simp only[sG,Za,g4]),(by simp only[sG,Za,g6]),(by simp only[sG,Za]),(by simp only[sG,Za]),(by simp only[sB,Za];rfl)⟩
def u8V (n:Nat):Value:=.int .u8 (n:Int)
theorem zl8 {s:ByteArray}(h:∀i:Fin 10,byteAt s i=48+i) {y:Nat}(hy:y < 10):byteAt s y=48+y:=h ⟨y,hy⟩
theorem z8f {B:Nat}(hB:0 < B) {M:List Nat}(h0:M≠[]) (h:M.getLast?≠some 0):valB B M≠0:=by
 rcases List.eq_nil_or_concat M with rfl|⟨l,x,rfl⟩
 ·exact absurd rfl h0
 ·rw[List.concat_eq_append] at *;have hx:x≠0:=by simpa using h
  rw[z26,z6t];have:0 < B ^ l.length*x:=Nat.mul_pos (Nat.pow_pos hB) (by omega);omega
set_option maxHeartbeats 4000000 in
theorem zr1 {L:List Nat}{neg:Bool}{a:Option Addr}{c n:Nat}{H:Heap}(hw:H.wf) (r:RdS H (L.map u32V) a c) (hL:∀y∈L,y < 4294967296) (hlen:L.length≤4096) (hval:valB 4294967296 L=n) (hn:n < big) :
  EvF Tryz.prog okT 103 [.agg ⟨[.bool neg,.slice a L.length c]⟩,.int .i64 10] H fun v H'=>(∃t:ByteArray,v=.tuple ⟨[.string t,.int .i64 0]⟩∧bl t=textD neg n)∧HX H H':=by
 refine EvF.enter rfl Tryz.func103 (by decide) rfl ?_;(repeat refine EvC.seq ?_);refine EvC.reg ?_;simp (disch:=first|omega|rfl) only[sB,initTm,dBox,Value.cells,one,reduceCtorEq];have hx0:=(HX.refl hw).new (some (.row [.bool neg,.slice a L.length c] 140));obtain⟨H1,hH1⟩:∃H1,H1=H.new (some (.row [.bool neg,.slice a L.length c] 140)):=⟨_,rfl⟩
 have hn1:H1.next=H.next+1:=by rw[hH1];rfl
 have hg1:H1.get H.next=some (.row [.bool neg,.slice a L.length c] 140):=by rw[hH1];exact z0o
 have hl1:H1.load ⟨H.next,0,none⟩ 2=some [.bool neg,.slice a L.length c]:=by rw[hH1];exact z3h
 have hlb:H1.load ⟨H.next,0,none⟩ 1=some [.bool neg]:=by rw[hH1];exact z3h
 have hls:H1.load ⟨H.next,1,none⟩ 1=some [.slice a L.length c]:=by rw[hH1];exact z3h
 rw[←hH1] at hx0 ⊢;have hw1:=hx0.wf;have hx2:=(HX.refl hw1).new (some (.row [.bool neg,.slice a L.length c] 140))
 repeat' (first|refine EvC.seq ?_|(refine EvC.reg ?_;simp (disch:=first|omega|rfl) only[sB,Za,Zb,Value.cells,one,reduceCtorEq,layC,za9,zqv,zu1,hl1]))
 refine(zqz ((r.keep hx0 hw).keep hx2 hw1) hL (by omega) hx2.wf (Zf _) z3h).mono ?_;rintro v H2 ⟨rfl,hx3⟩;have hx13:=hx2.trans hx3;have hl2:=hx13.load hw1 hls;have hlb2:=hx13.load hw1 hlb;have hng:¬ 4096 < nbits (valB 4294967296 L):=by rw[z31,hval];omega
 rw[decide_eq_false hng]
 repeat' (first|refine EvC.seq ?_|(refine EvC.skip ?_;try simp only[z00])|(refine EvC.reg ?_;simp (disch:=first|omega|rfl) only[sB,Za,reduceCtorEq,zkz,zsl,znq,zu2,hl2,decide_eq_false,Zd])|(refine EvC.condF ?_ ?_;simp (disch:=first|omega|rfl) only[sB,Za,reduceCtorEq];refine z07 ?_))
 have r2:=(r.keep hx0 hw).keep hx13 hw1;refine(zcc (fun _ _=>rfl) (by decide) r2).mono ?_;rintro v H3 ⟨m,rfl,hm,hz,hn0,rfl⟩;have hvm:valB 4294967296 (L.take m)=n:=by rw[z4u hz,hval]
 have hlm:(L.take m).length=m:=by rw[Zl];omega
 have hLm:∀y∈L.take m,y < 4294967296:=fun y hy=>hL y (List.mem_of_mem_take hy)
 have hlast:(L.take m).getLast?≠some 0:=by
  rw[List.getLast?_eq_getElem?,hlm];by_cases h0:m=0
  ·subst h0;simp
  ·rw[ZF,if_pos (by omega)];exact hn0 h0
 have r3:RdS H3 ((L.take m).map u32V) a c:=by rw[List.map_take];exact r2.take m
 generalize L.take m=M0 at hvm hlm hLm hlast r3;subst hlm
 skip
 refine(zsr r3 (by omega) hx13.wf).mono ?_;rintro v H4 ⟨b,c2,ho,rfl,hx4⟩;have hx14:=hx13.trans hx4;by_cases h0:M0.length=0
 ·have hM:M0=[]:=List.length_eq_zero_iff.1 h0;subst hM
  repeat' (first|refine EvC.seq ?_|(refine EvC.ret ?_;try simp only[z04,z02])|(refine EvC.reg ?_;simp (disch:=first|omega|rfl) only[sB,Za,reduceCtorEq,z6s,z0k])|(refine EvC.condT ?_ ?_;simp (disch:=first|omega|rfl) only[sB,Za,reduceCtorEq];refine z07 ?_))
  refine z3g rfl (by simp only[sB,Za,reduceCtorEq];rfl) (by simp only[sG,Za,reduceCtorEq]) ⟨⟨_,rfl,?_⟩,hx0.trans hx14⟩;rw[←hvm];rfl
 ·have hnz:=z8f (B:=4294967296) (by omega) (fun h=>h0 (by rw[h];rfl)) hlast;rw[hvm] at hnz
  repeat' (first|refine EvC.seq ?_|refine EvC.block ?_|(refine EvC.skip ?_;try simp only[z00])|(refine EvC.reg ?_;simp (disch:=first|omega|rfl) only[sB,Za,reduceCtorEq,z6s,z0m])|(refine EvC.condF ?_ ?_;simp (disch:=first|omega|rfl) only[sB,Za,reduceCtorEq];refine z07 ?_))
  refine EvC.loop (fun k st=>∃tm M od v6 v7 Hc,st=⟨tm,[],Hc⟩∧k=valB 4294967296 M∧(∀y∈M,y < 4294967296)∧M.length≤4096∧M.getLast?≠some 0∧decR n=od++decR (valB 4294967296 M)∧(M≠[]→valB 4294967296 M*10 ^ od.length≤n)∧od.length≤4096 ∧
    (∀y∈od,y < 10)∧HX H3 Hc∧RepO Hc 151 1 H3.next (M.map fun x=>[u32V x]) v6∧RepO Hc 5 1 H3.next (od.map fun x=>[u8V (48+x)]) v7∧tm.get 1=some (.int .i64 10)∧tm.get 2=some (.pointer (some ⟨H.next,0,none⟩))∧tm.get 6=some v6∧tm.get 7=some v7) ?_ (valB 4294967296 M0) _ ?_
  ·rintro k st ⟨tm,M,od,v6,v7,Hc,rfl,rfl,hMb,hMl,hMn,hdec,hle,hol,hod,hxc,hr6,hr7,g1,g2,g6,g7⟩;by_cases hM0:M=[]
   ·subst hM0;obtain⟨a6,c6,rfl,-,-⟩:=hr6.slice;rw[Zq] at g6;have hlbc:=hxc.load hx13.wf hlb2;have hdec':decR n=od:=by rw[hdec];simp [valB,zdz]
    repeat' (first|refine EvC.seq ?_|(refine EvC.exit ?_;try simp only[sB])|(refine EvC.reg ?_;simp (disch:=first|omega|rfl) only[sB,Za,z6s,zqx,ld4,g2,g6,hlbc,decide_eq_false])|(refine EvC.condF ?_ ?_;simp (disch:=first|omega|rfl) only[sB,Za];refine z07 ?_))
    refine EvC.join (fun st=>∃tm o v Hd,st=⟨tm,[],Hd⟩∧o=(od.map fun x=>48+x)++(if neg then [45] else [])∧HX H3 Hd∧RepO Hd 5 1 H3.next (o.map fun x=>[u8V x]) v∧tm.get 7=some v) ?_ ?_
    ·cases neg with
     |true =>
      obtain⟨H5,v5,hap,hr7b,-,hx5,-⟩:=hr7.push zkx (y:=[u8V 45]) rfl rfl (by simp [most];omega) hxc.next;have h45:u8V 45=.int .u8 45:=rfl;rw[h45] at hap;refine EvC.condT (by simp only[sB,Za]) ?_
      repeat' (first|(refine EvC.reg ?_;simp (disch:=first|omega|rfl) only[sB,Za,Value.cells,one,layC,z9d,g7,hap]))
      refine⟨_,_,_,_,rfl,rfl,hx5 _ hxc (Zg _),?_,(by simp only[sB,Za];rfl)⟩
      first|(rw[ZD,ZI];exact hr7b)|(simp only[if_true,ZD,ZI];exact hr7b)
     |false =>
      refine EvC.condF (by simp only[sB,Za]) ?_
      repeat' (first|(refine EvC.skip ?_;try simp only[sB,reduceCtorEq]))
      exact⟨_,_,_,_,rfl,rfl,hxc,by first|(rw[List.append_nil,ZI];exact hr7)|(simp only[Zd,if_false,List.append_nil,ZI];exact hr7),(by simp only[sG,Za,g7])⟩
    clear g1 g2 g6 g7 hr7 hr6 hxc hlbc tm;rintro st ⟨tm,o,v,Hd,rfl,ho',hxc,hr7,g7⟩;have hob:∀y∈o,y < 256:=by
     intro y hy;rw[ho'] at hy;rcases List.mem_append.1 hy with h|h
     ·obtain⟨x,hx,rfl⟩:=List.mem_map.1 h;have:=hod x hx;omega
     ·cases neg<;>simp at h
      omega
    have hon:0 < o.length:=by
     have:od≠[]:=by rw[←hdec',z8e hnz];simp
     rw[ho',Zw,Zq];have:=List.length_pos_iff.2 this;omega
    have hol2:o.length≤4097:=by
     rw[ho',Zw,Zq];cases neg<;>simp<;>omega
    have htx:textD neg n=o.reverse:=by
     unfold textD;rw[if_neg hnz,hdec',ho']
    obtain⟨b7,c7,ho7,rfl⟩:=hr7.own (by intro h;rw[List.map_eq_nil_iff] at h;rw[h] at hon;simp at hon);rw[Zq] at g7
    repeat' (first|refine EvC.seq ?_|refine EvC.block ?_|(refine EvC.reg ?_;simp (disch:=first|omega|rfl) only[sB,Za,zsg,g7,z0b]))
    refine EvC.loop (fun k st=>∃(tm:Tr Value) (S:List Nat) (i:Nat) (He:Heap),st=⟨tm,[],He⟩∧k=o.length - i∧2*i≤o.length∧S.length=o.length∧(∀j,j < o.length→S[j]?=if j < i∨o.length - i≤j then o[o.length - 1 - j]? else o[j]?)∧HX H3 He ∧
     OwnS He 5 1 H3.next (S.map fun x=>[u8V x]) b7 c7∧tm.get 7=some (.slice (some ⟨b7,0,none⟩) o.length c7)∧tm.get 10=some (.int .i64 (i:Nat))∧tm.get 11=some (.int .i64 ((o.length:Int) - 1 - (i:Int)))) ?_ o.length _ ?_
    ·clear g7 ho7 hr7 hxc tm;rintro k0 st ⟨tm,S,i,He,rfl,hk0,hi2,hSl,hS,hxc,ho7,g7,g10,g11⟩;by_cases hlt:2*i+1 < o.length
     ·obtain⟨k,hk⟩:∃k,k=o.length - 1 - i:=⟨_,rfl⟩
      have e1:((o.length:Int) - 1 - (i:Int))=(k:Int):=by omega
      rw[e1] at g11;have hxi:S[i]?=some S[i]:=Zc (by omega);have hxk:S[k]?=some S[k]:=Zc (by omega);generalize S[i]=x at hxi;generalize S[k]=y at hxk;have hldi:=ho7.load (i:=i) (x:=[u8V x]) (by rw[ZG,hxi];rfl);have hldk:=ho7.load (i:=k) (x:=[u8V y]) (by rw[ZG,hxk];rfl);rw[Nat.mul_one] at hldi hldk;unfold u8V at hldi hldk;obtain⟨cs,hgb,hcl,_⟩:=ho7.row;rw[Zq,hSl,Nat.mul_one] at hcl;have hk1:i+1≤cs.length:=by omega
      have hk2:k+1≤(Hb.splice cs i [Value.int .u8 (y:Int)]).length:=by rw[z1x (by simp;omega)];omega
      repeat' (first|refine EvC.seq ?_|refine EvC.block ?_|(refine EvC.skip ?_;try simp only[z00])|(refine EvC.reg ?_;simp (disch:=first|omega|rfl) only[sB,Za,g10,g11,decide_eq_true,z0b])|(refine EvC.drw [([(0,0),(1,0),(4,0),(5,0),(6,0),(7,0),(8,0),(9,0),(10,0),(11,0),(12,0)],some 13),([(2,0),(3,0),(14,1)],some 15),([],none)] ?_ ?_;kernel_rfl;simp (disch:=first|omega|rfl) only[sD,sB,Za,Zb,one,reduceCtorEq,zsh,ld5,st5,g7,g10,g11,hldi,hldk,hgb,hk1,hk2,isAlloc,isRead])|(refine EvC.condT ?_ ?_;simp (disch:=first|omega|rfl) only[sB,Za];refine z07 ?_))
      have hb1:OwnS (⟨He.next+16,He.t⟩:Heap) 5 1 H3.next (S.map fun x=>[u8V x]) b7 c7:=ho7.heap rfl (Nat.le_add_right _ _);have hb2:=hb1.set (cs:=cs) hgb (i:=i) (y:=[u8V y]) (by simp;omega) rfl rfl;have hb3:=hb2.set z94 (i:=k) (y:=[u8V x]) (by simp;omega) rfl rfl;rw[Nat.mul_one,Nat.mul_one] at hb3;have hoi:o[i]?=some x:=by rw[←hxi,hS i (by omega),if_neg (by omega)]
      have hok:o[k]?=some y:=by rw[←hxk,hS k (by omega),if_neg (by omega)]
      have hmap:(((S.map fun x=>[u8V x]).set i [u8V y]).set k [u8V x])=((S.set i y).set k x).map fun x=>[u8V x]:=by simp [List.map_set]
      rw[hmap] at hb3;refine⟨o.length - (i+1),by omega,_,(S.set i y).set k x,i+1,_,rfl,rfl,by omega,by simp [hSl],fun j hj=>?_,((hxc.bump 16).put (i:=b7) ho7.lo (Zh ho7.hi (Nat.le_add_right _ _)) _).put (i:=b7) ho7.lo (Zh ho7.hi (Nat.le_add_right _ _)) _,hb3,(by simp only[sG,Za,g7]),(by simp only[sB,Za];rfl),by simp only[sB,Za];first|done|(congr 1;omega)⟩;by_cases hjk:j=k
      ·rw[hjk,List.getElem?_set_self (by simp;omega),if_pos (by omega),←hoi]
       first|done|(congr 1;done)|(congr 1;omega)
      ·rw[List.getElem?_set_ne (by omega)];by_cases hji:j=i
       ·rw[hji,List.getElem?_set_self (by omega),if_pos (by omega),←hok]
        first|done|(congr 1;done)|(congr 1;omega)
       ·rw[List.getElem?_set_ne (by omega),hS j hj];by_cases hc:j < i∨o.length - i≤j
        ·rw[if_pos hc,if_pos (by omega)]
        ·rw[if_neg hc,if_neg (by omega)]
     ·have hrev:S=o.reverse:=by
       apply List.ext_getElem?;intro j;by_cases hj:j < o.length
       ·rw[hS j hj,List.getElem?_reverse hj];split
        ·rfl
        ·congr 1;omega
       ·rw[Zy (by omega),Zy (by simp;omega)]
      have hrd:RdS He (S.map u8V) (some ⟨b7,0,none⟩) c7:=OwnS.rds (by rw[ZI];exact ho7);obtain⟨b8,o8,h8,hload⟩:=hrd.all (by intro h;rw[List.map_eq_nil_iff] at h;rw[h] at hSl;simp at hSl;omega);cases h8;rw[Zq,hSl] at hload;obtain⟨t,hdb,ht⟩:=zar (c:=c7) (l:=S) hload (by omega);have hcon:=zap (P:=Tryz.prog) (src:=150) (dst:=9) (e:=5) (by kernel_rfl) (by kernel_rfl) (by kernel_rfl) hdb
      repeat' (first|refine EvC.seq ?_|(refine EvC.exit ?_;try simp only[sB])|(refine EvC.ret ?_)|(refine EvC.reg ?_;simp (disch:=first|omega|rfl) only[sB,Za,g7,g10,g11,hcon,decide_eq_false])|(refine EvC.condF ?_ ?_;simp (disch:=first|omega|rfl) only[sB,Za];refine z07 ?_))
      refine z3g rfl (by simp only[sG,Za]) (by simp only[sG,Za]) ⟨⟨t,rfl,?_⟩,(hx0.trans hx13).trans hxc⟩;unfold bl;rw[ht,ZI,htx,←hrev];have:∀l:List Nat,(∀y∈l,y < 256)→l.map (UInt8.toNat ∘ UInt8.ofNat)=l:=by
       intro l hl
       conv=>rhs;rw[←List.map_id l]
       apply List.map_congr_left;intro y hy;have:=hl y hy;simp [UInt8.toNat_ofNat];omega
      exact this S fun y hy=>hob y (by rw[hrev] at hy;exact List.mem_reverse.1 hy)
    ·refine⟨_,o,0,_,rfl,rfl,by omega,rfl,fun j hj=>?_,hxc,ho7,(by simp only[sG,Za,g7]),(by simp only[sB,Za];rfl),by simp only[sB,Za];congr 1;omega⟩;rw[if_neg (by omega)]
   ·have hM1:0 < M.length:=List.length_pos_iff.2 hM0;have hvM:=z8f (B:=4294967296) (by omega) hM0 hMn;obtain⟨b6,c6,ho6,rfl⟩:=hr6.own (by simpa using hM0);rw[Zq] at g6
    repeat' (first|refine EvC.seq ?_|refine EvC.block ?_|(refine EvC.skip ?_;try simp only[z00])|(refine EvC.reg ?_;simp (disch:=first|omega|rfl) only[sB,Za,z6s,g6,decide_eq_true,z0b])|(refine EvC.condT ?_ ?_;simp (disch:=first|omega|rfl) only[sB,Za];refine z07 ?_))
    refine EvC.loop (fun k st=>∃tm q r Hd,st=⟨tm,[],Hd⟩∧k≤M.length∧q.length=M.length - k∧(∀y∈q,y < 4294967296)∧r < 10∧valB 4294967296 (M.take k)+4294967296 ^ k*(10*valB 4294967296 q+r)=valB 4294967296 M∧HX H3 Hd ∧
     OwnS Hd 151 1 H3.next ((M.take k++q).map fun x=>[u32V x]) b6 c6∧RepO Hd 5 1 H3.next (od.map fun x=>[u8V (48+x)]) v7∧tm.get 1=some (.int .i64 10)∧tm.get 2=some (.pointer (some ⟨H.next,0,none⟩)) ∧
     tm.get 6=some (.slice (some ⟨b6,0,none⟩) M.length c6)∧tm.get 7=some v7∧tm.get 8=some (.int .u32 (r:Nat))∧tm.get 9=some (.int .i64 ((k:Int) - 1))) ?_ M.length _ ?_
    ·clear g1 g2 g6 g7 hxc hr6 hr7 ho6 tm;rintro k st ⟨tm,q,r,Hd,rfl,hk,hq,hqb,hr,hinv,hxc,ho6,hr7,g1,g2,g6,g7,g8,g9⟩;cases k with
     |zero =>
      rw[List.take_zero,List.nil_append] at ho6;simp only[List.take_zero,valB,Nat.pow_zero,ZL,Nat.zero_add] at hinv;have hqM:q.length=M.length:=by omega
      repeat' (first|refine EvC.seq ?_|(refine EvC.exit ?_;try simp only[sB,Za,reduceCtorEq])|(refine EvC.reg ?_;simp (disch:=first|omega|rfl) only[sB,Za,znq,g6,g9,decide_eq_false])|(refine EvC.condF ?_ ?_;simp (disch:=first|omega|rfl) only[sB,Za];refine z07 ?_))
      have hrq:RdS Hd (q.map u32V) (some ⟨b6,0,none⟩) c6:=OwnS.rds (by rw[ZI];exact ho6);rw[←hqM];refine(zcc (fun _ _=>rfl) (by decide) hrq).mono ?_;rintro v H' ⟨m,rfl,hm,hz,hn0,rfl⟩;have hmost:od.length+1≤most:=by
       have:=z5f (e:=mostBits) hvM (hle hM0) (by rw[←z82];exact hn);simp [mostBits] at this;simp [most];omega
      obtain⟨H5,v5,hap,hr7b,hn5,hx5,hk5⟩:=hr7.push zkx (y:=[u8V (48+r)]) rfl rfl (by simpa using hmost) hxc.next;unfold u8V at hap
      repeat' (first|(refine EvC.reg ?_;simp (disch:=first|omega|rfl) only[sB,Za,g7,g8]))
      rw[z1b us9 (show r < _ from by show _ < 36;omega),zl8 (by decide) hr]
      repeat' (first|(refine z0i ?_;simp (disch:=first|omega|rfl) only[sB,Za,Value.cells,one,layC,z9d,hap]))
      have hvq:valB 4294967296 (q.take m)=valB 4294967296 q:=z4u hz;have hq10:valB 4294967296 q=valB 4294967296 M / 10:=by omega
      have hr10:r=valB 4294967296 M % 10:=by omega
      have hod2:((od++[r]).map fun x=>[u8V (48+x)])=(od.map fun x=>[u8V (48+x)])++[[u8V (48+r)]]:=by simp
      have ho7:RepO H5 151 1 H3.next ((q.take m).map fun x=>[u32V x]) (.slice (some ⟨b6,0,none⟩) m c6):=by
       have h1:=RepO.takeO ho6 m (by simpa using hm);rw[←List.map_take] at h1;exact h1.beside hk5 (by omega) (by decide)
      refine⟨valB 4294967296 (q.take m),by rw[hvq];omega,_,q.take m,od++[r],_,_,_,rfl,rfl,fun y hy=>hqb y (List.mem_of_mem_take hy),by rw[Zl];omega,?_,?_,?_,?_,?_,hx5 _ hxc (Zg _),ho7,by rw[hod2];exact hr7b,(by simp only[sG,Za,g1]),(by simp only[sG,Za,g2]),(by simp only[sG,Za]),(by simp only[sG,Za])⟩
      ·rw[List.getLast?_eq_getElem?,Zl,Nat.min_eq_left hm];by_cases h0:m=0
       ·subst h0;simp
       ·rw[ZF,if_pos (by omega)];exact hn0 h0
      ·rw[hdec,z8e hvM,hvq,hq10,←hr10];simp
      ·intro _;rw[hvq,Zw,List.length_singleton,Nat.pow_succ];have h1:=hle hM0;have h2:valB 4294967296 q*(10 ^ od.length*10)=(valB 4294967296 q*10)*10 ^ od.length:=by rw[Nat.mul_comm (10 ^ od.length) 10,Nat.mul_assoc]
       rw[h2];exact Zo (Nat.mul_le_mul_right _ (by omega)) h1
      ·have:=z5f (e:=mostBits) hvM (hle hM0) (by rw[←z82];exact hn);simp [mostBits] at this;simp;omega
      ·intro y hy;rcases List.mem_append.1 hy with h|h
       ·exact hod y h
       ·simp at h;omega
     |succ j =>
      have e0:(((j+1:Nat):Int) - 1)=(j:Int):=by omega
      rw[e0] at g9;have hx:M[j]?=some M[j]:=Zc (by omega);have hxb:M[j] < 4294967296:=hMb _ (Zx _);have htk:M.take (j+1)=M.take j++[M[j]]:=by rw[List.take_add_one,hx];rfl
      generalize M[j]=x at hx hxb htk;rw[htk] at hinv ho6;have hlj:(M.take j).length=j:=by rw[Zl];omega
      have hlm:(((M.take j++[x])++q).map fun x=>[u32V x]).length=M.length:=by simp;omega
      have hld:=ho6.load (i:=j) (x:=[u32V x]) (by rw[List.append_assoc,ZG,List.getElem?_append_right (by omega),hlj];simp);rw[Nat.mul_one] at hld;unfold u32V at hld
      repeat' (first|refine EvC.seq ?_|refine EvC.block ?_|(refine EvC.skip ?_;try simp only[z00])|(refine EvC.reg ?_;simp (disch:=first|omega|rfl) only[sB,Za,zj5,zky,zqw,zu3,g1,g6,g8,g9,hld,decide_eq_true,wrap_u32])|(refine EvC.condT ?_ ?_;simp (disch:=first|omega|rfl) only[sB,Za];refine z07 ?_))
      refine(znu (fun _ _=>rfl) (by decide) hr hxb hxc.wf).mono ?_;rintro v H' ⟨rfl,hxd⟩;have ho6':=ho6.keep hxd;have hr7':=hr7.keep hxd;obtain⟨cs,hgb,hcl,_⟩:=ho6'.row;rw[hlm,Nat.mul_one] at hcl;have hk1:j+1≤cs.length:=by omega
      repeat' (first|(refine EvC.reg ?_;simp (disch:=first|omega|rfl) only[sB,Za,g9,z0b])|(refine z0i ?_;simp (disch:=first|omega|rfl) only[sB,Za,one,zj5,zsj,hgb,hk1]))
      have hset:=ho6'.set hgb (i:=j) (y:=[u32V ((r*4294967296+x) / 10)]) (by rw[hlm];omega) rfl rfl;rw[Nat.mul_one] at hset;have hset2:(((M.take j++[x])++q).map fun x=>[u32V x]).set j [u32V ((r*4294967296+x) / 10)]=(M.take j++((r*4294967296+x) / 10 :: q)).map fun x=>[u32V x]:=by
       rw[List.append_assoc,ZD,List.set_append_right _ _ (by rw[Zq,hlj];exact Zg _),Zq,hlj,Nat.sub_self];simp
      rw[hset2] at hset;have hinv2:=zl4 (B:=4294967296) (x:=x) (r:=r) (low:=M.take j) (q:=q);rw[hlj] at hinv2;refine⟨j,by omega,_,(r*4294967296+x) / 10 :: q,(r*4294967296+x) % 10,_,rfl,by omega,by simp;omega,?_,by omega,by rw[←hinv2];exact hinv,(hxc.trans hxd).put ho6'.lo ho6'.hi _,hset,hr7'.other hgb (by decide) _,(by simp only[sG,Za,g1]),(by simp only[sG,Za,g2]),(by simp only[sG,Za,g6]),(by simp only[sG,Za,g7]),(by simp only[sG,Za]),(by simp only[sG,Za])⟩;intro y hy;rcases List.mem_cons.1 hy with h|h
      ·rw[h];exact znr hxb hr
      ·exact hqb y h
    ·exact⟨_,[],0,_,rfl,Zg _,by simp,by simp,by omega,by simp [valB],hxc,by simpa using ho6,hr7,(by simp only[sG,Za,g1]),(by simp only[sG,Za,g2]),(by simp only[sG,Za,g6]),(by simp only[sG,Za,g7]),(by simp only[sB,Za];rfl),(by simp only[sG,Za])⟩
  ·exact⟨_,M0,[],.slice (some ⟨b,0,none⟩) M0.length c2,_,_,rfl,rfl,hLm,by omega,hlast,by rw[hvm];rfl,fun _=>by rw[hvm];simp,by simp,by simp,hx4,.inr ⟨b,c2,ho,by simp⟩,RepO.empty,(by simp only[sG,Za,reduceCtorEq]),(by simp only[sG,Za,reduceCtorEq]),(by simp only[sG,Za,reduceCtorEq]),(by simp only[sG,Za,reduceCtorEq])⟩
theorem zu7 (a:Nat):(a:Int).tmod 2=((a % 2:Nat):Int):=rfl
theorem zu8 (a:Nat):(a:Int).tdiv 2=((a / 2:Nat):Int):=rfl
def bitsOK (L:List Nat):Prop:=(∀y∈L,y < 2)∧L.getLast?≠some 0
theorem znx {L:List Nat}(h:bitsOK L):nbits (valB 2 L)=L.length:=by
  rcases List.eq_nil_or_concat L with rfl|⟨l,x,rfl⟩
  · rfl
  · rw[List.concat_eq_append] at *;have hx:x≠0:=by have:=h.2;simpa using this
    have hx2:x < 2:=h.1 x (by simp);have hx1:x=1:=by omega
    subst hx1;have:=z9e (l:=l) (x:=1) (e:=1) (fun y hy=>h.1 y (by simp [hy])) (by omega);rw[show (2:Nat) ^ 1=2 from rfl] at this;rw[this];have h1:nbits 1=1:=by decide
    rw[h1];simp
set_option maxHeartbeats 2000000 in
theorem zl9 {s:ByteArray}(hs:s.size≤9223372036854775807) {H:Heap}(hw:H.wf) :
    EvF Tryz.prog okT 99 [.string s,.int .i64 10] H fun v H'=>ParseT H' i64V 2 (bl s) v∧HX H H':=by
  refine EvF.enter rfl Tryz.func99 (by decide) rfl ?_;(repeat refine EvC.seq ?_);refine EvC.reg ?_;simp (disch:=first|omega|rfl) only[sA,initTm,dAlloc,znp];have hx0:=(HX.refl hw).new (some (.row [.bool false,.slice none 0 0] 128));obtain⟨H1,hH1⟩:∃H1,H1=H.new (some (.row [.bool false,.slice none 0 0] 128)):=⟨_,rfl⟩
  have hn1:H1.next=H.next+1:=by rw[hH1];rfl
  have hg1:H1.get H.next=some (.row [.bool false,.slice none 0 0] 128):=by rw[hH1];exact z0o
  rw[←hH1] at hx0 ⊢;(repeat refine EvC.seq ?_);refine EvC.reg ?_;simp (disch:=first|omega|rfl) only[sB,Za,reduceCtorEq,decide_eq_false,Zd];refine EvC.condF (by simp (disch:=first|omega|rfl) only[sB,Za,reduceCtorEq]) ?_;(try refine EvC.skip ?_);(try simp only[z00,z01]);(repeat refine EvC.seq ?_);refine EvC.join (fun st=>∃tm,st=⟨tm,[],H1⟩∧tm.get 0=some (.string s)∧tm.get 1=some (.int .i64 10)∧tm.get 4=some (.pointer (some ⟨H.next,0,none⟩))∧tm.get 6=some (.bool (negS (bl s)))) ?_ ?_
  · by_cases h0:s.size=0
    · have hb:negS (bl s)=false:=by
        have:bl s=[]:=List.length_eq_zero_iff.1 (by rw[z2m];exact h0);rw[this];rfl
      rw[hb];refine EvC.reg ?_;simp (disch:=first|omega|rfl) only[sB,Za,reduceCtorEq,ln9,decide_eq_false,Zd];exact⟨_,rfl,(by simp only[sG,reduceCtorEq]),(by simp only[sG,Za,reduceCtorEq]),(by simp only[sG,Za,reduceCtorEq]),(by simp only[sG,Za,reduceCtorEq])⟩
    · have hb:negS (bl s)=(byteAt s 0 == 45):=by
        have:=zau s (i:=0) (by omega);unfold negS;rw[List.head?_eq_getElem?,this];simp
      rw[hb];by_cases h45:byteAt s 0=45
      · refine EvC.reg ?_;simp (disch:=first|omega|rfl) only[sB,Za,reduceCtorEq,Zv,ln9,decide_eq_true,iy9,z0k];exact⟨_,rfl,(by simp only[sG,reduceCtorEq]),(by simp only[sG,Za,reduceCtorEq]),(by simp only[sG,Za,reduceCtorEq]),by simp only[sB,Za,reduceCtorEq];first|rfl|simp [h45]⟩
      · refine EvC.reg ?_;simp (disch:=first|omega|rfl) only[sB,Za,reduceCtorEq,Zv,ln9,decide_eq_true,iy9,z0m];exact⟨_,rfl,(by simp only[sG,reduceCtorEq]),(by simp only[sG,Za,reduceCtorEq]),(by simp only[sG,Za,reduceCtorEq]),by simp only[sB,Za,reduceCtorEq];first|rfl|simp [h45]⟩
  rintro st ⟨tm,rfl,g0,g1,g4,g6⟩;try simp (disch:=first|omega|rfl) only[z00]
  (repeat refine EvC.seq ?_);refine EvC.reg ?_;simp (disch:=first|omega|rfl) only[sA,g6];(repeat refine EvC.seq ?_);have hbody:bodyS (bl s)=if negS (bl s) then (bl s).tail else bl s:=rfl
  refine EvC.join (fun st=>∃tm s',st=⟨tm,[],H1⟩∧bl s'=bodyS (bl s)∧s'.size≤9223372036854775807∧tm.get 0=some (.string s')∧tm.get 1=some (.int .i64 10)∧tm.get 4=some (.pointer (some ⟨H.next,0,none⟩))∧tm.get 6=some (.bool (negS (bl s)))) ?_ ?_
  · cases hneg:negS (bl s) with
    |true =>
      have h1:1≤s.size:=by
        rw[←z2m];cases hb:bl s with
        |nil=>rw[hb] at hneg;simp [negS] at hneg
        |cons x l=>simp
      have hsl:dSl Tryz.prog 9 (.string s) (some (.int .i64 1)) none none H1=some (.val (.string (s.extract 1 s.size)) H1):=zan (l:=1) us9 h1;rw[hneg] at g6 hbody;refine EvC.condT (by simp only[sB]) ?_;refine EvC.reg ?_;simp (disch:=first|omega|rfl) only[sB,Za,reduceCtorEq,g0,hsl];refine⟨_,s.extract 1 s.size,rfl,?_,?_,(by simp only[sG,reduceCtorEq]),(by simp only[sG,Za,reduceCtorEq,g1]),(by simp only[sG,Za,reduceCtorEq,g4]),(by simp only[sG,Za,reduceCtorEq,g6])⟩
      · rw[zav,hbody,Zi (by rw[z2m];exact Zg _)];simp
      · have:(s.extract 1 s.size).size≤s.size:=by rw[ByteArray.size_extract];omega
        omega
    |false =>
      rw[hneg] at g6 hbody;refine EvC.condF (by simp only[sB]) (EvC.skip ?_);try simp (disch:=first|omega|rfl) only[z00]
      exact⟨_,s,rfl,by rw[hbody];rfl,hs,(by simp only[sG,reduceCtorEq,g0]),(by simp only[sG,Za,g1]),(by simp only[sG,Za,g4]),(by simp only[sG,Za,g6])⟩
  clear g0 g1 g4 g6;rintro st ⟨tm1,s',rfl,hbl,hs',g0,g1,g4,g6⟩;clear tm;generalize hneg:negS (bl s)=neg at g6;by_cases hsz:s'.size=0
  · repeat' (first|refine EvC.seq ?_|(refine EvC.ret ?_;try simp only[z04,z02])|(refine EvC.reg ?_;simp (disch:=first|omega|rfl) only[sB,Za,Zb,Value.cells,one,layC,zj3,zc7,g0,g4,z8d,decide_eq_true,hg1])|(refine EvC.condT ?_ ?_;simp (disch:=first|omega|rfl) only[sB,Za];refine z07 ?_))
    refine z09 rfl (by simp only[sB,Za,g4];rfl) (by simp only[sB,Zb,cutC,zdy]) (by simp only[sG,Za]) ⟨.inl ⟨?_,12,by omega,rfl⟩,hx0.put (Zg _) (by omega) _⟩;have:bodyS (bl s)=[]:=by rw[←hbl];exact List.length_eq_zero_iff.1 (by rw[z2m];exact hsz)
    unfold parseD;rw[if_pos this]
  try simp (disch:=first|omega|rfl) only[z00]
  (repeat refine EvC.seq ?_);refine EvC.reg ?_;simp (disch:=first|omega|rfl) only[sB,g0,z8d,decide_eq_false];refine EvC.condF (by simp (disch:=first|omega|rfl) only[sB,Za]) ?_;(try refine EvC.skip ?_);(try simp only[z00,z01]);(repeat refine EvC.seq ?_);refine EvC.reg ?_;simp (disch:=first|omega|rfl) only[sA];(repeat refine EvC.seq ?_);refine EvC.join (fun st=>∃tm,st=⟨tm,[],H1⟩∧(bodyS (bl s)).any (fun x=>10≤digV x)=false∧tm.get 0=some (.string s')∧tm.get 1=some (.int .i64 10)∧tm.get 4=some (.pointer (some ⟨H.next,0,none⟩))∧tm.get 6=some (.bool neg)) ?_ ?_
  · refine EvC.block (EvC.loop (fun k st=>∃tm i,st=⟨tm,[],H1⟩∧k=s'.size - i∧i≤s'.size∧(∀x∈(bl s').take i,digV x < 10)∧tm.get 0=some (.string s')∧tm.get 1=some (.int .i64 10)∧tm.get 4=some (.pointer (some ⟨H.next,0,none⟩))∧tm.get 6=some (.bool neg)∧tm.get 7=some (.int .i64 (i:Nat))) ?_ s'.size _ ?_)
    · rintro k st ⟨tm,i,rfl,hk,hi,hall,f0,f1,f4,f6,f7⟩;by_cases hlt:i < s'.size
      · have hgi:=zau s' hlt
        repeat' (first|refine EvC.seq ?_|refine EvC.block ?_|(refine EvC.skip ?_;try simp only[z00])|(refine EvC.reg ?_;simp (disch:=first|omega|rfl) only[sB,Za,reduceCtorEq,ln9,ix9,zsf,f0,f1,f7,decide_eq_true])|(refine EvC.condT ?_ ?_;simp (disch:=first|omega|rfl) only[sB,Za];refine z07 ?_))
        refine(zhj (fun _ _=>rfl) (by decide) _ (z6p s' i) H1).mono ?_;rintro v H' ⟨rfl,rfl⟩;by_cases hd:10≤digV (byteAt s' i)
        · repeat' (first|refine EvC.seq ?_|(refine EvC.ret ?_;try simp only[z04,z02])|(refine EvC.reg ?_;simp (disch:=first|omega|rfl) only[sB,Za,Zb,Value.cells,one,layC,zj3,zc7,f4,hg1])|(refine z0i ?_;simp (disch:=first|omega|rfl) only[sA,decide_eq_true])|(refine EvC.condT ?_ ?_;simp (disch:=first|omega|rfl) only[sB,Za];refine z07 ?_))
          refine z09 rfl (by simp only[sB,Za,f4];rfl) (by simp only[sB,Zb,cutC,zdy]) (by simp only[sG,Za]) ⟨.inl ⟨?_,12,by omega,rfl⟩,?_⟩
          · have hm:byteAt s' i∈bodyS (bl s):=by rw[←hbl];exact List.mem_of_getElem? hgi
            unfold parseD;rw[if_neg (fun h=>by rw[h] at hm;cases hm),if_pos (List.any_eq_true.2 ⟨_,hm,decide_eq_true hd⟩)]
          · exact hx0.put (Zg _) (by omega) _
        · repeat' (first|(refine EvC.skip ?_;try simp only[sA])|(refine EvC.reg ?_;simp (disch:=first|omega|rfl) only[sB,Za,f7,z0b])|(refine z0i ?_;simp (disch:=first|omega|rfl) only[sA,decide_eq_false])|(refine EvC.condF ?_ ?_;simp (disch:=first|omega|rfl) only[sB,Za];refine z07 ?_))
          refine⟨s'.size - (i+1),by omega,_,i+1,rfl,rfl,by omega,fun x hx=>?_,(by simp only[sG,reduceCtorEq,f0]),(by simp only[sG,Za,f1]),(by simp only[sG,Za,f4]),(by simp only[sG,Za,f6]),(by simp only[sB,Za];rfl)⟩;rw[List.take_add_one,hgi] at hx;rcases List.mem_append.1 hx with h|h
          · exact hall x h
          · simp at h;rw[h];omega
      · repeat' (first|refine EvC.seq ?_|(refine EvC.exit ?_;try simp only[sB])|(refine EvC.reg ?_;simp (disch:=first|omega|rfl) only[sB,Za,reduceCtorEq,ln9,f0,f7,decide_eq_false])|(refine EvC.condF ?_ ?_;simp (disch:=first|omega|rfl) only[sB,Za];refine z07 ?_))
        refine⟨_,rfl,?_,(by simp only[sG,reduceCtorEq,f0]),(by simp only[sG,Za,f1]),(by simp only[sG,Za,f4]),(by simp only[sG,Za,f6])⟩;rw[List.any_eq_false];intro x hx;rw[←hbl] at hx;have:=hall x (by rw[Zi (by rw[z2m];omega)];exact hx);simp;omega
    · exact⟨_,0,rfl,by omega,by omega,by simp,(by simp only[sG,reduceCtorEq,g0]),(by simp only[sG,Za,g1]),(by simp only[sG,Za,g4]),(by simp only[sG,Za,g6]),(by simp only[sB,Za];rfl)⟩
  clear g0 g1 g4 g6 tm1;rintro st ⟨tm,rfl,hany,g0,g1,g4,g6⟩;have hpd:parseD (bl s)=numD ((bl s').map digV) 0:=by
    have:bodyS (bl s)≠[]:=by rw[←hbl];intro h;have:=congrArg List.length h;rw[z2m] at this;exact hsz this
    unfold parseD;rw[if_neg this,if_neg (by rw[hany];simp),hbl]
  have hdl:∀x∈bl s',digV x < 10:=by
    rw[←hbl,List.any_eq_false] at hany;intro x hx;have:=hany x hx;simp at this;omega
  repeat' (first|refine EvC.seq ?_|refine EvC.block ?_|(refine EvC.reg ?_;simp (disch:=first|omega|rfl) only[sA]))
  refine EvC.loop (fun k st=>∃tm i n L v Hc,st=⟨tm,[],Hc⟩∧k=s'.size - i∧i≤s'.size∧((n < big∧numD (((bl s').map digV).drop i) n=numD ((bl s').map digV) 0)∨(big≤n∧numD ((bl s').map digV) 0=none))∧valB 2 L=n∧bitsOK L∧L.length≤4106∧HX H1 Hc ∧
    RepO Hc 3 1 H1.next (L.map fun x=>[i64V x]) v∧tm.get 0=some (.string s')∧tm.get 1=some (.int .i64 10)∧tm.get 4=some (.pointer (some ⟨H.next,0,none⟩))∧tm.get 6=some (.bool neg)∧tm.get 8=some v ∧
    tm.get 9=some (.int .i64 (i:Nat))) ?_ s'.size _ ?_
  · clear g0 g1 g4 g6 tm;rintro k st ⟨tm,i,n,L,v,Hc,rfl,hk,hi,hnum,hval,hL,hLl,hxc,hrep,g0,g1,g4,g6,g8,g9⟩;have hbits:=znx hL;obtain⟨a,c,rfl,hLc,hcm⟩:=hrep.slice;rw[Zq] at hLc g8 hrep;have hcm':c≤9223372036854775807:=hcm;by_cases hlt:i < s'.size∧L.length≤4096
    · obtain⟨hlt,hl4⟩:=hlt;have hgi:=zau s' hlt;have hdi:digV (byteAt s' i) < 10:=hdl _ (List.mem_of_getElem? hgi)
      repeat' (first|refine EvC.seq ?_|refine EvC.block ?_|(refine EvC.skip ?_;try simp only[z00])|(refine EvC.reg ?_;simp (disch:=first|omega|rfl) only[sB,Za,reduceCtorEq,ln9,ix9,zsf,ln77,g0,g8,g9,decide_eq_true])|(refine EvC.condT ?_ ?_;simp (disch:=first|omega|rfl) only[sB,Za];refine z07 ?_))
      refine(zhj (fun _ _=>rfl) (by decide) _ (z6p s' i) Hc).mono ?_;rintro v' H' ⟨rfl,rfl⟩
      repeat' (first|refine EvC.seq ?_|refine EvC.block ?_|(refine EvC.reg ?_;simp (disch:=first|omega|rfl) only[sA]))
      have hxw:=hxc.wf;refine EvC.loop (fun k' st=>∃(tm:Tr Value) (k:Nat) (d:List Nat) (cy:Nat) (v:Value) (Hd:Heap),st=⟨tm,[],Hd⟩∧k'=(L.length - k)*20+cy∧d.length=k∧(∀y∈d,y < 2)∧cy < 10∧k+cy≤L.length+10 ∧
        valB 2 d+2 ^ k*(10*valB 2 (L.drop k)+cy)=10*valB 2 L+digV (byteAt s' i)∧HX H' Hd ∧
        RepO Hd 3 1 H'.next (d.map fun x=>[i64V x]) v∧tm.get 0=some (.string s')∧tm.get 1=some (.int .i64 10)∧tm.get 4=some (.pointer (some ⟨H.next,0,none⟩))∧tm.get 6=some (.bool neg) ∧
        tm.get 8=some (.slice a L.length c)∧tm.get 9=some (.int .i64 (i:Nat))∧tm.get 10=some (.int .i64 (cy:Nat))∧tm.get 11=some v∧tm.get 12=some (.int .i64 (k:Nat))) ?_ ((L.length - 0)*20+digV (byteAt s' i)) _ ?_
      · clear g0 g1 g4 g6 g8 g9 tm;rintro k2 st ⟨tm,k,d,cy,v,Hd,rfl,hk2,hdk,hdb,hcy,hkc,hinv,hxd,hrd,g0,g1,g4,g6,g8,g9,g10,g11,g12⟩;have hrb:=(hrep.keep hxd)
        obtain⟨-,hrds⟩:=RepO.rds' (vs:=L.map i64V) (by rw[ZI];exact hrb);by_cases hgo:k < L.length∨0 < cy
        · obtain⟨x,hx⟩:∃x,x=L.getD k 0:=⟨_,rfl⟩
          have hxb:x < 2:=by
            rw[hx,List.getD_eq_getElem?_getD];cases hg:L[k]? with
            |none=>simp
            |some y=>exact hL.1 y (List.mem_of_getElem? hg)
          have hinv2:valB 2 d+2 ^ d.length*(10*valB 2 (x :: L.drop (k+1))+cy)=10*valB 2 L+digV (byteAt s' i):=by
            rw[←hinv,hdk];by_cases hkl:k < L.length
            · rw[ZB hkl,hx,List.getD_eq_getElem?_getD,Zc hkl];rfl
            · rw[ZM (show L.length≤k by omega),ZM (show L.length≤k+1 by omega),hx,List.getD_eq_getElem?_getD,Zy (by omega)];rfl
          rw[←zl2,hdk] at hinv2;have e1:((x:Int)*10+(cy:Int))=((x*10+cy:Nat):Int):=by omega
          have hgd:=zsn (fun _ _=>rfl) (by decide) (k:=k) hrds (ok:=okT);rw[←hx] at hgd;obtain⟨H5,v5,hap,hrd5,hn5,hx5,hk5⟩:=hrd.push ap77 (y:=[i64V ((x*10+cy) % 2)]) rfl rfl (by simp [most];omega) hxd.next;unfold i64V at hap;have hq:(x*10+cy) / 2 < 10:=by omega
          have hd2:((d++[(x*10+cy) % 2]).map fun x=>[i64V x])=(d.map fun x=>[i64V x])++[[i64V ((x*10+cy) % 2)]]:=by simp
          rcases Nat.lt_or_ge k L.length with hkl|hkl
          all_goals
            repeat' (first|refine EvC.seq ?_|refine EvC.block ?_|(refine EvC.skip ?_;try simp only[z00])|(refine EvC.reg ?_;simp (disch:=first|omega|rfl) only[sB,Za,ln77,ztx,g8,g10,g12,decide_eq_true,decide_eq_false,Zd])|(refine EvC.condT ?_ ?_;simp (disch:=first|omega|rfl) only[sB,Za];refine z07 ?_))
            refine hgd.mono ?_;rintro v H2 ⟨rfl,rfl⟩
            repeat' (first|refine EvC.seq ?_|(refine EvC.reg ?_;simp (disch:=first|omega|rfl) only[sB,Za,Value.cells,one,layC,zku,g11,g12,z0b,bRem,bQuo,zu7,zu8,hap])|(refine z0i ?_;simp (disch:=first|omega|rfl) only[sB,Za,g1,g10,e1,z0b]))
            refine⟨(L.length - (k+1))*20+(x*10+cy) / 2,?_,_,k+1,d++[(x*10+cy) % 2],(x*10+cy) / 2,_,_,rfl,rfl,by simp [hdk],?_,hq,?_,by rw[←hinv2],hx5 _ hxd (Zg _),by rw[hd2];exact hrd5,(by simp only[sG,reduceCtorEq,g0]),(by simp only[sG,Za,g1]),(by simp only[sG,Za,g4]),(by simp only[sG,Za,g6]),(by simp only[sG,Za,g8]),(by simp only[sG,Za,g9]),(by simp only[sG,Za]),(by simp only[sG,Za]),(by simp only[sB,Za];rfl)⟩
            · first | omega | (have:x=0:=by rw[hx,List.getD_eq_getElem?_getD,Zy (by omega)];rfl
                               omega)
            · intro y hy;rcases List.mem_append.1 hy with h|h
              · exact hdb y h
              · simp at h;omega
            · first | omega | (have:x=0:=by rw[hx,List.getD_eq_getElem?_getD,Zy (by omega)];rfl
                               omega)
        · have hkl:L.length≤k:=by omega
          have hc0:cy=0:=by omega
          subst hc0;rw[ZM hkl] at hinv;simp only[valB,Nat.mul_zero,Nat.add_zero] at hinv;rw[hval] at hinv;obtain⟨a5,c5,rfl,-,-⟩:=hrd.slice;rw[Zq] at g11 hrd;obtain⟨-,hrds5⟩:=RepO.rds' (vs:=d.map i64V) (by rw[ZI];exact hrd)
          repeat' (first|refine EvC.seq ?_|(refine EvC.exit ?_;try simp only[sB,Za])|(refine EvC.reg ?_;simp (disch:=first|omega|rfl) only[sB,Za,ln77,zqs,g8,g10,g11,g12,decide_eq_false,Zd])|(refine EvC.condF ?_ ?_;simp (disch:=first|omega|rfl) only[sB,Za];refine z07 ?_))
          refine(zl6 (fun _ _=>rfl) (by decide) hrds5).mono ?_;rintro v H2 ⟨m,rfl,hm,hz,hn0,rfl⟩
          repeat' (first|(refine EvC.reg ?_;simp (disch:=first|omega|rfl) only[sB,Za,g9,z0b]))
          have hvm:valB 2 (d.take m)=n*10+digV (byteAt s' i):=by rw[z4u hz,hinv];omega
          have hnumi:n < big→numD ((bl s').map digV) 0=if big≤n*10+digV (byteAt s' i) then none else numD (((bl s').map digV).drop (i+1)) (n*10+digV (byteAt s' i)):=by
            intro hnb;rcases hnum with ⟨_,hnum⟩|⟨h,_⟩
            · rw[←hnum,ZB (by simp [z2m];omega),numD];have:((bl s').map digV)[i]'(by simp [z2m];omega)=digV (byteAt s' i):=by
                apply Option.some.inj;rw[←Zc,ZG,hgi];rfl
              rw[this]
            · omega
          have hnb:n < big:=by
            rcases Nat.lt_or_ge n big with h|h
            · exact h
            · have:=z31.2 h;rw[←hval,hbits] at this;omega
          refine⟨s'.size - (i+1),by omega,_,i+1,n*10+digV (byteAt s' i),d.take m,_,_,rfl,rfl,by omega,?_,hvm,⟨fun y hy=>hdb y (List.mem_of_mem_take hy),?_⟩,by rw[Zl];omega,hxc.trans hxd,
            by rw[List.map_take];exact(hrd.takeR (m:=m) (by simpa using hm)).low hxc.next,(by simp only[sG,reduceCtorEq,g0]),(by simp only[sG,Za,g1]),(by simp only[sG,Za,g4]),(by simp only[sG,Za,g6]),(by simp only[sG,Za]),(by simp only[sB,Za];rfl)⟩
          · by_cases hb:big≤n*10+digV (byteAt s' i)
            · exact .inr ⟨hb,by rw[hnumi hnb,if_pos hb]⟩
            · exact .inl ⟨Nat.lt_of_not_le hb,by rw[hnumi hnb,if_neg hb]⟩
          · rw[List.getLast?_eq_getElem?,Zl,Nat.min_eq_left hm];by_cases h0:m=0
            · subst h0;simp
            · rw[ZF,if_pos (by omega)];exact hn0 h0
      · exact⟨_,0,[],digV (byteAt s' i),_,_,rfl,rfl,rfl,by simp,hdi,by omega,by simp [valB],HX.refl hxw,RepO.empty,(by simp only[sG,reduceCtorEq,g0]),(by simp only[sG,Za,g1]),(by simp only[sG,Za,g4]),(by simp only[sG,Za,g6]),(by simp only[sG,Za,g8]),(by simp only[sG,Za,g9]),(by simp only[sG,Za]),(by simp only[sG,Za]),(by simp only[sB,Za];rfl)⟩
    · by_cases hl4:L.length≤4096
      · have hi':i=s'.size:=by omega
        have hnb:n < big:=by
          rcases Nat.lt_or_ge n big with h|h
          · exact h
          · have:=z31.2 h;rw[←hval,hbits] at this;omega
        have hnn:numD ((bl s').map digV) 0=some n:=by
          rcases hnum with ⟨_,hnum⟩|⟨h,_⟩
          · rw[←hnum,ZM (by simp [z2m];omega),numD]
          · omega
        obtain⟨-,hr⟩:=RepO.rds' (vs:=L.map i64V) (by rw[ZI];exact hrep)
        repeat' (first|refine EvC.seq ?_|(refine EvC.skip ?_;try simp only[z00])|(refine EvC.exit ?_;try simp only[sB])|(refine EvC.reg ?_;simp (disch:=first|omega|rfl) only[sB,Za,reduceCtorEq,ln9,ln77,zty,g0,g9,g6,g8,decide_eq_false,Zd])|(refine EvC.condF ?_ ?_;simp (disch:=first|omega|rfl) only[sB,Za];refine z07 ?_))
        refine(znv hr hxc.wf).mono ?_;rintro v H2 ⟨m,rfl,hm,hz,hn0,hx2⟩;have hg2:H2.get H.next=some (.row [.bool false,.slice none 0 0] 128):=by rw[(hxc.trans hx2).keep _ (by omega)];exact hg1
        repeat' (first|(refine EvC.ret ?_)|(refine z0i ?_;simp (disch:=first|omega|rfl) only[sB,Zb,one,zc7,g4,hg2]))
        have hx3:=hxc.trans hx2;have hm':m=L.length:=by
          rcases Nat.lt_or_ge m L.length with h|h
          · have:=hz (L[L.length - 1]'(by omega)) (List.mem_drop_iff_getElem.2 ⟨L.length - 1 - m,by omega,by congr 1;omega⟩);have h2:=hL.2;rw[List.getLast?_eq_getElem?,Zc (by omega),this] at h2;exact absurd rfl h2
          · omega
        subst hm';refine z09 rfl (by simp only[sB,Za,g4];rfl) (by simp only[sB,Zb,cutC,zdy];rfl) (by simp only[sB,Za];rfl) ⟨.inr ⟨n,L,a,c,by rw[hpd,hnn],by rw[hneg],?_,hL.1,hval,hL.2,hl4⟩,(hx0.trans hx3).put (Zg _) (by have:=hx3.next;omega) _⟩;have h3:=(hrep.keep hx2).putlo (i:=H.next) (by omega) (some (.row [.bool (neg && decide (0 < L.length)),.slice a L.length c] 128));exact(RepO.rds' (vs:=L.map i64V) (by rw[ZI];exact h3)).2
      · have hnn:numD ((bl s').map digV) 0=none:=by
          have hb:big≤n:=by
            rw[←z31,←hval,hbits];omega
          rcases hnum with ⟨h,_⟩|⟨_,h⟩
          · omega
          · exact h
        have hg2:Hc.get H.next=some (.row [.bool false,.slice none 0 0] 128):=by rw[hxc.keep _ (by omega)];exact hg1
        by_cases hlt':i < s'.size
        all_goals
          repeat' (first|refine EvC.seq ?_|(refine EvC.exit ?_;try simp only[sB])|(refine EvC.ret ?_;try simp only[z04,z02])|(refine EvC.reg ?_;simp (disch:=first|omega|rfl) only[sB,Za,Zb,Value.cells,one,reduceCtorEq,layC,zj3,zc7,ln9,ln77,g0,g4,g9,g8,decide_eq_true,decide_eq_false,Zd,hg2])|(refine EvC.condT ?_ ?_;simp (disch:=first|omega|rfl) only[sB,Za];refine z07 ?_)|(refine EvC.condF ?_ ?_;simp (disch:=first|omega|rfl) only[sB,Za];refine z07 ?_))
          refine z09 rfl (by simp only[sB,Za,g4];rfl) (by simp only[sB,Zb,cutC,zdy]) (by simp only[sG,Za]) ⟨.inl ⟨?_,10,by omega,rfl⟩,(hx0.trans hxc).put (Zg _) (by have:=hxc.next;omega) _⟩;rw[hpd,hnn]
  · exact⟨_,0,0,[],_,_,rfl,by omega,by omega,.inl ⟨by rw[z82];exact Nat.two_pow_pos _,by simp⟩,rfl,⟨by simp,by simp⟩,by simp,HX.refl hx0.wf,RepO.empty,(by simp only[sG,reduceCtorEq,g0]),(by simp only[sG,Za,g1]),(by simp only[sG,Za,g4]),(by simp only[sG,Za,g6]),(by simp only[sG,Za]),(by simp only[sB,Za];rfl)⟩
theorem zny {H H2:Heap}{vs:List Value}{a:Option Addr}{c:Nat}(h:RdS H vs a c) (hg:vs≠[]→∀b o s,a=some ⟨b,o,s⟩→H2.get b=H.get b):RdS H2 vs a c :=
 ⟨h.len,h.cap,fun i v hv=>by
  obtain⟨b,o,ha,hl⟩:=h.get i v hv;refine⟨b,o,ha,?_⟩;have:=hg (fun h0=>by rw[h0] at hv;simp at hv) b o none ha;rw[←hl];unfold Heap.load Heap.cells;rw[this]⟩
theorem zss {H:Heap}{vs:List Value}{a:Option Addr}{c:Nat}(h:RdS H vs a c) (hw:H.wf) (h0:vs≠[]) {ad:Addr}(ha:a=some ad):ad.block < H.next:=by
 obtain⟨v,r,rfl⟩:=List.exists_cons_of_ne_nil h0;obtain⟨b',o',ha',hl⟩:=h.get 0 v rfl;rw[ha] at ha';cases ha';unfold Heap.load Heap.cells at hl;cases hg:H.get b' with
 |none=>simp only[hg] at hl;cases hl
 |some B=>exact hw b' B hg
theorem zj6:∀l:List Nat,(∀y∈l,y < 256)→l.map (UInt8.toNat ∘ UInt8.ofNat)=l:=by
 intro l hl
 conv=>rhs;rw[←List.map_id l]
 apply List.map_congr_left;intro y hy;have:=hl y hy;simp [UInt8.toNat_ofNat];omega
set_option maxHeartbeats 4000000 in
theorem znz {L:List Nat}{neg:Bool}{a:Option Addr}{c n:Nat}{H:Heap}(hw:H.wf) (r:RdS H (L.map i64V) a c) (hL:∀y∈L,y < 2) (hlen:L.length≤4096) (hlast:L.getLast?≠some 0) (hval:valB 2 L=n) (hn:n < big) :
  EvF Tryz.prog okT 100 [.agg ⟨[.bool neg,.slice a L.length c]⟩,.int .i64 10] H fun v H'=>(∃t:ByteArray,v=.string t∧bl t=textD neg n)∧HX H H':=by
 refine EvF.enter rfl Tryz.func100 (by decide) rfl ?_;(repeat refine EvC.seq ?_);refine EvC.reg ?_;simp (disch:=first|omega|rfl) only[sB,initTm,dBox,Value.cells,one,reduceCtorEq];have hx0:=(HX.refl hw).new (some (.row [.bool neg,.slice a L.length c] 128));obtain⟨H1,hH1⟩:∃H1,H1=H.new (some (.row [.bool neg,.slice a L.length c] 128)):=⟨_,rfl⟩
 have hlb:H1.load ⟨H.next,0,none⟩ 1=some [.bool neg]:=by rw[hH1];exact z3h
 have hls:H1.load ⟨H.next,1,none⟩ 1=some [.slice a L.length c]:=by rw[hH1];exact z3h
 rw[←hH1] at hx0 ⊢;have hw1:=hx0.wf;by_cases h0:L.length=0
 ·have hM:L=[]:=List.length_eq_zero_iff.1 h0;subst hM
  repeat' (first|refine EvC.seq ?_|(refine EvC.ret ?_;try simp only[z04,z02])|(refine EvC.reg ?_;simp (disch:=first|omega|rfl) only[sB,Za,reduceCtorEq,zkw,ld77,ln77,hls,z0k])|(refine EvC.condT ?_ ?_;simp (disch:=first|omega|rfl) only[sB,Za,reduceCtorEq];refine z07 ?_))
  refine z03 rfl (by simp only[sB,Za,reduceCtorEq];rfl) ⟨⟨_,rfl,?_⟩,hx0⟩;rw[←hval];rfl
 have hnz:=z8f (B:=2) (by omega) (fun h=>h0 (by rw[h];rfl)) hlast;rw[hval] at hnz;have hLc:L.length≤c:=by simpa using r.len
 repeat' (first|refine EvC.seq ?_|refine EvC.block ?_|(refine EvC.skip ?_;try simp only[z00])|(refine EvC.reg ?_;simp (disch:=first|omega|rfl) only[sB,Za,reduceCtorEq,zkw,ld77,ln77,hls,z0m])|(refine EvC.condF ?_ ?_;simp (disch:=first|omega|rfl) only[sB,Za,reduceCtorEq];refine z07 ?_))
 have hr1:=r.keep hx0 hw;refine EvC.loop (fun k st=>∃(tm:Tr Value) (M od:List Nat) (a:Option Addr) (c:Nat) (v5:Value) (Hc:Heap),st=⟨tm,[],Hc⟩∧k=valB 2 M∧(∀y∈M,y < 2)∧M.length≤4096∧M.getLast?≠some 0∧decR n=od++decR (valB 2 M)∧(M≠[]→valB 2 M*10 ^ od.length≤n)∧od.length≤4096 ∧
   (∀y∈od,y < 10)∧HX H1 Hc∧RdS Hc (M.map i64V) a c∧(M≠[]→∀b o s,a=some ⟨b,o,s⟩→b < H1.next∨∃cs,Hc.get b=some (.row cs 3))∧RepO Hc 5 1 H1.next (od.map fun x=>[u8V (48+x)]) v5∧tm.get 1=some (.int .i64 10)∧tm.get 2=some (.pointer (some ⟨H.next,0,none⟩)) ∧
   tm.get 5=some v5∧tm.get 6=some (.slice a M.length c)) ?_ (valB 2 L) _ ?_
 ·clear hr1;rintro k st ⟨tm,M,od,a,c,v5,Hc,rfl,rfl,hMb,hMl,hMn,hdec,hle,hol,hod,hxc,hrM,hra,hr7,g1,g2,g7,g6⟩;have hMc:M.length≤c:=by simpa using hrM.len
  by_cases hM0:M=[]
  ·subst hM0;have hlbc:=hxc.load hw1 hlb;have hdec':decR n=od:=by rw[hdec];simp [valB,zdz]
   repeat' (first|refine EvC.seq ?_|(refine EvC.exit ?_;try simp only[sB])|(refine EvC.reg ?_;simp (disch:=first|omega|rfl) only[sB,Za,ln77,zqt,ld4,g2,g6,hlbc,decide_eq_false])|(refine EvC.condF ?_ ?_;simp (disch:=first|omega|rfl) only[sB,Za];refine z07 ?_))
   refine EvC.join (fun st=>∃tm o v Hd,st=⟨tm,[],Hd⟩∧o=(od.map fun x=>48+x)++(if neg then [45] else [])∧HX H1 Hd∧RepO Hd 5 1 H1.next (o.map fun x=>[u8V x]) v∧tm.get 5=some v) ?_ ?_
   ·cases neg with
    |true =>
     obtain⟨H5,v5,hap,hr7b,-,hx5,-⟩:=hr7.push zkx (y:=[u8V 45]) rfl rfl (by simp [most];omega) hxc.next;have h45:u8V 45=.int .u8 45:=rfl;rw[h45] at hap;refine EvC.condT (by simp only[sB,Za]) ?_
     repeat' (first|(refine EvC.reg ?_;simp (disch:=first|omega|rfl) only[sB,Za,Value.cells,one,layC,z9d,g7,hap]))
     refine⟨_,_,_,_,rfl,rfl,hx5 _ hxc (Zg _),?_,(by simp only[sB,Za];rfl)⟩
     first|(rw[ZD,ZI];exact hr7b)|(simp only[if_true,ZD,ZI];exact hr7b)
    |false =>
     refine EvC.condF (by simp only[sB,Za]) ?_
     repeat' (first|(refine EvC.skip ?_;try simp only[sB,reduceCtorEq]))
     exact⟨_,_,_,_,rfl,rfl,hxc,by first|(rw[List.append_nil,ZI];exact hr7)|(simp only[Zd,if_false,List.append_nil,ZI];exact hr7),(by simp only[sG,Za,g7])⟩
   clear g1 g2 g6 g7 hr7 hxc hlbc tm;rintro st ⟨tm,o,v,Hd,rfl,ho',hxc,hr7,g7⟩;have hob:∀y∈o,y < 256:=by
    intro y hy;rw[ho'] at hy;rcases List.mem_append.1 hy with h|h
    ·obtain⟨x,hx,rfl⟩:=List.mem_map.1 h;have:=hod x hx;omega
    ·cases neg<;>simp at h
     omega
   have hon:0 < o.length:=by
    have:od≠[]:=by rw[←hdec',z8e hnz];simp
    rw[ho',Zw,Zq];have:=List.length_pos_iff.2 this;omega
   have hol2:o.length≤4097:=by
    rw[ho',Zw,Zq];cases neg<;>simp<;>omega
   have htx:textD neg n=o.reverse:=by
    unfold textD;rw[if_neg hnz,hdec',ho']
   obtain⟨b7,c7,ho7,rfl⟩:=hr7.own (by intro h;rw[List.map_eq_nil_iff] at h;rw[h] at hon;simp at hon);rw[Zq] at g7
   repeat' (first|refine EvC.seq ?_|refine EvC.block ?_|(refine EvC.reg ?_;simp (disch:=first|omega|rfl) only[sB,Za,zsg,g7,z0b]))
   have hxw:=hxc.wf;refine EvC.loop (fun k st=>∃(tm:Tr Value) (v:Value) (He:Heap),st=⟨tm,[],He⟩∧k≤o.length∧HX Hd He∧RepO He 5 1 Hd.next ((o.drop k).reverse.map fun x=>[u8V x]) v∧tm.get 5=some (.slice (some ⟨b7,0,none⟩) o.length c7)∧tm.get 10=some v∧tm.get 11=some (.int .i64 ((k:Int) - 1))) ?_ o.length _ ?_
   ·clear g7 tm;rintro k st ⟨tm,v,He,rfl,hk,hxe,hre,g5,g10,g11⟩;have ho8:=ho7.keep hxe;cases k with
    |zero =>
     rw[List.drop_zero] at hre;obtain⟨b9,c9,ho9,rfl⟩:=hre.own (by intro h;rw[List.map_eq_nil_iff,List.reverse_eq_nil_iff] at h;rw[h] at hon;simp at hon);rw[Zq,List.length_reverse] at g10;have hrd:RdS He (o.reverse.map u8V) (some ⟨b9,0,none⟩) c9:=OwnS.rds (by rw[ZI];exact ho9);obtain⟨b8,o8,h8,hload⟩:=hrd.all (by intro h;rw[List.map_eq_nil_iff,List.reverse_eq_nil_iff] at h;rw[h] at hon;simp at hon);cases h8;rw[Zq,List.length_reverse] at hload;obtain⟨t,hdb,ht⟩:=zar (c:=c9) (l:=o.reverse) hload (by omega);have hcon:=zap (P:=Tryz.prog) (src:=150) (dst:=9) (e:=5) (by kernel_rfl) (by kernel_rfl) (by kernel_rfl) hdb
     repeat' (first|refine EvC.seq ?_|(refine EvC.exit ?_;try simp only[sB])|(refine EvC.ret ?_)|(refine EvC.reg ?_;simp (disch:=first|omega|rfl) only[sB,Za,g10,g11,hcon,decide_eq_false])|(refine EvC.condF ?_ ?_;simp (disch:=first|omega|rfl) only[sB,Za];refine z07 ?_))
     refine z03 rfl (by simp only[sG,Za]) ⟨⟨t,rfl,?_⟩,(hx0.trans hxc).trans hxe⟩;unfold bl;rw[ht,ZI,htx];exact zj6 _ fun y hy=>hob y (List.mem_reverse.1 hy)
    |succ j =>
     have e0:(((j+1:Nat):Int) - 1)=(j:Int):=by omega
     rw[e0] at g11;have hx:o[j]?=some o[j]:=Zc (by omega);have hdr:o.drop j=o[j] :: o.drop (j+1):=ZB (by omega);generalize o[j]=x at hx hdr;have hld:=ho8.load (i:=j) (x:=[u8V x]) (by rw[ZG,hx];rfl);rw[Nat.mul_one] at hld;obtain⟨H5,v5,hap,hre5,-,hx5,-⟩:=hre.push zkx (y:=[u8V x]) rfl rfl (by simp [most];omega) hxe.next;unfold u8V at hap hld
     repeat' (first|refine EvC.seq ?_|refine EvC.block ?_|(refine EvC.skip ?_;try simp only[z00])|(refine EvC.reg ?_;simp (disch:=first|omega|rfl) only[sB,Za,Value.cells,one,layC,z9d,zsh,ld5,g5,g10,g11,hld,hap,decide_eq_true,z0b])|(refine EvC.condT ?_ ?_;simp (disch:=first|omega|rfl) only[sB,Za];refine z07 ?_))
     refine⟨j,by omega,_,_,_,rfl,by omega,hx5 _ hxe (Zg _),?_,(by simp only[sG,Za,g5]),(by simp only[sB,Za];rfl),(by simp only[sG,Za])⟩;have:(o.drop j).reverse.map (fun x=>[u8V x])=(o.drop (j+1)).reverse.map (fun x=>[u8V x])++[[u8V x]]:=by rw[hdr];simp
     rw[this];exact hre5
   ·exact⟨_,_,_,rfl,Zg _,HX.refl hxw,by rw[List.drop_length];exact RepO.empty,(by simp only[sG,Za,g7]),(by simp only[sG,Za]),(by simp only[sG,Za])⟩
  ·have hM1:0 < M.length:=List.length_pos_iff.2 hM0;have hvM:=z8f (B:=2) (by omega) hM0 hMn;have hmost:M.length≤most:=by simp [most];omega
   have hmax:M.length≤maxLen:=Zo hMl (by simp [maxLen])
   repeat' (first|refine EvC.seq ?_|refine EvC.block ?_|(refine EvC.skip ?_;try simp only[z00])|(refine EvC.reg ?_;simp (disch:=first|omega|rfl) only[sB,Za,ln77,g6,decide_eq_true,z0b,z61 mk77 hmost,zc5])|(refine EvC.condT ?_ ?_;simp (disch:=first|omega|rfl) only[sB,Za];refine z07 ?_))
   have hxq:=(HX.refl hxc.wf).new (some (.row (List.replicate M.length (Value.int .i64 0)) 3));have hoq:=OwnS.ones (H:=Hc.new (some (.row (List.replicate M.length (Value.int .i64 0)) 3))) (base:=Hc.next) (c:=M.length) z0o (Zg _) (Zf _) (by simp) hmax (by simp [one]);refine EvC.loop (fun k st=>∃(tm:Tr Value) (q:List Nat) (r:Nat) (Hd:Heap),st=⟨tm,[],Hd⟩∧k≤M.length∧q.length=M.length - k∧(∀y∈q,y < 2)∧r < 10∧valB 2 (M.take k)+2 ^ k*(10*valB 2 q+r)=valB 2 M∧HX Hc Hd ∧
    OwnS Hd 3 1 Hc.next ((List.replicate k 0++q).map fun x=>[i64V x]) Hc.next M.length∧tm.get 1=some (.int .i64 10)∧tm.get 2=some (.pointer (some ⟨H.next,0,none⟩)) ∧
    tm.get 5=some v5∧tm.get 6=some (.slice a M.length c)∧tm.get 7=some (.int .i64 (r:Nat))∧tm.get 8=some (.slice (some ⟨Hc.next,0,none⟩) M.length M.length)∧tm.get 9=some (.int .i64 ((k:Int) - 1))) ?_ M.length _ ?_
   ·clear g1 g2 g6 g7 tm;rintro k st ⟨tm,q,r,Hd,rfl,hk,hq,hqb,hr,hinv,hxd,hoq,g1,g2,g5,g6,g7,g8,g9⟩;cases k with
    |zero =>
     rw[List.replicate_zero,List.nil_append] at hoq;simp only[List.take_zero,valB,Nat.pow_zero,ZL,Nat.zero_add] at hinv;have hqM:q.length=M.length:=by omega
     repeat' (first|refine EvC.seq ?_|(refine EvC.exit ?_;try simp only[sB,Za,reduceCtorEq])|(refine EvC.reg ?_;simp (disch:=first|omega|rfl) only[sB,Za,zqs,g8,g9,decide_eq_false])|(refine EvC.condF ?_ ?_;simp (disch:=first|omega|rfl) only[sB,Za];refine z07 ?_))
     have hrq:RdS Hd (q.map i64V) (some ⟨Hc.next,0,none⟩) M.length:=OwnS.rds (by rw[ZI];exact hoq);have hct:=zl6 (ok:=okT) (fun _ _=>rfl) (by decide) hrq;rw[hqM] at hct;refine hct.mono ?_;rintro v H' ⟨m,rfl,hm,hz,hn0,rfl⟩;have hmost2:od.length+1≤most:=by
      have:=z5f (e:=mostBits) hvM (hle hM0) (by rw[←z82];exact hn);simp [mostBits] at this;simp [most];omega
     have hr7d:=hr7.keep hxd;have hx1d:=hxc.trans hxd;obtain⟨H5,v5',hap,hr7b,hn5,hx5,hk5⟩:=hr7d.push zkx (y:=[u8V (48+r)]) rfl rfl (by simpa using hmost2) hx1d.next;unfold u8V at hap
     repeat' (first|(refine EvC.reg ?_;simp (disch:=first|omega|rfl) only[sB,Za,g5,g7]))
     rw[z1b us9 (show r < _ from by show _ < 36;omega),zl8 (by decide) hr]
     repeat' (first|(refine z0i ?_;simp (disch:=first|omega|rfl) only[sB,Za,Value.cells,one,layC,z9d,hap]))
     have hvq:valB 2 (q.take m)=valB 2 q:=z4u hz;have hq10:valB 2 q=valB 2 M / 10:=by omega
     have hr10:r=valB 2 M % 10:=by omega
     have hod2:((od++[r]).map fun x=>[u8V (48+x)])=(od.map fun x=>[u8V (48+x)])++[[u8V (48+r)]]:=by simp
     have hml:(q.take m).length=m:=by rw[Zl,Nat.min_eq_left (by omega)]
     obtain⟨csq,hgq,_⟩:=hoq.row;have hgq5:H5.get Hc.next=some (.row csq 3):=by rw[hk5 _ hoq.hi (fun cs h=>by rw[hgq] at h;cases h)];exact hgq
     have hrq5:RdS H5 ((q.take m).map i64V) (some ⟨Hc.next,0,none⟩) M.length:=by
      have h1:=(hrq.take m)
      rw[←List.map_take] at h1;exact zny h1 fun _ b o s hb=>by cases hb;rw[hgq5,hgq]
     refine⟨valB 2 (q.take m),by rw[hvq];omega,_,q.take m,od++[r],some ⟨Hc.next,0,none⟩,M.length,_,_,rfl,rfl,fun y hy=>hqb y (List.mem_of_mem_take hy),by rw[hml];omega,?_,?_,?_,?_,?_,hx5 _ hx1d (Zg _),hrq5,fun _ b o s hb=>.inr ⟨csq,by cases hb;exact hgq5⟩,by rw[hod2];exact hr7b,(by simp only[sG,Za,g1]),(by simp only[sG,Za,g2]),(by simp only[sG,Za]),by rw[hml];first|(simp only[sG,Za];rfl)|simp only[sG,Za]⟩
     ·rw[List.getLast?_eq_getElem?,hml];by_cases h0:m=0
      ·subst h0;simp
      ·rw[ZF,if_pos (by omega)];exact hn0 h0
     ·rw[hdec,z8e hvM,hvq,hq10,←hr10];simp
     ·intro _;rw[hvq,Zw,List.length_singleton,Nat.pow_succ];have h1:=hle hM0;have h2:valB 2 q*(10 ^ od.length*10)=(valB 2 q*10)*10 ^ od.length:=by rw[Nat.mul_comm (10 ^ od.length) 10,Nat.mul_assoc]
      rw[h2];exact Zo (Nat.mul_le_mul_right _ (by omega)) h1
     ·have:=z5f (e:=mostBits) hvM (hle hM0) (by rw[←z82];exact hn);simp [mostBits] at this;simp;omega
     ·intro y hy;rcases List.mem_append.1 hy with h|h
      ·exact hod y h
      ·simp at h;omega
    |succ j =>
     have e0:(((j+1:Nat):Int) - 1)=(j:Int):=by omega
     rw[e0] at g9;have hx:M[j]?=some M[j]:=Zc (by omega);have hxb:M[j] < 2:=hMb _ (Zx _);have htk:M.take (j+1)=M.take j++[M[j]]:=by rw[List.take_add_one,hx];rfl
     generalize M[j]=x at hx hxb htk;rw[htk] at hinv;have hlj:(M.take j).length=j:=by rw[Zl];omega
     obtain⟨b,o,rfl,hld⟩:=(hrM.keep hxd hxc.wf).get j (i64V x) (by simp [hx]);unfold i64V at hld;have e1:(2*(r:Int)+(x:Int))=((r*2+x:Nat):Int):=by omega
     have hinv2:=zl4 (B:=2) (x:=x) (r:=r) (low:=M.take j) (q:=q);rw[hlj,hinv] at hinv2;obtain⟨csq,hgq,hclq,_⟩:=hoq.row;have hlq:((List.replicate (j+1) 0++q).map fun x=>[i64V x]).length=M.length:=by simp;omega
     rw[hlq,Nat.mul_one] at hclq;have hk1:j+1≤csq.length:=by omega
     have hrep:List.replicate (j+1) 0++q=List.replicate j 0++(0 :: q):=by rw[List.replicate_succ'];simp
     by_cases hge:10≤r*2+x
     ·have e2:(((r*2+x:Nat):Int) - 10)=((r*2+x - 10:Nat):Int):=by omega
      repeat' (first|refine EvC.seq ?_|refine EvC.block ?_|(refine EvC.skip ?_;try simp only[z00])|(refine EvC.reg ?_;simp (disch:=first|omega|rfl) only[sB,Za,one,ia77,ld3,st3,g1,g6,g7,g8,g9,hld,e1,e2,hgq,hk1,decide_eq_true,z0b])|(refine EvC.condT ?_ ?_;simp (disch:=first|omega|rfl) only[sB,Za];refine z07 ?_))
      have hset:=hoq.set hgq (i:=j) (y:=[i64V 1]) (by rw[hlq];omega) rfl rfl;rw[Nat.mul_one] at hset;have hset2:((List.replicate (j+1) 0++q).map fun x=>[i64V x]).set j [i64V 1]=(List.replicate j 0++(1 :: q)).map fun x=>[i64V x]:=by
       rw[hrep,ZD,List.set_append_right _ _ (by simp),Zq,List.length_replicate,Nat.sub_self];simp
      rw[hset2] at hset;have h1:(r*2+x) / 10=1:=by omega
      have h2:(r*2+x) % 10=r*2+x - 10:=by omega
      rw[h1,h2] at hinv2;exact⟨j,by omega,_,1 :: q,r*2+x - 10,_,rfl,by omega,by simp;omega,by simpa using hqb,by omega,hinv2.symm,hxd.put hoq.lo hoq.hi _,hset,(by simp only[sG,Za,g1]),(by simp only[sG,Za,g2]),(by simp only[sG,Za,g5]),(by simp only[sG,Za,g6]),(by simp only[sG,Za]),(by simp only[sG,Za,g8]),(by simp only[sG,Za])⟩
     ·repeat' (first|refine EvC.seq ?_|refine EvC.block ?_|(refine EvC.skip ?_;try simp only[sA])|(refine EvC.reg ?_;simp (disch:=first|omega|rfl) only[sB,Za,ia77,ld3,g1,g6,g7,g9,hld,e1,decide_eq_true,decide_eq_false,z0b])|(refine EvC.condT ?_ ?_;simp (disch:=first|omega|rfl) only[sB,Za];refine z07 ?_)|(refine EvC.condF ?_ ?_;simp (disch:=first|omega|rfl) only[sB,Za];refine z07 ?_))
      have h1:(r*2+x) / 10=0:=by omega
      have h2:(r*2+x) % 10=r*2+x:=by omega
      rw[h1,h2] at hinv2;exact⟨j,by omega,_,0 :: q,r*2+x,_,rfl,by omega,by simp;omega,by simpa using hqb,by omega,hinv2.symm,hxd,by rw[←hrep];exact hoq,(by simp only[sG,Za,g1]),(by simp only[sG,Za,g2]),(by simp only[sG,Za,g5]),(by simp only[sG,Za,g6]),(by simp only[sG,Za]),(by simp only[sG,Za,g8]),(by simp only[sG,Za])⟩
   ·refine⟨_,[],0,_,rfl,Zg _,by simp,by simp,by omega,by simp [valB],hxq,?_,(by simp only[sG,Za,g1]),(by simp only[sG,Za,g2]),(by simp only[sG,Za,g7]),(by simp only[sG,Za,g6]),(by simp only[sB,Za];rfl),(by simp only[sG,Za]),(by simp only[sG,Za])⟩;have:(List.replicate M.length 0++[]).map (fun x=>[i64V x])=(List.replicate M.length (Value.int .i64 0)).map fun v=>[v]:=by simp [i64V]
    rw[this];exact hoq
 ·exact⟨_,L,[],a,c,_,_,rfl,rfl,hL,hlen,hlast,by rw[hval];rfl,fun _=>by rw[hval];simp,by simp,by simp,HX.refl hw1,hr1,fun hne b o s ha=>.inl (by have h1:=zss r hw (by simpa using hne) ha;have h2:=hx0.next;exact Zh h1 h2),RepO.empty,(by simp only[sG,Za,reduceCtorEq]),(by simp only[sG,Za,reduceCtorEq]),(by simp only[sG,Za,reduceCtorEq]),(by simp only[sG,Za,reduceCtorEq])⟩
end Go.Proofs.hq
end

section
namespace Go.Proofs.hq
open Go Go.RowKit Go.Hb
theorem zpq:callable Tryz.prog 65=true:=by kernel_rfl
theorem z64:isAgg? Tryz.prog 25=some true:=by kernel_rfl
theorem z7n:isAgg? Tryz.prog 23=some false:=by kernel_rfl
theorem z27:Tryz.prog.cellsOf 25=6:=by kernel_rfl
theorem zaw:(Tryz.prog.info? 25).isSome=true:=by kernel_rfl
theorem z2g:fldOf Tryz.prog 25 5=some (5,23):=by kernel_rfl
theorem z6v:Zz (Tryz.prog.cellsOf 23) 0=false:=by kernel_rfl
theorem zpr:zerosOf Tryz.prog 25=some [.int .i64 0,.string Ze,.string Ze,.int .u64 0,.int .i64 0,.slice none 0 0]:=by kernel_rfl
mutual
def cnt:Tm→Nat→Nat
 |.mk _ _ _ _ _ l,n=>cntL l (n+1)
def cntL:List Tm→Nat→Nat
 |[],n=>n
 |t :: l,n=>if 4000 < n then n else cntL l (cnt t n)
end
theorem zhl {t:Tm}{k:Int}{s u:ByteArray}{b v:Int}{l:List Tm}(h:t∈l):SizeOf.sizeOf t < SizeOf.sizeOf (Tm.mk k s u b v l):=by
 have:=List.sizeOf_lt_of_mem h;simp;omega
theorem z15 {t u:Tm}{i:Nat}(h:t.args[i]?=some u):SizeOf.sizeOf u < SizeOf.sizeOf t:=by
 obtain⟨k,s,w,b,v,l⟩:=t;exact zhl (List.mem_of_getElem? h)
theorem z4e (t:Tm) (n:Nat):cnt t n=cntL t.args (n+1):=by
 obtain⟨k,s,w,b,v,l⟩:=t;rw[cnt];rfl
theorem zla:∀(l:List Tm),(∀t∈l,∀n,n≤4000→cnt t n≤4001)→∀n,n≤4001→cntL l n≤4001
 |[],_,n,h=>by rw[cntL];exact h
 |t :: l,ht,n,h=>by
  rw[cntL];split
  ·exact h
  ·exact zla l (fun u hu=>ht u (Zn _ hu)) _ (ht t (by simp) n (by omega))
theorem zax:∀(m:Nat) (t:Tm),SizeOf.sizeOf t < m→∀n,n≤4000→cnt t n≤4001
 |0,t,h,_,_=>by omega
 |m+1,t,h,n,hn=>by
  rw[z4e];refine zla _ (fun u hu k hk=>zax m u ?_ k hk) _ (by omega);obtain⟨i,hi,e⟩:=List.getElem_of_mem hu;have:=z15 (t:=t) (u:=u) (i:=i) (by rw[Zc hi,e]);omega
theorem ze1 {l:List Tm}{i:Nat}{t:Tm}(h:l[i]?=some t) (n:Nat) (hn:n≤4000):cntL (l.drop i) n=cntL (l.drop (i+1)) (cnt t n):=by
 have hlt:=(List.getElem?_eq_some_iff.1 h).1;have he:l[i]=t:=(List.getElem?_eq_some_iff.1 h).2;rw[ZB hlt,cntL,if_neg (by omega),he]
theorem ze2 {l:List Tm}{n:Nat}(hn:4000 < n):cntL l n=n:=by
 cases l with
 |nil=>rw[cntL]
 |cons t l=>rw[cntL,if_pos hn]
variable {ok:Ok}
set_option maxRecDepth 10000 in
theorem zo0 (hk:∀args H,ok.K 65 args H=none) (hm:ok.testBit 65=true):∀(m:Nat) {t:Tm}{cs:List Value}{H:Heap},SizeOf.sizeOf t < m→RepT H t cs→H.wf→∀n:Nat,n≤4000 →
  EvF Tryz.prog ok 65 [.agg ⟨cs⟩,.int .i64 n] H fun v H'=>v=.int .i64 (cnt t n)∧HX H H':=by
 intro m
 induction m with
 |zero=>intro t cs H h;omega
 |succ m ih =>
 intro t cs H hsz r hw n hn;obtain⟨a,c,cells,rfl,b1,b2,b3,b4,b5,rl⟩:=r.inv;refine EvF.enter (hk _ _) Tryz.func65 hm rfl ?_;refine EvC.seq (EvC.reg ?_);simp (disch:=omega) only[sB,initTm,dBox,Value.cells,one,reduceCtorEq];refine EvC.seq (EvC.reg ?_);simp (disch:=omega) only[sB,Za,reduceCtorEq,z0b];refine EvC.seq (EvC.seq (EvC.reg ?_));simp (disch:=omega) only[sB,Za,reduceCtorEq,cutC,z05 z2g z6v,z0c z7n,z0x Tryz.underlying23];refine EvC.block (EvC.loop (fun k st=>∃tm H' i n',st=⟨tm,[],H'⟩∧k=t.args.length - i∧i≤t.args.length∧n'≤4001∧cntL (t.args.drop i) n'=cnt t n∧tm.get 1=some (.int .i64 (n':Nat)) ∧
  tm.get 10=some (.slice a t.args.length c)∧tm.get 11=some (.int .i64 t.args.length)∧tm.get 12=some (.int .i64 (i:Nat))∧HX H H') ?_ t.args.length _ ?_)
 ·rintro k st ⟨tm,H',i,n',rfl,hk',hi,hn',hc,g1,g10,g11,g12,hx⟩;refine EvC.seq (EvC.reg ?_);simp (disch:=omega) only[sA,g11,g12];refine EvC.seq ?_;by_cases hlt:i < t.args.length
  ·refine EvC.condT (by simp only[sB];exact congrArg _ (decide_eq_true (by omega))) (EvC.skip ?_);obtain⟨b,o,rfl,hload,hrep⟩:=rl.at (i:=i) (Zc hlt);obtain⟨a',c',cells',hcell,-⟩:=hrep.inv;have hld:=hx.load hw hload;rw[hcell] at hld hrep;refine EvC.seq (EvC.block (EvC.seq (EvC.reg ?_)));simp (disch:=omega) only[sB,dAlloc,Za,Zb,one,g10,g12,z1i Tryz.underlying23 zaw hlt,z11 z64,z27,hld,zpr,z7i zaw];refine EvC.seq (EvC.seq (EvC.reg ?_));simp (disch:=omega) only[sB,Za,g1];have hx2:=(hx.new (some (Blk.row [Value.int IntKind.i64 0,Value.string Ze,Value.string Ze,Value.int IntKind.u64 0,Value.int IntKind.i64 0,Value.slice none 0 0] 25))).put (i:=H'.next) hx.next (Zf _)
    (some (.row [Value.int IntKind.i64 t.args[i].kind,Value.string t.args[i].name,Value.string t.args[i].num,Value.int IntKind.u64 t.args[i].bits,Value.int IntKind.i64 t.args[i].var,Value.slice a' t.args[i].args.length c'] 25))
   by_cases hov:4000 < n'
   ·refine EvC.condT (by simp only[sB,Za];exact congrArg _ (decide_eq_true (by omega))) (EvC.exit ?_);simp only[z38,z2b,reduceIte,Za,z00];refine EvC.seq (EvC.reg ?_);simp (disch:=omega) only[sB,Za,g1];refine EvC.ret (z03 rfl (by simp only[sG,Za];rfl) ⟨?_,hx2⟩);rw[←hc,ze2 hov]
   ·refine EvC.condF (by simp only[sB,Za];exact congrArg _ (decide_eq_false (by omega))) (EvC.skip ?_);simp only[z00];refine EvC.reg ?_;simp (disch:=omega) only[sB,Za,Zb,cutC,g1,z11 z64,z27,z08 zpq];have ht:t.args[i]?=some t.args[i]:=Zc hlt;have hs:=z15 ht;have hx1:HX H H':=hx;refine(ih (t:=t.args[i]) (by omega) (hrep.mono hx2 hw) hx2.wf n' (by omega)).mono ?_;rintro v H2 ⟨rfl,hx3⟩;have hL:t.args.length≤9223372036854775807:=Zo rl.len rl.cap;refine EvC.reg ?_;simp (disch:=omega) only[sB,Za,g12,z0b];refine⟨t.args.length - (i+1),by omega,_,_,i+1,cnt t.args[i] n',rfl,rfl,by omega,zax _ _ (Zf _) _ (by omega),by rw[←hc,ze1 ht _ (by omega)],by simp only[sG,Za],by simp only[sG,Za];exact g10,by simp only[sG,Za];exact g11,by simp only[sG,Za];rfl,hx2.trans hx3⟩
  ·refine EvC.condF (by simp only[sB];exact congrArg _ (decide_eq_false (by omega))) (EvC.exit ?_);simp only[z38,z2b,reduceIte,Za,z00];refine EvC.seq (EvC.reg ?_);simp (disch:=omega) only[sB,Za,g1];refine EvC.ret (z03 rfl (by simp only[sG,Za];rfl) ⟨?_,hx⟩);rw[←hc,ZM (by omega),cntL]
 ·exact⟨_,_,0,n+1,rfl,rfl,by omega,by omega,by rw[z4e];rfl,by simp only[sG,Za,reduceCtorEq];rfl,by simp only[sG,Za,reduceCtorEq],by simp only[sG,Za,reduceCtorEq],by simp only[sG,Za,reduceCtorEq];rfl,(HX.refl hw).new _⟩
end Go.Proofs.hq
end

section
namespace Go.Proofs.hq
open Go Go.RowKit Go.Hb
theorem zps:callable Tryz.prog 73=true:=by kernel_rfl
theorem zst:callable Tryz.prog 35=true:=by kernel_rfl
theorem zsu:callable Tryz.prog 46=true:=by kernel_rfl
variable {ok:Ok}
set_option maxRecDepth 10000 in
theorem ze3 (hk:∀args H,ok.K 73 args H=none) (hm:ok.testBit 73=true):∀(m:Nat) {t:Tm}{cs:List Value}{H:Heap},SizeOf.sizeOf t < m→RepT H t cs→H.wf→∀n:Nat,n≤4000 →
  EvF Tryz.prog ok 73 [.agg ⟨cs⟩,.int .i64 n] H fun v H'=>v=.int .i64 (cnt t n)∧HX H H':=by
 intro m
 induction m with
 |zero=>intro t cs H h;omega
 |succ m ih =>
 intro t cs H hsz r hw n hn;obtain⟨a,c,cells,rfl,b1,b2,b3,b4,b5,rl⟩:=r.inv;refine EvF.enter (hk _ _) Tryz.func73 hm rfl ?_;(repeat refine EvC.seq ?_);refine EvC.reg ?_;simp (disch:=omega) only[sB,initTm,dBox,Value.cells,one,reduceCtorEq];(repeat refine EvC.seq ?_);refine EvC.reg ?_;simp (disch:=omega) only[sB,Za,reduceCtorEq,z0b];(repeat refine EvC.seq ?_);refine EvC.reg ?_;simp (disch:=omega) only[sA];refine EvC.block (EvC.loop (fun k st=>∃tm H' i n',st=⟨tm,[],H'⟩∧k=t.args.length - i∧i≤t.args.length∧n'≤4001∧cntL (t.args.drop i) n'=cnt t n∧tm.get 1=some (.int .i64 (n':Nat)) ∧
  tm.get 2=some (.pointer (some ⟨H.next,0,none⟩))∧tm.get 5=some (.int .i64 (i:Nat)) ∧
  H'.get H.next=some (.row [.int .i64 t.kind,.string t.name,.string t.num,.int .u64 t.bits,.int .i64 t.var,.slice a t.args.length c] 25)∧H.next < H'.next∧HX H H') ?_ t.args.length _ ?_)
 ·rintro k st ⟨tm,H',i,n',rfl,hk',hi,hn',hc,g1,g2,g5,hbox,hlt0,hx⟩;have hld5:H'.load ⟨H.next,5,none⟩ 1=some [.slice a t.args.length c]:=by
   simp only[Heap.load,Heap.cells,hbox];rfl
  (repeat refine EvC.seq ?_);refine EvC.reg ?_;by_cases hlt:i < t.args.length
  ·obtain⟨b,o,rfl,hload,hrep⟩:=rl.at (i:=i) (Zc hlt);obtain⟨a',c',cells',hcell,-⟩:=hrep.inv;have hld:=hx.load hw hload;rw[hcell] at hld hrep;have hd1:decide ((i:Int) < (t.args.length:Int))=true:=decide_eq_true (by omega);simp (disch:=omega) only[sB,Za,g1,g2,g5,z05 z2g z6v,z0c z7n,hld5,z0x Tryz.underlying23,hd1];by_cases hov:4000 < n'
   ·refine EvC.condF (by simp only[sB,Za];exact congrArg _ (decide_eq_false (by omega))) (EvC.exit ?_);simp only[z38,z2b,reduceIte,z00];(repeat refine EvC.seq ?_);refine EvC.reg ?_;simp (disch:=omega) only[sB,Za,g1];refine EvC.ret (z03 rfl (by simp only[sG,Za];rfl) ⟨?_,hx⟩);rw[←hc,ze2 hov]
   ·refine EvC.condT (by simp only[sB,Za];exact congrArg _ (decide_eq_true (by omega))) (EvC.skip ?_);simp only[z00];(repeat refine EvC.seq ?_);refine EvC.block ?_;refine EvC.reg ?_;simp (disch:=omega) only[sB,Za,g1,g2,g5,z05 z2g z6v,z0c z7n,hld5,z1i Tryz.underlying23 zaw hlt,z11 z64,z27,hld,z08 zps];have ht:t.args[i]?=some t.args[i]:=Zc hlt;have hs:=z15 ht;refine(ih (t:=t.args[i]) (by omega) (hrep.mono hx hw) hx.wf n' (by omega)).mono ?_;rintro v H2 ⟨rfl,hx3⟩;have hL:t.args.length≤9223372036854775807:=Zo rl.len rl.cap;refine EvC.reg ?_;simp (disch:=omega) only[sB,Za,g5,z0b];refine⟨t.args.length - (i+1),by omega,_,_,i+1,cnt t.args[i] n',rfl,rfl,by omega,zax _ _ (Zf _) _ (by omega),by rw[←hc,ze1 ht _ (by omega)],by simp only[sG,Za],by simp only[sG,Za];exact g2,by simp only[sG,Za];rfl,
     by rw[hx3.keep _ hlt0];exact hbox,Zh hlt0 hx3.next,hx.trans hx3⟩
  ·have hd1:decide ((i:Int) < (t.args.length:Int))=false:=decide_eq_false (by omega);simp (disch:=omega) only[sB,Za,g2,g5,z05 z2g z6v,z0c z7n,hld5,z0x Tryz.underlying23,hd1,Zd];refine EvC.condF (by simp only[sB,Za]) (EvC.exit ?_);simp only[z38,z2b,reduceIte,z00];(repeat refine EvC.seq ?_);refine EvC.reg ?_;simp (disch:=omega) only[sB,Za,g1];refine EvC.ret (z03 rfl (by simp only[sG,Za];rfl) ⟨?_,hx⟩);rw[←hc,ZM (by omega),cntL]
 ·exact⟨_,_,0,n+1,rfl,rfl,by omega,by omega,by rw[z4e];rfl,by simp only[sG,Za,reduceCtorEq];rfl,by simp only[sG,Za,reduceCtorEq],by simp only[sG,Za,reduceCtorEq];rfl,by simp only[if_true,get_new],Zf _,(HX.refl hw).new _⟩
theorem zo1 (hk:∀f args H,(f=65∨f=35)→ok.K f args H=none) (hm:ok.testBit 65=true) (hm2:ok.testBit 35=true) {t:Tm}{cs:List Value}{H:Heap}(r:RepT H t cs) (hw:H.wf) :
  EvF Tryz.prog ok 35 [.agg ⟨cs⟩] H fun v H'=>v=.int .i64 (cnt t 0)∧HX H H':=by
 obtain⟨a,c,cells,rfl,b1,b2,b3,b4,b5,rl⟩:=r.inv;refine EvF.enter (hk _ _ _ (.inr rfl)) Tryz.func35 hm2 rfl ?_;(repeat refine EvC.seq ?_);refine EvC.reg ?_;simp (disch:=omega) only[sB,initTm,dBox,Value.cells,one];(repeat refine EvC.seq ?_);refine EvC.reg ?_;simp (disch:=omega) only[sB,Za,Zb,reduceCtorEq,cutC,z11 z64,z27,z08 zpq];have hx:=(HX.refl hw).new (some (Blk.row [Value.int IntKind.i64 t.kind,Value.string t.name,Value.string t.num,Value.int IntKind.u64 t.bits,Value.int IntKind.i64 t.var,Value.slice a t.args.length c] 25));refine(zo0 (hk 65 · · (.inl rfl)) hm _ (Zf _) (r.mono hx hw) hx.wf 0 (by omega)).mono ?_;rintro v H2 ⟨rfl,hx3⟩;have hle:=zax _ t (Zf _) 0 (by omega);have hif:(if (4001:Int) < (cnt t 0:Int) then (4001:Int) else (cnt t 0:Int))=(cnt t 0:Int):=if_neg (by omega);simp (disch:=omega) only[sB,Za,reduceCtorEq,zqn,zqo,hif];exact EvC.ret (z03 rfl (by simp only[sG,Za,reduceCtorEq]) ⟨rfl,hx.trans hx3⟩)
theorem ze4 (hk:∀f args H,(f=73∨f=46)→ok.K f args H=none) (hm:ok.testBit 73=true) (hm2:ok.testBit 46=true) {t:Tm}{cs:List Value}{H:Heap}(r:RepT H t cs) (hw:H.wf) :
  EvF Tryz.prog ok 46 [.agg ⟨cs⟩] H fun v H'=>v=.int .i64 (cnt t 0)∧HX H H':=by
 obtain⟨a,c,cells,rfl,b1,b2,b3,b4,b5,rl⟩:=r.inv;refine EvF.enter (hk _ _ _ (.inr rfl)) Tryz.func46 hm2 rfl ?_;(repeat refine EvC.seq ?_);refine EvC.reg ?_;simp (disch:=omega) only[sB,initTm,dBox,Value.cells,one];(repeat refine EvC.seq ?_);refine EvC.reg ?_;simp (disch:=omega) only[sB,Za,Zb,reduceCtorEq,cutC,z11 z64,z27,z08 zps];have hx:=(HX.refl hw).new (some (Blk.row [Value.int IntKind.i64 t.kind,Value.string t.name,Value.string t.num,Value.int IntKind.u64 t.bits,Value.int IntKind.i64 t.var,Value.slice a t.args.length c] 25));refine(ze3 (hk 73 · · (.inl rfl)) hm _ (Zf _) (r.mono hx hw) hx.wf 0 (by omega)).mono ?_;rintro v H2 ⟨rfl,hx3⟩;have hle:=zax _ t (Zf _) 0 (by omega);(repeat refine EvC.seq ?_);refine EvC.reg ?_;simp (disch:=omega) only[sB,Za,reduceCtorEq];by_cases hov:4000 < cnt t 0
 ·refine EvC.condT (by simp only[sB,Za,reduceCtorEq];exact congrArg _ (decide_eq_true (by omega))) ?_;(repeat refine EvC.seq ?_);refine EvC.reg ?_;simp (disch:=omega) only[sA];refine EvC.ret ?_;simp only[z04];exact z03 rfl (by simp only[sG,Za,reduceCtorEq];rfl) ⟨by rw[show cnt t 0=4001 by omega];first|done|rfl,hx.trans hx3⟩
 ·refine EvC.condF (by simp only[sB,Za,reduceCtorEq];exact congrArg _ (decide_eq_false (by omega))) (EvC.skip ?_);simp only[z00];(repeat refine EvC.seq ?_);refine EvC.reg ?_;simp (disch:=omega) only[sB,Za,reduceCtorEq];exact EvC.ret (z03 rfl (by simp only[sG,Za,reduceCtorEq]) ⟨rfl,hx.trans hx3⟩)
end Go.Proofs.hq
end

section
namespace Go.Proofs.hq
open Go Go.RowKit Go.Hb
theorem z28:fldOf Tryz.prog 25 0=some (0,3):=by kernel_rfl
theorem z2h:fldOf Tryz.prog 25 1=some (1,9):=by kernel_rfl
theorem z4v:fldOf Tryz.prog 25 2=some (2,9):=by kernel_rfl
theorem z4f:fldOf Tryz.prog 25 3=some (3,22):=by kernel_rfl
theorem z65:fldOf Tryz.prog 25 4=some (4,3):=by kernel_rfl
theorem one3:Zz (Tryz.prog.cellsOf 3) 0=false:=by kernel_rfl
theorem one9:Zz (Tryz.prog.cellsOf 9) 0=false:=by kernel_rfl
theorem zcd:Zz (Tryz.prog.cellsOf 22) 0=false:=by kernel_rfl
theorem z9f:Tryz.prog.cellsOf 3=1:=by kernel_rfl
theorem zhm:Tryz.prog.cellsOf 9=1:=by kernel_rfl
theorem zr2:Tryz.prog.cellsOf 22=1:=by kernel_rfl
theorem zr4:Tryz.prog.cellsOf 23=1:=by kernel_rfl
theorem agg3:isAgg? Tryz.prog 3=some false:=by kernel_rfl
theorem agg9:isAgg? Tryz.prog 9=some false:=by kernel_rfl
theorem ze5:isAgg? Tryz.prog 22=some false:=by kernel_rfl
theorem zu9:(Tryz.prog.info? 3).isSome=true:=by kernel_rfl
theorem zr5:(Tryz.prog.info? 9).isSome=true:=by kernel_rfl
theorem zsv:(Tryz.prog.info? 22).isSome=true:=by kernel_rfl
theorem zsw:(Tryz.prog.info? 23).isSome=true:=by kernel_rfl
theorem z19:ByteArray.toList { data:=#[] }=[]:=by
 rw[ByteArray.toList,ByteArray.toList.loop];rfl
def isE (s:ByteArray):Bool:=s.toList == []
def blankB (t:Tm):Bool :=
 (t.kind == 2 || t.kind == 5 || isE t.name) && (t.kind == 3 || isE t.num) && (t.kind == 4 || t.bits == 0) && (t.kind == 1 || t.var == 0) && (t.kind == 5 || (t.args.length:Int) == 0)
variable {ok:Ok}
set_option maxRecDepth 10000 in
set_option maxHeartbeats 2000000 in
theorem zo2 (hk:∀args H,ok.K 93 args H=none) (hm:ok.testBit 93=true) {t:Tm}{cs:List Value}{H:Heap}(r:RepT H t cs) (hw:H.wf) :
  EvF Tryz.prog ok 93 [.agg ⟨cs⟩] H fun v H'=>v=.bool (blankB t)∧HX H H':=by
 obtain⟨a,c,cells,rfl,b1,b2,b3,b4,b5,rl⟩:=r.inv;refine EvF.enter (hk _ _) Tryz.func93 hm rfl ?_;(repeat refine EvC.seq ?_);refine EvC.reg ?_;simp (disch:=omega) only[sB,initTm,dBox,Value.cells,one];(repeat refine EvC.seq ?_);refine EvC.reg ?_;simp (disch:=omega) only[sB,Za,reduceCtorEq,cutC,z05 z28 one3,z0c agg3];refine EvC.meet (fun st=>∃tm H' nm nu b v a n c,st=⟨tm,[],H'⟩∧tm.get 1=some (.pointer (some ⟨H.next,0,none⟩))∧H'.get H.next=some (.row [.int .i64 t.kind,.string nm,.string nu,.int .u64 b,.int .i64 v,.slice a n c] 25) ∧
  HX H H'∧(isE nm && isE nu && b == 0 && v == 0 && (n:Int) == 0)=blankB t) ?_ ?_
 ·refine EvC.block ?_;have hx0:=(HX.refl hw).new (some (Blk.row [Value.int IntKind.i64 t.kind,Value.string t.name,Value.string t.num,Value.int IntKind.u64 t.bits,Value.int IntKind.i64 t.var,Value.slice a t.args.length c] 25));have hxp:∀B,HX H ((H.new (some (Blk.row [Value.int IntKind.i64 t.kind,Value.string t.name,Value.string t.num,Value.int IntKind.u64 t.bits,Value.int IntKind.i64 t.var,Value.slice a t.args.length c] 25))).put H.next B):=fun B=>hx0.put (Zg _) (Zf _) B
  (repeat refine EvC.seq ?_);refine EvC.reg ?_;simp (disch:=omega) only[sB,Za,reduceCtorEq];by_cases k1:t.kind=1
  ·refine EvC.condT (by simp only[sB,Za,reduceCtorEq];rw[k1];rfl) ?_;refine EvC.reg ?_;simp (disch:=omega) only[sB,Za,Zb,one,reduceCtorEq,Zk,z05 z65 one3,z3w zu9 z9f];exact⟨_,_,t.name,t.num,t.bits,0,a,t.args.length,c,rfl,by simp only[sG,Za,reduceCtorEq],by simp only[sB],hxp _,by simp [blankB,k1]⟩
  refine EvC.condF (by simp only[sB,Za,reduceCtorEq];rw[show (t.kind == 1)=false by simpa using k1]) ?_;(repeat refine EvC.seq ?_);refine EvC.reg ?_;simp (disch:=omega) only[sB,Za,reduceCtorEq];by_cases k2:t.kind=2
  ·refine EvC.condT (by simp only[sB,Za,reduceCtorEq];rw[k2];rfl) ?_;refine EvC.reg ?_;simp (disch:=omega) only[sB,Za,Zb,one,reduceCtorEq,Zk,z05 z2h one9,z4a zr5 zhm];exact⟨_,_,Ze,t.num,t.bits,t.var,a,t.args.length,c,rfl,by simp only[sG,Za,reduceCtorEq],by simp only[sB];rfl,hxp _,by simp [blankB,k2,isE]⟩
  refine EvC.condF (by simp only[sB,Za,reduceCtorEq];rw[show (t.kind == 2)=false by simpa using k2]) ?_;(repeat refine EvC.seq ?_);refine EvC.reg ?_;simp (disch:=omega) only[sB,Za,reduceCtorEq];by_cases k3:t.kind=3
  ·refine EvC.condT (by simp only[sB,Za,reduceCtorEq];rw[k3];rfl) ?_;refine EvC.reg ?_;simp (disch:=omega) only[sB,Za,Zb,one,reduceCtorEq,Zk,z05 z4v one9,z4a zr5 zhm];exact⟨_,_,t.name,Ze,t.bits,t.var,a,t.args.length,c,rfl,by simp only[sG,Za,reduceCtorEq],by simp only[sB];rfl,hxp _,by simp [blankB,k3,isE]⟩
  refine EvC.condF (by simp only[sB,Za,reduceCtorEq];rw[show (t.kind == 3)=false by simpa using k3]) ?_;(repeat refine EvC.seq ?_);refine EvC.reg ?_;simp (disch:=omega) only[sB,Za,reduceCtorEq];by_cases k4:t.kind=4
  ·refine EvC.condT (by simp only[sB,Za,reduceCtorEq];rw[k4];rfl) ?_;refine EvC.reg ?_;simp (disch:=omega) only[sB,Za,Zb,one,reduceCtorEq,Zk,z05 z4f zcd,z3w zsv zr2];exact⟨_,_,t.name,t.num,0,t.var,a,t.args.length,c,rfl,by simp only[sG,Za,reduceCtorEq],by simp only[sB],hxp _,by simp [blankB,k4]⟩
  refine EvC.condF (by simp only[sB,Za,reduceCtorEq];rw[show (t.kind == 4)=false by simpa using k4]) ?_;(repeat refine EvC.seq ?_);refine EvC.reg ?_;simp (disch:=omega) only[sB,Za,reduceCtorEq];by_cases k5:t.kind=5
  ·refine EvC.condT (by simp only[sB,Za,reduceCtorEq];rw[k5];rfl) ?_;refine EvC.reg ?_;simp (disch:=omega) only[sB,Za,Zb,one,reduceCtorEq,Zk,z05 z2h one9,z05 z2g z6v,z4a zr5 zhm,z3l zsw zr4];exact⟨_,_,Ze,t.num,t.bits,t.var,none,0,0,rfl,by simp only[sG,Za,reduceCtorEq],by simp only[sB];rfl,(hxp _).put (Zg _) (Zf _) _,by simp [blankB,k5,isE]⟩
  refine EvC.condF (by simp only[sB,Za,reduceCtorEq];rw[show (t.kind == 5)=false by simpa using k5]) (EvC.skip ?_);exact⟨rfl,_,_,t.name,t.num,t.bits,t.var,a,t.args.length,c,rfl,by simp only[sG,Za,reduceCtorEq],by simp only[if_true,get_new],hx0,by simp [blankB,show (t.kind == 1)=false by simpa using k1,show (t.kind == 2)=false by simpa using k2,show (t.kind == 3)=false by simpa using k3,show (t.kind == 4)=false by simpa using k4,show (t.kind == 5)=false by simpa using k5]⟩
 ·rintro st ⟨tm,H',nm,nu,b,v,a,n,c,rfl,g1,hrow,hx,hres⟩;simp only[z00];have l1:H'.load ⟨H.next,1,none⟩ 1=some [.string nm]:=by simp only[Heap.load,Heap.cells,hrow];rfl
  have l2:H'.load ⟨H.next,2,none⟩ 1=some [.string nu]:=by simp only[Heap.load,Heap.cells,hrow];rfl
  have l3:H'.load ⟨H.next,3,none⟩ 1=some [.int .u64 b]:=by simp only[Heap.load,Heap.cells,hrow];rfl
  have l4:H'.load ⟨H.next,4,none⟩ 1=some [.int .i64 v]:=by simp only[Heap.load,Heap.cells,hrow];rfl
  have l5:H'.load ⟨H.next,5,none⟩ 1=some [.slice a n c]:=by simp only[Heap.load,Heap.cells,hrow];rfl
  (repeat refine EvC.seq ?_);refine EvC.reg ?_;unfold isE at hres;cases h1:(nm.toList == []) with
  |false =>
   simp (disch:=omega) only[sB,Za,z2e,g1,z05 z2h one9,z0c agg9,l1,z19,h1,Zd];exact EvC.ret (z03 rfl (by simp only[sG,Za];rfl) ⟨by rw[←hres,h1];rfl,hx⟩)
  |true =>
  cases h2:(nu.toList == []) with
  |false =>
   simp (disch:=omega) only[sB,Za,z2e,g1,z05 z2h one9,z05 z4v one9,z0c agg9,l1,l2,z19,Zd,h1,h2];exact EvC.ret (z03 rfl (by simp only[sG,Za];rfl) ⟨by rw[←hres,h1,h2];rfl,hx⟩)
  |true =>
  cases h3:(b == 0) with
  |false =>
   simp (disch:=omega) only[sB,Za,z2e,g1,z05 z2h one9,z05 z4v one9,z05 z4f zcd,z0c agg9,z0c ze5,l1,l2,l3,z19,Zd,h1,h2,h3];exact EvC.ret (z03 rfl (by simp only[sG,Za];rfl) ⟨by rw[←hres,h1,h2,h3];rfl,hx⟩)
  |true =>
  cases h4:(v == 0) with
  |false =>
   simp (disch:=omega) only[sB,Za,z2e,g1,z05 z2h one9,z05 z4v one9,z05 z4f zcd,z05 z65 one3,z0c agg9,z0c agg3,z0c ze5,l1,l2,l3,l4,z19,Zd,h1,h2,h3,h4];exact EvC.ret (z03 rfl (by simp only[sG,Za];rfl) ⟨by rw[←hres,h1,h2,h3,h4];rfl,hx⟩)
  |true =>
   simp (disch:=omega) only[sB,Za,z2e,g1,z05 z2h one9,z05 z4v one9,z05 z4f zcd,z05 z65 one3,z05 z2g z6v,z0c agg9,z0c agg3,z0c ze5,z0c z7n,l1,l2,l3,l4,l5,z19,z0x Tryz.underlying23,h1,h2,h3,h4];exact EvC.ret (z03 rfl (by simp only[sG,Za];rfl) ⟨by rw[←hres,h1,h2,h3,h4];rfl,hx⟩)
end Go.Proofs.hq
end
