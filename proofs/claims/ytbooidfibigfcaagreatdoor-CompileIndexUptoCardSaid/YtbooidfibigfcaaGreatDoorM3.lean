import Derived.Test.YtbooidfibigfcaaGreatDoorM2
import Derived.Lib.ValidLaws
import Derived.DataReads
import Derived.Test.YtbooidfibigfcaaGreatDoorProg
import Derived.KernelRfl
import Derived.WalkKit
/- Lemmas on the program's own code, towards the laws of this folder, part 3. Conditions: as each lemma says. -/
open Bool renaming and_eq_true -> Zk, false_eq_true -> Zg, not_eq_true -> ZL, not_false -> ZM, not_true -> Zv
open ByteArray renaming empty -> Zd
open List renaming drop_eq_getElem_cons -> ZG, getElem?_append_left -> Zz, getElem?_append_right -> ZC, getElem?_drop -> ZN, getElem?_eq_getElem -> Zc, getElem?_eq_none -> Zy, getElem?_map -> Zw, getElem?_take -> ZJ, getElem_mem -> Zu, getElem_of_mem -> ZO, length_append -> Zr, length_cons -> ZD, length_map -> Zp, length_take -> Zo, map_append -> ZI, map_cons -> ZA, mem_cons_of_mem -> Zn, mem_of_getElem? -> Zx, range -> Zh, take_of_length_le -> Zm
open Nat renaming beq -> Zs, beq_eq -> Zt, le_refl -> Ze, le_trans -> Zj, lt_of_lt_of_le -> Zi, lt_succ_self -> Zf, reduceAdd -> Zb, reduceEqDiff -> Za, reduceLeDiff -> Zq, zero_add -> ZP, zero_le -> Zl, zero_mul -> ZK
open Option renaming map_some -> ZE
section
namespace Go.Hb
open Go Go.RowKit
section
variable {P:Program}{H:Heap}{ρ:Operand->Value}{d:Option Tmp}{ty:TypeId}{pos:String}{af:Array Edge}{g:Option (Nat × Bool)}
def byteAt (s:ByteArray) (i:Nat):Nat:=(s.data.toList.getD i 0).toNat
theorem zd1 (s:ByteArray) (i:Nat):byteAt s i < 256:=UInt8.toNat_lt _
theorem zix (s:ByteArray) (i:Nat) (h:i < s.size):byteAt s i=(s[i]'h).toNat:=by
 have h':i < s.data.toList.length:=by simpa using h
 unfold byteAt;rw[List.getD_eq_getElem?_getD,Zc h'];rfl
def dIdx (P:Program) (t:TypeId) (v i:Value) (H:Heap):Option Dr :=
 match P.underlying t,v with
 |some (.array n e),.agg cs=>match intBetween i (n - 1),Zs n 0 with
  |some i,false=>(dpart P e cs (i*P.cellsOf e)).map (.val · H)
  |_,_=>none
 |_,v=>dOut (flat v && (flat i && true)) (pureRun P (do let r <-Instr.index t v i;pure (Next.value r))) H
theorem zd2 {t:TypeId}{x i:Operand}:dop P ⟨d,.index t x i,ty,pos,af,g⟩ ρ H=dIdx P t (ρ x) (ρ i) H:=by
 have e:dflat P ⟨d,.index t x i,ty,pos,af,g⟩ ρ H=dOut (flat (ρ x) && (flat (ρ i) && true)) (pureRun P (do let r <-Instr.index t (ρ x) (ρ i);pure (Next.value r))) H:=rfl;show (match P.underlying t,ρ x with|some (.array n e),.agg cs=>_|_,_=>_)=_;rw[e];unfold dIdx;split<;>rfl
theorem zf2 {t:TypeId}{s:ByteArray}{k:IntKind}{i:Nat}(hu:P.underlying t=some .string) (h:i < s.size):dIdx P t (.string s) (.int k i) H=some (.val (.int .u8 (s[i]'h).toNat) H):=by
 have hs:s[i]?=some (s[i]'h):=getElem?_pos s i h;simp only[dIdx,hu,Instr.index];simp [z0b,z0s hu,z2q,asIntOf,dOut,flat,hs]
theorem z38 {t:TypeId}{s:ByteArray}{k:IntKind}{i:Nat}(hu:P.underlying t=some .string) (h:i < s.size):dIdx P t (.string s) (.int k (i:Int)) H=some (.val (.int .u8 (byteAt s i:Nat)) H):=by
 rw[zf2 hu h,zix s i h]
theorem ziy {t:TypeId}{s:ByteArray}{k:IntKind}{i:Int}(hu:P.underlying t=some .string) (h0:0<=i) (h:i < s.size):dIdx P t (.string s) (.int k i) H=some (.val (.int .u8 (byteAt s i.toNat:Nat)) H):=by
 obtain⟨j,rfl⟩:=Int.eq_ofNat_of_zero_le h0;exact z38 hu (by omega)
def dCon (P:Program) (src dst:TypeId) (v:Value) (H:Heap):Option Dr :=
 match P.underlying src,P.underlying dst,v with
  |some (.slice e),some .string,.slice a n c=>match P.underlying e with
   |some (.int .u8)=>(dbytes (.slice a n c) H).map (.val · H)
   |_=>none
  |_,some (.slice _),_=>none
  |_,_,v=>dOut (flat v && true) (pureRun P (do let r <-convert src dst v;pure (Next.value r))) H
theorem z8q {src dst:TypeId}{x:Operand}:dop P ⟨d,.convert src dst x,ty,pos,af,g⟩ ρ H=dCon P src dst (ρ x) H:=by
 have e:dflat P ⟨d,.convert src dst x,ty,pos,af,g⟩ ρ H=dOut (flat (ρ x) && true) (pureRun P (do let r <-convert src dst (ρ x);pure (Next.value r))) H:=rfl;show (match P.underlying src,P.underlying dst,ρ x with|some (.slice e),some .string,.slice a n c=>_|_,some (.slice _),_=>_|_,_,_=>_)=_;rw[e];unfold dCon;split<;>rfl
theorem z52 {src dst:TypeId}{k k' k2:IntKind}{n:Int}(hs:P.underlying src=some (.int k)) (hd:P.underlying dst=some (.int k')):dCon P src dst (.int k2 n) H=some (.val (.int k' (k'.wrap n)) H):=by
 simp only[dCon,hs,hd];simp [z0b,z0s hs,z0s hd,z2q,convert,Conv.intToInt,dOut,flat]
theorem ziz {src dst e:TypeId}{a:Option Addr}{n c:Nat}{v:Value}(hs:P.underlying src=some (.slice e)) (hd:P.underlying dst=some .string) (he:P.underlying e=some (.int .u8)) (h:dbytes (.slice a n c) H=some v) :
  dCon P src dst (.slice a n c) H=some (.val v H):=by
 simp only[dCon,hs,hd,he,h];rfl
def kAnd (k:IntKind) (a b:Int):Int:=k.wrap (BitVec.ofInt k.bits a &&& BitVec.ofInt k.bits b).toNat
def kOr (k:IntKind) (a b:Int):Int:=k.wrap (BitVec.ofInt k.bits a ||| BitVec.ofInt k.bits b).toNat
theorem bOr {t:TypeId}{x y:Operand}{k:IntKind}{a b:Int}:dBin P .or t x y (.int k a) (.int k b) H=some (.val (.int k (kOr k a b)) H):=by
 simp [dBin,dnil,flat,eqGuard,binOp,Op.intBits,Sem.bind,-BitVec.toNat_or,-BitVec.toNat_ofInt];rfl
theorem bShr {t:TypeId}{x y:Operand}{k k':IntKind}{a b:Int}(h:0<=b):dBin P .shr t x y (.int k a) (.int k' b) H=some (.val (.int k (a.fdiv (2 ^ (min b.toNat k.bits)))) H):=by
 have hb:¬b < 0:=by omega
 simp [dBin,dnil,flat,eqGuard,binOp,Op.shift,hb,Sem.bind];rfl
theorem z8r {t:TypeId}{x y:Operand}{k':IntKind}{a:Nat}:dBin P .shr t x y (.int .u32 (a:Int)) (.int k' 16) H=some (.val (.int .u32 ((a / 65536:Nat):Int)) H):=by
 rw[bShr (by omega)];show some (Dr.val (.int .u32 ((a:Int).fdiv ((65536:Nat):Int))) H)=_;rw[<-Int.ofNat_fdiv]
theorem zae {t:TypeId}{x y:Operand}{k':IntKind}{a:Nat}:dBin P .shr t x y (.int .u32 (a:Int)) (.int k' 8) H=some (.val (.int .u32 ((a / 256:Nat):Int)) H):=by
 rw[bShr (by omega)];show some (Dr.val (.int .u32 ((a:Int).fdiv ((256:Nat):Int))) H)=_;rw[<-Int.ofNat_fdiv]
theorem zf3 {t:TypeId}{x y:Operand}{k':IntKind}{a:Nat}:dBin P .shr t x y (.int .u64 (a:Int)) (.int k' 32) H=some (.val (.int .u64 ((a / 4294967296:Nat):Int)) H):=by
 rw[bShr (by omega)];show some (Dr.val (.int .u64 ((a:Int).fdiv ((4294967296:Nat):Int))) H)=_;rw[<-Int.ofNat_fdiv]
theorem bShl {t:TypeId}{x y:Operand}{k k':IntKind}{a b:Int}(h:0<=b):dBin P .shl t x y (.int k a) (.int k' b) H=some (.val (.int k (k.wrap (a*2 ^ (min b.toNat k.bits)))) H):=by
 have hb:¬b < 0:=by omega
 simp [dBin,dnil,flat,eqGuard,binOp,Op.shift,hb,Sem.bind];rfl
theorem bQuo {t:TypeId}{x y:Operand}{k:IntKind}{a b:Int}(h:b≠0):dBin P .quo t x y (.int k a) (.int k b) H=some (.val (.int k (k.wrap (a.tdiv b))) H):=by
 simp [dBin,dnil,flat,eqGuard,binOp,Op.intDiv,h,Sem.bind];rfl
theorem bRem {t:TypeId}{x y:Operand}{k:IntKind}{a b:Int}(h:b≠0):dBin P .rem t x y (.int k a) (.int k b) H=some (.val (.int k (a.tmod b)) H):=by
 simp [dBin,dnil,flat,eqGuard,binOp,Op.intDiv,h,Sem.bind];rfl
theorem zoh {t:TypeId}{a b:Bool}(hu:P.underlying t=some .bool):pureRun P (Op.equal t (.bool a) (.bool b))=some (a == b):=by
 show pureRun P (Op.equalIn (9999+1) t (.bool a) (.bool b))=_;unfold Op.equalIn;rw[z0b,z0s hu];rfl
theorem zf4 {α β:Type}(f:α->β) (s:Sem α):pureRun P (Functor.map f s)=(pureRun P s).map f:=by
 show pureRun P (s >>= fun a=>pure (f a))=_;rw[z0b];cases pureRun P s<;>rfl
theorem bEqB {t:TypeId}{x y:Operand}{a b:Bool}(hu:P.underlying t=some .bool):dBin P .eql t x y (.bool a) (.bool b) H=some (.val (.bool (a == b)) H):=by
 have h:=zoh (P:=P) (a:=a) (b:=b) hu;simp only[dBin,dnil,flat,eqGuard,binOp];simp [zf4,h,flat]
end
theorem z0l {a b:Int}(h:a=b):(a == b)=true:=by simp [h]
theorem z0g {a b:Int}(h:a≠b):(a == b)=false:=by simp [h]
theorem z1z {a b:Int}(h:a≠b):(a != b)=true:=by simp [h]
theorem z15 {a b:Int}(h:a=b):(a != b)=false:=by simp [h]
section
open IntWalk
theorem wrap_u32 {n:Int}(h1:0<=n) (h2:n<=4294967295):IntKind.u32.wrap n=n:=u32_in n ⟨h1,h2⟩
theorem z54 {n:Int}(h1:0<=n) (h2:n<=18446744073709551615):IntKind.u64.wrap n=n:=u64_in n ⟨h1,h2⟩
theorem z8s {n:Int}(h1:0<=n) (h2:n<=255):IntKind.u8.wrap n=n:=u8_in n ⟨h1,h2⟩
theorem zd3 (n:Nat):IntKind.u32.wrap (n:Int)=((n % 4294967296:Nat):Int):=by rw[IntKind.wrap_u32];omega
end
def bytesV (l:List Nat):List Value:=l.map fun n:Nat=>Value.int .u8 (n:Int)
theorem z8t:∀l:List Nat,bytesOf (bytesV l)=some (l.map fun (n:Nat)=>(n:Int))
 |[]=>rfl
 |n :: l=>by
  have h:=z8t l;show bytesOf (Value.int .u8 (n:Int) :: bytesV l)=_;rw[bytesOf,h];rfl
theorem zf5 (b:ByteArray) (x:UInt8):(b.push x).data.toList=b.data.toList++[x]:=by
 cases b;simp [ByteArray.push]
theorem zd4:∀(l:List Int) (b:ByteArray),(l.foldl (fun r n=>r.push (UInt8.ofNat n.toNat)) b).data.toList=b.data.toList++l.map fun n=>UInt8.ofNat n.toNat
 |[],b=>by simp
 |n :: l,b=>by
  rw[List.foldl_cons,zd4 l,zf5];simp
theorem zj0 {H:Heap}{a:Addr}{n c:Nat}{l:List Nat}(hl:H.load a n=some (bytesV l)) (h0:n≠0) :
  ∃s:ByteArray,dbytes (.slice (some a) n c) H=some (.string s)/\s.data.toList=l.map UInt8.ofNat:=by
 have e0:Zs n 0=false:=by rw[<-ZL,Zt];exact h0
 refine⟨_,by simp only[dbytes,e0,hl,z8t,Zg,if_false];rfl,?_⟩;rw[zd4];simp only[Zd,ByteArray.emptyWithCapacity,List.map_map];show []++_=_;rw[List.nil_append];apply List.map_congr_left;intro x _;simp
end Go.Hb
end

section
namespace Go.Hb
open Go Go.RowKit
structure OwnS (H:Heap) (e:TypeId) (s base:Nat) (L:List (List Value)) (b c:Nat):Prop where
 lo:base<=b
 hi:b < H.next
 row:∃cs,H.get b=some (.row cs e)/\L.length*s<=cs.length/\cs.take (L.length*s)=L.flatten
 len:L.length<=c
 cap:c<=maxLen
 sz:∀x∈L,x.length=s
 all:∀x∈L,x.all one=true
def RepO (H:Heap) (e:TypeId) (s base:Nat) (L:List (List Value)) (v:Value):Prop :=
 (L=[]/\v=.slice none 0 0)\/∃b c,OwnS H e s base L b c/\v=.slice (some ⟨b,0,none⟩) L.length c
theorem z55 {s:Nat}:∀(L:List (List Value)),(∀x∈L,x.length=s)->L.flatten.length=L.length*s
 |[],_=>by simp
 |x :: L,h=>by
  rw[List.flatten_cons,Zr,h x (by simp),z55 L fun y hy=>h y (Zn _ hy),ZD,Nat.succ_mul];omega
theorem zf6 {s:Nat}:∀(L:List (List Value)) (i:Nat) (x:List Value),(∀x∈L,x.length=s)->L[i]?=some x->(L.flatten.drop (i*s)).take s=x
 |[],i,x,_,h=>by simp at h
 |y :: L,0,x,hs,h=>by
  simp at h;subst h;rw[ZK,List.drop_zero,List.flatten_cons,List.take_append_of_le_length (by rw[hs y (by simp)];exact Ze _),Zm (by rw[hs y (by simp)];exact Ze _)]
 |y :: L,i+1,x,hs,h=>by
  simp at h;have hy:y.length=s:=hs y (by simp);rw[List.flatten_cons,Nat.succ_mul,Nat.add_comm,<-List.drop_drop,List.drop_left' hy];exact zf6 L i x (fun z hz=>hs z (Zn _ hz)) h
theorem zbl {s:Nat}:∀(L:List (List Value)) (i:Nat) (x:List Value),(∀x∈L,x.length=s)->x.length=s->i < L.length->splice L.flatten (i*s) x=(L.set i x).flatten
 |[],i,x,_,_,h=>by simp at h
 |y :: L,0,x,hs,hx,h=>by
  have hy:y.length=s:=hs y (by simp);rw[ZK,z45,List.flatten_cons,List.set_cons_zero,List.flatten_cons,hx,<-hy,List.drop_left]
 |y :: L,i+1,x,hs,hx,h=>by
  have hy:y.length=s:=hs y (by simp);have hs':∀z∈L,z.length=s:=fun z hz=>hs z (Zn _ hz)
  have hi:i < L.length:=by simpa using h
  have hL:=z55 L hs';have hb:i*s+s<=L.length*s:=by rw[<-Nat.succ_mul];exact Nat.mul_le_mul_right _ hi
  rw[List.set_cons_succ,List.flatten_cons,List.flatten_cons,<-zbl L i x hs' hx hi,z1p _ _ _ (by rw[Zr,hy,hL,Nat.succ_mul];omega),z1p _ _ _ (by rw[hL];omega),Nat.succ_mul];rw[List.take_append,List.drop_append,hy];have e1:i*s+s - s=i*s:=by omega
  have e2:i*s+s+x.length - s=i*s+x.length:=by omega
  rw[e1,e2,Zm (by omega),List.drop_eq_nil_of_le (by omega)];simp
theorem zf7 {cs vs:List Value}{o n:Nat}(h:o+vs.length<=n) (hn:n<=cs.length):(splice cs o vs).take n=splice (cs.take n) o vs:=by
 rw[z1p _ _ _ (by omega),z1p _ _ _ (by rw[Zo];omega)];apply List.ext_getElem?;intro k;simp only[List.getElem?_append,ZJ,ZN,Zo,Zr,List.length_drop]
 grind
theorem z28 {cs vs:List Value}{o:Nat}(h:o+vs.length<=cs.length):(splice cs o vs).length=cs.length:=by
 rw[z1p _ _ _ (by omega)];simp;omega
section
variable {H:Heap}{e:TypeId}{s base b c:Nat}{L:List (List Value)}
theorem OwnS.load (h:OwnS H e s base L b c) {i:Nat}{x:List Value}(hx:L[i]?=some x):H.load ⟨b,i*s,none⟩ s=some x:=by
 obtain⟨cs,hg,hl,ht⟩:=h.row;have hi:i < L.length:=(List.getElem?_eq_some_iff.1 hx).1;have hle:i*s+s<=L.length*s:=by rw[<-Nat.succ_mul];exact Nat.mul_le_mul_right _ hi
 have hc:H.cells b=some cs:=by unfold Heap.cells;rw[hg]
 have e1:(cs.drop (i*s)).take s=x:=by
  rw[<-zf6 L i x h.sz hx,<-ht,List.drop_take,List.take_take];congr 1;omega
 unfold Heap.load;simp only[hc,e1];rw[if_pos (by rw[Zt];exact h.sz x (Zx hx))]
theorem OwnS.part (h:OwnS H e s base L b c) {i j n:Nat}{x:List Value}(hx:L[i]?=some x) (hj:j+n<=s):H.load ⟨b,i*s+j,none⟩ n=some ((x.drop j).take n):=by
 obtain⟨cs,hg,hl,ht⟩:=h.row;have hi:i < L.length:=(List.getElem?_eq_some_iff.1 hx).1;have hle:i*s+s<=L.length*s:=by rw[<-Nat.succ_mul];exact Nat.mul_le_mul_right _ hi
 have hc:H.cells b=some cs:=by unfold Heap.cells;rw[hg]
 have e1:(cs.drop (i*s+j)).take n=(x.drop j).take n:=by
  rw[<-zf6 L i x h.sz hx,<-ht,List.drop_take,List.drop_take,List.take_take,List.drop_take,List.take_take,List.drop_drop];congr 1;omega
 have hxl:=h.sz x (Zx hx);unfold Heap.load;simp only[hc,e1];rw[if_pos (by rw[Zt];simp;omega)]
theorem OwnS.set (h:OwnS H e s base L b c) {cs:List Value}(hg:H.get b=some (.row cs e)) {i:Nat}{y:List Value}(hi:i < L.length) (hy:y.length=s) (ha:y.all one=true) :
  OwnS (H.put b (some (.row (splice cs (i*s) y) e))) e s base (L.set i y) b c:=by
 obtain⟨cs',hg',hl,ht⟩:=h.row;rw[hg] at hg';cases hg';have hle:i*s+s<=L.length*s:=by rw[<-Nat.succ_mul];exact Nat.mul_le_mul_right _ hi
 refine⟨h.lo,h.hi,⟨_,by rw[z8n],by rw[List.length_set,z28 (by omega)];exact hl,?_⟩,by rw[List.length_set];exact h.len,h.cap,fun x hx=>?_,fun x hx=>?_⟩
 ·rw[List.length_set,zf7 (by omega) hl,ht,zbl L i y h.sz hy hi]
 ·rcases List.mem_or_eq_of_mem_set hx with h1|h1
  ·exact h.sz x h1
  ·rw[h1];exact hy
 ·rcases List.mem_or_eq_of_mem_set hx with h1|h1
  ·exact h.all x h1
  ·rw[h1];exact ha
theorem OwnS.heap (h:OwnS H e s base L b c) {H':Heap}(hg:H'.get b=H.get b) (hn:H.next<=H'.next):OwnS H' e s base L b c:=by
 obtain⟨cs,h1,h2,h3⟩:=h.row;exact⟨h.lo,Zi h.hi hn,⟨cs,hg.trans h1,h2,h3⟩,h.len,h.cap,h.sz,h.all⟩
theorem OwnS.keep (h:OwnS H e s base L b c) {H':Heap}(hx:HX H H'):OwnS H' e s base L b c:=h.heap (hx.keep b h.hi) hx.next
theorem OwnS.take (h:OwnS H e s base L b c) {m:Nat}(hm:m<=L.length):OwnS H e s base (L.take m) b c:=by
 obtain⟨cs,h1,h2,h3⟩:=h.row;have hl:(L.take m).length=m:=by rw[Zo];omega
 have hle:m*s<=L.length*s:=Nat.mul_le_mul_right _ hm;refine⟨h.lo,h.hi,⟨cs,h1,by rw[hl];omega,?_⟩,by rw[hl];exact Zj hm h.len,h.cap,fun x hx=>h.sz x (List.mem_of_mem_take hx),fun x hx=>h.all x (List.mem_of_mem_take hx)⟩;rw[hl];have h4:(cs.take (L.length*s)).take (m*s)=L.flatten.take (m*s):=by rw[h3]
 rw[List.take_take,Nat.min_eq_left hle] at h4;rw[h4];have h5:L.flatten=(L.take m).flatten++(L.drop m).flatten:=by rw[<-List.flatten_append,List.take_append_drop]
 have h6:=z55 (L.take m) fun x hx=>h.sz x (List.mem_of_mem_take hx)
 rw[hl] at h6;rw[h5,List.take_left' h6]
theorem OwnS.push (h:OwnS H e s base L b c) {cs:List Value}(hg:H.get b=some (.row cs e)) {y:List Value}(hy:y.length=s) (ha:y.all one=true) (hm:L.length+1<=maxLen) (hb:base<=H.next) :
  OwnS ((H.put b none).new (some (.row (cs.take (L.length*s)++y) e))) e s base (L++[y]) H.next (L.length+1):=by
 obtain⟨cs',h1,h2,h3⟩:=h.row;rw[hg] at h1;cases h1;refine⟨hb,Zf _,⟨_,z0n,?_,?_⟩,by simp,hm,fun x hx=>?_,fun x hx=>?_⟩
 ·rw[Zr,Zr,Zo,hy,List.length_singleton,Nat.succ_mul];omega
 ·rw[h3,Zm,List.flatten_append]
  ·simp
  ·rw[Zr,z55 L h.sz,hy,Zr,List.length_singleton,Nat.succ_mul];exact Ze _
 ·rcases List.mem_append.1 hx with h5|h5
  ·exact h.sz x h5
  ·simp at h5;rw[h5];exact hy
 ·rcases List.mem_append.1 hx with h5|h5
  ·exact h.all x h5
  ·simp at h5;rw[h5];exact ha
theorem OwnS.first {y:List Value}(hy:y.length=s) (ha:y.all one=true) (hb:base<=H.next):OwnS (H.new (some (.row y e))) e s base [y] H.next 1 :=
 ⟨hb,Zf _,⟨_,z0n,by simp [hy],by simp [<-hy]⟩,by simp,by simp [maxLen],by simpa using hy,by simpa using ha⟩
theorem OwnS.made {L:List (List Value)}{n:Nat}(hn:L.length=n) (hz:∀x∈L,x.length=s) (ha:∀x∈L,x.all one=true) (hb:base<=H.next) (hm:n<=maxLen):OwnS (H.new (some (.row L.flatten e))) e s base L H.next n :=
 ⟨hb,Zf _,⟨_,z0n,by rw[z55 L hz];exact Ze _,by rw[Zm];rw[z55 L hz];exact Ze _⟩,by omega,hm,hz,ha⟩
end
structure RdS (H:Heap) (vs:List Value) (a:Option Addr) (c:Nat):Prop where
 len:vs.length<=c
 cap:c<=maxLen
 get:∀i v,vs[i]?=some v->∃b o,a=some ⟨b,o,none⟩/\H.load ⟨b,o+i,none⟩ 1=some [v]
theorem RdS.keep {H H':Heap}{vs:List Value}{a:Option Addr}{c:Nat}(h:RdS H vs a c) (hx:HX H H') (hw:H.wf):RdS H' vs a c :=
 ⟨h.len,h.cap,fun i v hv=>let ⟨b,o,ha,hl⟩:=h.get i v hv;⟨b,o,ha,hx.load hw hl⟩⟩
theorem RdS.take {H:Heap}{vs:List Value}{a:Option Addr}{c:Nat}(h:RdS H vs a c) (m:Nat):RdS H (vs.take m) a c :=
 ⟨by have:=h.len;simp;omega,h.cap,fun i v hv=>h.get i v (by rw[ZJ] at hv;split at hv;exact hv;cases hv)⟩
theorem OwnS.rds {H:Heap}{e:TypeId}{base b c:Nat}{vs:List Value}(h:OwnS H e 1 base (vs.map fun v=>[v]) b c):RdS H vs (some ⟨b,0,none⟩) c :=
 ⟨by simpa using h.len,h.cap,fun i v hv=>⟨b,0,rfl,by have:=h.load (i:=i) (x:=[v]) (by simp [hv]);simpa using this⟩⟩
theorem RdS.nil {H:Heap}:RdS H [] none 0:=⟨Ze _,Zl _,fun i v hv=>by simp at hv⟩
end Go.Hb
end

section
namespace Go.Hb
open Go Go.RowKit
section
variable {P:Program}{ok:Ok}{tm:Tr Value}{H:Heap}{fn:Func}{K:Value->Heap->Prop}
theorem z0a {a:Tmp}{t:TypeId}{ad:Addr}{v:Value}(h:fn.results.toList=[.cell a t]) (hv:tm.get a=some (.pointer (some ad))) (hd:dLoad P t (.pointer (some ad)) H=some (.val v H)) (hk:K v H):Ex.leave P ok fn K .ret ⟨tm,[],H⟩:=by
 refine EvV.now (v:=v) ?_ hk;have hd':dload P t ad H=some v:=by
  simp only[dLoad] at hd;cases hx:dload P t ad H with
  |none=>rw[hx] at hd;cases hd
  |some u=>rw[hx] at hd;simp only[ZE,Option.some.injEq,Dr.val.injEq] at hd;rw[hd.1]
 simp only[dres,h,dresL,dres1,hv,hd']
theorem z0e {a q:Tmp}{t:TypeId}{ad:Addr}{v u:Value}(h:fn.results.toList=[.cell a t,.tmp q]) (hv:tm.get a=some (.pointer (some ad))) (hd:dLoad P t (.pointer (some ad)) H=some (.val v H)) (hu:tm.get q=some u)
  (hk:K (.tuple ⟨[v,u]⟩) H):Ex.leave P ok fn K .ret ⟨tm,[],H⟩:=by
 refine EvV.now (v:=.tuple ⟨[v,u]⟩) ?_ hk;have hd':dload P t ad H=some v:=by
  simp only[dLoad] at hd;cases hx:dload P t ad H with
  |none=>rw[hx] at hd;cases hd
  |some u=>rw[hx] at hd;simp only[ZE,Option.some.injEq,Dr.val.injEq] at hd;rw[hd.1]
 simp only[dres,h,dresL,dres1,hv,hd',hu,Option.getD_some]
theorem zoi {a:Addr}{n:Nat}{l:List Value}(h:H.load a n=some l):l.length=n:=by
 unfold Heap.load at h;split at h
 ·simp only at h;split at h
  ·rename_i hh;cases h;rw[Zt] at hh;exact hh
  ·cases h
 ·cases h
theorem zs1 {t e:TypeId}{s b o n c c':Nat}{ad:Addr}{cs news:List Value}{e':TypeId}(h:slcOk P t e s) (h0:0 < n) (hl:H.load ad (n*s)=some news) (hone:news.all one=true) (hb:H.get b=some (.row cs e')) (hf:o+news.length<=cs.length) :
  dCp P #[t,t] (.slice (some ⟨b,o,none⟩) n c) (.slice (some ad) n c') H=some (.val (.int .i64 n) (H.put b (some (.row (splice cs o news) e')))):=by
 obtain⟨h1,h2,h3⟩:=h;obtain⟨i,hi⟩:=Option.isSome_iff_exists.1 h2;have e0:Zs n 0=false:=by rw[<-ZL,Zt];omega
 have e1:Nat.min n n=n:=Nat.min_self n;simp only[dCp,dcopy,h1,hi,e1,e0,dsource,h3,hl,Heap.store,hb,Zg,if_false];rw[if_pos ⟨hf,hone⟩]
theorem zoj {t e:TypeId}{s:Nat}{a a':Option Addr}{c c':Nat}(h:slcOk P t e s):dCp P #[t,t] (.slice a 0 c) (.slice a' 0 c') H=some (.val (.int .i64 0) H):=by
 obtain⟨h1,h2,_⟩:=h;obtain⟨i,hi⟩:=Option.isSome_iff_exists.1 h2;simp only[dCp,dcopy,h1,hi];rfl
theorem RdS.all {vs:List Value}{a:Option Addr}{c:Nat}(h:RdS H vs a c) (h0:vs≠[]):∃b o,a=some ⟨b,o,none⟩/\H.load ⟨b,o,none⟩ vs.length=some vs:=by
 match vs,h0,h with
 |v :: r,_,h =>
  obtain⟨b,o,ha,hl⟩:=h.get 0 v rfl;refine⟨b,o,ha,?_⟩;have key:∃cs,H.cells b=some cs/\∀i v',(v :: r)[i]?=some v'->cs[o+i]?=some v':=by
   cases hc:H.cells b with
   |none=>unfold Heap.load at hl;simp only[hc] at hl;cases hl
   |some cs =>
    refine⟨cs,rfl,fun i v' hi=>?_⟩;obtain⟨b',o',ha',hl'⟩:=h.get i v' hi;rw[ha] at ha';cases ha';have hll:=zoi hl';unfold Heap.load at hl';simp only[hc] at hl';split at hl'
    ·simp only[Option.some.injEq] at hl';have:((cs.drop (o+i)).take 1)[0]?=some v':=by rw[hl'];rfl
     simpa [ZJ,ZN] using this
    ·cases hl'
  obtain⟨cs,hc,hg⟩:=key;have e:(cs.drop o).take (v :: r).length=v :: r:=by
   apply List.ext_getElem?;intro k;rw[ZJ];by_cases hk:k < (v :: r).length
   ·rw[if_pos hk,ZN,Zc hk,hg k _ (Zc hk)]
   ·rw[if_neg hk,Zy (by omega)]
  unfold Heap.load;simp only[hc,e];rw[if_pos (by rw[Zt])]
theorem OwnS.ones {e:TypeId}{base b c:Nat}{vs:List Value}(hg:H.get b=some (.row vs e)) (lo:base<=b) (hi:b < H.next) (hc:vs.length<=c) (hm:c<=maxLen) (ho:vs.all one=true):OwnS H e 1 base (vs.map fun v=>[v]) b c:=by
 have hf:(vs.map fun v=>[v]).flatten=vs:=by
  clear hg hc ho
  induction vs with
  |nil=>rfl
  |cons v vs ih=>rw[ZA,List.flatten_cons,ih];rfl
 refine⟨lo,hi,⟨vs,hg,by simp,?_⟩,by simpa using hc,hm,by simp,fun x hx=>?_⟩
 ·rw[hf,Zm (by simp)]
 ·obtain⟨v,hv,rfl⟩:=List.mem_map.1 hx;simpa using List.all_eq_true.1 ho v hv
end
end Go.Hb
end

section
namespace Go.Hb
open Go Go.RowKit
section
variable {P:Program}{H:Heap}{e:TypeId}{s base b c:Nat}{L:List (List Value)}{v:Value}
theorem RepO.empty:RepO H e s base [] (.slice none 0 0):=.inl ⟨rfl,rfl⟩
theorem RepO.own (h:RepO H e s base L v) (h0:L≠[]):∃b c,OwnS H e s base L b c/\v=.slice (some ⟨b,0,none⟩) L.length c:=by
 rcases h with ⟨h1,_⟩|h
 ·exact absurd h1 h0
 ·exact h
theorem RepO.slice (h:RepO H e s base L v):∃a c,v=.slice a L.length c/\L.length<=c/\c<=maxLen:=by
 rcases h with ⟨rfl,rfl⟩|⟨b,c,h,rfl⟩
 ·exact⟨_,0,rfl,Ze _,Zl _⟩
 ·exact⟨_,c,rfl,h.len,h.cap⟩
theorem RepO.keep (h:RepO H e s base L v) {H':Heap}(hx:HX H H'):RepO H' e s base L v:=by
 rcases h with h|⟨b,c,h,hv⟩
 ·exact .inl h
 ·exact .inr ⟨b,c,h.keep hx,hv⟩
theorem RepO.before (h:RepO H e s base L v) {H':Heap}{lo:Nat}(hk:∀i,i < lo->H'.get i=H.get i) (hn:H.next<=H'.next) (hlo:∀b c,OwnS H e s base L b c->b < lo):RepO H' e s base L v:=by
 rcases h with h|⟨b,c,h,hv⟩
 ·exact .inl h
 ·exact .inr ⟨b,c,h.heap (hk b (hlo b c h)) hn,hv⟩
theorem RepO.putlo (h:RepO H e s base L v) {i:Nat}(hi:i < base) (B:Option Blk):RepO (H.put i B) e s base L v:=by
 rcases h with h|⟨b,c,h,hv⟩
 ·exact .inl h
 ·exact .inr ⟨b,c,h.heap (z2r (by have:=h.lo;omega)) (Ze _),hv⟩
theorem RepO.other (h:RepO H e s base L v) {i:Nat}{cs:List Value}{e':TypeId}(hi:H.get i=some (.row cs e')) (hne:e'≠e) (B:Option Blk):RepO (H.put i B) e s base L v:=by
 rcases h with h|⟨b,c,h,hv⟩
 ·exact .inl h
 ·refine .inr ⟨b,c,h.heap (z2r fun hb=>?_) (Ze _),hv⟩;obtain⟨cs',hg,_⟩:=h.row;rw[hb,hi] at hg;cases hg;exact hne rfl
theorem RepO.beside (h:RepO H e s base L v) {H2:Heap}{e':TypeId}(hk:∀i,i < H.next->(∀cs,H.get i≠some (.row cs e'))->H2.get i=H.get i) (hn:H.next<=H2.next) (hne:e'≠e):RepO H2 e s base L v:=by
 rcases h with h|⟨b,c,h,hv⟩
 ·exact .inl h
 ·refine .inr ⟨b,c,h.heap (hk b h.hi fun cs hcs=>?_) hn,hv⟩;obtain⟨cs',hg,_⟩:=h.row;rw[hcs] at hg;cases hg;exact hne rfl
theorem RepO.takeO (h:OwnS H e s base L b c) (m:Nat) (hm:m<=L.length):RepO H e s base (L.take m) (.slice (some ⟨b,0,Option.none⟩) m c):=by
 refine .inr ⟨b,c,h.take hm,?_⟩;rw[Zo,Nat.min_eq_left hm]
section
variable {ok:Ok}{x:Ctx}{d:Option Tmp}{tm:Tr Value}{ds:List Deferred}{H':Heap}{KK:Tr Value->List Deferred->Heap->Prop}
end
def sameK (v:Value) (G:Heap):Option Dr->Bool
 |some (.val u H')=>veq u v && Zs H'.next G.next
 |_=>false
theorem z8u {o:Oper}{ρ:Operand->Value}{hs:List Heap}:sameOn P o ρ v (H :: hs)=(sameK v H (dop P o ρ H) && sameOn P o ρ v hs):=by
 rw[sameOn];unfold sameK;cases dop P o ρ H with
 |none=>rfl
 |some r=>cases r<;>rfl
theorem zd5 {u:Value}{H':Heap}:sameK v H (some (.val u H'))=(veq u v && Zs H'.next H.next):=_root_.id rfl
theorem zd6 {H:Heap}{n k:Nat}{a:Addr}:Heap.load ⟨n,H.t⟩ a k=H.load a k:=_root_.id rfl
theorem zgl {H:Heap}{n i:Nat}:Heap.get ⟨n,H.t⟩ i=H.get i:=_root_.id rfl
theorem RepO.takeR {a:Option Addr}{n c' m:Nat}(h:RepO H e s base L (.slice a n c')) (hm:m<=L.length):RepO H e s base (L.take m) (.slice a m c'):=by
 rcases h with ⟨rfl,hv⟩|⟨b,c,h,hv⟩
 ·cases hv;have:m=0:=by simpa using hm
  subst this;exact .inl ⟨by simp,rfl⟩
 ·cases hv;exact RepO.takeO h m hm
theorem RepO.low (h:RepO H e s base L v) {base':Nat}(hb:base'<=base):RepO H e s base' L v:=by
 rcases h with h|⟨b,c,h,hv⟩
 ·exact .inl h
 ·exact .inr ⟨b,c,⟨Zj hb h.lo,h.hi,h.row,h.len,h.cap,h.sz,h.all⟩,hv⟩
theorem RepO.rds {vs:List Value}(h:RepO H e 1 base (vs.map fun v=>[v]) v):∃a c,v=.slice a vs.length c/\RdS H vs a c:=by
 rcases h with ⟨h1,rfl⟩|⟨b,c,h,rfl⟩
 ·have:vs=[]:=by simpa using h1
  subst this;exact⟨_,0,rfl,RdS.nil⟩
 ·exact⟨_,c,by simp,h.rds⟩
theorem RepO.rds' {vs:List Value}{a:Option Addr}{n c:Nat}(h:RepO H e 1 base (vs.map fun v=>[v]) (.slice a n c)):n=vs.length/\RdS H vs a c:=by
 obtain⟨a',c',hv,hr⟩:=h.rds;cases hv;exact⟨rfl,hr⟩
theorem RepO.push {t:TypeId}(h:RepO H e s base L v) (hp:apOk P t e s) {y:List Value}(hy:y.length=s) (ha:y.all one=true) (hn:L.length+1<=most) (hb:base<=H.next) :
  ∃H2 v2,dAp P #[t,t] v (.slice (some ⟨H.next,0,Option.none⟩) 1 1) (H.new (some (.row y e)))=some (.val v2 H2)/\RepO H2 e s base (L++[y]) v2/\H2.next=H.next+2/\(∀A,HX A H->A.next<=base->HX A H2)/\(∀i,i < H.next->(∀cs,H.get i≠some (.row cs e))->H2.get i=H.get i):=by
 have hs0:0 < s:=by obtain⟨i,_,_,_,_,h0,_⟩:=hp;exact h0
 have hmax:most<=maxLen:=by simp [most,maxLen]
 have hl:(H.new (some (.row y e))).load ⟨H.next,0,Option.none⟩ (1*s)=some y:=by
  rw[z4l,Nat.one_mul];unfold cutC;simp [<-hy]
 rcases h with ⟨rfl,rfl⟩|⟨b,c,h,rfl⟩
 ·refine⟨_,_,z47 hp (by omega) (by simp [most]) hl ha,.inr ⟨_,1,OwnS.first hy ha (Nat.le_succ_of_le hb),rfl⟩,rfl,fun A hx _=>(hx.new _).new _,fun i hi _=>by rw[z1k (Nat.lt_succ_of_lt hi),z1k hi]⟩
 ·obtain⟨cs,hg,hle,ht⟩:=h.row;have hbn:b < H.next:=h.hi;have h1:OwnS (H.new (some (.row y e))) e s base L b c:=h.heap (by rw[z1k hbn]) (Nat.le_succ _);have hg1:(H.new (some (.row y e))).get b=some (.row cs e):=by rw[z1k hbn];exact hg
  have hone:(cs.take (L.length*s)).all one=true:=by
   rw[ht,List.all_eq_true];intro z hz;obtain⟨l,hl1,hl2⟩:=List.mem_flatten.1 hz;exact List.all_eq_true.1 (h.all l hl1) z hl2
  refine⟨_,_,z3k hp (by omega) hn hl ha hg1 hle hone,.inr ⟨_,_,h1.push hg1 hy ha (Zj hn hmax) (Nat.le_succ_of_le hb),by simp⟩,rfl,fun A hx hA=>?_,fun i hi hne=>?_⟩;rotate_left
  ·have hib:i≠b:=fun h=>hne cs (h ▸ hg)
   rw[z1k (by rw[z07];exact Nat.lt_succ_of_lt hi),z2r hib,z1k hi]
  have hx1:=hx.new (some (.row y e));have hx2:=hx1.put (i:=b) (by have:=h.lo;omega) (Nat.lt_succ_of_lt hbn) Option.none;exact hx2.new _
end
theorem z8v (b:ByteArray):∀(k i:Nat) (r:List UInt8),b.size - i=k->ByteArray.toList.loop b i r=r.reverse++b.data.toList.drop i
 |0,i,r,h=>by
  rw[ByteArray.toList.loop,if_neg (by omega),List.drop_of_length_le (by simp;omega),List.append_nil]
 |k+1,i,r,h=>by
  have hi:i < b.data.toList.length:=by simp;omega
  rw[ByteArray.toList.loop,if_pos (by omega),z8v b k (i+1) _ (by omega),List.reverse_cons,List.append_assoc,ZG hi];congr 1;have hi':i < b.data.size:=by simpa using hi
  have:b.get! i=b.data.toList[i]:=by
   unfold ByteArray.get!;simp;rw[getElem!_pos b.data i hi']
  rw[this];rfl
theorem z1v (b:ByteArray):b.toList=b.data.toList:=by
 unfold ByteArray.toList;rw[z8v b _ 0 [] rfl];rfl
theorem zgm {P:Program}{H:Heap}{t:TypeId}{x y:Operand}{a:ByteArray}:dBin P .eql t x y (.string a) (.string ⟨#[]⟩) H=some (.val (.bool (decide (a.size=0))) H):=by
 rw[z0z,z1v,z1v];congr 3;by_cases h:a.size=0
 ·have:a.data.toList=[]:=List.length_eq_zero_iff.1 (by simpa using h);rw[this,decide_eq_true h];rfl
 ·rw[decide_eq_false h];cases hd:a.data.toList with
  |nil=>exact absurd (by have:=congrArg List.length hd;simpa using this) h
  |cons b l=>rfl
theorem z2t {P:Program}{H:Heap}{t:TypeId}{x y:Operand}{a b:ByteArray}:dBin P .eql t x y (.string a) (.string b) H=some (.val (.bool (a.data.toList == b.data.toList)) H):=by
 rw[z0z,z1v,z1v]
end Go.Hb
end

section
namespace Go.Hb
open Go Go.RowKit
section
variable (P:Program) (ok:Ok) (x:Ctx) (ops:Array Oper) (base:Nat)
def STK (e:Option Nat) (S:List (List (Nat × Nat) × Option Nat)) (G:Heap) (gs:List Heap) (ds:List Deferred) (K:Tr Value->List Deferred->Heap->Prop) (tm:Tr Value) (H:Heap):Prop :=
 match e with
 |none=>K tm ds H
 |some e=>ES1 P ok x ops tm ds H (fun tm ds H=>ES P ok x ops base S H (G :: gs) tm ds K) ops.toList[e]?
def STG (L:List (Nat × Nat)) (e:Option Nat) (S:List (List (Nat × Nat) × Option Nat)) (G:Heap) (gs:List Heap) (ds:List Deferred) (K:Tr Value->List Deferred->Heap->Prop) (tm:Tr Value) (H:Heap):Prop:=EN P ops base G gs L tm H (STK P ok x ops base e S G gs ds K)
def SGO (i k:Nat) (L:List (Nat × Nat)) (e:Option Nat) (S:List (List (Nat × Nat) × Option Nat)) (G:Heap) (gs:List Heap) (ds:List Deferred) (K:Tr Value->List Deferred->Heap->Prop) (o:Oper) (tm:Tr Value) (H:Heap) (al:Bool):Prop :=
 match al with
 |true=>AK base i tm H (fun tm H=>STG P ok x ops base L e S G gs ds K tm H) o.dst (dalloc P o (ev tm))
 |false=>NK P k o tm gs (fun tm=>STG P ok x ops base L e S G gs ds K tm H) o.dst G.next (dop P o (ev tm) G)
def SAL (i:Nat) (L:List (Nat × Nat)) (e:Option Nat) (S:List (List (Nat × Nat) × Option Nat)) (G:Heap) (gs:List Heap) (ds:List Deferred) (K:Tr Value->List Deferred->Heap->Prop) (d:Option Tmp) (tm:Tr Value) (H:Heap) (r:Option (Blk × (Nat->Value))):Prop:=AK base i tm H (fun tm H=>STG P ok x ops base L e S G gs ds K tm H) d r
def SRD (k:Nat) (L:List (Nat × Nat)) (e:Option Nat) (S:List (List (Nat × Nat) × Option Nat)) (G:Heap) (gs:List Heap) (ds:List Deferred) (K:Tr Value->List Deferred->Heap->Prop) (o:Oper) (tm:Tr Value) (H:Heap) (r:Option Dr):Prop:=NK P k o tm gs (fun tm=>STG P ok x ops base L e S G gs ds K tm H) o.dst G.next r
def SOP (i k:Nat) (L:List (Nat × Nat)) (e:Option Nat) (S:List (List (Nat × Nat) × Option Nat)) (G:Heap) (gs:List Heap) (ds:List Deferred) (K:Tr Value->List Deferred->Heap->Prop) (tm:Tr Value) (H:Heap) (o:Option Oper):Prop:=EN1 P ops base G gs i k tm H (fun tm H=>STG P ok x ops base L e S G gs ds K tm H) o
def SGD (i k:Nat) (L:List (Nat × Nat)) (e:Option Nat) (S:List (List (Nat × Nat) × Option Nat)) (G:Heap) (gs:List Heap) (ds:List Deferred) (K:Tr Value->List Deferred->Heap->Prop) (o:Oper) (tm:Tr Value) (H:Heap) (w:Bool) (g:Option Value):Prop:=GK o.dst tm (SGO P ok x ops base i k L e S G gs ds K o tm H (isAlloc o)) (STG P ok x ops base L e S G gs ds K (putD tm o.dst undef) H) w g
def SLK (S:List (List (Nat × Nat) × Option Nat)) (G:Heap) (gs:List Heap) (ds:List Deferred) (K:Tr Value->List Deferred->Heap->Prop) (d:Option Tmp) (tm:Tr Value) (H:Heap) (r:Option Dr):Prop :=
 LK P ok x d tm ds H (fun tm ds H=>ES P ok x ops base S H (G :: gs) tm ds K) r
def SEF (S:List (List (Nat × Nat) × Option Nat)) (G:Heap) (gs:List Heap) (ds:List Deferred) (K:Tr Value->List Deferred->Heap->Prop) (tm:Tr Value) (H:Heap) (o:Option Oper):Prop :=
 ES1 P ok x ops tm ds H (fun tm ds H=>ES P ok x ops base S H (G :: gs) tm ds K) o
def SEG (S:List (List (Nat × Nat) × Option Nat)) (G:Heap) (gs:List Heap) (ds:List Deferred) (K:Tr Value->List Deferred->Heap->Prop) (o:Oper) (tm:Tr Value) (H:Heap) (w:Bool) (g:Option Value):Prop :=
 GK o.dst tm (SLK P ok x ops base S G gs ds K o.dst tm H (dop P o (ev tm) H)) (ES P ok x ops base S H (G :: gs) (putD tm o.dst undef) ds K) w g
def SCK (S:List (List (Nat × Nat) × Option Nat)) (G:Heap) (gs:List Heap) (ds:List Deferred) (K:Tr Value->List Deferred->Heap->Prop) (d:Option Tmp) (tm:Tr Value) (v:Value) (H':Heap):Prop :=
 ES P ok x ops base S H' (G :: gs) (putD tm d v) ds K
end
section
variable {P:Program}{ok:Ok}{x:Ctx}{ops:Array Oper}{base i k n j:Nat}{L:List (Nat × Nat)}{e:Option Nat}{S:List (List (Nat × Nat) × Option Nat)}{G H H' G':Heap}{gs:List Heap}{ds:List Deferred}{K:Tr Value->List Deferred->Heap->Prop}{tm:Tr Value}{w b:Bool}{v:Value}
 {d:Option Tmp}{op:Op}{ty:TypeId}{pos:String}{af:Array Edge}{gd:Option (Nat × Bool)}{o:Oper}
theorem zkt:ES P ok x ops base ((L,none) :: S) G gs tm ds K=STG P ok x ops base L none S G gs ds K tm G:=_root_.id rfl
theorem zku:ES P ok x ops base ((L,some n) :: S) G gs tm ds K=STG P ok x ops base L (some n) S G gs ds K tm G:=_root_.id rfl
theorem zq5:STG P ok x ops base ((i,k) :: L) e S G gs ds K tm H=SOP P ok x ops base i k L e S G gs ds K tm H ops.toList[i]?:=_root_.id rfl
theorem zkv:STG P ok x ops base [] (some n) S G gs ds K tm H=SEF P ok x ops base S G gs ds K tm H ops.toList[n]?:=_root_.id rfl
theorem zkw:STG P ok x ops base [] none S G gs ds K tm H=K tm ds H:=_root_.id rfl
theorem zgn:SOP P ok x ops base i k L e S G gs ds K tm H (some ⟨d,op,ty,pos,af,none⟩)=SGO P ok x ops base i k L e S G gs ds K ⟨d,op,ty,pos,af,none⟩ tm H (isAlloc ⟨d,op,ty,pos,af,none⟩):=by
 simp only[SOP,EN1,SGO]<;>rfl
theorem zd7:SOP P ok x ops base i k L e S G gs ds K tm H (some ⟨d,op,ty,pos,af,some (j,w)⟩)=SGD P ok x ops base i k L e S G gs ds K ⟨d,op,ty,pos,af,some (j,w)⟩ tm H w (guardOf ops tm j):=by
 simp only[SOP,EN1,SGD,SGO]<;>rfl
theorem zq6:SGD P ok x ops base i k L e S G gs ds K o tm H true (some (.bool true))=SGO P ok x ops base i k L e S G gs ds K o tm H (isAlloc o):=by simp [SGD,GK]
theorem zq7:SGD P ok x ops base i k L e S G gs ds K o tm H false (some (.bool false))=SGO P ok x ops base i k L e S G gs ds K o tm H (isAlloc o):=by simp [SGD,GK]
theorem zq8:SGD P ok x ops base i k L e S G gs ds K o tm H true (some (.bool false))=STG P ok x ops base L e S G gs ds K (putD tm o.dst undef) H:=by simp [SGD,GK]
theorem zq9:SGD P ok x ops base i k L e S G gs ds K o tm H false (some (.bool true))=STG P ok x ops base L e S G gs ds K (putD tm o.dst undef) H:=by simp [SGD,GK]
theorem zd8:SGD P ok x ops base i k L e S G gs ds K o tm H w (some undef)=STG P ok x ops base L e S G gs ds K (putD tm o.dst undef) H:=_root_.id rfl
theorem zd9:SGO P ok x ops base i k L e S G gs ds K o tm H true=SAL P ok x ops base i L e S G gs ds K o.dst tm H (dalloc P o (ev tm)):=_root_.id rfl
theorem zgo:SGO P ok x ops base i k L e S G gs ds K o tm H false=SRD P ok x ops base k L e S G gs ds K o tm H (dop P o (ev tm) G):=_root_.id rfl
theorem zgp {B:Blk}{mk:Nat->Value}:SAL P ok x ops base i L e S G gs ds K d tm H (some (B,mk))=STG P ok x ops base L e S G gs ds K (putD tm d (mk (base+i))) (H.put (base+i) (some B)):=_root_.id rfl
theorem zkx:SRD P ok x ops base k L e S G gs ds K ⟨d,op,ty,pos,af,gd⟩ tm H (some (.val v G'))=((isRead ⟨d,op,ty,pos,af,gd⟩=false\/(G'.next=G.next/\sameOn P ⟨d,op,ty,pos,af,gd⟩ (ev tm) v (gs.take (gs.length - k))=true))/\STG P ok x ops base L e S G gs ds K (putD tm d v) H):=_root_.id rfl
theorem zgq:SEF P ok x ops base S G gs ds K tm H (some ⟨d,op,ty,pos,af,none⟩)=SLK P ok x ops base S G gs ds K d tm H (dop P ⟨d,op,ty,pos,af,none⟩ (ev tm) H):=_root_.id rfl
theorem zda:SEF P ok x ops base S G gs ds K tm H (some ⟨d,op,ty,pos,af,some (j,w)⟩)=SEG P ok x ops base S G gs ds K ⟨d,op,ty,pos,af,some (j,w)⟩ tm H w (guardOf ops tm j):=_root_.id rfl
theorem zqa:SEG P ok x ops base S G gs ds K ⟨d,op,ty,pos,af,gd⟩ tm H true (some (.bool true))=SLK P ok x ops base S G gs ds K d tm H (dop P ⟨d,op,ty,pos,af,gd⟩ (ev tm) H):=by simp [SEG,GK]
theorem zqb:SEG P ok x ops base S G gs ds K ⟨d,op,ty,pos,af,gd⟩ tm H false (some (.bool false))=SLK P ok x ops base S G gs ds K d tm H (dop P ⟨d,op,ty,pos,af,gd⟩ (ev tm) H):=by simp [SEG,GK]
theorem zqc:SEG P ok x ops base S G gs ds K o tm H true (some (.bool false))=ES P ok x ops base S H (G :: gs) (putD tm o.dst undef) ds K:=by simp [SEG,GK]
theorem zqd:SEG P ok x ops base S G gs ds K o tm H false (some (.bool true))=ES P ok x ops base S H (G :: gs) (putD tm o.dst undef) ds K:=by simp [SEG,GK]
theorem zdb:SEG P ok x ops base S G gs ds K o tm H w (some undef)=ES P ok x ops base S H (G :: gs) (putD tm o.dst undef) ds K:=_root_.id rfl
theorem zky:SLK P ok x ops base S G gs ds K d tm H (some (.val v H'))=ES P ok x ops base S H' (G :: gs) (putD tm d v) ds K:=_root_.id rfl
theorem zgr {f:FuncId}{args:List Value}:SLK P ok x ops base S G gs ds K d tm H (some (.call f args))=EvF P ok f args H (SCK P ok x ops base S G gs ds K d tm):=_root_.id rfl
theorem z0p (h:ES P ok x ops base S H' (G :: gs) (putD tm d v) ds K):SCK P ok x ops base S G gs ds K d tm v H':=h
end
end Go.Hb
end

section
namespace Go.Hb
open Go Go.RowKit
theorem zgs {k:IntKind}{n:Int}:veq (.int k n) (.int k n)=true:=by simp [veq]
theorem zqe {s:ByteArray}:veq (.string s) (.string s)=true:=by simp [veq]
theorem zkz {b:Bool}:veq (.bool b) (.bool b)=true:=by simp [veq]
theorem zgt {k:FloatKind}{n:Nat}:veq (.float k n) (.float k n)=true:=by simp [veq]
theorem zaf {a:Option Addr}:veq (.pointer a) (.pointer a)=true:=by simp [veq]
theorem zqf {a:Option Nat}:veq (.map a) (.map a)=true:=by simp [veq]
theorem zgu {a:Option Addr}{n c:Nat}:veq (.slice a n c) (.slice a n c)=true:=by simp [veq]
theorem zqg {a b:List Value}:veq (.agg ⟨a⟩) (.agg ⟨b⟩)=veqL a b:=by simp [veq]
theorem zgv {a b:List Value}:veq (.tuple ⟨a⟩) (.tuple ⟨b⟩)=veqL a b:=by simp [veq]
theorem zl0 {x y:Value}{a b:List Value}:veqL (x :: a) (y :: b)=(veq x y && veqL a b):=by simp [veqL]
theorem zqh:veqL [] []=true:=by simp [veqL]
end Go.Hb
end

section
namespace Go.Hb
open Go Go.RowKit
theorem sA:type_of% (And.intro (And.intro (And.intro (And.intro (And.intro (And.intro (@zkj) (And.intro (@zpy) (@zg0))) (And.intro (@zpz) (And.intro (@zkk) (@zg1)))) (And.intro (And.intro (@zts) (And.intro (@ztt) (@ztu))) (And.intro (And.intro (@ztv) (@zg2)) (And.intro (@zkm) (@z51))))) (And.intro (And.intro (And.intro (@zg3) (And.intro (@zg4) (@za9))) (And.intro (And.intro (@zg5) (@zcv)) (And.intro (@zcw) (@z6f)))) (And.intro (And.intro (@z6g) (And.intro (@zkl) (@zg6))) (And.intro (And.intro (@zg7) (@zga)) (And.intro (@zcx) (@zfy)))))) (And.intro (And.intro (And.intro (And.intro (@zpx) (And.intro (@zki) (@zcu))) (And.intro (@Tr.get_put) (And.intro (@z2c) (@zfz)))) (And.intro (And.intro (@Option.getD_some.{0}) (And.intro (@Nat.add_zero) (@ZP))) (And.intro (And.intro (@List.all_cons.{0}) (@List.all_nil.{0})) (And.intro (@Bool.and_self) (@zbh))))) (And.intro (And.intro (And.intro (@zg8) (And.intro (@zg9) (@z07))) (And.intro (And.intro (@get_new) (@get_put)) (And.intro (@z8i) (@z8j)))) (And.intro (And.intro (@List.drop_succ_cons.{0}) (And.intro (@List.drop_zero.{0}) (@List.take_succ_cons.{0}))) (And.intro (And.intro (@List.take_zero.{0}) (@List.length_cons.{0})) (And.intro (@List.length_nil.{0}) (@Nat.beq_refl))))))) (And.intro (And.intro (And.intro (And.intro (And.intro (@List.map_cons.{0,0}) (And.intro (@List.map_nil.{0,0}) (@z43))) (And.intro (@z8k) (And.intro (@z45) (@z8l)))) (And.intro (And.intro (@List.cons_append.{0}) (And.intro (@List.nil_append.{0}) (@List.append_nil.{0}))) (And.intro (And.intro (@Ze) (@and_self)) (And.intro (@and_true) (@true_and))))) (And.intro (And.intro (And.intro (@List.drop_nil.{0}) (And.intro (@z00) (@z3c))) (And.intro (And.intro (@z04) (@z50)) (And.intro (@z06) (@z01)))) (And.intro (And.intro (@za8) (And.intro (@z6e) (@List.getElem?_cons_succ.{0}))) (And.intro (And.intro (@List.getElem?_cons_zero.{0}) (@zgb)) (And.intro (@zgc) (@zgd)))))) (And.intro (And.intro (And.intro (And.intro (@zge) (And.intro (@zgf) (@zgg))) (And.intro (And.intro (@zq0) (@zq1)) (And.intro (@z8m) (@zq2)))) (And.intro (And.intro (@zq3) (And.intro (@zq4) (@zkn))) (And.intro (And.intro (@zcy) (@zgi)) (And.intro (@z5k) (@zgj))))) (And.intro (And.intro (And.intro (@zcz) (And.intro (@zad) (@z6i))) (And.intro (And.intro (@z7m) (@zd2)) (And.intro (@z8q) (@zgk)))) (And.intro (And.intro (@zac) (And.intro (@Option.map_some.{0,0}) (@Option.map_none.{0,0}))) (And.intro (And.intro (@List.getElem?_nil.{0}) (@Option.some.injEq.{0})) (And.intro (@Nat.mul_one) (@Int.toNat_natCast)))))))):=And.intro (And.intro (And.intro (And.intro (And.intro (And.intro (@zkj) (And.intro (@zpy) (@zg0))) (And.intro (@zpz) (And.intro (@zkk) (@zg1)))) (And.intro (And.intro (@zts) (And.intro (@ztt) (@ztu))) (And.intro (And.intro (@ztv) (@zg2)) (And.intro (@zkm) (@z51))))) (And.intro (And.intro (And.intro (@zg3) (And.intro (@zg4) (@za9))) (And.intro (And.intro (@zg5) (@zcv)) (And.intro (@zcw) (@z6f)))) (And.intro (And.intro (@z6g) (And.intro (@zkl) (@zg6))) (And.intro (And.intro (@zg7) (@zga)) (And.intro (@zcx) (@zfy)))))) (And.intro (And.intro (And.intro (And.intro (@zpx) (And.intro (@zki) (@zcu))) (And.intro (@Tr.get_put) (And.intro (@z2c) (@zfz)))) (And.intro (And.intro (@Option.getD_some.{0}) (And.intro (@Nat.add_zero) (@ZP))) (And.intro (And.intro (@List.all_cons.{0}) (@List.all_nil.{0})) (And.intro (@Bool.and_self) (@zbh))))) (And.intro (And.intro (And.intro (@zg8) (And.intro (@zg9) (@z07))) (And.intro (And.intro (@get_new) (@get_put)) (And.intro (@z8i) (@z8j)))) (And.intro (And.intro (@List.drop_succ_cons.{0}) (And.intro (@List.drop_zero.{0}) (@List.take_succ_cons.{0}))) (And.intro (And.intro (@List.take_zero.{0}) (@List.length_cons.{0})) (And.intro (@List.length_nil.{0}) (@Nat.beq_refl))))))) (And.intro (And.intro (And.intro (And.intro (And.intro (@List.map_cons.{0,0}) (And.intro (@List.map_nil.{0,0}) (@z43))) (And.intro (@z8k) (And.intro (@z45) (@z8l)))) (And.intro (And.intro (@List.cons_append.{0}) (And.intro (@List.nil_append.{0}) (@List.append_nil.{0}))) (And.intro (And.intro (@Ze) (@and_self)) (And.intro (@and_true) (@true_and))))) (And.intro (And.intro (And.intro (@List.drop_nil.{0}) (And.intro (@z00) (@z3c))) (And.intro (And.intro (@z04) (@z50)) (And.intro (@z06) (@z01)))) (And.intro (And.intro (@za8) (And.intro (@z6e) (@List.getElem?_cons_succ.{0}))) (And.intro (And.intro (@List.getElem?_cons_zero.{0}) (@zgb)) (And.intro (@zgc) (@zgd)))))) (And.intro (And.intro (And.intro (And.intro (@zge) (And.intro (@zgf) (@zgg))) (And.intro (And.intro (@zq0) (@zq1)) (And.intro (@z8m) (@zq2)))) (And.intro (And.intro (@zq3) (And.intro (@zq4) (@zkn))) (And.intro (And.intro (@zcy) (@zgi)) (And.intro (@z5k) (@zgj))))) (And.intro (And.intro (And.intro (@zcz) (And.intro (@zad) (@z6i))) (And.intro (And.intro (@z7m) (@zd2)) (And.intro (@z8q) (@zgk)))) (And.intro (And.intro (@zac) (And.intro (@Option.map_some.{0,0}) (@Option.map_none.{0,0}))) (And.intro (And.intro (@List.getElem?_nil.{0}) (@Option.some.injEq.{0})) (And.intro (@Nat.mul_one) (@Int.toNat_natCast)))))))
theorem sD:type_of% (And.intro (And.intro (And.intro (And.intro (And.intro (@zkt) (@zku)) (And.intro (@zq5) (@zkv))) (And.intro (And.intro (@zkw) (@zgn)) (And.intro (@zd7) (And.intro (@zq6) (@zq7))))) (And.intro (And.intro (And.intro (@zq8) (@zq9)) (And.intro (@zd8) (@zd9))) (And.intro (And.intro (@zgo) (@zgp)) (And.intro (@zkx) (And.intro (@zgq) (@zda)))))) (And.intro (And.intro (And.intro (And.intro (@zqa) (@zqb)) (And.intro (@zqc) (@zqd))) (And.intro (And.intro (@zdb) (@zky)) (And.intro (@zgr) (And.intro (@true_or) (@or_true))))) (And.intro (And.intro (And.intro (@false_or) (@zab)) (And.intro (@Nat.sub_self) (@Nat.sub_zero))) (And.intro (And.intro (@zd6) (@zgl)) (And.intro (@List.size_toArray.{0}) (And.intro (@z8u) (@zd5))))))):=And.intro (And.intro (And.intro (And.intro (And.intro (@zkt) (@zku)) (And.intro (@zq5) (@zkv))) (And.intro (And.intro (@zkw) (@zgn)) (And.intro (@zd7) (And.intro (@zq6) (@zq7))))) (And.intro (And.intro (And.intro (@zq8) (@zq9)) (And.intro (@zd8) (@zd9))) (And.intro (And.intro (@zgo) (@zgp)) (And.intro (@zkx) (And.intro (@zgq) (@zda)))))) (And.intro (And.intro (And.intro (And.intro (@zqa) (@zqb)) (And.intro (@zqc) (@zqd))) (And.intro (And.intro (@zdb) (@zky)) (And.intro (@zgr) (And.intro (@true_or) (@or_true))))) (And.intro (And.intro (And.intro (@false_or) (@zab)) (And.intro (@Nat.sub_self) (@Nat.sub_zero))) (And.intro (And.intro (@zd6) (@zgl)) (And.intro (@List.size_toArray.{0}) (And.intro (@z8u) (@zd5))))))
theorem sV:type_of% (And.intro (And.intro (And.intro (@zgs) (@zqe)) (And.intro (@zkz) (And.intro (@zgt) (@zaf)))) (And.intro (And.intro (@zqf) (And.intro (@zgu) (@zqg))) (And.intro (@zgv) (And.intro (@zl0) (@zqh))))):=And.intro (And.intro (And.intro (@zgs) (@zqe)) (And.intro (@zkz) (And.intro (@zgt) (@zaf)))) (And.intro (And.intro (@zqf) (And.intro (@zgu) (@zqg))) (And.intro (@zgv) (And.intro (@zl0) (@zqh))))
theorem sB:type_of% (And.intro (@sA) (And.intro (@if_true.{1}) (@if_false.{1}))):=And.intro (@sA) (And.intro (@if_true.{1}) (@if_false.{1}))
theorem sG:type_of% (And.intro (@Tr.get_put) (And.intro (@if_true.{1}) (@if_false.{1}))):=And.intro (@Tr.get_put) (And.intro (@if_true.{1}) (@if_false.{1}))
end Go.Hb
end

section
namespace Go.Hb
open Go Go.RowKit
abbrev six (t:Tm) (a:Option Addr) (c:Nat):List Value:=[.int .i64 t.kind,.string t.name,.string t.num,.int .u64 t.bits,.int .i64 t.var,.slice a t.args.length c]
theorem row6 {H:Heap}{p:Nat}{T:TypeId}{x0 x1 x2 x3 x4 x5:Value}(h:H.get p=some (Blk.row [x0,x1,x2,x3,x4,x5] T)) :
  H.load ⟨p,0,none⟩ 1=some [x0]/\H.load ⟨p,1,none⟩ 1=some [x1]/\H.load ⟨p,2,none⟩ 1=some [x2]/\H.load ⟨p,3,none⟩ 1=some [x3]/\H.load ⟨p,4,none⟩ 1=some [x4]/\H.load ⟨p,5,none⟩ 1=some [x5] /\
  H.load ⟨p,0,none⟩ 6=some [x0,x1,x2,x3,x4,x5]:=by
 refine⟨?_,?_,?_,?_,?_,?_,?_⟩<;>simp only[Heap.load,Heap.cells,h]<;>rfl
theorem row2 {H:Heap}{p:Nat}{T:TypeId}{x0 x1:Value}(h:H.get p=some (Blk.row [x0,x1] T)):H.load ⟨p,0,none⟩ 1=some [x0]/\H.load ⟨p,1,none⟩ 1=some [x1]:=by
 refine⟨?_,?_⟩<;>simp only[Heap.load,Heap.cells,h]<;>rfl
theorem new1 {H:Heap}(hw:H.wf) (A:Blk):∃H2,H.new (some A)=H2/\HX H H2/\H2.get H.next=some A/\H2.next=H.next+1/\H2.wf:=by
 have hx:=(HX.refl hw).new (some A);exact⟨_,rfl,hx,z0n,rfl,hx.wf⟩
theorem new2 {H:Heap}(hw:H.wf) (A B:Blk):∃H2,(H.new (some A)).new (some B)=H2/\HX H H2/\H2.get H.next=some A/\H2.get (H.next+1)=some B/\H2.next=H.next+2/\H2.wf:=by
 have hx:=((HX.refl hw).new (some A)).new (some B);refine⟨_,rfl,hx,?_,?_,rfl,hx.wf⟩
 ·rw[get_new,if_neg (by show H.next≠H.next+1;omega),get_new,if_pos rfl]
 ·rw[get_new];exact if_pos rfl
theorem zl1 {H:Heap}(hw:H.wf) (n i:Nat) (hi:i < n) (A:Blk):∃H2,Heap.put ⟨H.next+n,H.t⟩ (H.next+i) (some A)=H2/\HX H H2/\H2.get (H.next+i)=some A/\H2.wf:=by
 have hx:=((HX.refl hw).bump n).put (i:=H.next+i) (Nat.le_add_right _ _) (show H.next+i < H.next+n by omega) (some A);exact⟨_,rfl,hx,by rw[get_put,if_pos rfl],hx.wf⟩
theorem z3l {H:Heap}(hw:H.wf) (n:Nat):∃H2,(⟨H.next+n,H.t⟩:Heap)=H2/\HX H H2/\H2.wf:=⟨_,rfl,(HX.refl hw).bump n,((HX.refl hw).bump n).wf⟩
theorem HX.get {H H':Heap}(h:HX H H') (hw:H.wf) {p:Nat}{B:Blk}(hp:H.get p=some B):H'.get p=some B:=by
 rw[h.keep p (hw p B hp)];exact hp
theorem HX.lt {H H':Heap}(h:HX H H') (hw:H.wf) {p:Nat}{B:Blk}(hp:H.get p=some B):p < H'.next:=Zi (hw p B hp) h.next
theorem RepT.six {H:Heap}{t:Tm}{cs:List Value}(r:RepT H t cs):∃a c cells,cs=six t a c/\i64 t.kind/\t.name.size<=maxLen/\t.num.size<=maxLen/\u64 t.bits/\i64 t.var/\RepL H t.args a c cells:=r.inv
theorem RepL.max {H:Heap}{l:List Tm}{a:Option Addr}{c:Nat}{cells:Nat->List Value}(r:RepL H l a c cells):l.length<=9223372036854775807:=Zj r.len r.cap
theorem RepL.el {H:Heap}{l:List Tm}{a:Option Addr}{c:Nat}{cells:Nat->List Value}(r:RepL H l a c cells) {i:Nat}(h:i < l.length) :
  ∃b o a' c',a=some ⟨b,o,none⟩/\H.load ⟨b,o+i*6,none⟩ 6=some (Hb.six l[i] a' c')/\RepT H l[i] (Hb.six l[i] a' c'):=by
 obtain⟨b,o,rfl,hl,hr⟩:=r.at (Zc h);obtain⟨a',c',cells',hc,-⟩:=hr.six;rw[hc] at hl hr;exact⟨b,o,a',c',rfl,hl,hr⟩
theorem decl {i n:Nat}(h:i < n):decide ((i:Int) < (n:Int))=true:=decide_eq_true (by omega)
theorem decn {i n:Nat}(h:¬i < n):decide ((i:Int) < (n:Int))=false:=decide_eq_false (by omega)
end Go.Hb
end

section
namespace Go.Hb
open Go Go.RowKit
theorem RepT.len {H:Heap}{t:Tm}{cs:List Value}(r:RepT H t cs):cs.length=6:=by obtain⟨a,c,cells,rfl,-⟩:=r.six;rfl
theorem RepL.of_row {H:Heap}{l:List Tm}{css:Nat->List Value}{b c:Nat}{vs:List Value}{T:TypeId}(g:H.get b=some (.row vs T)) (hv:∀i,i < l.length->(vs.drop (i*6)).take 6=css i)
  (hr:∀i t,l[i]?=some t->RepT H t (css i)) (hl:l.length<=c) (hm:c<=maxLen):RepL H l (some ⟨b,0,none⟩) c css:=by
 refine⟨hl,hm,(fun h=>by cases h),(fun i ad hi ha=>?_),hr⟩;cases ha;refine⟨rfl,?_⟩;have hlen:=(hr i l[i] (Zc hi)).len;unfold Heap.load Heap.cells;simp only[g,ZP,hv i hi];rw[if_pos (by rw[Zt];exact hlen)]
theorem RepL.two {H:Heap}{t t':Tm}{cs cs':List Value}{b:Nat}{T:TypeId}(r:RepT H t cs) (r':RepT H t' cs') (g:H.get b=some (.row (cs++cs') T)) :
  RepL H [t,t'] (some ⟨b,0,none⟩) 2 (fun i=>if i=0 then cs else cs'):=by
 refine RepL.of_row g (fun i hi=>?_) (fun i u hu=>?_) (Ze _) (by simp [maxLen])
 ·have h1:=r.len;have h2:=r'.len
  match i,hi with
  |0,_=>simp [h1]
  |1,_=>simp [h1,h2];exact Zm (by omega)
 ·match i,hu with
  |0,hu=>cases hu;exact r
  |1,hu=>cases hu;exact r'
end Go.Hb
end

section
namespace Go.Hb
open Go Go.RowKit
def Rg (a b:Nat):Nat->Prop:=fun n=>a<=n/\n < b
structure HK (S:Nat->Prop) (H H':Heap):Prop where
 next:H.next<=H'.next
 keep:∀i,i < H.next->¬S i->H'.get i=H.get i
 wf:H'.wf
theorem HX.hk {H H':Heap}(h:HX H H') (S:Nat->Prop):HK S H H':=⟨h.next,fun i hi _=>h.keep i hi,h.wf⟩
theorem HK.refl {S:Nat->Prop}{H:Heap}(h:H.wf):HK S H H:=(HX.refl h).hk S
theorem HK.trans {S:Nat->Prop}{A B C:Heap}(h:HK S A B) (k:HK S B C):HK S A C :=
 ⟨Zj h.next k.next,fun i hi hs=>by rw[k.keep i (Zi hi h.next) hs,h.keep i hi hs],k.wf⟩
theorem HK.sub {S S':Nat->Prop}{A B:Heap}(h:HK S A B) (hs:∀n,n < A.next->S n->S' n):HK S' A B:=⟨h.next,fun i hi hn=>h.keep i hi fun q=>hn (hs i hi q),h.wf⟩
theorem HK.put {S:Nat->Prop}{A H:Heap}(h:HK S A H) {i:Nat}(hi:S i\/A.next<=i) (hl:i < H.next) (B:Option Blk):HK S A (H.put i B):=by
 refine⟨h.next,fun j hj hs=>?_,fun j C hC=>?_⟩
 ·rw[Heap.get_put,if_neg (fun e=>by subst e;rcases hi with hi|hi;exact hs hi;omega)];exact h.keep j hj hs
 ·rw[Heap.get_put] at hC;show j < H.next;by_cases hj:j=i
  ·omega
  ·rw[if_neg hj] at hC;exact h.wf j C hC
theorem HK.new {S:Nat->Prop}{A H:Heap}(h:HK S A H) (B:Option Blk):HK S A (H.new B):=h.trans (((HX.refl h.wf).new B).hk S)
theorem HK.bump {S:Nat->Prop}{A H:Heap}(h:HK S A H) (k:Nat):HK S A ⟨H.next+k,H.t⟩:=h.trans (((HX.refl h.wf).bump k).hk S)
theorem HK.get {S:Nat->Prop}{H H':Heap}(h:HK S H H') (hw:H.wf) {p:Nat}{B:Blk}(hp:H.get p=some B) (hs:¬S p):H'.get p=some B:=by
 rw[h.keep p (hw p B hp) hs];exact hp
theorem HK.hx {S:Nat->Prop}{H H':Heap}(h:HK S H H') (hs:∀n,n < H.next->¬S n):HX H H':=⟨h.next,fun i hi=>h.keep i hi (hs i hi),h.wf⟩
theorem HX.then {S:Nat->Prop}{A B C:Heap}(h:HX A B) (k:HK S B C) (hs:∀n,n < A.next->¬S n):HX A C :=
 ⟨Zj h.next k.next,fun i hi=>by rw[k.keep i (Zi hi h.next) (hs i hi),h.keep i hi],k.wf⟩
structure Bd (t:Tm):Prop where
 kind:i64 t.kind
 name:t.name.size<=maxLen
 num:t.num.size<=maxLen
 bits:u64 t.bits
 var:i64 t.var
inductive FL (H:Heap) (T:TypeId):(Nat->Prop)->List Tm->Option Addr->Nat->Prop
 |nil (S:Nat->Prop):FL H T S [] none 0
 |row (S:Nat->Prop) (l:List Tm) (b c:Nat) (cells:List Value) (Si:Nat->Nat->Prop) (ai:Nat->Option Addr) (ci:Nat->Nat):l.length<=c->c<=maxLen->H.get b=some (.row cells T)->l.length*6<=cells.length ->
   (∀(i:Nat) (u:Tm),l[i]?=some u->(cells.drop (i*6)).take 6=six u (ai i) (ci i))->(∀(i:Nat) (u:Tm),l[i]?=some u->Bd u)->S b->(∀i,i < l.length->¬Si i b)->(∀i n,i < l.length->Si i n->S n) ->
   (∀i j n,i < l.length->j < l.length->Si i n->Si j n->i=j)->(∀(i:Nat) (u:Tm),l[i]?=some u->FL H T (Si i) u.args (ai i) (ci i))->FL H T S l (some ⟨b,0,none⟩) c
theorem FL.sub {H:Heap}{T:TypeId}{S S':Nat->Prop}{l:List Tm}{a:Option Addr}{c:Nat}(h:FL H T S l a c) (hs:∀n,S n->S' n):FL H T S' l a c:=by
 cases h with
 |nil=>exact .nil _
 |row _ _ b c cells Si ai ci h1 h2 h3 h4 h5 h6 h7 h8 h9 h10 h11=>exact .row S' l b c cells Si ai ci h1 h2 h3 h4 h5 h6 (hs _ h7) h8 (fun i n hi hn=>hs _ (h9 i n hi hn)) h10 h11
theorem FL.heap {H H':Heap}{T:TypeId}{S:Nat->Prop}{l:List Tm}{a:Option Addr}{c:Nat}(h:FL H T S l a c):(∀n,S n->n < H.next->H'.get n=H.get n)->H.wf->FL H' T S l a c:=by
 induction h with
 |nil=>intro _ _;exact .nil _
 |row S l b c cells Si ai ci h1 h2 h3 h4 h5 h6 h7 h8 h9 h10 h11 ih =>
  intro hk hw;exact .row S l b c cells Si ai ci h1 h2 (by rw[hk b h7 (hw b _ h3)];exact h3) h4 h5 h6 h7 h8 h9 h10 (fun i u hu=>ih i u hu (fun n hn=>hk n (h9 i n (List.getElem?_eq_some_iff.1 hu).1 hn)) hw)
theorem FL.keep {H H':Heap}{T:TypeId}{S:Nat->Prop}{l:List Tm}{a:Option Addr}{c:Nat}(h:FL H T S l a c) (hx:HX H H') (hw:H.wf):FL H' T S l a c:=h.heap (fun n _ hl=>hx.keep n hl) hw
theorem FL.beside {H H':Heap}{T:TypeId}{S S':Nat->Prop}{l:List Tm}{a:Option Addr}{c:Nat}(h:FL H T S l a c) (hx:HK S' H H') (hw:H.wf) (hd:∀n,S n->¬S' n):FL H' T S l a c:=h.heap (fun n hs hl=>hx.keep n hl (hd n hs)) hw
theorem FL.len {H:Heap}{T:TypeId}{S:Nat->Prop}{l:List Tm}{a:Option Addr}{c:Nat}(h:FL H T S l a c):l.length<=c/\c<=maxLen/\(a=none->l=[]/\c=0):=by
 cases h with
 |nil=>exact⟨Ze _,Zl _,fun _=>⟨rfl,rfl⟩⟩
 |row _ _ b c cells Si ai ci h1 h2=>exact⟨h1,h2,fun h=>by cases h⟩
theorem FL.rep {H:Heap}{T:TypeId}{S:Nat->Prop}{l:List Tm}{a:Option Addr}{c:Nat}(h:FL H T S l a c):∃cells,RepL H l a c cells:=by
 induction h with
 |nil=>exact⟨fun _=>[],Ze _,Zl _,fun _=>⟨rfl,rfl⟩,fun i ad hi=>by simp at hi,fun i t h=>by simp at h⟩
 |row S l b c cells Si ai ci h1 h2 h3 h4 h5 h6 h7 h8 h9 h10 h11 ih =>
  refine⟨fun i=>(cells.drop (i*6)).take 6,RepL.of_row h3 (fun i hi=>rfl) (fun i t ht=>?_) h1 h2⟩;show RepT H t ((cells.drop (i*6)).take 6);rw[h5 i t ht];obtain⟨cs,rl⟩:=ih i t ht;have hb:=h6 i t ht;obtain⟨k,s,u,bb,v,l'⟩:=t;exact .mk k s u bb v l' (ai i) (ci i) cs hb.kind hb.name hb.num hb.bits hb.var (Zj rl.len rl.cap) rl.len rl.cap rl.nil rl.load rl.rep
def RepF (H:Heap) (T:TypeId) (S:Nat->Prop) (t:Tm) (cs:List Value):Prop:=∃a c,cs=six t a c/\Bd t/\FL H T S t.args a c
theorem RepF.rep {H:Heap}{T:TypeId}{S:Nat->Prop}{t:Tm}{cs:List Value}(h:RepF H T S t cs):RepT H t cs:=by
 obtain⟨a,c,rfl,hb,hf⟩:=h;obtain⟨cells,rl⟩:=hf.rep;obtain⟨k,s,u,bb,v,l'⟩:=t;exact .mk k s u bb v l' a c cells hb.kind hb.name hb.num hb.bits hb.var (Zj rl.len rl.cap) rl.len rl.cap rl.nil rl.load rl.rep
theorem RepF.keep {H H':Heap}{T:TypeId}{S:Nat->Prop}{t:Tm}{cs:List Value}(h:RepF H T S t cs) (hx:HX H H') (hw:H.wf):RepF H' T S t cs:=by
 obtain⟨a,c,e,hb,hf⟩:=h;exact⟨a,c,e,hb,hf.keep hx hw⟩
theorem RepF.beside {H H':Heap}{T:TypeId}{S S':Nat->Prop}{t:Tm}{cs:List Value}(h:RepF H T S t cs) (hx:HK S' H H') (hw:H.wf) (hd:∀n,S n->¬S' n):RepF H' T S t cs:=by
 obtain⟨a,c,e,hb,hf⟩:=h;exact⟨a,c,e,hb,hf.beside hx hw hd⟩
theorem RepF.sub {H:Heap}{T:TypeId}{S S':Nat->Prop}{t:Tm}{cs:List Value}(h:RepF H T S t cs) (hs:∀n,S n->S' n):RepF H T S' t cs:=by
 obtain⟨a,c,e,hb,hf⟩:=h;exact⟨a,c,e,hb,hf.sub hs⟩
theorem RepT.bd {H:Heap}{t:Tm}{cs:List Value}(r:RepT H t cs):Bd t:=by
 obtain⟨a,c,cells,-,b1,b2,b3,b4,b5,-⟩:=r.six;exact⟨b1,b2,b3,b4,b5⟩
structure FLs (H:Heap) (T:TypeId) (S:Nat->Prop) (l:List Tm) (cells:List Value) (Si:Nat->Nat->Prop) (ai:Nat->Option Addr) (ci:Nat->Nat):Prop where
 el:∀(i:Nat) (u:Tm),l[i]?=some u->(cells.drop (i*6)).take 6=six u (ai i) (ci i)
 bd:∀(i:Nat) (u:Tm),l[i]?=some u->Bd u
 sub:∀i n,i < l.length->Si i n->S n
 one:∀i j n,i < l.length->j < l.length->Si i n->Si j n->i=j
 fl:∀(i:Nat) (u:Tm),l[i]?=some u->FL H T (Si i) u.args (ai i) (ci i)
theorem FLs.nil {H:Heap}{T:TypeId}{S:Nat->Prop}{cells:List Value}{Si:Nat->Nat->Prop}{ai:Nat->Option Addr}{ci:Nat->Nat}:FLs H T S [] cells Si ai ci :=
 ⟨fun i u h=>by simp at h,fun i u h=>by simp at h,fun i n h=>by simp at h,fun i j n h=>by simp at h,fun i u h=>by simp at h⟩
theorem FLs.snoc {H H':Heap}{T:TypeId}{S S' N:Nat->Prop}{l:List Tm}{cells cells':List Value}{Si:Nat->Nat->Prop}{ai:Nat->Option Addr}{ci:Nat->Nat}{t:Tm}{a:Option Addr}{c:Nat}
  (h:FLs H T S l cells Si ai ci) (hk:∀n,S n->n < H.next->H'.get n=H.get n) (hw:H.wf) (ht:FL H' T N t.args a c) (hb:Bd t) (hN:∀n,N n->¬S n) (hS:∀n,S n->S' n) (hNS:∀n,N n->S' n)
  (hc:∀i,i < l.length->(cells'.drop (i*6)).take 6=(cells.drop (i*6)).take 6) (hn:(cells'.drop (l.length*6)).take 6=six t a c) :
  FLs H' T S' (l++[t]) cells' (fun i=>if i < l.length then Si i else N) (fun i=>if i < l.length then ai i else a) (fun i=>if i < l.length then ci i else c):=by
 have key:∀(i:Nat) (u:Tm),(l++[t])[i]?=some u->(i < l.length/\l[i]?=some u)\/(i=l.length/\u=t):=fun i u hu=>by
  by_cases hi:i < l.length
  ·rw[Zz hi] at hu;exact .inl ⟨hi,hu⟩
  ·rw[ZC (by omega)] at hu;have:i - l.length=0:=by
    have:=(List.getElem?_eq_some_iff.1 hu).1;simp at this;omega
   rw[this] at hu;simp at hu;exact .inr ⟨by omega,hu.symm⟩
 refine⟨fun i u hu=>?_,fun i u hu=>?_,fun i n hi hn=>?_,fun i j n hi hj hn hm=>?_,fun i u hu=>?_⟩
 ·rcases key i u hu with ⟨hi,hu⟩|⟨rfl,rfl⟩
  ·simp only[hi,if_true];rw[hc i hi];exact h.el i u hu
  ·simp only[Nat.lt_irrefl,if_false];exact hn
 ·rcases key i u hu with ⟨hi,hu⟩|⟨rfl,rfl⟩
  ·exact h.bd i u hu
  ·exact hb
 ·by_cases h1:i < l.length
  ·simp only[h1,if_true] at hn;exact hS n (h.sub i n h1 hn)
  ·simp only[h1,if_false] at hn;exact hNS n hn
 ·simp only[Zr,List.length_singleton] at hi hj;by_cases h1:i < l.length<;>by_cases h2:j < l.length
  ·simp only[h1,h2,if_true] at hn hm;exact h.one i j n h1 h2 hn hm
  ·simp only[h1,if_true] at hn;simp only[h2,if_false] at hm;exact absurd (h.sub i n h1 hn) (hN n hm)
  ·simp only[h2,if_true] at hm;simp only[h1,if_false] at hn;exact absurd (h.sub j n h2 hm) (hN n hn)
  ·omega
 ·rcases key i u hu with ⟨hi,hu⟩|⟨rfl,rfl⟩
  ·simp only[hi,if_true];exact(h.fl i u hu).heap (fun n hn hl=>hk n (h.sub i n hi hn) hl) hw
  ·simp only[Nat.lt_irrefl,if_false];exact ht
theorem FLs.heap {H H':Heap}{T:TypeId}{S:Nat->Prop}{l:List Tm}{cells:List Value}{Si:Nat->Nat->Prop}{ai:Nat->Option Addr}{ci:Nat->Nat}(h:FLs H T S l cells Si ai ci)
  (hk:∀n,S n->n < H.next->H'.get n=H.get n) (hw:H.wf):FLs H' T S l cells Si ai ci :=
 ⟨h.el,h.bd,h.sub,h.one,fun i u hu=>(h.fl i u hu).heap (fun n hn hl=>hk n (h.sub i n (List.getElem?_eq_some_iff.1 hu).1 hn) hl) hw⟩
theorem FLs.row {H:Heap}{T:TypeId}{S S':Nat->Prop}{l:List Tm}{cells:List Value}{Si:Nat->Nat->Prop}{ai:Nat->Option Addr}{ci:Nat->Nat}{b c:Nat}(h:FLs H T S l cells Si ai ci)
  (hl:l.length<=c) (hc:c<=maxLen) (hg:H.get b=some (.row cells T)) (hn:l.length*6<=cells.length) (hb:S' b) (hnb:¬S b) (hS:∀n,S n->S' n):FL H T S' l (some ⟨b,0,none⟩) c :=
 .row S' l b c cells Si ai ci hl hc hg hn h.el h.bd hb (fun i hi hs=>hnb (h.sub i b hi hs)) (fun i n hi hs=>hS n (h.sub i n hi hs)) h.one h.fl
theorem FLs.inv {H:Heap}{T:TypeId}{S:Nat->Prop}{l:List Tm}{b c:Nat}{a:Option Addr}(h:FL H T S l a c) (h0:l≠[]):∃b cells Si ai ci,a=some ⟨b,0,none⟩/\l.length<=c/\c<=maxLen/\H.get b=some (.row cells T)/\l.length*6<=cells.length /\
  S b/\(∀i,i < l.length->¬Si i b)/\FLs H T S l cells Si ai ci:=by
 cases h with
 |nil=>exact absurd rfl h0
 |row _ _ b c cells Si ai ci h1 h2 h3 h4 h5 h6 h7 h8 h9 h10 h11=>exact⟨b,cells,Si,ai,ci,rfl,h1,h2,h3,h4,h7,h8,⟨h5,h6,h9,h10,h11⟩⟩
end Go.Hb
end

section
namespace Go.Hb
open Go Go.RowKit
section
variable {P:Program}
theorem zdc {N:Nat}{w0:World}{τ:Nat->Value}{σ:Nat->Loc}{H:Heap}{w:World}{f:FuncId}{args:Array Value}{v:Value}(hv:flat v=true)
  (h:Calls P f args w fun e w'=>e=.returned v/\Below w.heap.size w w') (hH:HR P N w0 τ σ H w) :
  Calls P f args w fun e w'=>∃ σ',EnR σ' τ (.ret v) e/\HR P N w0 τ σ' H w'/\Step σ H w σ' H w':=by
 refine h.mono fun e w' ⟨he,hB⟩=>?_
 subst he;have hlt:=hH.lt;refine⟨σ,.flat _ hv,⟨hH.below.trans (hB.mono hH.size),Zj hH.size hB.size,hH.fresh,fun i B hi=>(hH.blk i B hi).world fun b S es hb=>hB.block b (hlt i b S es hb),hH.inj,
  fun i b S es hi=>Zi (hlt i b S es hi) hB.size⟩,Ze _,Ext.refl σ,fun i b S es hi=>.inr (.inl ⟨S,es,hi⟩),fun b hb _=>hB.block b hb,hB.size,fun _ _ hg=>⟨rfl,hg⟩⟩
def kLaw (fa fv:FuncId) (f:FuncId) (args:List Value) (H:Heap):Option (En × Heap) :=
 if f=fa then (match args with|[]=>some (.ret (.bool true),H)|_=>none)
 else if f=fv then (match args with|[.string s]=>if s.size<=9223372036854775807 then some (.ret (.bool (Lib.validD s.data.toList)),H) else none|_=>none)
 else none
def okLaw (mask:Nat) (fa fv:FuncId):Ok:=⟨mask,kLaw fa fv⟩
theorem zl2 {N mask:Nat}{w0:World}{fa fv:FuncId}(hok:((Zh P.funcs.size).all fun f=>!mask.testBit f || okFn P f)=true)
  (ha:∀w,Calls P fa #[] w fun e w'=>e=.returned (.bool true)/\Below w.heap.size w w')
  (hv:∀(s:ByteArray) w,s.size<=9223372036854775807->Below N w0 w->Calls P fv #[.string s] w fun e w'=>e=.returned (.bool (Lib.validD s.data.toList))/\Below w.heap.size w w'):OkFns P N w0 (okLaw mask fa fv):=by
 refine⟨za7 hok,fun τ f args args' H en H' w σ _ hk hl hH _=>?_⟩;simp only[okLaw,kLaw] at hk;split at hk
 ·rename_i hf;subst hf;split at hk
  ·cases hk;have:args'=#[]:=by
    have:=hl.1;simp at this;exact Array.eq_empty_of_size_eq_zero this.symm
   subst this;exact zdc rfl (ha w) hH
  ·cases hk
 ·split at hk
  ·rename_i hf;subst hf;split at hk
   ·rename_i s;split at hk
    ·rename_i hs;cases hk;have hlen:args'.size=1:=by have:=hl.1;simpa using this.symm
     obtain⟨v,rfl⟩:∃v,args'=#[v]:=by
      match args',hlen with
      |⟨[v]⟩,_=>exact⟨v,rfl⟩
     have hvr:=hl.2 0 (.string s) v rfl rfl;rw[VR.flat_eq hvr rfl];exact zdc rfl (hv s w hs hH.below) hH
    ·cases hk
   ·cases hk
  ·cases hk
theorem zl3 {mask:Nat}{W:World}{fa fv f:FuncId}{args:Array Value}(hm:P.follows .mixedOrders=true) (hok:((Zh P.funcs.size).all fun f=>!mask.testBit f || okFn P f)=true)
  (ha:∀w,Calls P fa #[] w fun e w'=>e=.returned (.bool true)/\Below w.heap.size w w')
  (hv:∀(s:ByteArray) w,s.size<=9223372036854775807->Below W.heap.size W w->Calls P fv #[.string s] w fun e w'=>e=.returned (.bool (Lib.validD s.data.toList))/\Below w.heap.size w w')
  (h:EvF P (okLaw mask fa fv) f (args.toList.map (abV P W)) (heapW P W) fun v _=>v=.bool true):Calls P f args W fun e W'=>e=.returned (.bool true)/\Below W.heap.size W W' :=
 zez hm (zl2 hok ha hv) h
theorem zok {mask:Nat}{fa fv:FuncId}{H:Heap}(hw:H.wf):EvF P (okLaw mask fa fv) fa [] H fun v H'=>v=.bool true/\HX H H' :=
 EvF.know (v:=.bool true) (H':=H) (by simp [okLaw,kLaw]) ⟨rfl,HX.refl hw⟩
theorem zol {mask:Nat}{fa fv:FuncId}{H:Heap}(hne:fv≠fa) (hw:H.wf) {s:ByteArray}(hs:s.size<=9223372036854775807):EvF P (okLaw mask fa fv) fv [.string s] H fun v H'=>v=.bool (Lib.validD s.data.toList)/\HX H H' :=
 EvF.know (v:=.bool (Lib.validD s.data.toList)) (H':=H) (by simp [okLaw,kLaw,hne,hs]) ⟨rfl,HX.refl hw⟩
end
end Go.Hb
end

section
namespace Go.Proofs.hq
open Go Go.RowKit Go.Hb
abbrev ClF (n:Nat):Prop:=∀{d:Option Tmp}{args:Array Operand}{ats:Array TypeId}{ty:TypeId}{pos:String}{af:Array Edge}{g:Option (Nat × Bool)}{tm:Tr Value}{H:Heap},dop Tryz.prog ⟨d,.call ⟨.value (.func n),args,ats⟩,ty,pos,af,g⟩ (ev tm) H=some (.call n (args.toList.map (ev tm)))
theorem cl4:ClF 4:=z08 (by kernel_rfl)
theorem ld23 {ad:Addr}{H:Heap}:dLoad Tryz.prog 23 (.pointer (some ad)) H=dloadA 2 (H.load ad 2) H:=z1s (by kernel_rfl) (by kernel_rfl)
theorem cl5:ClF 5:=z08 (by kernel_rfl)
theorem zr35:zerosOf Tryz.prog 35=some [.string Zd,.int .i64 0,.slice none 0 0,.bool false,.slice none 0 0,.slice none 0 0,.slice none 0 0,.slice none 0 0,.slice none 0 0,.slice none 0 0]:=by kernel_rfl
theorem st35 {b o:Nat}{H:Heap}{cs:List Value}:dStore Tryz.prog 35 (.pointer (some ⟨b,o,none⟩)) (.agg ⟨cs⟩) H=dStoreIf (Zs cs.length 10) ⟨b,o,none⟩ cs H (H.get b):=z1d (by kernel_rfl) (by kernel_rfl)
theorem ld35 {ad:Addr}{H:Heap}:dLoad Tryz.prog 35 (.pointer (some ad)) H=dloadA 10 (H.load ad 10) H:=z1s (by kernel_rfl) (by kernel_rfl)
theorem ld28 {ad:Addr}{H:Heap}:dLoad Tryz.prog 28 (.pointer (some ad)) H=dloadA 6 (H.load ad 6) H:=z1s (by kernel_rfl) (by kernel_rfl)
theorem cl6:ClF 6:=z08 (by kernel_rfl)
theorem ln32 {ty:TypeId}{a:Option Addr}{n c:Nat}{H:Heap}:dLn Tryz.prog 32 ty (.slice a n c) H=some (.val (.int .i64 n) H):=z19 (e:=3) (by kernel_rfl)
theorem ln24 {ty:TypeId}{a:Option Addr}{n c:Nat}{H:Heap}:dLn Tryz.prog 24 ty (.slice a n c) H=some (.val (.int .i64 n) H):=z19 (e:=47) (by kernel_rfl)
theorem ia32 {b o n c i:Nat}{k:IntKind}{H:Heap}(h:i < n):dIndexAddr Tryz.prog 32 (.slice (some ⟨b,o,none⟩) n c) (.int k (i:Int)) H=some (.val (.pointer (some ⟨b,o+i*1,none⟩)) H):=z0t (e:=3) (by kernel_rfl) (by kernel_rfl) (by kernel_rfl) h
theorem ld3 {ad:Addr}{H:Heap}:dLoad Tryz.prog 3 (.pointer (some ad)) H=dload1 (H.load ad 1) H:=z09 (by kernel_rfl)
theorem cl7:ClF 7:=z08 (by kernel_rfl)
theorem z6j {b o:Nat}{H:Heap}:dFieldAddr Tryz.prog 23 (.pointer (some ⟨b,o,none⟩)) 1 H=some (.val (.pointer (some ⟨b,o+1,none⟩)) H):=z05 (u:=3) (by kernel_rfl) (by kernel_rfl)
theorem ia24 {b o n c i:Nat}{k:IntKind}{H:Heap}(h:i < n):dIndexAddr Tryz.prog 24 (.slice (some ⟨b,o,none⟩) n c) (.int k (i:Int)) H=some (.val (.pointer (some ⟨b,o+i*15,none⟩)) H):=z0t (e:=47) (by kernel_rfl) (by kernel_rfl) (by kernel_rfl) h
theorem z4f {b o:Nat}{H:Heap}:dFieldAddr Tryz.prog 47 (.pointer (some ⟨b,o,none⟩)) 0 H=some (.val (.pointer (some ⟨b,o+0,none⟩)) H):=z05 (u:=28) (by kernel_rfl) (by kernel_rfl)
theorem z0u {b o:Nat}{H:Heap}:dFieldAddr Tryz.prog 28 (.pointer (some ⟨b,o,none⟩)) 5 H=some (.val (.pointer (some ⟨b,o+5,none⟩)) H):=z05 (u:=26) (by kernel_rfl) (by kernel_rfl)
theorem ld26 {ad:Addr}{H:Heap}:dLoad Tryz.prog 26 (.pointer (some ad)) H=dload1 (H.load ad 1) H:=z09 (by kernel_rfl)
theorem ia26 {b o n c i:Nat}{k:IntKind}{H:Heap}(h:i < n):dIndexAddr Tryz.prog 26 (.slice (some ⟨b,o,none⟩) n c) (.int k (i:Int)) H=some (.val (.pointer (some ⟨b,o+i*6,none⟩)) H):=z0t (e:=28) (by kernel_rfl) (by kernel_rfl) (by kernel_rfl) h
theorem iz26 {b o n c:Nat}{k:IntKind}{i:Int}{H:Heap}(h0:0<=i) (h:i < n):dIndexAddr Tryz.prog 26 (.slice (some ⟨b,o,none⟩) n c) (.int k i) H=some (.val (.pointer (some ⟨b,o+i.toNat*6,none⟩)) H):=z5j (e:=28) (by kernel_rfl) (by kernel_rfl) (by kernel_rfl) h0 h
theorem cl8:ClF 8:=z08 (by kernel_rfl)
theorem zr28:zerosOf Tryz.prog 28=some [.int .i64 0,.string Zd,.string Zd,.int .u64 0,.int .i64 0,.slice none 0 0]:=by kernel_rfl
theorem st28 {b o:Nat}{H:Heap}{cs:List Value}:dStore Tryz.prog 28 (.pointer (some ⟨b,o,none⟩)) (.agg ⟨cs⟩) H=dStoreIf (Zs cs.length 6) ⟨b,o,none⟩ cs H (H.get b):=z1d (by kernel_rfl) (by kernel_rfl)
theorem zag {v0 v1:Value}{H:Heap}:dBuildS Tryz.prog 26 2 [(0,v0),(1,v1)] H=dBs 28 2 (([(0,v0),(1,v1)]:List (Nat × Value)).all fun p=>p.2.cells.toList.all one) (layC [(0,6),(6,6)] [.int .i64 0,.string Zd,.string Zd,.int .u64 0,.int .i64 0,.slice none 0 0,.int .i64 0,.string Zd,.string Zd,.int .u64 0,.int .i64 0,.slice none 0 0] (([(0,v0),(1,v1)]:List (Nat × Value)).map fun p=>(p.1,p.2.cells.toList))) H:=z16 (size:=6) (by kernel_rfl) rfl
theorem zah {v0:Value}{H:Heap}:dBuildS Tryz.prog 26 1 [(0,v0)] H=dBs 28 1 (([(0,v0)]:List (Nat × Value)).all fun p=>p.2.cells.toList.all one) (layC [(0,6)] [.int .i64 0,.string Zd,.string Zd,.int .u64 0,.int .i64 0,.slice none 0 0] (([(0,v0)]:List (Nat × Value)).map fun p=>(p.1,p.2.cells.toList))) H:=z16 (size:=6) (by kernel_rfl) rfl
theorem bd23 {vs:List (Nat × Value)}{H:Heap}:dBuild Tryz.prog 23 vs H=dBd (vs.all fun p=>p.2.cells.toList.all one) (layC [(0,1),(1,1)] [.string Zd,.int .i64 0] (vs.map fun p=>(p.1,p.2.cells.toList))) H:=z1t (by kernel_rfl) (by kernel_rfl)
theorem zty {v0:Value}{H:Heap}:dBuildS Tryz.prog 24 1 [(0,v0)] H=dBs 47 1 (([(0,v0)]:List (Nat × Value)).all fun p=>p.2.cells.toList.all one) (layC [(0,15)] [.int .i64 0,.string Zd,.string Zd,.int .u64 0,.int .i64 0,.slice none 0 0,.int .i64 0,.int .i64 0,.string Zd,.string Zd,.int .u64 0,.int .i64 0,.slice none 0 0,.slice none 0 0,.int .i64 0] (([(0,v0)]:List (Nat × Value)).map fun p=>(p.1,p.2.cells.toList))) H:=z16 (size:=15) (by kernel_rfl) rfl
theorem zgw {b o:Nat}{H:Heap}:dFieldAddr Tryz.prog 35 (.pointer (some ⟨b,o,none⟩)) 3 H=some (.val (.pointer (some ⟨b,o+4,none⟩)) H):=z05 (u:=30) (by kernel_rfl) (by kernel_rfl)
theorem ld30 {ad:Addr}{H:Heap}:dLoad Tryz.prog 30 (.pointer (some ad)) H=dload1 (H.load ad 1) H:=z09 (by kernel_rfl)
theorem ln30 {ty:TypeId}{a:Option Addr}{n c:Nat}{H:Heap}:dLn Tryz.prog 30 ty (.slice a n c) H=some (.val (.int .i64 n) H):=z19 (e:=53) (by kernel_rfl)
theorem ia30 {b o n c i:Nat}{k:IntKind}{H:Heap}(h:i < n):dIndexAddr Tryz.prog 30 (.slice (some ⟨b,o,none⟩) n c) (.int k (i:Int)) H=some (.val (.pointer (some ⟨b,o+i*3,none⟩)) H):=z0t (e:=53) (by kernel_rfl) (by kernel_rfl) (by kernel_rfl) h
theorem bd53 {vs:List (Nat × Value)}{H:Heap}:dBuild Tryz.prog 53 vs H=dBd (vs.all fun p=>p.2.cells.toList.all one) (layC [(0,1),(1,1),(2,1)] [.int .i64 0,.int .i64 0,.int .i64 0] (vs.map fun p=>(p.1,p.2.cells.toList))) H:=z1t (by kernel_rfl) (by kernel_rfl)
theorem z8w {b o:Nat}{H:Heap}:dFieldAddr Tryz.prog 35 (.pointer (some ⟨b,o,none⟩)) 7 H=some (.val (.pointer (some ⟨b,o+8,none⟩)) H):=z05 (u:=33) (by kernel_rfl) (by kernel_rfl)
theorem ld33 {ad:Addr}{H:Heap}:dLoad Tryz.prog 33 (.pointer (some ad)) H=dload1 (H.load ad 1) H:=z09 (by kernel_rfl)
theorem ln33 {ty:TypeId}{a:Option Addr}{n c:Nat}{H:Heap}:dLn Tryz.prog 33 ty (.slice a n c) H=some (.val (.int .i64 n) H):=z19 (e:=65) (by kernel_rfl)
theorem bd35 {vs:List (Nat × Value)}{H:Heap}:dBuild Tryz.prog 35 vs H=dBd (vs.all fun p=>p.2.cells.toList.all one) (layC [(0,2),(2,1),(3,1),(4,1),(5,1),(6,1),(7,1),(8,1),(9,1)] [.string Zd,.int .i64 0,.slice none 0 0,.bool false,.slice none 0 0,.slice none 0 0,.slice none 0 0,.slice none 0 0,.slice none 0 0,.slice none 0 0] (vs.map fun p=>(p.1,p.2.cells.toList))) H:=z1t (by kernel_rfl) (by kernel_rfl)
theorem bd58 {vs:List (Nat × Value)}{H:Heap}:dBuild Tryz.prog 58 vs H=dBd (vs.all fun p=>p.2.cells.toList.all one) (layC [(0,10),(10,1),(11,1)] [.string Zd,.int .i64 0,.slice none 0 0,.bool false,.slice none 0 0,.slice none 0 0,.slice none 0 0,.slice none 0 0,.slice none 0 0,.slice none 0 0,.map none,.int .i64 0] (vs.map fun p=>(p.1,p.2.cells.toList))) H:=z1t (by kernel_rfl) (by kernel_rfl)
theorem ld47 {ad:Addr}{H:Heap}:dLoad Tryz.prog 47 (.pointer (some ad)) H=dloadA 15 (H.load ad 15) H:=z1s (by kernel_rfl) (by kernel_rfl)
theorem zr47:zerosOf Tryz.prog 47=some [.int .i64 0,.string Zd,.string Zd,.int .u64 0,.int .i64 0,.slice none 0 0,.int .i64 0,.int .i64 0,.string Zd,.string Zd,.int .u64 0,.int .i64 0,.slice none 0 0,.slice none 0 0,.int .i64 0]:=by kernel_rfl
theorem st47 {b o:Nat}{H:Heap}{cs:List Value}:dStore Tryz.prog 47 (.pointer (some ⟨b,o,none⟩)) (.agg ⟨cs⟩) H=dStoreIf (Zs cs.length 15) ⟨b,o,none⟩ cs H (H.get b):=z1d (by kernel_rfl) (by kernel_rfl)
theorem cl13:ClF 13:=z08 (by kernel_rfl)
theorem z11 {b o:Nat}{H:Heap}:dFieldAddr Tryz.prog 28 (.pointer (some ⟨b,o,none⟩)) 1 H=some (.val (.pointer (some ⟨b,o+1,none⟩)) H):=z05 (u:=9) (by kernel_rfl) (by kernel_rfl)
theorem ld9 {ad:Addr}{H:Heap}:dLoad Tryz.prog 9 (.pointer (some ad)) H=dload1 (H.load ad 1) H:=z09 (by kernel_rfl)
theorem zl4 {b o:Nat}{H:Heap}:dFieldAddr Tryz.prog 23 (.pointer (some ⟨b,o,none⟩)) 0 H=some (.val (.pointer (some ⟨b,o+0,none⟩)) H):=z05 (u:=9) (by kernel_rfl) (by kernel_rfl)
theorem ln26 {ty:TypeId}{a:Option Addr}{n c:Nat}{H:Heap}:dLn Tryz.prog 26 ty (.slice a n c) H=some (.val (.int .i64 n) H):=z19 (e:=28) (by kernel_rfl)
theorem z2w {b o:Nat}{H:Heap}:dFieldAddr Tryz.prog 58 (.pointer (some ⟨b,o,none⟩)) 0 H=some (.val (.pointer (some ⟨b,o+0,none⟩)) H):=z05 (u:=35) (by kernel_rfl) (by kernel_rfl)
theorem zl5 {b o:Nat}{H:Heap}:dFieldAddr Tryz.prog 35 (.pointer (some ⟨b,o,none⟩)) 1 H=some (.val (.pointer (some ⟨b,o+2,none⟩)) H):=z05 (u:=24) (by kernel_rfl) (by kernel_rfl)
theorem ld24 {ad:Addr}{H:Heap}:dLoad Tryz.prog 24 (.pointer (some ad)) H=dload1 (H.load ad 1) H:=z09 (by kernel_rfl)
theorem cl14:ClF 14:=z08 (by kernel_rfl)
theorem zgx {b o:Nat}{H:Heap}:dFieldAddr Tryz.prog 47 (.pointer (some ⟨b,o,none⟩)) 1 H=some (.val (.pointer (some ⟨b,o+6,none⟩)) H):=z05 (u:=45) (by kernel_rfl) (by kernel_rfl)
theorem ld45 {ad:Addr}{H:Heap}:dLoad Tryz.prog 45 (.pointer (some ad)) H=dloadA 8 (H.load ad 8) H:=z1s (by kernel_rfl) (by kernel_rfl)
theorem cl15:ClF 15:=z08 (by kernel_rfl)
theorem zdd {b o:Nat}{H:Heap}:dFieldAddr Tryz.prog 47 (.pointer (some ⟨b,o,none⟩)) 2 H=some (.val (.pointer (some ⟨b,o+14,none⟩)) H):=z05 (u:=3) (by kernel_rfl) (by kernel_rfl)
theorem bd47 {vs:List (Nat × Value)}{H:Heap}:dBuild Tryz.prog 47 vs H=dBd (vs.all fun p=>p.2.cells.toList.all one) (layC [(0,6),(6,8),(14,1)] [.int .i64 0,.string Zd,.string Zd,.int .u64 0,.int .i64 0,.slice none 0 0,.int .i64 0,.int .i64 0,.string Zd,.string Zd,.int .u64 0,.int .i64 0,.slice none 0 0,.slice none 0 0,.int .i64 0] (vs.map fun p=>(p.1,p.2.cells.toList))) H:=z1t (by kernel_rfl) (by kernel_rfl)
theorem ap24:apOk Tryz.prog 24 47 15:=z3j (by kernel_rfl)
theorem st24 {b o:Nat}{H:Heap}{a:Option Addr}{n c:Nat}:dStore Tryz.prog 24 (.pointer (some ⟨b,o,none⟩)) (.slice a n c) H=dStoreB ⟨b,o,none⟩ [.slice a n c] H (H.get b):=z1i (by kernel_rfl) (by kernel_rfl)
theorem cl16:ClF 16:=z08 (by kernel_rfl)
theorem cl17:ClF 17:=z08 (by kernel_rfl)
theorem cl18:ClF 18:=z08 (by kernel_rfl)
theorem zgy {b o:Nat}{H:Heap}:dFieldAddr Tryz.prog 35 (.pointer (some ⟨b,o,none⟩)) 2 H=some (.val (.pointer (some ⟨b,o+3,none⟩)) H):=z05 (u:=4) (by kernel_rfl) (by kernel_rfl)
theorem ld4 {ad:Addr}{H:Heap}:dLoad Tryz.prog 4 (.pointer (some ad)) H=dload1 (H.load ad 1) H:=z09 (by kernel_rfl)
theorem zl6 {b o:Nat}{H:Heap}:dFieldAddr Tryz.prog 35 (.pointer (some ⟨b,o,none⟩)) 0 H=some (.val (.pointer (some ⟨b,o+0,none⟩)) H):=z05 (u:=23) (by kernel_rfl) (by kernel_rfl)
theorem z0i {b o:Nat}{H:Heap}:dFieldAddr Tryz.prog 28 (.pointer (some ⟨b,o,none⟩)) 0 H=some (.val (.pointer (some ⟨b,o+0,none⟩)) H):=z05 (u:=3) (by kernel_rfl) (by kernel_rfl)
theorem mk32:mkOk Tryz.prog 32 3 [.int .i64 0]:=zf1 (by kernel_rfl)
theorem st3 {b o:Nat}{H:Heap}{k:IntKind}{n:Int}:dStore Tryz.prog 3 (.pointer (some ⟨b,o,none⟩)) (.int k n) H=dStoreB ⟨b,o,none⟩ [.int k n] H (H.get b):=z3u (by kernel_rfl) (by kernel_rfl)
theorem ia33 {b o n c i:Nat}{k:IntKind}{H:Heap}(h:i < n):dIndexAddr Tryz.prog 33 (.slice (some ⟨b,o,none⟩) n c) (.int k (i:Int)) H=some (.val (.pointer (some ⟨b,o+i*3,none⟩)) H):=z0t (e:=65) (by kernel_rfl) (by kernel_rfl) (by kernel_rfl) h
theorem ld65 {ad:Addr}{H:Heap}:dLoad Tryz.prog 65 (.pointer (some ad)) H=dloadA 3 (H.load ad 3) H:=z1s (by kernel_rfl) (by kernel_rfl)
theorem zr65:zerosOf Tryz.prog 65=some [.bool false,.int .i64 0,.slice none 0 0]:=by kernel_rfl
theorem st65 {b o:Nat}{H:Heap}{cs:List Value}:dStore Tryz.prog 65 (.pointer (some ⟨b,o,none⟩)) (.agg ⟨cs⟩) H=dStoreIf (Zs cs.length 3) ⟨b,o,none⟩ cs H (H.get b):=z1d (by kernel_rfl) (by kernel_rfl)
theorem cl19:ClF 19:=z08 (by kernel_rfl)
theorem zgz {b o:Nat}{H:Heap}:dFieldAddr Tryz.prog 65 (.pointer (some ⟨b,o,none⟩)) 2 H=some (.val (.pointer (some ⟨b,o+2,none⟩)) H):=z05 (u:=32) (by kernel_rfl) (by kernel_rfl)
theorem ld32 {ad:Addr}{H:Heap}:dLoad Tryz.prog 32 (.pointer (some ad)) H=dload1 (H.load ad 1) H:=z09 (by kernel_rfl)
theorem cl20:ClF 20:=z08 (by kernel_rfl)
theorem zl7 {b o:Nat}{H:Heap}:dFieldAddr Tryz.prog 35 (.pointer (some ⟨b,o,none⟩)) 8 H=some (.val (.pointer (some ⟨b,o+9,none⟩)) H):=z05 (u:=32) (by kernel_rfl) (by kernel_rfl)
theorem cl21:ClF 21:=z08 (by kernel_rfl)
theorem bd28 {vs:List (Nat × Value)}{H:Heap}:dBuild Tryz.prog 28 vs H=dBd (vs.all fun p=>p.2.cells.toList.all one) (layC [(0,1),(1,1),(2,1),(3,1),(4,1),(5,1)] [.int .i64 0,.string Zd,.string Zd,.int .u64 0,.int .i64 0,.slice none 0 0] (vs.map fun p=>(p.1,p.2.cells.toList))) H:=z1t (by kernel_rfl) (by kernel_rfl)
theorem ap26:apOk Tryz.prog 26 28 6:=z3j (by kernel_rfl)
theorem cl22:ClF 22:=z08 (by kernel_rfl)
theorem zl8 {b o:Nat}{H:Heap}:dFieldAddr Tryz.prog 35 (.pointer (some ⟨b,o,none⟩)) 4 H=some (.val (.pointer (some ⟨b,o+5,none⟩)) H):=z05 (u:=26) (by kernel_rfl) (by kernel_rfl)
theorem cl26:ClF 26:=z08 (by kernel_rfl)
theorem zh0 {b o:Nat}{H:Heap}:dFieldAddr Tryz.prog 35 (.pointer (some ⟨b,o,none⟩)) 5 H=some (.val (.pointer (some ⟨b,o+6,none⟩)) H):=z05 (u:=31) (by kernel_rfl) (by kernel_rfl)
theorem ld31 {ad:Addr}{H:Heap}:dLoad Tryz.prog 31 (.pointer (some ad)) H=dload1 (H.load ad 1) H:=z09 (by kernel_rfl)
theorem ztz {b o:Nat}{H:Heap}:dFieldAddr Tryz.prog 35 (.pointer (some ⟨b,o,none⟩)) 6 H=some (.val (.pointer (some ⟨b,o+7,none⟩)) H):=z05 (u:=32) (by kernel_rfl) (by kernel_rfl)
theorem cl32:ClF 32:=z08 (by kernel_rfl)
theorem cl33:ClF 33:=z08 (by kernel_rfl)
theorem cl34:ClF 34:=z08 (by kernel_rfl)
theorem cl35:ClF 35:=z08 (by kernel_rfl)
theorem cl36:ClF 36:=z08 (by kernel_rfl)
theorem cl37:ClF 37:=z08 (by kernel_rfl)
theorem zr45:zerosOf Tryz.prog 45=some [.int .i64 0,.int .i64 0,.string Zd,.string Zd,.int .u64 0,.int .i64 0,.slice none 0 0,.slice none 0 0]:=by kernel_rfl
theorem z14 {b o:Nat}{H:Heap}:dFieldAddr Tryz.prog 45 (.pointer (some ⟨b,o,none⟩)) 0 H=some (.val (.pointer (some ⟨b,o+0,none⟩)) H):=z05 (u:=3) (by kernel_rfl) (by kernel_rfl)
theorem bd45 {vs:List (Nat × Value)}{H:Heap}:dBuild Tryz.prog 45 vs H=dBd (vs.all fun p=>p.2.cells.toList.all one) (layC [(0,1),(1,6),(7,1)] [.int .i64 0,.int .i64 0,.string Zd,.string Zd,.int .u64 0,.int .i64 0,.slice none 0 0,.slice none 0 0] (vs.map fun p=>(p.1,p.2.cells.toList))) H:=z1t (by kernel_rfl) (by kernel_rfl)
theorem st45 {b o:Nat}{H:Heap}{cs:List Value}:dStore Tryz.prog 45 (.pointer (some ⟨b,o,none⟩)) (.agg ⟨cs⟩) H=dStoreIf (Zs cs.length 8) ⟨b,o,none⟩ cs H (H.get b):=z1d (by kernel_rfl) (by kernel_rfl)
theorem z5l {b o:Nat}{H:Heap}:dFieldAddr Tryz.prog 45 (.pointer (some ⟨b,o,none⟩)) 1 H=some (.val (.pointer (some ⟨b,o+1,none⟩)) H):=z05 (u:=28) (by kernel_rfl) (by kernel_rfl)
theorem z29 {b o:Nat}{H:Heap}:dFieldAddr Tryz.prog 45 (.pointer (some ⟨b,o,none⟩)) 2 H=some (.val (.pointer (some ⟨b,o+7,none⟩)) H):=z05 (u:=43) (by kernel_rfl) (by kernel_rfl)
theorem ld43 {ad:Addr}{H:Heap}:dLoad Tryz.prog 43 (.pointer (some ad)) H=dload1 (H.load ad 1) H:=z09 (by kernel_rfl)
theorem ln43 {ty:TypeId}{a:Option Addr}{n c:Nat}{H:Heap}:dLn Tryz.prog 43 ty (.slice a n c) H=some (.val (.int .i64 n) H):=z19 (e:=45) (by kernel_rfl)
theorem ia43 {b o n c i:Nat}{k:IntKind}{H:Heap}(h:i < n):dIndexAddr Tryz.prog 43 (.slice (some ⟨b,o,none⟩) n c) (.int k (i:Int)) H=some (.val (.pointer (some ⟨b,o+i*8,none⟩)) H):=z0t (e:=45) (by kernel_rfl) (by kernel_rfl) (by kernel_rfl) h
theorem zl9 {v0:Value}{H:Heap}:dBuildS Tryz.prog 43 1 [(0,v0)] H=dBs 45 1 (([(0,v0)]:List (Nat × Value)).all fun p=>p.2.cells.toList.all one) (layC [(0,8)] [.int .i64 0,.int .i64 0,.string Zd,.string Zd,.int .u64 0,.int .i64 0,.slice none 0 0,.slice none 0 0] (([(0,v0)]:List (Nat × Value)).map fun p=>(p.1,p.2.cells.toList))) H:=z16 (size:=8) (by kernel_rfl) rfl
theorem ap43:apOk Tryz.prog 43 45 8:=z3j (by kernel_rfl)
theorem st43 {b o:Nat}{H:Heap}{a:Option Addr}{n c:Nat}:dStore Tryz.prog 43 (.pointer (some ⟨b,o,none⟩)) (.slice a n c) H=dStoreB ⟨b,o,none⟩ [.slice a n c] H (H.get b):=z1i (by kernel_rfl) (by kernel_rfl)
theorem zqi {b o:Nat}{H:Heap}:dFieldAddr Tryz.prog 58 (.pointer (some ⟨b,o,none⟩)) 1 H=some (.val (.pointer (some ⟨b,o+10,none⟩)) H):=z05 (u:=56) (by kernel_rfl) (by kernel_rfl)
theorem st56 {b o:Nat}{H:Heap}{a:Option Nat}:dStore Tryz.prog 56 (.pointer (some ⟨b,o,none⟩)) (.map a) H=dStoreB ⟨b,o,none⟩ [.map a] H (H.get b):=z8o (by kernel_rfl) (by kernel_rfl)
theorem zqj {b o:Nat}{H:Heap}:dFieldAddr Tryz.prog 58 (.pointer (some ⟨b,o,none⟩)) 2 H=some (.val (.pointer (some ⟨b,o+11,none⟩)) H):=z05 (u:=3) (by kernel_rfl) (by kernel_rfl)
theorem cl38:ClF 38:=z08 (by kernel_rfl)
theorem zde {v0:Value}{H:Heap}:dBuildS Tryz.prog 32 1 [(0,v0)] H=dBs 3 1 (([(0,v0)]:List (Nat × Value)).all fun p=>p.2.cells.toList.all one) (layC [(0,1)] [.int .i64 0] (([(0,v0)]:List (Nat × Value)).map fun p=>(p.1,p.2.cells.toList))) H:=z16 (size:=1) (by kernel_rfl) rfl
theorem ap32:apOk Tryz.prog 32 3 1:=z3j (by kernel_rfl)
theorem st32 {b o:Nat}{H:Heap}{a:Option Addr}{n c:Nat}:dStore Tryz.prog 32 (.pointer (some ⟨b,o,none⟩)) (.slice a n c) H=dStoreB ⟨b,o,none⟩ [.slice a n c] H (H.get b):=z1i (by kernel_rfl) (by kernel_rfl)
theorem cl39:ClF 39:=z08 (by kernel_rfl)
theorem cl40:ClF 40:=z08 (by kernel_rfl)
theorem cl41:ClF 41:=z08 (by kernel_rfl)
theorem bd65 {vs:List (Nat × Value)}{H:Heap}:dBuild Tryz.prog 65 vs H=dBd (vs.all fun p=>p.2.cells.toList.all one) (layC [(0,1),(1,1),(2,1)] [.bool false,.int .i64 0,.slice none 0 0] (vs.map fun p=>(p.1,p.2.cells.toList))) H:=z1t (by kernel_rfl) (by kernel_rfl)
theorem cl42:ClF 42:=z08 (by kernel_rfl)
theorem z39 {b o:Nat}{H:Heap}:dFieldAddr Tryz.prog 65 (.pointer (some ⟨b,o,none⟩)) 1 H=some (.val (.pointer (some ⟨b,o+1,none⟩)) H):=z05 (u:=3) (by kernel_rfl) (by kernel_rfl)
theorem cl43:ClF 43:=z08 (by kernel_rfl)
theorem cl44:ClF 44:=z08 (by kernel_rfl)
theorem zu0 {v0:Value}{H:Heap}:dBuildS Tryz.prog 33 1 [(0,v0)] H=dBs 65 1 (([(0,v0)]:List (Nat × Value)).all fun p=>p.2.cells.toList.all one) (layC [(0,3)] [.bool false,.int .i64 0,.slice none 0 0] (([(0,v0)]:List (Nat × Value)).map fun p=>(p.1,p.2.cells.toList))) H:=z16 (size:=3) (by kernel_rfl) rfl
theorem ap33:apOk Tryz.prog 33 65 3:=z3j (by kernel_rfl)
theorem st33 {b o:Nat}{H:Heap}{a:Option Addr}{n c:Nat}:dStore Tryz.prog 33 (.pointer (some ⟨b,o,none⟩)) (.slice a n c) H=dStoreB ⟨b,o,none⟩ [.slice a n c] H (H.get b):=z1i (by kernel_rfl) (by kernel_rfl)
theorem z7n {b o:Nat}{H:Heap}:dFieldAddr Tryz.prog 65 (.pointer (some ⟨b,o,none⟩)) 0 H=some (.val (.pointer (some ⟨b,o+0,none⟩)) H):=z05 (u:=4) (by kernel_rfl) (by kernel_rfl)
theorem cl27:ClF 27:=z08 (by kernel_rfl)
theorem ln31 {ty:TypeId}{a:Option Addr}{n c:Nat}{H:Heap}:dLn Tryz.prog 31 ty (.slice a n c) H=some (.val (.int .i64 n) H):=z19 (e:=23) (by kernel_rfl)
theorem ia31 {b o n c i:Nat}{k:IntKind}{H:Heap}(h:i < n):dIndexAddr Tryz.prog 31 (.slice (some ⟨b,o,none⟩) n c) (.int k (i:Int)) H=some (.val (.pointer (some ⟨b,o+i*2,none⟩)) H):=z0t (e:=23) (by kernel_rfl) (by kernel_rfl) (by kernel_rfl) h
theorem zqk {H:Heap}:dBuildS Tryz.prog 32 0 [] H=dBs 3 0 (([]:List (Nat × Value)).all fun p=>p.2.cells.toList.all one) (layC [] [] (([]:List (Nat × Value)).map fun p=>(p.1,p.2.cells.toList))) H:=z16 (size:=1) (by kernel_rfl) rfl
theorem z3d {b o:Nat}{H:Heap}:dFieldAddr Tryz.prog 28 (.pointer (some ⟨b,o,none⟩)) 2 H=some (.val (.pointer (some ⟨b,o+2,none⟩)) H):=z05 (u:=9) (by kernel_rfl) (by kernel_rfl)
theorem z4n {b o:Nat}{H:Heap}:dFieldAddr Tryz.prog 28 (.pointer (some ⟨b,o,none⟩)) 3 H=some (.val (.pointer (some ⟨b,o+3,none⟩)) H):=z05 (u:=25) (by kernel_rfl) (by kernel_rfl)
theorem ld25 {ad:Addr}{H:Heap}:dLoad Tryz.prog 25 (.pointer (some ad)) H=dload1 (H.load ad 1) H:=z09 (by kernel_rfl)
theorem z3e {b o:Nat}{H:Heap}:dFieldAddr Tryz.prog 28 (.pointer (some ⟨b,o,none⟩)) 4 H=some (.val (.pointer (some ⟨b,o+4,none⟩)) H):=z05 (u:=3) (by kernel_rfl) (by kernel_rfl)
theorem cl47:ClF 47:=z08 (by kernel_rfl)
theorem cl48:ClF 48:=z08 (by kernel_rfl)
theorem cl49:ClF 49:=z08 (by kernel_rfl)
theorem cl50:ClF 50:=z08 (by kernel_rfl)
theorem cl51:ClF 51:=z08 (by kernel_rfl)
theorem cl52:ClF 52:=z08 (by kernel_rfl)
theorem zla {b o:Nat}{H:Heap}:dFieldAddr Tryz.prog 103 (.pointer (some ⟨b,o,none⟩)) 0 H=some (.val (.pointer (some ⟨b,o+0,none⟩)) H):=z05 (u:=28) (by kernel_rfl) (by kernel_rfl)
theorem cl53:ClF 53:=z08 (by kernel_rfl)
theorem cl54:ClF 54:=z08 (by kernel_rfl)
theorem cl55:ClF 55:=z08 (by kernel_rfl)
theorem cl56:ClF 56:=z08 (by kernel_rfl)
theorem cl58:ClF 58:=z08 (by kernel_rfl)
theorem cl59:ClF 59:=z08 (by kernel_rfl)
theorem zva:zerosOf Tryz.prog 112=some [.map none]:=by kernel_rfl
theorem zvb {b o:Nat}{H:Heap}{a:Option Nat}:dStore Tryz.prog 112 (.pointer (some ⟨b,o,none⟩)) (.map a) H=dStoreB ⟨b,o,none⟩ [.map a] H (H.get b):=z8o (by kernel_rfl) (by kernel_rfl)
theorem zvc {ty:TypeId}{a:Option Addr}{n c:Nat}{H:Heap}:dLn Tryz.prog 111 ty (.slice a n c) H=some (.val (.int .i64 n) H):=z19 (e:=114) (by kernel_rfl)
theorem zvd {b o n c i:Nat}{k:IntKind}{H:Heap}(h:i < n):dIndexAddr Tryz.prog 111 (.slice (some ⟨b,o,none⟩) n c) (.int k (i:Int)) H=some (.val (.pointer (some ⟨b,o+i*7,none⟩)) H):=z0t (e:=114) (by kernel_rfl) (by kernel_rfl) (by kernel_rfl) h
theorem zve {ad:Addr}{H:Heap}:dLoad Tryz.prog 114 (.pointer (some ad)) H=dloadA 7 (H.load ad 7) H:=z1s (by kernel_rfl) (by kernel_rfl)
theorem zvf:zerosOf Tryz.prog 114=some [.int .i64 0,.int .i64 0,.string Zd,.string Zd,.int .u64 0,.int .i64 0,.slice none 0 0]:=by kernel_rfl
theorem zvg {b o:Nat}{H:Heap}{cs:List Value}:dStore Tryz.prog 114 (.pointer (some ⟨b,o,none⟩)) (.agg ⟨cs⟩) H=dStoreIf (Zs cs.length 7) ⟨b,o,none⟩ cs H (H.get b):=z1d (by kernel_rfl) (by kernel_rfl)
theorem zf8 {ad:Addr}{H:Heap}:dLoad Tryz.prog 112 (.pointer (some ad)) H=dload1 (H.load ad 1) H:=z09 (by kernel_rfl)
theorem z8x {b o:Nat}{H:Heap}:dFieldAddr Tryz.prog 114 (.pointer (some ⟨b,o,none⟩)) 0 H=some (.val (.pointer (some ⟨b,o+0,none⟩)) H):=z05 (u:=3) (by kernel_rfl) (by kernel_rfl)
theorem zlb {b o:Nat}{H:Heap}:dFieldAddr Tryz.prog 114 (.pointer (some ⟨b,o,none⟩)) 1 H=some (.val (.pointer (some ⟨b,o+1,none⟩)) H):=z05 (u:=28) (by kernel_rfl) (by kernel_rfl)
theorem zr3:zerosOf Tryz.prog 3=some [.int .i64 0]:=by kernel_rfl
theorem cl61:ClF 61:=z08 (by kernel_rfl)
theorem cl63:ClF 63:=z08 (by kernel_rfl)
theorem zql {v0:Value}{H:Heap}:dBuildS Tryz.prog 30 1 [(0,v0)] H=dBs 53 1 (([(0,v0)]:List (Nat × Value)).all fun p=>p.2.cells.toList.all one) (layC [(0,3)] [.int .i64 0,.int .i64 0,.int .i64 0] (([(0,v0)]:List (Nat × Value)).map fun p=>(p.1,p.2.cells.toList))) H:=z16 (size:=3) (by kernel_rfl) rfl
theorem ap30:apOk Tryz.prog 30 53 3:=z3j (by kernel_rfl)
theorem st30 {b o:Nat}{H:Heap}{a:Option Addr}{n c:Nat}:dStore Tryz.prog 30 (.pointer (some ⟨b,o,none⟩)) (.slice a n c) H=dStoreB ⟨b,o,none⟩ [.slice a n c] H (H.get b):=z1i (by kernel_rfl) (by kernel_rfl)
theorem ld56 {ad:Addr}{H:Heap}:dLoad Tryz.prog 56 (.pointer (some ad)) H=dload1 (H.load ad 1) H:=z09 (by kernel_rfl)
theorem ld55 {ad:Addr}{H:Heap}:dLoad Tryz.prog 55 (.pointer (some ad)) H=dload1 (H.load ad 1) H:=z09 (by kernel_rfl)
theorem cl65:ClF 65:=z08 (by kernel_rfl)
theorem cl68:ClF 68:=z08 (by kernel_rfl)
theorem cl70:ClF 70:=z08 (by kernel_rfl)
theorem zvh {vs:List (Nat × Value)}{H:Heap}:dBuild Tryz.prog 103 vs H=dBd (vs.all fun p=>p.2.cells.toList.all one) (layC [(0,6)] [.int .i64 0,.string Zd,.string Zd,.int .u64 0,.int .i64 0,.slice none 0 0] (vs.map fun p=>(p.1,p.2.cells.toList))) H:=z1t (by kernel_rfl) (by kernel_rfl)
theorem zr69:zerosOf Tryz.prog 69=some [.nilIface]:=by kernel_rfl
theorem st69 {b o:Nat}{H:Heap}{u:TypeId}{v:Value}:dStore Tryz.prog 69 (.pointer (some ⟨b,o,none⟩)) (.iface u v) H=dStoreB ⟨b,o,none⟩ [.iface u v] H (H.get b):=zbi (by kernel_rfl) (by kernel_rfl)
theorem zvi {b o:Nat}{H:Heap}  : dStore Tryz.prog 69 (.pointer (some ⟨b,o,none⟩)) (.nilIface) H=dStoreB ⟨b,o,none⟩ [.nilIface] H (H.get b):=z7u (by kernel_rfl) (by kernel_rfl)
theorem cl73:ClF 73:=z08 (by kernel_rfl)
theorem ld69 {ad:Addr}{H:Heap}:dLoad Tryz.prog 69 (.pointer (some ad)) H=dload1 (H.load ad 1) H:=z09 (by kernel_rfl)
theorem cl74:ClF 74:=z08 (by kernel_rfl)
theorem zr56:zerosOf Tryz.prog 56=some [.map none]:=by kernel_rfl
theorem cl75:ClF 75:=z08 (by kernel_rfl)
theorem mk26:mkOk Tryz.prog 26 28 [.int .i64 0,.string Zd,.string Zd,.int .u64 0,.int .i64 0,.slice none 0 0]:=zf1 (by kernel_rfl)
theorem cl78:ClF 78:=z08 (by kernel_rfl)
theorem st26 {b o:Nat}{H:Heap}{a:Option Addr}{n c:Nat}:dStore Tryz.prog 26 (.pointer (some ⟨b,o,none⟩)) (.slice a n c) H=dStoreB ⟨b,o,none⟩ [.slice a n c] H (H.get b):=z1i (by kernel_rfl) (by kernel_rfl)
theorem zqm {b o:Nat}{H:Heap}:dFieldAddr Tryz.prog 53 (.pointer (some ⟨b,o,none⟩)) 1 H=some (.val (.pointer (some ⟨b,o+1,none⟩)) H):=z05 (u:=3) (by kernel_rfl) (by kernel_rfl)
theorem zr23:zerosOf Tryz.prog 23=some [.string Zd,.int .i64 0]:=by kernel_rfl
theorem st23 {b o:Nat}{H:Heap}{cs:List Value}:dStore Tryz.prog 23 (.pointer (some ⟨b,o,none⟩)) (.agg ⟨cs⟩) H=dStoreIf (Zs cs.length 2) ⟨b,o,none⟩ cs H (H.get b):=z1d (by kernel_rfl) (by kernel_rfl)
theorem zu1 {v0:Value}{H:Heap}:dBuildS Tryz.prog 31 1 [(0,v0)] H=dBs 23 1 (([(0,v0)]:List (Nat × Value)).all fun p=>p.2.cells.toList.all one) (layC [(0,2)] [.string Zd,.int .i64 0] (([(0,v0)]:List (Nat × Value)).map fun p=>(p.1,p.2.cells.toList))) H:=z16 (size:=2) (by kernel_rfl) rfl
theorem ap31:apOk Tryz.prog 31 23 2:=z3j (by kernel_rfl)
theorem st31 {b o:Nat}{H:Heap}{a:Option Addr}{n c:Nat}:dStore Tryz.prog 31 (.pointer (some ⟨b,o,none⟩)) (.slice a n c) H=dStoreB ⟨b,o,none⟩ [.slice a n c] H (H.get b):=z1i (by kernel_rfl) (by kernel_rfl)
theorem ln9 {ty:TypeId}{s:ByteArray}{H:Heap}:dLn Tryz.prog 9 ty (.string s) H=some (.val (.int .i64 s.size) H):=z74 (by kernel_rfl)
theorem zu2:zerosOf Tryz.prog 128=some []:=by kernel_rfl
theorem zu3 {b o:Nat}{H:Heap}{cs:List Value}:dStore Tryz.prog 128 (.pointer (some ⟨b,o,none⟩)) (.agg ⟨cs⟩) H=dStoreIf (Zs cs.length 0) ⟨b,o,none⟩ cs H (H.get b):=z1d (by kernel_rfl) (by kernel_rfl)
theorem zu4 {vs:List (Nat × Value)}{H:Heap}:dBuild Tryz.prog 128 vs H=dBd (vs.all fun p=>p.2.cells.toList.all one) (layC [] [] (vs.map fun p=>(p.1,p.2.cells.toList))) H:=z1t (by kernel_rfl) (by kernel_rfl)
theorem cl85:ClF 85:=z08 (by kernel_rfl)
theorem cl86:ClF 86:=z08 (by kernel_rfl)
theorem cl87:ClF 87:=z08 (by kernel_rfl)
theorem zqn {v0 v1 v2:Value}{H:Heap}:dBuildS Tryz.prog 26 3 [(0,v0),(1,v1),(2,v2)] H=dBs 28 3 (([(0,v0),(1,v1),(2,v2)]:List (Nat × Value)).all fun p=>p.2.cells.toList.all one) (layC [(0,6),(6,6),(12,6)] [.int .i64 0,.string Zd,.string Zd,.int .u64 0,.int .i64 0,.slice none 0 0,.int .i64 0,.string Zd,.string Zd,.int .u64 0,.int .i64 0,.slice none 0 0,.int .i64 0,.string Zd,.string Zd,.int .u64 0,.int .i64 0,.slice none 0 0] (([(0,v0),(1,v1),(2,v2)]:List (Nat × Value)).map fun p=>(p.1,p.2.cells.toList))) H:=z16 (size:=6) (by kernel_rfl) rfl
theorem zr32:zerosOf Tryz.prog 32=some [.slice none 0 0]:=by kernel_rfl
theorem ix9 {s:ByteArray}{k:IntKind}{i:Nat}{H:Heap}(h:i < s.size):dIdx Tryz.prog 9 (.string s) (.int k (i:Int)) H=some (.val (.int .u8 (byteAt s i:Nat)) H):=z38 (by kernel_rfl) h
theorem iy9 {s:ByteArray}{k:IntKind}{i:Int}{H:Heap}(h0:0<=i) (h:i < s.size):dIdx Tryz.prog 9 (.string s) (.int k i) H=some (.val (.int .u8 (byteAt s i.toNat:Nat)) H):=ziy (by kernel_rfl) h0 h
theorem us9:Tryz.prog.underlying 9=some .string:=by kernel_rfl
theorem ld5 {ad:Addr}{H:Heap}:dLoad Tryz.prog 5 (.pointer (some ad)) H=dload1 (H.load ad 1) H:=z09 (by kernel_rfl)
theorem zlc {k:IntKind}{n:Int}{H:Heap}:dCon Tryz.prog 5 3 (.int k n) H=some (.val (.int .i64 (IntKind.i64.wrap n)) H):=z52 (k:=.u8) (by kernel_rfl) (by kernel_rfl)
theorem cl90:ClF 90:=z08 (by kernel_rfl)
theorem zld:zerosOf Tryz.prog 149=some [.bool false,.slice none 0 0]:=by kernel_rfl
theorem z9y {b o:Nat}{H:Heap}{cs:List Value}:dStore Tryz.prog 149 (.pointer (some ⟨b,o,none⟩)) (.agg ⟨cs⟩) H=dStoreIf (Zs cs.length 2) ⟨b,o,none⟩ cs H (H.get b):=z1d (by kernel_rfl) (by kernel_rfl)
theorem z9z {ad:Addr}{H:Heap}:dLoad Tryz.prog 149 (.pointer (some ad)) H=dloadA 2 (H.load ad 2) H:=z1s (by kernel_rfl) (by kernel_rfl)
theorem cl91:ClF 91:=z08 (by kernel_rfl)
theorem zj1 {vs:List (Nat × Value)}{H:Heap}:dBuild Tryz.prog 149 vs H=dBd (vs.all fun p=>p.2.cells.toList.all one) (layC [(0,1),(1,1)] [.bool false,.slice none 0 0] (vs.map fun p=>(p.1,p.2.cells.toList))) H:=z1t (by kernel_rfl) (by kernel_rfl)
theorem cl93:ClF 93:=z08 (by kernel_rfl)
theorem zqo {k:IntKind}{n:Int}{H:Heap}:dCon Tryz.prog 3 25 (.int k n) H=some (.val (.int .u64 (IntKind.u64.wrap n)) H):=z52 (k:=.i64) (by kernel_rfl) (by kernel_rfl)
theorem z6k {ty:TypeId}{a:Option Addr}{n c:Nat}{H:Heap}:dLn Tryz.prog 147 ty (.slice a n c) H=some (.val (.int .i64 n) H):=z19 (e:=156) (by kernel_rfl)
theorem zj2 {b o n c i:Nat}{k:IntKind}{H:Heap}(h:i < n):dIndexAddr Tryz.prog 147 (.slice (some ⟨b,o,none⟩) n c) (.int k (i:Int)) H=some (.val (.pointer (some ⟨b,o+i*1,none⟩)) H):=z0t (e:=156) (by kernel_rfl) (by kernel_rfl) (by kernel_rfl) h
theorem zle {ad:Addr}{H:Heap}:dLoad Tryz.prog 156 (.pointer (some ad)) H=dload1 (H.load ad 1) H:=z09 (by kernel_rfl)
theorem zbm {k:IntKind}{n:Int}{H:Heap}:dCon Tryz.prog 156 25 (.int k n) H=some (.val (.int .u64 (IntKind.u64.wrap n)) H):=z52 (k:=.u32) (by kernel_rfl) (by kernel_rfl)
theorem zbn {k:IntKind}{n:Int}{H:Heap}:dCon Tryz.prog 25 156 (.int k n) H=some (.val (.int .u32 (IntKind.u32.wrap n)) H):=z52 (k:=.u64) (by kernel_rfl) (by kernel_rfl)
theorem zu5 {b o:Nat}{H:Heap}{k:IntKind}{n:Int}:dStore Tryz.prog 156 (.pointer (some ⟨b,o,none⟩)) (.int k n) H=dStoreB ⟨b,o,none⟩ [.int k n] H (H.get b):=z3u (by kernel_rfl) (by kernel_rfl)
theorem zs2 {v0:Value}{H:Heap}:dBuildS Tryz.prog 147 1 [(0,v0)] H=dBs 156 1 (([(0,v0)]:List (Nat × Value)).all fun p=>p.2.cells.toList.all one) (layC [(0,1)] [.int .u32 0] (([(0,v0)]:List (Nat × Value)).map fun p=>(p.1,p.2.cells.toList))) H:=z16 (size:=1) (by kernel_rfl) rfl
theorem zvj:apOk Tryz.prog 147 156 1:=z3j (by kernel_rfl)
theorem cl94:ClF 94:=z08 (by kernel_rfl)
theorem cl95:ClF 95:=z08 (by kernel_rfl)
theorem zs3 {v0:Value}{H:Heap}:dBuildS Tryz.prog 166 1 [(0,v0)] H=dBs 149 1 (([(0,v0)]:List (Nat × Value)).all fun p=>p.2.cells.toList.all one) (layC [(0,2)] [.bool false,.slice none 0 0] (([(0,v0)]:List (Nat × Value)).map fun p=>(p.1,p.2.cells.toList))) H:=z16 (size:=2) (by kernel_rfl) rfl
theorem cl96:ClF 96:=z08 (by kernel_rfl)
theorem zlf {b o:Nat}{H:Heap}:dFieldAddr Tryz.prog 149 (.pointer (some ⟨b,o,none⟩)) 1 H=some (.val (.pointer (some ⟨b,o+1,none⟩)) H):=z05 (u:=147) (by kernel_rfl) (by kernel_rfl)
theorem zu6 {ad:Addr}{H:Heap}:dLoad Tryz.prog 147 (.pointer (some ad)) H=dload1 (H.load ad 1) H:=z09 (by kernel_rfl)
theorem cl98:ClF 98:=z08 (by kernel_rfl)
theorem cl97:ClF 97:=z08 (by kernel_rfl)
theorem zs4 {k:IntKind}{n:Int}{H:Heap}:dCon Tryz.prog 3 156 (.int k n) H=some (.val (.int .u32 (IntKind.u32.wrap n)) H):=z52 (k:=.i64) (by kernel_rfl) (by kernel_rfl)
theorem cl99:ClF 99:=z08 (by kernel_rfl)
theorem zlg {v0:Value}{H:Heap}:dBuildS Tryz.prog 161 1 [(0,v0)] H=dBs 5 1 (([(0,v0)]:List (Nat × Value)).all fun p=>p.2.cells.toList.all one) (layC [(0,1)] [.int .u8 0] (([(0,v0)]:List (Nat × Value)).map fun p=>(p.1,p.2.cells.toList))) H:=z16 (size:=1) (by kernel_rfl) rfl
theorem zu7:apOk Tryz.prog 161 5 1:=z3j (by kernel_rfl)
theorem zs5 {b o:Nat}{H:Heap}:dFieldAddr Tryz.prog 149 (.pointer (some ⟨b,o,none⟩)) 0 H=some (.val (.pointer (some ⟨b,o+0,none⟩)) H):=z05 (u:=4) (by kernel_rfl) (by kernel_rfl)
theorem zvk {ty:TypeId}{a:Option Addr}{n c:Nat}{H:Heap}:dLn Tryz.prog 161 ty (.slice a n c) H=some (.val (.int .i64 n) H):=z19 (e:=5) (by kernel_rfl)
theorem zvl {b o n c i:Nat}{k:IntKind}{H:Heap}(h:i < n):dIndexAddr Tryz.prog 161 (.slice (some ⟨b,o,none⟩) n c) (.int k (i:Int)) H=some (.val (.pointer (some ⟨b,o+i*1,none⟩)) H):=z0t (e:=5) (by kernel_rfl) (by kernel_rfl) (by kernel_rfl) h
theorem st5 {b o:Nat}{H:Heap}{k:IntKind}{n:Int}:dStore Tryz.prog 5 (.pointer (some ⟨b,o,none⟩)) (.int k n) H=dStoreB ⟨b,o,none⟩ [.int k n] H (H.get b):=z3u (by kernel_rfl) (by kernel_rfl)
theorem zvm:ClF 101:=z08 (by kernel_rfl)
theorem zvn {ty:TypeId}{a:Option Addr}{n c:Nat}{H:Heap}:dLn Tryz.prog 166 ty (.slice a n c) H=some (.val (.int .i64 n) H):=z19 (e:=149) (by kernel_rfl)
theorem zvo {b o n c:Nat}{k:IntKind}{i:Int}{H:Heap}(h0:0<=i) (h:i < n):dIndexAddr Tryz.prog 166 (.slice (some ⟨b,o,none⟩) n c) (.int k i) H=some (.val (.pointer (some ⟨b,o+i.toNat*2,none⟩)) H):=z5j (e:=149) (by kernel_rfl) (by kernel_rfl) (by kernel_rfl) h0 h
theorem zu8:mkOk Tryz.prog 147 156 [.int .u32 0]:=zf1 (by kernel_rfl)
theorem zs6:slcOk Tryz.prog 147 156 1:=⟨by kernel_rfl,by kernel_rfl,by kernel_rfl⟩
theorem zbo {k:IntKind}{n:Int}{H:Heap}:dCon Tryz.prog 156 5 (.int k n) H=some (.val (.int .u8 (IntKind.u8.wrap n)) H):=z52 (k:=.u32) (by kernel_rfl) (by kernel_rfl)
end Go.Proofs.hq
end

section
namespace Go.Hb
def valB (B:Nat):List Nat->Nat
 |[]=>0
 |x :: l=>x+B*valB B l
theorem z24 (B:Nat):∀a b:List Nat,valB B (a++b)=valB B a+B ^ a.length*valB B b
 |[],b=>by simp [valB]
 |x :: a,b=>by
  rw[List.cons_append,valB,z24 B a b,valB,ZD,Nat.pow_succ,Nat.mul_add];rw[show B ^ a.length*B*valB B b=B*(B ^ a.length*valB B b) by rw[Nat.mul_comm (B ^ a.length) B,Nat.mul_assoc]];omega
theorem z6l (B x:Nat):valB B [x]=x:=by simp [valB]
theorem zlh (B:Nat):∀l:List Nat,(∀x∈l,x < B)->valB B l < B ^ l.length
 |[],_=>by simp [valB]
 |x :: l,h=>by
  have ih:=zlh B l fun y hy=>h y (Zn _ hy)
  have hx:=h x (by simp);rw[valB,ZD,Nat.pow_succ];have h1:B*(valB B l+1)<=B*B ^ l.length:=Nat.mul_le_mul_left _ ih;rw[Nat.mul_comm (B ^ l.length) B];rw[Nat.mul_add] at h1;omega
theorem z75 (B:Nat):∀l:List Nat,(∀x∈l,x=0)->valB B l=0
 |[],_=>rfl
 |x :: l,h=>by rw[valB,h x (by simp),z75 B l fun y hy=>h y (Zn _ hy)];simp
theorem zli {B:Nat}{l:List Nat}{n:Nat}(h:∀x∈l.drop n,x=0):valB B (l.take n)=valB B l:=by
 conv=>rhs;rw[<-List.take_append_drop n l]
 rw[z24,z75 B _ h];simp
theorem zs7 {B c x:Nat}{d rest:List Nat}:valB B (d++[(x*10+c) % B])+B ^ (d.length+1)*(10*valB B rest+(x*10+c) / B)=valB B d+B ^ d.length*(10*valB B (x :: rest)+c):=by
 rw[z24,z6l,valB,Nat.pow_succ];have h:=Nat.mod_add_div (x*10+c) B;generalize (x*10+c) % B=m at h ⊢;generalize (x*10+c) / B=q at h ⊢;generalize B ^ d.length=p;generalize valB B rest=v;have e1:p*B*(10*v+q)=p*(B*(10*v+q)):=Nat.mul_assoc ..;have e2:p*(10*(x+B*v)+c)=p*m+p*(B*(10*v+q)):=by
  rw[<-Nat.mul_add];congr 1;have e3:B*(10*v+q)=10*(B*v)+B*q:=by rw[Nat.mul_add,Nat.mul_left_comm]
  omega
 omega
theorem zlj {B c x:Nat}(hB:0 < B) (hx:x < B) (hc:c < 10):(x*10+c) / B < 10:=by
 rw[Nat.div_lt_iff_lt_mul hB];omega
theorem zs8 {B x r:Nat}{low q:List Nat}:valB B (low++[x])+B ^ (low.length+1)*(10*valB B q+r)=valB B low+B ^ low.length*(10*valB B ((r*B+x) / 10 :: q)+(r*B+x) % 10):=by
 rw[z24,z6l,valB,Nat.pow_succ];have h:=Nat.mod_add_div (r*B+x) 10;generalize (r*B+x) % 10=m at h ⊢;generalize (r*B+x) / 10=z at h ⊢;generalize B ^ low.length=p;generalize valB B q=v;have e1:p*B*(10*v+r)=p*(B*(10*v+r)):=Nat.mul_assoc ..;have e2:p*(10*(z+B*v)+m)=p*x+p*(B*(10*v+r)):=by
  rw[<-Nat.mul_add];congr 1;have e3:B*(10*v+r)=10*(B*v)+r*B:=by rw[Nat.mul_add,Nat.mul_left_comm,Nat.mul_comm B r]
  omega
 omega
theorem zom {B x r:Nat}(hx:x < B) (hr:r < 10):(r*B+x) / 10 < B:=by
 rw[Nat.div_lt_iff_lt_mul (by omega)];have:r*B<=9*B:=Nat.mul_le_mul_right _ (by omega);omega
def decR (n:Nat):List Nat:=if h:n=0 then [] else n % 10 :: decR (n / 10)
termination_by n
decreasing_by omega
theorem zlk:decR 0=[]:=by rw[decR];simp
theorem zh1 {n:Nat}(h:n≠0):decR n=n % 10 :: decR (n / 10):=by rw[decR,dif_neg h]
def digV (b:Nat):Nat:=if 48<=b/\b<=57 then b - 48 else if 97<=b/\b<=122 then b - 97+10 else if 65<=b/\b<=90 then b - 65+10 else 99
def mostBits:Nat:=4096
@[irreducible] def big:Nat:=2 ^ mostBits
theorem zdf:big=2 ^ mostBits:=by unfold big;rfl
def numD:List Nat->Nat->Option Nat
 |[],n=>some n
 |d :: l,n=>if big<=n*10+d then none else numD l (n*10+d)
def textD (neg:Bool) (n:Nat):List Nat:=if n=0 then [48] else ((decR n).map (48+·)++if neg then [45] else []).reverse
def canonD (s:List Nat):Bool :=
 let neg:=s.head? == some 45;let b:=if neg then s.tail else s
 if b=[] then false else if b.any (fun x=>10<=digV x) then false else match numD (b.map digV) 0 with
  |none=>false
  |some n=>textD neg n == s
theorem zll:∀(l:List Nat) (n m:Nat),n < big->numD l n=some m->m < big
 |[],n,m,h,e=>by cases e;exact h
 |d :: l,n,m,h,e=>by
  rw[numD] at e;split at e
  ·cases e
  ·rename_i hb;exact zll l _ m (Nat.lt_of_not_le hb) e
def nbits (n:Nat):Nat:=if n=0 then 0 else n.log2+1
theorem zai {n s:Nat}(h:n≠0) (h1:2 ^ s<=n) (h2:n < 2 ^ (s+1)):nbits n=s+1:=by
 rw[nbits,if_neg h];have:=(Nat.log2_lt h).2 h2;have:=(Nat.le_log2 h).2 h1;omega
theorem zon {n:Nat}(e:Nat):e < nbits n↔2 ^ e<=n:=by
 unfold nbits;by_cases h:n=0
 ·subst h;simp
 ·rw[if_neg h];constructor
  ·intro hh;exact(Nat.le_log2 h).1 (by omega)
  ·intro hh;have:=(Nat.le_log2 h).2 hh;omega
theorem z4o {n:Nat}:4096 < nbits n↔big<=n:=by rw[zdf];exact zon mostBits
theorem zbp {n e:Nat}(h:2 ^ e<=n):nbits n=nbits (n / 2 ^ e)+e:=by
 have hp:0 < 2 ^ e:=Nat.two_pow_pos e;have h0:n / 2 ^ e≠0:=by
  have:=(Nat.le_div_iff_mul_le hp).2 (show 1*2 ^ e<=n by omega);omega
 have hb:nbits (n / 2 ^ e)=(n / 2 ^ e).log2+1:=by rw[nbits,if_neg h0]
 have h1:2 ^ (n / 2 ^ e).log2<=n / 2 ^ e:=Nat.log2_self_le h0;have h2:n / 2 ^ e < 2 ^ ((n / 2 ^ e).log2+1):=Nat.lt_log2_self;rw[hb,show (n / 2 ^ e).log2+1+e=((n / 2 ^ e).log2+e)+1 by omega];refine zai (by omega) ?_ ?_
 ·rw[Nat.pow_add];exact(Nat.le_div_iff_mul_le hp).1 h1
 ·rw[show (n / 2 ^ e).log2+e+1=((n / 2 ^ e).log2+1)+e by omega,Nat.pow_add];exact(Nat.div_lt_iff_lt_mul hp).1 h2
theorem z6m {n:Nat}(h:n < 4294967296):nbits n<=32:=by
 unfold nbits;split
 ·omega
 ·rename_i h0;have:=(Nat.log2_lt (k:=32) h0).2 h;omega
theorem zdg {l:List Nat}{x e:Nat}(hl:∀y∈l,y < 2 ^ e) (hx:x≠0):nbits (valB (2 ^ e) (l++[x]))=e*l.length+nbits x:=by
 have hv:=zlh (2 ^ e) l hl;rw[z24,z6l,<-Nat.pow_mul] at *;have hb:nbits x=x.log2+1:=by rw[nbits,if_neg hx]
 rw[hb,<-Nat.add_assoc];have h1:2 ^ x.log2<=x:=Nat.log2_self_le hx;have h2:x < 2 ^ (x.log2+1):=Nat.lt_log2_self;refine zai ?_ ?_ ?_
 ·have:0 < 2 ^ (e*l.length)*x:=Nat.mul_pos (Nat.two_pow_pos _) (by omega);omega
 ·rw[Nat.pow_add];have:=Nat.mul_le_mul_left (2 ^ (e*l.length)) h1;omega
 ·rw[Nat.add_assoc,Nat.pow_add];have:=Nat.mul_le_mul_left (2 ^ (e*l.length)) h2;rw[Nat.mul_succ] at this;omega
theorem zaj {e k m n:Nat}(hm:m≠0) (h:m*10 ^ k<=n) (hn:n < 2 ^ e):k < e:=by
 have h1:2 ^ k<=10 ^ k:=Nat.pow_le_pow_left (by omega) k;have h2:1*10 ^ k<=m*10 ^ k:=Nat.mul_le_mul_right _ (by omega);have h3:2 ^ k < 2 ^ e:=by omega
 exact(Nat.pow_lt_pow_iff_right (by omega)).1 h3
end Go.Hb
end

section
namespace Go.Proofs.hq
open Go Go.RowKit Go.Hb
variable {ok:Ok}
set_option maxRecDepth 10000
attribute [local irreducible] LX LG EL STG SOP SGO SGD SAL SRD SEF SEG SLK SCK ES
theorem zj3 (b:Nat):(b < 48/\digV b=99)\/(48<=b/\b<=57/\digV b=b - 48)\/(58<=b/\b < 65/\digV b=99)\/(65<=b/\b<=90/\digV b=b - 55)\/(91<=b/\b < 97/\digV b=99)\/(97<=b/\b<=122/\digV b=b - 87)\/(123<=b/\digV b=99):=by
 unfold digV;by_cases h1:48<=b/\b<=57
 ·simp [h1]
 ·by_cases h2:97<=b/\b<=122
  ·rw[if_neg h1,if_pos h2];omega
  ·by_cases h3:65<=b/\b<=90
   ·rw[if_neg h1,if_neg h2,if_pos h3];omega
   ·rw[if_neg h1,if_neg h2,if_neg h3];omega
theorem zh2 (hk:∀args H,ok.K 93 args H=none) (hm:ok.testBit 93=true) (b:Nat) (hb:b < 256) (H:Heap) :
  EvF Tryz.prog ok 93 [.int .u8 (b:Int)] H fun v H'=>v=.int .i64 (digV b:Int)/\H'=H:=by
 refine EvF.enter (hk _ _) Tryz.func93 hm rfl ?_;rcases zj3 b with ⟨h1,h⟩|⟨h1,h2,h⟩|⟨h1,h2,h⟩|⟨h1,h2,h⟩|⟨h1,h2,h⟩|⟨h1,h2,h⟩|⟨h1,h⟩
 all_goals
  repeat' (first|refine qZa ?_|refine qZg ?_|(refine qZe ?_;try simp only[sA])|(refine qZf ?_;try simp only[z06,z01])|(refine qZb ?_;simp (config:=qZc) (disch:=first|omega|rfl) only[sB,initTm,Za,reduceCtorEq,zlc,decide_eq_true,decide_eq_false,z8s,z0c,Zg])|(refine qZd ?_ ?_;simp (config:=qZc) (disch:=first|omega|rfl) only[sB,Za,reduceCtorEq];refine z02 ?_)|(refine qZm ?_ ?_;simp (config:=qZc) (disch:=first|omega|rfl) only[sB,Za,reduceCtorEq];refine z02 ?_))
  exact z03 rfl (by simp only[sB,Za,reduceCtorEq];rfl) ⟨by simp only[Value.int.injEq,true_and];omega,rfl⟩
def u32V (n:Nat):Value:=.int .u32 (n:Int)
def i64V (n:Nat):Value:=.int .i64 (n:Int)
theorem zbq (hk:∀args H,ok.K 98 args H=none) (hm:ok.testBit 98=true) {L:List Nat}{a:Option Addr}{c:Nat}{H:Heap}(r:RdS H (L.map u32V) a c) :
  EvF Tryz.prog ok 98 [.slice a L.length c] H fun v H'=>∃m,v=.slice a m c/\m<=L.length/\(∀x∈L.drop m,x=0)/\(m≠0->L[m - 1]?≠some 0)/\H'=H:=by
 have hL:L.length<=c:=by simpa using r.len
 have hc:c<=9223372036854775807:=r.cap;refine EvF.enter (hk _ _) Tryz.func98 hm rfl ?_
 repeat' (first|refine qZa ?_|refine qZg ?_|(refine qZb ?_;simp (config:=qZc) (disch:=first|omega|rfl) only[sA,initTm]))
 refine qZk (fun k st=>∃tm n,st=⟨tm,[],H⟩/\k=n/\n<=L.length/\(∀x∈L.drop n,x=0)/\tm.get 0=some (.slice a n c)) ?_ L.length _ ?_
 ·rintro k st ⟨tm,n,rfl,rfl,hn,hz,g0⟩;by_cases h0:k=0
  ·subst h0
   repeat' (first|refine qZa ?_|(refine qZi ?_;try simp only[sB])|(refine qZf ?_)|(refine qZb ?_;simp (config:=qZc) (disch:=first|omega|rfl) only[sB,Za,reduceCtorEq,z6k,g0,decide_eq_false,Zg])|(refine qZm ?_ ?_;simp (config:=qZc) (disch:=first|omega|rfl) only[sB,Za];refine z02 ?_))
   exact z03 rfl (by simp only[sG,Za]) ⟨0,rfl,by omega,hz,by simp,rfl⟩
  ·have hx:L[k - 1]?=some L[k - 1]:=Zc (by omega);generalize L[k - 1]=x at hx;obtain⟨b,o,rfl,hl⟩:=r.get (k - 1) (u32V x) (by simp [hx]);have e1:((k:Int) - 1)=((k - 1:Nat):Int):=by omega
   unfold u32V at hl;by_cases hx0:x=0
   ·repeat' (first|refine qZa ?_|refine qZg ?_|(refine qZe ?_;try simp only[z00])|(refine qZb ?_;simp (config:=qZc) (disch:=first|omega|rfl) only[sB,Za,reduceCtorEq,z6k,zj2,zle,g0,e1,hl,decide_eq_true,z0c,z0l,ztx zs6])|(refine qZd ?_ ?_;simp (config:=qZc) (disch:=first|omega|rfl) only[sB,Za];refine z02 ?_))
    refine⟨k - 1,by omega,_,k - 1,rfl,rfl,by omega,fun y hy=>?_,(by simp only[sG,reduceCtorEq])⟩;rw[ZG (by omega)] at hy;rcases List.mem_cons.1 hy with h|h
    ·rw[h,<-Option.some.inj ((Zc (by omega)).symm.trans hx)] at *;omega
    ·exact hz y (by rwa [show k - 1+1=k by omega] at h)
   ·repeat' (first|refine qZa ?_|(refine qZi ?_;try simp only[sB])|(refine qZf ?_)|(refine qZb ?_;simp (config:=qZc) (disch:=first|omega|rfl) only[sB,Za,reduceCtorEq,z6k,zj2,zle,g0,e1,hl,decide_eq_true,z0c,z0g])|(refine qZm ?_ ?_;simp (config:=qZc) (disch:=first|omega|rfl) only[sB,Za];refine z02 ?_))
    exact z03 rfl (by simp only[sG,Za]) ⟨k,rfl,hn,hz,fun _=>by rw[hx];simpa using hx0,rfl⟩
 ·exact⟨_,L.length,rfl,rfl,Ze _,by simp,(by simp only[sG,reduceCtorEq])⟩
theorem zh3 {s:ByteArray}(h:∀i:Fin 256,byteAt s i=nbits i) {y:Nat}(hy:y < 256):byteAt s y=nbits y:=h ⟨y,hy⟩
theorem zoo (hk:∀args H,ok.K 101 args H=none) (hm:ok.testBit 101=true) {x:Nat}(hx:x < 4294967296) {H:Heap} :
  EvF Tryz.prog ok 101 [.int .u32 (x:Int)] H fun v H'=>v=.int .i64 (nbits x:Int)/\H'=H:=by
 refine EvF.enter (hk _ _) Tryz.func101 hm rfl ?_;by_cases h1:65536<=x
 ·have e1:nbits x=nbits (x / 65536)+16:=zbp (e:=16) h1;by_cases h2:16777216<=x
  ·have e2:nbits (x / 65536)=nbits (x / 65536 / 256)+8:=zbp (e:=8) (by omega)
   repeat' (first|refine qZa ?_|(refine qZb ?_;simp (config:=qZc) (disch:=first|omega|rfl) only[sB,initTm,Za,reduceCtorEq,zbo,decide_eq_true,z8r,zae,z0c,z8s])|(refine qZd ?_ ?_;simp (config:=qZc) (disch:=first|omega|rfl) only[sB,Za,reduceCtorEq];refine z02 ?_))
   rw[z38 Tryz.underlying9 (show x / 65536 / 256 < _ from by show _ < 256;omega)];generalize hB:byteAt _ (x / 65536 / 256)=B;have hB':B=nbits (x / 65536 / 256):=by rw[<-hB];exact zh3 (by decide +kernel) (by omega)
   have hl:=z6m (n:=x / 65536 / 256) (by omega)
   repeat' (first|(refine qZf ?_)|(refine z0q ?_;simp (config:=qZc) (disch:=first|omega|rfl) only[sB,Za,reduceCtorEq,zlc,z0c]))
   exact z03 rfl (by simp only[sB,Za,reduceCtorEq];rfl) ⟨by simp only[Value.int.injEq,true_and];omega,rfl⟩
  ·repeat' (first|refine qZa ?_|(refine qZe ?_;try simp only[z00])|(refine qZb ?_;simp (config:=qZc) (disch:=first|omega|rfl) only[sB,initTm,Za,reduceCtorEq,zbo,decide_eq_true,decide_eq_false,z8r,z8s])|(refine qZd ?_ ?_;simp (config:=qZc) (disch:=first|omega|rfl) only[sB,Za,reduceCtorEq];refine z02 ?_)|(refine qZm ?_ ?_;simp (config:=qZc) (disch:=first|omega|rfl) only[sB,Za,reduceCtorEq];refine z02 ?_))
   rw[z38 Tryz.underlying9 (show x / 65536 < _ from by show _ < 256;omega)];generalize hB:byteAt _ (x / 65536)=B;have hB':B=nbits (x / 65536):=by rw[<-hB];exact zh3 (by decide +kernel) (by omega)
   have hl:=z6m (n:=x / 65536) (by omega)
   repeat' (first|(refine qZf ?_)|(refine z0q ?_;simp (config:=qZc) (disch:=first|omega|rfl) only[sB,Za,reduceCtorEq,zlc,z0c]))
   exact z03 rfl (by simp only[sB,Za,reduceCtorEq];rfl) ⟨by simp only[Value.int.injEq,true_and];omega,rfl⟩
 ·by_cases h2:256<=x
  ·have e2:nbits x=nbits (x / 256)+8:=zbp (e:=8) h2
   repeat' (first|refine qZa ?_|(refine qZe ?_;try simp only[z00])|(refine qZb ?_;simp (config:=qZc) (disch:=first|omega|rfl) only[sB,initTm,Za,reduceCtorEq,zbo,decide_eq_true,decide_eq_false,zae,z0c,z8s])|(refine qZd ?_ ?_;simp (config:=qZc) (disch:=first|omega|rfl) only[sB,Za,reduceCtorEq];refine z02 ?_)|(refine qZm ?_ ?_;simp (config:=qZc) (disch:=first|omega|rfl) only[sB,Za,reduceCtorEq];refine z02 ?_))
   rw[z38 Tryz.underlying9 (show x / 256 < _ from by show _ < 256;omega)];generalize hB:byteAt _ (x / 256)=B;have hB':B=nbits (x / 256):=by rw[<-hB];exact zh3 (by decide +kernel) (by omega)
   have hl:=z6m (n:=x / 256) (by omega)
   repeat' (first|(refine qZf ?_)|(refine z0q ?_;simp (config:=qZc) (disch:=first|omega|rfl) only[sB,Za,reduceCtorEq,zlc,z0c]))
   exact z03 rfl (by simp only[sB,Za,reduceCtorEq];rfl) ⟨by simp only[Value.int.injEq,true_and];omega,rfl⟩
  ·repeat' (first|refine qZa ?_|(refine qZe ?_;try simp only[z00])|(refine qZb ?_;simp (config:=qZc) (disch:=first|omega|rfl) only[sB,initTm,Za,reduceCtorEq,zbo,decide_eq_false,z8s])|(refine qZm ?_ ?_;simp (config:=qZc) (disch:=first|omega|rfl) only[sB,Za,reduceCtorEq];refine z02 ?_))
   rw[z38 Tryz.underlying9 (show x < _ from by show _ < 256;omega)];generalize hB:byteAt _ (x)=B;have hB':B=nbits (x):=by rw[<-hB];exact zh3 (by decide +kernel) (by omega)
   have hl:=z6m (n:=x) (by omega)
   repeat' (first|(refine qZf ?_)|(refine z0q ?_;simp (config:=qZc) (disch:=first|omega|rfl) only[sB,Za,reduceCtorEq,zlc,z0c]))
   exact z03 rfl (by simp only[sB,Za,reduceCtorEq];rfl) ⟨by simp only[Value.int.injEq,true_and];omega,rfl⟩
theorem zu9 (a:Nat):(a:Int).tdiv 10=((a / 10:Nat):Int):=rfl
theorem zua (a:Nat):(a:Int).tmod 10=((a % 10:Nat):Int):=rfl
theorem zub {r x:Nat}(hr:r < 10) (hx:x < 4294967296):kOr .u64 (IntKind.u64.wrap ((r:Int)*2 ^ (min 32 IntKind.u64.bits))) (x:Int)=((r*4294967296+x:Nat):Int):=by
 have e1:((r:Int)*2 ^ (min 32 IntKind.u64.bits))=((r*4294967296:Nat):Int):=by
  show (r:Int)*2 ^ 32=_;omega
 rw[e1,z54 (by omega) (by omega)];unfold kOr;show IntKind.u64.wrap ((BitVec.ofInt 64 ((r*4294967296:Nat):Int) ||| BitVec.ofInt 64 (x:Int)).toNat:Int)=_;rw[BitVec.ofInt_natCast,BitVec.ofInt_natCast,BitVec.toNat_or,BitVec.toNat_ofNat,BitVec.toNat_ofNat,Nat.mod_eq_of_lt (by omega),Nat.mod_eq_of_lt (by omega)];have e2:r*4294967296 ||| x=r*4294967296+x:=by
  have:=Nat.two_pow_add_eq_or_of_lt (i:=32) (b:=x) hx r;rw[Nat.mul_comm] at this;exact this.symm
 rw[e2,z54 (by omega) (by omega)]
theorem zop (hk:∀args H,ok.K 99 args H=none) (hm:ok.testBit 99=true) {r x:Nat}(hr:r < 10) (hx:x < 4294967296) {H:Heap}(hw:H.wf) :
  EvF Tryz.prog ok 99 [.int .u32 (r:Int),.int .u32 (x:Int),.int .u32 10] H fun v H'=>v=.tuple ⟨[.int .u32 ((r*4294967296+x) / 10:Nat),.int .u32 ((r*4294967296+x) % 10:Nat)]⟩/\HX H H':=by
 refine EvF.enter (hk _ _) Tryz.func99 hm rfl ?_
 repeat' (first|refine qZa ?_|(refine qZe ?_;try simp only[z00])|(refine qZf ?_)|(refine qZb ?_;simp (config:=qZc) (disch:=first|omega|rfl) only[sB,initTm,Za,Zb,reduceCtorEq,Int.reduceToNat,zbm,decide_eq_false,z1z,bShl,bOr,z54,zub hr hx])|(refine qZj [([(0,0),(1,0),(2,0),(3,0),(4,0),(5,0),(6,0),(7,0),(8,0),(9,0),(10,0),(11,0)],none)] ?_ ?_;kernel_rfl;simp (config:=qZc) (disch:=first|omega|rfl) only[sD,sB,Za,Zb,reduceCtorEq,zbm,zbn,z54,bQuo,bRem,wrap_u32,zu9,zua,isAlloc,isRead])|(refine qZm ?_ ?_;simp (config:=qZc) (disch:=first|omega|rfl) only[sB,Za,reduceCtorEq];refine z02 ?_))
 exact z1r rfl (by simp only[sG,Za,reduceCtorEq]) (by simp only[sG,Za,reduceCtorEq]) ⟨rfl,(HX.refl hw).bump _⟩
end Go.Proofs.hq
end

section
namespace Go.Proofs.hq
open Go Go.RowKit Go.Hb
def okT:Ok:=okLaw (2 ^ 134 - 1) 4 80
theorem zuc {H:Heap}(hw:H.wf):EvF Tryz.prog okT 4 [] H fun v H'=>v=.bool true/\HX H H':=zok hw
theorem zud {H:Heap}(hw:H.wf) {s:ByteArray}(hs:s.size<=9223372036854775807):EvF Tryz.prog okT 80 [.string s] H fun v H'=>v=.bool (Lib.validD s.data.toList)/\HX H H':=zol (by decide) hw hs
end Go.Proofs.hq
end

section
namespace Go.Proofs.hq
open Go Go.RowKit Go.Hb
variable {ok:Ok}
set_option maxRecDepth 10000
attribute [local irreducible] LX LG EL STG SOP SGO SGD SAL SRD SEF SEG SLK SCK ES
theorem z8y {B m:Nat}{L:List Nat}(hz:∀x∈L.drop m,x=0):valB B (L.take m)=valB B L:=zli hz
theorem zf9 {L:List Nat}{m x:Nat}(hL:∀y∈L,y < 4294967296) (hm:m<=L.length) (hz:∀y∈L.drop m,y=0) (h0:m≠0) (hx:L[m - 1]?=some x) (hx0:x≠0) :
  nbits (valB 4294967296 L)=32*(m - 1)+nbits x:=by
 rw[<-z8y hz];have e:L.take m=L.take (m - 1)++[x]:=by
  have h1:m=(m - 1)+1:=by omega
  rw[h1,List.take_add_one];simp only[Nat.add_sub_cancel,hx,Option.toList_some]
 rw[e];have:=zdg (l:=L.take (m - 1)) (x:=x) (e:=32) (fun y hy=>hL y (List.mem_of_mem_take hy)) hx0;rw[Zo,Nat.min_eq_left (by omega)] at this;exact this
theorem zlm {L:List Nat}{a:Option Addr}{c:Nat}{H:Heap}(r:RdS H (L.map u32V) a c) (hL:∀y∈L,y < 4294967296) (hlen:L.length<=1048576) :
  EvF Tryz.prog okT 94 [.slice a L.length c] H fun v H'=>v=.int .i64 (nbits (valB 4294967296 L):Nat)/\H'=H:=by
 have hLc:L.length<=c:=by simpa using r.len
 have hc:c<=9223372036854775807:=r.cap;refine EvF.enter rfl Tryz.func94 (by decide) rfl ?_
 repeat' (first|refine qZa ?_|(refine qZb ?_;simp (config:=qZc) (disch:=first|omega|rfl) only[sB,initTm,Za,reduceCtorEq,cl98]))
 refine(zbq (fun _ _=>rfl) (by decide) r).mono ?_;rintro v H' ⟨m,rfl,hm,hz,hn0,rfl⟩;by_cases h0:m=0
 ·subst h0
  repeat' (first|refine qZa ?_|(refine qZf ?_;try simp only[z06,z01])|(refine qZb ?_;simp (config:=qZc) (disch:=first|omega|rfl) only[sB,Za,reduceCtorEq,z6k,z0l])|(refine qZd ?_ ?_;simp (config:=qZc) (disch:=first|omega|rfl) only[sB,Za,reduceCtorEq];refine z02 ?_))
  refine z03 rfl (by simp only[sB,Za,reduceCtorEq];rfl) ⟨?_,rfl⟩;rw[z75 _ L (by simpa using hz)];rfl
 ·have hx:L[m - 1]?=some L[m - 1]:=Zc (by omega);have hx0:=hn0 h0;have hxl:=hL L[m - 1] (Zu _);generalize L[m - 1]=x at hx hxl;rw[hx] at hx0;have hx0':x≠0:=fun h=>hx0 (by rw[h])
  have hnb:=zf9 hL hm hz h0 hx hx0';have hle:=z6m (n:=x) (by omega);obtain⟨b,o,rfl,hl⟩:=r.get (m - 1) (u32V x) (by simp [hx]);unfold u32V at hl;have e1:((m:Int) - 1)=((m - 1:Nat):Int):=by omega
  repeat' (first|refine qZa ?_|(refine qZe ?_;try simp only[z00])|(refine qZb ?_;simp (config:=qZc) (disch:=first|omega|rfl) only[sB,Za,reduceCtorEq,z6k,zj2,zle,zvm,z0g,z0c,e1,hl])|(refine qZm ?_ ?_;simp (config:=qZc) (disch:=first|omega|rfl) only[sB,Za,reduceCtorEq];refine z02 ?_))
  refine(zoo (fun _ _=>rfl) (by decide) (show x < 4294967296 from hxl)).mono ?_;rintro v H' ⟨rfl,rfl⟩
  repeat' (first|(refine qZf ?_)|(refine z0q ?_;simp (config:=qZc) (disch:=first|omega|rfl) only[sB,Za,reduceCtorEq,z0c]))
  refine z03 rfl (by simp only[sB,Za,reduceCtorEq];rfl) ⟨?_,rfl⟩;simp only[Value.int.injEq,true_and];omega
theorem zs9 {L:List Nat}{neg:Bool}{a:Option Addr}{b c:Nat}{H:Heap}(r:RdS H (L.map u32V) a c) (hL:∀y∈L,y < 4294967296) (hlen:L.length<=1048576) (hw:H.wf) (hb:b < H.next)
  (hl:H.load ⟨b,0,none⟩ 2=some [.bool neg,.slice a L.length c]) :
  EvF Tryz.prog okT 96 [.slice (some ⟨b,0,none⟩) 1 1] H fun v H'=>v=.bool (decide (4096 < nbits (valB 4294967296 L)))/\HX H H':=by
 refine EvF.enter rfl Tryz.func96 (by decide) rfl ?_
 repeat' (first|refine qZa ?_|refine qZg ?_|(refine qZb ?_;simp (config:=qZc) (disch:=first|omega|rfl) only[sB,initTm,Za,reduceCtorEq,zvn]))
 refine qZk (fun k st=>∃tm H',st=⟨tm,[],H'⟩/\HX H H'/\tm.get 5=some (.slice (some ⟨b,0,none⟩) 1 1)/\tm.get 6=some (.int .i64 1)/\((k=1/\tm.get 7=some (.int .i64 0))\/(k=0/\tm.get 7=some (.int .i64 1)/\¬ 4096 < nbits (valB 4294967296 L)))) ?_ 1 _ ?_
 ·rintro k st ⟨tm,H',rfl,hx,g5,g6,⟨rfl,g7⟩|⟨rfl,g7,hn⟩⟩
  ·have hl':=hx.load hw hl;have hx2:=((hx.new (some (Blk.row [.bool false,.slice none 0 0] 149))).put (i:=H'.next) hx.next (Zf _) (some (.row [.bool neg,.slice a L.length c] 149)))
   repeat' (first|refine qZa ?_|refine qZg ?_|(refine qZe ?_;try simp only[z00])|(refine qZb ?_;simp (config:=qZc) (disch:=first|omega|rfl) only[sB,dAlloc,Za,Zb,one,cutC,Int.reduceToNat,z9z,zld,z9y,zlf,zu6,cl94,g5,g6,g7,hl',decide_eq_true,zvo,ZK])|(refine qZd ?_ ?_;simp (config:=qZc) (disch:=first|omega|rfl) only[sB];refine z02 ?_))
   refine(zlm (r.keep hx2 hw) hL hlen).mono ?_;rintro v H2 ⟨rfl,rfl⟩;by_cases hbig:4096 < nbits (valB 4294967296 L)
   ·repeat' (first|refine qZa ?_|(refine qZf ?_;try simp only[z06,z01])|(refine qZb ?_;simp (config:=qZc) (disch:=first|omega|rfl) only[sA])|(refine z0q ?_;simp (config:=qZc) (disch:=first|omega|rfl) only[sA,decide_eq_true])|(refine qZd ?_ ?_;simp (config:=qZc) (disch:=first|omega|rfl) only[sB,Za];refine z02 ?_))
    exact z03 rfl (by simp only[sG,Za]) ⟨rfl,hx2⟩
   ·repeat' (first|(refine qZe ?_;try simp only[sA])|(refine qZb ?_;simp (config:=qZc) (disch:=first|omega|rfl) only[sB,Za,g7,z0c])|(refine z0q ?_;simp (config:=qZc) (disch:=first|omega|rfl) only[sA,decide_eq_false])|(refine qZm ?_ ?_;simp (config:=qZc) (disch:=first|omega|rfl) only[sB,Za];refine z02 ?_))
    exact⟨0,by omega,_,_,rfl,hx2,(by simp only[sG,Za,g5]),(by simp only[sG,Za,g6]),.inr ⟨rfl,(by simp only[sB,Za];rfl),hbig⟩⟩
  ·repeat' (first|refine qZa ?_|(refine qZi ?_;try simp only[sB])|(refine qZf ?_)|(refine qZb ?_;simp (config:=qZc) (disch:=first|omega|rfl) only[sA,g6,g7,decide_eq_false])|(refine qZm ?_ ?_;simp (config:=qZc) (disch:=first|omega|rfl) only[sB];refine z02 ?_))
   exact z03 rfl (by simp only[sG,Za]) ⟨rfl,hx⟩
 ·exact⟨_,_,rfl,HX.refl hw,(by simp only[sG,Za,reduceCtorEq]),(by simp only[sB,Za,reduceCtorEq];rfl),.inl ⟨rfl,(by simp only[sG,Za,reduceCtorEq])⟩⟩
theorem zue {L:List Nat}{a:Option Addr}{c:Nat}{H:Heap}(r:RdS H (L.map u32V) a c) (hlen:L.length<=1048576) (hw:H.wf) :
  EvF Tryz.prog okT 97 [.slice a L.length c] H fun v H'=>∃b c',OwnS H' 156 1 H.next (L.map fun x=>[u32V x]) b c'/\v=.slice (some ⟨b,0,none⟩) L.length c'/\HX H H':=by
 have hmost:L.length<=most:=by unfold most;omega
 have hm0:0<=most:=Zl _;have hmax:L.length<=maxLen:=Zj hlen (by simp [maxLen]);refine EvF.enter rfl Tryz.func97 (by decide) rfl ?_;by_cases h0:L.length=0
 ·have hL0:L=[]:=List.length_eq_zero_iff.1 h0;subst hL0
  repeat' (first|refine qZa ?_|(refine qZf ?_)|(refine qZb ?_;simp (config:=qZc) (disch:=first|omega|rfl) only[sB,initTm,Za,reduceCtorEq,z6k,z5u zu8 hm0,zbk,List.replicate_zero,zoj zs6]))
  refine z03 rfl (by simp only[sG,Za,reduceCtorEq]) ⟨H.next,0,?_,rfl,(HX.refl hw).new _⟩;exact OwnS.ones (vs:=[]) z0n (Ze _) (Zf _) (Ze _) (Zl _) rfl
 ·have hx:=(HX.refl hw).new (some (.row (List.replicate L.length (Value.int .u32 0)) 156));obtain⟨b,o,rfl,hl⟩:=(r.keep hx hw).all (by simpa using h0);rw[Zp] at hl;have hone:(L.map u32V).all one=true:=by simp [u32V,one]
  have hcp:=zs1 (c:=L.length) (c':=c) (o:=0) (b:=H.next) zs6 (Nat.pos_of_ne_zero h0) (by rw[Nat.mul_one];exact hl) hone z0n (by simp);have hsp:Hb.splice (List.replicate L.length (Value.int .u32 0)) 0 (L.map u32V)=L.map u32V:=by rw[z45];simp
  rw[hsp] at hcp
  repeat' (first|refine qZa ?_|(refine qZf ?_)|(refine qZb ?_;simp (config:=qZc) (disch:=first|omega|rfl) only[sB,initTm,Za,reduceCtorEq,z6k,z5u zu8 hmost,zbk,hcp]))
  refine z03 rfl (by simp only[sG,Za,reduceCtorEq]) ⟨H.next,L.length,?_,rfl,hx.put (Ze _) (Zf _) _⟩;have:=OwnS.ones (H:=(H.new (some (.row (List.replicate L.length (Value.int .u32 0)) 156))).put H.next (some (.row (L.map u32V) 156))) (base:=H.next) (c:=L.length) z8n (Ze _) (Zf _) (by simp) hmax hone;rw[List.map_map] at this;exact this
theorem zsa {L:List Nat}{neg:Bool}{a:Option Addr}{c:Nat}{H:Heap}(r:RdS H (L.map u32V) a c) (hw:H.wf) :
  EvF Tryz.prog okT 95 [.bool neg,.slice a L.length c] H fun v H'=>∃m,v=.agg ⟨[.bool (neg && decide (0 < m)),.slice a m c]⟩/\m<=L.length/\(∀x∈L.drop m,x=0)/\(m≠0->L[m - 1]?≠some 0)/\HX H H':=by
 refine EvF.enter rfl Tryz.func95 (by decide) rfl ?_
 repeat' (first|refine qZa ?_|(refine qZb ?_;simp (config:=qZc) (disch:=first|omega|rfl) only[sB,initTm,dAlloc,Za,reduceCtorEq,zld,cl98]))
 have hx:=(HX.refl hw).new (some (.row [.bool false,.slice none 0 0] 149));refine(zbq (fun _ _=>rfl) (by decide) (r.keep hx hw)).mono ?_;rintro v H' ⟨m,rfl,hm,hz,hn0,rfl⟩;cases neg with
 |false =>
  repeat' (first|refine qZa ?_|(refine qZf ?_)|(refine qZb ?_;simp (config:=qZc) (disch:=first|omega|rfl) only[sB,Za,Zb,Value.cells,one,reduceCtorEq,Zq,layC,zj1,z9y]))
  exact z0a rfl (by simp only[sB,Za,reduceCtorEq];rfl) (by simp only[sB,Zb,cutC,z9z];rfl) ⟨m,rfl,hm,hz,hn0,hx.put (Ze _) (Zf _) _⟩
 |true =>
  by_cases h0:0 < m
  ·repeat' (first|refine qZa ?_|(refine qZf ?_)|(refine qZb ?_;simp (config:=qZc) (disch:=first|omega|rfl) only[sB,Za,Zb,Value.cells,one,reduceCtorEq,Zq,layC,z6k,zj1,z9y,decide_eq_true]))
   exact z0a rfl (by simp only[sB,Za,reduceCtorEq];rfl) (by simp only[sB,Zb,cutC,z9z];rfl) ⟨m,by first|rfl|simp [h0],hm,hz,hn0,hx.put (Ze _) (Zf _) _⟩
  ·repeat' (first|refine qZa ?_|(refine qZf ?_)|(refine qZb ?_;simp (config:=qZc) (disch:=first|omega|rfl) only[sB,Za,Zb,Value.cells,one,reduceCtorEq,Zq,layC,z6k,zj1,z9y,decide_eq_false]))
   exact z0a rfl (by simp only[sB,Za,reduceCtorEq];rfl) (by simp only[sB,Zb,cutC,z9z];rfl) ⟨m,by first|rfl|simp [h0],hm,hz,hn0,hx.put (Ze _) (Zf _) _⟩
def bl (s:ByteArray):List Nat:=s.data.toList.map UInt8.toNat
theorem z6n (s:ByteArray):(bl s).length=s.size:=by simp [bl]
theorem zln (s:ByteArray) {i:Nat}(h:i < s.size):(bl s)[i]?=some (byteAt s i):=by
 have h':i < s.data.toList.length:=by simpa using h
 unfold bl byteAt;rw[Zw,Zc h',List.getD_eq_getElem?_getD,Zc h'];rfl
theorem zj4 (s:ByteArray) (l m:Nat):bl (s.extract l m)=((bl s).take m).drop l:=by
 unfold bl;rw[ByteArray.data_extract,Array.toList_extract,List.extract_eq_take_drop,List.map_take,List.map_drop,<-List.drop_take]
def negS (l:List Nat):Bool:=l.head? == some 45
def bodyS (l:List Nat):List Nat:=if negS l then l.tail else l
def parseD (l:List Nat):Option Nat:=if bodyS l=[] then none else if (bodyS l).any (fun x=>10<=digV x) then none else numD ((bodyS l).map digV) 0
def limbsOK (L:List Nat):Prop:=(∀y∈L,y < 4294967296)/\L.getLast?≠some 0
theorem zdh {L:List Nat}(h:limbsOK L) (hb:¬ 4096 < nbits (valB 4294967296 L)):L.length<=128:=by
 rcases List.eq_nil_or_concat L with rfl|⟨l,x,rfl⟩
 ·simp
 ·rw[List.concat_eq_append] at *;have hx:x≠0:=by have:=h.2;simpa using this
  have:=zdg (l:=l) (x:=x) (e:=32) (fun y hy=>h.1 y (by simp [hy])) hx;have h0:1<=nbits x:=by unfold nbits;rw[if_neg hx];omega
  rw[show (2:Nat) ^ 32=4294967296 from rfl] at this;rw[this] at hb;simp;omega
def ParseT (H':Heap) (V:Nat->Value) (B:Nat) (l:List Nat) (v:Value):Prop :=
 (parseD l=none/\∃e:Int,e≠0/\v=.tuple ⟨[.agg ⟨[.bool false,.slice none 0 0]⟩,.int .i64 e]⟩) \/
 ∃n L a c,parseD l=some n/\v=.tuple ⟨[.agg ⟨[.bool (negS l && decide (0 < L.length)),.slice a L.length c]⟩,.int .i64 0]⟩/\RdS H' (L.map V) a c/\(∀y∈L,y < B)/\valB B L=n/\L.getLast?≠some 0/\L.length<=4096
set_option maxHeartbeats 2000000 in
theorem zoq {s:ByteArray}(hs:s.size<=9223372036854775807) {H:Heap}(hw:H.wf) :
  EvF Tryz.prog okT 90 [.string s,.int .i64 10] H fun v H'=>ParseT H' u32V 4294967296 (bl s) v/\HX H H':=by
 refine EvF.enter rfl Tryz.func90 (by decide) rfl ?_;(repeat refine qZa ?_);refine qZb ?_;simp (config:=qZc) (disch:=first|omega|rfl) only[sA,initTm,dAlloc,zld];have hx0:=(HX.refl hw).new (some (.row [.bool false,.slice none 0 0] 149));obtain⟨H1,hH1⟩:∃H1,H1=H.new (some (.row [.bool false,.slice none 0 0] 149)):=⟨_,rfl⟩
 have hn1:H1.next=H.next+1:=by rw[hH1];rfl
 have hg1:H1.get H.next=some (.row [.bool false,.slice none 0 0] 149):=by rw[hH1];exact z0n
 rw[<-hH1] at hx0 ⊢;(repeat refine qZa ?_);refine qZb ?_;simp (config:=qZc) (disch:=first|omega|rfl) only[sB,Za,reduceCtorEq,decide_eq_false,Zg];refine qZm (by simp (config:=qZc) (disch:=first|omega|rfl) only[sB,Za,reduceCtorEq]) ?_;(try refine qZe ?_);(try simp only[z00,z04]);(repeat refine qZa ?_);refine EvC.join (fun st=>∃tm,st=⟨tm,[],H1⟩/\tm.get 0=some (.string s)/\tm.get 1=some (.int .i64 10)/\tm.get 4=some (.pointer (some ⟨H.next,0,none⟩))/\tm.get 6=some (.bool (negS (bl s)))) ?_ ?_
 ·by_cases h0:s.size=0
  ·have hb:negS (bl s)=false:=by
    have:bl s=[]:=List.length_eq_zero_iff.1 (by rw[z6n];exact h0);rw[this];rfl
   rw[hb];refine qZb ?_;simp (config:=qZc) (disch:=first|omega|rfl) only[sB,Za,reduceCtorEq,ln9,decide_eq_false,Zg];exact⟨_,rfl,(by simp only[sG,reduceCtorEq]),(by simp only[sG,Za,reduceCtorEq]),(by simp only[sG,Za,reduceCtorEq]),(by simp only[sG,Za,reduceCtorEq])⟩
  ·have hb:negS (bl s)=(byteAt s 0 == 45):=by
    have:=zln s (i:=0) (by omega);unfold negS;rw[List.head?_eq_getElem?,this];simp
   rw[hb];by_cases h45:byteAt s 0=45
   ·refine qZb ?_;simp (config:=qZc) (disch:=first|omega|rfl) only[sB,Za,reduceCtorEq,Int.reduceToNat,ln9,decide_eq_true,iy9,z0l];exact⟨_,rfl,(by simp only[sG,reduceCtorEq]),(by simp only[sG,Za,reduceCtorEq]),(by simp only[sG,Za,reduceCtorEq]),by simp only[sB,Za,reduceCtorEq];first|rfl|simp [h45]⟩
   ·refine qZb ?_;simp (config:=qZc) (disch:=first|omega|rfl) only[sB,Za,reduceCtorEq,Int.reduceToNat,ln9,decide_eq_true,iy9,z0g];exact⟨_,rfl,(by simp only[sG,reduceCtorEq]),(by simp only[sG,Za,reduceCtorEq]),(by simp only[sG,Za,reduceCtorEq]),by simp only[sB,Za,reduceCtorEq];first|rfl|simp [h45]⟩
 rintro st ⟨tm,rfl,g0,g1,g4,g6⟩;(try simp (config:=qZc) (disch:=first|omega|rfl) only[z00]);(repeat refine qZa ?_);refine qZb ?_;simp (config:=qZc) (disch:=first|omega|rfl) only[sA,g6];(repeat refine qZa ?_);have hbody:bodyS (bl s)=if negS (bl s) then (bl s).tail else bl s:=rfl
 refine EvC.join (fun st=>∃tm s',st=⟨tm,[],H1⟩/\bl s'=bodyS (bl s)/\s'.size<=9223372036854775807/\tm.get 0=some (.string s')/\tm.get 1=some (.int .i64 10)/\tm.get 4=some (.pointer (some ⟨H.next,0,none⟩))/\tm.get 6=some (.bool (negS (bl s)))) ?_ ?_
 ·cases hneg:negS (bl s) with
  |true =>
   have h1:1<=s.size:=by
    rw[<-z6n];cases hb:bl s with
    |nil=>rw[hb] at hneg;simp [negS] at hneg
    |cons x l=>simp
   have hsl:dSl Tryz.prog 9 (.string s) (some (.int .i64 1)) none none H1=some (.val (.string (s.extract 1 s.size)) H1):=ziw (l:=1) us9 h1;rw[hneg] at g6 hbody;refine qZd (by simp only[sB]) ?_;refine qZb ?_;simp (config:=qZc) (disch:=first|omega|rfl) only[sB,Za,reduceCtorEq,g0,hsl];refine⟨_,s.extract 1 s.size,rfl,?_,?_,(by simp only[sG,reduceCtorEq]),(by simp only[sG,Za,reduceCtorEq,g1]),(by simp only[sG,Za,reduceCtorEq,g4]),(by simp only[sG,Za,reduceCtorEq,g6])⟩
   ·rw[zj4,hbody,Zm (by rw[z6n];exact Ze _)];simp
   ·have:(s.extract 1 s.size).size<=s.size:=by rw[ByteArray.size_extract];omega
    omega
  |false =>
   rw[hneg] at g6 hbody;refine qZm (by simp only[sB]) (qZe ?_);(try simp (config:=qZc) (disch:=first|omega|rfl) only[z00]);exact⟨_,s,rfl,by rw[hbody];rfl,hs,(by simp only[sG,reduceCtorEq,g0]),(by simp only[sG,Za,g1]),(by simp only[sG,Za,g4]),(by simp only[sG,Za,g6])⟩
 clear g0 g1 g4 g6;rintro st ⟨tm1,s',rfl,hbl,hs',g0,g1,g4,g6⟩;clear tm;generalize hneg:negS (bl s)=neg at g6;(try simp (config:=qZc) (disch:=first|omega|rfl) only[z00]);(repeat refine qZa ?_);refine qZb ?_;simp (config:=qZc) (disch:=first|omega|rfl) only[sB,ln9,g0];(repeat refine qZa ?_);refine EvC.join (fun st=>∃tm,st=⟨tm,[],H1⟩/\(bodyS (bl s)).any (fun x=>10<=digV x)=false/\tm.get 0=some (.string s')/\tm.get 1=some (.int .i64 10)/\tm.get 4=some (.pointer (some ⟨H.next,0,none⟩))/\tm.get 6=some (.bool neg)) ?_ ?_
 ·refine qZg (qZk (fun k st=>∃tm i,st=⟨tm,[],H1⟩/\k=s'.size - i/\i<=s'.size/\(∀x∈(bl s').take i,digV x < 10)/\tm.get 0=some (.string s')/\tm.get 1=some (.int .i64 10)/\tm.get 4=some (.pointer (some ⟨H.next,0,none⟩))/\tm.get 6=some (.bool neg)/\tm.get 32=some (.int .i64 s'.size)/\tm.get 33=some (.int .i64 (i:Nat))) ?_ s'.size _ ?_)
  ·rintro k st ⟨tm,i,rfl,hk,hi,hall,f0,f1,f4,f6,f32,f33⟩;by_cases hlt:i < s'.size
   ·have hgi:=zln s' hlt
    repeat' (first|refine qZa ?_|refine qZg ?_|(refine qZe ?_;try simp only[z00])|(refine qZb ?_;simp (config:=qZc) (disch:=first|omega|rfl) only[sB,Za,reduceCtorEq,ix9,cl93,f0,f1,f32,f33,decide_eq_true])|(refine qZd ?_ ?_;simp (config:=qZc) (disch:=first|omega|rfl) only[sB];refine z02 ?_))
    refine(zh2 (fun _ _=>rfl) (by decide) _ (zd1 s' i) H1).mono ?_;rintro v H' ⟨rfl,rfl⟩;by_cases hd:10<=digV (byteAt s' i)
    ·repeat' (first|refine qZa ?_|(refine qZf ?_;try simp only[z06,z01])|(refine qZb ?_;simp (config:=qZc) (disch:=first|omega|rfl) only[sB,Za,Zb,Value.cells,one,layC,zj1,z9y,f4,hg1])|(refine z0q ?_;simp (config:=qZc) (disch:=first|omega|rfl) only[sA,decide_eq_true])|(refine qZd ?_ ?_;simp (config:=qZc) (disch:=first|omega|rfl) only[sB,Za];refine z02 ?_))
     refine z0e rfl (by simp only[sB,Za,f4];rfl) (by simp only[sB,Zb,cutC,z9z]) (by simp only[sG,Za]) ⟨.inl ⟨?_,12,by omega,rfl⟩,?_⟩
     ·have hm:byteAt s' i∈bodyS (bl s):=by rw[<-hbl];exact Zx hgi
      unfold parseD;rw[if_neg (fun h=>by rw[h] at hm;cases hm),if_pos (List.any_eq_true.2 ⟨_,hm,decide_eq_true hd⟩)]
     ·exact hx0.put (Ze _) (by omega) _
    ·repeat' (first|(refine qZe ?_;try simp only[sA])|(refine qZb ?_;simp (config:=qZc) (disch:=first|omega|rfl) only[sB,Za,f33,z0c])|(refine z0q ?_;simp (config:=qZc) (disch:=first|omega|rfl) only[sA,decide_eq_false])|(refine qZm ?_ ?_;simp (config:=qZc) (disch:=first|omega|rfl) only[sB,Za];refine z02 ?_))
     refine⟨s'.size - (i+1),by omega,_,i+1,rfl,rfl,by omega,fun x hx=>?_,(by simp only[sG,reduceCtorEq,f0]),(by simp only[sG,Za,f1]),(by simp only[sG,Za,f4]),(by simp only[sG,Za,f6]),(by simp only[sG,Za,f32]),(by simp only[sB,Za];rfl)⟩;rw[List.take_add_one,hgi] at hx;rcases List.mem_append.1 hx with h|h
     ·exact hall x h
     ·simp at h;rw[h];omega
   ·repeat' (first|refine qZa ?_|(refine qZi ?_;try simp only[sB])|(refine qZb ?_;simp (config:=qZc) (disch:=first|omega|rfl) only[sA,f32,f33,decide_eq_false])|(refine qZm ?_ ?_;simp (config:=qZc) (disch:=first|omega|rfl) only[sB];refine z02 ?_))
    refine⟨_,rfl,?_,(by simp only[sG,reduceCtorEq,f0]),(by simp only[sG,Za,f1]),(by simp only[sG,Za,f4]),(by simp only[sG,Za,f6])⟩;rw[List.any_eq_false];intro x hx;rw[<-hbl] at hx;have:=hall x (by rw[Zm (by rw[z6n];omega)];exact hx);simp;omega
  ·exact⟨_,0,rfl,by omega,by omega,by simp,(by simp only[sG,reduceCtorEq,g0]),(by simp only[sG,Za,g1]),(by simp only[sG,Za,g4]),(by simp only[sG,Za,g6]),(by simp only[sG,Za]),(by simp only[sB,Za];rfl)⟩
 clear g0 g1 g4 g6 tm1;rintro st ⟨tm,rfl,hany,g0,g1,g4,g6⟩;by_cases hsz:s'.size=0
 ·repeat' (first|refine qZa ?_|(refine qZf ?_;try simp only[z06,z01])|(refine qZb ?_;simp (config:=qZc) (disch:=first|omega|rfl) only[sB,Za,Zb,Value.cells,one,layC,zj1,z9y,g0,g4,zgm,decide_eq_true,hg1])|(refine qZd ?_ ?_;simp (config:=qZc) (disch:=first|omega|rfl) only[sB,Za];refine z02 ?_))
  refine z0e rfl (by simp only[sB,Za,g4];rfl) (by simp only[sB,Zb,cutC,z9z]) (by simp only[sG,Za]) ⟨.inl ⟨?_,12,by omega,rfl⟩,hx0.put (Ze _) (by omega) _⟩;have:bodyS (bl s)=[]:=by rw[<-hbl];exact List.length_eq_zero_iff.1 (by rw[z6n];exact hsz)
  unfold parseD;rw[if_pos this]
 have hpd:parseD (bl s)=numD ((bl s').map digV) 0:=by
  have:bodyS (bl s)≠[]:=by rw[<-hbl];intro h;have:=congrArg List.length h;rw[z6n] at this;exact hsz this
  unfold parseD;rw[if_neg this,if_neg (by rw[hany];simp),hbl]
 repeat' (first|refine qZa ?_|refine qZg ?_|(refine qZe ?_;try simp only[z00])|(refine qZb ?_;simp (config:=qZc) (disch:=first|omega|rfl) only[sB,Za,reduceCtorEq,ln9,g0,zgm,decide_eq_false])|(refine qZm ?_ ?_;simp (config:=qZc) (disch:=first|omega|rfl) only[sB,Za];refine z02 ?_))
 have hdl:∀x∈bl s',digV x < 10:=by
  rw[<-hbl,List.any_eq_false] at hany;intro x hx;have:=hany x hx;simp at this;omega
 refine qZk (fun k st=>∃tm i n L v Hc,st=⟨tm,[],Hc⟩/\k=s'.size - i/\i<=s'.size/\numD (((bl s').map digV).drop i) n=numD ((bl s').map digV) 0/\n < big/\valB 4294967296 L=n/\limbsOK L/\HX H1 Hc /\
  RepO Hc 156 1 H1.next (L.map fun x=>[u32V x]) v/\tm.get 0=some (.string s')/\tm.get 1=some (.int .i64 10)/\tm.get 4=some (.pointer (some ⟨H.next,0,none⟩))/\tm.get 6=some (.bool neg)/\tm.get 8=some v /\
  tm.get 48=some (.int .i64 s'.size)/\tm.get 49=some (.int .i64 (i:Nat))) ?_ s'.size _ ?_
 ·clear g0 g1 g4 g6 tm;rintro k st ⟨tm,i,n,L,v,Hc,rfl,hk,hi,hnum,hnb,hval,hL,hxc,hrep,g0,g1,g4,g6,g8,g48,g49⟩;by_cases hlt:i < s'.size
  ·have hgi:=zln s' hlt;have hdi:digV (byteAt s' i) < 10:=hdl _ (Zx hgi)
   repeat' (first|refine qZa ?_|refine qZg ?_|(refine qZe ?_;try simp only[z00])|(refine qZb ?_;simp (config:=qZc) (disch:=first|omega|rfl) only[sB,Za,reduceCtorEq,ix9,cl93,g0,g48,g49,decide_eq_true])|(refine qZd ?_ ?_;simp (config:=qZc) (disch:=first|omega|rfl) only[sB];refine z02 ?_))
   refine(zh2 (fun _ _=>rfl) (by decide) _ (zd1 s' i) Hc).mono ?_;rintro v' H' ⟨rfl,rfl⟩;obtain⟨a,c,rfl,hLc,hcm⟩:=hrep.slice;rw[Zp] at hLc g8 hrep;have hcm':c<=9223372036854775807:=hcm
   repeat' (first|refine qZa ?_|refine qZg ?_|(refine qZb ?_;simp (config:=qZc) (disch:=first|omega|rfl) only[sB,Za,z6k,g8])|(refine z0q ?_;simp (config:=qZc) (disch:=first|omega|rfl) only[sB,Za,zqo,z54]))
   refine qZk (fun k' st=>∃tm k d cy Hd,st=⟨tm,[],Hd⟩/\k'=L.length - k/\k<=L.length/\d.length=k/\(∀y∈d,y < 4294967296)/\cy < 10 /\
    valB 4294967296 d+4294967296 ^ k*(10*valB 4294967296 (L.drop k)+cy)=10*valB 4294967296 L+digV (byteAt s' i)/\(k≠0->L[k - 1]?≠some 0->cy≠0\/d.getLast?≠some 0)/\(k=0->cy=digV (byteAt s' i))/\HX H1 Hd /\
    RepO Hd 156 1 H1.next ((d++L.drop k).map fun x=>[u32V x]) (.slice a L.length c)/\tm.get 0=some (.string s')/\tm.get 1=some (.int .i64 10)/\tm.get 4=some (.pointer (some ⟨H.next,0,none⟩))/\tm.get 6=some (.bool neg) /\
    tm.get 8=some (.slice a L.length c)/\tm.get 10=some (.int .u64 (cy:Nat))/\tm.get 48=some (.int .i64 s'.size)/\tm.get 49=some (.int .i64 (i:Nat))/\tm.get 58=some (.int .i64 L.length)/\tm.get 59=some (.int .i64 (k:Nat))) ?_ L.length _ ?_
   ·clear hxc hrep g0 g1 g4 g6 g8 g48 g49 tm H';rintro k2 st ⟨tm,k,d,cy,Hd,rfl,hk2,hkl,hdk,hdb,hcy,hinv,hlast,hz0,hxc,hrep,g0,g1,g4,g6,g8,g10,g48,g49,g58,g59⟩;by_cases hkl2:k < L.length
    ·have hx:L[k]?=some L[k]:=Zc hkl2;have hdrop:L.drop k=L[k] :: L.drop (k+1):=ZG hkl2;have hxb:L[k] < 4294967296:=hL.1 _ (Zu _);generalize L[k]=x at hx hdrop hxb;rw[hdrop] at hrep hinv;obtain⟨b,c2,ho,hv⟩:=hrep.own (by simp);have hlm:((d++x :: L.drop (k+1)).map fun x=>[u32V x]).length=L.length:=by simp;omega
     rw[hlm] at hv;cases hv;have hld:=ho.load (i:=k) (x:=[u32V x]) (by rw[Zw,ZC (by omega),hdk];simp);rw[Nat.mul_one] at hld;unfold u32V at hld;obtain⟨cs,hgb,hle,_⟩:=ho.row;rw[hlm,Nat.mul_one] at hle;have hk1:k+1<=cs.length:=by omega
     have e1:((x:Int)*10+(cy:Int))=((x*10+cy:Nat):Int):=by omega
     repeat' (first|refine qZa ?_|refine qZg ?_|(refine qZe ?_;try simp only[z00])|(refine qZb ?_;simp (config:=qZc) (disch:=first|omega|rfl) only[sB,Za,one,zqo,zj2,zle,zbm,zbn,zu5,g1,g8,g10,g58,g59,hld,hgb,hk1,e1,z54,zd3,zf3,z0c,decide_eq_true])|(refine qZd ?_ ?_;simp (config:=qZc) (disch:=first|omega|rfl) only[sB];refine z02 ?_))
     have hset:=ho.set hgb (i:=k) (y:=[u32V ((x*10+cy) % 4294967296)]) (by rw[hlm];exact hkl2) rfl rfl;rw[Nat.mul_one] at hset;have hset2:((d++x :: L.drop (k+1)).map fun x=>[u32V x]).set k [u32V ((x*10+cy) % 4294967296)]=((d++[(x*10+cy) % 4294967296])++L.drop (k+1)).map fun x=>[u32V x]:=by
      rw[ZI,List.set_append_right _ _ (by simp;omega)];simp [hdk]
     rw[hset2] at hset;have hlm2:(((d++[(x*10+cy) % 4294967296])++L.drop (k+1)).map fun x=>[u32V x]).length=L.length:=by simp;omega
     have hcq:=zlj (B:=4294967296) (x:=x) (c:=cy) (by omega) hxb hcy;refine⟨L.length - (k+1),by omega,_,k+1,d++[(x*10+cy) % 4294967296],(x*10+cy) / 4294967296,_,rfl,rfl,by omega,by simp [hdk],?_,hcq,?_,?_,by omega,hxc.put ho.lo ho.hi _,.inr ⟨_,_,hset,by rw[hlm2]⟩,
      (by simp only[sG,reduceCtorEq,g0]),(by simp only[sG,Za,g1]),(by simp only[sG,Za,g4]),(by simp only[sG,Za,g6]),(by simp only[sG,Za,g8]),(by simp only[sG,Za]),(by simp only[sG,Za,g48]),(by simp only[sG,Za,g49]),(by simp only[sG,Za,g58]),(by simp only[sB,Za];rfl)⟩
     ·intro y hy;rcases List.mem_append.1 hy with h|h
      ·exact hdb y h
      ·simp at h;omega
     ·have:=zs7 (B:=4294967296) (c:=cy) (x:=x) (d:=d) (rest:=L.drop (k+1));rw[hdk] at this;rw[this];exact hinv
     ·intro _ hl0;rw[show k+1 - 1=k by omega,hx] at hl0;have hx0:x≠0:=fun h=>hl0 (by rw[h])
      by_cases hq:(x*10+cy) / 4294967296=0
      ·refine .inr ?_;simp;omega
      ·exact .inl hq
    ·have hkL:k=L.length:=by omega
     have hdr:L.drop k=[]:=List.drop_of_length_le (by omega);rw[hdr] at hinv hrep;rw[List.append_nil] at hrep;simp only[valB,Nat.mul_zero,ZP] at hinv;have hfew:=zdh hL (by rw[z4o,hval];omega);have hlastL:k≠0->L[k - 1]?≠some 0:=fun h0=>by
      have:=hL.2;rw[List.getLast?_eq_getElem?] at this;rw[hkL];exact this
     have hlm:(d.map fun x=>[u32V x]).length=L.length:=by simp;omega
     repeat' (first|refine qZa ?_|(refine qZi ?_;try simp only[sB,Za])|(refine qZb ?_;simp (config:=qZc) (disch:=first|omega|rfl) only[sB,Za,g58,g59,g10,decide_eq_false])|(refine qZm ?_ ?_;simp (config:=qZc) (disch:=first|omega|rfl) only[sB,Za];refine z02 ?_))
     have hnn:n*10+digV (byteAt s' i)=valB 4294967296 d+4294967296 ^ k*cy:=by rw[hval] at hinv;omega
     have hnumi:numD ((bl s').map digV) 0=if big<=n*10+digV (byteAt s' i) then none else numD (((bl s').map digV).drop (i+1)) (n*10+digV (byteAt s' i)):=by
      rw[<-hnum,ZG (by simp [z6n];omega),numD];have:((bl s').map digV)[i]'(by simp [z6n];omega)=digV (byteAt s' i):=by
       apply Option.some.inj;rw[<-Zc,Zw,hgi];rfl
      rw[this]
     generalize n*10+digV (byteAt s' i)=n' at hnn hnumi;refine EvC.join (fun st=>∃tm L' v' Hc',st=⟨tm,[],Hc'⟩/\valB 4294967296 L'=n'/\limbsOK L'/\L'.length<=129/\HX H1 Hc'/\RepO Hc' 156 1 H1.next (L'.map fun x=>[u32V x]) v' /\
      tm.get 0=some (.string s')/\tm.get 1=some (.int .i64 10)/\tm.get 4=some (.pointer (some ⟨H.next,0,none⟩))/\tm.get 6=some (.bool neg)/\tm.get 8=some v'/\tm.get 48=some (.int .i64 s'.size)/\tm.get 49=some (.int .i64 (i:Nat))) ?_ ?_
     ·by_cases hc0:cy=0
      ·repeat' (first|(refine qZe ?_;try simp only[z00])|(refine qZm ?_ ?_;simp (config:=qZc) (disch:=first|omega|rfl) only[sB,Za,decide_eq_false];refine z02 ?_))
       refine⟨_,d,_,_,rfl,by rw[hnn,hc0];omega,⟨hdb,?_⟩,by omega,hxc,hrep,(by simp only[sG,reduceCtorEq,g0]),(by simp only[sG,Za,g1]),(by simp only[sG,Za,g4]),(by simp only[sG,Za,g6]),(by simp only[sG,Za,g8]),(by simp only[sG,Za,g48]),(by simp only[sG,Za,g49])⟩;by_cases hk0:k=0
       ·have:d=[]:=List.length_eq_zero_iff.1 (by omega);rw[this];simp
       ·rcases hlast hk0 (hlastL hk0) with h|h
        ·exact absurd hc0 h
        ·exact h
      ·obtain⟨H2,v2,hap,hrep2,_,hx2,_⟩:=hrep.push zvj (y:=[u32V cy]) rfl rfl (by simp [most];omega) hxc.next;unfold u32V at hap
       repeat' (first|(refine qZb ?_;simp (config:=qZc) (disch:=first|omega|rfl) only[sB,Za,Value.cells,one,layC,zbn,zs2,g8,g10,decide_eq_true,wrap_u32,hap])|(refine qZd ?_ ?_;simp (config:=qZc) (disch:=first|omega|rfl) only[sB,Za,decide_eq_true];refine z02 ?_))
       have hk2':((d++[cy]).map fun x=>[u32V x])=(d.map fun x=>[u32V x])++[[u32V cy]]:=by simp
       refine⟨_,d++[cy],_,_,rfl,?_,⟨?_,by simp;exact hc0⟩,by simp;omega,hx2 _ hxc (Ze _),by rw[hk2'];exact hrep2,(by simp only[sG,reduceCtorEq,g0]),(by simp only[sG,Za,g1]),(by simp only[sG,Za,g4]),(by simp only[sG,Za,g6]),(by simp only[sG,Za]),(by simp only[sG,Za,g48]),(by simp only[sG,Za,g49])⟩
       ·rw[z24,z6l,hdk,hnn]
       ·intro y hy;rcases List.mem_append.1 hy with h|h
        ·exact hdb y h
        ·simp at h;omega
     clear g0 g1 g4 g6 g8 g10 g48 g49 g58 g59 tm hrep hxc;rintro st ⟨tm,L',v',Hc',rfl,hval',hL',hfew',hxc,hrep,g0,g1,g4,g6,g8,g48,g49⟩;obtain⟨a',c'',rfl,hr⟩:=RepO.rds (vs:=L'.map u32V) (by rw[List.map_map];exact hrep);rw[Zp] at g8 hrep
     repeat' (first|refine qZa ?_|(refine qZb ?_;simp (config:=qZc) (disch:=first|omega|rfl) only[sB,Za,cl94,g8]))
     refine(zlm hr hL'.1 (by omega)).mono ?_;rintro v H2 ⟨rfl,rfl⟩;rw[hval'];have hg2:H2.get H.next=some (.row [.bool false,.slice none 0 0] 149):=by rw[hxc.keep _ (by omega)];exact hg1
     by_cases hbig:4096 < nbits n'
     ·repeat' (first|refine qZa ?_|(refine qZf ?_;try simp only[z06,z01])|(refine qZb ?_;simp (config:=qZc) (disch:=first|omega|rfl) only[sB,Za,Zb,Value.cells,one,layC,zj1,z9y,g4,hg2])|(refine z0q ?_;simp (config:=qZc) (disch:=first|omega|rfl) only[sA,decide_eq_true])|(refine qZd ?_ ?_;simp (config:=qZc) (disch:=first|omega|rfl) only[sB,Za];refine z02 ?_))
      refine z0e rfl (by simp only[sB,Za,g4];rfl) (by simp only[sB,Zb,cutC,z9z]) (by simp only[sG,Za]) ⟨.inl ⟨?_,10,by omega,rfl⟩,(hx0.trans hxc).put (Ze _) (by have:=hxc.next;omega) _⟩;rw[hpd,hnumi,if_pos (z4o.1 hbig)]
     ·repeat' (first|(refine qZe ?_;try simp only[sA])|(refine qZb ?_;simp (config:=qZc) (disch:=first|omega|rfl) only[sB,Za,g49,z0c])|(refine z0q ?_;simp (config:=qZc) (disch:=first|omega|rfl) only[sA,decide_eq_false])|(refine qZm ?_ ?_;simp (config:=qZc) (disch:=first|omega|rfl) only[sB,Za];refine z02 ?_))
      have hnb':¬big<=n':=fun h=>hbig (z4o.2 h)
      exact⟨s'.size - (i+1),by omega,_,i+1,n',L',_,_,rfl,rfl,by omega,by rw[hnumi,if_neg hnb'],Nat.lt_of_not_le hnb',hval',hL',hxc,hrep,(by simp only[sG,reduceCtorEq,g0]),(by simp only[sG,Za,g1]),(by simp only[sG,Za,g4]),(by simp only[sG,Za,g6]),(by simp only[sG,Za,g8]),(by simp only[sG,Za,g48]),(by simp only[sB,Za];rfl)⟩
   ·refine⟨_,0,[],digV (byteAt s' i),_,rfl,by omega,by omega,rfl,by simp,hdi,by simp [valB],by simp,fun _=>rfl,hxc,by simpa using hrep,(by simp only[sG,reduceCtorEq,g0]),(by simp only[sG,Za,g1]),(by simp only[sG,Za,g4]),(by simp only[sG,Za,g6]),(by simp only[sG,Za,g8]),(by simp only[sG,Za]),(by simp only[sG,Za,g48]),(by simp only[sG,Za,g49]),(by simp only[sG,Za]),(by simp only[sB,Za];rfl)⟩
  ·have hi':i=s'.size:=by omega
   have hnn:numD ((bl s').map digV) 0=some n:=by
    rw[<-hnum,List.drop_of_length_le (by simp [z6n];omega),numD]
   obtain⟨a',c'',rfl,hr⟩:=RepO.rds (vs:=L.map u32V) (by rw[List.map_map];exact hrep);rw[Zp] at g8
   repeat' (first|refine qZa ?_|(refine qZi ?_;try simp only[sB])|(refine qZb ?_;simp (config:=qZc) (disch:=first|omega|rfl) only[sB,Za,cl95,g48,g49,g6,g8,decide_eq_false])|(refine qZm ?_ ?_;simp (config:=qZc) (disch:=first|omega|rfl) only[sB];refine z02 ?_))
   refine(zsa hr hxc.wf).mono ?_;rintro v H2 ⟨m,rfl,hm,hz,hn0,hx2⟩;have hg2:H2.get H.next=some (.row [.bool false,.slice none 0 0] 149):=by rw[(hxc.trans hx2).keep _ (by omega)];exact hg1
   repeat' (first|(refine qZf ?_)|(refine z0q ?_;simp (config:=qZc) (disch:=first|omega|rfl) only[sB,Zb,one,z9y,g4,hg2]))
   have hx3:=hxc.trans hx2;have hm':m=L.length:=by
    rcases Nat.lt_or_ge m L.length with h|h
    ·have:=hz (L[L.length - 1]'(by omega)) (List.mem_drop_iff_getElem.2 ⟨L.length - 1 - m,by omega,by congr 1;omega⟩);have h2:=hL.2;rw[List.getLast?_eq_getElem?,Zc (by omega),this] at h2;exact absurd rfl h2
    ·omega
   subst hm';refine z0e rfl (by simp only[sB,Za,g4];rfl) (by simp only[sB,Zb,cutC,z9z];rfl) (by simp only[sB,Za];rfl) ⟨.inr ⟨n,L,a',c'',by rw[hpd,hnn],by rw[hneg],?_,hL.1,hval,hL.2,?_⟩,(hx0.trans hx3).put (Ze _) (by have:=hx3.next;omega) _⟩
   ·rw[Zp] at hrep;have h3:=(hrep.keep hx2).putlo (i:=H.next) (by omega) (some (.row [.bool (neg && decide (0 < L.length)),.slice a' L.length c''] 149));exact(RepO.rds' (vs:=L.map u32V) (by rw[List.map_map];exact h3)).2
   ·have:=zdh hL (by rw[z4o,hval];omega);omega
 ·exact⟨_,0,0,[],_,_,rfl,by omega,by omega,by simp,by rw[zdf];exact Nat.two_pow_pos _,rfl,⟨by simp,by simp⟩,HX.refl hx0.wf,RepO.empty,(by simp only[sG,reduceCtorEq,g0]),(by simp only[sG,Za,g1]),(by simp only[sG,Za,g4]),(by simp only[sG,Za,g6]),(by simp only[sG,Za]),(by simp only[sG,Za]),(by simp only[sB,Za];rfl)⟩
def u8V (n:Nat):Value:=.int .u8 (n:Int)
theorem zsb {s:ByteArray}(h:∀i:Fin 10,byteAt s i=48+i) {y:Nat}(hy:y < 10):byteAt s y=48+y:=h ⟨y,hy⟩
theorem zh4 {B:Nat}(hB:0 < B) {M:List Nat}(h0:M≠[]) (h:M.getLast?≠some 0):valB B M≠0:=by
 rcases List.eq_nil_or_concat M with rfl|⟨l,x,rfl⟩
 ·exact absurd rfl h0
 ·rw[List.concat_eq_append] at *;have hx:x≠0:=by simpa using h
  rw[z24,z6l];have:0 < B ^ l.length*x:=Nat.mul_pos (Nat.pow_pos hB) (by omega);omega
set_option maxHeartbeats 4000000 in
theorem zsc {L:List Nat}{neg:Bool}{a:Option Addr}{c n:Nat}{H:Heap}(hw:H.wf) (r:RdS H (L.map u32V) a c) (hL:∀y∈L,y < 4294967296) (hlen:L.length<=4096) (hval:valB 4294967296 L=n) (hn:n < big) :
  EvF Tryz.prog okT 91 [.agg ⟨[.bool neg,.slice a L.length c]⟩,.int .i64 10] H fun v H'=>(∃t:ByteArray,v=.tuple ⟨[.string t,.int .i64 0]⟩/\bl t=textD neg n)/\HX H H':=by
 refine EvF.enter rfl Tryz.func91 (by decide) rfl ?_;(repeat refine qZa ?_);refine qZb ?_;simp (config:=qZc) (disch:=first|omega|rfl) only[sB,initTm,dBox,Value.cells,one,reduceCtorEq];have hx0:=(HX.refl hw).new (some (.row [.bool neg,.slice a L.length c] 149));obtain⟨H1,hH1⟩:∃H1,H1=H.new (some (.row [.bool neg,.slice a L.length c] 149)):=⟨_,rfl⟩
 have hn1:H1.next=H.next+1:=by rw[hH1];rfl
 have hg1:H1.get H.next=some (.row [.bool neg,.slice a L.length c] 149):=by rw[hH1];exact z0n
 have hl1:H1.load ⟨H.next,0,none⟩ 2=some [.bool neg,.slice a L.length c]:=by rw[hH1];exact z4l
 have hlb:H1.load ⟨H.next,0,none⟩ 1=some [.bool neg]:=by rw[hH1];exact z4l
 have hls:H1.load ⟨H.next,1,none⟩ 1=some [.slice a L.length c]:=by rw[hH1];exact z4l
 rw[<-hH1] at hx0 ⊢;have hw1:=hx0.wf;have hx2:=(HX.refl hw1).new (some (.row [.bool neg,.slice a L.length c] 149))
 repeat' (first|refine qZa ?_|(refine qZb ?_;simp (config:=qZc) (disch:=first|omega|rfl) only[sB,Za,Zb,Value.cells,one,reduceCtorEq,layC,z9z,zs3,cl96,hl1]))
 refine(zs9 ((r.keep hx0 hw).keep hx2 hw1) hL (by omega) hx2.wf (Zf _) z4l).mono ?_;rintro v H2 ⟨rfl,hx3⟩;have hx13:=hx2.trans hx3;have hl2:=hx13.load hw1 hls;have hlb2:=hx13.load hw1 hlb;have hng:¬ 4096 < nbits (valB 4294967296 L):=by rw[z4o,hval];omega
 rw[decide_eq_false hng]
 repeat' (first|refine qZa ?_|(refine qZe ?_;try simp only[z00])|(refine qZb ?_;simp (config:=qZc) (disch:=first|omega|rfl) only[sB,Za,reduceCtorEq,zlf,zu6,cl98,cl97,hl2,decide_eq_false,Zg])|(refine qZm ?_ ?_;simp (config:=qZc) (disch:=first|omega|rfl) only[sB,Za,reduceCtorEq];refine z02 ?_))
 have r2:=(r.keep hx0 hw).keep hx13 hw1;refine(zbq (fun _ _=>rfl) (by decide) r2).mono ?_;rintro v H3 ⟨m,rfl,hm,hz,hn0,rfl⟩;have hvm:valB 4294967296 (L.take m)=n:=by rw[z8y hz,hval]
 have hlm:(L.take m).length=m:=by rw[Zo];omega
 have hLm:∀y∈L.take m,y < 4294967296:=fun y hy=>hL y (List.mem_of_mem_take hy)
 have hlast:(L.take m).getLast?≠some 0:=by
  rw[List.getLast?_eq_getElem?,hlm];by_cases h0:m=0
  ·subst h0;simp
  ·rw[ZJ,if_pos (by omega)];exact hn0 h0
 have r3:RdS H3 ((L.take m).map u32V) a c:=by rw[List.map_take];exact r2.take m
 generalize L.take m=M0 at hvm hlm hLm hlast r3;subst hlm
 skip
 refine(zue r3 (by omega) hx13.wf).mono ?_;rintro v H4 ⟨b,c2,ho,rfl,hx4⟩;have hx14:=hx13.trans hx4;by_cases h0:M0.length=0
 ·have hM:M0=[]:=List.length_eq_zero_iff.1 h0;subst hM
  repeat' (first|refine qZa ?_|(refine qZf ?_;try simp only[z06,z01])|(refine qZb ?_;simp (config:=qZc) (disch:=first|omega|rfl) only[sB,Za,reduceCtorEq,z6k,z0l])|(refine qZd ?_ ?_;simp (config:=qZc) (disch:=first|omega|rfl) only[sB,Za,reduceCtorEq];refine z02 ?_))
  refine z1r rfl (by simp only[sB,Za,reduceCtorEq];rfl) (by simp only[sG,Za,reduceCtorEq]) ⟨⟨_,rfl,?_⟩,hx0.trans hx14⟩;rw[<-hvm];rfl
 ·have hnz:=zh4 (B:=4294967296) (by omega) (fun h=>h0 (by rw[h];rfl)) hlast;rw[hvm] at hnz
  repeat' (first|refine qZa ?_|refine qZg ?_|(refine qZe ?_;try simp only[z00])|(refine qZb ?_;simp (config:=qZc) (disch:=first|omega|rfl) only[sB,Za,reduceCtorEq,z6k,z0g])|(refine qZm ?_ ?_;simp (config:=qZc) (disch:=first|omega|rfl) only[sB,Za,reduceCtorEq];refine z02 ?_))
  refine qZk (fun k st=>∃tm M od v6 v7 Hc,st=⟨tm,[],Hc⟩/\k=valB 4294967296 M/\(∀y∈M,y < 4294967296)/\M.length<=4096/\M.getLast?≠some 0/\decR n=od++decR (valB 4294967296 M)/\(M≠[]->valB 4294967296 M*10 ^ od.length<=n)/\od.length<=4096 /\
    (∀y∈od,y < 10)/\HX H3 Hc/\RepO Hc 156 1 H3.next (M.map fun x=>[u32V x]) v6/\RepO Hc 5 1 H3.next (od.map fun x=>[u8V (48+x)]) v7/\tm.get 1=some (.int .i64 10)/\tm.get 2=some (.pointer (some ⟨H.next,0,none⟩))/\tm.get 6=some v6/\tm.get 7=some v7) ?_ (valB 4294967296 M0) _ ?_
  ·rintro k st ⟨tm,M,od,v6,v7,Hc,rfl,rfl,hMb,hMl,hMn,hdec,hle,hol,hod,hxc,hr6,hr7,g1,g2,g6,g7⟩;by_cases hM0:M=[]
   ·subst hM0;obtain⟨a6,c6,rfl,-,-⟩:=hr6.slice;rw[Zp] at g6;have hlbc:=hxc.load hx13.wf hlb2;have hdec':decR n=od:=by rw[hdec];simp [valB,zlk]
    repeat' (first|refine qZa ?_|(refine qZi ?_;try simp only[sB])|(refine qZb ?_;simp (config:=qZc) (disch:=first|omega|rfl) only[sB,Za,z6k,zs5,ld4,g2,g6,hlbc,decide_eq_false])|(refine qZm ?_ ?_;simp (config:=qZc) (disch:=first|omega|rfl) only[sB,Za];refine z02 ?_))
    refine EvC.join (fun st=>∃tm o v Hd,st=⟨tm,[],Hd⟩/\o=(od.map fun x=>48+x)++(if neg then [45] else [])/\HX H3 Hd/\RepO Hd 5 1 H3.next (o.map fun x=>[u8V x]) v/\tm.get 7=some v) ?_ ?_
    ·cases neg with
     |true =>
      obtain⟨H5,v5,hap,hr7b,-,hx5,-⟩:=hr7.push zu7 (y:=[u8V 45]) rfl rfl (by simp [most];omega) hxc.next;have h45:u8V 45=.int .u8 45:=rfl;rw[h45] at hap;refine qZd (by simp only[sB,Za]) ?_
      repeat' (first|(refine qZb ?_;simp (config:=qZc) (disch:=first|omega|rfl) only[sB,Za,Value.cells,one,layC,zlg,g7,hap]))
      refine⟨_,_,_,_,rfl,rfl,hx5 _ hxc (Ze _),?_,(by simp only[sB,Za];rfl)⟩
      first|(rw[ZI,List.map_map];exact hr7b)|(simp only[if_true,ZI,List.map_map];exact hr7b)
     |false =>
      refine qZm (by simp only[sB,Za]) ?_
      repeat' (first|(refine qZe ?_;try simp only[sB,reduceCtorEq]))
      exact⟨_,_,_,_,rfl,rfl,hxc,by first|(rw[List.append_nil,List.map_map];exact hr7)|(simp only[Zg,if_false,List.append_nil,List.map_map];exact hr7),(by simp only[sG,Za,g7])⟩
    clear g1 g2 g6 g7 hr7 hr6 hxc hlbc tm;rintro st ⟨tm,o,v,Hd,rfl,ho',hxc,hr7,g7⟩;have hob:∀y∈o,y < 256:=by
     intro y hy;rw[ho'] at hy;rcases List.mem_append.1 hy with h|h
     ·obtain⟨x,hx,rfl⟩:=List.mem_map.1 h;have:=hod x hx;omega
     ·cases neg<;>simp at h
      omega
    have hon:0 < o.length:=by
     have:od≠[]:=by rw[<-hdec',zh1 hnz];simp
     rw[ho',Zr,Zp];have:=List.length_pos_iff.2 this;omega
    have hol2:o.length<=4097:=by
     rw[ho',Zr,Zp];cases neg<;>simp<;>omega
    have htx:textD neg n=o.reverse:=by
     unfold textD;rw[if_neg hnz,hdec',ho']
    obtain⟨b7,c7,ho7,rfl⟩:=hr7.own (by intro h;rw[List.map_eq_nil_iff] at h;rw[h] at hon;simp at hon);rw[Zp] at g7
    repeat' (first|refine qZa ?_|refine qZg ?_|(refine qZb ?_;simp (config:=qZc) (disch:=first|omega|rfl) only[sB,Za,zvk,g7,z0c]))
    refine qZk (fun k st=>∃(tm:Tr Value) (S:List Nat) (i:Nat) (He:Heap),st=⟨tm,[],He⟩/\k=o.length - i/\2*i<=o.length/\S.length=o.length/\(∀j,j < o.length->S[j]?=if j < i\/o.length - i<=j then o[o.length - 1 - j]? else o[j]?)/\HX H3 He /\
     OwnS He 5 1 H3.next (S.map fun x=>[u8V x]) b7 c7/\tm.get 7=some (.slice (some ⟨b7,0,none⟩) o.length c7)/\tm.get 10=some (.int .i64 (i:Nat))/\tm.get 11=some (.int .i64 ((o.length:Int) - 1 - (i:Int)))) ?_ o.length _ ?_
    ·clear g7 ho7 hr7 hxc tm;rintro k0 st ⟨tm,S,i,He,rfl,hk0,hi2,hSl,hS,hxc,ho7,g7,g10,g11⟩;by_cases hlt:2*i+1 < o.length
     ·obtain⟨k,hk⟩:∃k,k=o.length - 1 - i:=⟨_,rfl⟩
      have e1:((o.length:Int) - 1 - (i:Int))=(k:Int):=by omega
      rw[e1] at g11;have hxi:S[i]?=some S[i]:=Zc (by omega);have hxk:S[k]?=some S[k]:=Zc (by omega);generalize S[i]=x at hxi;generalize S[k]=y at hxk;have hldi:=ho7.load (i:=i) (x:=[u8V x]) (by rw[Zw,hxi];rfl);have hldk:=ho7.load (i:=k) (x:=[u8V y]) (by rw[Zw,hxk];rfl);rw[Nat.mul_one] at hldi hldk;unfold u8V at hldi hldk;obtain⟨cs,hgb,hcl,_⟩:=ho7.row;rw[Zp,hSl,Nat.mul_one] at hcl;have hk1:i+1<=cs.length:=by omega
      have hk2:k+1<=(Hb.splice cs i [Value.int .u8 (y:Int)]).length:=by rw[z28 (by simp;omega)];omega
      repeat' (first|refine qZa ?_|refine qZg ?_|(refine qZe ?_;try simp only[z00])|(refine qZb ?_;simp (config:=qZc) (disch:=first|omega|rfl) only[sB,Za,g10,g11,decide_eq_true,z0c])|(refine qZj [([(0,0),(1,0),(4,0),(5,0),(6,0),(7,0),(8,0),(9,0),(10,0),(11,0),(12,0)],some 13),([(2,0),(3,0),(14,1)],some 15),([],none)] ?_ ?_;kernel_rfl;simp (config:=qZc) (disch:=first|omega|rfl) only[sD,sB,Za,Zb,one,reduceCtorEq,zvl,ld5,st5,g7,g10,g11,hldi,hldk,hgb,hk1,hk2,isAlloc,isRead])|(refine qZd ?_ ?_;simp (config:=qZc) (disch:=first|omega|rfl) only[sB,Za];refine z02 ?_))
      have hb1:OwnS (⟨He.next+16,He.t⟩:Heap) 5 1 H3.next (S.map fun x=>[u8V x]) b7 c7:=ho7.heap rfl (Nat.le_add_right _ _);have hb2:=hb1.set (cs:=cs) hgb (i:=i) (y:=[u8V y]) (by simp;omega) rfl rfl;have hb3:=hb2.set z8n (i:=k) (y:=[u8V x]) (by simp;omega) rfl rfl;rw[Nat.mul_one,Nat.mul_one] at hb3;have hoi:o[i]?=some x:=by rw[<-hxi,hS i (by omega),if_neg (by omega)]
      have hok:o[k]?=some y:=by rw[<-hxk,hS k (by omega),if_neg (by omega)]
      have hmap:(((S.map fun x=>[u8V x]).set i [u8V y]).set k [u8V x])=((S.set i y).set k x).map fun x=>[u8V x]:=by simp [List.map_set]
      rw[hmap] at hb3;refine⟨o.length - (i+1),by omega,_,(S.set i y).set k x,i+1,_,rfl,rfl,by omega,by simp [hSl],fun j hj=>?_,((hxc.bump 16).put (i:=b7) ho7.lo (Zi ho7.hi (Nat.le_add_right _ _)) _).put (i:=b7) ho7.lo (Zi ho7.hi (Nat.le_add_right _ _)) _,hb3,(by simp only[sG,Za,g7]),(by simp only[sB,Za];rfl),by simp only[sB,Za];first|done|(congr 1;omega)⟩;by_cases hjk:j=k
      ·rw[hjk,List.getElem?_set_self (by simp;omega),if_pos (by omega),<-hoi]
       first|done|(congr 1;done)|(congr 1;omega)
      ·rw[List.getElem?_set_ne (by omega)];by_cases hji:j=i
       ·rw[hji,List.getElem?_set_self (by omega),if_pos (by omega),<-hok]
        first|done|(congr 1;done)|(congr 1;omega)
       ·rw[List.getElem?_set_ne (by omega),hS j hj];by_cases hc:j < i\/o.length - i<=j
        ·rw[if_pos hc,if_pos (by omega)]
        ·rw[if_neg hc,if_neg (by omega)]
     ·have hrev:S=o.reverse:=by
       apply List.ext_getElem?;intro j;by_cases hj:j < o.length
       ·rw[hS j hj,List.getElem?_reverse hj];split
        ·rfl
        ·congr 1;omega
       ·rw[Zy (by omega),Zy (by simp;omega)]
      have hrd:RdS He (S.map u8V) (some ⟨b7,0,none⟩) c7:=OwnS.rds (by rw[List.map_map];exact ho7);obtain⟨b8,o8,h8,hload⟩:=hrd.all (by intro h;rw[List.map_eq_nil_iff] at h;rw[h] at hSl;simp at hSl;omega);cases h8;rw[Zp,hSl] at hload;obtain⟨t,hdb,ht⟩:=zj0 (c:=c7) (l:=S) hload (by omega);have hcon:=ziz (P:=Tryz.prog) (src:=161) (dst:=9) (e:=5) (by kernel_rfl) (by kernel_rfl) (by kernel_rfl) hdb
      repeat' (first|refine qZa ?_|(refine qZi ?_;try simp only[sB])|(refine qZf ?_)|(refine qZb ?_;simp (config:=qZc) (disch:=first|omega|rfl) only[sB,Za,g7,g10,g11,hcon,decide_eq_false])|(refine qZm ?_ ?_;simp (config:=qZc) (disch:=first|omega|rfl) only[sB,Za];refine z02 ?_))
      refine z1r rfl (by simp only[sG,Za]) (by simp only[sG,Za]) ⟨⟨t,rfl,?_⟩,(hx0.trans hx13).trans hxc⟩;unfold bl;rw[ht,List.map_map,htx,<-hrev];have:∀l:List Nat,(∀y∈l,y < 256)->l.map (UInt8.toNat ∘ UInt8.ofNat)=l:=by
       intro l hl
       conv=>rhs;rw[<-List.map_id l]
       apply List.map_congr_left;intro y hy;have:=hl y hy;simp [UInt8.toNat_ofNat];omega
      exact this S fun y hy=>hob y (by rw[hrev] at hy;exact List.mem_reverse.1 hy)
    ·refine⟨_,o,0,_,rfl,rfl,by omega,rfl,fun j hj=>?_,hxc,ho7,(by simp only[sG,Za,g7]),(by simp only[sB,Za];rfl),by simp only[sB,Za];congr 1;omega⟩;rw[if_neg (by omega)]
   ·have hM1:0 < M.length:=List.length_pos_iff.2 hM0;have hvM:=zh4 (B:=4294967296) (by omega) hM0 hMn;obtain⟨b6,c6,ho6,rfl⟩:=hr6.own (by simpa using hM0);rw[Zp] at g6
    repeat' (first|refine qZa ?_|refine qZg ?_|(refine qZe ?_;try simp only[z00])|(refine qZb ?_;simp (config:=qZc) (disch:=first|omega|rfl) only[sB,Za,z6k,g6,decide_eq_true,z0c])|(refine qZd ?_ ?_;simp (config:=qZc) (disch:=first|omega|rfl) only[sB,Za];refine z02 ?_))
    refine qZk (fun k st=>∃tm q r Hd,st=⟨tm,[],Hd⟩/\k<=M.length/\q.length=M.length - k/\(∀y∈q,y < 4294967296)/\r < 10/\valB 4294967296 (M.take k)+4294967296 ^ k*(10*valB 4294967296 q+r)=valB 4294967296 M/\HX H3 Hd /\
     OwnS Hd 156 1 H3.next ((M.take k++q).map fun x=>[u32V x]) b6 c6/\RepO Hd 5 1 H3.next (od.map fun x=>[u8V (48+x)]) v7/\tm.get 1=some (.int .i64 10)/\tm.get 2=some (.pointer (some ⟨H.next,0,none⟩)) /\
     tm.get 6=some (.slice (some ⟨b6,0,none⟩) M.length c6)/\tm.get 7=some v7/\tm.get 8=some (.int .u32 (r:Nat))/\tm.get 9=some (.int .i64 ((k:Int) - 1))) ?_ M.length _ ?_
    ·clear g1 g2 g6 g7 hxc hr6 hr7 ho6 tm;rintro k st ⟨tm,q,r,Hd,rfl,hk,hq,hqb,hr,hinv,hxc,ho6,hr7,g1,g2,g6,g7,g8,g9⟩;cases k with
     |zero =>
      rw[List.take_zero,List.nil_append] at ho6;simp only[List.take_zero,valB,Nat.pow_zero,Nat.one_mul,ZP] at hinv;have hqM:q.length=M.length:=by omega
      repeat' (first|refine qZa ?_|(refine qZi ?_;try simp only[sB,Za,reduceCtorEq])|(refine qZb ?_;simp (config:=qZc) (disch:=first|omega|rfl) only[sB,Za,cl98,g6,g9,decide_eq_false])|(refine qZm ?_ ?_;simp (config:=qZc) (disch:=first|omega|rfl) only[sB,Za];refine z02 ?_))
      have hrq:RdS Hd (q.map u32V) (some ⟨b6,0,none⟩) c6:=OwnS.rds (by rw[List.map_map];exact ho6);rw[<-hqM];refine(zbq (fun _ _=>rfl) (by decide) hrq).mono ?_;rintro v H' ⟨m,rfl,hm,hz,hn0,rfl⟩;have hmost:od.length+1<=most:=by
       have:=zaj (e:=mostBits) hvM (hle hM0) (by rw[<-zdf];exact hn);simp [mostBits] at this;simp [most];omega
      obtain⟨H5,v5,hap,hr7b,hn5,hx5,hk5⟩:=hr7.push zu7 (y:=[u8V (48+r)]) rfl rfl (by simpa using hmost) hxc.next;unfold u8V at hap
      repeat' (first|(refine qZb ?_;simp (config:=qZc) (disch:=first|omega|rfl) only[sB,Za,g7,g8]))
      rw[z38 us9 (show r < _ from by show _ < 36;omega),zsb (by decide) hr]
      repeat' (first|(refine z0q ?_;simp (config:=qZc) (disch:=first|omega|rfl) only[sB,Za,Value.cells,one,layC,zlg,hap]))
      have hvq:valB 4294967296 (q.take m)=valB 4294967296 q:=z8y hz;have hq10:valB 4294967296 q=valB 4294967296 M / 10:=by omega
      have hr10:r=valB 4294967296 M % 10:=by omega
      have hod2:((od++[r]).map fun x=>[u8V (48+x)])=(od.map fun x=>[u8V (48+x)])++[[u8V (48+r)]]:=by simp
      have ho7:RepO H5 156 1 H3.next ((q.take m).map fun x=>[u32V x]) (.slice (some ⟨b6,0,none⟩) m c6):=by
       have h1:=RepO.takeO ho6 m (by simpa using hm);rw[<-List.map_take] at h1;exact h1.beside hk5 (by omega) (by decide)
      refine⟨valB 4294967296 (q.take m),by rw[hvq];omega,_,q.take m,od++[r],_,_,_,rfl,rfl,fun y hy=>hqb y (List.mem_of_mem_take hy),by rw[Zo];omega,?_,?_,?_,?_,?_,hx5 _ hxc (Ze _),ho7,by rw[hod2];exact hr7b,(by simp only[sG,Za,g1]),(by simp only[sG,Za,g2]),(by simp only[sG,Za]),(by simp only[sG,Za])⟩
      ·rw[List.getLast?_eq_getElem?,Zo,Nat.min_eq_left hm];by_cases h0:m=0
       ·subst h0;simp
       ·rw[ZJ,if_pos (by omega)];exact hn0 h0
      ·rw[hdec,zh1 hvM,hvq,hq10,<-hr10];simp
      ·intro _;rw[hvq,Zr,List.length_singleton,Nat.pow_succ];have h1:=hle hM0;have h2:valB 4294967296 q*(10 ^ od.length*10)=(valB 4294967296 q*10)*10 ^ od.length:=by rw[Nat.mul_comm (10 ^ od.length) 10,Nat.mul_assoc]
       rw[h2];exact Zj (Nat.mul_le_mul_right _ (by omega)) h1
      ·have:=zaj (e:=mostBits) hvM (hle hM0) (by rw[<-zdf];exact hn);simp [mostBits] at this;simp;omega
      ·intro y hy;rcases List.mem_append.1 hy with h|h
       ·exact hod y h
       ·simp at h;omega
     |succ j =>
      have e0:(((j+1:Nat):Int) - 1)=(j:Int):=by omega
      rw[e0] at g9;have hx:M[j]?=some M[j]:=Zc (by omega);have hxb:M[j] < 4294967296:=hMb _ (Zu _);have htk:M.take (j+1)=M.take j++[M[j]]:=by rw[List.take_add_one,hx];rfl
      generalize M[j]=x at hx hxb htk;rw[htk] at hinv ho6;have hlj:(M.take j).length=j:=by rw[Zo];omega
      have hlm:(((M.take j++[x])++q).map fun x=>[u32V x]).length=M.length:=by simp;omega
      have hld:=ho6.load (i:=j) (x:=[u32V x]) (by rw[List.append_assoc,Zw,ZC (by omega),hlj];simp);rw[Nat.mul_one] at hld;unfold u32V at hld
      repeat' (first|refine qZa ?_|refine qZg ?_|(refine qZe ?_;try simp only[z00])|(refine qZb ?_;simp (config:=qZc) (disch:=first|omega|rfl) only[sB,Za,zj2,zle,zs4,cl99,g1,g6,g8,g9,hld,decide_eq_true,wrap_u32])|(refine qZd ?_ ?_;simp (config:=qZc) (disch:=first|omega|rfl) only[sB,Za];refine z02 ?_))
      refine(zop (fun _ _=>rfl) (by decide) hr hxb hxc.wf).mono ?_;rintro v H' ⟨rfl,hxd⟩;have ho6':=ho6.keep hxd;have hr7':=hr7.keep hxd;obtain⟨cs,hgb,hcl,_⟩:=ho6'.row;rw[hlm,Nat.mul_one] at hcl;have hk1:j+1<=cs.length:=by omega
      repeat' (first|(refine qZb ?_;simp (config:=qZc) (disch:=first|omega|rfl) only[sB,Za,g9,z0c])|(refine z0q ?_;simp (config:=qZc) (disch:=first|omega|rfl) only[sB,Za,one,zj2,zu5,hgb,hk1]))
      have hset:=ho6'.set hgb (i:=j) (y:=[u32V ((r*4294967296+x) / 10)]) (by rw[hlm];omega) rfl rfl;rw[Nat.mul_one] at hset;have hset2:(((M.take j++[x])++q).map fun x=>[u32V x]).set j [u32V ((r*4294967296+x) / 10)]=(M.take j++((r*4294967296+x) / 10 :: q)).map fun x=>[u32V x]:=by
       rw[List.append_assoc,ZI,List.set_append_right _ _ (by rw[Zp,hlj];exact Ze _),Zp,hlj,Nat.sub_self];simp
      rw[hset2] at hset;have hinv2:=zs8 (B:=4294967296) (x:=x) (r:=r) (low:=M.take j) (q:=q);rw[hlj] at hinv2;refine⟨j,by omega,_,(r*4294967296+x) / 10 :: q,(r*4294967296+x) % 10,_,rfl,by omega,by simp;omega,?_,by omega,by rw[<-hinv2];exact hinv,(hxc.trans hxd).put ho6'.lo ho6'.hi _,hset,hr7'.other hgb (by decide) _,(by simp only[sG,Za,g1]),(by simp only[sG,Za,g2]),(by simp only[sG,Za,g6]),(by simp only[sG,Za,g7]),(by simp only[sG,Za]),(by simp only[sG,Za])⟩;intro y hy;rcases List.mem_cons.1 hy with h|h
      ·rw[h];exact zom hxb hr
      ·exact hqb y h
    ·exact⟨_,[],0,_,rfl,Ze _,by simp,by simp,by omega,by simp [valB],hxc,by simpa using ho6,hr7,(by simp only[sG,Za,g1]),(by simp only[sG,Za,g2]),(by simp only[sG,Za,g6]),(by simp only[sG,Za,g7]),(by simp only[sB,Za];rfl),(by simp only[sG,Za])⟩
  ·exact⟨_,M0,[],.slice (some ⟨b,0,none⟩) M0.length c2,_,_,rfl,rfl,hLm,by omega,hlast,by rw[hvm];rfl,fun _=>by rw[hvm];simp,by simp,by simp,hx4,.inr ⟨b,c2,ho,by simp⟩,RepO.empty,(by simp only[sG,Za,reduceCtorEq]),(by simp only[sG,Za,reduceCtorEq]),(by simp only[sG,Za,reduceCtorEq]),(by simp only[sG,Za,reduceCtorEq])⟩
def bitsOK (L:List Nat):Prop:=(∀y∈L,y < 2)/\L.getLast?≠some 0
end Go.Proofs.hq
end

section
namespace Go.Proofs.hq
open Go Go.RowKit Go.Hb
theorem zqp:callable Tryz.prog 60=true:=by kernel_rfl
theorem zbr:isAgg? Tryz.prog 28=some true:=by kernel_rfl
theorem zor:isAgg? Tryz.prog 26=some false:=by kernel_rfl
theorem z49:Tryz.prog.cellsOf 28=6:=by kernel_rfl
theorem zh5:(Tryz.prog.info? 28).isSome=true:=by kernel_rfl
theorem z8z:fldOf Tryz.prog 28 5=some (5,26):=by kernel_rfl
theorem zlo:Zs (Tryz.prog.cellsOf 26) 0=false:=by kernel_rfl
theorem zqq:zerosOf Tryz.prog 28=some [.int .i64 0,.string Zd,.string Zd,.int .u64 0,.int .i64 0,.slice none 0 0]:=by kernel_rfl
mutual
def cnt:Tm->Nat->Nat
 |.mk _ _ _ _ _ l,n=>cntL l (n+1)
def cntL:List Tm->Nat->Nat
 |[],n=>n
 |t :: l,n=>if 4000 < n then n else cntL l (cnt t n)
end
theorem zh6 {t:Tm}{k:Int}{s u:ByteArray}{b v:Int}{l:List Tm}(h:t∈l):SizeOf.sizeOf t < SizeOf.sizeOf (Tm.mk k s u b v l):=by
 have:=List.sizeOf_lt_of_mem h;simp;omega
theorem z22 {t u:Tm}{i:Nat}(h:t.args[i]?=some u):SizeOf.sizeOf u < SizeOf.sizeOf t:=by
 obtain⟨k,s,w,b,v,l⟩:=t;exact zh6 (Zx h)
theorem z56 (t:Tm) (n:Nat):cnt t n=cntL t.args (n+1):=by
 obtain⟨k,s,w,b,v,l⟩:=t;rw[cnt];rfl
theorem zlp:∀(l:List Tm),(∀t∈l,∀n,n<=4000->cnt t n<=4001)->∀n,n<=4001->cntL l n<=4001
 |[],_,n,h=>by rw[cntL];exact h
 |t :: l,ht,n,h=>by
  rw[cntL];split
  ·exact h
  ·exact zlp l (fun u hu=>ht u (Zn _ hu)) _ (ht t (by simp) n (by omega))
theorem zh7:∀(m:Nat) (t:Tm),SizeOf.sizeOf t < m->∀n,n<=4000->cnt t n<=4001
 |0,t,h,_,_=>by omega
 |m+1,t,h,n,hn=>by
  rw[z56];refine zlp _ (fun u hu k hk=>zh7 m u ?_ k hk) _ (by omega);obtain⟨i,hi,e⟩:=ZO hu;have:=z22 (t:=t) (u:=u) (i:=i) (by rw[Zc hi,e]);omega
theorem zlq {l:List Tm}{i:Nat}{t:Tm}(h:l[i]?=some t) (n:Nat) (hn:n<=4000):cntL (l.drop i) n=cntL (l.drop (i+1)) (cnt t n):=by
 have hlt:=(List.getElem?_eq_some_iff.1 h).1;have he:l[i]=t:=(List.getElem?_eq_some_iff.1 h).2;rw[ZG hlt,cntL,if_neg (by omega),he]
theorem zlr {l:List Tm}{n:Nat}(hn:4000 < n):cntL l n=n:=by
 cases l with
 |nil=>rw[cntL]
 |cons t l=>rw[cntL,if_pos hn]
variable {ok:Ok}
set_option maxRecDepth 10000 in
theorem zos (hk:∀args H,ok.K 60 args H=none) (hm:ok.testBit 60=true):∀(m:Nat) {t:Tm}{cs:List Value}{H:Heap},SizeOf.sizeOf t < m->RepT H t cs->H.wf->∀n:Nat,n<=4000 ->
  EvF Tryz.prog ok 60 [.agg ⟨cs⟩,.int .i64 n] H fun v H'=>v=.int .i64 (cnt t n)/\HX H H':=by
 intro m
 induction m with
 |zero=>intro t cs H h;omega
 |succ m ih =>
 intro t cs H hsz r hw n hn;obtain⟨a,c,cells,rfl,b1,b2,b3,b4,b5,rl⟩:=r.inv;refine EvF.enter (hk _ _) Tryz.func60 hm rfl ?_;refine qZa (qZb ?_);simp (disch:=omega) only[sB,initTm,dBox,Value.cells,one,reduceCtorEq];refine qZa (qZb ?_);simp (disch:=omega) only[sB,Za,reduceCtorEq,z0c];refine qZa (qZa (qZb ?_));simp (disch:=omega) only[sB,Za,reduceCtorEq,cutC,z05 z8z zlo,z09 zor,z19 Tryz.underlying26];refine qZg (qZk (fun k st=>∃tm H' i n',st=⟨tm,[],H'⟩/\k=t.args.length - i/\i<=t.args.length/\n'<=4001/\cntL (t.args.drop i) n'=cnt t n/\tm.get 1=some (.int .i64 (n':Nat)) /\
  tm.get 10=some (.slice a t.args.length c)/\tm.get 11=some (.int .i64 t.args.length)/\tm.get 12=some (.int .i64 (i:Nat))/\HX H H') ?_ t.args.length _ ?_)
 ·rintro k st ⟨tm,H',i,n',rfl,hk',hi,hn',hc,g1,g10,g11,g12,hx⟩;refine qZa (qZb ?_);simp (disch:=omega) only[sA,g11,g12];refine qZa ?_;by_cases hlt:i < t.args.length
  ·refine qZd (by simp only[sB];exact congrArg _ (decide_eq_true (by omega))) (qZe ?_);obtain⟨b,o,rfl,hload,hrep⟩:=rl.at (i:=i) (Zc hlt);obtain⟨a',c',cells',hcell,-⟩:=hrep.inv;have hld:=hx.load hw hload;rw[hcell] at hld hrep;refine qZa (qZg (qZa (qZb ?_)));simp (disch:=omega) only[sB,dAlloc,Za,Zb,one,g10,g12,z2u Tryz.underlying26 zh5 hlt,z21 zbr,z49,hld,zqq,z73 zh5];refine qZa (qZa (qZb ?_));simp (disch:=omega) only[sB,Za,g1];have hx2:=(hx.new (some (Blk.row [Value.int IntKind.i64 0,Value.string Zd,Value.string Zd,Value.int IntKind.u64 0,Value.int IntKind.i64 0,Value.slice none 0 0] 28))).put (i:=H'.next) hx.next (Zf _)
    (some (.row [Value.int IntKind.i64 t.args[i].kind,Value.string t.args[i].name,Value.string t.args[i].num,Value.int IntKind.u64 t.args[i].bits,Value.int IntKind.i64 t.args[i].var,Value.slice a' t.args[i].args.length c'] 28))
   by_cases hov:4000 < n'
   ·refine qZd (by simp only[sB,Za];exact congrArg _ (decide_eq_true (by omega))) (qZi ?_);simp only[z50,z3c,reduceIte,Za,z00];refine qZa (qZb ?_);simp (disch:=omega) only[sB,Za,g1];refine qZf (z03 rfl (by simp only[sG,Za];rfl) ⟨?_,hx2⟩);rw[<-hc,zlr hov]
   ·refine qZm (by simp only[sB,Za];exact congrArg _ (decide_eq_false (by omega))) (qZe ?_);simp only[z00];refine qZb ?_;simp (disch:=omega) only[sB,Za,Zb,cutC,g1,z21 zbr,z49,z08 zqp];have ht:t.args[i]?=some t.args[i]:=Zc hlt;have hs:=z22 ht;have hx1:HX H H':=hx;refine(ih (t:=t.args[i]) (by omega) (hrep.mono hx2 hw) hx2.wf n' (by omega)).mono ?_;rintro v H2 ⟨rfl,hx3⟩;have hL:t.args.length<=9223372036854775807:=Zj rl.len rl.cap;refine qZb ?_;simp (disch:=omega) only[sB,Za,g12,z0c];refine⟨t.args.length - (i+1),by omega,_,_,i+1,cnt t.args[i] n',rfl,rfl,by omega,zh7 _ _ (Zf _) _ (by omega),by rw[<-hc,zlq ht _ (by omega)],by simp only[sG,Za],by simp only[sG,Za];exact g10,by simp only[sG,Za];exact g11,by simp only[sG,Za];rfl,hx2.trans hx3⟩
  ·refine qZm (by simp only[sB];exact congrArg _ (decide_eq_false (by omega))) (qZi ?_);simp only[z50,z3c,reduceIte,Za,z00];refine qZa (qZb ?_);simp (disch:=omega) only[sB,Za,g1];refine qZf (z03 rfl (by simp only[sG,Za];rfl) ⟨?_,hx⟩);rw[<-hc,List.drop_of_length_le (by omega),cntL]
 ·exact⟨_,_,0,n+1,rfl,rfl,by omega,by omega,by rw[z56];rfl,by simp only[sG,Za,reduceCtorEq];rfl,by simp only[sG,Za,reduceCtorEq],by simp only[sG,Za,reduceCtorEq],by simp only[sG,Za,reduceCtorEq];rfl,(HX.refl hw).new _⟩
end Go.Proofs.hq
end

section
namespace Go.Proofs.hq
open Go Go.RowKit Go.Hb
theorem zuf:callable Tryz.prog 33=true:=by kernel_rfl
variable {ok:Ok}
theorem zot (hk:∀f args H,(f=60\/f=33)->ok.K f args H=none) (hm:ok.testBit 60=true) (hm2:ok.testBit 33=true) {t:Tm}{cs:List Value}{H:Heap}(r:RepT H t cs) (hw:H.wf) :
  EvF Tryz.prog ok 33 [.agg ⟨cs⟩] H fun v H'=>v=.int .i64 (cnt t 0)/\HX H H':=by
 obtain⟨a,c,cells,rfl,b1,b2,b3,b4,b5,rl⟩:=r.inv;refine EvF.enter (hk _ _ _ (.inr rfl)) Tryz.func33 hm2 rfl ?_;(repeat refine qZa ?_);refine qZb ?_;simp (disch:=omega) only[sB,initTm,dBox,Value.cells,one];(repeat refine qZa ?_);refine qZb ?_;simp (disch:=omega) only[sB,Za,Zb,reduceCtorEq,cutC,z21 zbr,z49,z08 zqp];have hx:=(HX.refl hw).new (some (Blk.row [Value.int IntKind.i64 t.kind,Value.string t.name,Value.string t.num,Value.int IntKind.u64 t.bits,Value.int IntKind.i64 t.var,Value.slice a t.args.length c] 28));refine(zos (hk 60 · · (.inl rfl)) hm _ (Zf _) (r.mono hx hw) hx.wf 0 (by omega)).mono ?_;rintro v H2 ⟨rfl,hx3⟩;have hle:=zh7 _ t (Zf _) 0 (by omega);have hif:(if (4001:Int) < (cnt t 0:Int) then (4001:Int) else (cnt t 0:Int))=(cnt t 0:Int):=if_neg (by omega);simp (disch:=omega) only[sB,Za,reduceCtorEq,zrt,zru,hif];exact qZf (z03 rfl (by simp only[sG,Za,reduceCtorEq]) ⟨rfl,hx.trans hx3⟩)
end Go.Proofs.hq
end

section
namespace Go.Proofs.hq
open Go Go.RowKit Go.Hb
theorem z3m:fldOf Tryz.prog 28 0=some (0,3):=by kernel_rfl
theorem z3n:fldOf Tryz.prog 28 1=some (1,9):=by kernel_rfl
theorem z76:fldOf Tryz.prog 28 2=some (2,9):=by kernel_rfl
theorem z5v:fldOf Tryz.prog 28 3=some (3,25):=by kernel_rfl
theorem z90:fldOf Tryz.prog 28 4=some (4,3):=by kernel_rfl
theorem one3:Zs (Tryz.prog.cellsOf 3) 0=false:=by kernel_rfl
theorem one9:Zs (Tryz.prog.cellsOf 9) 0=false:=by kernel_rfl
theorem zfa:Zs (Tryz.prog.cellsOf 25) 0=false:=by kernel_rfl
theorem zak:Tryz.prog.cellsOf 3=1:=by kernel_rfl
theorem zh8:Tryz.prog.cellsOf 9=1:=by kernel_rfl
theorem zsd:Tryz.prog.cellsOf 25=1:=by kernel_rfl
theorem zse:Tryz.prog.cellsOf 26=1:=by kernel_rfl
theorem agg3:isAgg? Tryz.prog 3=some false:=by kernel_rfl
theorem agg9:isAgg? Tryz.prog 9=some false:=by kernel_rfl
theorem zj5:isAgg? Tryz.prog 25=some false:=by kernel_rfl
theorem zvp:(Tryz.prog.info? 3).isSome=true:=by kernel_rfl
theorem zsf:(Tryz.prog.info? 9).isSome=true:=by kernel_rfl
theorem zug:(Tryz.prog.info? 25).isSome=true:=by kernel_rfl
theorem zuh:(Tryz.prog.info? 26).isSome=true:=by kernel_rfl
theorem z1w:ByteArray.toList { data:=#[] }=[]:=by
 rw[ByteArray.toList,ByteArray.toList.loop];rfl
def isE (s:ByteArray):Bool:=s.toList == []
def blankB (t:Tm):Bool :=
 (t.kind == 2 || t.kind == 5 || isE t.name) && (t.kind == 3 || isE t.num) && (t.kind == 4 || t.bits == 0) && (t.kind == 1 || t.var == 0) && (t.kind == 5 || (t.args.length:Int) == 0)
variable {ok:Ok}
set_option maxRecDepth 10000 in
set_option maxHeartbeats 2000000 in
theorem zou (hk:∀args H,ok.K 79 args H=none) (hm:ok.testBit 79=true) {t:Tm}{cs:List Value}{H:Heap}(r:RepT H t cs) (hw:H.wf) :
  EvF Tryz.prog ok 79 [.agg ⟨cs⟩] H fun v H'=>v=.bool (blankB t)/\HX H H':=by
 obtain⟨a,c,cells,rfl,b1,b2,b3,b4,b5,rl⟩:=r.inv;refine EvF.enter (hk _ _) Tryz.func79 hm rfl ?_;(repeat refine qZa ?_);refine qZb ?_;simp (disch:=omega) only[sB,initTm,dBox,Value.cells,one];(repeat refine qZa ?_);refine qZb ?_;simp (disch:=omega) only[sB,Za,reduceCtorEq,cutC,z05 z3m one3,z09 agg3];refine EvC.meet (fun st=>∃tm H' nm nu b v a n c,st=⟨tm,[],H'⟩/\tm.get 1=some (.pointer (some ⟨H.next,0,none⟩))/\H'.get H.next=some (.row [.int .i64 t.kind,.string nm,.string nu,.int .u64 b,.int .i64 v,.slice a n c] 28) /\
  HX H H'/\(isE nm && isE nu && b == 0 && v == 0 && (n:Int) == 0)=blankB t) ?_ ?_
 ·refine qZg ?_;have hx0:=(HX.refl hw).new (some (Blk.row [Value.int IntKind.i64 t.kind,Value.string t.name,Value.string t.num,Value.int IntKind.u64 t.bits,Value.int IntKind.i64 t.var,Value.slice a t.args.length c] 28));have hxp:∀B,HX H ((H.new (some (Blk.row [Value.int IntKind.i64 t.kind,Value.string t.name,Value.string t.num,Value.int IntKind.u64 t.bits,Value.int IntKind.i64 t.var,Value.slice a t.args.length c] 28))).put H.next B):=fun B=>hx0.put (Ze _) (Zf _) B
  (repeat refine qZa ?_);refine qZb ?_;simp (disch:=omega) only[sB,Za,reduceCtorEq];by_cases k1:t.kind=1
  ·refine qZd (by simp only[sB,Za,reduceCtorEq];rw[k1];rfl) ?_;refine qZb ?_;simp (disch:=omega) only[sB,Za,Zb,one,reduceCtorEq,Zq,z05 z90 one3,z3u zvp zak];exact⟨_,_,t.name,t.num,t.bits,0,a,t.args.length,c,rfl,by simp only[sG,Za,reduceCtorEq],by simp only[sB],hxp _,by simp [blankB,k1]⟩
  refine qZm (by simp only[sB,Za,reduceCtorEq];rw[show (t.kind == 1)=false by simpa using k1]) ?_;(repeat refine qZa ?_);refine qZb ?_;simp (disch:=omega) only[sB,Za,reduceCtorEq];by_cases k2:t.kind=2
  ·refine qZd (by simp only[sB,Za,reduceCtorEq];rw[k2];rfl) ?_;refine qZb ?_;simp (disch:=omega) only[sB,Za,Zb,one,reduceCtorEq,Zq,z05 z3n one9,z44 zsf zh8];exact⟨_,_,Zd,t.num,t.bits,t.var,a,t.args.length,c,rfl,by simp only[sG,Za,reduceCtorEq],by simp only[sB];rfl,hxp _,by simp [blankB,k2,isE]⟩
  refine qZm (by simp only[sB,Za,reduceCtorEq];rw[show (t.kind == 2)=false by simpa using k2]) ?_;(repeat refine qZa ?_);refine qZb ?_;simp (disch:=omega) only[sB,Za,reduceCtorEq];by_cases k3:t.kind=3
  ·refine qZd (by simp only[sB,Za,reduceCtorEq];rw[k3];rfl) ?_;refine qZb ?_;simp (disch:=omega) only[sB,Za,Zb,one,reduceCtorEq,Zq,z05 z76 one9,z44 zsf zh8];exact⟨_,_,t.name,Zd,t.bits,t.var,a,t.args.length,c,rfl,by simp only[sG,Za,reduceCtorEq],by simp only[sB];rfl,hxp _,by simp [blankB,k3,isE]⟩
  refine qZm (by simp only[sB,Za,reduceCtorEq];rw[show (t.kind == 3)=false by simpa using k3]) ?_;(repeat refine qZa ?_);refine qZb ?_;simp (disch:=omega) only[sB,Za,reduceCtorEq];by_cases k4:t.kind=4
  ·refine qZd (by simp only[sB,Za,reduceCtorEq];rw[k4];rfl) ?_;refine qZb ?_;simp (disch:=omega) only[sB,Za,Zb,one,reduceCtorEq,Zq,z05 z5v zfa,z3u zug zsd];exact⟨_,_,t.name,t.num,0,t.var,a,t.args.length,c,rfl,by simp only[sG,Za,reduceCtorEq],by simp only[sB],hxp _,by simp [blankB,k4]⟩
  refine qZm (by simp only[sB,Za,reduceCtorEq];rw[show (t.kind == 4)=false by simpa using k4]) ?_;(repeat refine qZa ?_);refine qZb ?_;simp (disch:=omega) only[sB,Za,reduceCtorEq];by_cases k5:t.kind=5
  ·refine qZd (by simp only[sB,Za,reduceCtorEq];rw[k5];rfl) ?_;refine qZb ?_;simp (disch:=omega) only[sB,Za,Zb,one,reduceCtorEq,Zq,z05 z3n one9,z05 z8z zlo,z44 zsf zh8,z1i zuh zse];exact⟨_,_,Zd,t.num,t.bits,t.var,none,0,0,rfl,by simp only[sG,Za,reduceCtorEq],by simp only[sB];rfl,(hxp _).put (Ze _) (Zf _) _,by simp [blankB,k5,isE]⟩
  refine qZm (by simp only[sB,Za,reduceCtorEq];rw[show (t.kind == 5)=false by simpa using k5]) (qZe ?_);exact⟨rfl,_,_,t.name,t.num,t.bits,t.var,a,t.args.length,c,rfl,by simp only[sG,Za,reduceCtorEq],by simp only[if_true,get_new],hx0,by simp [blankB,show (t.kind == 1)=false by simpa using k1,show (t.kind == 2)=false by simpa using k2,show (t.kind == 3)=false by simpa using k3,show (t.kind == 4)=false by simpa using k4,show (t.kind == 5)=false by simpa using k5]⟩
 ·rintro st ⟨tm,H',nm,nu,b,v,a,n,c,rfl,g1,hrow,hx,hres⟩;simp only[z00];have l1:H'.load ⟨H.next,1,none⟩ 1=some [.string nm]:=by simp only[Heap.load,Heap.cells,hrow];rfl
  have l2:H'.load ⟨H.next,2,none⟩ 1=some [.string nu]:=by simp only[Heap.load,Heap.cells,hrow];rfl
  have l3:H'.load ⟨H.next,3,none⟩ 1=some [.int .u64 b]:=by simp only[Heap.load,Heap.cells,hrow];rfl
  have l4:H'.load ⟨H.next,4,none⟩ 1=some [.int .i64 v]:=by simp only[Heap.load,Heap.cells,hrow];rfl
  have l5:H'.load ⟨H.next,5,none⟩ 1=some [.slice a n c]:=by simp only[Heap.load,Heap.cells,hrow];rfl
  (repeat refine qZa ?_);refine qZb ?_;unfold isE at hres;cases h1:(nm.toList == []) with
  |false =>
   simp (disch:=omega) only[sB,Za,z0z,g1,z05 z3n one9,z09 agg9,l1,z1w,h1,Zg];exact qZf (z03 rfl (by simp only[sG,Za];rfl) ⟨by rw[<-hres,h1];rfl,hx⟩)
  |true =>
  cases h2:(nu.toList == []) with
  |false =>
   simp (disch:=omega) only[sB,Za,z0z,g1,z05 z3n one9,z05 z76 one9,z09 agg9,l1,l2,z1w,Zg,h1,h2];exact qZf (z03 rfl (by simp only[sG,Za];rfl) ⟨by rw[<-hres,h1,h2];rfl,hx⟩)
  |true =>
  cases h3:(b == 0) with
  |false =>
   simp (disch:=omega) only[sB,Za,z0z,g1,z05 z3n one9,z05 z76 one9,z05 z5v zfa,z09 agg9,z09 zj5,l1,l2,l3,z1w,Zg,h1,h2,h3];exact qZf (z03 rfl (by simp only[sG,Za];rfl) ⟨by rw[<-hres,h1,h2,h3];rfl,hx⟩)
  |true =>
  cases h4:(v == 0) with
  |false =>
   simp (disch:=omega) only[sB,Za,z0z,g1,z05 z3n one9,z05 z76 one9,z05 z5v zfa,z05 z90 one3,z09 agg9,z09 agg3,z09 zj5,l1,l2,l3,l4,z1w,Zg,h1,h2,h3,h4];exact qZf (z03 rfl (by simp only[sG,Za];rfl) ⟨by rw[<-hres,h1,h2,h3,h4];rfl,hx⟩)
  |true =>
   simp (disch:=omega) only[sB,Za,z0z,g1,z05 z3n one9,z05 z76 one9,z05 z5v zfa,z05 z90 one3,z05 z8z zlo,z09 agg9,z09 agg3,z09 zj5,z09 zor,l1,l2,l3,l4,l5,z1w,z19 Tryz.underlying26,h1,h2,h3,h4];exact qZf (z03 rfl (by simp only[sG,Za];rfl) ⟨by rw[<-hres,h1,h2,h3,h4];rfl,hx⟩)
end Go.Proofs.hq
end

section
namespace Go.Proofs.hq
open Go Go.RowKit Go.Hb
def nodeE (utf num:ByteArray->Bool) (flt:Int->Bool) (t:Tm):Int :=
 if t.kind < 1\/5 < t.kind then 20 else if blankB t=false then 20 else if t.var < 0 then 20 else if t.kind=5/\(t.args.length=0\/64 < t.args.length) then 20
 else if utf t.name=false then 21 else if 1000 < t.name.size then 21 else if t.kind=3/\num t.num=false then 22 else if t.kind=4/\flt t.bits=false then 23 else 0
def bndB (t:Tm):Bool:=decide (t.var < 0) || (t.kind == 5 && ((t.args.length:Int) == 0 || decide ((t.args.length:Int) > 64)))
theorem zdi {utf num:ByteArray->Bool}{flt:Int->Bool}{t:Tm}(h1:¬(t.kind < 1\/5 < t.kind)) (h2:blankB t=true) (h3:bndB t=true):nodeE utf num flt t=20:=by
 rw[nodeE,if_neg h1,if_neg (by rw[h2];simp)];unfold bndB at h3;simp only[Bool.or_eq_true,Zk,beq_iff_eq,decide_eq_true_eq] at h3;by_cases hv:t.var < 0
 ·rw[if_pos hv]
 ·rw[if_neg hv,if_pos];rcases h3 with h|⟨h,h'|h'⟩
  ·exact absurd h hv
  ·exact⟨h,.inl (by omega)⟩
  ·exact⟨h,.inr (by omega)⟩
theorem zj6 {utf num:ByteArray->Bool}{flt:Int->Bool}{t:Tm}(h1:¬(t.kind < 1\/5 < t.kind)) (h2:blankB t=true) (h3:bndB t=false) :
  nodeE utf num flt t=if utf t.name=false then 21 else if 1000 < t.name.size then 21 else if t.kind=3/\num t.num=false then 22 else if t.kind=4/\flt t.bits=false then 23 else 0:=by
 rw[nodeE,if_neg h1,if_neg (by rw[h2];simp)];unfold bndB at h3;simp only[Bool.or_eq_false_iff,Bool.and_eq_false_iff,beq_eq_false_iff_ne,decide_eq_false_iff_not] at h3;rw[if_neg h3.1,if_neg (fun h=>by rcases h3.2 with h'|h'<;>first|exact h' h.1|(have:=h.2;omega))]
theorem zsg:callable Tryz.prog 79=true:=by kernel_rfl
theorem zsh:callable Tryz.prog 80=true:=by kernel_rfl
theorem zsi:callable Tryz.prog 81=true:=by kernel_rfl
def TellsS (ok:Ok) (f:FuncId) (g:ByteArray->Bool):Prop:=∀(s:ByteArray) (H:Heap),s.size<=maxLen->H.wf->EvF Tryz.prog ok f [.string s] H fun v H'=>v=.bool (g s)/\HX H H'
def TellsU (ok:Ok) (f:FuncId) (g:Int->Bool):Prop:=∀(n:Int) (H:Heap),u64 n->H.wf->EvF Tryz.prog ok f [.int .u64 n] H fun v H'=>v=.bool (g n)/\HX H H'
variable {ok:Ok}
end Go.Proofs.hq
end

section
namespace Go.Proofs.hq
open Go Go.RowKit Go.Hb
def rho0 (n:Int):Operand->Value
 |.func f=>.func (.func f) #[] #[]
 |_=>.int .u64 n
theorem zdj (n:Int) (d:Option Tmp) (k:Tmp) (ats:Array TypeId) (ty:TypeId) (pos:String) (af:Array Edge) (g:Option (Nat × Bool)) :
  pureRun Tryz.prog (execOp (rho0 n) ⟨d,.call ⟨.value (.func 82),#[.tmp k],ats⟩,ty,pos,af,g⟩)=some (.value (.float .f64 n.toNat)):=by kernel_rfl
theorem zov (l:List Value):dcall1 Tryz.prog 82 l=none:=by
 unfold dcall1;rw[Tryz.func82];rfl
theorem z7o {d:Option Tmp}{k:Tmp}{ats:Array TypeId}{ty:TypeId}{pos:String}{af:Array Edge}{g:Option (Nat × Bool)}{tm:Tr Value}{H:Heap}{n:Int}(hv:tm.get k=some (.int .u64 n)) :
  dop Tryz.prog ⟨d,.call ⟨.value (.func 82),#[.tmp k],ats⟩,ty,pos,af,g⟩ (ev tm) H=some (.val (.float .f64 n.toNat) H):=by
 have hρ:∀y∈(⟨d,.call ⟨.value (.func 82),#[.tmp k],ats⟩,ty,pos,af,g⟩:Oper).op.operands,ev tm y=rho0 n y:=by
  intro y hy;simp [Op.operands,Call.operands] at hy;rcases hy with rfl|rfl
  ·rfl
  ·show (tm.get k).getD junk=_;rw[hv];rfl
 have e:dop Tryz.prog ⟨d,.call ⟨.value (.func 82),#[.tmp k],ats⟩,ty,pos,af,g⟩ (ev tm) H=dflat Tryz.prog ⟨d,.call ⟨.value (.func 82),#[.tmp k],ats⟩,ty,pos,af,g⟩ (ev tm) H:=by
  simp only[dop,ev,zov]
 have hf:allFlat (ev tm) (⟨d,.call ⟨.value (.func 82),#[.tmp k],ats⟩,ty,pos,af,g⟩:Oper)=true:=by
  unfold allFlat;rw[List.all_eq_true];intro y hy;rw[hρ y (Array.mem_toList_iff.1 hy)];simp [Op.operands,Call.operands] at hy;rcases hy with rfl|rfl<;>rfl
 rw[e];unfold dflat;rw[hf,execOp_congr _ (by intro cs b h;cases h) hρ,zdj];rfl
end Go.Proofs.hq
end

section
namespace Go.Proofs.hq
open Go Go.RowKit Go.Hb
def TellsN (ok:Ok) (f g h:FuncId) (fn fi:Int->Bool):Prop:=∀(n:Int) (H:Heap) , u64 n->H.wf->EvF Tryz.prog ok g [.float .f64 n.toNat] H (fun v H'=>v=.bool (fn n)/\HX H H')/\EvF Tryz.prog ok h [.float .f64 n.toNat,.int .i64 0] H (fun v H'=>v=.bool (fi n)/\HX H H')
theorem zsj:callable Tryz.prog 83=true:=by kernel_rfl
theorem zsk:callable Tryz.prog 84=true:=by kernel_rfl
variable {ok:Ok}
set_option maxRecDepth 10000 in
set_option maxHeartbeats 8000000 in
theorem zsl {utf num:ByteArray->Bool}{fn fi:Int->Bool}(hk:∀args H,ok.K 71 args H=none) (hm:ok.testBit 71=true) (hk2:∀args H,ok.K 79 args H=none) (hm2:ok.testBit 79=true)
  (hU:TellsS ok 80 utf) (hN:TellsS ok 81 num) (hF:TellsN ok 82 83 84 fn fi)
  {t:Tm}{cs:List Value}{H:Heap}(r:RepT H t cs) (hw:H.wf):EvF Tryz.prog ok 71 [.agg ⟨cs⟩] H fun v H'=>v=.int .i64 (nodeE utf num (fun n=>!(fn n || fi n || n == 9223372036854775808)) t)/\HX H H':=by
 have rr:=r;obtain⟨a,c,cells,rfl,b1,b2,b3,b4,b5,rl⟩:=r.inv;have hx:=(HX.refl hw).new (some (Blk.row [Value.int IntKind.i64 t.kind,Value.string t.name,Value.string t.num,Value.int IntKind.u64 t.bits,Value.int IntKind.i64 t.var,Value.slice a t.args.length c] 28));refine EvF.enter (hk _ _) Tryz.func71 hm rfl ?_;(repeat refine qZa ?_);refine qZb ?_;simp (config:=qZc) (disch:=first|omega|rfl) only[sB,initTm,dBox,Value.cells,one];(repeat refine qZa ?_);refine qZg ?_;refine qZa (qZb ?_);by_cases hno:t.kind < 1\/5 < t.kind
 ·have hlt:decide (t.kind < 1)=true\/(decide (t.kind < 1)=false/\decide (t.kind > 5)=true):=by
   by_cases h:t.kind < 1
   ·exact .inl (by simp [h])
   ·exact .inr ⟨by simp [h],by simp;omega⟩
  rcases hlt with h|⟨h,h'⟩
  ·(try simp (config:=qZc) (disch:=first|omega|rfl) only[sB,Za,reduceCtorEq,cutC,h,z05 z3m one3,z09 agg3]);refine qZd (by simp only[sB,Za,reduceCtorEq]) ?_
   (repeat refine qZa ?_);refine qZb ?_;simp (config:=qZc) (disch:=first|omega|rfl) only[sA];refine qZf ?_;(try simp (config:=qZc) (disch:=first|omega|rfl) only[sA]);exact z03 rfl (by simp only[sG,Za,reduceCtorEq];rfl) ⟨by rw[nodeE,if_pos hno],hx⟩
  ·(try simp (config:=qZc) (disch:=first|omega|rfl) only[sB,Za,reduceCtorEq,cutC,h,h',z05 z3m one3,z09 agg3,Zg]);refine qZd (by simp only[sB,Za,reduceCtorEq]) ?_
   (repeat refine qZa ?_);refine qZb ?_;simp (config:=qZc) (disch:=first|omega|rfl) only[sA];refine qZf ?_;(try simp (config:=qZc) (disch:=first|omega|rfl) only[sA]);exact z03 rfl (by simp only[sG,Za,reduceCtorEq];rfl) ⟨by rw[nodeE,if_pos hno],hx⟩
 have q1:decide (t.kind < 1)=false:=by simp;omega
 have q2:decide (t.kind > 5)=false:=by simp;omega
 (try simp (config:=qZc) (disch:=first|omega|rfl) only[sB,Za,Zb,reduceCtorEq,cutC,q1,q2,z05 z3m one3,z09 agg3,Zg,z21 zbr,z49,z08 zsg]);refine(zou hk2 hm2 (rr.mono hx hw) hx.wf).mono ?_
 rintro v H2 ⟨rfl,hx2⟩;have hxx:=hx.trans hx2;have hb2:H2.get H.next=some (Blk.row [Value.int IntKind.i64 t.kind,Value.string t.name,Value.string t.num,Value.int IntKind.u64 t.bits,Value.int IntKind.i64 t.var,Value.slice a t.args.length c] 28):=by rw[hx2.keep _ (Zf _),Heap.get_new,if_pos rfl]
 have l0:H2.load ⟨H.next,0,none⟩ 1=some [.int .i64 t.kind]:=by simp only[Heap.load,Heap.cells,hb2];rfl
 have l1:H2.load ⟨H.next,1,none⟩ 1=some [.string t.name]:=by simp only[Heap.load,Heap.cells,hb2];rfl
 have l2:H2.load ⟨H.next,2,none⟩ 1=some [.string t.num]:=by simp only[Heap.load,Heap.cells,hb2];rfl
 have l3:H2.load ⟨H.next,3,none⟩ 1=some [.int .u64 t.bits]:=by simp only[Heap.load,Heap.cells,hb2];rfl
 have l4:H2.load ⟨H.next,4,none⟩ 1=some [.int .i64 t.var]:=by simp only[Heap.load,Heap.cells,hb2];rfl
 have l5:H2.load ⟨H.next,5,none⟩ 1=some [.slice a t.args.length c]:=by simp only[Heap.load,Heap.cells,hb2];rfl
 cases hbl:blankB t with
 |false =>
  (try simp (config:=qZc) (disch:=first|omega|rfl) only[sB,Za,reduceCtorEq,ZM,Zg]);refine qZd (by simp only[sB,Za,reduceCtorEq]) ?_
  (repeat refine qZa ?_);refine qZb ?_;simp (config:=qZc) (disch:=first|omega|rfl) only[sA];refine qZf ?_;(try simp (config:=qZc) (disch:=first|omega|rfl) only[sA]);exact z03 rfl (by simp only[sG,Za,reduceCtorEq];rfl) ⟨by rw[nodeE,if_neg hno,if_pos hbl],hxx⟩
 |true =>
 by_cases hv:t.var < 0
 ·have hd:decide (t.var < 0)=true:=decide_eq_true hv;(try simp (config:=qZc) (disch:=first|omega|rfl) only[sB,Za,reduceCtorEq,l4,hd,z05 z90 one3,z09 agg3,Zv,Zg]);refine qZd (by simp only[sB,Za,reduceCtorEq]) ?_;(repeat refine qZa ?_);refine qZb ?_;simp (config:=qZc) (disch:=first|omega|rfl) only[sA];refine qZf ?_;(try simp (config:=qZc) (disch:=first|omega|rfl) only[sA]);exact z03 rfl (by simp only[sG,Za,reduceCtorEq];rfl) ⟨by rw[zdi hno hbl (by unfold bndB;rw[hd];rfl)],hxx⟩
 have hd:decide (t.var < 0)=false:=decide_eq_false hv;(try simp (config:=qZc) (disch:=first|omega|rfl) only[sB,Za,reduceCtorEq,l4,hd,z05 z90 one3,z09 agg3,Zv,Zg]);refine qZm (by simp only[sB,Za,reduceCtorEq]) ?_;refine EvC.frame (fun tm=>tm.get 1=some (.pointer (some ⟨H.next,0,none⟩))) (by simp only[sG,Za,reduceCtorEq]) ?_;rintro tm g1;refine qZa ?_;refine EvC.join (fun st=>∃tm,st=⟨tm,[],H2⟩/\tm.get 1=some (.pointer (some ⟨H.next,0,none⟩))/\tm.get 23=some (.bool (t.kind == 5 && ((t.args.length:Int) == 0 || decide ((t.args.length:Int) > 64))))) ?_ ?_
 ·refine qZb ?_;cases h2:(t.kind == 5)<;>cases h3:((t.args.length:Int) == 0)<;>cases h4:decide ((t.args.length:Int) > 64)
  all_goals
   (try simp (config:=qZc) (disch:=first|omega|rfl) only[sB,Za,g1,l0,l5,h2,h3,h4,z05 z3m one3,z05 z8z zlo,z09 agg3,z09 zor,z19 Tryz.underlying26,Zg]);exact⟨_,rfl,by simp only[sG,Za];exact g1,by simp only[sG,Za];rfl⟩
 clear g1 tm;rintro st ⟨tm,rfl,g1,g23⟩;(try simp (config:=qZc) (disch:=first|omega|rfl) only[z00]);cases hbad:(t.kind == 5 && ((t.args.length:Int) == 0 || decide ((t.args.length:Int) > 64))) with
 |true =>
  rw[hbad] at g23;refine qZd (by simp only[sA,g23]) ?_;(repeat refine qZa ?_);refine qZb ?_;simp (config:=qZc) (disch:=first|omega|rfl) only[sA];refine qZf ?_;(try simp (config:=qZc) (disch:=first|omega|rfl) only[sA]);exact z03 rfl (by simp only[sG];rfl) ⟨by rw[zdi hno hbl (by unfold bndB;rw[hd,hbad];rfl)],hxx⟩
 |false =>
 rw[hbad] at g23;have hne:=zj6 (utf:=utf) (num:=num) (flt:=fun n=>!(fn n || fi n || n == 9223372036854775808)) hno hbl (by unfold bndB;rw[hd,hbad];rfl);refine qZm (by simp only[sA,g23]) ?_;(repeat refine qZa ?_);refine qZb ?_;simp (config:=qZc) (disch:=first|omega|rfl) only[sB,Za,g1,l1,z05 z3n one9,z09 agg9,z08 zsh];refine(hU t.name _ b2 hx2.wf).mono ?_;rintro v H3 ⟨rfl,hx3⟩;have hxx3:=hxx.trans hx3;have hlt2:H.next < H2.next:=Zi (Zf _) hx2.next;have hb3:H3.get H.next=some (Blk.row [Value.int IntKind.i64 t.kind,Value.string t.name,Value.string t.num,Value.int IntKind.u64 t.bits,Value.int IntKind.i64 t.var,Value.slice a t.args.length c] 28):=by rw[hx3.keep _ hlt2];exact hb2
 have m0:H3.load ⟨H.next,0,none⟩ 1=some [.int .i64 t.kind]:=by simp only[Heap.load,Heap.cells,hb3];rfl
 have m1:H3.load ⟨H.next,1,none⟩ 1=some [.string t.name]:=by simp only[Heap.load,Heap.cells,hb3];rfl
 have m2:H3.load ⟨H.next,2,none⟩ 1=some [.string t.num]:=by simp only[Heap.load,Heap.cells,hb3];rfl
 have m3:H3.load ⟨H.next,3,none⟩ 1=some [.int .u64 t.bits]:=by simp only[Heap.load,Heap.cells,hb3];rfl
 cases hu:utf t.name with
 |false =>
  (try simp (config:=qZc) (disch:=first|omega|rfl) only[sB,Za,ZM]);refine qZd (by simp only[sB,Za]) ?_
  (repeat refine qZa ?_);refine qZb ?_;simp (config:=qZc) (disch:=first|omega|rfl) only[sA];refine qZf ?_;(try simp (config:=qZc) (disch:=first|omega|rfl) only[sA]);exact z03 rfl (by simp only[sG,Za];rfl) ⟨by rw[hne,if_pos hu],hxx3⟩
 |true =>
 rw[if_neg (by rw[hu];simp)] at hne;by_cases hlen:1000 < t.name.size
 ·have hd:decide ((t.name.size:Int) > 1000)=true:=decide_eq_true (by omega);(try simp (config:=qZc) (disch:=first|omega|rfl) only[sB,Za,g1,m1,hd,z05 z3n one9,z09 agg9,z74 Tryz.underlying9,Zv,Zg]);refine qZd (by simp only[sB,Za]) ?_;(repeat refine qZa ?_);refine qZb ?_;simp (config:=qZc) (disch:=first|omega|rfl) only[sA];refine qZf ?_;(try simp (config:=qZc) (disch:=first|omega|rfl) only[sA]);exact z03 rfl (by simp only[sG,Za];rfl) ⟨by rw[hne,if_pos hlen],hxx3⟩
 rw[if_neg hlen] at hne;have hd2:decide ((t.name.size:Int) > 1000)=false:=decide_eq_false (by omega);(try simp (config:=qZc) (disch:=first|omega|rfl) only[sB,Za,g1,m1,hd2,z05 z3n one9,z09 agg9,z74 Tryz.underlying9,Zv,Zg]);refine qZm (by simp only[sB,Za]) ?_;refine EvC.frame (fun tm=>tm.get 1=some (.pointer (some ⟨H.next,0,none⟩))) (by simp only[sG,Za];exact g1) ?_;clear g1 g23 tm;rintro tm g1;refine qZa (qZb ?_);by_cases k3:t.kind=3
 ·have q3:(t.kind == 3)=true:=by simp [k3]
  have q4:(t.kind == 4)=false:=by simp [k3]
  (try simp (config:=qZc) (disch:=first|omega|rfl) only[sB,Za,g1,m0,m2,q3,z05 z3m one3,z05 z76 one9,z09 agg9,z09 agg3,z08 zsi]);refine(hN t.num _ b3 hx3.wf).mono ?_
  rintro v H4 ⟨rfl,hx4⟩;have hb4:H4.get H.next=some (Blk.row [Value.int IntKind.i64 t.kind,Value.string t.name,Value.string t.num,Value.int IntKind.u64 t.bits,Value.int IntKind.i64 t.var,Value.slice a t.args.length c] 28):=by rw[hx4.keep _ (Zi hlt2 hx3.next)];exact hb3
  have n0:H4.load ⟨H.next,0,none⟩ 1=some [.int .i64 t.kind]:=by simp only[Heap.load,Heap.cells,hb4];rfl
  cases hn:num t.num with
  |false =>
   (try simp (config:=qZc) (disch:=first|omega|rfl) only[sB,Za,ZM]);refine qZd (by simp only[sB,Za]) ?_
   (repeat refine qZa ?_);refine qZb ?_;simp (config:=qZc) (disch:=first|omega|rfl) only[sA];refine qZf ?_;(try simp (config:=qZc) (disch:=first|omega|rfl) only[sA]);exact z03 rfl (by simp only[sG,Za];rfl) ⟨by rw[hne,if_pos ⟨k3,hn⟩],hxx3.trans hx4⟩
  |true =>
   (try simp (config:=qZc) (disch:=first|omega|rfl) only[sB,Za,Zv]);refine qZm (by simp only[sB,Za]) (qZe ?_)
   (try simp (config:=qZc) (disch:=first|omega|rfl) only[sA]);(repeat refine qZa ?_);refine qZb ?_;simp (config:=qZc) (disch:=first|omega|rfl) only[sB,Za,g1,n0,q4,z05 z3m one3,z09 agg3]
   refine qZm (by simp only[sB,Za]) (qZe ?_);(try simp (config:=qZc) (disch:=first|omega|rfl) only[z00]);(repeat refine qZa ?_);refine qZb ?_;simp (config:=qZc) (disch:=first|omega|rfl) only[sA];refine qZf ?_;(try simp (config:=qZc) (disch:=first|omega|rfl) only[]);exact z03 rfl (by simp only[sG,Za];rfl) ⟨by rw[hne,if_neg (by rw[hn];simp),if_neg (by rw[k3];simp)],hxx3.trans hx4⟩
 have q3:(t.kind == 3)=false:=by simp [k3]
 rw[if_neg (fun h=>k3 h.1)] at hne;(try simp (config:=qZc) (disch:=first|omega|rfl) only[sB,Za,g1,m0,q3,z05 z3m one3,z09 agg3,Zg]);refine qZm (by simp only[sB,Za]) (qZe ?_);(try simp (config:=qZc) (disch:=first|omega|rfl) only[sA]);by_cases k4:t.kind=4
 ·have q4:(t.kind == 4)=true:=by simp [k4]
  (repeat refine qZa ?_);refine qZb ?_;simp (config:=qZc) (disch:=first|omega|rfl) only[sB,Za,g1,m0,q4,z05 z3m one3,z09 agg3];refine qZd (by simp only[sB,Za]) ?_;(repeat refine qZa ?_);refine qZb ?_;simp (config:=qZc) (disch:=first|omega|rfl) only[sB,Za,g1,m3,z05 z5v zfa,z09 zj5];rw[z7o (n:=t.bits) (by simp only[sG,Za])];(try simp (config:=qZc) (disch:=first|omega|rfl) only[sB,Za]);refine EvC.frame (fun tm=>tm.get 1=some (.pointer (some ⟨H.next,0,none⟩))/\tm.get 3=some (.float .f64 t.bits.toNat)) ⟨by simp only[sG,Za];exact g1,by simp only[sG,Za]⟩ ?_;clear g1 tm;rintro tm ⟨g1,g3⟩;(repeat refine qZa ?_);refine qZb ?_;simp (config:=qZc) (disch:=first|omega|rfl) only[sB,Za,g3,z08 zsj];refine(hF t.bits _ b4 hx3.wf).1.mono ?_;rintro v H4 ⟨rfl,hx4⟩
  have hb4:H4.get H.next=some (Blk.row [Value.int IntKind.i64 t.kind,Value.string t.name,Value.string t.num,Value.int IntKind.u64 t.bits,Value.int IntKind.i64 t.var,Value.slice a t.args.length c] 28):=by rw[hx4.keep _ (Zi hlt2 hx3.next)];exact hb3
  cases hn:fn t.bits with
  |true =>
   (try simp (config:=qZc) (disch:=first|omega|rfl) only[sB,Za]);refine qZd (by simp only[sB,Za]) ?_
   (repeat refine qZa ?_);refine qZb ?_;simp (config:=qZc) (disch:=first|omega|rfl) only[sA];refine qZf ?_;(try simp (config:=qZc) (disch:=first|omega|rfl) only[z06]);exact z03 rfl (by simp only[sG,Za];rfl) ⟨by rw[hne,if_pos ⟨k4,by rw[hn];rfl⟩],hxx3.trans hx4⟩
  |false =>
  (try simp (config:=qZc) (disch:=first|omega|rfl) only[sB,Za,g3,Zg,z08 zsk]);refine(hF t.bits _ b4 hx4.wf).2.mono ?_
  rintro v H5 ⟨rfl,hx5⟩;have hb5:H5.get H.next=some (Blk.row [Value.int IntKind.i64 t.kind,Value.string t.name,Value.string t.num,Value.int IntKind.u64 t.bits,Value.int IntKind.i64 t.var,Value.slice a t.args.length c] 28):=by rw[hx5.keep _ (Zi (Zi hlt2 hx3.next) hx4.next)];exact hb4
  have n3:H5.load ⟨H.next,3,none⟩ 1=some [.int .u64 t.bits]:=by simp only[Heap.load,Heap.cells,hb5];rfl
  cases hi:fi t.bits with
  |true =>
   (try simp (config:=qZc) (disch:=first|omega|rfl) only[sB,Za]);refine qZd (by simp only[sB,Za]) ?_
   (repeat refine qZa ?_);refine qZb ?_;simp (config:=qZc) (disch:=first|omega|rfl) only[sA];refine qZf ?_;(try simp (config:=qZc) (disch:=first|omega|rfl) only[z06]);exact z03 rfl (by simp only[sG,Za];rfl) ⟨by rw[hne,if_pos ⟨k4,by rw[hn,hi];rfl⟩],(hxx3.trans hx4).trans hx5⟩
  |false =>
  cases hz:(t.bits == 9223372036854775808) with
  |true =>
   (try simp (config:=qZc) (disch:=first|omega|rfl) only[sB,Za,g1,n3,hz,z05 z5v zfa,z09 zj5,Zg]);refine qZd (by simp only[sB,Za]) ?_
   (repeat refine qZa ?_);refine qZb ?_;simp (config:=qZc) (disch:=first|omega|rfl) only[sA];refine qZf ?_;(try simp (config:=qZc) (disch:=first|omega|rfl) only[z06]);exact z03 rfl (by simp only[sG,Za];rfl) ⟨by rw[hne,if_pos ⟨k4,by rw[hn,hi,hz];rfl⟩],(hxx3.trans hx4).trans hx5⟩
  |false =>
   (try simp (config:=qZc) (disch:=first|omega|rfl) only[sB,Za,g1,n3,hz,z05 z5v zfa,z09 zj5,Zg]);refine qZm (by simp only[sB,Za]) (qZe ?_)
   (try simp (config:=qZc) (disch:=first|omega|rfl) only[z00]);(repeat refine qZa ?_);refine qZb ?_;simp (config:=qZc) (disch:=first|omega|rfl) only[sA]
   refine qZf ?_;(try simp (config:=qZc) (disch:=first|omega|rfl) only[]);exact z03 rfl (by simp only[sG,Za];rfl) ⟨by rw[hne,if_neg (by rw[hn,hi,hz];simp)],(hxx3.trans hx4).trans hx5⟩
 have q4:(t.kind == 4)=false:=by simp [k4]
 (repeat refine qZa ?_);refine qZb ?_;simp (config:=qZc) (disch:=first|omega|rfl) only[sB,Za,g1,m0,q4,z05 z3m one3,z09 agg3];refine qZm (by simp only[sB,Za]) (qZe ?_);(try simp (config:=qZc) (disch:=first|omega|rfl) only[z00]);(repeat refine qZa ?_);refine qZb ?_;simp (config:=qZc) (disch:=first|omega|rfl) only[sA];refine qZf ?_;(try simp (config:=qZc) (disch:=first|omega|rfl) only[]);exact z03 rfl (by simp only[sG,Za];rfl) ⟨by rw[hne,if_neg (fun h=>k4 h.1)],hxx3⟩
end Go.Proofs.hq
end

section
namespace Go.Proofs.hq
open Go Go.RowKit Go.Hb
theorem zqr:callable Tryz.prog 46=true:=by kernel_rfl
theorem zui:callable Tryz.prog 71=true:=by kernel_rfl
mutual
def allE (E:Tm->Int):Tm->Int
 |.mk k s u b v l=>if E (.mk k s u b v l)=0 then allL E l else E (.mk k s u b v l)
def allL (E:Tm->Int):List Tm->Int
 |[]=>0
 |t :: l=>if allE E t=0 then allL E l else allE E t
end
theorem z5w (E:Tm->Int) (t:Tm):allE E t=if E t=0 then allL E t.args else E t:=by
 obtain⟨k,s,u,b,v,l⟩:=t;rw[allE];rfl
theorem zls {E:Tm->Int}{l:List Tm}{i:Nat}{t:Tm}(h:l[i]?=some t):allL E (l.drop i)=if allE E t=0 then allL E (l.drop (i+1)) else allE E t:=by
 have hlt:=(List.getElem?_eq_some_iff.1 h).1;have he:l[i]=t:=(List.getElem?_eq_some_iff.1 h).2;rw[ZG hlt,allL,he]
def checkE (E:Tm->Int) (t:Tm):Int:=if 4000 < cnt t 0 then 24 else allE E t
def TellsT (ok:Ok) (f:FuncId) (E:Tm->Int):Prop:=∀(t:Tm) (cs:List Value) (H:Heap),RepT H t cs->H.wf->EvF Tryz.prog ok f [.agg ⟨cs⟩] H fun v H'=>v=.int .i64 (E t)/\HX H H'
theorem zqs {n:Int}(h:n≠0):(n != 0)=true:=by simp [h]
theorem zqt {n:Int}(h:n=0):(n != 0)=false:=by simp [h]
variable {ok:Ok}
set_option maxRecDepth 10000 in
set_option maxHeartbeats 2000000 in
theorem zdk {E:Tm->Int}(hE:TellsT ok 71 E) (hk:∀args H,ok.K 46 args H=none) (hm:ok.testBit 46=true):TellsT ok 46 (allE E):=by
 have main:∀(m:Nat) {t:Tm}{cs:List Value}{H:Heap},SizeOf.sizeOf t < m->RepT H t cs->H.wf->EvF Tryz.prog ok 46 [.agg ⟨cs⟩] H fun v H'=>v=.int .i64 (allE E t)/\HX H H':=by
  intro m
  induction m with
  |zero=>intro t cs H h;omega
  |succ m ih =>
  intro t cs H hsz r hw;have rr:=r;obtain⟨a,c,cells,rfl,b1,b2,b3,b4,b5,rl⟩:=r.inv;have hx:=(HX.refl hw).new (some (Blk.row [Value.int IntKind.i64 t.kind,Value.string t.name,Value.string t.num,Value.int IntKind.u64 t.bits,Value.int IntKind.i64 t.var,Value.slice a t.args.length c] 28));refine EvF.enter (hk _ _) Tryz.func46 hm rfl ?_;(repeat refine qZa ?_);refine qZb ?_;simp (config:=qZc) (disch:=first|omega|rfl) only[sB,initTm,dBox,Value.cells,one];(repeat refine qZa ?_);refine qZb ?_;simp (config:=qZc) (disch:=first|omega|rfl) only[sB,Za,Zb,reduceCtorEq,cutC,z21 zbr,z49,z08 zui];refine(hE t _ _ (rr.mono hx hw) hx.wf).mono ?_;rintro v H2 ⟨rfl,hx2⟩;have hxx:=hx.trans hx2;have hb2:H2.get H.next=some (Blk.row [Value.int IntKind.i64 t.kind,Value.string t.name,Value.string t.num,Value.int IntKind.u64 t.bits,Value.int IntKind.i64 t.var,Value.slice a t.args.length c] 28):=by rw[hx2.keep _ (Zf _),Heap.get_new,if_pos rfl]
  have l5:H2.load ⟨H.next,5,none⟩ 1=some [.slice a t.args.length c]:=by simp only[Heap.load,Heap.cells,hb2];rfl
  (try simp (config:=qZc) (disch:=first|omega|rfl) only[]);by_cases he:E t=0
  ·(repeat refine qZa ?_);refine qZb ?_;simp (config:=qZc) (disch:=first|omega|rfl) only[sB,Za,reduceCtorEq,zqt he];refine qZm (by simp only[sB,Za,reduceCtorEq]) (qZe ?_);(try simp (config:=qZc) (disch:=first|omega|rfl) only[z00]);(repeat refine qZa ?_);refine qZb ?_;simp (config:=qZc) (disch:=first|omega|rfl) only[sB,Za,reduceCtorEq,z05 z8z zlo,z09 zor,l5,z19 Tryz.underlying26];refine qZg (qZk (fun k st=>∃tm H' i,st=⟨tm,[],H'⟩/\k=t.args.length - i/\i<=t.args.length/\allL E (t.args.drop i)=allE E t /\
    tm.get 13=some (.slice a t.args.length c)/\tm.get 14=some (.int .i64 t.args.length)/\tm.get 15=some (.int .i64 (i:Nat))/\HX H H') ?_ t.args.length _ ?_)
   ·rintro k st ⟨tm,H',i,rfl,hk',hi,hc,g13,g14,g15,hx'⟩;(repeat refine qZa ?_);refine qZb ?_;simp (config:=qZc) (disch:=first|omega|rfl) only[sA,g14,g15];by_cases hlt:i < t.args.length
    ·(repeat refine qZa ?_);refine qZd (by simp only[sB];exact congrArg _ (decide_eq_true (by omega))) (qZe ?_);obtain⟨b,o,rfl,hload,hrep⟩:=rl.at (i:=i) (Zc hlt);obtain⟨a',c',cells',hcell,-⟩:=hrep.inv;have hld:=hx'.load hw hload;rw[hcell] at hld hrep;(try simp (config:=qZc) (disch:=first|omega|rfl) only[z00]);(repeat refine qZa ?_);refine qZg ?_;(repeat refine qZa ?_);refine qZb ?_;simp (config:=qZc) (disch:=first|omega|rfl) only[sB,dAlloc,Za,Zb,one,g13,g15,z2u Tryz.underlying26 zh5 hlt,z21 zbr,z49,hld,zqq,z73 zh5];(repeat refine qZa ?_);refine qZb ?_;simp (config:=qZc) (disch:=first|omega|rfl) only[sB,Za,Zb,cutC,z21 zbr,z49,z08 zqr];have hx3:=(hx'.new (some (Blk.row [Value.int IntKind.i64 0,Value.string Zd,Value.string Zd,Value.int IntKind.u64 0,Value.int IntKind.i64 0,Value.slice none 0 0] 28))).put (i:=H'.next) hx'.next (Zf _)
      (some (.row [Value.int IntKind.i64 t.args[i].kind,Value.string t.args[i].name,Value.string t.args[i].num,Value.int IntKind.u64 t.args[i].bits,Value.int IntKind.i64 t.args[i].var,Value.slice a' t.args[i].args.length c'] 28))
     have ht:t.args[i]?=some t.args[i]:=Zc hlt;have hs:=z22 ht;refine(ih (t:=t.args[i]) (by omega) (hrep.mono hx3 hw) hx3.wf).mono ?_;rintro v H4 ⟨rfl,hx4⟩;have hL:t.args.length<=9223372036854775807:=Zj rl.len rl.cap;have hd:=zls (E:=E) ht;(try simp (config:=qZc) (disch:=first|omega|rfl) only[]);by_cases hz:allE E t.args[i]=0
     ·(repeat refine qZa ?_);refine qZb ?_;simp (config:=qZc) (disch:=first|omega|rfl) only[sB,Za,zqt hz];refine qZm (by simp only[sB,Za]) (qZe ?_);(try simp (config:=qZc) (disch:=first|omega|rfl) only[sA]);refine qZb ?_;simp (config:=qZc) (disch:=first|omega|rfl) only[sB,Za,g15,z0c];exact⟨t.args.length - (i+1),by omega,_,_,i+1,rfl,rfl,by omega,by rw[<-hc,hd,if_pos hz],by simp only[sG,Za];exact g13,by simp only[sG,Za];exact g14,by simp only[sG,Za];rfl,hx3.trans hx4⟩
     ·(repeat refine qZa ?_);refine qZb ?_;simp (config:=qZc) (disch:=first|omega|rfl) only[sB,Za,zqs hz];refine qZd (by simp only[sB,Za]) ?_;(repeat refine qZa ?_);refine qZb ?_;simp (config:=qZc) (disch:=first|omega|rfl) only[sB,Za];refine qZf ?_;(try simp (config:=qZc) (disch:=first|omega|rfl) only[sA]);exact z03 rfl (by simp only[sG,Za];rfl) ⟨by rw[<-hc,hd,if_neg hz],hx3.trans hx4⟩
    ·(repeat refine qZa ?_);refine qZm (by simp only[sB];exact congrArg _ (decide_eq_false (by omega))) (qZi ?_);(try simp (config:=qZc) (disch:=first|omega|rfl) only[sB]);(repeat refine qZa ?_);refine qZb ?_;simp (config:=qZc) (disch:=first|omega|rfl) only[sA];refine qZf (z03 rfl (by simp only[sG,Za];rfl) ⟨?_,hx'⟩);rw[<-hc,List.drop_of_length_le (by omega),allL]
   ·exact⟨_,_,0,rfl,rfl,by omega,by rw[z5w,if_pos he];rfl,by simp only[sG,Za,reduceCtorEq],by simp only[sG,Za,reduceCtorEq],by simp only[sG,Za,reduceCtorEq];rfl,hxx⟩
  ·(repeat refine qZa ?_);refine qZb ?_;simp (config:=qZc) (disch:=first|omega|rfl) only[sB,Za,reduceCtorEq,zqs he];refine qZd (by simp only[sB,Za,reduceCtorEq]) ?_;(repeat refine qZa ?_);refine qZb ?_;simp (config:=qZc) (disch:=first|omega|rfl) only[sB,Za,reduceCtorEq];refine qZf ?_;(try simp (config:=qZc) (disch:=first|omega|rfl) only[z06]);exact z03 rfl (by simp only[sG,Za,reduceCtorEq];rfl) ⟨by rw[z5w,if_neg he],hxx⟩
 exact fun t cs H r hw=>main _ (Zf _) r hw
end Go.Proofs.hq
end

section
namespace Go.Proofs.hq
open Go Go.RowKit Go.Hb
variable {ok:Ok}
set_option maxRecDepth 10000 in
theorem zow {E:Tm->Int}(hN:TellsT ok 33 fun t=>cnt t 0) (hE:TellsT ok 46 (allE E)) (hk:∀args H,ok.K 18 args H=none) (hm:ok.testBit 18=true):TellsT ok 18 (checkE E):=by
 intro t cs H r hw;have rr:=r;obtain⟨a,c,cells,rfl,b1,b2,b3,b4,b5,rl⟩:=r.inv;have hx:=(HX.refl hw).new (some (Blk.row [Value.int IntKind.i64 t.kind,Value.string t.name,Value.string t.num,Value.int IntKind.u64 t.bits,Value.int IntKind.i64 t.var,Value.slice a t.args.length c] 28));refine EvF.enter (hk _ _) Tryz.func18 hm rfl ?_;(repeat refine qZa ?_);refine qZb ?_;simp (config:=qZc) (disch:=first|omega|rfl) only[sB,initTm,dBox,Value.cells,one];(repeat refine qZa ?_);refine qZb ?_;simp (config:=qZc) (disch:=first|omega|rfl) only[sB,Za,Zb,reduceCtorEq,cutC,z21 zbr,z49,z08 zuf];refine(hN t _ _ (rr.mono hx hw) hx.wf).mono ?_;rintro v H2 ⟨rfl,hx2⟩;have hxx:=hx.trans hx2;have hb2:H2.get H.next=some (Blk.row [Value.int IntKind.i64 t.kind,Value.string t.name,Value.string t.num,Value.int IntKind.u64 t.bits,Value.int IntKind.i64 t.var,Value.slice a t.args.length c] 28):=by rw[hx2.keep _ (Zf _),Heap.get_new,if_pos rfl]
 have l6:H2.load ⟨H.next,0,none⟩ 6=some [Value.int IntKind.i64 t.kind,Value.string t.name,Value.string t.num,Value.int IntKind.u64 t.bits,Value.int IntKind.i64 t.var,Value.slice a t.args.length c]:=by simp only[Heap.load,Heap.cells,hb2];rfl
 by_cases hov:4000 < cnt t 0
 ·refine qZd (by simp only[sB,Za,reduceCtorEq];exact congrArg _ (decide_eq_true (by omega))) ?_;(repeat refine qZa ?_);refine qZb ?_;simp (config:=qZc) (disch:=first|omega|rfl) only[sA];refine qZf ?_;(try simp (config:=qZc) (disch:=first|omega|rfl) only[z06]);exact z03 rfl (by simp only[sG,Za,reduceCtorEq];rfl) ⟨by rw[checkE,if_pos hov],hxx⟩
 ·refine qZm (by simp only[sB,Za,reduceCtorEq];exact congrArg _ (decide_eq_false (by omega))) (qZe ?_);(try simp (config:=qZc) (disch:=first|omega|rfl) only[sA]);(repeat refine qZa ?_);refine qZb ?_;simp (config:=qZc) (disch:=first|omega|rfl) only[sB,Za,reduceCtorEq,z21 zbr,z49,l6,z08 zqr];refine(hE t _ _ (rr.mono hxx hw) hx2.wf).mono ?_;rintro v H3 ⟨rfl,hx3⟩;(try simp (config:=qZc) (disch:=first|omega|rfl) only[]);refine qZf ?_;(try simp (config:=qZc) (disch:=first|omega|rfl) only[]);exact z03 rfl (by simp only[sG,Za,reduceCtorEq];rfl) ⟨by rw[checkE,if_neg hov],hxx.trans hx3⟩
end Go.Proofs.hq
end

section
namespace Go.Proofs.hq
open Go Go.RowKit Go.Hb
section
variable {P:Program}{H:Heap}
theorem zlt {t:TypeId}{x y:Operand}{k:FloatKind}{a b:Nat}:dBin P .neq t x y (.float k a) (.float k b) H=some (.val (.bool (k.format.order a b != some .eq)) H):=by
 simp [dBin,dnil,flat,eqGuard,binOp,Op.floatCmp,Sem.bind];rfl
theorem zlu {t:TypeId}{x y:Operand}{k:FloatKind}{a b:Nat}:dBin P .gtr t x y (.float k a) (.float k b) H=some (.val (.bool (k.format.order a b == some .gt)) H):=by
 simp [dBin,dnil,flat,eqGuard,binOp,Op.floatCmp,Sem.bind];rfl
def iAndNot (k:IntKind) (a b:Int):Int:=k.wrap (BitVec.ofInt k.bits a &&& ~~~BitVec.ofInt k.bits b).toNat
def iAnd (k:IntKind) (a b:Int):Int:=k.wrap (BitVec.ofInt k.bits a &&& BitVec.ofInt k.bits b).toNat
theorem zfb {t:TypeId}{x y:Operand}{k:IntKind}{a b:Int}:dBin P .andNot t x y (.int k a) (.int k b) H=some (.val (.int k (iAndNot k a b)) H):=by
 simp [dBin,dnil,flat,eqGuard,binOp,Op.intBits,Sem.bind,-BitVec.toNat_and,-BitVec.toNat_not,-BitVec.toNat_ofInt];rfl
end
def rhoF (n:Nat):Operand->Value
 |.func f=>.func (.func f) #[] #[]
 |_=>.float .f64 n
theorem zox (n:Nat) (d:Option Tmp) (k:Tmp) (ats:Array TypeId) (ty:TypeId) (pos:String) (af:Array Edge) (g:Option (Nat × Bool)) :
  pureRun Tryz.prog (execOp (rhoF n) ⟨d,.call ⟨.value (.func 100),#[.tmp k],ats⟩,ty,pos,af,g⟩)=some (.value (.int .u64 n)):=by kernel_rfl
theorem zlv (l:List Value):dcall1 Tryz.prog 100 l=none:=by
 unfold dcall1;rw[Tryz.func100];rfl
theorem zoy {d:Option Tmp}{k:Tmp}{ats:Array TypeId}{ty:TypeId}{pos:String}{af:Array Edge}{g:Option (Nat × Bool)}{tm:Tr Value}{H:Heap}{n:Nat}(hv:tm.get k=some (.float .f64 n)) :
  dop Tryz.prog ⟨d,.call ⟨.value (.func 100),#[.tmp k],ats⟩,ty,pos,af,g⟩ (ev tm) H=some (.val (.int .u64 n) H):=by
 have hρ:∀y∈(⟨d,.call ⟨.value (.func 100),#[.tmp k],ats⟩,ty,pos,af,g⟩:Oper).op.operands,ev tm y=rhoF n y:=by
  intro y hy;simp [Op.operands,Call.operands] at hy;rcases hy with rfl|rfl
  ·rfl
  ·show (tm.get k).getD junk=_;rw[hv];rfl
 have e:dop Tryz.prog ⟨d,.call ⟨.value (.func 100),#[.tmp k],ats⟩,ty,pos,af,g⟩ (ev tm) H=dflat Tryz.prog ⟨d,.call ⟨.value (.func 100),#[.tmp k],ats⟩,ty,pos,af,g⟩ (ev tm) H:=by
  simp only[dop,ev,zlv]
 have hf:allFlat (ev tm) (⟨d,.call ⟨.value (.func 100),#[.tmp k],ats⟩,ty,pos,af,g⟩:Oper)=true:=by
  unfold allFlat;rw[List.all_eq_true];intro y hy;rw[hρ y (Array.mem_toList_iff.1 hy)];simp [Op.operands,Call.operands] at hy;rcases hy with rfl|rfl<;>rfl
 rw[e];unfold dflat;rw[hf,execOp_congr _ (by intro cs b h;cases h) hρ,zox];rfl
theorem zsm:callable Tryz.prog 92=true:=by kernel_rfl
def fnB (n:Int):Bool:=FloatKind.f64.format.order n.toNat n.toNat != some .eq
def absN (m:Nat):Nat:=(iAndNot .u64 m 9223372036854775808).toNat
def fiB (n:Int):Bool:=FloatKind.f64.format.order (absN n.toNat) 9218868437227405311 == some .gt
variable {ok:Ok}
set_option maxRecDepth 10000
theorem zuj (hk:∀args H,ok.K 92 args H=none) (hm:ok.testBit 92=true) (m:Nat) (H:Heap) (hw:H.wf):EvF Tryz.prog ok 92 [.float .f64 m] H fun v H'=>v=.float .f64 (absN m)/\HX H H':=by
 refine EvF.enter (hk _ _) Tryz.func92 hm rfl ?_;(repeat refine qZa ?_);refine qZb ?_;simp (config:=qZc) (disch:=first|omega|rfl) only[sA,initTm];(repeat refine qZa ?_);refine qZb ?_;simp (config:=qZc) (disch:=first|omega|rfl) only[sB,reduceCtorEq];rw[zoy (n:=m) (by simp only[sG,Za,reduceCtorEq])];(try simp (config:=qZc) (disch:=first|omega|rfl) only[sB,Za,reduceCtorEq,zfb]);rw[z7o (n:=iAndNot .u64 m 9223372036854775808) (by simp only[sG,Za,reduceCtorEq])];(try simp (config:=qZc) (disch:=first|omega|rfl) only[sB,Za,reduceCtorEq]);refine qZf ?_;exact z03 rfl (by simp only[sG,Za,reduceCtorEq];rfl) ⟨rfl,HX.refl hw⟩
theorem zoz (hk:∀args H,ok.K 83 args H=none) (hm:ok.testBit 83=true) (n:Int) (H:Heap) (hw:H.wf):EvF Tryz.prog ok 83 [.float .f64 n.toNat] H fun v H'=>v=.bool (fnB n)/\HX H H':=by
 refine EvF.enter (hk _ _) Tryz.func83 hm rfl ?_;(repeat refine qZa ?_);refine qZb ?_;simp (config:=qZc) (disch:=first|omega|rfl) only[sA,initTm];(repeat refine qZa ?_);refine qZb ?_;simp (config:=qZc) (disch:=first|omega|rfl) only[sB,Za,reduceCtorEq,zlt];refine qZf ?_;exact z03 rfl (by simp only[sG,Za,reduceCtorEq];rfl) ⟨rfl,HX.refl hw⟩
theorem zp0 (hk:∀f args H,(f=84\/f=92)->ok.K f args H=none) (hm:ok.testBit 84=true) (hm2:ok.testBit 92=true) (n:Int) (H:Heap) (hw:H.wf) :
  EvF Tryz.prog ok 84 [.float .f64 n.toNat,.int .i64 0] H fun v H'=>v=.bool (fiB n)/\HX H H':=by
 refine EvF.enter (hk _ _ _ (.inl rfl)) Tryz.func84 hm rfl ?_;(repeat refine qZa ?_);refine qZb ?_;simp (config:=qZc) (disch:=first|omega|rfl) only[sA,initTm];(repeat refine qZa ?_);refine qZb ?_;simp (config:=qZc) (disch:=first|omega|rfl) only[sB,Za,reduceCtorEq];refine qZd (by simp only[sB,Za,reduceCtorEq];rfl) ?_;refine qZb ?_;simp (config:=qZc) (disch:=first|omega|rfl) only[sB,Za,reduceCtorEq,z08 zsm];refine(zuj (hk 92 · · (.inr rfl)) hm2 n.toNat H hw).mono ?_;rintro v H2 ⟨rfl,hx⟩;(try simp (config:=qZc) (disch:=first|omega|rfl) only[]);(repeat refine qZa ?_);refine qZb ?_;simp (config:=qZc) (disch:=first|omega|rfl) only[sB,Za,reduceCtorEq,zlu];refine qZf ?_;exact z03 rfl (by simp only[sG,Za,reduceCtorEq];rfl) ⟨rfl,hx⟩
def flB (n:Int):Bool:=!(iAnd .u64 (n.fdiv (2 ^ (min (Int.toNat 52) IntKind.u64.bits))) 2047 == 2047) && !(n == 9223372036854775808)
end Go.Proofs.hq
end

section
namespace Go.Proofs.hq
open Go Go.RowKit Go.Hb
end Go.Proofs.hq
end

section
namespace Go.Proofs.hq
end Go.Proofs.hq
end

section
namespace Go.Hb
open Go.Lib
def contR:Nat->List UInt8->Nat->Option Nat
 |0,_,c=>some c
 |_+1,[],_=>none
 |n+1,b :: l,c=>if b.toNat < 128\/192<=b.toNat then none else contR n l (c*64+b.toNat - 128)
def leadR (b:Nat):Option (Nat × Nat × Nat) :=
 if 192<=b/\b < 224 then some (1,128,b - 192) else if 224<=b/\b < 240 then some (2,2048,b - 224) else if 240<=b/\b < 248 then some (3,65536,b - 240) else none
abbrev badR (lo c:Nat):Prop:=c < lo\/1114111 < c\/(55296<=c/\c < 57344)
def stepR (l:List UInt8):Option Nat :=
 match l with
 |[]=>none
 |b :: l=>match leadR b.toNat with
  |none=>none
  |some (n,lo,c)=>match contR n l c with
   |none=>none
   |some c=>if badR lo c then none else some (n+1)
def utfR:Nat->List UInt8->Bool
 |0,_=>true
 |_+1,[]=>true
 |k+1,b :: l=>if b.toNat < 128 then utfR k l else match stepR (b :: l) with
  |none=>false
  |some n=>utfR k ((b :: l).drop n)
def stepN (n m b1 b2 b3:Nat):Option Nat :=
 if 192<=m/\m < 224 then (if n < 2\/b1 < 128\/192<=b1 then none else if badR 128 ((m - 192)*64+b1 - 128) then none else some 2)
 else if 224<=m/\m < 240 then (if n < 3\/b1 < 128\/192<=b1\/b2 < 128\/192<=b2 then none else if badR 2048 (((m - 224)*64+b1 - 128)*64+b2 - 128) then none else some 3)
 else if 240<=m/\m < 248 then (if n < 4\/b1 < 128\/192<=b1\/b2 < 128\/192<=b2\/b3 < 128\/192<=b3 then none else if badR 65536 ((((m - 240)*64+b1 - 128)*64+b2 - 128)*64+b3 - 128) then none else some 4)
 else none
end Go.Hb
end

section
namespace Go.Proofs.hq
open Go Go.RowKit Go.Hb
variable {ok:Ok}
set_option maxRecDepth 10000
end Go.Proofs.hq
end
