import Derived.WalkKit
import Derived.RangeFuncIn
import Derived.Maps.AppendAt
import Derived.Laws.CopyRow
import Derived.Laws.CopyOwn
import Derived.Orders
import Derived.MapKept
import Derived.Laws.MakeOwn
import Derived.Lib.AppendZeros
import Derived.Laws.BytesString
import Derived.OrdersIn
/- Lemmas on the program's own code, towards the laws of this folder, part 1. Conditions: as each lemma says. -/
open Array renaming getD_eq_getD_getElem? -> ZH
open Bool renaming and_eq_true -> Zk, false_eq_true -> Zg, not_eq_true -> ZL, not_true -> Zv
open ByteArray renaming empty -> Zd
open List renaming getElem?_append_left -> Zz, getElem?_append_right -> ZC, getElem?_drop -> ZN, getElem?_eq_getElem -> Zc, getElem?_eq_none -> Zy, getElem?_map -> Zw, getElem?_take -> ZJ, getElem_mem -> Zu, getElem_of_mem -> ZO, length_append -> Zr, length_cons -> ZD, length_take -> Zo, map_cons -> ZA, mem_cons_of_mem -> Zn, range -> Zh, take_of_length_le -> Zm
open Nat renaming beq -> Zs, beq_eq -> Zt, le_refl -> Ze, le_trans -> Zj, lt_of_lt_of_le -> Zi, lt_succ_self -> Zf, zero_add -> ZP, zero_le -> Zl
open Option renaming bind_some -> ZB, map_some -> ZE
section
def qZc : Lean.Meta.Simp.Config := { maxSteps := 2000000 }
namespace Go.Hb
open Go
inductive Tr (α:Type) where
 |nil
 |node (l:Tr α) (v:Option α) (r:Tr α)
namespace Tr
variable {α:Type}
def get:Tr α->Nat->Option α
 |.nil,_=>none
 |.node l v r,n =>
  match Zs n 0 with
  |true=>v
  |false=>match Zs (n % 2) 1 with
   |true=>l.get (n / 2)
   |false=>r.get (n / 2 - 1)
def left:Tr α->Tr α
 |.nil=>.nil
 |.node l _ _=>l
def right:Tr α->Tr α
 |.nil=>.nil
 |.node _ _ r=>r
def val:Tr α->Option α
 |.nil=>none
 |.node _ v _=>v
def set:Nat->Tr α->Nat->Option α->Tr α
 |0,t,_,_=>t
 |f+1,t,n,a =>
  match Zs n 0 with
  |true=>.node t.left a t.right
  |false=>match Zs (n % 2) 1 with
   |true=>.node (set f t.left (n / 2) a) t.val t.right
   |false=>.node t.left t.val (set f t.right (n / 2 - 1) a)
def put (t:Tr α) (n:Nat) (a:Option α):Tr α:=t.set (n+1) n a
end Tr
mutual
def flat:Value->Bool
 |.bool _|.int _ _|.float _ _|.complex _ _ _|.string _|.nilFunc|.nilIface=>true
 |.pointer none|.map none=>true
 |.slice none 0 0=>true
 |.iface _ v=>flat v
 |.func (.func _) ⟨a⟩ ⟨b⟩=>flatL a && flatL b
 |.agg ⟨cs⟩=>flatL cs
 |.tuple ⟨cs⟩=>flatL cs
 |_=>false
def flatL:List Value->Bool
 |[]=>true
 |v :: vs=>flat v && flatL vs
end
def one:Value->Bool
 |.agg _|.tuple _|.chan none=>false
 |_=>true
def junk:Value:=.chan none
inductive Blk where
 |ro (cs:List Value) (e:TypeId)
 |row (cs:List Value) (e:TypeId)
 |map (es:List MapEntry) (clock:Nat)
 |siter (s:ByteArray) (pos:Nat)
 |mit (m:Nat) (since:Nat)
 |loop (st:LoopState) (pending:Option Code) (fn:FuncId) (tm:Tr Value) (params:List Tmp) (assign body:Code) (n:Nat)
 |dfr
structure Heap where
 next:Nat
 t:Tr Blk
def Heap.get (H:Heap) (i:Nat):Option Blk:=H.t.get i
def Heap.put (H:Heap) (i:Nat) (b:Option Blk):Heap:=⟨H.next,H.t.put i b⟩
def Heap.new (H:Heap) (b:Option Blk):Heap:=⟨H.next+1,H.t.put H.next b⟩
def Heap.cells (H:Heap) (i:Nat):Option (List Value) :=
 match H.get i with
 |some (.ro cs _)|some (.row cs _)=>some cs
 |_=>none
def Heap.load (H:Heap) (a:Addr) (n:Nat):Option (List Value) :=
 match a.spot,H.cells a.block with
 |none,some cs =>
  let l:=(cs.drop a.off).take n
  if Zs l.length n then some l else none
 |_,_=>none
def splice:List Value->Nat->List Value->List Value
 |cs,0,vs=>vs++cs.drop vs.length
 |[],_+1,vs=>vs
 |c :: cs,n+1,vs=>c :: splice cs n vs
def Heap.store (H:Heap) (a:Addr) (vs:List Value):Option Heap :=
 match a.spot,H.get a.block with
 |none,some (.row cs e)=>if a.off+vs.length<=cs.length/\vs.all one=true then some (H.put a.block (some (.row (splice cs a.off vs) e))) else none
 |_,_=>none
def pureRun (P:Program) {α:Type}:Sem α->Option α
 |.pure a=>some a
 |.program k=>pureRun P (k P)
 |.mark _ k=>pureRun P k
 |_=>none
def ev (tm:Tr Value):Operand->Value
 |.tmp t=>(tm.get t).getD junk
 |.const v=>v
 |.global g=>.pointer (some ⟨g,0,none⟩)
 |.func f=>.func (.func f) #[] #[]
inductive Dr where
 |val (v:Value) (H:Heap)
 |call (f:FuncId) (args:List Value)
 |yield (l:Nat) (args:List Value)
 |dfr (d:Deferred)
 |recov
 |panic (v:Value)
def isAgg? (P:Program) (t:TypeId):Option Bool :=
 match P.underlying t with
 |some (.struct _)|some (.array _ _)=>some true
 |some _=>some false
 |none=>none
def dload (P:Program) (t:TypeId) (a:Addr) (H:Heap):Option Value :=
 match isAgg? P t with
 |some true=>(H.load a (P.cellsOf t)).map fun l=>.agg ⟨l⟩
 |some false=>match H.load a 1 with
  |some [v]=>some v
  |_=>none
 |none=>none
def dpart (P:Program) (t:TypeId) (cs:Array Value) (off:Nat):Option Value :=
 match isAgg? P t with
 |some true=>some (.agg ⟨(cs.toList.drop off).take (P.cellsOf t)⟩)
 |some false=>cs.toList[off]?
 |none=>none
def allFlat (ρ:Operand->Value) (o:Oper):Bool:=o.op.operands.toList.all fun x=>flat (ρ x)
def dflat (P:Program) (o:Oper) (ρ:Operand->Value) (H:Heap):Option Dr :=
 match allFlat ρ o,pureRun P (execOp ρ o) with
 |true,some (.value v)=>match flat v with
  |true=>some (.val v H)
  |false=>none
 |_,_=>none
def nilEq:BinOp->Option Value
 |.eql=>some (.bool false)
 |.neq=>some (.bool true)
 |_=>none
def isIface (P:Program) (t:TypeId):Bool:=match P.underlying t with|some (.interface _)=>true|_=>false
def isPtr (P:Program) (t:TypeId):Bool:=match P.underlying t with|some (.pointer _)=>true|_=>false
def isSl (P:Program) (t:TypeId):Bool:=match P.underlying t with|some (.slice _)=>true|_=>false
def isMp (P:Program) (t:TypeId):Bool:=match P.underlying t with|some (.map _ _)=>true|_=>false
def isFn (P:Program) (t:TypeId):Bool:=match P.underlying t with|some (.func _ _ _)=>true|_=>false
def dnil (P:Program) (op:BinOp) (t:TypeId) (x y:Value):Option Value :=
 match x,y with
 |.iface _ _,.nilIface|.nilIface,.iface _ _=>if isIface P t then nilEq op else none
 |.pointer (some _),.pointer none|.pointer none,.pointer (some _)=>if isPtr P t then nilEq op else none
 |.slice (some _) _ _,.slice none _ _|.slice none _ _,.slice (some _) _ _=>if isSl P t then nilEq op else none
 |.map (some _),.map none|.map none,.map (some _)=>if isMp P t then nilEq op else none
 |.func (.func _) _ _,.nilFunc|.nilFunc,.func (.func _) _ _=>if isFn P t then nilEq op else none
 |_,_=>none
def intBetween (v:Value) (hi:Nat):Option Nat :=
 match v with
 |.int _ i=>if 0<=i/\i<=(hi:Int) then some i.toNat else none
 |_=>none
def bound (x:Option Value) (dflt most:Nat):Option Nat :=
 match x with
 |some v=>intBetween v most
 |none=>some dflt
def dslice (P:Program) (t:TypeId) (x:Value) (lo hi mx:Option Value) (H:Heap):Option Dr :=
 match P.underlying t,x,mx with
 |some (.slice e),.slice a n c,none =>
  match P.info? e,bound hi n c with
  |some _,some h =>
   match bound lo 0 h with
   |some l =>
    if Zs l 0 then some (.val (.slice a h c) H)
    else if Zs l c then some (.val (.slice (some ⟨0,0,some 0⟩) 0 0) H)
    else match a with
     |some ad=>match H.get ad.block with
      |some (.row _ e')=>if Zs e e' && ad.spot.isNone then some (.val (.slice (some ⟨ad.block,ad.off+l*P.cellsOf e,none⟩) (h - l) (c - l)) H) else none
      |some (.ro _ _)=>if ad.spot.isNone then some (.val (.slice (some ⟨ad.block,ad.off+l*P.cellsOf e,none⟩) (h - l) (c - l)) H) else none
      |_=>none
     |none=>none
   |none=>none
  |_,_=>none
 |_,_,_=>none
def keysOf (es:List MapEntry):List MapEntry:=es.map fun e=>{ e with val:=.bool false }
def dfind (P:Program) (emp:Bool) (kt:TypeId) (k:Value) (es:List MapEntry):Option (Option Nat) :=
 match flat k,pureRun P (Instr.checkKey emp 10000 kt k),pureRun P (Instr.findKey kt k (keysOf es)) with
 |true,some (),some r=>some (r.map (·.1))
 |_,_,_=>none
def dlookup (P:Program) (t:TypeId) (m k:Value) (ok:Bool) (H:Heap):Option Dr :=
 match P.underlying t with
 |some (.map kt et) =>
  let out (v:Value) (b:Bool):Option Dr:=some (.val (if ok then .tuple #[v,.bool b] else v) H);let zero:Option Dr:=match pureRun P (zeroValue et) with
   |some z=>if flat z then out z false else none
   |none=>none
  match m with
  |.map none=>match flat k,pureRun P (Instr.checkKey true 10000 kt k),pureRun P (Instr.findKey kt k []) with
   |true,some (),some none=>zero
   |_,_,_=>none
  |.map (some r)=>match H.get r with
   |some (.map es _)=>match dfind P es.isEmpty kt k es with
    |some none=>zero
    |some (some i)=>match es[i]? with
     |some e=>out e.val true
     |none=>none
    |none=>none
   |_=>none
  |_=>none
 |_=>none
def dupdate (P:Program) (t:TypeId) (m k v:Value) (H:Heap):Option Dr :=
 match P.underlying t,m with
 |some (.map kt _),.map (some r)=>match H.get r with
  |some (.map es clock)=>match dfind P false kt k es with
   |some none=>some (.val undef (H.put r (some (.map (es++[{ key:=k,val:=v,born:=clock }]) (clock+1)))))
   |some (some i)=>match es[i]? with
    |some e=>if Instr.sameBits 10000 e.key k then some (.val undef (H.put r (some (.map (es.set i { e with key:=k,val:=v }) clock)))) else none
    |none=>none
   |none=>none
  |_=>none
 |_,_=>none
def ddelete (P:Program) (t:TypeId) (m k:Value) (H:Heap):Option Dr :=
 match P.underlying t,m with
 |some (.map kt _),.map (some r)=>match H.get r with
  |some (.map es clock)=>match dfind P es.isEmpty kt k es with
   |some none=>some (.val undef H)
   |some (some i)=>some (.val undef (H.put r (some (.map (es.eraseIdx i) clock))))
   |none=>none
  |_=>none
 |_,_=>none
def dsource (size m:Nat) (x:Value) (H:Heap):Option (List Value) :=
 match x with
 |.slice (some ad) _ _=>H.load ad (m*size)
 |_=>none
def most:Nat:=34359738368
def bmost:Nat:=1048576
def zsize (i:TypeInfo):Nat:=match i.zero with|some z=>z.cells.size|none=>0
def dzeros (P:Program) (t xt:TypeId) (s x:Value) (H:Heap):Option Dr :=
 match P.underlying t,P.underlying xt,s,intBetween x most with
 |some (.slice e),some (.int _),.slice none 0 0,some n =>
  match P.info? e with
  |some i=>match i.zero with
   |some z =>
    if 0 < n/\0 < i.size/\flat z=true/\z.cells.size=i.size/\i.bytes<=4096 then
     some (.val (.slice (some ⟨H.next,0,none⟩) n n) (H.new (some (.row ((Zh (n*i.size)).map (z.cells[· % z.cells.size]!)) e))))
    else none
   |none=>none
  |none=>none
 |_,_,_,_=>none
def dappend (P:Program) (ts:Array TypeId) (s x:Value) (H:Heap):Option Dr :=
 match ts.toList with
 |[t,xt] =>
  match P.underlying t,Zs xt t,s,x with
  |some (.slice e),true,.slice a n _,.slice _ m _ =>
   match P.info? e with
   |some i =>
    let size:=i.size
    if Zs m 0 then some (.val s H)
    else if n+m<=most/\i.bytes<=4096/\0 < size/\zsize i=size then
     match dsource size m x H with
     |some news =>
      if Zs news.length (m*size)/\news.all one=true then
       match a with
       |none=>if Zs n 0 then some (.val (.slice (some ⟨H.next,0,none⟩) m m) (H.new (some (.row news e)))) else none
       |some ad=>match ad.spot,ad.off,H.get ad.block with
        |none,0,some (.row cs e') =>
         if Zs e e'/\n*size<=cs.length/\(cs.take (n*size)).all one=true then
          some (.val (.slice (some ⟨H.next,0,none⟩) (n+m) (n+m)) ((H.put ad.block none).new (some (.row (cs.take (n*size)++news) e))))
         else none
        |_,_,_=>none
      else none
     |none=>none
    else none
   |none=>none
  |_,_,_,_=>none
 |_=>none
def dcopy (P:Program) (ts:Array TypeId) (d x:Value) (H:Heap):Option Dr :=
 match ts.toList with
 |t :: _=>match P.underlying t,d,x with
  |some (.slice e),.slice a n _,.slice b m c =>
   match P.info? e with
   |some _ =>
    let k:=Nat.min m n
    if Zs k 0 then some (.val (.int .i64 0) H) else
    match dsource (P.cellsOf e) k (.slice b m c) H,a with
    |some news,some ad=>match H.store ad news with
     |some H'=>some (.val (.int .i64 k) H')
     |none=>none
    |_,_=>none
   |none=>none
  |_,_,_=>none
 |_=>none
def dclear (P:Program) (ts:Array TypeId) (x:Value) (H:Heap):Option Dr :=
 match ts.toList with
 |t :: _=>match P.underlying t,x with
  |some (.slice e),.slice a n _ =>
   if Zs n 0 then some (.val (.tuple #[]) H) else
   match P.info? e,a with
   |some i,some ad=>match i.zero with
    |some z=>if flat z then match H.store ad ((Zh (n*z.cells.size)).map (z.cells[· % z.cells.size]!)) with
      |some H'=>some (.val (.tuple #[]) H')
      |none=>none
     else none
    |none=>none
   |_,_=>none
  |_,_=>none
 |_=>none
def bytesOf:List Value->Option (List Int)
 |[]=>some []
 |.int .u8 n :: vs=>(bytesOf vs).map (n :: ·)
 |_ :: _=>none
def dbytes (x:Value) (H:Heap):Option Value :=
 match x with
 |.slice none _ _=>some (.string .empty)
 |.slice (some a) n _=>match (if Zs n 0 then some [] else H.load a n) with
  |some l=>(bytesOf l).map fun ns=>.string (ns.foldl (fun r n=>r.push (UInt8.ofNat n.toNat)) Zd)
  |none=>none
 |_=>none
def dfail (P:Program) (at_:TypeId) (ok:Bool):Option Value :=
 match ok,pureRun P (zeroValue at_) with
 |true,some z=>if flat z then some (.tuple #[z,.bool false]) else none
 |_,_=>none
def dassert (P:Program) (t:TypeId) (v:Value) (at_:TypeId) (ok:Bool):Option Value :=
 let holds (u:Value):Option Value:=some (if ok then .tuple #[u,.bool true] else u)
 match P.underlying at_ with
 |some (.interface want)=>match P.info? t with
  |some i=>match Instr.missingMethod want i.methods with
   |none=>holds (.iface t v)
   |some _=>dfail P at_ ok
  |none=>none
 |some _=>if Zs t at_ then holds v else dfail P at_ ok
 |none=>none
def dcall1 (P:Program) (f:FuncId) (args:List Value):Option Dr :=
 match P.funcs[f]? with
 |some fn=>if fn.body.isSome && !(fn.name == "runtime.NumGoroutine") then some (.call f args) else none
 |none=>none
def zflat (P:Program) (t:TypeId):Bool:=match pureRun P (zeroValue t) with|some z=>flat z|none=>false
def dop (P:Program) (o:Oper) (ρ:Operand->Value) (H:Heap):Option Dr :=
 match o.op with
 |.move x|.assign x=>some (.val (ρ x) H)
 |.pick c a b=>match ρ c with
  |.bool true=>some (.val (ρ a) H)
  |.bool false=>some (.val (ρ b) H)
  |_=>none
 |.alloc e=>match pureRun P (zeroValue e) with
  |some z=>if flat z && z.cells.toList.all one then some (.val (.pointer (some ⟨H.next,0,none⟩)) (H.new (some (.row z.cells.toList e)))) else none
  |none=>none
 |.box e x=>let v:=ρ x
  if v.cells.toList.all one then some (.val (.pointer (some ⟨H.next,0,none⟩)) (H.new (some (.row v.cells.toList e)))) else none
 |.build t parts=>if parts.toList.all (fun p=>(ρ p.2).cells.toList.all one) && zflat P t then
   match pureRun P (Instr.build t (parts.map fun (i,x)=>(i,ρ x))) with
   |some v=>some (.val v H)
   |none=>none
  else none
 |.buildSlice t len parts=>match P.underlying t with
  |some (.slice e)=>match P.info? e with
   |some i=>match i.zero with
    |some z =>
     let size:=i.size
     if len<=bmost/\len*size<=bmost/\flat z=true/\z.cells.size=size/\z.cells.toList.all one=true/\parts.toList.all (fun p=>(ρ p.2).cells.toList.all one)=true then
      match Instr.fill (fun i=>some (i*size,size)) ((Array.range (len*size)).map (z.cells[· % z.cells.size]!)) (parts.toList.map fun p=>(p.1,ρ p.2)) with
      |some cells=>some (.val (.slice (some ⟨H.next,0,none⟩) len len) (H.new (some (.row cells.toList e))))
      |none=>none
     else none
    |none=>none
   |none=>none
  |_=>none
 |.load t a=>match ρ a with
  |.pointer (some ad)=>(dload P t ad H).map (.val · H)
  |_=>none
 |.store t a x=>match ρ a with
  |.pointer (some ad)=>let v:=ρ x
   if Zs v.cells.size (P.cellsOf t) && (P.info? t).isSome then (H.store ad v.cells.toList).map (.val undef ·) else none
  |_=>none
 |.nilCheck x=>match ρ x with
  |.pointer (some a)=>some (.val (.pointer (some a)) H)
  |.func (.func f) a b=>some (.val (.func (.func f) a b) H)
  |_=>none
 |.binOp op t x y _=>match dnil P op t (ρ x) (ρ y) with
  |some v=>some (.val v H)
  |none=>dflat P o ρ H
 |.unOp ..=>dflat P o ρ H
 |.convert src dst x=>match P.underlying src,P.underlying dst,ρ x with
  |some (.slice e),some .string,.slice a n c=>match P.underlying e with
   |some (.int .u8)=>(dbytes (.slice a n c) H).map (.val · H)
   |_=>none
  |_,some (.slice _),_=>none
  |_,_,_=>dflat P o ρ H
 |.makeInterface t x=>match P.underlying t with
  |some (.interface _)=>none
  |some _=>some (.val (.iface t (ρ x)) H)
  |none=>none
 |.makeFunc fn first captured=>match fn with
  |.func f=>some (.val (.func (.func f) (first.map ρ) (captured.map ρ)) H)
  |_=>none
 |.makeMap _ none=>some (.val (.map (some H.next)) (H.new (some (.map [] 0))))
 |.makeSlice t l c=>match P.underlying t with
  |some (.slice e)=>match P.info? e,intBetween (ρ c) most with
   |some i,some cap=>match i.zero,intBetween (ρ l) cap with
    |some z,some len =>
     let size:=i.size
     if flat z=true/\z.cells.size=size/\i.bytes<=4096/\z.cells.toList.all one=true then
      some (.val (.slice (some ⟨H.next,0,none⟩) len cap) (H.new (some (.row ((Zh (cap*size)).map (z.cells[· % z.cells.size]!)) e))))
     else none
    |_,_=>none
   |_,_=>none
  |_=>none
 |.slice t x lo hi mx=>match ρ x with
  |.string _=>dflat P o ρ H
  |v=>dslice P t v (lo.map ρ) (hi.map ρ) (mx.map ρ) H
 |.fieldAddr s x f=>match P.underlying s,ρ x with
  |some (.struct fs),.pointer (some a)=>match fs.toList[f]? with
   |some fd=>if a.spot.isNone && !(Zs (P.cellsOf fd.type) 0) then some (.val (.pointer (some ⟨a.block,a.off+fd.offset,none⟩)) H) else none
   |none=>none
  |_,_=>none
 |.field t x f=>match P.underlying t,ρ x with
  |some (.struct fs),.agg cs=>match fs.toList[f]? with
   |some fd=>(dpart P fd.type cs fd.offset).map (.val · H)
   |none=>none
  |_,_=>none
 |.indexAddr t x ix=>match P.underlying t,ρ x with
  |some (.slice e),.slice (some a) n _=>match intBetween (ρ ix) (n - 1),Zs n 0,a.spot,(P.info? e).isSome with
   |some i,false,none,true=>some (.val (.pointer (some ⟨a.block,a.off+i*P.cellsOf e,none⟩)) H)
   |_,_,_,_=>none
  |some (.array n e),.pointer (some a)=>match intBetween (ρ ix) (n - 1),Zs n 0,a.spot,(P.info? e).isSome with
   |some i,false,none,true=>some (.val (.pointer (some ⟨a.block,a.off+i*P.cellsOf e,none⟩)) H)
   |_,_,_,_=>none
  |_,_=>none
 |.index t x ix=>match P.underlying t,ρ x with
  |some (.array n e),.agg cs=>match intBetween (ρ ix) (n - 1),Zs n 0 with
   |some i,false=>(dpart P e cs (i*P.cellsOf e)).map (.val · H)
   |_,_=>none
  |_,_=>dflat P o ρ H
 |.lookup t m k ok=>dlookup P t (ρ m) (ρ k) ok H
 |.mapUpdate t m k x=>dupdate P t (ρ m) (ρ k) (ρ x) H
 |.insert t m k x=>dupdate P t (ρ m) (ρ k) (ρ x) H
 |.typeAssert x xt at_ ok=>match ρ x with
  |.iface t v=>(dassert P t v at_ ok).map (.val · H)
  |_=>dflat P o ρ H
 |.extract t ix=>match ρ t with
  |.tuple vs=>(vs.toList[ix]?).map (.val · H)
  |_=>none
 |.range t x=>match P.underlying t,ρ x with
  |some .string,.string s=>some (.val (.pointer (some ⟨H.next,0,none⟩)) (H.new (some (.siter s 0))))
  |some (.map _ _),.map (some m)=>match H.get m with
   |some (.map _ clock)=>some (.val (.pointer (some ⟨H.next,0,none⟩)) (H.new (some (.mit m clock))))
   |_=>none
  |_,_=>none
 |.next it true=>match ρ it with
  |.pointer (some ⟨r,0,none⟩)=>match H.get r with
   |some (.siter s pos) =>
    if pos < s.size then
     let (c,width):=Utf8.decode s pos
     some (.val (.tuple #[.bool true,goInt pos,.int .i32 c]) (H.put r (some (.siter s (pos+width)))))
    else some (.val (.tuple #[.bool false]) H)
   |_=>none
  |_=>none
 |.call c=>match c.callee with
  |.builtin b=>match b,c.args.toList with
   |.len,[x]=>match ρ x with
    |.slice _ n _=>match (c.argTypes[0]?).bind P.underlying with
     |some (.slice _)=>some (.val (goInt n) H)
     |_=>none
    |.map (some r)=>match (c.argTypes[0]?).bind P.underlying,H.get r with
     |some (.map _ _),some (.map es _)=>some (.val (goInt es.length) H)
     |_,_=>none
    |_=>dflat P o ρ H
   |.append,[s,x]=>match c.argTypes.toList with
    |[t,xt]=>match dzeros P t xt (ρ s) (ρ x) H with
     |some r=>some r
     |none=>dappend P c.argTypes (ρ s) (ρ x) H
    |_=>none
   |.cap,_=>dflat P o ρ H
   |.copy,[d,x]=>dcopy P c.argTypes (ρ d) (ρ x) H
   |.clear,[x]=>dclear P c.argTypes (ρ x) H
   |.delete,[m,k]=>match c.argTypes[0]? with
    |some t=>ddelete P t (ρ m) (ρ k) H
    |none=>none
   |.recover,[]=>some .recov
   |.min,_|.max,_=>dflat P o ρ H
   |_,_=>none
  |.value f=>match ρ f with
   |.func (.func f) first captured =>
    match dcall1 P f (first.toList++c.args.toList.map ρ++captured.toList) with
    |some r=>some r
    |none=>dflat P o ρ H
   |.func (.yield l) first _=>some (.yield l (first.toList++c.args.toList.map ρ))
   |_=>none
  |_=>none
 |.defer c=>match c.callee with
  |.value f=>match ρ f with
   |.func (.func f) first captured=>some (.dfr { target:=.fn (.func f) captured,args:=first++c.args.map ρ })
   |_=>none
  |_=>none
 |.panic x=>match ρ x with
  |.iface t v=>some (.panic (.iface t v))
  |_=>none
 |_=>none
def dalloc (P:Program) (o:Oper) (ρ:Operand->Value):Option (Blk × (Nat->Value)) :=
 match dop P o ρ ⟨0,.nil⟩ with
 |some (.val v H)=>match H.get 0,v with
  |some B,.pointer (some ⟨0,0,none⟩)=>some (B,fun i=>.pointer (some ⟨i,0,none⟩))
  |some B,.slice (some ⟨0,0,none⟩) n c=>some (B,fun i=>.slice (some ⟨i,0,none⟩) n c)
  |some B,.map (some 0)=>some (B,fun i=>.map (some i))
  |_,_=>none
 |_=>none
def isAlloc (o:Oper):Bool :=
 match o.op with
 |.alloc _|.box ..|.buildSlice ..|.makeSlice ..|.makeMap ..|.range ..=>true
 |_=>false
inductive Ex where
 |normal
 |exit (id:Nat)
 |ret
 |panic (chain:List PanicEntry)
structure St where
 tm:Tr Value
 ds:List Deferred
 H:Heap
def St.put (s:St) (d:Option Tmp) (v:Value) (H:Heap):St :=
 match d with
 |some d=>⟨s.tm.put d (some v),s.ds,H⟩
 |none=>⟨s.tm,s.ds,H⟩
inductive En where
 |ret (v:Value)
 |panic (chain:List PanicEntry)
def initTm:Nat->List Value->Tr Value->Tr Value
 |_,[],t=>t
 |i,v :: vs,t=>initTm (i+1) vs (t.put i (some v))
def dres1 (P:Program) (tm:Tr Value) (H:Heap):ResultVar->Option Value
 |.tmp t=>some ((tm.get t).getD junk)
 |.cell a t=>match tm.get a with
  |some (.pointer (some ad))=>dload P t ad H
  |_=>none
def dresL (P:Program) (tm:Tr Value) (H:Heap):List ResultVar->Option (List Value)
 |[]=>some []
 |r :: rs=>match dres1 P tm H r,dresL P tm H rs with
  |some v,some vs=>some (v :: vs)
  |_,_=>none
def dres (P:Program) (fn:Func) (tm:Tr Value) (H:Heap):Option Value :=
 match dresL P tm H fn.results.toList with
 |some [v]=>some v
 |some vs=>some (.tuple ⟨vs⟩)
 |none=>none
def dwanted (ops:Array Oper) (tm:Tr Value) (o:Oper):Option Bool :=
 match o.guard with
 |none=>some true
 |some (j,want)=>match (ops[j]?).bind (·.dst) with
  |some d=>match tm.get d with
   |some (.bool b)=>some (b == want)
   |some (.tuple _)=>some false
   |_=>none
  |none=>some false
def isEff (o:Oper):Bool :=
 match o.op with
 |.call c=>match c.callee with
  |.builtin b=>match b with
   |.len|.min|.max|.cap=>false
   |_=>true
  |_=>true
 |.store ..|.mapUpdate ..|.mapEntry ..|.entryStore ..|.next ..|.panic _|.defer _|.go _|.send ..|.recv ..|.select ..|.insert ..=>true
 |_=>false
def isRead (o:Oper):Bool :=
 match o.op with
 |.load ..|.lookup ..|.convert ..|.slice ..=>true
 |.call c=>match c.callee with
  |.builtin .len=>true
  |_=>false
 |_=>false
mutual
def veq:Value->Value->Bool
 |.bool a,.bool b=>a == b
 |.int k a,.int j b=>(k == j) && (a == b)
 |.float k a,.float j b=>(k == j) && Zs a b
 |.string a,.string b=>a.data.toList == b.data.toList
 |.pointer a,.pointer b=>a == b
 |.slice a n c,.slice b m d=>(a == b) && Zs n m && Zs c d
 |.map a,.map b=>a == b
 |.chan (some a),.chan (some b)=>Zs a b
 |.func (.func f) ⟨a⟩ ⟨b⟩,.func (.func g) ⟨c⟩ ⟨d⟩=>Zs f g && veqL a c && veqL b d
 |.nilFunc,.nilFunc=>true
 |.iface t v,.iface u w=>Zs t u && veq v w
 |.nilIface,.nilIface=>true
 |.agg ⟨a⟩,.agg ⟨b⟩=>veqL a b
 |.tuple ⟨a⟩,.tuple ⟨b⟩=>veqL a b
 |_,_=>false
def veqL:List Value->List Value->Bool
 |[],[]=>true
 |v :: vs,w :: ws=>veq v w && veqL vs ws
 |_,_=>false
end
def sameOn (P:Program) (o:Oper) (ρ:Operand->Value) (v:Value):List Heap->Bool
 |[]=>true
 |H :: hs=>(match dop P o ρ H with
  |some (.val u H')=>veq u v && Zs H'.next H.next
  |_=>false) && sameOn P o ρ v hs
def effsIn (effs:List Nat) (m:Nat):Nat:=(effs.filter fun e=>m.testBit e).length
def dnon (P:Program) (ops:Array Oper) (b:Array Nat) (effs:List Nat) (base:Nat) (hs:List Heap):List Nat->Tr Value->Heap->Option (Tr Value × Heap)
 |[],tm,H=>some (tm,H)
 |i :: L,tm,H=>match ops[i]? with
  |none=>none
  |some o=>match dwanted ops tm o with
   |none=>none
   |some false=>dnon P ops b effs base hs L (match o.dst with|some d=>tm.put d (some undef)|none=>tm) H
   |some true=>match isAlloc o with
    |true=>match dalloc P o (ev tm) with
     |some (B,mk)=>dnon P ops b effs base hs L (match o.dst with|some d=>tm.put d (some (mk (base+i)))|none=>tm) (H.put (base+i) (some B))
     |none=>none
    |false=>match hs with
     |[]=>none
     |G :: gs=>match dop P o (ev tm) G with
      |some (.val v G')=>match !(isRead o) || (Zs G'.next G.next && sameOn P o (ev tm) v (gs.take (gs.length - effsIn effs (b.getD i 0)))) with
       |true=>dnon P ops b effs base hs L (match o.dst with|some d=>tm.put d (some v)|none=>tm) H
       |false=>none
      |_=>none
def pending (all:List Nat) (effs:List Nat) (m done:Nat):List Nat:=all.filter fun i=>m.testBit i && !done.testBit i && !effs.contains i
def twin (b:Array Nat):List Nat->Option (Nat × Nat)
 |[e,f]=>match (b.getD f 0).testBit e || Nat.ble f e with
  |true=>none
  |false=>some (e,f)
 |_=>none
def stBlk (o:Oper) (ρ:Operand->Value):Option Nat :=
 match o.op with
 |.store _ a _=>match ρ a with
  |.pointer (some p)=>some p.block
  |_=>none
 |_=>none
def isSt (ops:Array Oper) (e:Nat):Bool :=
 match ops[e]? with
 |some o=>o.dst.isNone && o.guard.isNone && (match o.op with|.store ..=>true|_=>false)
 |none=>false
def dtwin (P:Program) (ops:Array Oper) (b:Array Nat) (effs:List Nat) (base done:Nat) (hs:List Heap) (tm:Tr Value) (e f:Nat):Option (Nat × Nat) :=
 match hs with
 |[]=>none
 |G :: _=>match dnon P ops b effs base hs (pending (Zh ops.size) effs (b.getD e 0) done) tm G,dnon P ops b effs base hs (pending (Zh ops.size) effs (b.getD f 0) done) tm G,ops[e]?,ops[f]? with
  |some (t1,_),some (t2,_),some o,some o2=>match stBlk o (ev t1),stBlk o2 (ev t2) with
   |some p,some q=>some (p,q)
   |_,_=>none
  |_,_,_,_=>none
def cellEq (v u:Value):Bool:=veq v u || (match v,u with|.chan none,.chan none=>true|_,_=>false)
def cellsEq:List Value->List Value->Bool
 |[],[]=>true
 |v :: vs,u :: us=>cellEq v u && cellsEq vs us
 |_,_=>false
def blkEq:Option Blk->Option Blk->Bool
 |none,none=>true
 |some (.row cs e),some (.row cs' e')=>Zs e e' && cellsEq cs cs'
 |some (.ro cs e),some (.ro cs' e')=>Zs e e' && cellsEq cs cs'
 |some (.map [] c),some (.map [] c')=>Zs c c'
 |_,_=>false
def slotEq:Option Value->Option Value->Bool
 |none,none=>true
 |some v,some u=>cellEq v u
 |_,_=>false
def agree (ops:Array Oper) (base p q:Nat) (st st':St):Bool :=
 ops.toList.all (fun o=>match o.dst with|some d=>slotEq (st.tm.get d) (st'.tm.get d)|none=>true) &&
 blkEq (st.H.get p) (st'.H.get p) && blkEq (st.H.get q) (st'.H.get q) && (Zh ops.size).all fun i=>blkEq (st.H.get (base+i)) (st'.H.get (base+i))
inductive R1 where
 |val (v:Value) (ds:List Deferred) (H:Heap)
 |panic (ch:List PanicEntry) (H:Heap)
def headRegion:Code->Option (Array Oper × List Code)
 |.region _ ops false=>some (ops,[])
 |.seq a b=>match headRegion a with
  |some (ops,rs)=>some (ops,rs++[b])
  |none=>none
 |_=>none
def isRecover (o:Oper):Bool :=
 match o.guard,o.op with
 |none,.call c=>match c.callee,c.args.toList with
  |.builtin .recover,[]=>true
  |_,_=>false
 |_,_=>false
def drecov:Option (List PanicEntry)->Value × Option (List PanicEntry)
 |some (e :: older)=>if e.recovered || e.goexit then (.nilIface,some (e :: older)) else (e.v,some ({ e with recovered:=true } :: older))
 |m=>(.nilIface,m)
def dsettle:Option (List PanicEntry)->Option (List PanicEntry)
 |some (e :: older)=>if e.recovered then (match older.dropWhile (!·.goexit) with|[]=>none|r=>some r) else some (e :: older)
 |m=>m
def dendRound (l:Nat) (jump:Option Code) (v:Value) (s:LoopState) (H:Heap):Option (Value × Heap) :=
 match H.get l with
 |some (.loop _ _ fn tm ps as bo dd)=>some (v,H.put l (some (.loop s jump fn tm ps as bo dd)))
 |_=>none
def dplain (P:Program) (ops:Array Oper):List Nat->Tr Value->Heap->Option (Tr Value × Heap)
 |[],tm,H=>some (tm,H)
 |i :: rest,tm,H=>match ops[i]? with
  |some o=>match o.guard,dop P o (ev tm) H with
   |none,some (.val v H')=>dplain P ops rest (match o.dst with|some d=>tm.put d (some v)|none=>tm) H'
   |_,_=>none
  |none=>none
structure Ctx where
 fn:FuncId
 round:Option Nat
structure Ok where
 mask:Nat
 K:FuncId->List Value->Heap->Option (En × Heap)
def Ok.testBit (o:Ok) (f:Nat):Bool:=o.mask.testBit f
def Ok.run (mask:Nat):Ok:=⟨mask,fun _ _ _=>none⟩
def dmight (P:Program) (f:FuncId):Value :=
 match P.funcs[f]? with
 |some fn=>match fn.resultTypes.toList with
  |[t]=>match pureRun P (zeroValue t) with
   |some z=>z
   |none=>undef
  |_=>undef
 |none=>undef
def mild (ops:Array Oper) (e:Nat):Bool :=
 match ops[e]? with
 |some o=>match o.op with
  |.store ..|.mapUpdate ..|.insert ..=>true
  |.call c=>match c.callee with
   |.builtin .append=>true
   |_=>false
  |_=>false
 |none=>false
def clr (ops:Array Oper) (tm:Tr Value):Tr Value:=ops.toList.foldl (fun t o=>match o.dst with|some d=>t.put d none|none=>t) tm
def dpan (P:Program) (call:FuncId->List Value->Heap->Option (En × Heap)) (draw:List Nat->Nat->List Heap->Tr Value->Option St) (ops:Array Oper) (b:Array Nat) (effs:List Nat) (base:Nat) (G:Heap) (tm:Tr Value):Option (List PanicEntry × Heap) :=
 match effs with
 |[]=>none
 |e :: es=>match dnon P ops b effs base [G] (pending (Zh ops.size) effs (b.getD e 0) 0) tm G with
  |none=>none
  |some (tm1,H1)=>match ops[e]? with
   |none=>none
   |some o=>match dwanted ops tm1 o,dop P o (ev tm1) H1,es.all (mild ops) with
    |some true,some (.call f args),true=>match call f args H1,draw es (0 ||| b.getD e 0 ||| 2 ^ e) [H1,G] (match o.dst with|some d=>tm1.put d (some (dmight P f))|none=>tm1) with
     |some (.panic ch,H2),some _=>some (ch,H2)
     |_,_=>none
    |_,_,_=>none
structure MapParts where
 it:Tmp
 d1:Tmp
 d2:Tmp
 j:Nat
 k:Nat
 ops:Array Oper
 dst:Option Tmp
 rest:List Code
def mapTail (it d1 d2:Tmp) (j k:Nat) (b:Code):Option MapParts :=
 match headRegion b with
 |some (ops,rest)=>match ops[0]? with
  |some o=>match o.guard,o.op with
   |none,.entry (.tmp i)=>if Zs i it then some ⟨it,d1,d2,j,k,ops,o.dst,rest⟩ else none
   |_,_=>none
  |none=>none
 |none=>none
def mapHead (ops:List Oper):Option (Tmp × Tmp × Tmp) :=
 match ops with
 |[o1,o2]=>match o1.guard,o1.op,o1.dst,o2.guard,o2.op,o2.dst with
  |none,.next (.tmp it) false,some d1,none,.extract (.tmp d) 0,some d2=>if Zs d d1 && !(Zs d1 d2) && !(Zs it d1) && !(Zs it d2) then some (it,d1,d2) else none
  |_,_,_,_,_,_=>none
 |_=>none
def mapShape (c:Code):Option MapParts :=
 match c with
 |.seq (.region _ ops false) (.seq (.cond (.tmp t) .skip (.exit j)) (.block k b))=>match mapHead ops.toList with
  |some (it,d1,d2)=>if Zs t d2 then mapTail it d1 d2 j k b else none
  |none=>none
 |_=>none
mutual
noncomputable def dcode (P:Program) (ok:Ok):Nat->Ctx->Code->St->Option (Ex × St)
 |0,_,_,_=>none
 |n+1,x,c,st =>
  match c with
  |.skip|.label _=>some (.normal,st)
  |.region _ ops false=>dops P ok n x ops (Zh ops.size) st
  |.region _ ops true =>
   let effs:=(Zh ops.size).filter fun i=>match ops[i]? with|some o=>isEff o|none=>false
   match ddraw P ok n x ops (Region.before ops) effs st.H.next effs 0 [⟨st.H.next+ops.size,st.H.t⟩] st.tm st.ds with
   |some st1=>some (.normal,st1)
   |none=>match dpan P (dcall P ok n) (fun es done hs tm=>ddraw P ok n x ops (Region.before ops) effs st.H.next es done hs tm st.ds) ops (Region.before ops) effs st.H.next ⟨st.H.next+ops.size,st.H.t⟩ st.tm with
    |some (ch,H)=>some (.panic ch,⟨clr ops st.tm,st.ds,H⟩)
    |none=>none
  |.seq a b=>match dcode P ok n x a st with
   |some (.normal,st1)=>dcode P ok n x b st1
   |r=>r
  |.cond c a b=>match ev st.tm c with
   |.bool true=>dcode P ok n x a st
   |.bool false=>dcode P ok n x b st
   |_=>none
  |.block id b=>match dcode P ok n x b st with
   |some (.exit j,st1)=>if Zs j id then some (.normal,st1) else some (.exit j,st1)
   |r=>r
  |.scope b=>dcode P ok n x b st
  |.loop b=>match mapShape b with
   |none=>match dcode P ok n x b st with
    |some (.normal,st1)=>dcode P ok n x (.loop b) st1
    |r=>r
   |some _=>none
  |.exit id=>some (.exit id,st)
  |.ret=>some (.ret,st)
  |.rangeFunc f params assign body =>
   match x.round,ev st.tm f with
   |none,.func (.func g) first captured =>
    if (dcall1 P g []).isNone then none else
    let dl:=st.H.next;let H1:=st.H.new (some .dfr);let l:=H1.next;let H2:=H1.new (some (.loop .ready none x.fn st.tm params.toList assign body dl))
    match dcall P ok n g (first.toList++[.func (.yield l) #[] #[]]++captured.toList) H2 with
    |some (.ret _,H3)=>match H3.get l with
     |some (.loop s pend fn tm ps as bo dd)=>match s with
      |.busy=>none
      |_ =>
       let H4:=H3.put l (some (.loop .exhausted pend fn tm ps as bo dd));let st1:St:=⟨st.tm,{ target:=.collected dl,args:=#[] } :: st.ds,H4⟩
       match pend with
       |none=>some (.normal,st1)
       |some c=>dcode P ok n x c st1
     |_=>none
    |_=>none
   |_,_=>none
  |_=>none
noncomputable def dseq (P:Program) (ok:Ok):Nat->Ctx->List Code->St->Option (Ex × St)
 |0,_,_,_=>none
 |_+1,_,[],st=>some (.normal,st)
 |n+1,x,c :: cs,st=>match dcode P ok n x c st with
  |some (.normal,st1)=>dseq P ok n x cs st1
  |r=>r
noncomputable def dops (P:Program) (ok:Ok):Nat->Ctx->Array Oper->List Nat->St->Option (Ex × St)
 |0,_,_,_,_=>none
 |_+1,_,_,[],st=>some (.normal,st)
 |n+1,x,ops,i :: rest,st =>
  match ops[i]? with
  |none=>none
  |some o=>match dwanted ops st.tm o with
   |none=>none
   |some false=>dops P ok n x ops rest (st.put o.dst undef st.H)
   |some true=>match dop1 P ok n x o (ev st.tm) st.ds st.H with
    |some (.val v ds H)=>dops P ok n x ops rest (St.put ⟨st.tm,ds,st.H⟩ o.dst v H)
    |some (.panic ch H)=>some (.panic ch,⟨st.tm,st.ds,H⟩)
    |none=>none
noncomputable def dop1 (P:Program) (ok:Ok):Nat->Ctx->Oper->(Operand->Value)->List Deferred->Heap->Option R1
 |0,_,_,_,_,_=>none
 |n+1,x,o,ρ,ds,H =>
  match dop P o ρ H with
  |some (.val v H')=>some (.val v ds H')
  |some (.call f args)=>match dcall P ok n f args H with
   |some (.ret v,H')=>some (.val v ds H')
   |some (.panic ch,H')=>some (.panic ch H')
   |none=>none
  |some (.yield l args)=>match dround P ok n l args H with
   |some (v,H')=>some (.val v ds H')
   |none=>none
  |some (.dfr d)=>match x.round with
   |none=>some (.val undef (d :: ds) H)
   |some _=>none
  |some (.panic v)=>some (.panic [{ v,recovered:=false }] H)
  |_=>none
noncomputable def ddraw (P:Program) (ok:Ok):Nat->Ctx->Array Oper->Array Nat->List Nat->Nat->List Nat->Nat->List Heap->Tr Value->List Deferred->Option St
 |0,_,_,_,_,_,_,_,_,_,_=>none
 |n+1,x,ops,b,effs,base,es,done,hs,tm,ds =>
  match twin b es with
  |none=>dstage P ok n x ops b effs base es done hs tm ds
  |some (e,f)=>match dstage P ok n x ops b effs base [e,f] done hs tm ds,dstage P ok n x ops b effs base [f,e] done hs tm ds with
   |some st,some st'=>match dtwin P ops b effs base done hs tm e f with
    |some (p,q)=>if agree ops base p q st st' then some st else none
    |none=>none
   |_,_=>none
noncomputable def dstage (P:Program) (ok:Ok):Nat->Ctx->Array Oper->Array Nat->List Nat->Nat->List Nat->Nat->List Heap->Tr Value->List Deferred->Option St
 |0,_,_,_,_,_,_,_,_,_,_=>none
 |n+1,x,ops,b,effs,base,es,done,hs,tm,ds =>
  match hs with
  |[]=>none
  |G :: _=>match es with
   |[]=>match dnon P ops b effs base hs ((Zh ops.size).filter fun i=>!done.testBit i && !effs.contains i) tm G with
    |some (tm1,H1)=>some ⟨tm1,ds,H1⟩
    |none=>none
   |e :: es =>
    let m:=b.getD e 0
    match dnon P ops b effs base hs (pending (Zh ops.size) effs m done) tm G with
    |none=>none
    |some (tm1,H1)=>match ops[e]? with
     |none=>none
     |some o =>
      let done1:=done ||| m ||| 2 ^ e
      match dwanted ops tm1 o with
      |none=>none
      |some false=>ddraw P ok n x ops b effs base es done1 (H1 :: hs) (match o.dst with|some d=>tm1.put d (some undef)|none=>tm1) ds
      |some true=>match dop1 P ok n x o (ev tm1) ds H1 with
       |some (.val v ds1 H2)=>ddraw P ok n x ops b effs base es done1 (H2 :: hs) (match o.dst with|some d=>tm1.put d (some v)|none=>tm1) ds1
       |_=>none
noncomputable def dcall (P:Program) (ok:Ok):Nat->FuncId->List Value->Heap->Option (En × Heap)
 |0,_,_,_=>none
 |n+1,f,args,H =>
  match ok.K f args H with
  |some r=>some r
  |none=>match P.funcs[f]?,ok.testBit f with
   |some fn,true=>match fn.body with
    |some c=>match dcode P ok n ⟨f,none⟩ c ⟨initTm 0 args .nil,[],H⟩ with
     |some (.normal,st)|some (.ret,st)=>dleave P ok n fn st.tm st.ds none st.H
     |some (.panic ch,st)=>dleave P ok n fn st.tm st.ds (some ch) st.H
     |_=>none
    |none=>none
   |_,_=>none
noncomputable def dleave (P:Program) (ok:Ok):Nat->Func->Tr Value->List Deferred->Option (List PanicEntry)->Heap->Option (En × Heap)
 |0,_,_,_,_,_=>none
 |_+1,fn,tm,[],none,H=>match dres P fn tm H with
  |some v=>some (.ret v,H)
  |none=>none
 |_+1,_,_,[],some ch,H=>some (.panic ch,H)
 |n+1,fn,tm,d :: ds,m,H=>match d.target with
  |.collected l=>match H.get l with
   |some .dfr=>dleave P ok n fn tm ds m (H.put l none)
   |_=>none
  |.fn (.func g) captured=>match P.funcs[g]?,ok.testBit g && (dcall1 P g []).isSome with
   |some gn,true=>match gn.body with
    |some c=>match headRegion c with
     |some (ops,rest)=>match ops[0]? with
      |some o=>if isRecover o then
        let r:=drecov m;let st0:=St.put ⟨initTm 0 (d.args.toList++captured.toList) .nil,[],H⟩ o.dst r.1 H
        match dplain P ops ((Zh ops.size).drop 1) st0.tm H with
        |some (tm1,H1)=>match dseq P ok n ⟨g,none⟩ rest ⟨tm1,[],H1⟩ with
         |some (.normal,st2)|some (.ret,st2)=>if st2.ds.isEmpty && gn.results.isEmpty then dleave P ok n fn tm ds (dsettle r.2) st2.H else none
         |_=>none
        |none=>none
       else none
      |none=>none
     |none=>none
    |none=>none
   |_,_=>none
  |_=>none
noncomputable def dround (P:Program) (ok:Ok):Nat->Nat->List Value->Heap->Option (Value × Heap)
 |0,_,_,_=>none
 |n+1,l,args,H=>match H.get l with
  |some (.loop .ready pend fn tm ps as bo dd) =>
   if Zs args.length ps.length then
    let tm1:=(ps.zip args).foldl (fun t p=>t.put p.1 (some p.2)) tm
    match dcode P ok n ⟨fn,some l⟩ as ⟨tm1,[],H⟩ with
    |some (.normal,st1)=>match st1.H.get l with
     |some (.loop .ready pend1 fn1 tm1 ps1 as1 bo1 d1) =>
      match dcode P ok n ⟨fn,some l⟩ bo ⟨st1.tm,st1.ds,st1.H.put l (some (.loop .busy pend1 fn1 tm1 ps1 as1 bo1 d1))⟩ with
      |some (.normal,st2)=>dendRound l none (.bool true) .ready st2.H
      |some (.ret,st2)=>dendRound l (some .ret) (.bool false) .done st2.H
      |some (.exit id,st2)=>dendRound l (some (.exit id)) (.bool false) .done st2.H
      |_=>none
     |_=>none
    |_=>none
   else none
  |_=>none
end
end Go.Hb
end

section
namespace Go.Hb
open Go Go.RowKit
namespace Tr
variable {α:Type}
theorem z3o (t:Tr α) (m:Nat):t.get m=if m=0 then t.val else if m % 2=1 then t.left.get (m / 2) else t.right.get (m / 2 - 1):=by
 cases t with
 |nil=>simp [get,val,left,right]
 |node l v r =>
  rw[get];by_cases h0:m=0
  ·subst h0;rfl
  ·have e0:Zs m 0=false:=by rw[<-ZL,Zt];exact h0
   rw[e0,if_neg h0];by_cases h1:m % 2=1
   ·have e1:Zs (m % 2) 1=true:=by rw[Zt];exact h1
    rw[if_pos h1];simp only[e1,left]
   ·have e1:Zs (m % 2) 1=false:=by rw[<-ZL,Zt];exact h1
    rw[if_neg h1];simp only[e1,right]
theorem zek:∀(f:Nat) (t:Tr α) (n:Nat) (a:Option α) (m:Nat),n < f->(set f t n a).get m=if m=n then a else t.get m
 |0,_,_,_,_,h=>by omega
 |f+1,t,n,a,m,h=>by
  rw[set];by_cases h0:n=0
  ·subst h0;rw[z3o t m];show (Tr.node t.left a t.right).get m=_;rw[z3o];by_cases hm:m=0
   ·simp [hm,val]
   ·simp [hm,left,right]
  ·have e0:Zs n 0=false:=by rw[<-ZL,Zt];exact h0
   simp only[e0];by_cases h1:n % 2=1
   ·have e1:Zs (n % 2) 1=true:=by rw[Zt];exact h1
    simp only[e1];rw[z3o,z3o t m];by_cases hm:m=0
    ·subst hm;rw[if_pos rfl,if_neg (by omega),if_pos rfl];rfl
    ·rw[if_neg hm,if_neg hm];by_cases hm1:m % 2=1
     ·rw[if_pos hm1,if_pos hm1];show (set f t.left (n / 2) a).get (m / 2)=_;rw[zek f _ _ _ _ (by omega)];by_cases hmn:m=n
      ·rw[if_pos hmn,if_pos (by omega)]
      ·rw[if_neg hmn,if_neg (by omega)]
     ·rw[if_neg hm1,if_neg hm1,if_neg (by omega)];rfl
   ·have e1:Zs (n % 2) 1=false:=by rw[<-ZL,Zt];exact h1
    simp only[e1];rw[z3o,z3o t m];by_cases hm:m=0
    ·subst hm;rw[if_pos rfl,if_neg (by omega),if_pos rfl];rfl
    ·rw[if_neg hm,if_neg hm];by_cases hm1:m % 2=1
     ·rw[if_pos hm1,if_pos hm1,if_neg (by omega)];rfl
     ·rw[if_neg hm1,if_neg hm1];show (set f t.right (n / 2 - 1) a).get (m / 2 - 1)=_;rw[zek f _ _ _ _ (by omega)];by_cases hmn:m=n
      ·rw[if_pos hmn,if_pos (by omega)]
      ·rw[if_neg hmn,if_neg (by omega)]
theorem get_put (t:Tr α) (n:Nat) (a:Option α) (m:Nat):(t.put n a).get m=if m=n then a else t.get m:=zek _ _ _ _ _ (Zf n)
end Tr
theorem Heap.get_put (H:Heap) (n:Nat) (b:Option Blk) (m:Nat):(H.put n b).get m=if m=n then b else H.get m:=Tr.get_put _ _ _ _
theorem Heap.get_new (H:Heap) (b:Option Blk) (m:Nat):(H.new b).get m=if m=H.next then b else H.get m:=Tr.get_put _ _ _ _
inductive Loc where
 |none
 |dead
 |live (b S es:Nat)
section
variable (σ:Nat->Loc) (τ:Nat->Value)
def AR (a a':Addr):Prop :=
 match a.spot with
 |some _=>True
 |none=>match σ a.block with
  |.none=>False
  |.dead=>True
  |.live b _ _=>a=⟨a.block,a.off,none⟩/\a'=⟨b,a.off,none⟩
def room (a:Addr) (c:Nat):Prop:=c<=maxLen/\(a.spot=none->∀b S es,σ a.block=.live b S es->es≠0->a.off+c*es=S)
def BR (r r':Nat):Prop :=
 match σ r with
 |.none=>False
 |.dead=>True
 |.live b _ _=>r'=b
inductive VR:Value->Value->Prop
 |junk (v'):VR (.chan none) v'
 |tok (j:Nat):VR (.chan (some j)) (τ j)
 |flat (v):flat v=true->VR v v
 |ptr (a a'):AR σ a a'->VR (.pointer (some a)) (.pointer (some a'))
 |slice (a a':Addr) (n c c':Nat):AR σ a a'->n<=c->c<=c'->room σ a c'->VR (.slice (some a) n c) (.slice (some a') n c')
 |map (r r':Nat):BR σ r r'->VR (.map (some r)) (.map (some r'))
 |func (f:FuncId) (x y x' y':Array Value):x.size=x'.size->(∀(i:Nat) v v',x[i]?=some v->x'[i]?=some v'->VR v v') ->
   y.size=y'.size->(∀(i:Nat) v v',y[i]?=some v->y'[i]?=some v'->VR v v')->VR (.func (.func f) x y) (.func (.func f) x' y')
 |yield (l l':Nat):BR σ l l'->VR (.func (.yield l) #[] #[]) (.func (.yield l') #[] #[])
 |iface (t:TypeId) (v v'):VR v v'->VR (.iface t v) (.iface t v')
 |agg (x x':Array Value):x.size=x'.size->(∀(i:Nat) v v',x[i]?=some v->x'[i]?=some v'->VR v v')->VR (.agg x) (.agg x')
 |tuple (x x':Array Value):x.size=x'.size->(∀(i:Nat) v v',x[i]?=some v->x'[i]?=some v'->VR v v')->VR (.tuple x) (.tuple x')
def LR (l l':List Value):Prop:=l.length=l'.length/\∀(i:Nat) v v',l[i]?=some v->l'[i]?=some v'->VR σ τ v v'
def RA (x x':Array Value):Prop:=LR σ τ x.toList x'.toList
end
def Ext (σ σ':Nat->Loc):Prop:=∀i,σ i=.none\/σ' i=σ i\/(σ i≠.none/\σ' i=.dead)
theorem Ext.refl (σ):Ext σ σ:=fun _=>.inr (.inl rfl)
theorem Ext.trans {a b c:Nat->Loc}(h:Ext a b) (k:Ext b c):Ext a c:=by
 intro i;rcases h i with h|h|⟨h,h'⟩
 ·exact .inl h
 ·rcases k i with k|k|⟨k,k'⟩
  ·rw[h] at k;exact .inl k
  ·exact .inr (.inl (k.trans h))
  ·exact .inr (.inr ⟨by rw[<-h];exact k,k'⟩)
 ·rcases k i with k|k|⟨k,k'⟩
  ·rw[h'] at k;cases k
  ·exact .inr (.inr ⟨h,by rw[k,h']⟩)
  ·exact .inr (.inr ⟨h,k'⟩)
theorem AR.ext {σ σ':Nat->Loc}(he:Ext σ σ') {a a':Addr}(h:AR σ a a'):AR σ' a a':=by
 unfold AR at *;cases hsp:a.spot with
 |some _=>trivial
 |none =>
 rw[hsp] at h;simp only at h ⊢;rcases he a.block with h0|h0|⟨_,h0⟩
 ·rw[h0] at h;exact h.elim
 ·rw[h0];exact h
 ·rw[h0];trivial
theorem BR.ext {σ σ':Nat->Loc}(he:Ext σ σ') {a a':Nat}(h:BR σ a a'):BR σ' a a':=by
 unfold BR at *;rcases he a with h0|h0|⟨_,h0⟩
 ·rw[h0] at h;exact h.elim
 ·rw[h0];exact h
 ·rw[h0];trivial
theorem VR.ext {σ σ':Nat->Loc}{τ}(he:Ext σ σ') {v v':Value}(h:VR σ τ v v'):VR σ' τ v v':=by
 induction h with
 |junk v'=>exact .junk v'
 |tok j=>exact .tok j
 |flat v h=>exact .flat v h
 |ptr a a' h=>exact .ptr a a' (h.ext he)
 |slice a a' n c c' h h1 h2 h3 =>
  refine .slice a a' n c c' (h.ext he) h1 h2 ⟨h3.1,fun hsp b S es hb=>?_⟩;rcases he a.block with h0|h0|⟨_,h0⟩
  ·unfold AR at h;rw[hsp] at h;simp only[h0] at h
  ·exact h3.2 hsp b S es (h0 ▸ hb)
  ·rw[h0] at hb;cases hb
 |map r r' h=>exact .map r r' (h.ext he)
 |func f x y x' y' h1 h2 h3 h4 i1 i2=>exact .func f x y x' y' h1 i1 h3 i2
 |yield l l' h=>exact .yield l l' (h.ext he)
 |iface t v v' h ih=>exact .iface t v v' ih
 |agg x x' h1 h2 ih=>exact .agg x x' h1 ih
 |tuple x x' h1 h2 ih=>exact .tuple x x' h1 ih
section
variable {σ:Nat->Loc}{τ:Nat->Value}
theorem LR.ext {σ':Nat->Loc}(he:Ext σ σ') {l l'}(h:LR σ τ l l'):LR σ' τ l l':=⟨h.1,fun i v v' a b=>(h.2 i v v' a b).ext he⟩
theorem LR.nil:LR σ τ [] []:=⟨rfl,fun i v v' h=>by simp at h⟩
theorem LR.cons {v v' l l'}(h:VR σ τ v v') (k:LR σ τ l l'):LR σ τ (v :: l) (v' :: l') :=
 ⟨by simp [k.1],fun i u u' a b=>by
  cases i with
  |zero=>simp at a b;subst a b;exact h
  |succ i=>simp at a b;exact k.2 i u u' a b⟩
theorem LR.head {v v' l l'}(h:LR σ τ (v :: l) (v' :: l')):VR σ τ v v':=h.2 0 v v' rfl rfl
theorem LR.tail {v v' l l'}(h:LR σ τ (v :: l) (v' :: l')):LR σ τ l l':=⟨by simpa using h.1,fun i u u' a b=>h.2 (i+1) u u' (by simpa using a) (by simpa using b)⟩
theorem LR.nil_inv {l'}(h:LR σ τ [] l'):l'=[]:=List.eq_nil_of_length_eq_zero (by simpa using h.1.symm)
theorem LR.cons_inv {v l l'}(h:LR σ τ (v :: l) l'):∃v' r',l'=v' :: r'/\VR σ τ v v'/\LR σ τ l r':=by
 cases l' with
 |nil=>have:=h.1;simp at this
 |cons v' r'=>exact⟨v',r',rfl,h.head,h.tail⟩
theorem LR.append {a a' b b'}(h:LR σ τ a a') (k:LR σ τ b b'):LR σ τ (a++b) (a'++b'):=by
 refine⟨by simp [h.1,k.1],fun i v v' x y=>?_⟩;by_cases hi:i < a.length
 ·rw[Zz hi] at x;rw[Zz (h.1 ▸ hi)] at y;exact h.2 i v v' x y
 ·rw[ZC (by omega)] at x;rw[ZC (by have:=h.1;omega),<-h.1] at y;exact k.2 _ v v' x y
theorem LR.take {a a'}(n:Nat) (h:LR σ τ a a'):LR σ τ (a.take n) (a'.take n):=by
 refine⟨by simp [h.1],fun i v v' x y=>?_⟩;rw[ZJ] at x y;split at x
 ·rename_i hi;rw[if_pos hi] at y;exact h.2 i v v' x y
 ·cases x
theorem LR.drop {a a'}(n:Nat) (h:LR σ τ a a'):LR σ τ (a.drop n) (a'.drop n):=by
 refine⟨by simp [h.1],fun i v v' x y=>?_⟩;rw[ZN] at x y;exact h.2 _ v v' x y
theorem LR.get {a a'}(h:LR σ τ a a') {i:Nat}{v}(hv:a[i]?=some v):∃v',a'[i]?=some v'/\VR σ τ v v':=by
 have hi:i < a'.length:=by
  have:i < a.length:=by
   rcases Nat.lt_or_ge i a.length with h|h
   ·exact h
   ·rw[Zy h] at hv;cases hv
  rw[<-h.1];exact this
 exact⟨a'[i],Zc hi,h.2 i v _ hv (Zc hi)⟩
theorem LR.get_none {a a'}(h:LR σ τ a a') {i:Nat}(hv:a[i]?=none):a'[i]?=none:=by
 rw[List.getElem?_eq_none_iff] at *;rw[<-h.1];exact hv
theorem RA.mk_agg {x x':Array Value}(h:RA σ τ x x'):VR σ τ (.agg x) (.agg x') :=
 .agg x x' h.1 fun i v v' a b=>h.2 i v v' (by simpa using a) (by simpa using b)
theorem RA.mk_tuple {x x':Array Value}(h:RA σ τ x x'):VR σ τ (.tuple x) (.tuple x') :=
 .tuple x x' h.1 fun i v v' a b=>h.2 i v v' (by simpa using a) (by simpa using b)
theorem RA.of {x x':Array Value}(h1:x.size=x'.size) (h2:∀(i:Nat) v v',x[i]?=some v->x'[i]?=some v'->VR σ τ v v'):RA σ τ x x' :=
 ⟨h1,fun i v v' a b=>h2 i v v' (by simpa using a) (by simpa using b)⟩
theorem z3p:∀{l:List Value}{i:Nat}{v:Value},flatL l=true->l[i]?=some v->flat v=true
 |[],_,_,_,h=>by simp at h
 |a :: l,0,v,hf,h=>by simp at h;subst h;simp only[flatL,Zk] at hf;exact hf.1
 |a :: l,i+1,v,hf,h=>by simp only[flatL,Zk] at hf;exact z3p hf.2 (by simpa using h)
theorem LR.flat {l:List Value}(h:flatL l=true):LR σ τ l l :=
 ⟨rfl,fun i v v' a b=>by rw[a] at b;cases b;exact .flat v (z3p h a)⟩
theorem VR.agg_inv {x:Array Value}{v':Value}(h:VR σ τ (.agg x) v'):∃x',v'=.agg x'/\RA σ τ x x':=by
 cases h with
 |flat _ h=>exact⟨x,rfl,LR.flat (by obtain⟨l⟩:=x;simpa [Hb.flat] using h)⟩
 |agg _ x' h1 h2=>exact⟨x',rfl,RA.of h1 h2⟩
theorem VR.tuple_inv {x:Array Value}{v':Value}(h:VR σ τ (.tuple x) v'):∃x',v'=.tuple x'/\RA σ τ x x':=by
 cases h with
 |flat _ h=>exact⟨x,rfl,LR.flat (by obtain⟨l⟩:=x;simpa [Hb.flat] using h)⟩
 |tuple _ x' h1 h2=>exact⟨x',rfl,RA.of h1 h2⟩
theorem VR.iface_inv {t:TypeId}{v v':Value}(h:VR σ τ (.iface t v) v'):∃u',v'=.iface t u'/\VR σ τ v u':=by
 cases h with
 |flat _ h=>exact⟨v,rfl,.flat v (by simpa [Hb.flat] using h)⟩
 |iface _ _ u' h=>exact⟨u',rfl,h⟩
theorem VR.ptr_inv {a:Addr}{v':Value}(h:VR σ τ (.pointer (some a)) v'):∃a',v'=.pointer (some a')/\AR σ a a':=by
 cases h with
 |flat _ h=>simp [Hb.flat] at h
 |ptr _ a' h=>exact⟨a',rfl,h⟩
theorem VR.slice_inv {a:Addr}{n c:Nat}{v':Value}(h:VR σ τ (.slice (some a) n c) v') :
  ∃a' c',v'=.slice (some a') n c'/\AR σ a a'/\n<=c/\c<=c'/\room σ a c':=by
 cases h with
 |flat _ h=>simp [Hb.flat] at h
 |slice _ a' _ _ c' h h1 h2 h3=>exact⟨a',c',rfl,h,h1,h2,h3⟩
theorem VR.slice_none_inv {n c:Nat}{v':Value}(h:VR σ τ (.slice none n c) v'):n=0/\c=0/\v'=.slice none 0 0:=by
 cases h with
 |flat _ h =>
  unfold Hb.flat at h;split at h<;>simp_all
theorem VR.map_inv {r:Nat}{v':Value}(h:VR σ τ (.map (some r)) v'):∃r',v'=.map (some r')/\BR σ r r':=by
 cases h with
 |flat _ h=>simp [Hb.flat] at h
 |map _ r' h=>exact⟨r',rfl,h⟩
theorem VR.func_inv {f:FuncId}{x y:Array Value}{v':Value}(h:VR σ τ (.func (.func f) x y) v') :
  ∃x' y',v'=.func (.func f) x' y'/\RA σ τ x x'/\RA σ τ y y':=by
 cases h with
 |flat _ h =>
  obtain⟨x⟩:=x;obtain⟨y⟩:=y;simp only[Hb.flat,Zk] at h;exact⟨_,_,rfl,LR.flat h.1,LR.flat h.2⟩
 |func _ _ _ x' y' h1 h2 h3 h4=>exact⟨x',y',rfl,RA.of h1 h2,RA.of h3 h4⟩
theorem VR.yield_inv {l:Nat}{x y:Array Value}{v':Value}(h:VR σ τ (.func (.yield l) x y) v') :
  ∃l',v'=.func (.yield l') #[] #[]/\BR σ l l'/\x=#[]/\y=#[]:=by
 cases h with
 |flat _ h=>simp [Hb.flat] at h
 |yield _ l' h=>exact⟨l',rfl,h,rfl,rfl⟩
theorem VR.flat_eq {v v':Value}(h:VR σ τ v v') (hf:Hb.flat v=true):v'=v:=by
 induction h with
 |junk v'=>simp [Hb.flat] at hf
 |tok j=>simp [Hb.flat] at hf
 |flat v h=>rfl
 |ptr a a' h=>simp [Hb.flat] at hf
 |slice a a' n c c' h h1 h2 h3=>simp [Hb.flat] at hf
 |map r r' h=>simp [Hb.flat] at hf
 |func f x y x' y' h1 h2 h3 h4 i1 i2 =>
  obtain⟨x⟩:=x;obtain⟨y⟩:=y;simp only[Hb.flat,Zk] at hf;have ex:x'=⟨x⟩:=Array.ext_getElem? fun i=>by
   rcases Nat.lt_or_ge i x.length with hi|hi
   ·have e1:(⟨x⟩:Array Value)[i]?=some x[i]:=by simp [hi]
    have e2:x'[i]?=some (x'[i]'(by rw[<-h1];exact hi)):=by simp
    rw[e1,e2,i1 i _ _ e1 e2 (z3p hf.1 (Zc hi))]
   ·rw[Array.getElem?_eq_none (by rw[<-h1];exact hi),Array.getElem?_eq_none (by exact hi)]
  have ey:y'=⟨y⟩:=Array.ext_getElem? fun i=>by
   rcases Nat.lt_or_ge i y.length with hi|hi
   ·have e1:(⟨y⟩:Array Value)[i]?=some y[i]:=by simp [hi]
    have e2:y'[i]?=some (y'[i]'(by rw[<-h3];exact hi)):=by simp
    rw[e1,e2,i2 i _ _ e1 e2 (z3p hf.2 (Zc hi))]
   ·rw[Array.getElem?_eq_none (by rw[<-h3];exact hi),Array.getElem?_eq_none (by exact hi)]
  rw[ex,ey]
 |yield l l' h=>simp [Hb.flat] at hf
 |iface t v v' h ih=>rw[ih (by simpa [Hb.flat] using hf)]
 |agg x x' h1 h2 ih =>
  obtain⟨x⟩:=x;simp only[Hb.flat] at hf;have ex:x'=⟨x⟩:=Array.ext_getElem? fun i=>by
   rcases Nat.lt_or_ge i x.length with hi|hi
   ·have e1:(⟨x⟩:Array Value)[i]?=some x[i]:=by simp [hi]
    have e2:x'[i]?=some (x'[i]'(by rw[<-h1];exact hi)):=by simp
    rw[e1,e2,ih i _ _ e1 e2 (z3p hf (Zc hi))]
   ·rw[Array.getElem?_eq_none (by rw[<-h1];exact hi),Array.getElem?_eq_none (by exact hi)]
  rw[ex]
 |tuple x x' h1 h2 ih =>
  obtain⟨x⟩:=x;simp only[Hb.flat] at hf;have ex:x'=⟨x⟩:=Array.ext_getElem? fun i=>by
   rcases Nat.lt_or_ge i x.length with hi|hi
   ·have e1:(⟨x⟩:Array Value)[i]?=some x[i]:=by simp [hi]
    have e2:x'[i]?=some (x'[i]'(by rw[<-h1];exact hi)):=by simp
    rw[e1,e2,ih i _ _ e1 e2 (z3p hf (Zc hi))]
   ·rw[Array.getElem?_eq_none (by rw[<-h1];exact hi),Array.getElem?_eq_none (by exact hi)]
  rw[ex]
theorem VR.one {v v':Value}(hτ:∀j,(τ j).oneCell'=true) (h:VR σ τ v v') (ho:Hb.one v=true):v'.oneCell'=true:=by
 cases h with
 |junk=>simp [Hb.one] at ho
 |tok j=>exact hτ j
 |flat _ h=>cases v<;>simp_all [Hb.one,Value.oneCell']
 |agg=>simp [Hb.one] at ho
 |tuple=>simp [Hb.one] at ho
 |_=>rfl
theorem VR.cells {v v':Value}(hτ:∀j,(τ j).oneCell'=true) (h:VR σ τ v v') (ho:v.cells.toList.all Hb.one=true):RA σ τ v.cells v'.cells:=by
 have single:∀{u u':Value},VR σ τ u u'->RA σ τ #[u] #[u']:=fun h=>LR.cons h LR.nil
 cases h with
 |junk=>simp [Value.cells,Hb.one] at ho
 |tok j =>
  have:(τ j).cells=#[τ j]:=by have:=hτ j;cases hv:τ j<;>simp_all [Value.cells,Value.oneCell']
  rw[this];exact single (.tok j)
 |flat _ h =>
  cases v with
  |agg x=>obtain⟨l⟩:=x;exact LR.flat (l:=l) (by simpa [Hb.flat] using h)
  |tuple x=>simp [Value.cells,Hb.one] at ho
  |_=>exact single (.flat _ h)
 |agg x x' h1 h2=>exact RA.of h1 h2
 |tuple x x' h1 h2=>simp [Value.cells,Hb.one] at ho
 |ptr a a' h=>exact single (.ptr a a' h)
 |slice a a' n c c' h h1 h2 h3=>exact single (.slice a a' n c c' h h1 h2 h3)
 |map r r' h=>exact single (.map r r' h)
 |func f x y x' y' h1 h2 h3 h4=>exact single (.func f x y x' y' h1 h2 h3 h4)
 |yield l l' h=>exact single (.yield l l' h)
 |iface t v v' h=>exact single (.iface t v v' h)
theorem LR.one {l l':List Value}(hτ:∀j,(τ j).oneCell'=true) (h:LR σ τ l l') (ho:l.all Hb.one=true):∀u∈l',u.oneCell'=true:=by
 intro u hu;obtain⟨i,hi,rfl⟩:=ZO hu;have hi':i < l.length:=h.1 ▸ hi;have:=List.all_eq_true.1 ho l[i] (Zu hi');exact(h.2 i _ _ (Zc hi') (Zc hi)).one hτ this
end
end Go.Hb
end

section
namespace Go.Hb
open Go Go.RowKit
def TmR (σ:Nat->Loc) (τ:Nat->Value) (tm:Tr Value) (a:Array Value):Prop:=∀i v,tm.get i=some v->VR σ τ v (a.getD i undef)
def okOpnd (g:Nat):Operand->Bool
  |.const v=>flat v
  |.global i=>Nat.blt i g
  |_=>true
def okOper (g n:Nat) (o:Oper):Bool :=
  (match o.dst with|some d=>Nat.blt d n|none=>true) && o.op.operands.toList.all (okOpnd g)
def apartOK (ops:List Oper) (b:Array Nat):Bool :=
  let ix:=ops.zipIdx
  ix.all fun p=>match p.1.dst with
    |none=>true
    |some d=>ix.all fun q=>Zs p.2 q.2 ||
        ((match q.1.dst with|some d'=>!(Zs d d')|none=>true) &&
         (!(q.1.op.operands.toList.any fun x=>match x with|.tmp t=>Zs t d|_=>false) || (b.getD q.2 0).testBit p.2 || (b.getD p.2 0).testBit q.2))
def chainOK (ops:Array Oper) (b:Array Nat):List Nat->Bool
  |[]=>true
  |e :: r=>(match r with
    |[f]=>(b.getD f 0).testBit e || (isSt ops e && isSt ops f)
    |r=>r.all fun f=>(b.getD f 0).testBit e) && chainOK ops b r
def ahead (b:Array Nat) (o:Oper):Nat:=o.after.toList.foldl (fun s e=>if Region.binds .any e then s ||| 2 ^ e.on ||| b.getD e.on 0 else s) 0
def okDraw (ops:Array Oper):Bool :=
  let b:=Region.before ops;let effs:=(Zh ops.size).filter fun i=>match ops[i]? with|some o=>isEff o|none=>false
  Zs b.size ops.size && apartOK ops.toList b && chainOK ops b effs &&
  ops.toList.zipIdx.all fun p=>Zs (b.getD p.2 0) (ahead b p.1) && (p.1.after.toList.all fun e=>!(Region.binds .any e) || Nat.blt e.on p.2) &&
    (match p.1.guard with|some (j,_)=>(b.getD p.2 0).testBit j|none=>true)
def okCode (g n:Nat):Code->Bool
  |.skip|.exit _|.ret|.label _=>true
  |.region _ ops dr=>ops.toList.all (okOper g n) && (!dr || okDraw ops)
  |.seq a b=>okCode g n a && okCode g n b
  |.cond c a b=>okOpnd g c && okCode g n a && okCode g n b
  |.block _ b=>okCode g n b
  |.loop b=>okCode g n b
  |.scope b=>okCode g n b
  |.rangeFunc f ps a b=>okOpnd g f && ps.toList.all (fun t=>Nat.blt t n) && okCode g n a && okCode g n b
  |_=>true
def EntR (σ:Nat->Loc) (τ:Nat->Value) (es:List MapEntry) (es':Array MapEntry):Prop :=
  es.length=es'.size/\∀(i:Nat) e e',es[i]?=some e->es'[i]?=some e'->e'.key=e.key/\flat e.key=true/\e'.born=e.born/\VR σ τ e.val e'.val
def PR (σ:Nat->Loc) (τ:Nat->Value) (cs cur:List Value):Prop:=LR σ τ cs (cur.take cs.length)
inductive BlkR (P:Program) (N:Nat) (σ:Nat->Loc) (τ:Nat->Value) (w:World):Loc->Blk->Prop
  |ro (b S:Nat) (cs:List Value) (e:TypeId) (cur:Array Value) (fr:Nat × Nat):b < N->w.heap[b]?=some (.cells cur e fr)->PR σ τ cs cur.toList->BlkR P N σ τ w (.live b S 0) (.ro cs e)
  |row (b S es:Nat) (cs:List Value) (e:TypeId) (cur:Array Value):N<=b->w.heap[b]?=some (.cells cur e (0,0))->cur.size=S->es=P.cellsOf e->PR σ τ cs cur.toList->BlkR P N σ τ w (.live b S es) (.row cs e)
  |map (b S es:Nat) (xs:List MapEntry) (clock:Nat) (xs':Array MapEntry):N<=b->w.heap[b]?=some (.map xs' clock)->EntR σ τ xs xs'->BlkR P N σ τ w (.live b S es) (.map xs clock)
  |siter (b S es:Nat) (s:ByteArray) (pos:Nat):N<=b->w.heap[b]?=some (.stringIter s pos)->BlkR P N σ τ w (.live b S es) (.siter s pos)
  |mit (b S es m m' since:Nat):N<=b->w.heap[b]?=some (.mapIter (some m') since #[] since)->BR σ m m'->BlkR P N σ τ w (.live b S es) (.mit m since)
  |loop (b S es:Nat) (st:LoopState) (pend:Option Code) (fn:FuncId) (tm:Tr Value) (ps:List Tmp) (as bo:Code) (k m:Nat) (L:Loop):N<=b->w.heap[b]?=some (.loop L) ->
      L.state=st->L.pending=pend->L.params.toList=ps->L.assign=as->L.body=bo->TmR σ τ tm L.tmps->m<=L.tmps.size->okCode P.globals.size m as=true->okCode P.globals.size m bo=true ->
      (∀t∈ps,t < m)->(pend=none\/pend=some .ret\/∃id,pend=some (.exit id))->BlkR P N σ τ w (.live b S es) (.loop st pend fn tm ps as bo k)
  |dfr (b S es:Nat):N<=b->w.heap[b]?=some (.deferred (some []))->BlkR P N σ τ w (.live b S es) .dfr
structure HR (P:Program) (N:Nat) (w0:World) (τ:Nat->Value) (σ:Nat->Loc) (H:Heap) (w:World):Prop where
  below:Below N w0 w
  size:N<=w.heap.size
  fresh:∀i,H.next<=i->σ i=.none
  blk:∀i B,H.get i=some B->BlkR P N σ τ w (σ i) B
  inj:∀i j b S es S' es',σ i=.live b S es->σ j=.live b S' es'->i=j
  lt:∀i b S es,σ i=.live b S es->b < w.heap.size
structure Step (σ:Nat->Loc) (H:Heap) (w:World) (σ':Nat->Loc) (H':Heap) (w':World):Prop where
  next:H.next<=H'.next
  ext:Ext σ σ'
  new:∀i b S es,σ' i=.live b S es->w.heap.size<=b\/(∃S' es',σ i=.live b S' es')\/∃j S' es',H.get j≠none/\σ j=.live b S' es'
  frame:∀b,b < w.heap.size->(∀i S es,σ i=.live b S es->H.get i=none)->w'.heap[b]?=w.heap[b]?
  size:w.heap.size<=w'.heap.size
  keep:∀i,(i < H.next\/σ i≠.none)->H.get i=none->σ' i=σ i/\H'.get i=none
theorem Step.refl (σ H w):Step σ H w σ H w:=⟨Ze _,Ext.refl σ,fun i b S es h=>.inr (.inl ⟨S,es,h⟩),fun _ _ _=>rfl,Ze _,fun _ _ h=>⟨rfl,h⟩⟩
theorem Step.trans {σ H w σ' H' w' σ'' H'' w''}(h:Step σ H w σ' H' w') (k:Step σ' H' w' σ'' H'' w''):Step σ H w σ'' H'' w'':=by
  have hne:∀i b S es,σ i=.live b S es->σ i≠.none:=fun i b S es h=>by rw[h];simp
  refine⟨Zj h.next k.next,h.ext.trans k.ext,fun i b S es hi=>?_,fun b hb hn=>?_,Zj h.size k.size,fun i hi hg=>?_⟩
  · rcases k.new i b S es hi with h1|⟨S',es',h1⟩|⟨j,S',es',hj,h1⟩
    · exact .inl (Zj h.size h1)
    · exact h.new i b S' es' h1
    · rcases h.new j b S' es' h1 with h2|⟨S2,es2,h2⟩|h2
      · exact .inl h2
      · by_cases hg:H.get j=none
        · exact absurd (h.keep j (.inr (hne j _ _ _ h2)) hg).2 hj
        · exact .inr (.inr ⟨j,S2,es2,hg,h2⟩)
      · exact .inr (.inr h2)
  · rw[k.frame b (Zi hb h.size) (fun i S es hi=>?_),h.frame b hb hn];rcases h.new i b S es hi with h1|⟨S',es',h1⟩|⟨j,S',es',hj,h1⟩
    · omega
    · exact(h.keep i (.inr (hne i _ _ _ h1)) (hn i S' es' h1)).2
    · exact absurd (hn j S' es' h1) hj
  · obtain⟨e1,e2⟩:=h.keep i hi hg;obtain⟨e3,e4⟩:=k.keep i (hi.elim (fun h'=>.inl (Zi h' h.next)) (fun h'=>.inr (by rw[e1];exact h'))) e2;exact⟨e3.trans e1,e4⟩
section
variable {P:Program}{N:Nat}{w0:World}{τ:Nat->Value}{σ σ':Nat->Loc}{H:Heap}{w w':World}
theorem PR.ext (he:Ext σ σ') {cs cur}(h:PR σ τ cs cur):PR σ' τ cs cur:=LR.ext he h
theorem TmR.ext (he:Ext σ σ') {tm a}(h:TmR σ τ tm a):TmR σ' τ tm a:=fun i v hv=>(h i v hv).ext he
theorem EntR.ext (he:Ext σ σ') {es es'}(h:EntR σ τ es es'):EntR σ' τ es es' :=
  ⟨h.1,fun i e e' a b=>let ⟨x,y,z,u⟩:=h.2 i e e' a b;⟨x,y,z,u.ext he⟩⟩
theorem BlkR.ext (he:Ext σ σ') {l B}(h:BlkR P N σ τ w l B):BlkR P N σ' τ w l B:=by
  cases h with
  |ro b S cs e cur fr h1 h2 h3=>exact .ro b S cs e cur fr h1 h2 (h3.ext he)
  |row b S es cs e cur h1 h2 h3 h4 h5=>exact .row b S es cs e cur h1 h2 h3 h4 (h5.ext he)
  |map b S es xs clock xs' h1 h2 h3=>exact .map b S es xs clock xs' h1 h2 (h3.ext he)
  |siter b S es s pos h1 h2=>exact .siter b S es s pos h1 h2
  |mit b S es m m' since h1 h2 h3=>exact .mit b S es m m' since h1 h2 (h3.ext he)
  |loop b S es st pend fn tm ps as bo k m L h1 h2 h3 h4 h5 h6 h7 h8 h9 h10 h11 h12 h13=>exact .loop b S es st pend fn tm ps as bo k m L h1 h2 h3 h4 h5 h6 h7 (h8.ext he) h9 h10 h11 h12 h13
  |dfr b S es h1 h2=>exact .dfr b S es h1 h2
theorem BlkR.world {l B}(h:BlkR P N σ τ w l B) (hw:∀b S es,l=.live b S es->w'.heap[b]?=w.heap[b]?):BlkR P N σ τ w' l B:=by
  cases h with
  |ro b S cs e cur fr h1 h2 h3=>exact .ro b S cs e cur fr h1 ((hw b S 0 rfl).trans h2) h3
  |row b S es cs e cur h1 h2 h3 h4 h5=>exact .row b S es cs e cur h1 ((hw b S es rfl).trans h2) h3 h4 h5
  |map b S es xs clock xs' h1 h2 h3=>exact .map b S es xs clock xs' h1 ((hw b S es rfl).trans h2) h3
  |siter b S es s pos h1 h2=>exact .siter b S es s pos h1 ((hw b S es rfl).trans h2)
  |mit b S es m m' since h1 h2 h3=>exact .mit b S es m m' since h1 ((hw b S es rfl).trans h2) h3
  |loop b S es st pend fn tm ps as bo k m L h1 h2 h3 h4 h5 h6 h7 h8 h9 h10 h11 h12 h13=>exact .loop b S es st pend fn tm ps as bo k m L h1 ((hw b S es rfl).trans h2) h3 h4 h5 h6 h7 h8 h9 h10 h11 h12 h13
  |dfr b S es h1 h2=>exact .dfr b S es h1 ((hw b S es rfl).trans h2)
theorem BlkR.live {l B}(h:BlkR P N σ τ w l B):∃b S es,l=.live b S es:=by cases h<;>exact⟨_,_,_,rfl⟩
theorem HR.get_lt (h:HR P N w0 τ σ H w) {i B}(hi:H.get i=some B):i < H.next:=by
  rcases Nat.lt_or_ge i H.next with h1|h1
  · exact h1
  · obtain⟨b,S,es,hl⟩:=(h.blk i B hi).live;rw[h.fresh i h1] at hl;cases hl
theorem HR.drew (h:HR P N w0 τ σ H w):HR P N w0 τ σ H w.drew:=⟨h.below.drew,h.size,h.fresh,fun i B hB=>(h.blk i B hB).world fun _ _ _ _=>rfl,h.inj,h.lt⟩
def upd (σ:Nat->Loc) (i:Nat) (l:Loc):Nat->Loc:=fun j=>if j=i then l else σ j
theorem z0r (σ i l):upd σ i l i=l:=by simp [upd]
theorem z0f {i j:Nat}(σ l) (h:j≠i):upd σ i l j=σ j:=by simp [upd,h]
theorem HR.ext_new (h:HR P N w0 τ σ H w) (l:Loc):Ext σ (upd σ H.next l):=by
  intro i;by_cases hi:i=H.next
  · subst hi;exact .inl (h.fresh _ (Ze _))
  · exact .inr (.inl (z0f σ l hi))
theorem HR.keep_new (h:HR P N w0 τ σ H w) (l:Loc) (B:Option Blk) {i:Nat}(hi:i < H.next\/σ i≠.none) (hg:H.get i=none):upd σ H.next l i=σ i/\(H.new B).get i=none:=by
  have hne:i≠H.next:=fun e=>by
    subst e;rcases hi with hi|hi
    · omega
    · exact hi (h.fresh _ (Ze _))
  exact⟨z0f _ _ hne,by rw[Heap.get_new,if_neg hne];exact hg⟩
theorem HR.write (h:HR P N w0 τ σ H w) {i:Nat}{B:Blk}{b S es:Nat}(hi:H.get i≠none) (hl:σ i=.live b S es) (hb:N<=b)
    (hos:w'.os=w.os) (ht:w'.tape=w.tape) (ho:w'.output=w.output) (hs:w'.heap.size=w.heap.size) (hw:∀k,k≠b->w'.heap[k]?=w.heap[k]?)
    (hB:BlkR P N σ τ w' (.live b S es) B):HR P N w0 τ σ (H.put i (some B)) w'/\Step σ H w σ (H.put i (some B)) w':=by
  refine⟨⟨h.below.trans ⟨hos,ht,ho,by omega,fun k hk=>hw k (by omega)⟩,by rw[hs];exact h.size,h.fresh,fun j C hj=>?_,h.inj,fun j c S es hj=>by rw[hs];exact h.lt j c S es hj⟩,
    ⟨Ze _,Ext.refl σ,fun j c S es hj=>.inr (.inl ⟨S,es,hj⟩),fun k hk hn=>hw k (fun e=>hi (hn i S es (e ▸ hl))),by omega,fun j _ hj=>⟨rfl,?_⟩⟩⟩
  · rw[Heap.get_put] at hj;by_cases hji:j=i
    · rw[if_pos hji] at hj;cases hj;rw[hji,hl];exact hB
    · rw[if_neg hji] at hj;exact(h.blk j C hj).world fun c S' es' hc=>hw c (fun e=>hji (h.inj j i c S' es' S es hc (e ▸ hl)))
  · have hji:j≠i:=fun e=>hi (e ▸ hj)
    rw[Heap.get_put,if_neg hji];exact hj
theorem HR.alloc (h:HR P N w0 τ σ H w) {B:Blk}{S es:Nat}(hos:w'.os=w.os) (ht:w'.tape=w.tape) (ho:w'.output=w.output)
    (hs:w.heap.size < w'.heap.size) (hw:∀k,k < w.heap.size->w'.heap[k]?=w.heap[k]?)
    (hB:BlkR P N (upd σ H.next (.live w.heap.size S es)) τ w' (.live w.heap.size S es) B) :
    HR P N w0 τ (upd σ H.next (.live w.heap.size S es)) (H.new (some B)) w'/\Step σ H w (upd σ H.next (.live w.heap.size S es)) (H.new (some B)) w':=by
  have he:=h.ext_new (.live w.heap.size S es);have hlt:=h.lt;refine⟨⟨h.below.trans ⟨hos,ht,ho,by omega,fun k hk=>hw k (Zi hk h.size)⟩,by have:=h.size;omega,fun i hi=>?_,fun j C hj=>?_,fun i j b S1 es1 S2 es2 hi hj=>?_,fun i b S1 es1 hi=>?_⟩,
    ⟨Nat.le_succ _,he,fun i b S1 es1 hi=>?_,fun k hk _=>hw k hk,by omega,fun i hi hg=>h.keep_new _ _ hi hg⟩⟩
  · have hi':H.next+1<=i:=hi;rw[z0f _ _ (by omega)];exact h.fresh i (by omega)
  · rw[Heap.get_new] at hj;by_cases hjn:j=H.next
    · rw[if_pos hjn] at hj;cases hj;rw[hjn,z0r];exact hB
    · rw[if_neg hjn] at hj;rw[z0f _ _ hjn];exact((h.blk j C hj).ext he).world fun c S' es' hc=>hw c (hlt j c S' es' hc)
  · by_cases hi1:i=H.next
    · by_cases hj1:j=H.next
      · rw[hi1,hj1]
      · rw[hi1,z0r] at hi;cases hi;rw[z0f _ _ hj1] at hj;have:=hlt j _ _ _ hj;omega
    · rw[z0f _ _ hi1] at hi;by_cases hj1:j=H.next
      · rw[hj1,z0r] at hj;cases hj;have:=hlt i _ _ _ hi;omega
      · rw[z0f _ _ hj1] at hj;exact h.inj i j b S1 es1 S2 es2 hi hj
  · by_cases hi1:i=H.next
    · rw[hi1,z0r] at hi;cases hi;omega
    · rw[z0f _ _ hi1] at hi;have:=hlt i b S1 es1 hi;omega
  · by_cases hi1:i=H.next
    · rw[hi1,z0r] at hi;cases hi;exact .inl (Ze _)
    · rw[z0f _ _ hi1] at hi;exact .inr (.inl ⟨S1,es1,hi⟩)
theorem HR.kill (h:HR P N w0 τ σ H w) (i:Nat) (hi:i < H.next) (hne:σ i≠.none) (hgi:H.get i≠none):HR P N w0 τ (upd σ i .dead) (H.put i none) w/\Step σ H w (upd σ i .dead) (H.put i none) w:=by
  have he:Ext σ (upd σ i .dead):=fun j=>by
    by_cases hj:j=i
    · rw[hj];exact .inr (.inr ⟨hne,z0r _ _ _⟩)
    · exact .inr (.inl (z0f _ _ hj))
  have hb:∀j b S es,upd σ i .dead j=.live b S es->σ j=.live b S es:=fun j b S es hj=>by
    by_cases hji:j=i
    · rw[hji,z0r] at hj;cases hj
    · rwa [z0f _ _ hji] at hj
  refine⟨⟨h.below,h.size,fun j hj=>?_,fun j C hj=>?_,fun j k b S1 es1 S2 es2 hj hk=>h.inj j k b S1 es1 S2 es2 (hb _ _ _ _ hj) (hb _ _ _ _ hk),fun j b S1 es1 hj=>h.lt j b S1 es1 (hb _ _ _ _ hj)⟩,
    ⟨Ze _,he,fun j b S1 es1 hj=>.inr (.inl ⟨S1,es1,hb _ _ _ _ hj⟩),fun k hk _=>rfl,Ze _,fun j _ hg=>?_⟩⟩
  · have hj':H.next<=j:=hj;rw[z0f _ _ (by omega)];exact h.fresh j hj'
  · rw[Heap.get_put] at hj;by_cases hji:j=i
    · rw[if_pos hji] at hj;cases hj
    · rw[if_neg hji] at hj;rw[z0f _ _ hji];exact(h.blk j C hj).ext he
  · have hji:j≠i:=fun e=>hgi (e ▸ hg)
    exact⟨z0f _ _ hji,by rw[Heap.get_put,if_neg hji];exact hg⟩
theorem add0 (b o j:Nat):(⟨b,o,none⟩:Addr).add j=⟨b,o+j,none⟩:=by
  unfold Addr.add;split
  · rename_i h;subst h;rfl
  · rfl
theorem HR.cells (h:HR P N w0 τ σ H w) {i:Nat}{cs:List Value}(hc:H.cells i=some cs) :
    ∃b S es cur e fr,σ i=.live b S es/\w.heap[b]?=some (.cells cur e fr)/\PR σ τ cs cur.toList:=by
  unfold Heap.cells at hc;cases hg:H.get i with
  |none=>rw[hg] at hc;cases hc
  |some B =>
    rw[hg] at hc;have hB:=h.blk i B hg;cases B with
    |ro cs' e =>
      cases hc;generalize hs:σ i=l at hB;cases hB with
      |ro b S _ _ cur fr h1 h2 h3=>exact⟨b,S,0,cur,e,fr,rfl,h2,h3⟩
    |row cs' e =>
      cases hc;generalize hs:σ i=l at hB;cases hB with
      |row b S es _ _ cur h1 h2 h3 h4 h5=>exact⟨b,S,es,cur,e,(0,0),rfl,h2,h5⟩
    |_=>cases hc
theorem HR.load (h:HR P N w0 τ σ H w) {a a':Addr}{n:Nat}{l:List Value}(hl:H.load a n=some l) (ha:AR σ a a') :
    ∃l',l'.length=n/\LR σ τ l l'/\∀j v,l'[j]?=some v->w.cell? (a'.add j)=some v:=by
  unfold Heap.load at hl;cases hsp:a.spot with
  |some s=>rw[hsp] at hl;cases hl
  |none =>
    cases hc:H.cells a.block with
    |none=>rw[hsp,hc] at hl;cases hl
    |some cs =>
      rw[hsp,hc] at hl;simp only at hl;split at hl
      · rename_i hn;rw[Zt] at hn;cases hl;obtain⟨b,S,es,cur,e,fr,hσ,hb,hp⟩:=h.cells hc;unfold AR at ha;simp only[hsp,hσ] at ha;obtain⟨_,rfl⟩:=ha;refine⟨((cur.toList.take cs.length).drop a.off).take n,?_,(LR.take n (LR.drop a.off hp)),fun j v hv=>?_⟩
        · rw[<-(LR.take n (LR.drop a.off hp)).1];exact hn
        · rw[add0,cell_of_row w b (a.off+j) cur e fr hb];rw[ZJ] at hv;split at hv
          · rw[ZN,ZJ] at hv;split at hv
            · simpa using hv
            · cases hv
          · cases hv
      · cases hl
theorem z1p:∀(cs:List Value) (o:Nat) (vs:List Value),o<=cs.length->splice cs o vs=cs.take o++vs++cs.drop (o+vs.length)
  |cs,0,vs,_=>by simp [splice]
  |[],o+1,vs,h=>by simp at h
  |c :: cs,o+1,vs,h=>by
    rw[splice,z1p cs o vs (by simpa using h)];simp [show o+1+vs.length=(o+vs.length)+1 from by omega]
theorem PR.splice {cs cur vs vs':List Value}{o:Nat}(h:PR σ τ cs cur) (hv:LR σ τ vs vs') (ho:o+vs.length<=cs.length) (hlen:cs.length<=cur.length) :
    PR σ τ (splice cs o vs) (cur.take o++vs'++cur.drop (o+vs'.length)):=by
  rw[z1p cs o vs (by omega)];unfold PR;have e1:(cs.take o++vs++cs.drop (o+vs.length)).length=cs.length:=by simp;omega
  rw[e1];have e2:(cur.take o++vs'++cur.drop (o+vs'.length)).take cs.length=(cur.take cs.length).take o++vs'++(cur.take cs.length).drop (o+vs'.length):=by
    have hl:=hv.1;have h1:(cur.take o++vs').length=o+vs'.length:=by rw[Zr,Zo];omega
    rw[List.take_append,Zm (by omega),h1,List.take_take,Nat.min_eq_left (by omega),List.drop_take]
  rw[e2];refine LR.append (LR.append (LR.take o h) hv) ?_;rw[<-hv.1];exact LR.drop _ h
theorem PR.len {cs cur:List Value}(h:PR σ τ cs cur):cs.length<=cur.length:=by
  have:=h.1;rw[Zo] at this;omega
theorem HR.store (h:HR P N w0 τ σ H w) (hτ:∀j,(τ j).oneCell'=true) {a a':Addr}{vs vs':List Value}{H':Heap}(hs:H.store a vs=some H') (ha:AR σ a a') (hv:LR σ τ vs vs') :
    ∃w',(storeCells a' vs').run P w=.ok () w'/\HR P N w0 τ σ H' w'/\Step σ H w σ H' w':=by
  unfold Heap.store at hs;cases hsp:a.spot with
  |some s=>rw[hsp] at hs;cases hs
  |none =>
    cases hg:H.get a.block with
    |none=>rw[hsp,hg] at hs;cases hs
    |some B =>
      rw[hsp,hg] at hs;cases B with
      |row cs e =>
        simp only at hs;split at hs
        · rename_i hc;obtain⟨hfit,hone⟩:=hc;cases hs;have hB:=h.blk _ _ hg;have hlt:=h.get_lt hg;generalize hσ:σ a.block=l at hB;cases hB with
          |row b S es _ _ cur h1 h2 h3 h4 h5 =>
            unfold AR at ha;simp only[hsp,hσ] at ha;obtain⟨_,rfl⟩:=ha;have hcl:=h5.len;have hrun:=run_storeCells_at P b a.off e vs' 0 cur w h2 (by rw[<-hv.1];simp at hcl;omega) (LR.one hτ hv hone);simp only[Nat.add_zero] at hrun;refine⟨_,hrun,?_⟩;have hsz:(cur.toList.take a.off++vs'++cur.toList.drop (a.off+vs'.length)).length=cur.size:=by
              have:=hv.1;simp at hcl;simp;omega
            refine h.write (by rw[hg];simp) hσ h1 rfl rfl rfl (by simp) (fun k hk=>setRow_other w b k _ hk) (.row b S es _ e _ h1 (setRow_heap w b cur _ e (0,0) h2) (by simpa [h3] using hsz) h4 ?_);exact PR.splice h5 hv hfit (by simpa using hcl)
        · cases hs
      |_=>cases hs
end
end Go.Hb
end

section
namespace Go.Hb
open Go Go.RowKit
theorem z0w {P:Program}{α:Type}{a:α}:∀(s:Sem α),pureRun P s=some a->∀w,s.run P w=.ok a w:=by
  intro s
  induction s with
  |pure b=>intro h w;simp only[pureRun,Option.some.injEq] at h;subst h;rfl
  |program k ih=>intro h w;exact ih P h w
  |mark m k ih=>intro h w;exact ih h w
  |_=>intro h;simp [pureRun] at h
def DfR (σ:Nat->Loc) (τ:Nat->Value) (d d':Deferred):Prop :=
  RA σ τ d.args d'.args /\
  ((∃f c c',d.target=.fn (.func f) c/\d'.target=.fn (.func f) c'/\RA σ τ c c') \/
   (∃l l',d.target=.collected l/\d'.target=.collected l'/\BR σ l l'))
def OpR (P:Program) (N:Nat) (w0:World) (τ:Nat->Value) (σ:Nat->Loc) (H:Heap) (w:World) (s:Sem Next):Dr->Prop
  |.val v H'=>∃nx w' σ' v',s.run P w=.ok nx w'/\(nx=.value v'\/(nx=.skip/\v'=undef))/\VR σ' τ v v'/\HR P N w0 τ σ' H' w'/\Step σ H w σ' H' w'
  |.call f args=>∃args',s.run P w=.ok (.enter f args') w/\LR σ τ args args'.toList
  |.yield l args=>∃l' args',s.run P w=(Instr.yield l' args').run P w/\BR σ l l'/\LR σ τ args args'.toList
  |.dfr d=>∃d',s.run P w=.ok (.defer d') w/\DfR σ τ d d'
  |.panic v=>∃v',s.run P w=.halt (.panic v') w/\VR σ τ v v'
  |.recov=>s.run P w=.ok .recover w
section
variable {P:Program}{N:Nat}{w0:World}{τ:Nat->Value}{σ:Nat->Loc}{H:Heap}{w:World}{ρ ρ':Operand->Value}{o:Oper}
theorem OpR.value {s:Sem Next}{v v':Value}(hH:HR P N w0 τ σ H w) (hr:s.run P w=.ok (.value v') w) (hv:VR σ τ v v'):OpR P N w0 τ σ H w s (.val v H) :=
  ⟨_,w,σ,v',hr,.inl rfl,hv,hH,Step.refl _ _ _⟩
theorem z2f (s:Sem Value) (v:Value) (w':World) (h:s.run P w=.ok v w'):(do pure (Next.value (<-s)):Sem Next).run P w=.ok (.value v) w':=by
  simp [Sem.run_bind,h]
theorem zro (s:Sem Unit) (w':World) (h:s.run P w=.ok () w'):(do s;pure Next.skip:Sem Next).run P w=.ok .skip w':=by
  simp [Sem.run_bind,h]
theorem zie (hρ:∀x∈o.op.operands.toList,VR σ τ (ρ x) (ρ' x)) (h:allFlat ρ o=true):∀x∈o.op.operands,ρ' x=ρ x:=by
  intro x hx;have hx':x∈o.op.operands.toList:=Array.mem_toList_iff.2 hx;exact(hρ x hx').flat_eq (List.all_eq_true.1 h x hx')
theorem z18 (hH:HR P N w0 τ σ H w) (hs:∀cs b,o.op≠.select cs b) (hρ:∀x∈o.op.operands.toList,VR σ τ (ρ x) (ρ' x)) {dr:Dr}(h:dflat P o ρ H=some dr) :
    OpR P N w0 τ σ H w (execOp ρ' o) dr:=by
  unfold dflat at h;split at h
  · rename_i v hf hp;split at h
    · rename_i hv;cases h;refine OpR.value hH ?_ (.flat v hv);rw[execOp_congr o hs (zie hρ hf)];exact z0w _ hp w
    · cases h
  · cases h
theorem z65 {t:TypeId}{b:Bool}(h:isAgg? P t=some b) (w:World):(isAgg t).run P w=.ok b w:=by
  unfold isAgg? at h;cases hu:P.underlying t with
  |none=>rw[hu] at h;cases h
  |some d =>
    rw[hu] at h;unfold isAgg;simp only[Sem.run_bind,run_underlying hu,Result.andThen_ok];cases d<;>simp_all
theorem z5n {t:TypeId}{b:Bool}(h:isAgg? P t=some b):∃i,P.info? t=some i:=by
  unfold isAgg? at h;cases hi:P.info? t with
  |some i=>exact⟨i,rfl⟩
  |none=>simp [Program.underlying,hi] at h
theorem z13 {t:TypeId}{i:TypeInfo}(h:P.info? t=some i) (w:World):(sizeOf t).run P w=.ok (P.cellsOf t) w:=by
  simp [sizeOf,typeInfo,Sem.run_bind,h,Program.cellsOf]
theorem z1c {t:TypeId}{i:TypeInfo}(h:P.info? t=some i):P.cellsOf t=i.size:=by simp [Program.cellsOf,h]
theorem z85 (hH:HR P N w0 τ σ H w) {t:TypeId}{a a':Addr}{v:Value}(h:dload P t a H=some v) (ha:AR σ a a') :
    ∃v',(loadVar t a').run P w=.ok v' w/\VR σ τ v v':=by
  unfold dload at h;cases hb:isAgg? P t with
  |none=>rw[hb] at h;cases h
  |some b =>
    rw[hb] at h;obtain⟨i,hi⟩:=z5n hb;cases b with
    |true =>
      simp only at h;cases hl:H.load a (P.cellsOf t) with
      |none=>rw[hl] at h;cases h
      |some l =>
        rw[hl] at h;cases h;obtain⟨l',hlen,hr,hc⟩:=hH.load hl ha;have hrun:=run_loadCells_list (P:=P) w a' l' hc;rw[hlen] at hrun;refine⟨.agg l'.toArray,?_,RA.mk_agg hr⟩;unfold loadVar;simp [Sem.run_bind,z65 hb,z13 hi,hrun]
    |false =>
      simp only at h;cases hl:H.load a 1 with
      |none=>rw[hl] at h;cases h
      |some l =>
        rw[hl] at h
        match l,h,hl with
        |[u],h,hl =>
          cases h;obtain⟨l',hlen,hr,hc⟩:=hH.load hl ha;obtain⟨v',r',rfl,hv,_⟩:=hr.cons_inv;have hcell:=hc 0 v' rfl;have h0:a'.add 0=a':=by simp [Addr.add]
          rw[h0] at hcell;refine⟨v',?_,hv⟩;unfold loadVar;simp [Sem.run_bind,z65 hb,run_load,hcell]
theorem z7g (hH:HR P N w0 τ σ H w) {cs:List Value}{cs':Array Value}{e:TypeId}(hr:LR σ τ cs cs'.toList) :
    ∃ σ',(newRow e cs').run P w=.ok ⟨w.heap.size,0,none⟩ (w.alloc (.cells cs' e)) /\
      σ'=upd σ H.next (.live w.heap.size cs'.size (P.cellsOf e)) /\
      HR P N w0 τ σ' (H.new (some (.row cs e))) (w.alloc (.cells cs' e))/\Step σ H w σ' (H.new (some (.row cs e))) (w.alloc (.cells cs' e)):=by
  refine⟨_,by simp [newRow,Sem.run_bind],rfl,?_⟩;refine hH.alloc (S:=cs'.size) (es:=P.cellsOf e) rfl rfl rfl (by simp) (fun k hk=>Below.heap_alloc w _ k hk) ?_;refine .row _ _ _ cs e cs' hH.size (by show (w.heap.push _)[w.heap.size]?=_;simp) rfl rfl ?_;have:cs'.toList.take cs.length=cs'.toList:=by rw[Zm];rw[hr.1];exact Ze _
  unfold PR;rw[this];exact hr.ext (hH.ext_new _)
theorem za0 {H:Heap}{b S es:Nat}:AR (upd σ H.next (.live b S es)) ⟨H.next,0,none⟩ ⟨b,0,none⟩:=by
  unfold AR;simp only[z0r];exact⟨trivial,trivial⟩
theorem z86 {t:TypeId}{cs cs':Array Value}{off:Nat}{v:Value}(h:dpart P t cs off=some v) (hr:RA σ τ cs cs') :
    ∃v',(part t cs' off).run P w=.ok v' w/\VR σ τ v v':=by
  unfold dpart at h;cases hb:isAgg? P t with
  |none=>rw[hb] at h;cases h
  |some b =>
    rw[hb] at h;obtain⟨i,hi⟩:=z5n hb;cases b with
    |true =>
      cases h;refine⟨.agg (cs'.extract off (off+P.cellsOf t)),?_,RA.mk_agg ?_⟩
      · unfold part;simp [Sem.run_bind,z65 hb,z13 hi]
      · unfold RA;rw[Array.toList_extract];have:(cs'.toList.extract off (off+P.cellsOf t))=(cs'.toList.drop off).take (P.cellsOf t):=by
          rw[List.extract_eq_take_drop];congr 1;omega
        rw[this];exact LR.take _ (LR.drop _ hr)
    |false =>
      obtain⟨v',hv',hv⟩:=hr.get h;refine⟨v',?_,hv⟩;have:cs'[off]?=some v':=by simpa using hv'
      unfold part;simp [Sem.run_bind,z65 hb,this]
end
end Go.Hb
end

section
namespace Go.Hb
open Go Go.RowKit
section
variable {P:Program}{N:Nat}{w0:World}{τ:Nat->Value}{σ:Nat->Loc}{H:Heap}{w:World}{ρ ρ':Operand->Value}{o:Oper}
theorem OpR.ofRow (hH:HR P N w0 τ σ H w) {s:Sem Next}{cs:List Value}{cs':Array Value}{e:TypeId}(hr:LR σ τ cs cs'.toList)
  (hs:∀v',(newRow e cs').run P w=.ok ⟨w.heap.size,0,none⟩ (w.alloc (.cells cs' e))->v'=Value.pointer (some ⟨w.heap.size,0,none⟩)->s.run P w=.ok (.value v') (w.alloc (.cells cs' e))) :
  OpR P N w0 τ σ H w s (.val (.pointer (some ⟨H.next,0,none⟩)) (H.new (some (.row cs e)))):=by
 obtain⟨σ',hrun,rfl,hH',hst⟩:=z7g (e:=e) hH hr;exact⟨_,_,_,_,hs _ hrun rfl,.inl rfl,.ptr _ _ za0,hH',hst⟩
theorem z3q {z:Value}(h:flat z=true):LR σ τ z.cells.toList z.cells.toList:=by
 cases z with
 |agg x=>obtain⟨l⟩:=x;exact LR.flat (l:=l) (by simpa [flat] using h)
 |_=>exact LR.cons (.flat _ h) LR.nil
theorem zel (hH:HR P N w0 τ σ H w) {e:TypeId}{z:Value}(hz:pureRun P (zeroValue e)=some z) (hf:flat z=true) :
  OpR P N w0 τ σ H w (do pure (Next.value (<-Instr.alloc e true (.tuple #[])))) (.val (.pointer (some ⟨H.next,0,none⟩)) (H.new (some (.row z.cells.toList e)))):=by
 refine OpR.ofRow hH (cs':=z.cells) (z3q hf) fun v' hrun hv'=>?_
 subst hv';have hz':=z0w _ hz w;simp [Instr.alloc,Sem.run_bind,hz',newVar,hrun]
theorem zk0 (hH:HR P N w0 τ σ H w) (hτ:∀j,(τ j).oneCell'=true) {e:TypeId}{v v':Value}(hv:VR σ τ v v') (ho:v.cells.toList.all one=true) :
  OpR P N w0 τ σ H w (do pure (Next.value (<-Instr.box e v'))) (.val (.pointer (some ⟨H.next,0,none⟩)) (H.new (some (.row v.cells.toList e)))):=by
 refine OpR.ofRow hH (cs':=v'.cells) (hv.cells hτ ho) fun u hrun hu=>?_
 subst hu;simp [Instr.box,Sem.run_bind,newVar,hrun]
theorem z66:∀(l l':List Value) (k off:Nat) (acc acc':Array Value),LR σ τ l l'->RA σ τ acc acc' ->
  RA σ τ ((l.zipIdx k).foldl (fun cs (c,j)=>cs.setIfInBounds (off+j) c) acc) ((l'.zipIdx k).foldl (fun cs (c,j)=>cs.setIfInBounds (off+j) c) acc')
 |[],l',k,off,acc,acc',h,ha=>by rw[h.nil_inv];exact ha
 |v :: l,l',k,off,acc,acc',h,ha=>by
  obtain⟨v',r',rfl,hv,hr⟩:=h.cons_inv;simp only[List.zipIdx_cons,List.foldl_cons];refine z66 l r' (k+1) off _ _ hr ?_;refine⟨by simpa using ha.1,fun i u u' x y=>?_⟩;simp only[Array.toList_setIfInBounds,List.getElem?_set] at x y;have hl:=ha.1;split at x
  ·rename_i hi;rw[if_pos hi] at y;split at x
   ·rename_i hb;rw[if_pos (by simp at hl hb ⊢;omega)] at y;cases x;cases y;exact hv
   ·cases x
  ·rename_i hi;rw[if_neg hi] at y;exact ha.2 i u u' x y
def PtR (σ:Nat->Loc) (τ:Nat->Value):List (Nat × Value)->List (Nat × Value)->Prop
 |[],[]=>True
 |p :: l,q :: l'=>q.1=p.1/\VR σ τ p.2 q.2/\p.2.cells.toList.all one=true/\PtR σ τ l l'
 |_,_=>False
theorem z67 (hτ:∀j,(τ j).oneCell'=true) (place:Nat->Option (Nat × Nat)):∀(l l':List (Nat × Value)) (cs cs' r:Array Value),PtR σ τ l l'->RA σ τ cs cs' ->
  Instr.fill place cs l=some r->∃r',Instr.fill place cs' l'=some r'/\RA σ τ r r'
 |[],[],cs,cs',r,_,hc,h=>by simp only[Instr.fill,Option.some.injEq] at h;subst h;exact⟨cs',rfl,hc⟩
 |[],_ :: _,_,_,_,hp,_,_=>hp.elim
 |_ :: _,[],_,_,_,hp,_,_=>hp.elim
 |(i,v) :: l,(j,v') :: l',cs,cs',r,⟨hij,hv,ho,hp⟩,hc,h=>by
  have hij:j=i:=hij;subst hij;simp only[Instr.fill] at h ⊢;cases hpl:place j with
  |none=>rw[hpl] at h;cases h
  |some os =>
   obtain⟨off,size⟩:=os;rw[hpl] at h;simp only at h ⊢;have hcl:=hv.cells hτ ho;have hsz:v'.cells.size=v.cells.size:=by have:=hcl.1;simpa using this.symm
   have hcs:cs'.size=cs.size:=by have:=hc.1;simpa using this.symm
   rw[hsz,hcs];split at h
   ·cases h
   ·rename_i hg;rw[if_neg hg];refine z67 hτ place l l' _ _ r hp ?_ h;rw[<-Array.foldl_toList,<-Array.foldl_toList,Array.toList_zipIdx,Array.toList_zipIdx];exact z66 _ _ 0 off cs cs' hcl hc
theorem zem (parts:List (Nat × Operand)) (hρ:∀p∈parts,VR σ τ (ρ p.2) (ρ' p.2)) (ho:parts.all (fun p=>(ρ p.2).cells.toList.all one)=true) :
  PtR σ τ (parts.map fun p=>(p.1,ρ p.2)) (parts.map fun p=>(p.1,ρ' p.2)):=by
 induction parts with
 |nil=>trivial
 |cons p l ih =>
  simp only[List.all_cons,Zk] at ho;exact⟨rfl,hρ p (by simp),ho.1,ih (fun q hq=>hρ q (by simp [hq])) ho.2⟩
end
end Go.Hb
end

section
namespace Go.Hb
open Go Go.RowKit
theorem z0b (P:Program) {α β:Type}:∀(s:Sem α) (f:α->Sem β),pureRun P (s >>= f)=(pureRun P s).bind fun a=>pureRun P (f a):=by
 intro s f;show pureRun P (Sem.bind s f)=_
 induction s with
 |pure a=>rfl
 |program k ih=>exact ih P
 |mark m k ih=>exact ih
 |_=>rfl
section
variable {P:Program}{N:Nat}{w0:World}{τ:Nat->Value}{σ:Nat->Loc}{H:Heap}{w:World}{ρ ρ':Operand->Value}{o:Oper}
theorem zen (hτ:∀j,(τ j).oneCell'=true) {t:TypeId}{ps ps':Array (Nat × Value)}{z v:Value}(hz:pureRun P (zeroValue t)=some z) (hf:flat z=true)
  (hp:PtR σ τ ps.toList ps'.toList) (h:pureRun P (Instr.build t ps)=some v):∃v',(∀w,(Instr.build t ps').run P w=.ok v' w)/\VR σ τ v v':=by
 have hz0:=z0w _ hz;unfold Instr.build at h ⊢;rw[z0b,hz,ZB,z0b] at h;cases hu:pureRun P (underlying t) with
 |none=>rw[hu] at h;cases h
 |some d =>
  have hu0:=z0w _ hu;rw[hu,ZB] at h;cases d with
  |struct fields =>
   simp only at h;rw[z0b] at h;generalize hm:(fields.mapM fun f=>do pure (f.offset,<-sizeOf f.type):Sem (Array (Nat × Nat)))=m at h;cases hpl:pureRun P m with
   |none=>rw[hpl] at h;cases h
   |some places =>
    have hpl0:=z0w _ hpl;rw[hpl,ZB] at h;cases hfl:Instr.fill (places[·]?) z.cells ps.toList with
    |none=>rw[hfl] at h;simp [pureRun,stuck] at h
    |some r =>
     rw[hfl] at h;have hv:v=.agg r:=by simpa [pureRun,pure] using h.symm
     obtain⟨r',hr',hrr⟩:=z67 hτ _ _ _ _ _ r hp (z3q (σ:=σ) (τ:=τ) hf) hfl;refine⟨.agg r',fun w=>?_,hv ▸ RA.mk_agg hrr⟩;subst hm;simp only[Sem.run_bind,hz0,Result.andThen_ok,hu0,hpl0,hr',Sem.run_pure]
  |array n e =>
   simp only at h;rw[z0b] at h;cases hs:pureRun P (sizeOf e) with
   |none=>rw[hs] at h;cases h
   |some sz =>
    have hs0:=z0w _ hs;rw[hs,ZB] at h;cases hfl:Instr.fill (fun i=>some (i*sz,sz)) z.cells ps.toList with
    |none=>rw[hfl] at h;simp [pureRun,stuck] at h
    |some r =>
     rw[hfl] at h;have hv:v=.agg r:=by simpa [pureRun,pure] using h.symm
     obtain⟨r',hr',hrr⟩:=z67 hτ _ _ _ _ _ r hp (z3q (σ:=σ) (τ:=τ) hf) hfl;refine⟨.agg r',fun w=>?_,hv ▸ RA.mk_agg hrr⟩;simp only[Sem.run_bind,hz0,Result.andThen_ok,hu0,hs0,hr',Sem.run_pure]
  |_=>simp [pureRun,stuck] at h
theorem z0x {v:Value}{hi n:Nat}(h:intBetween v hi=some n):∃k i,v=.int k i/\0<=i/\i<=(hi:Int)/\n=i.toNat:=by
 cases v with
 |int k i =>
  simp only[intBetween] at h;split at h
  ·rename_i hc;cases h;exact⟨k,i,rfl,hc.1,hc.2,rfl⟩
  ·cases h
 |_=>cases h
theorem z2l {k:IntKind}{i:Int}{y:Nat}(code:BoundsCode) (h0:0<=i) (h1:i<=y) (w:World):(Instr.sliceBound (.int k i) y code).run P w=.ok i.toNat w:=by
 simp [Instr.sliceBound,asIntOf,Sem.run_bind,h0,h1]
theorem zcf (hH:HR P N w0 τ σ H w) {t:TypeId}{x x':Value}{lo hi lo' hi':Option Value}{dr:Dr}(hx:VR σ τ x x')
  (hlo:∀v,lo=some v->∃v',lo'=some v'/\VR σ τ v v') (hlo0:lo=none->lo'=none) (hhi:∀v,hi=some v->∃v',hi'=some v'/\VR σ τ v v') (hhi0:hi=none->hi'=none)
  (h:dslice P t x lo hi none H=some dr):OpR P N w0 τ σ H w (do pure (Next.value (<-Instr.sliceAt t x' lo' hi' none))) dr:=by
 unfold dslice at h;cases hu:P.underlying t with
 |none=>rw[hu] at h;cases h
 |some d =>
  rw[hu] at h;cases d with
  |slice e =>
   cases x with
   |slice a n c =>
    simp only at h;have hsh:∃a' c',x'=.slice a' n c'/\c<=c'/\n<=c/\(∀ad,a=some ad->∃ad',a'=some ad'/\AR σ ad ad'/\room σ ad c')/\(a=none->a'=none/\n=0/\c=0/\c'=0):=by
     cases a with
     |some ad =>
      obtain⟨a',c',rfl,h1,h2,h3,h4⟩:=hx.slice_inv;exact⟨some a',c',rfl,h3,h2,fun ad' e=>(by cases e;exact⟨a',rfl,h1,h4⟩),fun e=>by cases e⟩
     |none =>
      obtain⟨rfl,rfl,rfl⟩:=hx.slice_none_inv;exact⟨none,0,rfl,Ze _,Ze _,(fun ad e=>by cases e),fun _=>⟨rfl,rfl,rfl,rfl⟩⟩
    obtain⟨a',c',rfl,hcc,hnc,hsome,hnone⟩:=hsh;cases hi0:P.info? e with
    |none=>rw[hi0] at h;cases h
    |some ie =>
    rw[hi0] at h;cases hhv:bound hi n c with
    |none=>rw[hhv] at h;cases h
    |some hN =>
     rw[hhv] at h;simp only at h;cases hlv:bound lo 0 hN with
     |none=>rw[hlv] at h;cases h
     |some l =>
      rw[hlv] at h;simp only at h;have hh:hN<=c/\((hi'=none/\hN=n)\/∃k i,hi'=some (.int k i)/\0<=i/\i<=(c':Int)/\hN=i.toNat):=by
       cases hi with
       |none=>simp only[bound,Option.some.injEq] at hhv;subst hhv;exact⟨hnc,.inl ⟨hhi0 rfl,rfl⟩⟩
       |some v =>
        obtain⟨v',hv',hr⟩:=hhi v rfl;obtain⟨k,i,rfl,i0,i1,rfl⟩:=z0x hhv;have:=hr.flat_eq rfl;subst this;exact⟨by omega,.inr ⟨k,i,hv',i0,by omega,rfl⟩⟩
      have hl:l<=hN/\((lo'=none/\l=0)\/∃k i,lo'=some (.int k i)/\0<=i/\i<=(hN:Int)/\l=i.toNat):=by
       cases lo with
       |none=>simp only[bound,Option.some.injEq] at hlv;subst hlv;exact⟨Zl _,.inl ⟨hlo0 rfl,rfl⟩⟩
       |some v =>
        obtain⟨v',hv',hr⟩:=hlo v rfl;obtain⟨k,i,rfl,i0,i1,rfl⟩:=z0x hlv;have:=hr.flat_eq rfl;subst this;exact⟨by omega,.inr ⟨k,i,hv',i0,i1,rfl⟩⟩
      obtain⟨hh1,hh2⟩:=hh;obtain⟨hl1,hl2⟩:=hl;have hbounds:∀w,(Instr.sliceBounds true n c' lo' hi' none).run P w=.ok (l,hN,c') w:=by
       intro w;rcases hh2 with ⟨rfl,e1⟩|⟨k,i,rfl,i0,i1,e1⟩
       ·rcases hl2 with ⟨rfl,e2⟩|⟨k2,i2,rfl,j0,j1,e2⟩
        ·simp [Instr.sliceBounds,e1,e2]
        ·rw[e1] at j1;simp [Instr.sliceBounds,e1,e2,z2l _ j0 j1]
       ·rcases hl2 with ⟨rfl,e2⟩|⟨k2,i2,rfl,j0,j1,e2⟩
        ·simp [Instr.sliceBounds,e1,e2,z2l _ i0 i1]
        ·rw[e1] at j1;simp [Instr.sliceBounds,e1,e2,z2l _ i0 i1,z2l _ j0 j1]
      have hrun:∀w,(do pure (Next.value (<-Instr.sliceAt t (.slice a' n c') lo' hi' none)):Sem Next).run P w =
        .ok (.value (.slice (if c'=l then a' else a'.map (·.add (l*P.cellsOf e))) (hN - l) (c' - l))) w:=by
       intro w;unfold Instr.sliceAt Instr.slice;simp only[Sem.run_bind,run_underlying hu,Result.andThen_ok,hbounds,z13 hi0,Sem.run_pure]
      split at h
      ·rename_i hl0;rw[Zt] at hl0;subst hl0;cases h;refine OpR.value hH (hrun w) ?_;have e1:(if c'=0 then a' else a'.map (·.add (0*P.cellsOf e)))=a':=by
        split
        ·rfl
        ·cases a'<;>simp [Addr.add]
       rw[e1,Nat.sub_zero,Nat.sub_zero];cases a with
       |none =>
        obtain⟨rfl,rfl,rfl,rfl⟩:=hnone rfl;have:hN=0:=by omega
        subst this;exact .flat _ rfl
       |some ad =>
        obtain⟨ad',rfl,h1,h2⟩:=hsome ad rfl;exact .slice _ _ _ _ _ h1 hh1 hcc h2
      ·rename_i hl0;rw[Zt] at hl0;split at h
       ·rename_i hlc;rw[Zt] at hlc;cases h;refine OpR.value hH (hrun w) ?_;cases a with
        |none=>obtain⟨_,_,rfl,_⟩:=hnone rfl;omega
        |some ad =>
         obtain⟨ad',rfl,h1,h2⟩:=hsome ad rfl;have e2:hN - l=0:=by omega
         rw[e2];have e3:∃q,(if c'=l then some ad' else (some ad').map (·.add (l*P.cellsOf e)))=some q:=by split<;>exact⟨_,rfl⟩
         obtain⟨q,hq⟩:=e3;rw[hq];exact .slice _ _ _ _ _ (by unfold AR;trivial) (Ze _) (Zl _) ⟨by have:=h2.1;omega,fun h=>by cases h⟩
       ·rename_i hlc;rw[Zt] at hlc;cases a with
        |none=>cases h
        |some ad =>
         simp only at h;obtain⟨ad',rfl,h1,h2⟩:=hsome ad rfl;cases hg:H.get ad.block with
         |none=>rw[hg] at h;cases h
         |some B =>
          rw[hg] at h;cases B with
          |row cs e' =>
           simp only at h;split at h
           ·rename_i hc;simp only[Zk,Zt] at hc;obtain⟨rfl,hsp⟩:=hc;cases h;refine OpR.value hH (hrun w) ?_;rw[if_neg (by omega)];have hB:=hH.blk _ _ hg;generalize hσ:σ ad.block=loc at hB;cases hB with
            |row b S es _ _ cur g1 g2 g3 g4 g5 =>
             have hsp':ad.spot=none:=by simpa using hsp
             have hr:=h2.2 hsp' b S es hσ;unfold AR at h1;simp only[show ad.spot=none by simpa using hsp,hσ] at h1;obtain⟨_,rfl⟩:=h1;simp only[ZE,add0];refine .slice _ _ _ _ _ ?_ (by omega) (by omega) ⟨by have:=h2.1;omega,fun _ b' S' es' hb'=>?_⟩
             ·unfold AR;simp only[hσ];exact⟨trivial,trivial⟩
             ·simp only[hσ] at hb';cases hb';intro hes;have hr:=hr hes;subst g4;rw[Nat.add_assoc,<-Nat.add_mul,show l+(c' - l)=c' from by omega];exact hr
           ·cases h
          |ro cs e' =>
           simp only at h;split at h
           ·rename_i hsp;cases h;refine OpR.value hH (hrun w) ?_;rw[if_neg (by omega)];have hB:=hH.blk _ _ hg;generalize hσ:σ ad.block=loc at hB;cases hB with
            |ro b S _ _ cur fr g1 g2 g3 =>
             unfold AR at h1;simp only[show ad.spot=none by simpa using hsp,hσ] at h1;obtain⟨_,rfl⟩:=h1;simp only[ZE,add0];refine .slice _ _ _ _ _ ?_ (by omega) (by omega) ⟨by have:=h2.1;omega,fun _ b' S' es' hb'=>?_⟩
             ·unfold AR;simp only[hσ];exact⟨trivial,trivial⟩
             ·simp only[hσ] at hb';cases hb';exact fun h=>absurd rfl h
           ·cases h
          |_=>cases h
   |_=>cases h
  |_=>cases h
end
end Go.Hb
end

section
namespace Go.Hb
open Go Go.RowKit
section
variable {P:Program}{N:Nat}{w0:World}{τ:Nat->Value}{σ:Nat->Loc}{H:Heap}{w w':World}{ρ ρ':Operand->Value}{o:Oper}
theorem z68 (hH:HR P N w0 τ σ H w) {size m:Nat}{x x':Value}{l:List Value}(hx:VR σ τ x x') (h:dsource size m x H=some l) :
  ∃ad n c ad' c' l',x=.slice (some ad) n c/\x'=.slice (some ad') n c'/\AR σ ad ad'/\l'.length=m*size/\LR σ τ l l'/\∀j v,l'[j]?=some v->w.cell? (ad'.add j)=some v:=by
 unfold dsource at h;split at h
 case h_2=>cases h
 rename_i ad n c;obtain⟨ad',c',rfl,h1,h2,h3,h4⟩:=hx.slice_inv;obtain⟨l',e1,e2,e3⟩:=hH.load h h1;exact⟨ad,n,c,ad',c',l',rfl,rfl,h1,e1,e2,e3⟩
theorem HR.grow (hH:HR P N w0 τ σ H w) {i b S es:Nat}(hi:i < H.next) (hgi:H.get i≠none) (hσ:σ i=.live b S es) (hb:N<=b) {row:Option Nat}(hrow:row=some b\/row=none) (hg:w.grownBy w' row) {g:Nat}(hgl:g < w'.heap.size)
  (hgb:g=b\/g=w.heap.size) {cs:List Value}{e:TypeId}{cur:Array Value}(hcur:w'.heap[g]?=some (.cells cur e (0,0))) (hp:PR σ τ cs cur.toList) :
  HR P N w0 τ (upd (upd σ i .dead) H.next (.live g cur.size (P.cellsOf e))) ((H.put i none).new (some (.row cs e))) w' /\
  Step σ H w (upd (upd σ i .dead) H.next (.live g cur.size (P.cellsOf e))) ((H.put i none).new (some (.row cs e))) w':=by
 obtain⟨h1,s1⟩:=hH.kill i hi (by rw[hσ];simp) hgi;have hnext:(H.put i none).next=H.next:=rfl;have he:Ext (upd σ i .dead) (upd (upd σ i .dead) H.next (.live g cur.size (P.cellsOf e))):=h1.ext_new _;have hnb:∀j c S' es',upd σ i .dead j=.live c S' es'->c≠b:=fun j c S' es' hj hc=>by
  subst hc;by_cases hji:j=i
  ·rw[hji,z0r] at hj;cases hj
  ·rw[z0f _ _ hji] at hj;exact hji (hH.inj j i c S' es' S es hj hσ)
 have hlt1:=h1.lt;have hng:∀j c S' es',upd σ i .dead j=.live c S' es'->c≠g:=fun j c S' es' hj hc=>by
  rcases hgb with rfl|rfl
  ·exact hnb j c S' es' hj hc
  ·have:=hlt1 j c S' es' hj;omega
 have hkeep:∀k,k < w.heap.size->k≠b->w'.heap[k]?=w.heap[k]?:=fun k hk hkb=>hg.block k hk (by rcases hrow with rfl|rfl<;>simp [hkb])
 have hsz:=hH.size;refine⟨⟨h1.below.trans ⟨hg.os,hg.tape,hg.output,hg.size,fun k hk=>hkeep k (by omega) (by omega)⟩,by have:=hg.size;omega,fun j hj=>?_,fun j C hj=>?_,fun j k c S1 es1 S2 es2 hj hk=>?_,fun j c S1 es1 hj=>?_⟩,
  ⟨Nat.le_succ _,s1.ext.trans he,fun j c S1 es1 hj=>?_,fun k hk hn=>hkeep k hk (fun e=>hgi (hn i S es (e ▸ hσ))),hg.size,fun j hj hgj=>?_⟩⟩
 ·have hj':H.next+1<=j:=hj;rw[z0f _ _ (by omega)];exact h1.fresh j (by rw[hnext];omega)
 ·rw[Heap.get_new,hnext] at hj;by_cases hjn:j=H.next
  ·rw[if_pos hjn] at hj;cases hj;rw[hjn,z0r];exact .row _ _ _ cs e cur (by rcases hgb with h|h<;>omega) hcur rfl rfl (hp.ext (s1.ext.trans he))
  ·rw[if_neg hjn] at hj;rw[z0f _ _ hjn];exact((h1.blk j C hj).ext he).world fun c S' es' hc=>hkeep c (hlt1 j c S' es' hc) (hnb j c S' es' hc)
 ·by_cases hj1:j=H.next
  ·by_cases hk1:k=H.next
   ·rw[hj1,hk1]
   ·rw[hj1,z0r] at hj;cases hj;rw[z0f _ _ hk1] at hk;exact absurd rfl (hng k _ _ _ hk)
  ·rw[z0f _ _ hj1] at hj;by_cases hk1:k=H.next
   ·rw[hk1,z0r] at hk;cases hk;exact absurd rfl (hng j _ _ _ hj)
   ·rw[z0f _ _ hk1] at hk;exact h1.inj j k c S1 es1 S2 es2 hj hk
 ·by_cases hj1:j=H.next
  ·rw[hj1,z0r] at hj;cases hj;exact hgl
  ·rw[z0f _ _ hj1] at hj;have:=hlt1 j c S1 es1 hj;have:=hg.size;omega
 ·by_cases hj1:j=H.next
  ·rw[hj1,z0r] at hj;cases hj;rcases hgb with h|h
   ·exact .inr (.inr ⟨i,S,es,hgi,h ▸ hσ⟩)
   ·exact .inl (Nat.le_of_eq h.symm)
  ·rw[z0f _ _ hj1] at hj;exact s1.new j c S1 es1 hj
 ·obtain⟨e1,e2⟩:=s1.keep j hj hgj;obtain⟨e3,e4⟩:=h1.keep_new (.live g cur.size (P.cellsOf e)) (some (.row cs e)) (i:=j) (hj.elim .inl fun h=>.inr (by rw[e1];exact h)) e2;exact⟨e3.trans e1,e4⟩
theorem z87 {t:TypeId}{e:TypeId}{i:TypeInfo}{ty:TypeId}{a b:Option Addr}{n c d:Nat}(hu:P.underlying t=some (.slice e)) (hi:P.info? e=some i) (hn:n<=c) (w:World) :
  (Builtin.append_ #[t,t] ty #[.slice a n c,.slice b 0 d]).run P w=.ok (.slice a n c) w:=by
 have hf:(Builtin.firstCells i.size 0 (.slice b 0 d)).run P w=.ok #[] w:=by
  cases b with
  |none=>rfl
  |some b=>simp [Builtin.firstCells,loadCells,loadCellsFrom]
 cases a with
 |none=>simp [Builtin.append_,run_underlying hu,sizeOf,typeInfo,hi,Builtin.lenOf,hf,hn]
 |some a=>simp [Builtin.append_,run_underlying hu,sizeOf,typeInfo,hi,Builtin.lenOf,hf,hn,storeCells]
theorem zb4 (hH:HR P N w0 τ σ H w) (hτ:∀j,(τ j).oneCell'=true) {ts:Array TypeId}{ty:TypeId}{s s' x x':Value}{dr:Dr}(hs:VR σ τ s s') (hx:VR σ τ x x')
  (h:dappend P ts s x H=some dr):OpR P N w0 τ σ H w (do pure (Next.value (<-Builtin.append_ ts ty #[s',x']))) dr:=by
 unfold dappend at h;split at h
 case h_2=>cases h
 rename_i t xt hts;obtain⟨ts⟩:=ts;simp only at hts;subst hts;split at h
 case h_2=>cases h
 rename_i e a n c b m d hu hxt;rw[Zt] at hxt;subst hxt;cases hi:P.info? e with
 |none=>rw[hi] at h;cases h
 |some i =>
  rw[hi] at h;simp only at h;have hxs:∃b' d',x'=.slice b' m d'/\(b=none->m=0):=by
   cases b with
   |some bd=>obtain⟨b',d',rfl,_⟩:=hx.slice_inv;exact⟨_,_,rfl,fun e=>by cases e⟩
   |none=>obtain⟨rfl,rfl,rfl⟩:=hx.slice_none_inv;exact⟨_,_,rfl,fun _=>rfl⟩
  obtain⟨b',d',rfl,hb0⟩:=hxs;have hss:∃a' c',s'=.slice a' n c'/\n<=c':=by
   cases a with
   |some ad=>obtain⟨a',c',rfl,_,h2,h3,_⟩:=hs.slice_inv;exact⟨_,_,rfl,by omega⟩
   |none=>obtain⟨rfl,rfl,rfl⟩:=hs.slice_none_inv;exact⟨_,_,rfl,Ze _⟩
  obtain⟨a',c',rfl,hnc⟩:=hss;split at h
  ·rename_i hm;rw[Zt] at hm;subst hm;cases h;exact OpR.value hH (z2f _ _ _ (z87 hu hi hnc w)) hs
  ·rename_i hm;rw[Zt] at hm;split at h
   case isFalse=>cases h
   rename_i hbd;obtain⟨hnm,hby,hsz,hzs⟩:=hbd;cases hds:dsource i.size m (.slice b m d) H with
   |none=>rw[hds] at h;cases h
   |some news =>
    rw[hds] at h;simp only at h;split at h
    case isFalse=>cases h
    rename_i hnl;obtain⟨hnl,hone⟩:=hnl;rw[Zt] at hnl;obtain⟨bd,n2,c2,bd',d2,news',e1,e2,hbA,hlen,hnr,hcell⟩:=z68 hH hx hds;cases e1;cases e2;have h1:∀u∈news',u.oneCell'=true:=LR.one hτ hnr hone;have hz:∃z,i.zero=some z/\z.cells.size=i.size:=by
     unfold zsize at hzs;cases hzz:i.zero with
     |some z=>rw[hzz] at hzs;exact⟨z,rfl,hzs⟩
     |none=>rw[hzz] at hzs;simp only at hzs;omega
    obtain⟨z,hz,hzs'⟩:=hz;have hb63:n+m<=maxLen:=by simp only[most] at hnm;simp only[maxLen];omega
    have hbytes:(n+m)*i.bytes<=140737488355328:=by
     have:(n+m)*i.bytes<=34359738368*4096:=Nat.mul_le_mul (by simpa [most] using hnm) hby;omega
    cases a with
    |none =>
     obtain⟨rfl,rfl,e3⟩:=hs.slice_none_inv;cases e3;simp only at h;cases h;have hown:w.ownsRow N e i.size (.slice none 0 0) 0 []:=⟨by simp,.inl ⟨rfl,rfl⟩⟩
     obtain⟨v',w1,hrun,hown',hgr,hnil,hat⟩:=run_append_own_at (P:=P) w N xt ty e i z i.size i.bytes hu hi hz rfl rfl hzs' hsz _ 0 [] hown bd' m d' news' hlen hcell h1 (by simpa using hb63) (by simpa using hbytes) hH.size;obtain⟨hl1,hform⟩:=hown';rcases hform with ⟨e4,_⟩|⟨g,cap,cur,rfl,hNg,hcur,hncap,hcm,hcs,htake⟩
     ·rw[hnil] at e4;omega
     ·have hg:g=w.heap.size:=by
       rcases hat with h|h
       ·simp [Value.ownBlock] at h
       ·simpa [Value.ownBlock] using h
      subst hg;have hlt:=(Array.getElem?_eq_some_iff.1 hcur).1;have hpr:PR σ τ news cur.toList:=by
       unfold PR;have:cur.toList.take news.length=news':=by
        rw[hnl];simpa using htake
       rw[this];exact hnr
      obtain⟨hH',hst⟩:=hH.alloc (B:=.row news e) (S:=cur.size) (es:=P.cellsOf e) hgr.os hgr.tape hgr.output hlt (fun k hk=>hgr.block k hk (by simp [Value.ownBlock]))
       (.row _ _ _ news e cur hH.size hcur rfl rfl (hpr.ext (hH.ext_new _)))
      rw[ZP] at hrun hncap;refine⟨_,w1,_,_,z2f _ _ _ hrun,.inl rfl,.slice _ _ _ _ _ za0 (Ze _) hncap ⟨hcm,fun _ b S es hb=>?_⟩,hH',hst⟩;intro _;rw[z0r] at hb;cases hb;rw[hcs,z1c hi,ZP]
    |some ad =>
     simp only at h;split at h
     case h_2=>cases h
     rename_i cs e' hsp hoff hg;split at h
     case isFalse=>cases h
     rename_i hc;obtain⟨he',hfit,hone1⟩:=hc;rw[Zt] at he';subst he';cases h;have hlt0:=hH.get_lt hg;have hB:=hH.blk _ _ hg;obtain⟨ad',c'',e4,hA,h5,h6,h7⟩:=hs.slice_inv;cases e4;generalize hσ:σ ad.block=loc at hB;cases hB with
     |row bb S es _ _ cur g1 g2 g3 g4 g5 =>
      have hroom:=h7.2 hsp bb S es hσ (by rw[g4,z1c hi];omega);unfold AR at hA;simp only[hsp,hσ] at hA;obtain⟨_,rfl⟩:=hA;rw[hoff] at hroom hs ⊢;have hcsz:cur.size=c'*i.size:=by rw[g3,<-hroom,g4,z1c hi,ZP]
      have hxl:(cur.toList.take (n*i.size)).length=n*i.size:=by
       have:=g5.len;simp at this ⊢;omega
      have hown:w.ownsRow N e i.size (.slice (some ⟨bb,0,none⟩) n c') n (cur.toList.take (n*i.size)) :=
       ⟨hxl,.inr ⟨bb,c',cur,rfl,g1,g2,hnc,h7.1,hcsz,rfl⟩⟩
      obtain⟨v',w1,hrun,hown',hgr,hnil,hat⟩:=run_append_own_at (P:=P) w N xt ty e i z i.size i.bytes hu hi hz rfl rfl hzs' hsz _ n _ hown bd' m d' news' hlen hcell h1 hb63 hbytes hH.size;obtain⟨hl1,hform⟩:=hown';rcases hform with ⟨e4,_⟩|⟨g,cap,cur',rfl,hNg,hcur,hncap,hcm,hcs,htake⟩
      ·have:=hnil.1 e4;cases this.1
      ·have hgb:g=bb\/g=w.heap.size:=by simpa [Value.ownBlock] using hat
       have hlt:=(Array.getElem?_eq_some_iff.1 hcur).1;have hxr:LR σ τ (cs.take (n*i.size)) (cur.toList.take (n*i.size)):=by
        have:=LR.take (n*i.size) g5;rw[List.take_take,Nat.min_eq_left hfit] at this;exact this
       have hpr:PR σ τ (cs.take (n*i.size)++news) cur'.toList:=by
        unfold PR;have:(cs.take (n*i.size)++news).length=(n+m)*i.size:=by
         rw[Zr,Zo,Nat.min_eq_left hfit,hnl,Nat.add_mul]
        rw[this,htake];exact LR.append hxr hnr
       obtain⟨hH',hst⟩:=hH.grow hlt0 (by rw[hg];simp) hσ g1 (row:=some bb) (.inl rfl) hgr hlt hgb hcur hpr;refine⟨_,w1,_,_,z2f _ _ _ hrun,.inl rfl,.slice _ _ _ _ _ ?_ (Ze _) hncap ⟨hcm,fun _ b S es hb=>?_⟩,hH',hst⟩
       ·unfold AR;simp only[z0r];exact⟨trivial,trivial⟩
       ·intro _;rw[z0r] at hb;cases hb;rw[hcs,z1c hi,ZP]
end
end Go.Hb
end

section
namespace Go.Hb
open Go Go.RowKit
section
variable {P:Program}{N:Nat}{w0:World}{τ:Nat->Value}{σ:Nat->Loc}{H:Heap}{w w':World}{ρ ρ':Operand->Value}{o:Oper}
theorem z7h (kind:TypeDesc) (k:Value):∀(es es':List MapEntry) (i:Nat),es.map (·.key)=es'.map (·.key) ->
  match Instr.findNow kind k es i with
  |none=>Instr.findNow kind k es' i=none
  |some none=>Instr.findNow kind k es' i=some none
  |some (some (j,_))=>i<=j/\∃e',es'[j - i]?=some e'/\Instr.findNow kind k es' i=some (some (j,e'.val))
 |[],[],i,_=>rfl
 |[],_ :: _,i,h=>by simp at h
 |_ :: _,[],i,h=>by simp at h
 |e :: es,e' :: es',i,h=>by
  simp only[ZA,List.cons.injEq] at h;obtain⟨h1,h2⟩:=h;simp only[Instr.findNow];rw[<-h1];cases hs:Instr.sameNow kind k e.key with
  |none=>rfl
  |some b =>
   cases b with
   |true=>exact⟨Ze _,e',by simp,rfl⟩
   |false =>
    simp only;have ih:=z7h kind k es es' (i+1) h2;cases hf:Instr.findNow kind k es (i+1) with
    |none=>rw[hf] at ih;exact ih
    |some r =>
     rw[hf] at ih;cases r with
     |none=>exact ih
     |some p =>
      obtain⟨j,v⟩:=p;obtain⟨hij,e2,h3,h4⟩:=ih;refine⟨by omega,e2,?_,h4⟩;rw[show j - i=(j - (i+1))+1 from by omega,List.getElem?_cons_succ];exact h3
theorem z4j (kt:TypeId) (k:Value):∀(es es':List MapEntry) (i:Nat) (r:Option (Nat × Value)),es.map (·.key)=es'.map (·.key)->pureRun P (Instr.findAsking kt k es i)=some r ->
  match r with
  |none=>∀w,(Instr.findAsking kt k es' i).run P w=.ok none w
  |some (j,_)=>i<=j/\∃e',es'[j - i]?=some e'/\∀w,(Instr.findAsking kt k es' i).run P w=.ok (some (j,e'.val)) w
 |[],[],i,r,_,h=>by
  have:r=none:=by simpa [Instr.findAsking,pureRun,pure] using h.symm
  subst this;intro w;rfl
 |[],_ :: _,i,_,h,_=>by simp at h
 |_ :: _,[],i,_,h,_=>by simp at h
 |e :: es,e' :: es',i,r,hk,h=>by
  simp only[ZA,List.cons.injEq] at hk;obtain⟨h1,h2⟩:=hk;simp only[Instr.findAsking] at h ⊢;rw[z0b] at h;cases hq:pureRun P (Op.equal kt k e.key) with
  |none=>rw[hq] at h;cases h
  |some b =>
   have hq0:=z0w _ hq;rw[h1] at hq0;rw[hq,ZB] at h;cases b with
   |true =>
    have:r=some (i,e.val):=by simpa [pureRun,pure] using h.symm
    subst this;exact⟨Ze _,e',by simp,fun w=>by simp [Sem.run_bind,hq0]⟩
   |false =>
    simp only[Zg,if_false] at h;have ih:=z4j kt k es es' (i+1) r h2 h;cases r with
    |none=>exact fun w=>by simp [Sem.run_bind,hq0,ih w]
    |some p =>
     obtain⟨j,v⟩:=p;obtain⟨hij,e2,h3,h4⟩:=ih;refine⟨by omega,e2,?_,fun w=>by simp [Sem.run_bind,hq0,h4 w]⟩;rw[show j - i=(j - (i+1))+1 from by omega,List.getElem?_cons_succ];exact h3
theorem zcg (kt:TypeId) (k:Value) (es es':List MapEntry) (r:Option (Nat × Value)) (hk:es.map (·.key)=es'.map (·.key)) (h:pureRun P (Instr.findKey kt k es)=some r) :
  match r with
  |none=>∀w,(Instr.findKey kt k es').run P w=.ok none w
  |some (j,_)=>∃e',es'[j]?=some e'/\∀w,(Instr.findKey kt k es').run P w=.ok (some (j,e'.val)) w:=by
 unfold Instr.findKey at h ⊢;rw[z0b] at h;cases hu:pureRun P (underlying kt) with
 |none=>rw[hu] at h;cases h
 |some d =>
  have hu0:=z0w _ hu;rw[hu,ZB] at h;have hn:=z7h d k es es' 0 hk;cases hf:Instr.findNow d k es 0 with
  |none =>
   rw[hf] at hn h;simp only at hn h;have ha:=z4j kt k es es' 0 r hk h;cases r with
   |none=>exact fun w=>by simp [Sem.run_bind,hu0,hn,ha w]
   |some p =>
    obtain⟨j,v⟩:=p;obtain⟨_,e2,h3,h4⟩:=ha;exact⟨e2,by simpa using h3,fun w=>by simp [Sem.run_bind,hu0,hn,h4 w]⟩
  |some q =>
   rw[hf] at hn h;have:r=q:=by simpa [pureRun,pure] using h.symm
   subst this;cases r with
   |none =>
    simp only at hn;exact fun w=>by simp [Sem.run_bind,hu0,hn]
   |some p =>
    obtain⟨j,v⟩:=p;simp only at hn;obtain⟨_,e2,h3,h4⟩:=hn;exact⟨e2,by simpa using h3,fun w=>by simp [Sem.run_bind,hu0,h4]⟩
theorem EntR.keys {es:List MapEntry}{es':Array MapEntry}(h:EntR σ τ es es'):(keysOf es).map (·.key)=es'.toList.map (·.key):=by
 apply List.ext_getElem?;intro i;simp only[keysOf,List.map_map,Zw];cases he:es[i]? with
 |none =>
  have hi:es.length<=i:=by
   rcases Nat.lt_or_ge i es.length with hlt|hge
   ·rw[Zc hlt] at he;cases he
   ·exact hge
  have:es'.toList[i]?=none:=Zy (by have:=h.1;simp;omega);rw[this];rfl
 |some e =>
  have hi:i < es.length:=by
   rcases Nat.lt_or_ge i es.length with hlt|hge
   ·exact hlt
   ·rw[Zy hge] at he;cases he
  have hi':i < es'.size:=h.1 ▸ hi;have he':es'[i]?=some es'[i]:=Array.getElem?_eq_getElem hi';obtain⟨hk,_⟩:=h.2 i e _ he he';have:es'.toList[i]?=some es'[i]:=by simp
  rw[this];simp [hk]
theorem EntR.isEmpty {es:List MapEntry}{es':Array MapEntry}(h:EntR σ τ es es'):es'.isEmpty=es.isEmpty:=by
 have:=h.1;cases es with
 |nil=>simp at this ⊢;exact Array.eq_empty_of_size_eq_zero this.symm
 |cons a l=>simp at this;cases hq:es'.isEmpty<;>simp_all
theorem z2g {emp:Bool}{kt:TypeId}{k k':Value}{es:List MapEntry}{es':Array MapEntry}{r:Option Nat}(h:dfind P emp kt k es=some r) (hk:VR σ τ k k') (he:EntR σ τ es es') :
  k'=k/\flat k=true/\(∀w,(Instr.checkKey emp 10000 kt k').run P w=.ok () w) /\
  match r with
  |none=>∀w,(Instr.findKey kt k' es'.toList).run P w=.ok none w
  |some j=>∃e',es'[j]?=some e'/\∀w,(Instr.findKey kt k' es'.toList).run P w=.ok (some (j,e'.val)) w:=by
 unfold dfind at h;split at h
 case h_2=>cases h
 rename_i r0 hf hc hq;cases h;have hkk:=hk.flat_eq hf;subst hkk;refine⟨rfl,hf,fun w=>z0w _ hc w,?_⟩;have:=zcg kt k' _ _ r0 he.keys hq;cases r0 with
 |none=>exact this
 |some p =>
  obtain⟨j,v⟩:=p;obtain⟨e2,h3,h4⟩:=this;exact⟨e2,by simpa using h3,h4⟩
theorem HR.mapAt (hH:HR P N w0 τ σ H w) {r:Nat}{es:List MapEntry}{clock:Nat}(h:H.get r=some (.map es clock)) :
  ∃b S ez es',σ r=.live b S ez/\N<=b/\w.heap[b]?=some (.map es' clock)/\EntR σ τ es es':=by
 have hB:=hH.blk r _ h;generalize hσ:σ r=loc at hB;cases hB with
 |map b S ez _ _ es' h1 h2 h3=>exact⟨b,S,ez,es',rfl,h1,h2,h3⟩
theorem BR.at {r r' b S ez:Nat}(h:BR σ r r') (hσ:σ r=.live b S ez):r'=b:=by unfold BR at h;rw[hσ] at h;exact h
theorem z2h {r:Nat}{es:Array MapEntry}{clock:Nat}(hb:w.heap[r]?=some (.map es clock)):(getObj r).run P w=.ok (.map es clock) w:=by simp [getObj,Sem.run,hb]
theorem z4w {r:Nat}{es:Array MapEntry}{clock:Nat}(o:Obj) (hb:w.heap[r]?=some (.map es clock)):(setObj r o).run P w=.ok () { w with heap:=w.heap.setIfInBounds r o }:=by simp [setObj,Sem.run,hb]
theorem zb5 (hH:HR P N w0 τ σ H w) {t:TypeId}{m m' k k':Value}{ok:Bool}{dr:Dr}(hm:VR σ τ m m') (hk:VR σ τ k k') (h:dlookup P t m k ok H=some dr) :
  OpR P N w0 τ σ H w (do pure (Next.value (<-Instr.lookup t m' k' ok))) dr:=by
 unfold dlookup at h;split at h
 case h_2=>cases h
 rename_i kt et hu;have out:∀(u u':Value) (b:Bool),VR σ τ u u'->VR σ τ (if ok then .tuple #[u,.bool b] else u) (if ok then .tuple #[u',.bool b] else u'):=by
  intro u u' b hr;split
  ·exact RA.mk_tuple (LR.cons hr (LR.cons (.flat _ rfl) LR.nil))
  ·exact hr
 cases m with
 |map r =>
  cases r with
  |none =>
   have:=hm.flat_eq rfl;subst this;simp only at h;split at h
   case h_2=>cases h
   rename_i hf hc hq;have hkk:=hk.flat_eq hf;subst hkk;have hc0:=z0w _ hc;have hq0:=z0w _ hq;split at h
   case h_2=>cases h
   rename_i z hz;have hz0:=z0w _ hz;split at h
   case isFalse=>cases h
   rename_i hzf;cases h;refine OpR.value hH ?_ (out z z false (.flat z hzf));apply z2f;unfold Instr.lookup;simp only[Sem.run_bind,run_underlying hu,Result.andThen_ok,Sem.run_pure];rw[show (#[]:Array MapEntry).isEmpty=true from rfl,hc0 w];simp only[Result.andThen_ok];rw[hq0 w];simp only[Result.andThen_ok,Sem.run_bind,hz0,Sem.run_pure]
  |some r =>
   obtain⟨r',rfl,hbr⟩:=hm.map_inv;simp only at h;split at h
   case h_2=>cases h
   rename_i es clock hg;obtain⟨b,S,ez,es',hσ,hNb,hb,he⟩:=hH.mapAt hg;have:=hbr.at hσ;subst this;split at h
   ·
    rename_i hd;obtain⟨rfl,hf,hck,hfk⟩:=z2g hd hk he;split at h
    case h_2=>cases h
    rename_i z hz;have hz0:=z0w _ hz;split at h
    case isFalse=>cases h
    rename_i hzf;cases h;refine OpR.value hH ?_ (out z z false (.flat z hzf));apply z2f;unfold Instr.lookup;simp only[Sem.run_bind,run_underlying hu,Result.andThen_ok,z2h hb,he.isEmpty,hck,hfk,hz0,Sem.run_pure]
   ·rename_i i hd;obtain⟨rfl,hf,hck,e',he1,hfk⟩:=z2g hd hk he;split at h
    case h_2=>cases h
    rename_i e hes;cases h;refine OpR.value hH ?_ (out e.val e'.val true (he.2 i e e' hes he1).2.2.2);apply z2f;unfold Instr.lookup;simp only[Sem.run_bind,run_underlying hu,Result.andThen_ok,z2h hb,he.isEmpty,hck,hfk,Sem.run_pure]
   ·cases h
 |_=>cases h
theorem z69 {b k:Nat}(o:Obj) (hk:k≠b):({ w with heap:=w.heap.setIfInBounds b o }:World).heap[k]?=w.heap[k]?:=by
 simp [Array.getElem?_setIfInBounds,Ne.symm hk]
theorem zb6 {b:Nat}(o:Obj) (hb:b < w.heap.size):({ w with heap:=w.heap.setIfInBounds b o }:World).heap[b]?=some o:=by
 simp [Array.getElem?_setIfInBounds,hb]
theorem HR.setMap (hH:HR P N w0 τ σ H w) {r b S ez:Nat}{es es1:List MapEntry}{c1 clock:Nat}{es':Array MapEntry}(hg:H.get r=some (.map es clock)) (hσ:σ r=.live b S ez) (hN:N<=b)
  (hb:b < w.heap.size) (he:EntR σ τ es1 es') :
  HR P N w0 τ σ (H.put r (some (.map es1 c1))) { w with heap:=w.heap.setIfInBounds b (.map es' c1) } /\
  Step σ H w σ (H.put r (some (.map es1 c1))) { w with heap:=w.heap.setIfInBounds b (.map es' c1) } :=
 hH.write (by rw[hg];simp) hσ hN rfl rfl rfl (by simp) (fun k hk=>z69 _ hk) (.map b S ez es1 c1 es' hN (zb6 _ hb) he)
theorem z6a (hH:HR P N w0 τ σ H w) {t:TypeId}{m m' k k' v v':Value}{dr:Dr}(hm:VR σ τ m m') (hk:VR σ τ k k') (hv:VR σ τ v v') (h:dupdate P t m k v H=some dr) :
  OpR P N w0 τ σ H w (do Instr.mapUpdate t m' k' v';pure Next.skip) dr:=by
 unfold dupdate at h;split at h
 case h_2=>cases h
 rename_i kt et r hu;obtain⟨r',rfl,hbr⟩:=hm.map_inv;split at h
 case h_2=>cases h
 rename_i es clock hg;obtain⟨b,S,ez,es',hσ,hNb,hb,he⟩:=hH.mapAt hg;have:=hbr.at hσ;subst this;have hlt:=(Array.getElem?_eq_some_iff.1 hb).1;split at h
 ·rename_i hd;obtain⟨rfl,hf,hck,hfk⟩:=z2g hd hk he;cases h;have hent:EntR σ τ (es++[{ key:=k',val:=v,born:=clock }]) (es'.push { key:=k',val:=v',born:=clock }):=by
   refine⟨by simp [he.1],fun i e e' x y=>?_⟩;by_cases hi:i < es.length
   ·rw[Zz hi] at x;rw[Array.getElem?_push_lt (by have:=he.1;omega)] at y;exact he.2 i e e' x (by rw[Array.getElem?_eq_getElem (by have:=he.1;omega)];exact y)
   ·have hi':i=es.length:=by
     rcases Nat.lt_or_ge es.length i with h1|h1
     ·rw[Zy (by simp;omega)] at x;cases x
     ·omega
    subst hi';simp at x;rw[he.1,Array.getElem?_push_size] at y;cases x;cases y;exact⟨rfl,hf,rfl,hv⟩
  obtain⟨h1,h2⟩:=hH.setMap (c1:=clock+1) hg hσ hNb hlt hent;refine⟨.skip,_,_,undef,?_,.inr ⟨rfl,rfl⟩,.flat _ rfl,h1,h2⟩;apply zro;unfold Instr.mapUpdate;simp only[Sem.run_bind,run_underlying hu,Result.andThen_ok,z2h hb,hck,hfk,z4w _ hb]
 ·rename_i i hd;obtain⟨rfl,hf,hck,e',he1,hfk⟩:=z2g hd hk he;split at h
  case h_2=>cases h
  rename_i e hes;split at h
  case isFalse=>cases h
  rename_i hsb;cases h;obtain⟨hke,hkf,hbo,hva⟩:=he.2 i e e' hes he1;have hent:EntR σ τ (es.set i { e with key:=k',val:=v }) (es'.modify i fun e=>{ e with key:=k',val:=v' }):=by
   refine⟨by simp [he.1],fun j a a' x y=>?_⟩;rw[List.getElem?_set] at x;rw[Array.getElem?_modify] at y;split at x
   ·rename_i hij;subst hij;rw[if_pos rfl,he1] at y;split at x
    ·cases x;cases y;exact⟨rfl,hf,hbo,hv⟩
    ·cases x
   ·rename_i hij;rw[if_neg hij] at y;exact he.2 j a a' x y
  obtain⟨h1,h2⟩:=hH.setMap (c1:=clock) hg hσ hNb hlt hent;refine⟨.skip,_,_,undef,?_,.inr ⟨rfl,rfl⟩,.flat _ rfl,h1,h2⟩;apply zro;unfold Instr.mapUpdate Instr.keyThatStays;simp only[Sem.run_bind,run_underlying hu,Result.andThen_ok,z2h hb,hck,hfk,he1,ZE,Option.getD_some,hke,hsb,if_true,Sem.run_pure,z4w _ hb]
 ·cases h
end
end Go.Hb
end

section
namespace Go.Hb
open Go Go.RowKit
section
variable {P:Program}{N:Nat}{w0:World}{τ:Nat->Value}{σ:Nat->Loc}{H:Heap}{w w':World}{ρ ρ':Operand->Value}{o:Oper}
theorem zb7 (hH:HR P N w0 τ σ H w) {t:TypeId}{ts:Array TypeId}{ty:TypeId}{m m' k k':Value}{dr:Dr}(ht:ts[0]?=some t) (hm:VR σ τ m m') (hk:VR σ τ k k') (h:ddelete P t m k H=some dr) :
  OpR P N w0 τ σ H w (do pure (Next.value (<-Builtin.delete_ ts ty #[m',k']))) dr:=by
 unfold ddelete at h;split at h
 case h_2=>cases h
 rename_i kt et r hu;obtain⟨r',rfl,hbr⟩:=hm.map_inv;split at h
 case h_2=>cases h
 rename_i es clock hg;obtain⟨b,S,ez,es',hσ,hNb,hb,he⟩:=hH.mapAt hg;have:=hbr.at hσ;subst this;have hlt:=(Array.getElem?_eq_some_iff.1 hb).1;split at h
 ·rename_i hd;obtain⟨rfl,hf,hck,hfk⟩:=z2g hd hk he;cases h;have hsame:({ w with heap:=w.heap.setIfInBounds r' (.map es' clock) }:World)=w:=by
   have:w.heap.setIfInBounds r' (.map es' clock)=w.heap:=by
    apply Array.ext_getElem?;intro i;rw[Array.getElem?_setIfInBounds];split
    ·rename_i hi;subst hi;first|rw[hb]|rw[if_pos hlt,hb]
    ·rfl
   cases w;simp_all
  refine OpR.value hH ?_ (.flat _ rfl);apply z2f;unfold Builtin.delete_;simp only[ht,List.getElem?_toArray,List.getElem?_cons_zero,List.getElem?_cons_succ,Sem.run_bind,run_underlying hu,Result.andThen_ok,z2h hb,he.isEmpty,hck,hfk,z4w _ hb,hsame];rfl
 ·rename_i i hd;obtain⟨rfl,hf,hck,e',he1,hfk⟩:=z2g hd hk he;cases h;have hent:EntR σ τ (es.eraseIdx i) (es'.eraseIdxIfInBounds i):=by
   have hl:(es'.eraseIdxIfInBounds i).toList=es'.toList.eraseIdx i:=by
    rw[Array.eraseIdxIfInBounds];split
    ·simp
    ·rename_i hi;rw[List.eraseIdx_of_length_le];simpa using hi
   have hz:(es'.eraseIdxIfInBounds i).size=(es'.toList.eraseIdx i).length:=by rw[<-hl,Array.length_toList]
   have e1:es'.toList.length=es.length:=by rw[Array.length_toList];exact he.1.symm
   refine⟨by rw[hz,List.length_eraseIdx,List.length_eraseIdx,e1],fun j a a' x y=>?_⟩;have y':(es'.toList.eraseIdx i)[j]?=some a':=by rw[<-hl,Array.getElem?_toList];exact y
   rw[List.getElem?_eraseIdx] at x y';split at x
   ·rename_i hj;rw[if_pos hj] at y';exact he.2 j a a' x (by simpa using y')
   ·rename_i hj;rw[if_neg hj] at y';exact he.2 (j+1) a a' x (by simpa using y')
  obtain⟨h1,h2⟩:=hH.setMap (c1:=clock) hg hσ hNb hlt hent;refine⟨_,_,_,undef,z2f _ _ _ ?_,.inl rfl,.flat _ rfl,h1,h2⟩;unfold Builtin.delete_;simp only[ht,List.getElem?_toArray,List.getElem?_cons_zero,List.getElem?_cons_succ,Sem.run_bind,run_underlying hu,Result.andThen_ok,z2h hb,he.isEmpty,hck,hfk,z4w _ hb];rfl
 ·cases h
theorem zeo (hH:HR P N w0 τ σ H w) (hτ:∀j,(τ j).oneCell'=true) {ts:Array TypeId}{ty:TypeId}{d d' x x':Value}{dr:Dr}(hd:VR σ τ d d') (hx:VR σ τ x x')
  (h:dcopy P ts d x H=some dr):OpR P N w0 τ σ H w (do pure (Next.value (<-Builtin.copy_ ts ty #[d',x']))) dr:=by
 unfold dcopy at h;split at h
 case h_2=>cases h
 rename_i t ts' hts;have ht:ts[0]?=some t:=by
  have:ts.toList[0]?=some t:=by rw[hts];rfl
  simpa using this
 split at h
 case h_2=>cases h
 rename_i e a n c b m cc hu;split at h
 case h_2=>cases h
 rename_i i hi;have hdd:∃a' c',d'=.slice a' n c'/\∀ad,a=some ad->∃ad',a'=some ad'/\AR σ ad ad':=by
  cases a with
  |some ad=>obtain⟨a',c',rfl,h1,_⟩:=hd.slice_inv;exact⟨_,_,rfl,fun ad' e=>(by cases e;exact⟨a',rfl,h1⟩)⟩
  |none=>obtain⟨rfl,rfl,rfl⟩:=hd.slice_none_inv;exact⟨_,_,rfl,fun ad e=>by cases e⟩
 obtain⟨a',c',rfl,hA⟩:=hdd;dsimp only at h;split at h
 ·rename_i hk;rw[Zt] at hk;cases h;have hxx:∃b' d2,x'=.slice b' m d2:=by
   cases b with
   |some bd=>obtain⟨b',d',rfl,_⟩:=hx.slice_inv;exact⟨_,_,rfl⟩
   |none=>obtain⟨rfl,rfl,rfl⟩:=hx.slice_none_inv;exact⟨_,_,rfl⟩
  obtain⟨b',d2,rfl⟩:=hxx;refine OpR.value hH ?_ (.flat _ rfl);apply z2f;have hk':m.min n=0:=hk;unfold Builtin.copy_;simp only[ht,List.getElem?_toArray,List.getElem?_cons_zero,List.getElem?_cons_succ,Sem.run_bind,run_underlying hu,Result.andThen_ok,Builtin.lenOf,Sem.run_pure,hk',z13 hi];cases b' with
  |none=>cases a'<;>simp [Builtin.firstCells,storeCells,goInt]
  |some bd=>cases a'<;>simp [Builtin.firstCells,storeCells,goInt,loadCells,loadCellsFrom]
 ·rename_i hk;split at h
  case h_2=>cases h
  rename_i news ad hds;obtain⟨ad',rfl,hA1⟩:=hA ad rfl;split at h
  case h_2=>cases h
  rename_i H' hst;cases h;obtain⟨bd,n2,c2,bd',d2,news',e1,rfl,hbA,hlen,hnr,hcell⟩:=z68 hH hx hds;cases e1;obtain⟨w',hrun,hH',hstep⟩:=hH.store hτ hst hA1 hnr;have hl:=run_loadCells_list (P:=P) w bd' news' hcell;rw[hlen] at hl;refine⟨_,w',σ,_,z2f _ _ _ ?_,.inl rfl,.flat _ rfl,hH',hstep⟩;unfold Builtin.copy_;simp only[ht,List.getElem?_toArray,List.getElem?_cons_zero,List.getElem?_cons_succ,Sem.run_bind,run_underlying hu,Result.andThen_ok,Builtin.lenOf,Sem.run_pure,z13 hi,Builtin.firstCells];rw[hl];simp only[Result.andThen_ok,Sem.run_bind,hrun];rfl
theorem z88:∀{l l':List Value}{ns:List Int},bytesOf l=some ns->LR σ τ l l'->l'=ns.map (Value.int .u8)
 |[],l',ns,h,hr=>by rw[hr.nil_inv];cases h;rfl
 |v :: l,l',ns,h,hr=>by
  obtain⟨v',r',rfl,hv,hr'⟩:=hr.cons_inv;unfold bytesOf at h;split at h
  ·rename_i h0;cases h0
  ·rename_i n vs h0;cases h0;cases hb:bytesOf l with
   |none=>rw[hb] at h;cases h
   |some ms =>
    rw[hb] at h;cases h;rw[hv.flat_eq rfl,z88 hb hr'];rfl
  ·cases h
theorem zch (hH:HR P N w0 τ σ H w) {a:Option Addr}{n c:Nat}{x' v:Value}(hx:VR σ τ (.slice a n c) x') (h:dbytes (.slice a n c) H=some v) :
  (Conv.bytesToString x').run P w=.ok v w/\∃a' c',x'=.slice a' n c'/\flat v=true:=by
 cases a with
 |none =>
  obtain⟨rfl,rfl,rfl⟩:=hx.slice_none_inv;simp only[dbytes,Option.some.injEq] at h;subst h;exact⟨by simp [Conv.bytesToString],_,_,rfl,rfl⟩
 |some ad =>
  obtain⟨a',c',rfl,h1,h2,h3,h4⟩:=hx.slice_inv;simp only[dbytes] at h;by_cases hn:n=0
  ·subst hn;simp only[Nat.beq_refl,if_true,bytesOf,ZE,Option.some.injEq,List.foldl_nil] at h;subst h;refine⟨?_,_,_,rfl,rfl⟩;have:=run_bytesToString (P:=P) w a' 0 c' [] (by simp [loadCells,loadCellsFrom]);simpa using this
  ·have hn':Zs n 0=false:=by rw[<-ZL,Zt];exact hn
   rw[hn'] at h;simp only[Zg,if_false] at h;cases hl:H.load ad n with
   |none=>rw[hl] at h;cases h
   |some l =>
    rw[hl] at h;simp only at h;cases hb:bytesOf l with
    |none=>rw[hb] at h;cases h
    |some ns =>
     rw[hb] at h;simp only[ZE,Option.some.injEq] at h;subst h;obtain⟨l',e1,e2,e3⟩:=hH.load hl h1;have hl':=z88 hb e2;have hrun:=run_loadCells_list (P:=P) w a' l' e3;rw[e1,hl'] at hrun;exact⟨run_bytesToString w a' n c' ns hrun,_,_,rfl,rfl⟩
theorem zci {l:List Value}:flatL l=true↔∀v∈l,flat v=true:=by
 induction l with
 |nil=>simp [flatL]
 |cons a l ih=>simp [flatL,ih]
theorem z3r {z:Value}(h:flat z=true) (n:Nat):flatL ((Zh n).map (z.cells[· % z.cells.size]!))=true:=by
 rw[zci];intro v hv;rw[List.mem_map] at hv;obtain⟨j,_,rfl⟩:=hv;by_cases hz:z.cells.size=0
 ·have:z.cells=#[]:=Array.eq_empty_of_size_eq_zero hz;rw[this];rfl
 ·have hlt:j % z.cells.size < z.cells.size:=Nat.mod_lt _ (by omega);show flat (z.cells[j % z.cells.size]!)=true;rw[getElem!_pos z.cells (j % z.cells.size) hlt];have hr:=z3q (σ:=fun _=>.none) (τ:=fun _=>undef) h;have hmem:z.cells[j % z.cells.size]∈z.cells.toList:=Array.getElem_mem_toList hlt;cases z with
  |agg x=>obtain⟨l⟩:=x;simp only[flat] at h;exact zci.1 h _ (by simp [Value.cells])
  |_=>simp [Value.cells] at hmem ⊢;exact h
theorem z2m (z:Array Value) (n:Nat):(madeCells z n).toList=(Zh n).map (z[· % z.size]!):=by
 simp [madeCells]
theorem OpR.ofSlice (hH:HR P N w0 τ σ H w) {s:Sem Next}{cs:List Value}{cs':Array Value}{e:TypeId}{n c:Nat}(hr:LR σ τ cs cs'.toList) (hn:n<=c) (hc:c<=maxLen) (hz:cs'.size=c*P.cellsOf e)
  (hs:s.run P w=.ok (.value (.slice (some ⟨w.heap.size,0,none⟩) n c)) (w.alloc (.cells cs' e))) :
  OpR P N w0 τ σ H w s (.val (.slice (some ⟨H.next,0,none⟩) n c) (H.new (some (.row cs e)))):=by
 obtain⟨σ',hrun,rfl,hH',hst⟩:=z7g (e:=e) hH hr;refine⟨_,_,_,_,hs,.inl rfl,.slice _ _ _ _ _ za0 hn (Ze _) ⟨hc,fun _ b S es hb _=>?_⟩,hH',hst⟩;rw[z0r] at hb;cases hb;rw[hz,ZP]
theorem z5i (z:Array Value) (n:Nat):(Builtin.zeroCells z n).toList=(Zh (n*z.size)).map (z[· % z.size]!):=by
 simp [Builtin.zeroCells]
theorem zcj (hH:HR P N w0 τ σ H w) {t xt ty:TypeId}{s s' x x':Value}{dr:Dr}(hs:VR σ τ s s') (hx:VR σ τ x x')
  (h:dzeros P t xt s x H=some dr):OpR P N w0 τ σ H w (do pure (Next.value (<-Builtin.append_ #[t,xt] ty #[s',x']))) dr:=by
 unfold dzeros at h;split at h
 case h_2=>cases h
 rename_i e kn n hu hut hn;obtain⟨k,ni,rfl,n0,n1,rfl⟩:=z0x hn;cases hi:P.info? e with
 |none=>rw[hi] at h;cases h
 |some i =>
  rw[hi] at h;simp only at h;cases hz:i.zero with
  |none=>rw[hz] at h;cases h
  |some z =>
   rw[hz] at h;simp only at h;split at h
   case isFalse=>cases h
   rename_i hc;obtain⟨hn0,hsz,hzf,hzs,hby⟩:=hc;cases h;rw[hs.flat_eq rfl,hx.flat_eq rfl];have hm:(most:Int)=34359738368:=rfl;have hb48:ni.toNat*i.bytes<=281474976710656:=by
    have:ni.toNat*i.bytes<=34359738368*4096:=Nat.mul_le_mul (by omega) hby;omega
   have hrun:=Lib.run_append_nil_zeros (P:=P) w t xt ty e i z k kn hu hut hi hz ni.toNat hn0 hsz (by omega) hb48;have hni:((ni.toNat:Nat):Int)=ni:=by omega
   rw[hni] at hrun;have hge:=grownCap_ge w ni.toNat 0 e;have hle:=grownCap_le_maxLen w ni.toNat 0 e (by simp only[maxLen];omega);have hsize:(Builtin.zeroCells z.cells ni.toNat++Builtin.zeroCells z.cells (grownCap w ni.toNat 0 e - ni.toNat)).size=grownCap w ni.toNat 0 e*i.size:=by
    rw[Array.size_append,size_zeroCells,size_zeroCells,hzs,<-Nat.add_mul];congr 1;omega
   have hpr:PR σ τ ((Zh (ni.toNat*i.size)).map (z.cells[· % z.cells.size]!)) (Builtin.zeroCells z.cells ni.toNat++Builtin.zeroCells z.cells (grownCap w ni.toNat 0 e - ni.toNat)).toList:=by
    unfold PR;rw[Array.toList_append,z5i,<-hzs,List.take_left']
    ·exact LR.flat (z3r hzf _)
    ·simp
   obtain⟨hH',hst⟩:=hH.alloc (w':=w.drew.alloc (.cells (Builtin.zeroCells z.cells ni.toNat++Builtin.zeroCells z.cells (grownCap w ni.toNat 0 e - ni.toNat)) e))
    (B:=.row ((Zh (ni.toNat*i.size)).map (z.cells[· % z.cells.size]!)) e)
    (S:=grownCap w ni.toNat 0 e*i.size) (es:=P.cellsOf e) rfl rfl rfl (by simp) (fun k hk=>Below.heap_alloc w.drew _ k hk)
    (.row _ _ _ _ e _ hH.size (by show (w.heap.push _)[w.heap.size]?=_;simp) hsize rfl (hpr.ext (hH.ext_new _)))
   refine⟨_,_,_,_,z2f _ _ _ hrun,.inl rfl,.slice _ _ _ _ _ za0 (Ze _) hge ⟨hle,fun _ b S es hb _=>?_⟩,hH',hst⟩;rw[z0r] at hb;cases hb;rw[z1c hi,ZP]
theorem zck (hH:HR P N w0 τ σ H w) (hτ:∀j,(τ j).oneCell'=true) {ts:Array TypeId}{ty:TypeId}{x x':Value}{dr:Dr}(hx:VR σ τ x x')
  (h:dclear P ts x H=some dr):OpR P N w0 τ σ H w (do pure (Next.value (<-Builtin.clear_ ts ty #[x']))) dr:=by
 unfold dclear at h;split at h
 case h_2=>cases h
 rename_i t ts' hts;have ht:ts[0]?=some t:=by
  have:ts.toList[0]?=some t:=by rw[hts];rfl
  simpa using this
 split at h
 case h_2=>cases h
 rename_i e a n c hu;split at h
 ·rename_i hk;rw[Zt] at hk;subst hk;cases h;have hxx:∃b' d2,x'=.slice b' 0 d2:=by
   cases a with
   |some bd=>obtain⟨b',d',rfl,_⟩:=hx.slice_inv;exact⟨_,_,rfl⟩
   |none=>obtain⟨_,rfl,rfl⟩:=hx.slice_none_inv;exact⟨_,_,rfl⟩
  obtain⟨b',d2,rfl⟩:=hxx;refine OpR.value hH ?_ (.flat _ rfl);apply z2f;unfold Builtin.clear_;simp only[ht,List.getElem?_toArray,List.getElem?_cons_zero,Sem.run_bind,run_underlying hu,Result.andThen_ok];cases b'<;>simp [Sem.run_pure]
 ·rename_i hk;split at h
  case h_2=>cases h
  rename_i i ad hi;split at h
  case h_2=>cases h
  rename_i z hz;split at h
  case isFalse=>cases h
  rename_i hzf;split at h
  case h_2=>cases h
  rename_i H' hst;cases h;obtain⟨a',c',rfl,hA,_⟩:=hx.slice_inv;obtain⟨w',hrun,hH',hstep⟩:=hH.store hτ hst hA (LR.flat (z3r hzf _));refine⟨_,w',σ,_,z2f _ _ _ ?_,.inl rfl,.flat _ rfl,hH',hstep⟩;have hn0:n≠0:=fun e=>hk (by rw[Zt];exact e)
  unfold Builtin.clear_;obtain⟨m,rfl⟩:∃m,n=m+1:=⟨n - 1,by omega⟩
  simp only[ht,List.getElem?_toArray,List.getElem?_cons_zero,Sem.run_bind,run_underlying hu,Result.andThen_ok,zeroValue,typeInfo,run_program,hi,hz,Sem.run_pure,z5i];rw[hrun];rfl
end
end Go.Hb
end

section
namespace Go.Hb
open Go Go.RowKit
section
variable {P:Program}{N:Nat}{w0:World}{τ:Nat->Value}{σ:Nat->Loc}{H:Heap}{w w':World}{ρ ρ':Operand->Value}{o:Oper}
theorem z2n {op:BinOp}{t:TypeId}{X Y:Operand}{x y v:Value}(hg:eqGuard op t X Y x y=pure ()) (hb:∀op,(op=.eql\/op=.neq)->binOp op t x y=(if op=.eql then (do pure (Value.bool (<-Op.equal t x y))) else (do pure (Value.bool (!(<-Op.equal t x y))))))
  (he:∀d,(Op.equalIn (d+1) t x y).run P w=.ok false w) (hv:(op=.eql/\v=.bool false)\/(op=.neq/\v=.bool true)) :
  (do eqGuard op t X Y x y;binOp op t x y:Sem Value).run P w=.ok v w/\flat v=true:=by
 have h9:(Op.equal t x y).run P w=.ok false w:=he 9999;rcases hv with ⟨rfl,rfl⟩|⟨rfl,rfl⟩
 ·refine⟨?_,rfl⟩;rw[hg,hb _ (.inl rfl)];simp [h9]
 ·refine⟨?_,rfl⟩;rw[hg,hb _ (.inr rfl)];simp [h9]
theorem zif {op:BinOp}{t:TypeId}{X Y:Operand}{x y x' y' v:Value}(hx:VR σ τ x x') (hy:VR σ τ y y') (h:dnil P op t x y=some v) :
  (do eqGuard op t X Y x' y';binOp op t x' y':Sem Value).run P w=.ok v w/\flat v=true:=by
 have ne:∀{op:BinOp}{v:Value},nilEq op=some v->(op=.eql/\v=.bool false)\/(op=.neq/\v=.bool true):=by
  intro op v h;cases op<;>simp [nilEq] at h<;>simp [h]
 unfold dnil at h;split at h
 ·split at h
  case isFalse=>cases h
  rename_i hi;obtain⟨u',rfl,_⟩:=hx.iface_inv;rw[hy.flat_eq rfl];unfold isIface at hi;split at hi
  ·rename_i ms hu;exact z2n (by rcases ne h with ⟨rfl,_⟩|⟨rfl,_⟩<;>rfl) (by rintro op (rfl|rfl)<;>rfl) (fun d=>by simp [Op.equalIn,run_underlying hu]) (ne h)
  ·cases hi
 ·split at h
  case isFalse=>cases h
  rename_i hi;obtain⟨u',rfl,_⟩:=hy.iface_inv;rw[hx.flat_eq rfl];unfold isIface at hi;split at hi
  ·rename_i ms hu;exact z2n (by rcases ne h with ⟨rfl,_⟩|⟨rfl,_⟩<;>rfl) (by rintro op (rfl|rfl)<;>rfl) (fun d=>by simp [Op.equalIn,run_underlying hu]) (ne h)
  ·cases hi
 ·split at h
  case isFalse=>cases h
  rename_i hi;obtain⟨u',rfl,_⟩:=hx.ptr_inv;rw[hy.flat_eq rfl];unfold isPtr at hi;split at hi
  ·rename_i ms hu;exact z2n (by rcases ne h with ⟨rfl,_⟩|⟨rfl,_⟩<;>rfl) (by rintro op (rfl|rfl)<;>rfl) (fun d=>by simp [Op.equalIn,run_underlying hu]) (ne h)
  ·cases hi
 ·split at h
  case isFalse=>cases h
  rename_i hi;obtain⟨u',rfl,_⟩:=hy.ptr_inv;rw[hx.flat_eq rfl];unfold isPtr at hi;split at hi
  ·rename_i ms hu;exact z2n (by rcases ne h with ⟨rfl,_⟩|⟨rfl,_⟩<;>rfl) (by rintro op (rfl|rfl)<;>rfl) (fun d=>by simp [Op.equalIn,run_underlying hu]) (ne h)
  ·cases hi
 ·split at h
  case isFalse=>cases h
  rename_i hi;obtain⟨a',c',rfl,_⟩:=hx.slice_inv;obtain⟨rfl,rfl,rfl⟩:=hy.slice_none_inv;unfold isSl at hi;split at hi
  ·rename_i ms hu;exact z2n (by rcases ne h with ⟨rfl,_⟩|⟨rfl,_⟩<;>rfl) (by rintro op (rfl|rfl)<;>rfl) (fun d=>by simp [Op.equalIn,run_underlying hu]) (ne h)
  ·cases hi
 ·split at h
  case isFalse=>cases h
  rename_i hi;obtain⟨a',c',rfl,_⟩:=hy.slice_inv;obtain⟨rfl,rfl,rfl⟩:=hx.slice_none_inv;unfold isSl at hi;split at hi
  ·rename_i ms hu;exact z2n (by rcases ne h with ⟨rfl,_⟩|⟨rfl,_⟩<;>rfl) (by rintro op (rfl|rfl)<;>rfl) (fun d=>by simp [Op.equalIn,run_underlying hu]) (ne h)
  ·cases hi
 ·split at h
  case isFalse=>cases h
  rename_i hi;obtain⟨u',rfl,_⟩:=hx.map_inv;rw[hy.flat_eq rfl];unfold isMp at hi;split at hi
  ·rename_i ms hu;exact z2n (by rcases ne h with ⟨rfl,_⟩|⟨rfl,_⟩<;>rfl) (by rintro op (rfl|rfl)<;>rfl) (fun d=>by simp [Op.equalIn,run_underlying hu]) (ne h)
  ·cases hi
 ·split at h
  case isFalse=>cases h
  rename_i hi;obtain⟨u',rfl,_⟩:=hy.map_inv;rw[hx.flat_eq rfl];unfold isMp at hi;split at hi
  ·rename_i ms hu;exact z2n (by rcases ne h with ⟨rfl,_⟩|⟨rfl,_⟩<;>rfl) (by rintro op (rfl|rfl)<;>rfl) (fun d=>by simp [Op.equalIn,run_underlying hu]) (ne h)
  ·cases hi
 ·split at h
  case isFalse=>cases h
  rename_i hi;obtain⟨x1,y1,rfl,_⟩:=hx.func_inv;rw[hy.flat_eq rfl];unfold isFn at hi;split at hi
  ·rename_i ms hu;exact z2n (by rcases ne h with ⟨rfl,_⟩|⟨rfl,_⟩<;>rfl) (by rintro op (rfl|rfl)<;>rfl) (fun d=>by simp [Op.equalIn,run_underlying hu]) (ne h)
  ·cases hi
 ·split at h
  case isFalse=>cases h
  rename_i hi;obtain⟨x1,y1,rfl,_⟩:=hy.func_inv;rw[hx.flat_eq rfl];unfold isFn at hi;split at hi
  ·rename_i ms hu;exact z2n (by rcases ne h with ⟨rfl,_⟩|⟨rfl,_⟩<;>rfl) (by rintro op (rfl|rfl)<;>rfl) (fun d=>by simp [Op.equalIn,run_underlying hu]) (ne h)
  ·cases hi
 ·cases h
theorem zb8 {t xt at_:TypeId}{v v' r:Value}{ok:Bool}(hv:VR σ τ v v') (h:dassert P t v at_ ok=some r) :
  ∃r',(Instr.typeAssert (.iface t v') xt at_ ok).run P w=.ok r' w/\VR σ τ r r':=by
 have holds:∀{u u':Value},VR σ τ u u'->VR σ τ (if ok then .tuple #[u,.bool true] else u) (if ok then .tuple #[u',.bool true] else u'):=by
  intro u u' hr;split
  ·exact RA.mk_tuple (LR.cons hr (LR.cons (.flat _ rfl) LR.nil))
  ·exact hr
 have fails:∀{r:Value},dfail P at_ ok=some r->ok=true/\∃z:Value,(∀w,(zeroValue at_).run P w=.ok z w)/\r=.tuple #[z,.bool false]/\VR σ τ r r:=by
  intro r h;unfold dfail at h;split at h
  ·rename_i z hz _;split at h
   ·rename_i hf;cases h;refine⟨rfl,z,z0w _ hz,rfl,.flat _ ?_⟩;simp [flat,flatL,hf]
   ·cases h
  ·cases h
 unfold dassert at h;simp only at h;split at h
 ·rename_i want hu;cases hi:P.info? t with
  |none=>rw[hi] at h;cases h
  |some i =>
   rw[hi] at h;simp only at h;cases hm:Instr.missingMethod want i.methods with
   |none =>
    rw[hm] at h;simp only[Option.some.injEq] at h;subst h;refine⟨_,?_,holds (.iface t v v' hv)⟩;unfold Instr.typeAssert;simp [Sem.run_bind,run_underlying hu,typeInfo,hi,hm]
   |some mm =>
    rw[hm] at h;obtain⟨rfl,z,hz,rfl,hr⟩:=fails h;refine⟨_,?_,hr⟩;unfold Instr.typeAssert;simp [Sem.run_bind,run_underlying hu,typeInfo,hi,hm,hz]
 ·rename_i d hnd hu;by_cases hta:t=at_
  ·subst hta;simp only[Nat.beq_refl,if_true,Option.some.injEq] at h;subst h;refine⟨_,?_,holds hv⟩;cases d with
   |interface ms=>exact absurd rfl (hnd ms)
   |_=>simp [Instr.typeAssert,Sem.run_bind,run_underlying hu]
  ·have hb:Zs t at_=false:=by rw[<-ZL,Zt];exact hta
   rw[hb] at h;obtain⟨rfl,z,hz,rfl,hr⟩:=fails h;refine⟨_,?_,hr⟩;cases d with
   |interface ms=>exact absurd rfl (hnd ms)
   |_=>simp [Instr.typeAssert,Sem.run_bind,run_underlying hu,hta,hz]
 ·cases h
theorem zcl {t:TypeId}{cs:Array Value}{off:Nat}{v:Value}(h:dpart P t cs off=some v):∃i,P.info? t=some i:=by
 unfold dpart at h;cases hb:isAgg? P t with
 |none=>rw[hb] at h;cases h
 |some b=>exact z5n hb
theorem mapρ {l:List Operand}(h:∀x∈l,VR σ τ (ρ x) (ρ' x)):LR σ τ (l.map ρ) (l.map ρ'):=by
 induction l with
 |nil=>exact LR.nil
 |cons a l ih=>exact LR.cons (h a (by simp)) (ih fun x hx=>h x (by simp [hx]))
theorem z4k {f:FuncId}{args:List Value}{dr:Dr}(h:dcall1 P f args=some dr):dr=.call f args/\∀(args':Array Value) w,(callFunc f args').run P w=.ok (.enter f args') w:=by
 unfold dcall1 at h;split at h
 case h_2=>cases h
 rename_i fn hf;split at h
 case isFalse=>cases h
 rename_i hb;simp only[Zk,Bool.not_eq_true',Option.isSome_iff_exists] at hb;obtain⟨⟨c,hc⟩,hn⟩:=hb;cases h;refine⟨rfl,fun args' w=>?_⟩;have hn':¬fn.name = "runtime.NumGoroutine" := by simpa using hn
 simp [callFunc,Sem.run_bind,hf,hc,hn']
set_option maxHeartbeats 1000000 in
theorem z34 (hH:HR P N w0 τ σ H w) (hτ:∀j,(τ j).oneCell'=true) (hρ:∀x∈o.op.operands.toList,VR σ τ (ρ x) (ρ' x)) {dr:Dr}(h:dop P o ρ H=some dr) :
  OpR P N w0 τ σ H w (execOp ρ' o) dr:=by
 obtain⟨dst,op,type,pos,after,guard⟩:=o;cases op with
 |move x=>simp only[dop] at h;cases h;exact OpR.value hH rfl (hρ x (by simp [Op.operands]))
 |assign x=>simp only[dop] at h;cases h;exact OpR.value hH rfl (hρ x (by simp [Op.operands]))
 |pick c a b =>
  have hc:=hρ c (by simp [Op.operands]);simp only[dop] at h;cases hv:ρ c with
  |bool t =>
   rw[hv] at h hc;have hc':=hc.flat_eq rfl;cases t with
   |true=>cases h;exact OpR.value hH (by simp [execOp,hc',asBool]) (hρ a (by simp [Op.operands]))
   |false=>cases h;exact OpR.value hH (by simp [execOp,hc',asBool]) (hρ b (by simp [Op.operands]))
  |_=>rw[hv] at h;cases h
 |alloc e =>
  simp only[dop] at h;split at h
  case h_2=>cases h
  rename_i z hz;split at h
  case isFalse=>cases h
  rename_i hc;simp only[Zk] at hc;cases h;exact zel hH hz hc.1
 |box e x =>
  simp only[dop] at h;split at h
  case isFalse=>cases h
  rename_i hc;cases h;exact zk0 hH hτ (hρ x (by simp [Op.operands])) hc
 |build t parts =>
  simp only[dop] at h;split at h
  case isFalse=>cases h
  rename_i hc;simp only[Zk] at hc;obtain⟨hc1,hc2⟩:=hc;unfold zflat at hc2;cases hz:pureRun P (zeroValue t) with
  |none=>rw[hz] at hc2;cases hc2
  |some z =>
   rw[hz] at hc2;split at h
   case h_2=>cases h
   rename_i v hv;cases h;have hp:PtR σ τ ((parts.map fun (i,x)=>(i,ρ x)).toList) ((parts.map fun (i,x)=>(i,ρ' x)).toList):=by
    rw[Array.toList_map,Array.toList_map];exact zem parts.toList (fun p hp=>hρ p.2 (by simp only[Op.operands];exact List.mem_map.2 ⟨p,hp,rfl⟩)) hc1
   obtain⟨v',hrun,hr⟩:=zen hτ hz hc2 hp hv;exact OpR.value hH (z2f _ _ _ (hrun w)) hr
 |buildSlice t len parts =>
  simp only[dop] at h;split at h
  case h_2=>cases h
  rename_i e hu;split at h
  case h_2=>cases h
  rename_i i hi;split at h
  case h_2=>cases h
  rename_i z hz;by_cases hc:len<=bmost/\len*i.size<=bmost/\flat z=true/\z.cells.size=i.size/\z.cells.toList.all one=true/\parts.toList.all (fun p=>(ρ p.2).cells.toList.all one)=true
  case neg=>rw[if_neg hc] at h;cases h
  rw[if_pos hc] at h;obtain⟨hlen,hmost,hzf,hzs,hz1,hp1⟩:=hc;split at h
  case h_2=>cases h
  rename_i cells hfl;cases h;have hp:PtR σ τ (parts.toList.map fun p=>(p.1,ρ p.2)) (parts.toList.map fun p=>(p.1,ρ' p.2)) :=
   zem parts.toList (fun p hp=>hρ p.2 (by simp only[Op.operands];exact List.mem_map.2 ⟨p,hp,rfl⟩)) hp1
  have hbase:RA σ τ ((Array.range (len*i.size)).map (z.cells[· % z.cells.size]!)) ((Array.range (len*i.size)).map (z.cells[· % z.cells.size]!)):=by
   unfold RA;have:((Array.range (len*i.size)).map (z.cells[· % z.cells.size]!)).toList=(Zh (len*i.size)).map (z.cells[· % z.cells.size]!):=z2m z.cells _;rw[this];exact LR.flat (z3r hzf _)
  obtain⟨r',hr',hrr⟩:=z67 hτ _ _ _ _ _ cells hp hbase hfl;have hsz:r'.size=len*i.size:=by
   have h1:∀(place:Nat->Option (Nat × Nat)) (l:List (Nat × Value)) (cs r:Array Value),Instr.fill place cs l=some r->r.size=cs.size:=by
    intro place l
    induction l with
    |nil=>intro cs r h;simp only[Instr.fill,Option.some.injEq] at h;rw[h]
    |cons p l ih =>
     intro cs r h;obtain⟨k,v⟩:=p;simp only[Instr.fill] at h;split at h
     ·cases h
     ·split at h
      ·cases h
      ·rw[ih _ _ h];have:∀(ll:List (Value × Nat)) (off:Nat) (acc:Array Value),(ll.foldl (fun cs (c,j)=>cs.setIfInBounds (off+j) c) acc).size=acc.size:=by
        intro ll
        induction ll with
        |nil=>intro off acc;rfl
        |cons q ll ih2=>intro off acc;simp only[List.foldl_cons];rw[ih2];simp
       rw[<-Array.foldl_toList,this]
   rw[h1 _ _ _ _ hr'];simp
  have hcl:=z1c hi;refine OpR.ofSlice hH (cs':=r') hrr (Ze _) ?_ (by rw[hsz,hcl]) ?_
  ·simp only[bmost] at hlen;simp only[maxLen];omega
  ·have hpl:(parts.map fun (i,x)=>(i,ρ' x)).toList=parts.toList.map fun p=>(p.1,ρ' p.2):=by rw[Array.toList_map]
   have hnr:∀(cs:Array Value),(newRow e cs).run P w=.ok ⟨w.heap.size,0,none⟩ (w.alloc (.cells cs e)):=fun cs=>by simp [newRow,Sem.run_bind]
   apply z2f;unfold Instr.buildSlice;simp only[bmost] at hmost;have hgt:¬(len*i.size > 2 ^ 24):=by omega
   by_cases h0:len*i.size=0
   ·have hr0:Instr.fill (fun k=>some (k*i.size,i.size)) ((Array.range (len*i.size)).map ((#[]:Array Value)[· % (#[]:Array Value).size]!)) (parts.toList.map fun p=>(p.1,ρ' p.2))=some r':=by
     rw[<-hr',h0];simp [Array.range_zero']
    simp only[Sem.run_bind,run_underlying hu,Result.andThen_ok,z13 hi,hcl,h0,gt_iff_lt,Nat.not_lt_zero,if_false,if_true,Sem.run_pure,hpl];rw[h0] at hr0;rw[hr0];simp only[Sem.run_bind,hnr,Result.andThen_ok,Sem.run_pure]
   ·simp only[Sem.run_bind,run_underlying hu,Result.andThen_ok,z13 hi,hcl,hgt,if_false,h0,Sem.run_pure,hpl,zeroValue,typeInfo,run_program,hi,hz];rw[hr'];simp only[Sem.run_bind,hnr,Result.andThen_ok,Sem.run_pure]
 |load t a =>
  have ha:=hρ a (by simp [Op.operands]);simp only[dop] at h;split at h
  case h_2=>cases h
  rename_i ad hv;rw[hv] at ha;obtain⟨a',e1,hA⟩:=ha.ptr_inv;cases hd:dload P t ad H with
  |none=>rw[hd] at h;cases h
  |some v =>
   rw[hd] at h;cases h;obtain⟨v',hrun,hr⟩:=z85 hH hd hA;refine OpR.value hH ?_ hr;apply z2f;simp only[e1,Instr.loadAt,Instr.sureAddr,Sem.run_bind,Sem.run_pure,Result.andThen_ok,hrun]
 |store t a x =>
  have ha:=hρ a (by simp [Op.operands]);have hx:=hρ x (by simp [Op.operands]);simp only[dop] at h;split at h
  case h_2=>cases h
  rename_i ad hv;rw[hv] at ha;obtain⟨a',e1,hA⟩:=ha.ptr_inv;split at h
  case isFalse=>cases h
  rename_i hc;simp only[Zk,Zt,Option.isSome_iff_exists] at hc;obtain⟨hsz,i,hi⟩:=hc;cases hd:H.store ad (ρ x).cells.toList with
  |none=>rw[hd] at h;cases h
  |some H' =>
   rw[hd] at h;cases h;have hone:(ρ x).cells.toList.all one=true:=by
    unfold Heap.store at hd;split at hd
    ·split at hd
     ·rename_i hq;exact hq.2
     ·cases hd
    ·cases hd
   have hcr:=hx.cells hτ hone;obtain⟨w',hrun,hH',hst⟩:=hH.store hτ hd hA hcr;refine⟨.skip,w',σ,undef,?_,.inr ⟨rfl,rfl⟩,.flat _ rfl,hH',hst⟩;apply zro;have hsz':(ρ' x).cells.size=P.cellsOf t:=by have:=hcr.1;simp at this;omega
   simp only[e1,Instr.storeAt,Instr.sureAddr,Sem.run_bind,Sem.run_pure,Result.andThen_ok,storeVar,z13 hi,hsz',ne_eq,not_true_eq_false,if_false,hrun]
 |nilCheck x =>
  have hx:=hρ x (by simp [Op.operands]);simp only[dop] at h;split at h
  ·rename_i a hv;cases h;rw[hv] at hx;obtain⟨a',e1,hA⟩:=hx.ptr_inv;refine OpR.value hH ?_ (.ptr a a' hA);simp [execOp,e1]
  ·rename_i f a b hv;cases h;rw[hv] at hx;obtain⟨x1,y1,e1,h1,h2⟩:=hx.func_inv;refine OpR.value hH ?_ hx;simp [execOp,e1]
  ·cases h
 |binOp op t x y yt =>
  have hx:=hρ x (by simp [Op.operands]);have hy:=hρ y (by simp [Op.operands]);simp only[dop] at h;split at h
  ·rename_i v hd;cases h;obtain⟨hrun,hf⟩:=zif (w:=w) (X:=x) (Y:=y) hx hy hd;exact OpR.value hH (z2f _ _ _ hrun) (.flat _ hf)
  ·exact z18 hH (by intro cs b;simp) hρ h
 |unOp op t x=>simp only[dop] at h;exact z18 hH (by intro cs b;simp) hρ h
 |convert src dst2 x =>
  have hx:=hρ x (by simp [Op.operands]);simp only[dop] at h;split at h
  ·rename_i e a n c hus hud hv;split at h
   case h_2=>cases h
   rename_i hue;rw[hv] at hx;cases hd:dbytes (.slice a n c) H with
   |none=>rw[hd] at h;cases h
   |some v =>
    rw[hd] at h;cases h;obtain⟨hrun,a',c',e1,hf⟩:=zch hH hx hd;refine OpR.value hH ?_ (.flat _ hf);apply z2f;rw[e1] at hrun ⊢;rw[run_convert_bytes_string w src dst2 e a' n c' hus hue hud];exact hrun
  ·cases h
  ·exact z18 hH (by intro cs b;simp) hρ h
 |makeInterface t x =>
  have hx:=hρ x (by simp [Op.operands]);simp only[dop] at h;split at h
  ·cases h
  ·rename_i d hnd hu;cases h;refine OpR.value hH ?_ (.iface t _ _ hx);apply z2f;cases d with
   |interface ms=>exact(hnd ms rfl).elim
   |_=>simp [Instr.makeInterface,Sem.run_bind,run_underlying hu]
  ·cases h
 |makeFunc fn first captured =>
  simp only[dop] at h;split at h
  case h_2=>cases h
  rename_i f;cases h;have h1:RA σ τ (first.map ρ) (first.map ρ'):=by unfold RA;rw[Array.toList_map,Array.toList_map];exact mapρ fun x hx=>hρ x (by simp only[Op.operands];simp;exact .inl (by simpa using hx))
  have h2:RA σ τ (captured.map ρ) (captured.map ρ'):=by unfold RA;rw[Array.toList_map,Array.toList_map];exact mapρ fun x hx=>hρ x (by simp only[Op.operands];simp;exact .inr (by simpa using hx))
  refine OpR.value hH rfl (.func f _ _ _ _ h1.1 (fun i v v' a b=>h1.2 i v v' (by simpa using a) (by simpa using b)) h2.1 (fun i v v' a b=>h2.2 i v v' (by simpa using a) (by simpa using b)))
 |makeMap t r =>
  cases r with
  |some r=>simp only[dop] at h;cases h
  |none =>
   simp only[dop] at h;cases h;obtain⟨hH',hst⟩:=hH.alloc (w':=w.alloc (.map #[] 0)) (B:=.map [] 0) (S:=0) (es:=0) rfl rfl rfl (by simp) (fun k hk=>Below.heap_alloc w _ k hk)
    (.map _ _ _ [] 0 #[] hH.size (by show (w.heap.push _)[w.heap.size]?=_;simp) ⟨rfl,fun i e e' a b=>by simp at a⟩)
   refine⟨_,_,_,_,rfl,.inl rfl,.map _ _ ?_,hH',hst⟩;unfold BR;rw[z0r]
 |makeSlice t l c =>
  have hl:=hρ l (by simp [Op.operands]);have hc:=hρ c (by simp [Op.operands]);simp only[dop] at h;split at h
  case h_2=>cases h
  rename_i e hu;split at h
  case h_2=>cases h
  rename_i i cap hi hcap;split at h
  case h_2=>cases h
  rename_i z len hz hlen;split at h
  case isFalse=>cases h
  rename_i hq;obtain⟨hzf,hzs,hby,hz1⟩:=hq;cases h;obtain⟨kc,ci,hcv,c0,c1,rfl⟩:=z0x hcap;obtain⟨kl,li,hlv,l0,l1,rfl⟩:=z0x hlen;rw[hcv] at hc;rw[hlv] at hl;have ec:=hc.flat_eq rfl;have el:=hl.flat_eq rfl;have hm:(most:Int)=34359738368:=rfl;have hbytes:(i.bytes:Int)*ci<=281474976710656:=by
   have h1:(i.bytes:Int)*ci<=4096*34359738368:=Int.mul_le_mul (by omega) (by omega) c0 (by omega);omega
  have hrun:=run_make (P:=P) w t e i z hu hi hz kl kc li ci l0 (by omega) hbytes (by omega);have hcl:=z1c hi;refine OpR.ofSlice hH (cs':=madeCells z.cells (ci.toNat*i.size)) ?_ (by omega) (by simp only[maxLen];omega) (by rw[size_madeCells,hcl]) ?_
  ·rw[z2m];exact LR.flat (z3r hzf _)
  ·show Sem.run P (do pure (Next.value (<-Instr.makeSlice t (ρ' l) (ρ' c)))) w=_;rw[el,ec];exact z2f _ _ _ hrun
 |slice t x lo hi mx =>
  have hx:=hρ x (by simp [Op.operands]);simp only[dop] at h;split at h
  ·exact z18 hH (by intro cs b;simp) hρ h
  ·cases mx with
   |some m =>
    simp only[ZE] at h;unfold dslice at h;split at h
    ·rename_i h3;cases h3
    ·cases h
   |none =>
    refine zcf hH hx ?_ ?_ ?_ ?_ h
    ·intro v hv;cases lo with
     |none=>cases hv
     |some y=>cases hv;exact⟨_,rfl,hρ y (by simp [Op.operands])⟩
    ·intro hv;cases lo with
     |none=>rfl
     |some y=>cases hv
    ·intro v hv;cases hi with
     |none=>cases hv
     |some y=>cases hv;exact⟨_,rfl,hρ y (by simp [Op.operands])⟩
    ·intro hv;cases hi with
     |none=>rfl
     |some y=>cases hv
 |lookup t m k ok =>
  simp only[dop] at h;exact zb5 hH (hρ m (by simp [Op.operands])) (hρ k (by simp [Op.operands])) h
 |mapUpdate t m k x =>
  simp only[dop] at h;exact z6a hH (hρ m (by simp [Op.operands])) (hρ k (by simp [Op.operands])) (hρ x (by simp [Op.operands])) h
 |fieldAddr s x f =>
  have hx:=hρ x (by simp [Op.operands]);simp only[dop] at h;split at h
  case h_2=>cases h
  rename_i fs a hu hv;rw[hv] at hx;obtain⟨a',e1,hA⟩:=hx.ptr_inv;split at h
  case h_2=>cases h
  rename_i fd hfd;split at h
  case isFalse=>cases h
  rename_i hc;simp only[Zk,Bool.not_eq_true'] at hc;obtain⟨hsp,hz⟩:=hc;have hz:P.cellsOf fd.type≠0:=by
   intro e;rw[<-ZL,Zt] at hz;exact hz e
  cases h;have hfd':fs[f]?=some fd:=by simpa using hfd
  have hi:∃i,P.info? fd.type=some i:=by
   cases hq:P.info? fd.type with
   |some i=>exact⟨i,rfl⟩
   |none=>exact absurd (by simp [Program.cellsOf,hq]) hz
  obtain⟨i,hi⟩:=hi;have hrun:(Instr.fieldAt s (.pointer (some a')) f).run P w=.ok (.pointer (some (a'.add fd.offset))) w:=by
   unfold Instr.fieldAt fieldPlace;simp [Sem.run_bind,run_underlying hu,hfd',Instr.sureAddr,z13 hi,hz]
  refine OpR.value hH (v':=.pointer (some (a'.add fd.offset))) ?_ ?_
  ·apply z2f;rw[e1];exact hrun
  ·refine .ptr _ _ ?_;unfold AR at hA ⊢;simp only[show a.spot=none by simpa using hsp] at hA ⊢;cases hσ:σ a.block with
   |none=>rw[hσ] at hA;exact hA.elim
   |dead=>trivial
   |live b S es =>
    rw[hσ] at hA;obtain⟨_,rfl⟩:=hA;exact⟨trivial,add0 _ _ _⟩
 |field t x f =>
  have hx:=hρ x (by simp [Op.operands]);simp only[dop] at h;split at h
  case h_2=>cases h
  rename_i fs cs hu hv;rw[hv] at hx;obtain⟨cs',e1,hr⟩:=hx.agg_inv;split at h
  case h_2=>cases h
  rename_i fd hfd;have hfd':fs[f]?=some fd:=by simpa using hfd
  cases hd:dpart P fd.type cs fd.offset with
  |none=>rw[hd] at h;cases h
  |some v =>
   rw[hd] at h;cases h;obtain⟨v',hrun,hvr⟩:=z86 (w:=w) hd hr;refine OpR.value hH ?_ hvr;apply z2f;unfold Instr.field;simp [Sem.run_bind,run_underlying hu,hfd',e1,asAgg,hrun]
 |indexAddr t x ix =>
  have hx:=hρ x (by simp [Op.operands]);have hix:=hρ ix (by simp [Op.operands]);have key:∀(a:Addr) (a':Addr) (i:Nat) (e:TypeId),AR σ a a'->a.spot=none->VR σ τ (.pointer (some ⟨a.block,a.off+i*P.cellsOf e,none⟩)) (.pointer (some (a'.add (i*P.cellsOf e)))):=by
   intro a a' i e hA hsp;refine .ptr _ _ ?_;unfold AR at hA ⊢;simp only[show a.spot=none by simpa using hsp] at hA ⊢;cases hσ:σ a.block with
   |none=>rw[hσ] at hA;exact hA.elim
   |dead=>trivial
   |live b S es =>
    rw[hσ] at hA;obtain⟨_,rfl⟩:=hA;exact⟨trivial,add0 _ _ _⟩
  simp only[dop] at h;split at h
  ·rename_i e a n c hu hv;rw[hv] at hx;obtain⟨a',c',e1,hA,_⟩:=hx.slice_inv;split at h
   case h_2=>cases h
   rename_i i hib hnz hsp hin;have hnz:n≠0:=by intro e;rw[<-ZL,Zt] at hnz;exact hnz e
   cases h;obtain⟨k,j,hjv,j0,j1,rfl⟩:=z0x hib;rw[hjv] at hix;have e2:=hix.flat_eq rfl;have hlt:j < (n:Int):=by omega
   refine OpR.value hH (v':=.pointer (some (a'.add (j.toNat*P.cellsOf e)))) ?_ (key a a' j.toNat e hA hsp);apply z2f;obtain⟨ie,hie⟩:∃ie,P.info? e=some ie:=by
    cases hq:P.info? e with
    |some ie=>exact⟨ie,rfl⟩
    |none=>rw[hq] at hin;cases hin
   have:=z13 hie;simp [e1,e2,Instr.indexAt,asIntOf,Sem.run_bind,run_underlying hu,j0,hlt,this]
  ·rename_i n e a hu hv;rw[hv] at hx;obtain⟨a',e1,hA⟩:=hx.ptr_inv;split at h
   case h_2=>cases h
   rename_i i hib hnz hsp hin;have hnz:n≠0:=by intro e;rw[<-ZL,Zt] at hnz;exact hnz e
   cases h;obtain⟨k,j,hjv,j0,j1,rfl⟩:=z0x hib;rw[hjv] at hix;have e2:=hix.flat_eq rfl;have hlt:j < (n:Int):=by omega
   refine OpR.value hH (v':=.pointer (some (a'.add (j.toNat*P.cellsOf e)))) ?_ (key a a' j.toNat e hA hsp);apply z2f;obtain⟨ie,hie⟩:∃ie,P.info? e=some ie:=by
    cases hq:P.info? e with
    |some ie=>exact⟨ie,rfl⟩
    |none=>rw[hq] at hin;cases hin
   have:=z13 hie;simp [e1,e2,Instr.indexAt,asIntOf,Sem.run_bind,run_underlying hu,Instr.sureAddr,j0,hlt,this]
  ·cases h
 |index t x ix =>
  have hx:=hρ x (by simp [Op.operands]);have hix:=hρ ix (by simp [Op.operands]);simp only[dop] at h;split at h
  ·rename_i n e cs hu hv;rw[hv] at hx;obtain⟨cs',e1,hr⟩:=hx.agg_inv;split at h
   case h_2=>cases h
   rename_i i hib hnz;have hnz:n≠0:=by intro e;rw[<-ZL,Zt] at hnz;exact hnz e
   obtain⟨k,j,hjv,j0,j1,rfl⟩:=z0x hib;rw[hjv] at hix;have e2:=hix.flat_eq rfl;have hlt:j < (n:Int):=by omega
   cases hd:dpart P e cs (j.toNat*P.cellsOf e) with
   |none=>rw[hd] at h;cases h
   |some v =>
    rw[hd] at h;cases h;obtain⟨v',hrun,hvr⟩:=z86 (w:=w) hd hr;refine OpR.value hH ?_ hvr;apply z2f;obtain⟨ie,hie⟩:=zcl hd;have:=z13 hie;simp [e1,e2,Instr.index,asIntOf,Sem.run_bind,run_underlying hu,j0,hlt,this,hrun]
  ·exact z18 hH (by intro cs b;simp) hρ h
 |insert t m k x =>
  simp only[dop] at h;exact z6a hH (hρ m (by simp [Op.operands])) (hρ k (by simp [Op.operands])) (hρ x (by simp [Op.operands])) h
 |typeAssert x xt at_ ok =>
  have hx:=hρ x (by simp [Op.operands]);simp only[dop] at h;split at h
  ·rename_i t v hv;rw[hv] at hx;obtain⟨v',e1,hr⟩:=hx.iface_inv;cases hd:dassert P t v at_ ok with
   |none=>rw[hd] at h;cases h
   |some r =>
    rw[hd] at h;cases h;obtain⟨r',hrun,hrr⟩:=zb8 (w:=w) (xt:=xt) hr hd;refine OpR.value hH ?_ hrr;apply z2f;rw[e1];exact hrun
  ·exact z18 hH (by intro cs b;simp) hρ h
 |extract t ix =>
  have hx:=hρ t (by simp [Op.operands]);simp only[dop] at h;split at h
  case h_2=>cases h
  rename_i vs hv;rw[hv] at hx;obtain⟨vs',e1,hr⟩:=hx.tuple_inv;cases hd:vs.toList[ix]? with
  |none=>rw[hd] at h;cases h
  |some v =>
   rw[hd] at h;cases h;obtain⟨v',hv',hvr⟩:=hr.get hd;have:vs'[ix]?=some v':=by simpa using hv'
   refine OpR.value hH ?_ hvr;simp [execOp,e1,Instr.extract,this]
 |range t x =>
  have hx:=hρ x (by simp [Op.operands]);simp only[dop] at h;split at h
  case h_3=>cases h
  ·rename_i s hu hv;cases h;rw[hv] at hx;have e1:=hx.flat_eq rfl;obtain⟨hH',hst⟩:=hH.alloc (w':=w.alloc (.stringIter s 0)) (B:=.siter s 0) (S:=0) (es:=0) rfl rfl rfl (by simp) (fun k hk=>Below.heap_alloc w _ k hk)
    (.siter _ _ _ s 0 hH.size (by show (w.heap.push _)[w.heap.size]?=_;simp))
   refine⟨_,_,_,_,?_,.inl rfl,.ptr _ _ za0,hH',hst⟩;simp [execOp,e1,Instr.range,Sem.run_bind,run_underlying hu]
  ·rename_i kt et m hu hv;rw[hv] at hx;obtain⟨m',e1,hb⟩:=hx.map_inv;split at h
   case h_2=>cases h
   rename_i es clock hg;cases h;have hB:=hH.blk m _ hg;generalize hσ:σ m=loc at hB;cases hB with
   |map b S es' _ _ xs' g1 g2 g3 =>
    have hb':=hb;unfold BR at hb;rw[hσ] at hb;simp only at hb;subst hb;have hne:m≠H.next:=fun e=>by have:=hH.get_lt hg;omega
    obtain⟨hH',hst⟩:=hH.alloc (w':=w.alloc (.mapIter (some m') clock #[] clock)) (B:=.mit m clock) (S:=0) (es:=0) rfl rfl rfl (by simp) (fun k hk=>Below.heap_alloc w _ k hk)
     (.mit _ _ _ m m' clock hH.size (by show (w.heap.push _)[w.heap.size]?=_;simp) (by unfold BR;rw[z0f _ _ hne,hσ]))
    refine⟨_,_,_,_,?_,.inl rfl,.ptr _ _ za0,hH',hst⟩;have hget:(getObj m').run P w=.ok (.map xs' clock) w:=by simp [getObj,Sem.run,g2]
    simp [execOp,e1,Instr.range,Sem.run_bind,run_underlying hu,hget]
 |next it str =>
  have hx:=hρ it (by simp [Op.operands]);cases str with
  |false=>simp only[dop] at h;cases h
  |true =>
   simp only[dop] at h;split at h
   case h_2=>cases h
   rename_i r hv;rw[hv] at hx;obtain⟨a',e1,hA⟩:=hx.ptr_inv;split at h
   case h_2=>cases h
   rename_i s pos hg;have hB:=hH.blk r _ hg;have hlt:=hH.get_lt hg;generalize hσ:σ r=loc at hB;cases hB with
   |siter b S es _ _ g1 g2 =>
    unfold AR at hA;simp only[hσ] at hA;obtain⟨_,rfl⟩:=hA;have hbl:=(Array.getElem?_eq_some_iff.1 g2).1;have hget:(getObj b).run P w=.ok (.stringIter s pos) w:=by simp [getObj,Sem.run,g2]
    split at h
    ·rename_i hpos;cases h;obtain⟨hH',hst⟩:=hH.write (w':={ w with heap:=w.heap.setIfInBounds b (.stringIter s (pos+(Utf8.decode s pos).2)) }) (B:=.siter s (pos+(Utf8.decode s pos).2)) (by rw[hg];simp) hσ g1 rfl rfl rfl (by simp) (fun k hk=>z69 _ hk) (.siter _ _ _ _ _ g1 (zb6 _ hbl));refine⟨_,_,_,_,?_,.inl rfl,.flat _ rfl,hH',hst⟩;have hset:∀o:Obj,(setObj b o).run P w=.ok () { w with heap:=w.heap.setIfInBounds b o }:=fun o=>by simp [setObj,Sem.run,g2]
     simp [execOp,e1,Instr.next,Sem.run_bind,hget,hpos,hset]
    ·rename_i hpos;cases h;refine OpR.value hH ?_ (.flat _ rfl);simp [execOp,e1,Instr.next,Sem.run_bind,hget,hpos]
 |call c =>
  obtain⟨callee,args,ats⟩:=c;cases callee with
  |builtin b =>
   obtain⟨args⟩:=args;have hargs:∀x∈args,VR σ τ (ρ x) (ρ' x):=fun x hx=>hρ x (by simpa [Op.operands,Call.operands] using hx)
   have hex:∀s:Sem Next,builtin b ats type (args.map fun|.const _=>true|_=>false).toArray (args.map ρ').toArray=s ->
     execOp ρ' ⟨dst,.call ⟨.builtin b,⟨args⟩,ats⟩,type,pos,after,guard⟩=s:=by
    intro s hs;rw[<-hs];simp only[execOp,resolve,List.map_toArray];rfl
   simp only[dop] at h;split at h
   ·rename_i x;have hx:=hargs x (by simp);split at h
    ·rename_i a n c hv;split at h
     case h_2=>cases h
     rename_i e hu;cases h;rw[hv] at hx;obtain⟨t,ht,hut⟩:=Option.bind_eq_some_iff.1 hu;have hxx:∃a' c',ρ' x=.slice a' n c':=by
      cases a with
      |some ad=>obtain⟨a',c',e1,_⟩:=hx.slice_inv;exact⟨_,_,e1⟩
      |none=>obtain⟨rfl,rfl,e1⟩:=hx.slice_none_inv;exact⟨_,_,e1⟩
     obtain⟨a',c',e1⟩:=hxx;refine OpR.value hH ?_ (.flat _ rfl);rw[hex _ rfl];simp [builtin,Builtin.len_,ht,e1,Sem.run_bind,run_underlying hut]
    ·rename_i r hv;split at h
     case h_2=>cases h
     rename_i kt et es clock hu hg;cases h;rw[hv] at hx;obtain⟨r',e1,hbr⟩:=hx.map_inv;obtain⟨b,S,ez,es',hσ,hNb,hb,he⟩:=hH.mapAt hg;have:=hbr.at hσ;subst this;obtain⟨t,ht,hut⟩:=Option.bind_eq_some_iff.1 hu;refine OpR.value hH ?_ (.flat _ rfl);rw[hex _ rfl];have hsz:=he.1;simp [builtin,Builtin.len_,ht,e1,Sem.run_bind,run_underlying hut,z2h hb,hsz]
    ·exact z18 hH (by intro cs b;simp) hρ h
   ·rename_i s x;rw[hex _ rfl];split at h
    case h_2=>cases h
    rename_i t xt hts;obtain⟨ts⟩:=ats;simp only at hts;subst hts;split at h
    ·rename_i r hz;cases h;exact zcj hH (hargs s (by simp)) (hargs x (by simp)) hz
    ·exact zb4 hH hτ (hargs s (by simp)) (hargs x (by simp)) h
   ·exact z18 hH (by intro cs b;simp) hρ h
   ·rename_i s x;rw[hex _ rfl];exact zeo hH hτ (hargs s (by simp)) (hargs x (by simp)) h
   ·rename_i x;rw[hex _ rfl];exact zck hH hτ (hargs x (by simp)) h
   ·rename_i m k;split at h
    case h_2=>cases h
    rename_i t ht;rw[hex _ rfl];exact zb7 hH ht (hargs m (by simp)) (hargs k (by simp)) h
   ·cases h;rfl
   ·exact z18 hH (by intro cs b;simp) hρ h
   ·exact z18 hH (by intro cs b;simp) hρ h
   ·cases h
  |value f =>
   have hf:=hρ f (by simp [Op.operands,Call.operands]);have ha:LR σ τ (args.toList.map ρ) (args.map ρ').toList:=by
    rw[Array.toList_map];exact mapρ fun x hx=>hρ x (by simp only[Op.operands,Call.operands];simp;exact .inr (by simpa using hx))
   simp only[dop] at h;split at h
   ·rename_i g first captured hv
    have hf':=hf;rw[hv] at hf';obtain⟨x1,y1,e1,h1,h2⟩:=hf'.func_inv;split at h
    ·rename_i r hd;cases h;obtain⟨rfl,hrun⟩:=z4k hd;refine⟨x1++args.map ρ'++y1,?_,?_⟩
     ·simp only[execOp,resolve,e1,Deferred.ofValue,Sem.run_bind,Sem.run_pure,Result.andThen_ok,invoke];exact hrun _ _
     ·rw[Array.toList_append,Array.toList_append];exact LR.append (LR.append h1 ha) h2
    ·exact z18 hH (by intro cs b;simp) hρ h
   ·rename_i l first captured hv
    cases h;rw[hv] at hf;obtain⟨l',e1,hbr,rfl,rfl⟩:=hf.yield_inv;refine⟨l',#[]++args.map ρ',?_,hbr,?_⟩
    ·simp only[execOp,resolve,e1,Deferred.ofValue,Sem.run_bind,Sem.run_pure,Result.andThen_ok,invoke]
    ·simpa using ha
   ·cases h
  |invoke r m=>simp only[dop] at h;cases h
 |defer c =>
  obtain⟨callee,args,ats⟩:=c;cases callee with
  |value f =>
   have hf:=hρ f (by simp [Op.operands,Call.operands]);simp only[dop] at h;split at h
   case h_2=>cases h
   rename_i g first captured hv
   cases h;rw[hv] at hf;obtain⟨x1,y1,e1,h1,h2⟩:=hf.func_inv;have ha:RA σ τ (args.map ρ) (args.map ρ'):=by
    unfold RA;rw[Array.toList_map,Array.toList_map];exact mapρ fun x hx=>hρ x (by simp only[Op.operands,Call.operands];simp;exact .inr (by simpa using hx))
   refine⟨{ target:=.fn (.func g) y1,args:=x1++args.map ρ' },?_,?_,.inl ⟨g,captured,y1,rfl,rfl,h2⟩⟩
   ·simp [execOp,resolve,e1,Deferred.ofValue,Sem.run_bind]
   ·unfold RA;simp only[Array.toList_append];exact LR.append h1 ha
  |_=>simp only[dop] at h;cases h
 |panic x =>
  have hx:=hρ x (by simp [Op.operands]);simp only[dop] at h;split at h
  case h_2=>cases h
  rename_i t v hv;cases h;rw[hv] at hx;obtain⟨u',e1,hr⟩:=hx.iface_inv;refine⟨.iface t u',?_,.iface t _ _ hr⟩;simp [execOp,e1,Instr.panic,Sem.run_bind]
 |_=>simp only[dop] at h;cases h
end
end Go.Hb
end

section
namespace Go.Hb
open Go Go.RowKit
section
variable {P:Program}{N:Nat}{w0:World}{τ:Nat->Value}{σ:Nat->Loc}{H:Heap}{w w':World}{ρ ρ':Operand->Value}{o:Oper}
def AllocR (P:Program) (N:Nat) (τ:Nat->Value) (σ:Nat->Loc) (w:World) (s:Sem Next) (B:Blk) (mk:Nat->Value):Prop :=
 ∃v' ob S es,s.run P w=.ok (.value v') (w.alloc ob) /\
  ∀ σ1 i,Ext σ σ1->σ1 i=.live w.heap.size S es->VR σ1 τ (mk i) v'/\BlkR P N σ1 τ (w.alloc ob) (.live w.heap.size S es) B
theorem AllocR.ofRow (hN:N<=w.heap.size) {s:Sem Next}{cs:List Value}{cs':Array Value}{e:TypeId}{mk:Nat->Value}{v':Value}(hr:LR σ τ cs cs'.toList)
  (hs:(newRow e cs').run P w=.ok ⟨w.heap.size,0,none⟩ (w.alloc (.cells cs' e))->s.run P w=.ok (.value v') (w.alloc (.cells cs' e)))
  (hv:∀ σ1 i,σ1 i=.live w.heap.size cs'.size (P.cellsOf e)->VR σ1 τ (mk i) v'):AllocR P N τ σ w s (.row cs e) mk:=by
 refine⟨v',.cells cs' e,cs'.size,P.cellsOf e,hs (by simp [newRow,Sem.run_bind]),fun σ1 i he hi=>⟨hv σ1 i hi,?_⟩⟩;refine .row _ _ _ cs e cs' hN (by show (w.heap.push _)[w.heap.size]?=_;simp) rfl rfl ?_;have:cs'.toList.take cs.length=cs'.toList:=by rw[Zm];rw[hr.1];exact Ze _
 unfold PR;rw[this];exact hr.ext he
theorem zrp {σ1:Nat->Loc}{i b S es:Nat}(h:σ1 i=.live b S es):AR σ1 ⟨i,0,none⟩ ⟨b,0,none⟩:=by
 unfold AR;simp only[h];exact⟨trivial,trivial⟩
theorem AllocR.ofPtr (hN:N<=w.heap.size) {s:Sem Next}{cs:List Value}{cs':Array Value}{e:TypeId}(hr:LR σ τ cs cs'.toList)
  (hs:(newRow e cs').run P w=.ok ⟨w.heap.size,0,none⟩ (w.alloc (.cells cs' e))->s.run P w=.ok (.value (.pointer (some ⟨w.heap.size,0,none⟩))) (w.alloc (.cells cs' e))) :
  AllocR P N τ σ w s (.row cs e) (fun i=>.pointer (some ⟨i,0,none⟩)) :=
 AllocR.ofRow hN hr hs fun _ _ h=>.ptr _ _ (zrp h)
theorem AllocR.ofSlice (hN:N<=w.heap.size) {s:Sem Next}{cs:List Value}{cs':Array Value}{e:TypeId}{n c:Nat}(hr:LR σ τ cs cs'.toList) (hn:n<=c) (hc:c<=maxLen) (hz:cs'.size=c*P.cellsOf e)
  (hs:s.run P w=.ok (.value (.slice (some ⟨w.heap.size,0,none⟩) n c)) (w.alloc (.cells cs' e))) :
  AllocR P N τ σ w s (.row cs e) (fun i=>.slice (some ⟨i,0,none⟩) n c) :=
 AllocR.ofRow hN hr (fun _=>hs) fun σ1 i h=>.slice _ _ _ _ _ (zrp h) hn (Ze _) ⟨hc,fun _ b S es hb _=>by
  have:=h.symm.trans hb;injection this with e1 e2 e3;subst e1 e2 e3;rw[hz,ZP]⟩
theorem zny (B:Option Blk):(Heap.new ⟨0,.nil⟩ B).get 0=B:=by rw[Heap.get_new];simp
theorem zig {B:Blk}{mk:Nat->Value}(h:dalloc P o ρ=some (B,mk)) :
  ∃v H',dop P o ρ ⟨0,.nil⟩=some (.val v H')/\H'.get 0=some B /\
   ((v=.pointer (some ⟨0,0,none⟩)/\mk=fun i=>.pointer (some ⟨i,0,none⟩))\/(∃n c,v=.slice (some ⟨0,0,none⟩) n c/\mk=fun i=>.slice (some ⟨i,0,none⟩) n c)\/(v=.map (some 0)/\mk=fun i=>.map (some i))):=by
 unfold dalloc at h;split at h
 case h_2=>cases h
 rename_i v H' hd;refine⟨v,H',hd,?_⟩;split at h
 ·rename_i hg;cases h;exact⟨hg,.inl ⟨rfl,rfl⟩⟩
 ·rename_i hg;cases h;exact⟨hg,.inr (.inl ⟨_,_,rfl,rfl⟩)⟩
 ·rename_i hg;cases h;exact⟨hg,.inr (.inr ⟨rfl,rfl⟩)⟩
 ·cases h
theorem z4x {B:Blk}{X:Option Blk}(hg:(Heap.new ⟨0,.nil⟩ X).get 0=some B):X=some B:=by rw[zny] at hg;exact hg
set_option maxHeartbeats 1000000 in
theorem zcm (hN:N<=w.heap.size) (hτ:∀j,(τ j).oneCell'=true) (hρ:∀x∈o.op.operands.toList,VR σ τ (ρ x) (ρ' x)) {B:Blk}{mk:Nat->Value}(hal:isAlloc o=true) (h:dalloc P o ρ=some (B,mk)) :
  AllocR P N τ σ w (execOp ρ' o) B mk:=by
 obtain⟨v,H0,h,hg,hmk⟩:=zig h;obtain⟨dst,op,type,pos,after,guard⟩:=o;cases op with
 |alloc e =>
  simp only[dop] at h;split at h
  case h_2=>cases h
  rename_i z hz;split at h
  case isFalse=>cases h
  rename_i hc;simp only[Zk] at hc;cases h;cases z4x hg;rcases hmk with ⟨_,rfl⟩|⟨n,c,hv,rfl⟩|⟨hv,rfl⟩
  ·refine AllocR.ofPtr hN (cs':=z.cells) (z3q hc.1) fun hrun=>?_
   have hz':=z0w _ hz w;show Sem.run P (do pure (Next.value (<-Instr.alloc e true (.tuple #[])))) w=_;simp [Instr.alloc,Sem.run_bind,hz',newVar,hrun]
  ·cases hv
  ·cases hv
 |box e x =>
  simp only[dop] at h;split at h
  case isFalse=>cases h
  rename_i hc;cases h;cases z4x hg;rcases hmk with ⟨_,rfl⟩|⟨n,c,hv,rfl⟩|⟨hv,rfl⟩
  ·refine AllocR.ofPtr hN (cs':=(ρ' x).cells) ((hρ x (by simp [Op.operands])).cells hτ hc) fun hrun=>?_
   show Sem.run P (do pure (Next.value (<-Instr.box e (ρ' x)))) w=_;simp [Instr.box,Sem.run_bind,newVar,hrun]
  ·cases hv
  ·cases hv
 |buildSlice t len parts =>
  simp only[dop] at h;split at h
  case h_2=>cases h
  rename_i e hu;split at h
  case h_2=>cases h
  rename_i i hi;split at h
  case h_2=>cases h
  rename_i z hz;by_cases hc:len<=bmost/\len*i.size<=bmost/\flat z=true/\z.cells.size=i.size/\z.cells.toList.all one=true/\parts.toList.all (fun p=>(ρ p.2).cells.toList.all one)=true
  case neg=>rw[if_neg hc] at h;cases h
  rw[if_pos hc] at h;obtain⟨hlen,hmost,hzf,hzs,hz1,hp1⟩:=hc;split at h
  case h_2=>cases h
  rename_i cells hfl;cases h;cases z4x hg;obtain⟨n',c',hv,rfl⟩:∃n c,Value.slice (some ⟨0,0,none⟩) len len=.slice (some ⟨0,0,none⟩) n c/\mk=fun i=>.slice (some ⟨i,0,none⟩) n c:=by
   rcases hmk with ⟨hv,_⟩|hh|⟨hv,_⟩
   ·cases hv
   ·exact hh
   ·cases hv
  cases hv;have hp:PtR σ τ (parts.toList.map fun p=>(p.1,ρ p.2)) (parts.toList.map fun p=>(p.1,ρ' p.2)) :=
   zem parts.toList (fun p hp=>hρ p.2 (by simp only[Op.operands];exact List.mem_map.2 ⟨p,hp,rfl⟩)) hp1
  have hbase:RA σ τ ((Array.range (len*i.size)).map (z.cells[· % z.cells.size]!)) ((Array.range (len*i.size)).map (z.cells[· % z.cells.size]!)):=by
   unfold RA;have:((Array.range (len*i.size)).map (z.cells[· % z.cells.size]!)).toList=(Zh (len*i.size)).map (z.cells[· % z.cells.size]!):=z2m z.cells _;rw[this];exact LR.flat (z3r hzf _)
  obtain⟨r',hr',hrr⟩:=z67 hτ _ _ _ _ _ cells hp hbase hfl;have hsz:r'.size=len*i.size:=by
   have h1:∀(place:Nat->Option (Nat × Nat)) (l:List (Nat × Value)) (cs r:Array Value),Instr.fill place cs l=some r->r.size=cs.size:=by
    intro place l
    induction l with
    |nil=>intro cs r h;simp only[Instr.fill,Option.some.injEq] at h;rw[h]
    |cons p l ih =>
     intro cs r h;obtain⟨k,v⟩:=p;simp only[Instr.fill] at h;split at h
     ·cases h
     ·split at h
      ·cases h
      ·rw[ih _ _ h];have:∀(ll:List (Value × Nat)) (off:Nat) (acc:Array Value),(ll.foldl (fun cs (c,j)=>cs.setIfInBounds (off+j) c) acc).size=acc.size:=by
        intro ll
        induction ll with
        |nil=>intro off acc;rfl
        |cons q ll ih2=>intro off acc;simp only[List.foldl_cons];rw[ih2];simp
       rw[<-Array.foldl_toList,this]
   rw[h1 _ _ _ _ hr'];simp
  have hcl:=z1c hi;refine AllocR.ofSlice hN (cs':=r') hrr (Ze _) ?_ (by rw[hsz,hcl]) ?_
  ·simp only[bmost] at hlen;simp only[maxLen];omega
  ·have hpl:(parts.map fun (i,x)=>(i,ρ' x)).toList=parts.toList.map fun p=>(p.1,ρ' p.2):=by rw[Array.toList_map]
   have hnr:∀(cs:Array Value),(newRow e cs).run P w=.ok ⟨w.heap.size,0,none⟩ (w.alloc (.cells cs e)):=fun cs=>by simp [newRow,Sem.run_bind]
   apply z2f;unfold Instr.buildSlice;simp only[bmost] at hmost;have hgt:¬(len*i.size > 2 ^ 24):=by omega
   by_cases h0:len*i.size=0
   ·have hr0:Instr.fill (fun k=>some (k*i.size,i.size)) ((Array.range (len*i.size)).map ((#[]:Array Value)[· % (#[]:Array Value).size]!)) (parts.toList.map fun p=>(p.1,ρ' p.2))=some r':=by
     rw[<-hr',h0];simp [Array.range_zero']
    simp only[Sem.run_bind,run_underlying hu,Result.andThen_ok,z13 hi,hcl,h0,gt_iff_lt,Nat.not_lt_zero,if_false,if_true,Sem.run_pure,hpl];rw[h0] at hr0;rw[hr0];simp only[Sem.run_bind,hnr,Result.andThen_ok,Sem.run_pure]
   ·simp only[Sem.run_bind,run_underlying hu,Result.andThen_ok,z13 hi,hcl,hgt,if_false,h0,Sem.run_pure,hpl,zeroValue,typeInfo,run_program,hi,hz];rw[hr'];simp only[Sem.run_bind,hnr,Result.andThen_ok,Sem.run_pure]
 |makeMap t r =>
  cases r with
  |some r=>simp only[dop] at h;cases h
  |none =>
   simp only[dop] at h;cases h;cases z4x hg;rcases hmk with ⟨hv,rfl⟩|⟨n,c,hv,rfl⟩|⟨hv,rfl⟩
   ·cases hv
   ·cases hv
   refine⟨.map (some w.heap.size),.map #[] 0,0,0,rfl,fun σ1 i he hi=>⟨.map _ _ ?_,.map _ _ _ [] 0 #[] hN (by show (w.heap.push _)[w.heap.size]?=_;simp) ⟨rfl,fun i e e' a b=>by simp at a⟩⟩⟩;unfold BR;rw[hi]
 |makeSlice t l c =>
  have hl:=hρ l (by simp [Op.operands]);have hc:=hρ c (by simp [Op.operands]);simp only[dop] at h;split at h
  case h_2=>cases h
  rename_i e hu;split at h
  case h_2=>cases h
  rename_i i cap hi hcap;split at h
  case h_2=>cases h
  rename_i z len hz hlen;split at h
  case isFalse=>cases h
  rename_i hq;obtain⟨hzf,hzs,hby,hz1⟩:=hq;cases h;cases z4x hg;obtain⟨n',c',hv,rfl⟩:∃n c,Value.slice (some ⟨0,0,none⟩) len cap=.slice (some ⟨0,0,none⟩) n c/\mk=fun i=>.slice (some ⟨i,0,none⟩) n c:=by
   rcases hmk with ⟨hv,_⟩|hh|⟨hv,_⟩
   ·cases hv
   ·exact hh
   ·cases hv
  cases hv;obtain⟨kc,ci,hcv,c0,c1,rfl⟩:=z0x hcap;obtain⟨kl,li,hlv,l0,l1,rfl⟩:=z0x hlen;rw[hcv] at hc;rw[hlv] at hl;have ec:=hc.flat_eq rfl;have el:=hl.flat_eq rfl;have hm:(most:Int)=34359738368:=rfl;have hbytes:(i.bytes:Int)*ci<=281474976710656:=by
   have h1:(i.bytes:Int)*ci<=4096*34359738368:=Int.mul_le_mul (by omega) (by omega) c0 (by omega);omega
  have hrun:=run_make (P:=P) w t e i z hu hi hz kl kc li ci l0 (by omega) hbytes (by omega);have hcl:=z1c hi;refine AllocR.ofSlice hN (cs':=madeCells z.cells (ci.toNat*i.size)) ?_ (by omega) (by simp only[maxLen];omega) (by rw[size_madeCells,hcl]) ?_
  ·rw[z2m];exact LR.flat (z3r hzf _)
  ·show Sem.run P (do pure (Next.value (<-Instr.makeSlice t (ρ' l) (ρ' c)))) w=_;rw[el,ec];exact z2f _ _ _ hrun
 |range t x =>
  have hx:=hρ x (by simp [Op.operands]);simp only[dop] at h;split at h
  case h_3=>cases h
  case h_2=>simp [Heap.get,Tr.get] at h
  rename_i s hu hv;cases h;rw[hv] at hx;have e1:=hx.flat_eq rfl;cases z4x hg;rcases hmk with ⟨_,rfl⟩|⟨n,c,hv,rfl⟩|⟨hv,rfl⟩
  ·refine⟨.pointer (some ⟨w.heap.size,0,none⟩),.stringIter s 0,0,0,?_,fun σ1 i he hi=>⟨.ptr _ _ (zrp hi),.siter _ _ _ s 0 hN (by show (w.heap.push _)[w.heap.size]?=_;simp)⟩⟩;simp [execOp,e1,Instr.range,Sem.run_bind,run_underlying hu]
  ·cases hv
  ·cases hv
 |_=>cases hal
def isPure (o:Oper):Bool:=!isEff o && !isRead o && !isAlloc o
theorem z27 {v:Value}{H':Heap}(h:dflat P o ρ H=some (.val v H')):H'=H/\∀H2,dflat P o ρ H2=some (.val v H2):=by
 unfold dflat at *;split at h
 ·rename_i u hf hp;split at h
  ·rename_i hu;cases h;exact⟨rfl,fun H2=>by simp [hu]⟩
  ·cases h
 ·cases h
theorem z4y {x:Option Value}{v:Value}{H':Heap}(h:x.map (Dr.val · H)=some (.val v H')):H'=H/\∀H2,x.map (Dr.val · H2)=some (.val v H2):=by
 cases x with
 |none=>cases h
 |some u=>cases h;exact⟨rfl,fun _=>rfl⟩
set_option maxHeartbeats 1000000 in
theorem znz (hp:isPure o=true) {v:Value}{H':Heap}(h:dop P o ρ H=some (.val v H')):H'=H/\∀H2,dop P o ρ H2=some (.val v H2):=by
 obtain⟨dst,op,type,pos,after,guard⟩:=o;cases op with
 |call c =>
  obtain⟨callee,args,ats⟩:=c;cases callee with
  |builtin b =>
   cases b<;>first|(simp [isPure,isEff,isRead,isAlloc] at hp;done)|exact z27 h
  |_=>simp [isPure,isEff] at hp
 |fieldAddr s x f =>
  simp only[dop] at h ⊢;split at h
  ·rename_i fs a h1 h2;split at h
   ·rename_i fd hfd;split at h
    ·rename_i hc;cases h;refine⟨rfl,fun H2=>?_⟩;simp [h1,h2,hfd,hc]
    ·cases h
   ·cases h
  ·cases h
 |field t x f =>
  simp only[dop] at h ⊢;split at h
  ·rename_i fs cs h1 h2;split at h
   ·rename_i fd hfd;have:=z4y h;refine⟨this.1,fun H2=>?_⟩;exact this.2 H2
   ·cases h
  ·cases h
 |indexAddr t x ix =>
  simp only[dop] at h ⊢;split at h
  ·rename_i e a n c h1 h2;split at h
   ·rename_i i q1 q2 q3 q4;cases h;refine⟨rfl,fun H2=>?_⟩;simp [h1,h2,q1,q2,q3,q4]
   ·cases h
  ·rename_i n e a h1 h2;split at h
   ·rename_i i q1 q2 q3 q4;cases h;refine⟨rfl,fun H2=>?_⟩;simp [h1,h2,q1,q2,q3,q4]
   ·cases h
  ·cases h
 |index t x ix =>
  simp only[dop] at h ⊢;split at h
  ·rename_i n e cs h1 h2;split at h
   ·rename_i i q1 q2;have:=z4y h;refine⟨this.1,fun H2=>?_⟩;exact this.2 H2
   ·cases h
  ·exact z27 h
 |typeAssert x xt at_ ok =>
  simp only[dop] at h ⊢;split at h
  ·exact z4y h
  ·exact z27 h
 |extract t ix =>
  simp only[dop] at h ⊢;split at h
  ·exact z4y h
  ·cases h
 |binOp op t x y yt =>
  simp only[dop] at h ⊢;split at h
  ·cases h;exact⟨rfl,fun _=>rfl⟩
  ·exact z27 h
 |unOp op t x=>exact z27 h
 |makeInterface t x =>
  simp only[dop] at h ⊢;split at h
  ·cases h
  ·cases h;exact⟨rfl,fun _=>rfl⟩
  ·cases h
 |makeFunc fn first captured =>
  simp only[dop] at h ⊢;split at h
  ·cases h;exact⟨rfl,fun _=>rfl⟩
  ·cases h
 |nilCheck x =>
  simp only[dop] at h ⊢;split at h
  ·cases h;exact⟨rfl,fun _=>rfl⟩
  ·cases h;exact⟨rfl,fun _=>rfl⟩
  ·cases h
 |build t parts =>
  simp only[dop] at h ⊢;split at h
  ·rename_i hc;split at h
   ·rename_i u hu;cases h;exact⟨rfl,fun _=>if_pos hc⟩
   ·cases h
  ·cases h
 |pick c a b =>
  simp only[dop] at h ⊢;split at h
  ·cases h;exact⟨rfl,fun _=>rfl⟩
  ·cases h;exact⟨rfl,fun _=>rfl⟩
  ·cases h
 |move x=>simp only[dop] at h ⊢;cases h;exact⟨rfl,fun _=>rfl⟩
 |assign x=>simp only[dop] at h ⊢;cases h;exact⟨rfl,fun _=>rfl⟩
 |alloc _|box _ _|buildSlice _ _ _|makeSlice _ _ _|makeMap _ _|range _ _=>simp [isPure,isAlloc] at hp
 |load _ _|lookup _ _ _ _|convert _ _ _|slice _ _ _ _ _=>simp [isPure,isRead] at hp
 |store _ _ _|mapUpdate _ _ _ _|insert _ _ _ _|defer _|panic _=>simp [isPure,isEff] at hp
 |next it str=>simp [isPure,isEff] at hp
 |_=>simp only[dop] at h;cases h
theorem zfs (hr:isRead o=true) {v:Value}{H':Heap}(h:dop P o ρ H=some (.val v H')) (hn:H'.next=H.next):H'=H:=by
 obtain⟨dst,op,type,pos,after,guard⟩:=o;cases op with
 |load t a =>
  simp only[dop] at h;split at h
  ·exact(z4y h).1
  ·cases h
 |lookup t m k ok =>
  simp only[dop] at h;unfold dlookup at h;simp only at h;split at h
  ·split at h
   ·split at h
    ·split at h
     ·split at h
      ·cases h;rfl
      ·cases h
     ·cases h
    ·cases h
   ·split at h
    ·split at h
     ·split at h
      ·split at h
       ·cases h;rfl
       ·cases h
      ·cases h
     ·split at h
      ·cases h;rfl
      ·cases h
     ·cases h
    ·cases h
   ·cases h
  ·cases h
 |convert s d x =>
  simp only[dop] at h;split at h
  ·split at h
   ·exact(z4y h).1
   ·cases h
  ·cases h
  ·exact(z27 h).1
 |slice t x lo hi mx =>
  simp only[dop] at h;split at h
  ·exact(z27 h).1
  ·unfold dslice at h;split at h
   ·split at h
    ·split at h
     ·split at h
      ·cases h;rfl
      ·split at h
       ·cases h;rfl
       ·split at h
        ·split at h
         ·split at h
          ·cases h;rfl
          ·cases h
         ·split at h
          ·cases h;rfl
          ·cases h
         ·cases h
        ·cases h
     ·cases h
    ·cases h
   ·cases h
 |call c =>
  obtain⟨callee,args,ats⟩:=c;cases callee with
  |builtin b =>
   cases b<;>first|(simp [isRead] at hr;done)|skip
   rcases args with ⟨_|⟨x,_|⟨y,l⟩⟩⟩
   ·simp only[dop] at h;cases h
   ·simp only[dop] at h;split at h
    ·split at h
     ·cases h;rfl
     ·cases h
    ·split at h
     ·cases h;rfl
     ·cases h
    ·exact(z27 h).1
   ·simp only[dop] at h;cases h
  |_=>simp [isRead] at hr
 |_=>simp [isRead] at hr
end
end Go.Hb
end

section
namespace Go.Hb
open Go Go.RowKit
mutual
theorem zft:∀(v u:Value),veq v u=true->v=u
  |.bool a,u,h=>by cases u<;>simp [veq] at h;rw[h]
  |.int k a,u,h=>by cases u<;>simp [veq] at h;rw[h.1,h.2]
  |.float k a,u,h=>by cases u<;>simp [veq] at h;rw[h.1,h.2]
  |.complex _ _ _,u,h=>by cases u<;>simp [veq] at h
  |.string a,u,h=>by
    cases u<;>simp [veq] at h
    rename_i b;have:a=b:=by
      obtain⟨⟨x⟩⟩:=a;obtain⟨⟨y⟩⟩:=b;simp at h;rw[h]
    rw[this]
  |.pointer a,u,h=>by cases u<;>simp [veq] at h;rw[h]
  |.slice a n c,u,h=>by cases u<;>simp [veq] at h;rw[h.1.1,h.1.2,h.2]
  |.map a,u,h=>by cases u<;>simp [veq] at h;rw[h]
  |.chan none,u,h=>by cases u<;>simp [veq] at h
  |.chan (some a),u,h=>by
    cases u<;>try (simp [veq] at h;done)
    rename_i b;cases b<;>simp [veq] at h
    rw[h]
  |.func (.func f) ⟨a⟩ ⟨b⟩,u,h=>by
    cases u with
    |func g c d =>
      cases g with
      |func g =>
        obtain⟨c⟩:=c;obtain⟨d⟩:=d;simp [veq] at h;rw[h.1.1,z89 a c h.1.2,z89 b d h.2]
      |_=>simp [veq] at h
    |_=>simp [veq] at h
  |.func (.method _) _ _,u,h=>by simp [veq] at h
  |.func (.methodOf _ _) _ _,u,h=>by simp [veq] at h
  |.func (.via _ _ _ _) _ _,u,h=>by simp [veq] at h
  |.func (.yield _) _ _,u,h=>by simp [veq] at h
  |.nilFunc,u,h=>by cases u<;>simp [veq] at h;rfl
  |.iface t v,u,h=>by
    cases u<;>simp [veq] at h
    rename_i s w;rw[h.1,zft v w h.2]
  |.nilIface,u,h=>by cases u<;>simp [veq] at h;rfl
  |.agg ⟨a⟩,u,h=>by
    cases u with
    |agg b=>obtain⟨b⟩:=b;simp [veq] at h;rw[z89 a b h]
    |_=>simp [veq] at h
  |.tuple ⟨a⟩,u,h=>by
    cases u with
    |tuple b=>obtain⟨b⟩:=b;simp [veq] at h;rw[z89 a b h]
    |_=>simp [veq] at h
theorem z89:∀(a b:List Value),veqL a b=true->a=b
  |[],b,h=>by cases b<;>simp [veqL] at h;rfl
  |v :: a,b,h=>by
    cases b with
    |nil=>simp [veqL] at h
    |cons w b=>simp [veqL] at h;rw[zft v w h.1,z89 a b h.2]
end
def anc (b:Array Nat) (i j:Nat):Prop:=(b.getD i 0).testBit j=true
structure RC (ops:Array Oper) (b:Array Nat) (effs:List Nat):Prop where
  slot:∀p q op oq d,ops[p]?=some op->ops[q]?=some oq->p≠q->op.dst=some d->oq.dst≠some d/\(Operand.tmp d∈oq.op.operands.toList->anc b q p\/anc b p q)
  edge:∀i o,ops[i]?=some o->∀j,anc b i j↔∃e∈o.after.toList,Region.binds .any e=true/\(j=e.on\/anc b e.on j)
  lt:∀i o e,ops[i]?=some o->e∈o.after.toList->Region.binds .any e=true->e.on < i
  out:∀i,ops.size<=i->∀j,¬anc b i j
  guard:∀i o j want,ops[i]?=some o->o.guard=some (j,want)->anc b i j
  hf:effs=(Zh ops.size).filter fun i=>match ops[i]? with|some o=>isEff o|none=>false
  chain:chainOK ops b effs=true
theorem za1 (b:Array Nat) (j:Nat):∀(l:List Edge) (s:Nat),
    (l.foldl (fun s e=>if Region.binds .any e then s ||| 2 ^ e.on ||| b.getD e.on 0 else s) s).testBit j=true↔s.testBit j=true\/∃e∈l,Region.binds .any e=true/\(j=e.on\/anc b e.on j)
  |[],s=>by simp
  |e :: l,s=>by
    rw[List.foldl_cons,za1 b j l];by_cases he:Region.binds .any e=true
    · rw[if_pos he];simp only[Nat.testBit_or,Bool.or_eq_true,Nat.testBit_two_pow,decide_eq_true_eq,List.mem_cons];constructor
      · rintro (((h|h)|h)|⟨f,hf,h⟩)
        · exact .inl h
        · exact .inr ⟨e,.inl rfl,he,.inl h.symm⟩
        · exact .inr ⟨e,.inl rfl,he,.inr h⟩
        · exact .inr ⟨f,.inr hf,h⟩
      · rintro (h|⟨f,rfl|hf,h1,h2|h2⟩)
        · exact .inl (.inl (.inl h))
        · exact .inl (.inl (.inr h2.symm))
        · exact .inl (.inr h2)
        · exact .inr ⟨f,hf,h1,.inl h2⟩
        · exact .inr ⟨f,hf,h1,.inr h2⟩
    · rw[if_neg he];constructor
      · rintro (h|⟨f,hf,h⟩)
        · exact .inl h
        · exact .inr ⟨f,Zn _ hf,h⟩
      · rintro (h|⟨f,hf,h⟩)
        · exact .inl h
        · rcases List.mem_cons.1 hf with rfl|hf
          · exact absurd h.1 he
          · exact .inr ⟨f,hf,h⟩
theorem RC.of_ok {ops:Array Oper}(h:okDraw ops=true) :
    RC ops (Region.before ops) ((Zh ops.size).filter fun i=>match ops[i]? with|some o=>isEff o|none=>false):=by
  unfold okDraw at h;simp only[Zk,List.all_eq_true] at h;obtain⟨⟨⟨hsz,hap⟩,hch⟩,hall⟩:=h;have hix:∀i o,ops[i]?=some o->(o,i)∈ops.toList.zipIdx:=fun i o ho=>by
    rw[List.mem_zipIdx_iff_getElem?];simpa using ho
  rw[Zt] at hsz;refine⟨fun p q op oq d hp hq hne hd=>?_,fun i o ho j=>?_,fun i o e ho he hb=>?_,fun i hi j hj=>?_,fun i o j want ho hg=>?_,rfl,hch⟩
  · unfold apartOK at hap;simp only[List.all_eq_true] at hap;have h1:=hap _ (hix p op hp);rw[hd] at h1;simp only[List.all_eq_true] at h1;have h2:=h1 _ (hix q oq hq);simp only[Bool.or_eq_true,Zk,Zt] at h2;rcases h2 with h2|⟨h2,h3⟩
    · exact absurd h2 hne
    · refine⟨fun hq'=>?_,fun hm=>?_⟩
      · rw[hq'] at h2;simp at h2
      · rcases h3 with (h3|h3)|h3
        · simp only[Bool.not_eq_true',List.any_eq_false] at h3;have:=h3 _ hm;simp at this
        · exact .inl h3
        · exact .inr h3
  · have h1:=(hall _ (hix i o ho)).1.1;rw[Zt] at h1;unfold anc;simp only at h1;rw[h1];unfold ahead;rw[za1];simp [anc]
  · have h1:=(hall _ (hix i o ho)).1.2 e he;simp only[Bool.or_eq_true,Bool.not_eq_true',Nat.blt_eq,hb] at h1;simpa using h1
  · unfold anc at hj;rw[ZH,Array.getElem?_eq_none (by omega)] at hj;simp at hj
  · have h1:=(hall _ (hix i o ho)).2;rw[hg] at h1;exact h1
section
variable {ops:Array Oper}{b:Array Nat}{effs:List Nat}
theorem z3s {i:Nat}(h:i < ops.size):∃o,ops[i]?=some o:=⟨ops[i],by simp [h]⟩
theorem z1m {i:Nat}{o:Oper}(h:ops[i]?=some o):i < ops.size:=(Array.getElem?_eq_some_iff.1 h).1
theorem RC.anc_some (R:RC ops b effs) {i j:Nat}(h:anc b i j):∃o,ops[i]?=some o:=by
  rcases Nat.lt_or_ge i ops.size with hi|hi
  · exact z3s hi
  · exact absurd h (R.out i hi j)
theorem RC.anc_lt (R:RC ops b effs):∀i j,anc b i j->j < i:=by
  intro i
  induction i using Nat.strongRecOn with
  |_ i ih =>
    intro j h;obtain⟨o,ho⟩:=R.anc_some h;obtain⟨e,he,hb,h1⟩:=(R.edge i o ho j).1 h;have hlt:=R.lt i o e ho he hb;rcases h1 with rfl|h1
    · exact hlt
    · have:=ih _ hlt _ h1;omega
theorem RC.anc_trans (R:RC ops b effs):∀i j k,anc b i j->anc b j k->anc b i k:=by
  intro i
  induction i using Nat.strongRecOn with
  |_ i ih =>
    intro j k h hk;obtain⟨o,ho⟩:=R.anc_some h;obtain⟨e,he,hb,h1⟩:=(R.edge i o ho j).1 h;have hlt:=R.lt i o e ho he hb;refine(R.edge i o ho k).2 ⟨e,he,hb,.inr ?_⟩;rcases h1 with rfl|h1
    · exact hk
    · exact ih _ hlt _ _ h1 hk
def DS (ops:Array Oper) (b:Array Nat) (S:Nat->Prop):Prop:=∀i,S i->i < ops.size/\∀j,anc b i j->S j
def written (ops:Array Oper) (S:Nat->Prop) (t:Tmp):Prop:=∃p o,S p/\ops[p]?=some o/\o.dst=some t
open Classical in
noncomputable def rho (ops:Array Oper) (b:Array Nat) (tm0 tmF:Tr Value) (i:Nat) (x:Operand):Value :=
  match x with
  |.tmp t=>if written ops (anc b i) t then ev tmF (.tmp t) else ev tm0 (.tmp t)
  |x=>ev tm0 x
def TI (ops:Array Oper) (tm0 tmF:Tr Value) (S:Nat->Prop) (tm:Tr Value):Prop :=
  ∀t,(written ops S t->tm.get t=tmF.get t)/\(¬written ops S t->tm.get t=tm0.get t)
theorem RC.not_written (R:RC ops b effs) {S:Nat->Prop}(hS:DS ops b S) {i:Nat}{o:Oper}(ho:ops[i]?=some o) (hi:¬S i) {t:Tmp}(hx:Operand.tmp t∈o.op.operands.toList)
    (hw:¬written ops (anc b i) t):¬written ops S t:=by
  rintro ⟨q,oq,hq,hoq,hd⟩;have hne:q≠i:=fun e=>hi (e ▸ hq)
  rcases (R.slot q i oq o t hoq ho hne hd).2 hx with h|h
  · exact hw ⟨q,oq,h,hoq,hd⟩
  · exact hi ((hS q hq).2 i h)
theorem z1h {S T:Nat->Prop}(h:∀i,S i->T i) {t:Tmp}(hw:written ops S t):written ops T t:=by
  obtain⟨p,o,hp,ho,hd⟩:=hw;exact⟨p,o,h p hp,ho,hd⟩
theorem RC.ev_rho (R:RC ops b effs) {S:Nat->Prop}(hS:DS ops b S) {tm0 tmF tm:Tr Value}(hT:TI ops tm0 tmF S tm) {i:Nat}{o:Oper}(ho:ops[i]?=some o) (hi:¬S i)
    (ha:∀j,anc b i j->S j):∀x∈o.op.operands.toList,ev tm x=rho ops b tm0 tmF i x:=by
  intro x hx;cases x with
  |tmp t =>
    unfold rho;simp only;split
    · rename_i hw;show (tm.get t).getD junk=(tmF.get t).getD junk;rw[(hT t).1 (z1h ha hw)]
    · rename_i hw;show (tm.get t).getD junk=(tm0.get t).getD junk;rw[(hT t).2 (R.not_written hS ho hi hx hw)]
  |_=>rfl
theorem RC.wanted (R:RC ops b effs) {S:Nat->Prop}{tm0 tmF tm:Tr Value}(hT:TI ops tm0 tmF S tm) {i:Nat}{o:Oper}(ho:ops[i]?=some o)
    (ha:∀j,anc b i j->S j):dwanted ops tm o=dwanted ops tmF o:=by
  unfold dwanted;cases hg:o.guard with
  |none=>rfl
  |some jw =>
    obtain⟨j,want⟩:=jw;have hj:=R.guard i o j want ho hg;simp only;cases hd:(ops[j]?).bind (·.dst) with
    |none=>rfl
    |some d =>
      simp only;obtain⟨oj,hoj,hdj⟩:=Option.bind_eq_some_iff.1 hd;rw[(hT d).1 ⟨j,oj,ha j hj,hoj,hdj⟩]
end
section
variable {P:Program}{ops:Array Oper}{b:Array Nat}{effs:List Nat}
theorem z7i {o:Oper}{ρ ρ':Operand->Value}(hal:isAlloc o=true) (h:∀x∈o.op.operands.toList,ρ x=ρ' x):dalloc P o ρ=dalloc P o ρ':=by
  have hd:dop P o ρ ⟨0,.nil⟩=dop P o ρ' ⟨0,.nil⟩:=by
    obtain⟨dst,op,type,pos,after,guard⟩:=o;cases op with
    |alloc e=>rfl
    |box e x=>simp only[dop,h x (by simp [Op.operands])]
    |buildSlice t len parts =>
      have hp:∀p∈parts.toList,ρ p.2=ρ' p.2:=fun p hp=>h p.2 (by simp only[Op.operands];exact List.mem_map.2 ⟨p,hp,rfl⟩)
      have h1:(parts.toList.map fun p=>(p.1,ρ p.2))=parts.toList.map fun p=>(p.1,ρ' p.2):=List.map_congr_left fun p hq=>by rw[hp p hq]
      have h2:parts.toList.all (fun p=>(ρ p.2).cells.toList.all one)=parts.toList.all (fun p=>(ρ' p.2).cells.toList.all one):=by
        rw[Bool.eq_iff_iff,List.all_eq_true,List.all_eq_true];exact⟨fun k p hq=>by rw[<-hp p hq];exact k p hq,fun k p hq=>by rw[hp p hq];exact k p hq⟩
      simp only[dop,h1,h2]
    |makeSlice t l c=>simp only[dop,h l (by simp [Op.operands]),h c (by simp [Op.operands])]
    |makeMap t r=>cases r<;>simp only[dop]
    |range t x=>simp only[dop,h x (by simp [Op.operands])]
    |_=>cases hal
  unfold dalloc;rw[hd]
def FN (P:Program) (ops:Array Oper) (b:Array Nat) (base:Nat) (tm0 tmF:Tr Value) (i:Nat) (o:Oper) (G:Heap):Prop :=
  (dwanted ops tmF o=some false/\∀d,o.dst=some d->tmF.get d=some undef) \/
  (dwanted ops tmF o=some true/\isAlloc o=true/\∃B mk,dalloc P o (rho ops b tm0 tmF i)=some (B,mk)/\∀d,o.dst=some d->tmF.get d=some (mk (base+i))) \/
  (dwanted ops tmF o=some true/\isAlloc o=false/\∃ ρ v,(∀x∈o.op.operands.toList,ρ x=rho ops b tm0 tmF i x)/\dop P o ρ G=some (.val v G)/\∀d,o.dst=some d->tmF.get d=some v)
def putD (tm:Tr Value) (d:Option Tmp) (v:Value):Tr Value:=match d with|some d=>tm.put d (some v)|none=>tm
theorem z2x (tm:Tr Value) (d:Option Tmp) (v:Value) (t:Tmp):(d=some t->(putD tm d v).get t=some v)/\(d≠some t->(putD tm d v).get t=tm.get t):=by
  cases d with
  |none=>exact⟨fun h=>(by cases h),fun _=>rfl⟩
  |some d =>
    constructor
    · intro h;cases h;show (tm.put t (some v)).get t=_;rw[Tr.get_put,if_pos rfl]
    · intro h;show (tm.put d (some v)).get t=_;rw[Tr.get_put,if_neg (fun e=>h (by rw[e]))]
theorem zcn {base:Nat}{hs:List Heap}{i:Nat}{L:List Nat}{tm:Tr Value}{H:Heap}{r:Tr Value × Heap}(h:dnon P ops b effs base hs (i :: L) tm H=some r) :
    ∃o v H',ops[i]?=some o/\dnon P ops b effs base hs L (putD tm o.dst v) H'=some r /\
      ((dwanted ops tm o=some false/\v=undef/\H'=H) \/
       (dwanted ops tm o=some true/\isAlloc o=true/\∃B mk,dalloc P o (ev tm)=some (B,mk)/\v=mk (base+i)/\H'=H.put (base+i) (some B)) \/
       (dwanted ops tm o=some true/\isAlloc o=false/\H'=H/\∃G gs G',hs=G :: gs/\dop P o (ev tm) G=some (.val v G') /\
        (isRead o=false\/(G'.next=G.next/\sameOn P o (ev tm) v (gs.take (gs.length - effsIn effs (b.getD i 0)))=true)))):=by
  unfold dnon at h;cases ho:ops[i]? with
  |none=>rw[ho] at h;cases h
  |some o =>
    rw[ho] at h;simp only at h;cases hw:dwanted ops tm o with
    |none=>rw[hw] at h;cases h
    |some wd =>
      rw[hw] at h;cases wd with
      |false=>exact⟨o,undef,H,rfl,h,.inl ⟨hw,rfl,rfl⟩⟩
      |true =>
        simp only at h;cases hal:isAlloc o with
        |true =>
          rw[hal] at h;simp only at h;cases hd:dalloc P o (ev tm) with
          |none=>rw[hd] at h;cases h
          |some p =>
            obtain⟨B,mk⟩:=p;rw[hd] at h;exact⟨o,_,_,rfl,h,.inr (.inl ⟨hw,hal,B,mk,hd,rfl,rfl⟩)⟩
        |false =>
          rw[hal] at h;simp only at h;cases hs with
          |nil=>cases h
          |cons G gs =>
            simp only at h;split at h
            case h_2=>cases h
            rename_i v G' hd;split at h
            case h_2=>cases h
            rename_i hc;refine⟨o,v,H,rfl,h,.inr (.inr ⟨hw,hal,rfl,G,gs,G',rfl,hd,?_⟩)⟩;simpa [Zt] using hc
theorem z3t {base:Nat}{hs:List Heap}{t:Tmp}:∀{L:List Nat}{tm:Tr Value}{H:Heap}{r:Tr Value × Heap},dnon P ops b effs base hs L tm H=some r ->
    (∀i∈L,∀o,ops[i]?=some o->o.dst≠some t)->r.1.get t=tm.get t
  |[],tm,H,r,h,_=>by unfold dnon at h;cases h;rfl
  |i :: L,tm,H,r,h,hn=>by
    obtain⟨o,v,H',ho,h',_⟩:=zcn h;rw[z3t h' (fun j hj=>hn j (Zn _ hj))];exact(z2x tm o.dst v t).2 (hn i (by simp) o ho)
theorem za2 {o:Oper}{ρ:Operand->Value}{v:Value}:∀{l:List Heap}{G:Heap},sameOn P o ρ v l=true->G∈l->∃G',dop P o ρ G=some (.val v G')/\G'.next=G.next
  |H :: l,G,h,hm=>by
    unfold sameOn at h;simp only[Zk] at h;rcases List.mem_cons.1 hm with rfl|hm
    · have h1:=h.1;split at h1
      · rename_i u H' hd;simp only[Zk,Zt] at h1;rw[<-zft u v h1.1];exact⟨H',hd,h1.2⟩
      · cases h1
    · exact za2 h.2 hm
theorem z1x (R:RC ops b effs) {base:Nat}{hs:List Heap}{tm0 tmF:Tr Value}:∀{L:List Nat}{S:Nat->Prop}{tm:Tr Value}{H:Heap}{r:Tr Value × Heap},
    dnon P ops b effs base hs L tm H=some r->L.Pairwise (· < ·)->DS ops b S->(∀i∈L,i < ops.size/\¬S i/\(∀o,ops[i]?=some o->isEff o=false)/\∀j,anc b i j->S j\/j∈L) ->
    (∀t,written ops (fun i=>S i\/i∈L) t->r.1.get t=tmF.get t)->(∀t,¬written ops S t->tm.get t=tm0.get t) ->
    (∀i∈L,∀o,ops[i]?=some o->∀pre G post,hs=pre++G :: post->effsIn effs (b.getD i 0)<=post.length->FN P ops b base tm0 tmF i o G) /\
    (∀t,¬written ops (fun i=>S i\/i∈L) t->r.1.get t=tm0.get t) /\
    ∃l:List (Nat × Blk),r.2=l.foldl (fun H p=>H.put (base+p.1) (some p.2)) H/\∀p∈l,p.1∈L/\∃o mk,ops[p.1]?=some o/\isAlloc o=true/\dwanted ops tmF o=some true/\dalloc P o (rho ops b tm0 tmF p.1)=some (p.2,mk)
  |[],S,tm,H,r,h,_,hS,_,hF,h0=>by
    unfold dnon at h;cases h;refine⟨fun i hi=>(by cases hi),fun t ht=>h0 t fun hw=>ht (z1h (fun i hi=>.inl hi) hw),[],rfl,fun p hp=>(by cases hp)⟩
  |i :: L,S,tm,H,r,h,hso,hS,hL,hF,h0=>by
    obtain⟨o,v,H',ho,h',hc⟩:=zcn h;obtain⟨hiz,hiS,hie,hia⟩:=hL i (by simp);rw[List.pairwise_cons] at hso;have ha:∀j,anc b i j->S j:=fun j hj=>by
      rcases hia j hj with h1|h1
      · exact h1
      · have hlt:=R.anc_lt i j hj;rcases List.mem_cons.1 h1 with rfl|h1
        · omega
        · have:=hso.1 j h1;omega
    have hkS:∀t,written ops S t->tm.get t=tmF.get t:=by
      intro t hw;rw[<-hF t (z1h (fun i hi=>.inl hi) hw)];obtain⟨p,op,hp,hop,hd⟩:=hw;exact(z3t h (fun j hj oj hoj=>(R.slot p j op oj t hop hoj (fun e=>(hL j hj).2.1 (e ▸ hp)) hd).1)).symm
    have hTI:TI ops tm0 tmF S tm:=fun t=>⟨hkS t,h0 t⟩
    have hρ:=R.ev_rho hS hTI ho hiS ha;have hw:=R.wanted hTI ho ha;have hS':DS ops b (fun j=>S j\/j=i):=fun j hj=>by
      rcases hj with hj|rfl
      · exact⟨(hS j hj).1,fun k hk=>.inl ((hS j hj).2 k hk)⟩
      · exact⟨hiz,fun k hk=>.inl (ha k hk)⟩
    have h0':∀t,¬written ops (fun j=>S j\/j=i) t->(putD tm o.dst v).get t=tm0.get t:=fun t ht=>by
      rw[(z2x tm o.dst v t).2 (fun hd=>ht ⟨i,o,.inr rfl,ho,hd⟩)];exact h0 t fun hw=>ht (z1h (fun i hi=>.inl hi) hw)
    have heq:(fun j=>(S j\/j=i)\/j∈L)=(fun j=>S j\/j∈i :: L):=by
      funext j;simp only[List.mem_cons,or_assoc]
    have hF':∀t,written ops (fun j=>(S j\/j=i)\/j∈L) t->r.1.get t=tmF.get t:=by rw[heq];exact hF
    obtain⟨k1,k2,l,k3,k4⟩:=z1x R h' hso.2 hS' (fun j hj=>by
      obtain⟨q1,q2,q3,q4⟩:=hL j (Zn _ hj);refine⟨q1,fun hh=>?_,q3,fun k hk=>?_⟩
      · rcases hh with hh|rfl
        · exact q2 hh
        · have:=hso.1 _ hj;omega
      · rcases q4 k hk with q|q
        · exact .inl (.inl q)
        · rcases List.mem_cons.1 q with rfl|q
          · exact .inl (.inr rfl)
          · exact .inr q) hF' h0'
    have hdv:∀d,o.dst=some d->tmF.get d=some v:=fun d hd=>by
      rw[<-hF d ⟨i,o,.inr (by simp),ho,hd⟩,z3t h' (fun j hj oj hoj=>(R.slot i j o oj d ho hoj (fun e=>by have:=hso.1 j hj;omega) hd).1)];exact(z2x tm o.dst v d).1 hd
    refine⟨fun j hj oj hoj pre G post hhs hle=>?_,by rw[heq] at k2;exact k2,?_⟩;rotate_left
    · have k4':∀p∈l,p.1∈i :: L/\∃o mk,ops[p.1]?=some o/\isAlloc o=true/\dwanted ops tmF o=some true/\dalloc P o (rho ops b tm0 tmF p.1)=some (p.2,mk):=fun p hp=>⟨Zn _ (k4 p hp).1,(k4 p hp).2⟩
      rcases hc with ⟨c1,_,rfl⟩|⟨c1,c2,B,mk,c3,_,rfl⟩|⟨c1,c2,rfl,_⟩
      · exact⟨l,k3,k4'⟩
      · refine⟨(i,B) :: l,k3,fun p hp=>?_⟩;rcases List.mem_cons.1 hp with rfl|hp
        · exact⟨by simp,o,mk,ho,c2,hw ▸ c1,(z7i c2 hρ) ▸ c3⟩
        · exact k4' p hp
      · exact⟨l,k3,k4'⟩
    rcases List.mem_cons.1 hj with rfl|hj
    · rw[ho] at hoj;cases hoj;rcases hc with ⟨c1,rfl,_⟩|⟨c1,c2,B,mk,c3,rfl,_⟩|⟨c1,c2,_,G0,gs,G',rfl,c4,c5⟩
      · exact .inl ⟨hw ▸ c1,hdv⟩
      · exact .inr (.inl ⟨hw ▸ c1,c2,B,mk,(z7i c2 hρ) ▸ c3,hdv⟩)
      · refine .inr (.inr ⟨hw ▸ c1,c2,ev tm,v,hρ,?_,hdv⟩);cases hrd:isRead o with
        |false =>
          have hp:isPure o=true:=by simp [isPure,hrd,c2,hie o ho]
          exact(znz hp c4).2 G
        |true =>
          rcases c5 with c5|⟨c5,c6⟩
          · rw[hrd] at c5;cases c5
          · cases pre with
            |nil =>
              simp only[List.nil_append,List.cons.injEq] at hhs;obtain⟨rfl,rfl⟩:=hhs;have:=zfs hrd c4 c5;rw[this] at c4;exact c4
            |cons G1 pre =>
              simp only[List.cons_append,List.cons.injEq] at hhs;obtain⟨rfl,rfl⟩:=hhs;have hmem:G∈((pre++G :: post).take ((pre++G :: post).length - effsIn effs (b.getD j 0))):=by
                rw[List.mem_take_iff_getElem];refine⟨pre.length,?_,?_⟩
                · simp only[Zr,ZD];omega
                · simp
              obtain⟨G'',d1,d2⟩:=za2 c6 hmem;have:=zfs hrd d1 d2;rw[this] at d1;exact d1
    · exact k1 j hj oj hoj pre G post hhs hle
end
end Go.Hb
end

section
namespace Go.Hb
open Go Go.RowKit
section
variable {P:Program}{ops:Array Oper}{b:Array Nat}{effs:List Nat}
def bit (m i:Nat):Prop:=m.testBit i=true
theorem z0v {done e i:Nat}:bit (done ||| b.getD e 0 ||| 2 ^ e) i↔bit done i\/anc b e i\/i=e:=by
 unfold bit anc;simp only[Nat.testBit_or,Bool.or_eq_true,Nat.testBit_two_pow,decide_eq_true_eq,or_assoc];constructor
 ·rintro (h|h|h)
  ·exact .inl h
  ·exact .inr (.inl h)
  ·exact .inr (.inr h.symm)
 ·rintro (h|h|h)
  ·exact .inl h
  ·exact .inr (.inl h)
  ·exact .inr (.inr h.symm)
theorem RC.sorted (R:RC ops b effs):effs.Pairwise (· < ·):=by
 rw[R.hf];exact List.Pairwise.filter _ List.pairwise_lt_range
theorem RC.mem_effs (R:RC ops b effs) {i:Nat}:i∈effs↔∃o,ops[i]?=some o/\isEff o=true:=by
 rw[R.hf,List.mem_filter];constructor
 ·rintro ⟨h1,h2⟩;obtain⟨o,ho⟩:=z3s (List.mem_range.1 h1);rw[ho] at h2;exact⟨o,ho,h2⟩
 ·rintro ⟨o,ho,h⟩;exact⟨List.mem_range.2 (z1m ho),by rw[ho];exact h⟩
theorem za3 {e:Nat}{es:List Nat}(h:chainOK ops b (e :: es)=true):(∀f∈es,anc b f e)\/∃f,es=[f]/\isSt ops e=true/\isSt ops f=true:=by
 unfold chainOK at h;rw[Zk] at h;have h1:=h.1;split at h1
 ·rename_i f;rw[Bool.or_eq_true,Zk] at h1;rcases h1 with h1|h1
  ·refine .inl fun g hg=>?_
   rw[List.mem_singleton] at hg;subst hg;exact h1
  ·exact .inr ⟨f,rfl,h1.1,h1.2⟩
 ·exact .inl fun f hf=>List.all_eq_true.1 h1 f hf
theorem zih {e:Nat}{es:List Nat}(h:chainOK ops b (e :: es)=true):chainOK ops b es=true:=by
 unfold chainOK at h;rw[Zk] at h;exact h.2
theorem RC.topo (R:RC ops b effs) {es:List Nat}(h:es.Pairwise (· < ·)):es.Pairwise (fun e f=>e≠f/\¬anc b e f) :=
 h.imp fun {e f} hlt=>⟨by omega,fun ha=>by have:=R.anc_lt _ _ ha;omega⟩
structure DI (ops:Array Oper) (b:Array Nat) (effs:List Nat) (tm0:Tr Value) (es:List Nat) (done:Nat) (tm:Tr Value) (k:Nat):Prop where
 ds:DS ops b (bit done)
 sfx:∃pre,effs.Perm (pre++es)/\(∀e∈pre,bit done e)/\pre.length=k
 ord:chainOK ops b es=true
 topo:es.Pairwise (fun e f=>e≠f/\¬anc b e f)
 noe:∀e∈es,¬bit done e
 t0:∀t,¬written ops (bit done) t->tm.get t=tm0.get t
theorem z0y {m done i:Nat}:i∈pending (Zh ops.size) effs m done↔i < ops.size/\bit m i/\¬bit done i/\i∉effs:=by
 unfold pending bit;simp [List.mem_filter,and_assoc]
theorem z41 {done i:Nat}:i∈((Zh ops.size).filter fun i=>!done.testBit i && !effs.contains i)↔i < ops.size/\¬bit done i/\i∉effs:=by
 unfold bit;simp [List.mem_filter]
theorem DI.next (R:RC ops b effs) {tm0 tm tm':Tr Value}{e:Nat}{es:List Nat}{done k:Nat}(h:DI ops b effs tm0 (e :: es) done tm k)
  (h0:∀t,¬written ops (bit (done ||| b.getD e 0 ||| 2 ^ e)) t->tm'.get t=tm0.get t):DI ops b effs tm0 es (done ||| b.getD e 0 ||| 2 ^ e) tm' (k+1):=by
 obtain⟨pre,hp,hpd,hk⟩:=h.sfx;have he:e∈effs:=hp.mem_iff.2 (by simp);obtain⟨o,ho,_⟩:=R.mem_effs.1 he;have ht:=List.pairwise_cons.1 h.topo;refine⟨fun i hi=>?_,⟨pre++[e],by rw[List.append_assoc];exact hp,fun f hf=>?_,by simp [hk]⟩,zih h.ord,ht.2,fun f hf hb=>?_,h0⟩
 ·rw[z0v] at hi;rcases hi with hi|hi|rfl
  ·exact⟨(h.ds i hi).1,fun j hj=>z0v.2 (.inl ((h.ds i hi).2 j hj))⟩
  ·exact⟨by have:=R.anc_lt _ _ hi;have:=z1m ho;omega,fun j hj=>z0v.2 (.inr (.inl (R.anc_trans _ _ _ hi hj)))⟩
  ·exact⟨z1m ho,fun j hj=>z0v.2 (.inr (.inl hj))⟩
 ·rcases List.mem_append.1 hf with hf|hf
  ·exact z0v.2 (.inl (hpd f hf))
  ·simp at hf;exact z0v.2 (.inr (.inr hf))
 ·have htf:=ht.1 f hf;rw[z0v] at hb;rcases hb with hb|hb|hb
  ·exact h.noe f (Zn _ hf) hb
  ·exact htf.2 hb
  ·exact htf.1 hb.symm
theorem DI.list (R:RC ops b effs) {tm0 tm:Tr Value}{es:List Nat}{done k:Nat}(h:DI ops b effs tm0 es done tm k) {L:List Nat}
  (hm:∀i∈L,i < ops.size/\¬bit done i/\i∉effs) (hc:∀i∈L,∀j,anc b i j->¬bit done j->j∉effs->j∈L) (he:∀i∈L,∀j,anc b i j->j∈es->False) :
  ∀i∈L,i < ops.size/\¬bit done i/\(∀o,ops[i]?=some o->isEff o=false)/\∀j,anc b i j->bit done j\/j∈L:=by
 intro i hi;obtain⟨h1,h2,h3⟩:=hm i hi;refine⟨h1,h2,fun o ho=>?_,fun j hj=>?_⟩
 ·cases hx:isEff o with
  |false=>rfl
  |true=>exact absurd (R.mem_effs.2 ⟨o,ho,hx⟩) h3
 ·by_cases hd:bit done j
  ·exact .inl hd
  ·refine .inr (hc i hi j hj hd fun hje=>?_);obtain⟨pre,hp,hpd,_⟩:=h.sfx;rw[hp.mem_iff] at hje;rcases List.mem_append.1 hje with hje|hje
   ·exact hd (hpd j hje)
   ·exact he i hi j hj hje
theorem DI.pend (R:RC ops b effs) {tm0 tm:Tr Value}{e:Nat}{es:List Nat}{done k:Nat}(h:DI ops b effs tm0 (e :: es) done tm k) :
  ∀i∈pending (Zh ops.size) effs (b.getD e 0) done,i < ops.size/\¬bit done i/\(∀o,ops[i]?=some o->isEff o=false)/\∀j,anc b i j->bit done j\/j∈pending (Zh ops.size) effs (b.getD e 0) done:=by
 refine DI.list R h (fun i hi=>?_) (fun i hi j hj hd hne=>?_) (fun i hi j hj hje=>?_)
 ·rw[z0y] at hi;exact⟨hi.1,hi.2.2⟩
 ·rw[z0y] at hi ⊢;exact⟨by have:=R.anc_lt _ _ hj;omega,R.anc_trans _ _ _ hi.2.1 hj,hd,hne⟩
 ·rw[z0y] at hi;have hej:=R.anc_trans _ _ _ hi.2.1 hj;rcases List.mem_cons.1 hje with rfl|hje
  ·have:=R.anc_lt _ _ hej;omega
  ·exact((List.pairwise_cons.1 h.topo).1 j hje).2 hej
theorem DI.last (R:RC ops b effs) {tm0 tm:Tr Value}{done k:Nat}(h:DI ops b effs tm0 [] done tm k) :
  ∀i∈((Zh ops.size).filter fun i=>!done.testBit i && !effs.contains i),i < ops.size/\¬bit done i/\(∀o,ops[i]?=some o->isEff o=false) /\
   ∀j,anc b i j->bit done j\/j∈((Zh ops.size).filter fun i=>!done.testBit i && !effs.contains i):=by
 refine DI.list R h (fun i hi=>z41.1 hi) (fun i hi j hj hd hne=>?_) (fun i hi j hj hje=>by cases hje);rw[z41] at hi ⊢;exact⟨by have:=R.anc_lt _ _ hj;omega,hd,hne⟩
theorem z20 {m done:Nat}:(pending (Zh ops.size) effs m done).Pairwise (· < ·):=List.Pairwise.filter _ List.pairwise_lt_range
theorem z5o {done:Nat}:((Zh ops.size).filter fun i=>!done.testBit i && !effs.contains i).Pairwise (· < ·):=List.Pairwise.filter _ List.pairwise_lt_range
variable {ok:Ok}{n:Nat}{x:Ctx}{base:Nat}{G:Heap}{gs:List Heap}{ds:List Deferred}{tm0 tm:Tr Value}{st:St}{done:Nat}{es:List Nat}
theorem zii (h:dstage P ok n x ops b effs base [] done (G :: gs) tm ds=some st) :
  ∃tm1 H1,dnon P ops b effs base (G :: gs) ((Zh ops.size).filter fun i=>!done.testBit i && !effs.contains i) tm G=some (tm1,H1)/\st=⟨tm1,ds,H1⟩:=by
 cases n with
 |zero=>unfold dstage at h;cases h
 |succ n =>
  unfold dstage at h;simp only at h;split at h
  ·rename_i tm1 H1 hd;cases h;exact⟨tm1,H1,hd,rfl⟩
  ·cases h
theorem zep {e:Nat}(h:dstage P ok n x ops b effs base (e :: es) done (G :: gs) tm ds=some st) :
  ∃n' tm1 H1 o v ds1 H2,n=n'+1/\dnon P ops b effs base (G :: gs) (pending (Zh ops.size) effs (b.getD e 0) done) tm G=some (tm1,H1)/\ops[e]?=some o /\
   ddraw P ok n' x ops b effs base es (done ||| b.getD e 0 ||| 2 ^ e) (H2 :: G :: gs) (putD tm1 o.dst v) ds1=some st /\
   ((dwanted ops tm1 o=some false/\v=undef/\ds1=ds/\H2=H1)\/(dwanted ops tm1 o=some true/\dop1 P ok n' x o (ev tm1) ds H1=some (.val v ds1 H2))):=by
 cases n with
 |zero=>unfold dstage at h;cases h
 |succ n =>
  unfold dstage at h;simp only at h;split at h
  ·cases h
  ·rename_i tm1 H1 hd;split at h
   ·cases h
   ·rename_i o ho;split at h
    ·cases h
    ·rename_i hw;exact⟨n,tm1,H1,o,undef,ds,H1,rfl,hd,ho,h,.inl ⟨hw,rfl,rfl,rfl⟩⟩
    ·rename_i hw;split at h
     ·rename_i v ds1 H2 h1;exact⟨n,tm1,H1,o,v,ds1,H2,rfl,hd,ho,h,.inr ⟨hw,h1⟩⟩
     ·cases h
theorem zfu {e f:Nat}(h:twin b es=some (e,f)):es=[e,f]/\(b.getD f 0).testBit e=false/\e < f:=by
 unfold twin at h;split at h
 ·split at h
  ·cases h
  ·rename_i hc;cases h;rw[Bool.or_eq_false_iff] at hc;refine⟨rfl,hc.1,?_⟩;have h2:=hc.2;rw[<-ZL,Nat.ble_eq] at h2;omega
 ·cases h
theorem z8a (h:ddraw P ok n x ops b effs base es done (G :: gs) tm ds=some st):∃n',n=n'+1/\dstage P ok n' x ops b effs base es done (G :: gs) tm ds=some st:=by
 cases n with
 |zero=>unfold ddraw at h;cases h
 |succ n =>
  unfold ddraw at h;split at h
  ·exact⟨n,rfl,h⟩
  ·rename_i e f ht;obtain⟨rfl,_,_⟩:=zfu ht;split at h
   ·rename_i st1 st2 h1 h2;split at h
    ·split at h
     ·cases h;exact⟨n,rfl,h1⟩
     ·cases h
    ·cases h
   ·cases h
theorem zij {e f:Nat}(hb:(b.getD f 0).testBit e=false) (hlt:e < f) (h:ddraw P ok n x ops b effs base [e,f] done (G :: gs) tm ds=some st) :
  ∃st' p q,ddraw P ok n x ops b effs base [f,e] done (G :: gs) tm ds=some st'/\dtwin P ops b effs base done (G :: gs) tm e f=some (p,q)/\agree ops base p q st st'=true:=by
 have ht:twin b [e,f]=some (e,f):=by
  have h2:Nat.ble f e=false:=by rw[<-ZL,Nat.ble_eq];omega
  unfold twin;simp only[hb,h2,Bool.or_self]
 have ht':twin b [f,e]=none:=by
  have h2:Nat.ble e f=true:=by rw[Nat.ble_eq];omega
  unfold twin;simp only[h2,Bool.or_true]
 cases n with
 |zero=>unfold ddraw at h;cases h
 |succ n =>
  unfold ddraw at h;rw[ht] at h;simp only at h;split at h
  ·rename_i st1 st2 h1 h2;split at h
   ·rename_i p q hpq;split at h
    ·rename_i hag;cases h;refine⟨st2,p,q,?_,hpq,hag⟩;unfold ddraw;rw[ht'];exact h2
    ·cases h
   ·cases h
  ·cases h
theorem z6b (h:ddraw P ok n x ops b effs base [] done (G :: gs) tm ds=some st) :
  ∃tm1 H1,dnon P ops b effs base (G :: gs) ((Zh ops.size).filter fun i=>!done.testBit i && !effs.contains i) tm G=some (tm1,H1)/\st=⟨tm1,ds,H1⟩:=by
 obtain⟨n',_,h⟩:=z8a h;exact zii h
theorem z31 {e:Nat}(h:ddraw P ok n x ops b effs base (e :: es) done (G :: gs) tm ds=some st) :
  ∃n' tm1 H1 o v ds1 H2,n' < n/\dnon P ops b effs base (G :: gs) (pending (Zh ops.size) effs (b.getD e 0) done) tm G=some (tm1,H1)/\ops[e]?=some o /\
   ddraw P ok n' x ops b effs base es (done ||| b.getD e 0 ||| 2 ^ e) (H2 :: G :: gs) (putD tm1 o.dst v) ds1=some st /\
   ((dwanted ops tm1 o=some false/\v=undef/\ds1=ds/\H2=H1)\/(dwanted ops tm1 o=some true/\dop1 P ok n' x o (ev tm1) ds H1=some (.val v ds1 H2))):=by
 obtain⟨m,rfl,hs⟩:=z8a h;obtain⟨n',tm1,H1,o,v,ds1,H2,rfl,hr⟩:=zep hs;exact⟨n',tm1,H1,o,v,ds1,H2,by omega,hr⟩
theorem z35 (R:RC ops b effs) {t:Tmp}:∀{es:List Nat}{n done:Nat}{G:Heap}{gs:List Heap}{tm:Tr Value}{ds:List Deferred}{k:Nat},
  ddraw P ok n x ops b effs base es done (G :: gs) tm ds=some st->(∀e∈es,¬bit done e)->es.Pairwise (fun e f=>e≠f/\¬anc b e f)->(∀i o,ops[i]?=some o->o.dst=some t->bit done i)->st.tm.get t=tm.get t
 |[],n,done,G,gs,tm,ds,k,h,_,_,ht=>by
  obtain⟨tm1,H1,hd,rfl⟩:=z6b h;exact z3t hd fun i hi o ho hd=>(z41.1 hi).2.1 (ht i o ho hd)
 |e :: es,n,done,G,gs,tm,ds,k,h,he,hs,ht=>by
  obtain⟨n',tm1,H1,o,v,ds1,H2,_,hd,ho,h',_⟩:=z31 h;have hs:=List.pairwise_cons.1 hs;rw[z35 R (k:=k) h' (fun f hf hb=>?_) hs.2 (fun i o ho hd=>z0v.2 (.inl (ht i o ho hd))),(z2x _ _ _ t).2 (fun hdst=>he e (by simp) (ht e o ho hdst)),
   z3t hd fun i hi o ho hd=>(z0y.1 hi).2.2.1 (ht i o ho hd)]
  have:=hs.1 f hf;rcases z0v.1 hb with hb|hb|hb
  ·exact he f (Zn _ hf) hb
  ·exact this.2 hb
  ·exact this.1 hb.symm
theorem z36 (R:RC ops b effs) {e:Nat}{k:Nat}(D:DI ops b effs tm0 (e :: es) done tm k) {tm1:Tr Value}{o:Oper}{v:Value}{n':Nat}{H2:Heap}{ds1:List Deferred}(ho:ops[e]?=some o)
  (h':ddraw P ok n' x ops b effs base es (done ||| b.getD e 0 ||| 2 ^ e) (H2 :: G :: gs) (putD tm1 o.dst v) ds1=some st) :
  (∀t,written ops (fun i=>bit done i\/i∈pending (Zh ops.size) effs (b.getD e 0) done) t->tm1.get t=st.tm.get t)/\(∀d,o.dst=some d->st.tm.get d=some v):=by
 have hs2:=List.pairwise_cons.1 D.topo;have hno:∀f∈es,¬bit (done ||| b.getD e 0 ||| 2 ^ e) f:=fun f hf hb=>by
  have:=hs2.1 f hf;rcases z0v.1 hb with hb|hb|hb
  ·exact D.noe f (Zn _ hf) hb
  ·exact this.2 hb
  ·exact this.1 hb.symm
 have he:¬bit done e:=D.noe e (by simp);constructor
 ·rintro t ⟨p,op,hpp,hop,hd⟩;have hpe:p≠e:=by
   rintro rfl;rcases hpp with hpp|hpp
   ·exact he hpp
   ·have h2:=(z0y.1 hpp).2.1;have:=R.anc_lt _ _ h2;omega
  rw[z35 R (k:=k) h' hno hs2.2 (fun i oi hoi hdi=>?_),(z2x _ _ _ t).2 ((R.slot p e op o t hop ho hpe hd).1)];have hip:i=p:=by
   by_cases h:p=i
   ·exact h.symm
   ·exact absurd hdi (R.slot p i op oi t hop hoi h hd).1
  subst hip;rcases hpp with hpp|hpp
  ·exact z0v.2 (.inl hpp)
  ·exact z0v.2 (.inr (.inl (z0y.1 hpp).2.1))
 ·intro d hd;rw[z35 R (k:=k) h' hno hs2.2 (fun i oi hoi hdi=>?_),(z2x _ _ _ d).1 hd];have hip:i=e:=by
   by_cases h:e=i
   ·exact h.symm
   ·exact absurd hdi (R.slot e i o oi d ho hoi h hd).1
  exact z0v.2 (.inr (.inr hip))
theorem zb9 (R:RC ops b effs) {e:Nat}{tm1:Tr Value}{o:Oper}{v:Value}(ho:ops[e]?=some o)
  (h0:∀t,¬written ops (fun i=>bit done i\/i∈pending (Zh ops.size) effs (b.getD e 0) done) t->tm1.get t=tm0.get t) :
  ∀t,¬written ops (bit (done ||| b.getD e 0 ||| 2 ^ e)) t->(putD tm1 o.dst v).get t=tm0.get t:=by
 intro t ht;rw[(z2x _ _ _ t).2 (fun hd=>ht ⟨e,o,z0v.2 (.inr (.inr rfl)),ho,hd⟩)];refine h0 t fun hw=>ht (z1h (fun i hi=>?_) hw)
 rcases hi with hi|hi
 ·exact z0v.2 (.inl hi)
 ·exact z0v.2 (.inr (.inl (z0y.1 hi).2.1))
theorem z8b (R:RC ops b effs):∀{es:List Nat}{n done:Nat}{G:Heap}{gs:List Heap}{tm:Tr Value}{ds:List Deferred}{k:Nat},
  ddraw P ok n x ops b effs base es done (G :: gs) tm ds=some st->DI ops b effs tm0 es done tm k ->
  ∀i o,ops[i]?=some o->isEff o=false->¬bit done i->∀pre G' post,G :: gs=pre++G' :: post->effsIn effs (b.getD i 0)<=post.length->FN P ops b base tm0 st.tm i o G'
 |[],n,done,G,gs,tm,ds,k,h,D,i,o,ho,hie,hid=>by
  obtain⟨tm1,H1,hd,rfl⟩:=z6b h;have:=z1x R (tmF:=tm1) hd z5o D.ds (D.last R) (fun t _=>rfl) D.t0;exact this.1 i (z41.2 ⟨z1m ho,hid,fun he=>by
   obtain⟨o',ho',he'⟩:=R.mem_effs.1 he;rw[ho] at ho';cases ho';rw[hie] at he';cases he'⟩) o ho
 |e :: es,n,done,G,gs,tm,ds,k,h,D,i,o,ho,hie,hid=>by
  obtain⟨n',tm1,H1,oe,v,ds1,H2,_,hd,hoe,h',_⟩:=z31 h;obtain⟨f1,f2⟩:=z36 R D hoe h';have hfac:=z1x R (tmF:=st.tm) hd z20 D.ds (D.pend R) f1 D.t0;have hne:i∉effs:=fun he=>by
   obtain⟨o',ho',he'⟩:=R.mem_effs.1 he;rw[ho] at ho';cases ho';rw[hie] at he';cases he'
  by_cases hi:anc b e i
  ·exact hfac.1 i (z0y.2 ⟨z1m ho,hi,hid,hne⟩) o ho
  ·intro pre G' post hhs hle;refine z8b R h' (D.next R (zb9 R hoe hfac.2.1)) i o ho hie (fun hb=>?_) (H2 :: pre) G' post (by rw[hhs];rfl) hle;rcases z0v.1 hb with hb|hb|rfl
   ·exact hid hb
   ·exact hi hb
   ·exact hne (by obtain⟨pre,hp,_⟩:=D.sfx;exact hp.mem_iff.2 (by simp))
end
end Go.Hb
end

section
namespace Go.Hb
open Go Go.RowKit
def DsR (σ:Nat->Loc) (τ:Nat->Value):List Deferred->List Deferred->Prop
 |[],[]=>True
 |d :: ds,d' :: ds'=>DfR σ τ d d'/\DsR σ τ ds ds'
 |_,_=>False
def GR (P:Program) (σ:Nat->Loc):Prop:=∀g,g < P.globals.size->σ g=.dead\/∃S es,σ g=.live g S es
section
variable {P:Program}{N:Nat}{w0:World}{τ:Nat->Value}{σ σ':Nat->Loc}{H H':Heap}{w w':World}
theorem RA.ext (he:Ext σ σ') {x y:Array Value}(h:RA σ τ x y):RA σ' τ x y:=LR.ext he h
theorem DfR.ext (he:Ext σ σ') {d d':Deferred}(h:DfR σ τ d d'):DfR σ' τ d d':=by
 refine⟨h.1.ext he,?_⟩;rcases h.2 with ⟨f,c,c',h1,h2,h3⟩|⟨l,l',h1,h2,h3⟩
 ·exact .inl ⟨f,c,c',h1,h2,h3.ext he⟩
 ·exact .inr ⟨l,l',h1,h2,h3.ext he⟩
theorem DsR.ext (he:Ext σ σ'):∀{ds ds':List Deferred},DsR σ τ ds ds'->DsR σ' τ ds ds'
 |[],[],_=>trivial
 |_ :: _,_ :: _,h=>⟨h.1.ext he,DsR.ext he h.2⟩
 |[],_ :: _,h=>h.elim
 |_ :: _,[],h=>h.elim
theorem GR.ext (h:GR P σ) (he:Ext σ σ'):GR P σ':=by
 intro g hg;rcases he g with h1|h1|⟨_,h1⟩
 ·rcases h g hg with h2|⟨S,es,h2⟩<;>rw[h1] at h2<;>cases h2
 ·rw[h1];exact h g hg
 ·exact .inl h1
theorem GR.ptr (h:GR P σ) {g:Nat}(hg:g < P.globals.size):VR σ τ (.pointer (some ⟨g,0,none⟩)) (.pointer (some ⟨g,0,none⟩)):=by
 refine .ptr _ _ ?_;unfold AR;rcases h g hg with h1|⟨S,es,h1⟩
 ·simp only[h1]
 ·simp [h1]
theorem BlkR.step {B:Blk}{i:Nat}(h:BlkR P N σ τ w (σ i) B) (hH:HR P N w0 τ σ H w) (hs:Step σ H w σ' H' w') (hg:H.get i=none):BlkR P N σ' τ w' (σ' i) B:=by
 obtain⟨b,S,es,hl⟩:=h.live;have hk:=hs.keep i (.inr (by rw[hl];simp)) hg;rw[hk.1];refine(h.ext hs.ext).world fun c S' es' hc=>?_
 refine hs.frame c (hH.lt i c S' es' hc) fun j S2 es2 hj=>?_
 rw[hH.inj j i c S2 es2 S' es' hj hc];exact hg
theorem HR.adopt (h:HR P N w0 τ σ H w) {i:Nat}{B:Blk}(hB:BlkR P N σ τ w (σ i) B):HR P N w0 τ σ (H.put i (some B)) w:=by
 refine⟨h.below,h.size,h.fresh,fun j C hj=>?_,h.inj,h.lt⟩;rw[Heap.get_put] at hj;by_cases hji:j=i
 ·rw[if_pos hji] at hj;cases hj;rw[hji];exact hB
 ·rw[if_neg hji] at hj;exact h.blk j C hj
theorem HR.extra (h:HR P N w0 τ σ H w) {i:Nat}(ob:Obj) (S es:Nat) (hi:i < H.next) (hn:σ i=.none) :
  HR P N w0 τ (upd σ i (.live w.heap.size S es)) H (w.alloc ob):=by
 have he:Ext σ (upd σ i (.live w.heap.size S es)):=fun j=>by
  by_cases hj:j=i
  ·rw[hj];exact .inl hn
  ·exact .inr (.inl (z0f _ _ hj))
 have hsz:(w.alloc ob).heap.size=w.heap.size+1:=by simp
 have hlt:=h.lt;refine⟨h.below.trans ⟨rfl,rfl,rfl,by rw[hsz];omega,fun k hk=>Below.heap_alloc w _ k (Zi hk h.size)⟩,by have:=h.size;omega,fun j hj=>?_,fun j C hj=>?_,fun j k b S1 e1 S2 e2 hj hk=>?_,fun j b S1 e1 hj=>?_⟩
 ·rw[z0f _ _ (by omega)];exact h.fresh j hj
 ·have hB:=h.blk j C hj;have hji:j≠i:=fun e=>by
   obtain⟨b,S',es',hl⟩:=hB.live;rw[e,hn] at hl;cases hl
  rw[z0f _ _ hji];exact(hB.ext he).world fun c S' es' hc=>Below.heap_alloc w _ c (hlt j c S' es' hc)
 ·by_cases hj1:j=i
  ·by_cases hk1:k=i
   ·rw[hj1,hk1]
   ·rw[hj1,z0r] at hj;cases hj;rw[z0f _ _ hk1] at hk;have:=hlt k _ _ _ hk;omega
  ·rw[z0f _ _ hj1] at hj;by_cases hk1:k=i
   ·rw[hk1,z0r] at hk;cases hk;have:=hlt j _ _ _ hj;omega
   ·rw[z0f _ _ hk1] at hk;exact h.inj j k b S1 e1 S2 e2 hj hk
 ·by_cases hj1:j=i
  ·rw[hj1,z0r] at hj;cases hj;omega
  ·rw[z0f _ _ hj1] at hj;have:=hlt j b S1 e1 hj;omega
theorem Step.extra {σ0:Nat->Loc}{H0:Heap}{w1:World}(h:Step σ0 H0 w1 σ H w) {i:Nat}(ob:Obj) (S es:Nat) (hi:H0.next<=i) (h0:σ0 i=.none) :
  Step σ0 H0 w1 (upd σ i (.live w.heap.size S es)) H (w.alloc ob):=by
 have hsz:(w.alloc ob).heap.size=w.heap.size+1:=by simp
 refine⟨h.next,fun j=>?_,fun j b S1 e1 hj=>?_,fun b hb hn=>?_,by have:=h.size;omega,fun j hj hg=>?_⟩
 ·by_cases hji:j=i
  ·rw[hji];exact .inl h0
  ·rw[z0f _ _ hji];exact h.ext j
 ·by_cases hji:j=i
  ·rw[hji,z0r] at hj;cases hj;exact .inl h.size
  ·rw[z0f _ _ hji] at hj;exact h.new j b S1 e1 hj
 ·rw[Below.heap_alloc w _ b (Zi hb h.size)];exact h.frame b hb hn
 ·have hji:j≠i:=by
   rintro rfl;rcases hj with hj|hj
   ·omega
   ·exact hj h0
  rw[z0f _ _ hji];exact h.keep j hj hg
theorem Step.adopt {σ0:Nat->Loc}{H0:Heap}{w1:World}(h:Step σ0 H0 w1 σ H w) {i:Nat}(B:Blk) (hi:H0.next<=i) (h0:σ0 i=.none):Step σ0 H0 w1 σ (H.put i (some B)) w:=by
 refine⟨h.next,h.ext,h.new,h.frame,h.size,fun j hj hg=>?_⟩;obtain⟨e1,e2⟩:=h.keep j hj hg;have hji:j≠i:=by
  rintro rfl;rcases hj with hj|hj
  ·omega
  ·exact hj h0
 exact⟨e1,by rw[Heap.get_put,if_neg hji];exact e2⟩
theorem zk1 {σ0:Nat->Loc}{H0:Heap}{w1:World}{base:Nat}(h0:∀i,base<=i->H0.next<=i/\σ0 i=.none):∀(l:List (Nat × Blk)) (H:Heap),HR P N w0 τ σ H w->Step σ0 H0 w1 σ H w ->
  (∀p∈l,BlkR P N σ τ w (σ (base+p.1)) p.2) ->
  HR P N w0 τ σ (l.foldl (fun H p=>H.put (base+p.1) (some p.2)) H) w/\Step σ0 H0 w1 σ (l.foldl (fun H p=>H.put (base+p.1) (some p.2)) H) w /\
  (l.foldl (fun H p=>H.put (base+p.1) (some p.2)) H).next=H.next /\
  ∀j,(∀p∈l,j≠base+p.1)->(l.foldl (fun H p=>H.put (base+p.1) (some p.2)) H).get j=H.get j
 |[],H,hH,hs,_=>⟨hH,hs,rfl,fun _ _=>rfl⟩
 |p :: l,H,hH,hs,hl=>by
  have h1:=h0 (base+p.1) (Nat.le_add_right _ _);obtain⟨k1,k2,k3,k4⟩:=zk1 h0 l (H.put (base+p.1) (some p.2)) (hH.adopt (hl p (by simp))) (hs.adopt p.2 h1.1 h1.2) (fun q hq=>hl q (Zn _ hq));refine⟨k1,k2,k3,fun j hj=>?_⟩;rw[List.foldl_cons,k4 j (fun q hq=>hj q (Zn _ hq)),Heap.get_put,if_neg (hj p (by simp))]
theorem zco {ops:Array Oper}{o:Oper}{tm:Tr Value}{a:Array Value}{bb:Bool}
  (hT:∀j want oj d v,o.guard=some (j,want)->ops[j]?=some oj->oj.dst=some d->tm.get d=some v->VR σ τ v (a.getD d undef)) (h:dwanted ops tm o=some bb) :
  Region.wanted o (yielded ops a)=bb:=by
 unfold dwanted at h;unfold Region.wanted;cases hg:o.guard with
 |none=>rw[hg] at h;simp only[Option.some.injEq] at h;exact h
 |some jw =>
  obtain⟨j,want⟩:=jw;rw[hg] at h;simp only at h ⊢;cases hd:(ops[j]?).bind (·.dst) with
  |none =>
   rw[hd] at h;simp only[Option.some.injEq] at h;subst h;simp [yielded,hd]
  |some d =>
   rw[hd] at h;obtain⟨oj,hoj,hdj⟩:=Option.bind_eq_some_iff.1 hd;simp only at h;have hv:=hT j want oj d;cases hq:tm.get d with
   |none=>rw[hq] at h;cases h
   |some v =>
    have hvr:=hv v hg hoj hdj hq;rw[hq] at h;have hin:∀u:Value,a.getD d undef=u->u≠undef->a[d]?=some u:=by
     intro u hu hne;rw[ZH] at hu;cases hx:a[d]? with
     |none=>rw[hx] at hu;exact absurd hu.symm hne
     |some z=>rw[hx] at hu;simp at hu;rw[hu]
    split at h
    ·rename_i x c hx;cases hx;simp only[Option.some.injEq] at h;subst h;have:=hin _ (hvr.flat_eq rfl) (by simp [undef]);simp [yielded,hd,this]
    ·rename_i x c hx;cases hx;cases h;obtain⟨x',e1,_⟩:=hvr.tuple_inv;have hy:yielded ops a j=none:=by
      unfold yielded;rw[hd];simp only[ZB];rw[ZH] at e1;cases hx:a[d]? with
      |none=>rfl
      |some z=>rw[hx] at e1;simp at e1;rw[e1]
     simp [hy]
    ·cases h
end
structure SI (P:Program) (N:Nat) (w0:World) (τ:Nat->Value) (ops:Array Oper) (b:Array Nat) (base m:Nat) (tm0 tmF:Tr Value) (σ0:Nat->Loc) (H0:Heap) (w1:World)
  (S:Nat->Prop) (done:Nat) (G:Heap) (ds:List Deferred) (σ:Nat->Loc) (a:Act) (w:World):Prop where
 hH:HR P N w0 τ σ G w
 ta:∀t v,(written ops S t->tmF.get t=some v->VR σ τ v (a.tmps.getD t undef))/\(¬written ops S t->tm0.get t=some v->VR σ τ v (a.tmps.getD t undef))
 dsr:DsR σ τ ds a.defers
 sz:m<=a.tmps.size
 ex:∀p o B mk,S p->¬bit done p->ops[p]?=some o->isAlloc o=true->dwanted ops tmF o=some true->dalloc P o (rho ops b tm0 tmF p)=some (B,mk)->BlkR P N σ τ w (σ (base+p)) B
 non:∀p,p < ops.size->¬S p->σ (base+p)=.none
 nob:∀p,p < ops.size->¬bit done p->G.get (base+p)=none
 nx:base+ops.size<=G.next
 stp:Step σ0 H0 w1 σ G w
def DrawPost (P:Program) (N:Nat) (w0:World) (τ:Nat->Value) (m:Nat) (σ0:Nat->Loc) (H0:Heap) (w1:World) (st:St) (Q:Exit->Act->World->Prop):Prop :=
 ∀ σ a w,HR P N w0 τ σ st.H w->TmR σ τ st.tm a.tmps->DsR σ τ st.ds a.defers->m<=a.tmps.size->Step σ0 H0 w1 σ st.H w->Q .normal a w
structure Seen (P:Program) (N:Nat) (w0:World) (τ:Nat->Value) (ops:Array Oper) (m:Nat) (tm0:Tr Value) (σ0:Nat->Loc) (H0:Heap) (w1:World) (σ:Nat->Loc) (H:Heap) (a:Act) (w:World):Prop where
 tm:∀t v,(∀(i:Nat) (o:Oper),ops[i]?=some o->o.dst≠some t)->tm0.get t=some v->VR σ τ v (a.tmps.getD t undef)
 sz:m<=a.tmps.size
 stp:Step σ0 H0 w1 σ H w
def EffLaw (F:Fence) (P:Program) (N:Nat) (w0:World) (τ:Nat->Value) (ok:Ok) (n:Nat) (x:Ctx) (ops:Array Oper) (m:Nat) (tm0:Tr Value) (σ0:Nat->Loc) (H0:Heap) (w1:World) (Q:Exit->Act->World->Prop) (Z:Prop) (B:Oper->(Operand->Value)->List Deferred->Heap->Prop):Prop :=
 ∀n',n' < n->∀o ρ ds H v ds1 H1,o∈ops->Z\/B o ρ ds H->dop1 P ok n' x o ρ ds H=some (.val v ds1 H1) ->
  ∀(a:Act) (w:World) (σ:Nat->Loc) (K:Act->World->Prop),(∀y∈o.op.operands.toList,VR σ τ (ρ y) (a.eval y))->HR P N w0 τ σ H w->DsR σ τ ds a.defers->GR P σ->Seen P N w0 τ ops m tm0 σ0 H0 w1 σ H a w ->
   (Z->∀ σ' v' w' dfs',VR σ' τ v v'->HR P N w0 τ σ' H1 w'->DsR σ' τ ds1 dfs'->Step σ H w σ' H1 w'->K (({ a with defers:=dfs' }:Act).put o.dst v') w')->o.wpIn F 0 P a w K Q
section
variable {P:Program}{N:Nat}{w0:World}{τ:Nat->Value}{ops:Array Oper}{b:Array Nat}{effs:List Nat}{F:Fence}{ok:Ok}{n:Nat}{x:Ctx}{base m:Nat}{tm0 tmF:Tr Value}{σ0:Nat->Loc}{H0:Heap}{w1:World}
theorem z7j (a:Act) (d:Option Tmp) (v:Value) (t:Tmp):((a.put d v).tmps.getD t undef=if d=some t/\t < a.tmps.size then v else a.tmps.getD t undef):=by
 cases d with
 |none=>simp [Act.put]
 |some d =>
  simp only[Act.put,ZH,Array.getElem?_setIfInBounds];by_cases h:d=t
  ·subst h;by_cases h2:d < a.tmps.size
   ·simp [h2]
   ·simp [h2]
  ·simp [h]
theorem z1q (a:Act) (d:Option Tmp) (v:Value):(a.put d v).tmps.size=a.tmps.size:=by cases d<;>simp [Act.put]
theorem z1e (a:Act) (d:Option Tmp) (v:Value):(a.put d v).defers=a.defers:=by cases d<;>rfl
theorem SI.opnd {S:Nat->Prop}{done:Nat}{G:Heap}{ds:List Deferred}{σ:Nat->Loc}{a:Act}{w:World}(R:RC ops b effs)
  (h:SI P N w0 τ ops b base m tm0 tmF σ0 H0 w1 S done G ds σ a w) (hS:DS ops b S) (hg:GR P σ) {i:Nat}{o:Oper}(ho:ops[i]?=some o) (hi:¬S i) (ha:∀j,anc b i j->S j)
  (hok:o.op.operands.toList.all (okOpnd P.globals.size)=true):∀y∈o.op.operands.toList,VR σ τ (rho ops b tm0 tmF i y) (a.eval y):=by
 intro y hy;cases y with
 |tmp t =>
  unfold rho;simp only;show VR σ τ _ (a.tmps.getD t undef);split
  ·rename_i hw;show VR σ τ ((tmF.get t).getD junk) _;cases hq:tmF.get t with
   |none=>exact .junk _
   |some v=>exact(h.ta t v).1 (z1h ha hw) hq
  ·rename_i hw;show VR σ τ ((tm0.get t).getD junk) _;cases hq:tm0.get t with
   |none=>exact .junk _
   |some v=>exact(h.ta t v).2 (R.not_written hS ho hi hy hw) hq
 |const v=>exact .flat _ (List.all_eq_true.1 hok _ hy)
 |global g=>exact hg.ptr (by simpa [okOpnd,Nat.blt_eq] using List.all_eq_true.1 hok _ hy)
 |func f=>exact .flat _ rfl
theorem SI.slots {S:Nat->Prop}{done:Nat}{G:Heap}{ds:List Deferred}{σ σ':Nat->Loc}{a a':Act}{w:World}(R:RC ops b effs)
  (h:SI P N w0 τ ops b base m tm0 tmF σ0 H0 w1 S done G ds σ a w) (he:Ext σ σ') {i:Nat}{o:Oper}(ho:ops[i]?=some o) (hi:¬S i) {v':Value}
  (hd:∀d,o.dst=some d->d < m) (hv:∀d v,o.dst=some d->tmF.get d=some v->VR σ' τ v v') (ha:a'.tmps=a.tmps) :
  ∀t v,(written ops (fun j=>S j\/j=i) t->tmF.get t=some v->VR σ' τ v ((a'.put o.dst v').tmps.getD t undef)) /\
   (¬written ops (fun j=>S j\/j=i) t->tm0.get t=some v->VR σ' τ v ((a'.put o.dst v').tmps.getD t undef)):=by
 intro t v;rw[z7j,ha];by_cases hdt:o.dst=some t
 ·have hlt:t < a.tmps.size:=Zi (hd t hdt) h.sz;rw[if_pos ⟨hdt,hlt⟩];exact⟨fun _ hq=>hv t v hdt hq,fun hn=>absurd ⟨i,o,.inr rfl,ho,hdt⟩ hn⟩
 ·rw[if_neg (fun h=>hdt h.1)];constructor
  ·rintro ⟨p,op,hp,hop,hpd⟩ hq;rcases hp with hp|rfl
   ·exact((h.ta t v).1 ⟨p,op,hp,hop,hpd⟩ hq).ext he
   ·rw[ho] at hop;cases hop;exact absurd hpd hdt
  ·intro hn hq;exact((h.ta t v).2 (fun hw=>hn (z1h (fun i hi=>.inl hi) hw)) hq).ext he
theorem zcp {p q:Nat->Bool}:∀{l:List Nat}{i:Nat},(∀j,q j=true->p j=true)->i∈l->p i=true->q i=false->(l.filter q).length < (l.filter p).length
 |a :: l,i,hpq,hm,hp,hq=>by
  have hle:(l.filter q).length<=(l.filter p).length:=by
   rw[<-List.countP_eq_length_filter,<-List.countP_eq_length_filter];exact List.countP_mono_left fun j _ hj=>hpq j hj
  by_cases hai:a=i
  ·subst hai;rw[List.filter_cons_of_pos hp,List.filter_cons_of_neg (by simp [hq]),ZD];omega
  ·have ih:=zcp hpq ((List.mem_cons.1 hm).resolve_left (fun e=>hai e.symm)) hp hq;by_cases hqa:q a=true
   ·rw[List.filter_cons_of_pos hqa,List.filter_cons_of_pos (hpq a hqa),ZD,ZD];omega
   ·rw[List.filter_cons_of_neg hqa];by_cases hpa:p a=true
    ·rw[List.filter_cons_of_pos hpa,ZD];omega
    ·rw[List.filter_cons_of_neg hpa];exact ih
def lst (listed:Array Bool) (i:Nat):Prop:=listed.getD i false=true
theorem zeq {listed:Array Bool}{i j:Nat}(hi:i < listed.size):lst (listed.setIfInBounds i true) j↔lst listed j\/j=i:=by
 unfold lst;simp only[ZH,Array.getElem?_setIfInBounds];by_cases h:i=j
 ·subst h;simp [hi]
 ·simp only[if_neg h];constructor
  ·exact .inl
  ·rintro (h1|h1)
   ·exact h1
   ·exact absurd h1.symm h
theorem z8c {listed:Array Bool}{i:Nat}(R:RC ops b effs) (hl:listed.size=ops.size) (hS:DS ops b (lst listed)) :
  i∈Region.ready .any ops listed↔i < ops.size/\¬lst listed i/\∀j,anc b i j->lst listed j:=by
 unfold Region.ready;rw[List.mem_filter,List.mem_range];constructor
 ·rintro ⟨h1,h2⟩;obtain⟨o,ho⟩:=z3s h1;simp only[Zk,Bool.not_eq_true',ho,ZE,Option.getD_some] at h2;refine⟨h1,fun hl'=>?_,fun j hj=>?_⟩
  ·unfold lst at hl';have h3:=h2.1;rw[ZH] at hl' h3;cases hx:listed[i]? with
   |none=>rw[hx] at hl';cases hl'
   |some v=>rw[hx] at hl' h3;simp at hl' h3;rw[hl'] at h3;cases h3
  ·obtain⟨e,he,hb,h3⟩:=(R.edge i o ho j).1 hj;have h4:=h2.2;rw[Array.all_eq_true'] at h4;have h5:=h4 e (Array.mem_toList_iff.1 he);rw[hb] at h5;simp only[Zv,Bool.false_or] at h5;rcases h3 with rfl|h3
   ·exact h5
   ·exact(hS _ h5).2 j h3
 ·rintro ⟨h1,h2,h3⟩;obtain⟨o,ho⟩:=z3s h1;refine⟨h1,?_⟩;simp only[Zk,Bool.not_eq_true',ho,ZE,Option.getD_some];constructor
  ·unfold lst at h2;rw[ZH] at h2 ⊢;cases hx:listed[i]? with
   |none=>rw[Array.getElem?_eq_none_iff] at hx;omega
   |some v=>rw[hx] at h2;simpa using h2
  ·rw[Array.all_eq_true'];intro e he;cases hb:Region.binds .any e with
   |false=>rfl
   |true =>
    simp only[Zv,Bool.false_or];exact h3 _ ((R.edge i o ho e.on).2 ⟨e,Array.mem_toList_iff.2 he,hb,.inl rfl⟩)
theorem zik {listed:Array Bool}(R:RC ops b effs) (hl:listed.size=ops.size) (hS:DS ops b (lst listed)) (h:Region.ready .any ops listed=[]):∀i,i < ops.size->lst listed i:=by
 intro i
 induction i using Nat.strongRecOn with
 |_ i ih =>
  intro hi;by_cases hx:lst listed i
  ·exact hx
  ·have:i∈Region.ready .any ops listed:=(z8c R hl hS).2 ⟨hi,hx,fun j hj=>ih j (R.anc_lt _ _ hj) (by have:=R.anc_lt _ _ hj;omega)⟩;rw[h] at this;cases this
end
end Go.Hb
end
