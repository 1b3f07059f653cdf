/- The abstract machine: a deterministic evaluator of the model's code on abstract values. Definitions alone. -/
import Derived.WalkKit
import Derived.RangeFuncIn
namespace Go.Hb
open Go

inductive Tr (α : Type) where
  | nil
  | node (l : Tr α) (v : Option α) (r : Tr α)

namespace Tr
variable {α : Type}
def get : Tr α → Nat → Option α
  | .nil, _ => none
  | .node l v r, n =>
    match Nat.beq n 0 with
    | true => v
    | false => match Nat.beq (n % 2) 1 with
      | true => l.get (n / 2)
      | false => r.get (n / 2 - 1)
def left : Tr α → Tr α
  | .nil => .nil
  | .node l _ _ => l
def right : Tr α → Tr α
  | .nil => .nil
  | .node _ _ r => r
def val : Tr α → Option α
  | .nil => none
  | .node _ v _ => v
def set : Nat → Tr α → Nat → Option α → Tr α
  | 0, t, _, _ => t
  | f + 1, t, n, a =>
    match Nat.beq n 0 with
    | true => .node t.left a t.right
    | false => match Nat.beq (n % 2) 1 with
      | true => .node (set f t.left (n / 2) a) t.val t.right
      | false => .node t.left t.val (set f t.right (n / 2 - 1) a)
def put (t : Tr α) (n : Nat) (a : Option α) : Tr α := t.set (n + 1) n a
end Tr

mutual
def flat : Value → Bool
  | .bool _ | .int _ _ | .float _ _ | .complex _ _ _ | .string _ | .nilFunc | .nilIface => true
  | .pointer none | .map none => true
  | .slice none 0 0 => true
  | .iface _ v => flat v
  | .func (.func _) ⟨a⟩ ⟨b⟩ => flatL a && flatL b
  | .agg ⟨cs⟩ => flatL cs
  | .tuple ⟨cs⟩ => flatL cs
  | _ => false
def flatL : List Value → Bool
  | [] => true
  | v :: vs => flat v && flatL vs
end

/-- one cell, and no junk -/
def one : Value → Bool
  | .agg _ | .tuple _ | .chan none => false
  | _ => true

def junk : Value := .chan none

inductive Blk where
  | ro (cs : List Value) (e : TypeId)
  | row (cs : List Value) (e : TypeId)
  | map (es : List MapEntry) (clock : Nat)
  | siter (s : ByteArray) (pos : Nat)
  | loop (st : LoopState) (pending : Option Code) (fn : FuncId) (tm : Tr Value) (params : List Tmp) (assign body : Code) (n : Nat)
  | dfr

structure Heap where
  next : Nat
  t : Tr Blk

def Heap.get (H : Heap) (i : Nat) : Option Blk := H.t.get i
def Heap.put (H : Heap) (i : Nat) (b : Option Blk) : Heap := ⟨H.next, H.t.put i b⟩
def Heap.new (H : Heap) (b : Option Blk) : Heap := ⟨H.next + 1, H.t.put H.next b⟩

def Heap.cells (H : Heap) (i : Nat) : Option (List Value) :=
  match H.get i with
  | some (.ro cs _) | some (.row cs _) => some cs
  | _ => none

def Heap.load (H : Heap) (a : Addr) (n : Nat) : Option (List Value) :=
  match a.spot, H.cells a.block with
  | none, some cs =>
    let l := (cs.drop a.off).take n
    if Nat.beq l.length n then some l else none
  | _, _ => none

def splice : List Value → Nat → List Value → List Value
  | cs, 0, vs => vs ++ cs.drop vs.length
  | [], _ + 1, vs => vs
  | c :: cs, n + 1, vs => c :: splice cs n vs

def Heap.store (H : Heap) (a : Addr) (vs : List Value) : Option Heap :=
  match a.spot, H.get a.block with
  | none, some (.row cs e) => if a.off + vs.length ≤ cs.length ∧ vs.all one = true then some (H.put a.block (some (.row (splice cs a.off vs) e))) else none
  | _, _ => none

def pureRun (P : Program) {α : Type} : Sem α → Option α
  | .pure a => some a
  | .program k => pureRun P (k P)
  | .mark _ k => pureRun P k
  | _ => none

def ev (tm : Tr Value) : Operand → Value
  | .tmp t => (tm.get t).getD junk
  | .const v => v
  | .global g => .pointer (some ⟨g, 0, none⟩)
  | .func f => .func (.func f) #[] #[]

inductive Dr where
  | val (v : Value) (H : Heap)
  | call (f : FuncId) (args : List Value)
  | yield (l : Nat) (args : List Value)
  | dfr (d : Deferred)
  | recov
  | panic (v : Value)

def isAgg? (P : Program) (t : TypeId) : Option Bool :=
  match P.underlying t with
  | some (.struct _) | some (.array _ _) => some true
  | some _ => some false
  | none => none

def dload (P : Program) (t : TypeId) (a : Addr) (H : Heap) : Option Value :=
  match isAgg? P t with
  | some true => (H.load a (P.cellsOf t)).map fun l => .agg ⟨l⟩
  | some false => match H.load a 1 with
    | some [v] => some v
    | _ => none
  | none => none

def dpart (P : Program) (t : TypeId) (cs : Array Value) (off : Nat) : Option Value :=
  match isAgg? P t with
  | some true => some (.agg ⟨(cs.toList.drop off).take (P.cellsOf t)⟩)
  | some false => cs.toList[off]?
  | none => none

def allFlat (ρ : Operand → Value) (o : Oper) : Bool := o.op.operands.toList.all fun x => flat (ρ x)

def dflat (P : Program) (o : Oper) (ρ : Operand → Value) (H : Heap) : Option Dr :=
  match allFlat ρ o, pureRun P (execOp ρ o) with
  | true, some (.value v) => match flat v with
    | true => some (.val v H)
    | false => none
  | _, _ => none

def nilEq : BinOp → Option Value
  | .eql => some (.bool false)
  | .neq => some (.bool true)
  | _ => none

def isIface (P : Program) (t : TypeId) : Bool := match P.underlying t with | some (.interface _) => true | _ => false
def isPtr (P : Program) (t : TypeId) : Bool := match P.underlying t with | some (.pointer _) => true | _ => false
def isSl (P : Program) (t : TypeId) : Bool := match P.underlying t with | some (.slice _) => true | _ => false
def isMp (P : Program) (t : TypeId) : Bool := match P.underlying t with | some (.map _ _) => true | _ => false
def isFn (P : Program) (t : TypeId) : Bool := match P.underlying t with | some (.func _ _ _) => true | _ => false

/-- the test of a value that is not nil against nil -/
def dnil (P : Program) (op : BinOp) (t : TypeId) (x y : Value) : Option Value :=
  match x, y with
  | .iface _ _, .nilIface | .nilIface, .iface _ _ => if isIface P t then nilEq op else none
  | .pointer (some _), .pointer none | .pointer none, .pointer (some _) => if isPtr P t then nilEq op else none
  | .slice (some _) _ _, .slice none _ _ | .slice none _ _, .slice (some _) _ _ => if isSl P t then nilEq op else none
  | .map (some _), .map none | .map none, .map (some _) => if isMp P t then nilEq op else none
  | .func (.func _) _ _, .nilFunc | .nilFunc, .func (.func _) _ _ => if isFn P t then nilEq op else none
  | _, _ => none

def intBetween (v : Value) (hi : Nat) : Option Nat :=
  match v with
  | .int _ i => if 0 ≤ i ∧ i ≤ (hi : Int) then some i.toNat else none
  | _ => none

def bound (x : Option Value) (dflt most : Nat) : Option Nat :=
  match x with
  | some v => intBetween v most
  | none => some dflt

def dslice (P : Program) (t : TypeId) (x : Value) (lo hi mx : Option Value) (H : Heap) : Option Dr :=
  match P.underlying t, x, mx with
  | some (.slice e), .slice a n c, none =>
    match P.info? e, bound hi n c with
    | some _, some h =>
      match bound lo 0 h with
      | some l =>
        if Nat.beq l 0 then some (.val (.slice a h c) H)
        else if Nat.beq l c then some (.val (.slice (some ⟨H.next, 0, none⟩) 0 0) (H.new none))
        else match a with
          | some ad => match H.get ad.block with
            | some (.row _ e') => if Nat.beq e e' && ad.spot.isNone then some (.val (.slice (some ⟨ad.block, ad.off + l * P.cellsOf e, none⟩) (h - l) (c - l)) H) else none
            | some (.ro _ _) => if ad.spot.isNone then some (.val (.slice (some ⟨ad.block, ad.off + l * P.cellsOf e, none⟩) (h - l) (c - l)) H) else none
            | _ => none
          | none => none
      | none => none
    | _, _ => none
  | _, _, _ => none

def keysOf (es : List MapEntry) : List MapEntry := es.map fun e => { e with val := .bool false }

def dfind (P : Program) (emp : Bool) (kt : TypeId) (k : Value) (es : List MapEntry) : Option (Option Nat) :=
  match flat k, pureRun P (Instr.checkKey emp 10000 kt k), pureRun P (Instr.findKey kt k (keysOf es)) with
  | true, some (), some r => some (r.map (·.1))
  | _, _, _ => none

def dlookup (P : Program) (t : TypeId) (m k : Value) (ok : Bool) (H : Heap) : Option Dr :=
  match P.underlying t with
  | some (.map kt et) =>
    let out (v : Value) (b : Bool) : Option Dr := some (.val (if ok then .tuple #[v, .bool b] else v) H)
    let zero : Option Dr := match pureRun P (zeroValue et) with
      | some z => if flat z then out z false else none
      | none => none
    match m with
    | .map none => match flat k, pureRun P (Instr.checkKey true 10000 kt k), pureRun P (Instr.findKey kt k []) with
      | true, some (), some none => zero
      | _, _, _ => none
    | .map (some r) => match H.get r with
      | some (.map es _) => match dfind P es.isEmpty kt k es with
        | some none => zero
        | some (some i) => match es[i]? with
          | some e => out e.val true
          | none => none
        | none => none
      | _ => none
    | _ => none
  | _ => none

def dupdate (P : Program) (t : TypeId) (m k v : Value) (H : Heap) : Option Dr :=
  match P.underlying t, m with
  | some (.map kt _), .map (some r) => match H.get r with
    | some (.map es clock) => match dfind P false kt k es with
      | some none => some (.val undef (H.put r (some (.map (es ++ [{ key := k, val := v, born := clock }]) (clock + 1)))))
      | some (some i) => match es[i]? with
        | some e => if Instr.sameBits 10000 e.key k then some (.val undef (H.put r (some (.map (es.set i { e with key := k, val := v }) clock)))) else none
        | none => none
      | none => none
    | _ => none
  | _, _ => none

def ddelete (P : Program) (t : TypeId) (m k : Value) (H : Heap) : Option Dr :=
  match P.underlying t, m with
  | some (.map kt _), .map (some r) => match H.get r with
    | some (.map es clock) => match dfind P es.isEmpty kt k es with
      | some none => some (.val undef H)
      | some (some i) => some (.val undef (H.put r (some (.map (es.eraseIdx i) clock))))
      | none => none
    | _ => none
  | _, _ => none

def dsource (size m : Nat) (x : Value) (H : Heap) : Option (List Value) :=
  match x with
  | .slice (some ad) _ _ => H.load ad (m * size)
  | _ => none

def most : Nat := 1048576

def zsize (i : TypeInfo) : Nat := match i.zero with | some z => z.cells.size | none => 0

/-- append(nil, make([]T, n)...) -/
def dzeros (P : Program) (t xt : TypeId) (s x : Value) (H : Heap) : Option Dr :=
  match P.underlying t, P.underlying xt, s, intBetween x most with
  | some (.slice e), some (.int _), .slice none 0 0, some n =>
    match P.info? e with
    | some i => match i.zero with
      | some z =>
        if 0 < n ∧ 0 < i.size ∧ flat z = true ∧ z.cells.size = i.size ∧ i.bytes ≤ 4096 then
          some (.val (.slice (some ⟨H.next, 0, none⟩) n n) (H.new (some (.row ((List.range (n * i.size)).map (z.cells[· % z.cells.size]!)) e))))
        else none
      | none => none
    | none => none
  | _, _, _, _ => none

def dappend (P : Program) (ts : Array TypeId) (s x : Value) (H : Heap) : Option Dr :=
  match ts.toList with
  | [t, xt] =>
    match P.underlying t, Nat.beq xt t, s, x with
    | some (.slice e), true, .slice a n _, .slice _ m _ =>
      match P.info? e with
      | some i =>
        let size := i.size
        if Nat.beq m 0 then some (.val s H)
        else if n + m ≤ most ∧ i.bytes ≤ 4096 ∧ 0 < size ∧ zsize i = size then
          match dsource size m x H with
          | some news =>
            if Nat.beq news.length (m * size) ∧ news.all one = true then
              match a with
              | none => if Nat.beq n 0 then some (.val (.slice (some ⟨H.next, 0, none⟩) m m) (H.new (some (.row news e)))) else none
              | some ad => match ad.spot, ad.off, H.get ad.block with
                | none, 0, some (.row cs e') =>
                  if Nat.beq e e' ∧ n * size ≤ cs.length ∧ (cs.take (n * size)).all one = true then
                    some (.val (.slice (some ⟨H.next, 0, none⟩) (n + m) (n + m)) ((H.put ad.block none).new (some (.row (cs.take (n * size) ++ news) e))))
                  else none
                | _, _, _ => none
            else none
          | none => none
        else none
      | none => none
    | _, _, _, _ => none
  | _ => none

def dcopy (P : Program) (ts : Array TypeId) (d x : Value) (H : Heap) : Option Dr :=
  match ts.toList with
  | t :: _ => match P.underlying t, d, x with
    | some (.slice e), .slice a n _, .slice b m c =>
      match P.info? e with
      | some _ =>
        let k := Nat.min m n
        if Nat.beq k 0 then some (.val (.int .i64 0) H) else
        match dsource (P.cellsOf e) k (.slice b m c) H, a with
        | some news, some ad => match H.store ad news with
          | some H' => some (.val (.int .i64 k) H')
          | none => none
        | _, _ => none
      | none => none
    | _, _, _ => none
  | _ => none

def bytesOf : List Value → Option (List Int)
  | [] => some []
  | .int .u8 n :: vs => (bytesOf vs).map (n :: ·)
  | _ :: _ => none

def dbytes (x : Value) (H : Heap) : Option Value :=
  match x with
  | .slice none _ _ => some (.string .empty)
  | .slice (some a) n _ => match (if Nat.beq n 0 then some [] else H.load a n) with
    | some l => (bytesOf l).map fun ns => .string (ns.foldl (fun r n => r.push (UInt8.ofNat n.toNat)) ByteArray.empty)
    | none => none
  | _ => none

def dfail (P : Program) (at_ : TypeId) (ok : Bool) : Option Value :=
  match ok, pureRun P (zeroValue at_) with
  | true, some z => if flat z then some (.tuple #[z, .bool false]) else none
  | _, _ => none

/-- an interface value's dynamic type is asked -/
def dassert (P : Program) (t : TypeId) (v : Value) (at_ : TypeId) (ok : Bool) : Option Value :=
  let holds (u : Value) : Option Value := some (if ok then .tuple #[u, .bool true] else u)
  match P.underlying at_ with
  | some (.interface want) => match P.info? t with
    | some i => match Instr.missingMethod want i.methods with
      | none => holds (.iface t v)
      | some _ => dfail P at_ ok
    | none => none
  | some _ => if Nat.beq t at_ then holds v else dfail P at_ ok
  | none => none

def dcall1 (P : Program) (f : FuncId) (args : List Value) : Option Dr :=
  match P.funcs[f]? with
  | some fn => if fn.body.isSome && !(fn.name == "runtime.NumGoroutine") then some (.call f args) else none
  | none => none

def zflat (P : Program) (t : TypeId) : Bool := match pureRun P (zeroValue t) with | some z => flat z | none => false

def dop (P : Program) (o : Oper) (ρ : Operand → Value) (H : Heap) : Option Dr :=
  match o.op with
  | .move x | .assign x => some (.val (ρ x) H)
  | .pick c a b => match ρ c with
    | .bool true => some (.val (ρ a) H)
    | .bool false => some (.val (ρ b) H)
    | _ => none
  | .alloc e => match pureRun P (zeroValue e) with
    | some z => if flat z && z.cells.toList.all one then some (.val (.pointer (some ⟨H.next, 0, none⟩)) (H.new (some (.row z.cells.toList e)))) else none
    | none => none
  | .box e x => let v := ρ x
    if v.cells.toList.all one then some (.val (.pointer (some ⟨H.next, 0, none⟩)) (H.new (some (.row v.cells.toList e)))) else none
  | .build t parts => if parts.toList.all (fun p => (ρ p.2).cells.toList.all one) && zflat P t then
      match pureRun P (Instr.build t (parts.map fun (i, x) => (i, ρ x))) with
      | some v => some (.val v H)
      | none => none
    else none
  | .buildSlice t len parts => match P.underlying t with
    | some (.slice e) => match P.info? e with
      | some i => match i.zero with
        | some z =>
          let size := i.size
          if len ≤ most ∧ len * size ≤ most ∧ flat z = true ∧ z.cells.size = size ∧ z.cells.toList.all one = true ∧ parts.toList.all (fun p => (ρ p.2).cells.toList.all one) = true then
            match Instr.fill (fun i => some (i * size, size)) ((Array.range (len * size)).map (z.cells[· % z.cells.size]!)) (parts.toList.map fun p => (p.1, ρ p.2)) with
            | some cells => some (.val (.slice (some ⟨H.next, 0, none⟩) len len) (H.new (some (.row cells.toList e))))
            | none => none
          else none
        | none => none
      | none => none
    | _ => none
  | .load t a => match ρ a with
    | .pointer (some ad) => (dload P t ad H).map (.val · H)
    | _ => none
  | .store t a x => match ρ a with
    | .pointer (some ad) => let v := ρ x
      if Nat.beq v.cells.size (P.cellsOf t) && (P.info? t).isSome then (H.store ad v.cells.toList).map (.val undef ·) else none
    | _ => none
  | .nilCheck x => match ρ x with
    | .pointer (some a) => some (.val (.pointer (some a)) H)
    | .func (.func f) a b => some (.val (.func (.func f) a b) H)
    | _ => none
  | .binOp op t x y _ => match dnil P op t (ρ x) (ρ y) with
    | some v => some (.val v H)
    | none => dflat P o ρ H
  | .unOp .. => dflat P o ρ H
  | .convert src dst x => match P.underlying src, P.underlying dst, ρ x with
    | some (.slice e), some .string, .slice a n c => match P.underlying e with
      | some (.int .u8) => (dbytes (.slice a n c) H).map (.val · H)
      | _ => none
    | _, some (.slice _), _ => none
    | _, _, _ => dflat P o ρ H
  | .makeInterface t x => match P.underlying t with
    | some (.interface _) => none
    | some _ => some (.val (.iface t (ρ x)) H)
    | none => none
  | .makeFunc fn first captured => match fn with
    | .func f => some (.val (.func (.func f) (first.map ρ) (captured.map ρ)) H)
    | _ => none
  | .makeMap _ none => some (.val (.map (some H.next)) (H.new (some (.map [] 0))))
  | .makeSlice t l c => match P.underlying t with
    | some (.slice e) => match P.info? e, intBetween (ρ c) most with
      | some i, some cap => match i.zero, intBetween (ρ l) cap with
        | some z, some len =>
          let size := i.size
          if flat z = true ∧ z.cells.size = size ∧ i.bytes ≤ 4096 ∧ z.cells.toList.all one = true then
            some (.val (.slice (some ⟨H.next, 0, none⟩) len cap) (H.new (some (.row ((List.range (cap * size)).map (z.cells[· % z.cells.size]!)) e))))
          else none
        | _, _ => none
      | _, _ => none
    | _ => none
  | .slice t x lo hi mx => match ρ x with
    | .string _ => dflat P o ρ H
    | v => dslice P t v (lo.map ρ) (hi.map ρ) (mx.map ρ) H
  | .fieldAddr s x f => match P.underlying s, ρ x with
    | some (.struct fs), .pointer (some a) => match fs.toList[f]? with
      | some fd => if a.spot.isNone && !(Nat.beq (P.cellsOf fd.type) 0) then some (.val (.pointer (some ⟨a.block, a.off + fd.offset, none⟩)) H) else none
      | none => none
    | _, _ => none
  | .field t x f => match P.underlying t, ρ x with
    | some (.struct fs), .agg cs => match fs.toList[f]? with
      | some fd => (dpart P fd.type cs fd.offset).map (.val · H)
      | none => none
    | _, _ => none
  | .indexAddr t x ix => match P.underlying t, ρ x with
    | some (.slice e), .slice (some a) n _ => match intBetween (ρ ix) (n - 1), Nat.beq n 0, a.spot, (P.info? e).isSome with
      | some i, false, none, true => some (.val (.pointer (some ⟨a.block, a.off + i * P.cellsOf e, none⟩)) H)
      | _, _, _, _ => none
    | some (.array n e), .pointer (some a) => match intBetween (ρ ix) (n - 1), Nat.beq n 0, a.spot, (P.info? e).isSome with
      | some i, false, none, true => some (.val (.pointer (some ⟨a.block, a.off + i * P.cellsOf e, none⟩)) H)
      | _, _, _, _ => none
    | _, _ => none
  | .index t x ix => match P.underlying t, ρ x with
    | some (.array n e), .agg cs => match intBetween (ρ ix) (n - 1), Nat.beq n 0 with
      | some i, false => (dpart P e cs (i * P.cellsOf e)).map (.val · H)
      | _, _ => none
    | _, _ => dflat P o ρ H
  | .lookup t m k ok => dlookup P t (ρ m) (ρ k) ok H
  | .mapUpdate t m k x => dupdate P t (ρ m) (ρ k) (ρ x) H
  | .insert t m k x => dupdate P t (ρ m) (ρ k) (ρ x) H
  | .typeAssert x xt at_ ok => match ρ x with
    | .iface t v => (dassert P t v at_ ok).map (.val · H)
    | _ => dflat P o ρ H
  | .extract t ix => match ρ t with
    | .tuple vs => (vs.toList[ix]?).map (.val · H)
    | _ => none
  | .range t x => match P.underlying t, ρ x with
    | some .string, .string s => some (.val (.pointer (some ⟨H.next, 0, none⟩)) (H.new (some (.siter s 0))))
    | _, _ => none
  | .next it true => match ρ it with
    | .pointer (some ⟨r, 0, _⟩) => match H.get r with
      | some (.siter s pos) =>
        if pos < s.size then
          let (c, width) := Utf8.decode s pos
          some (.val (.tuple #[.bool true, goInt pos, .int .i32 c]) (H.put r (some (.siter s (pos + width)))))
        else some (.val (.tuple #[.bool false]) H)
      | _ => none
    | _ => none
  | .call c => match c.callee with
    | .builtin b => match b, c.args.toList with
      | .len, [x] => match ρ x with
        | .slice _ n _ => match (c.argTypes[0]?).bind P.underlying with
          | some (.slice _) => some (.val (goInt n) H)
          | _ => none
        | .map (some r) => match (c.argTypes[0]?).bind P.underlying, H.get r with
          | some (.map _ _), some (.map es _) => some (.val (goInt es.length) H)
          | _, _ => none
        | _ => dflat P o ρ H
      | .append, [s, x] => match c.argTypes.toList with
        | [t, xt] => match dzeros P t xt (ρ s) (ρ x) H with
          | some r => some r
          | none => dappend P c.argTypes (ρ s) (ρ x) H
        | _ => none
      | .cap, _ => dflat P o ρ H
      | .copy, [d, x] => dcopy P c.argTypes (ρ d) (ρ x) H
      | .delete, [m, k] => match c.argTypes[0]? with
        | some t => ddelete P t (ρ m) (ρ k) H
        | none => none
      | .recover, [] => some .recov
      | .min, _ | .max, _ => dflat P o ρ H
      | _, _ => none
    | .value f => match ρ f with
      | .func (.func f) first captured =>
        match dcall1 P f (first.toList ++ c.args.toList.map ρ ++ captured.toList) with
        | some r => some r
        | none => dflat P o ρ H
      | .func (.yield l) first _ => some (.yield l (first.toList ++ c.args.toList.map ρ))
      | _ => none
    | _ => none
  | .defer c => match c.callee with
    | .value f => match ρ f with
      | .func (.func f) first captured => some (.dfr { target := .fn (.func f) captured, args := first ++ c.args.map ρ })
      | _ => none
    | _ => none
  | .panic x => match ρ x with
    | .iface t v => some (.panic (.iface t v))
    | _ => none
  | _ => none

/-- an operation that makes a block and looks at none: the block, and the value at the block's number -/
def dalloc (P : Program) (o : Oper) (ρ : Operand → Value) : Option (Blk × (Nat → Value)) :=
  match dop P o ρ ⟨0, .nil⟩ with
  | some (.val v H) => match H.get 0, v with
    | some B, .pointer (some ⟨0, 0, none⟩) => some (B, fun i => .pointer (some ⟨i, 0, none⟩))
    | some B, .slice (some ⟨0, 0, none⟩) n c => some (B, fun i => .slice (some ⟨i, 0, none⟩) n c)
    | some B, .map (some 0) => some (B, fun i => .map (some i))
    | _, _ => none
  | _ => none

def isAlloc (o : Oper) : Bool :=
  match o.op with
  | .alloc _ | .box .. | .buildSlice .. | .makeSlice .. | .makeMap .. | .range .. => true
  | _ => false

/- ## Code -/

inductive Ex where
  | normal
  | exit (id : Nat)
  | ret
  | panic (chain : List PanicEntry)

structure St where
  tm : Tr Value
  ds : List Deferred
  H : Heap

def St.put (s : St) (d : Option Tmp) (v : Value) (H : Heap) : St :=
  match d with
  | some d => ⟨s.tm.put d (some v), s.ds, H⟩
  | none => ⟨s.tm, s.ds, H⟩

inductive En where
  | ret (v : Value)
  | panic (chain : List PanicEntry)

def initTm : Nat → List Value → Tr Value → Tr Value
  | _, [], t => t
  | i, v :: vs, t => initTm (i + 1) vs (t.put i (some v))

def dres1 (P : Program) (tm : Tr Value) (H : Heap) : ResultVar → Option Value
  | .tmp t => some ((tm.get t).getD junk)
  | .cell a t => match tm.get a with
    | some (.pointer (some ad)) => dload P t ad H
    | _ => none

def dresL (P : Program) (tm : Tr Value) (H : Heap) : List ResultVar → Option (List Value)
  | [] => some []
  | r :: rs => match dres1 P tm H r, dresL P tm H rs with
    | some v, some vs => some (v :: vs)
    | _, _ => none

def dres (P : Program) (fn : Func) (tm : Tr Value) (H : Heap) : Option Value :=
  match dresL P tm H fn.results.toList with
  | some [v] => some v
  | some vs => some (.tuple ⟨vs⟩)
  | none => none

def dwanted (ops : Array Oper) (tm : Tr Value) (o : Oper) : Option Bool :=
  match o.guard with
  | none => some true
  | some (j, want) => match (ops[j]?).bind (·.dst) with
    | some d => match tm.get d with
      | some (.bool b) => some (b == want)
      | some (.tuple _) => some false
      | _ => none
    | none => some false

/- ## The order of a region that draws -/

def isEff (o : Oper) : Bool :=
  match o.op with
  | .call c => match c.callee with
    | .builtin b => match b with
      | .len | .min | .max | .cap => false
      | _ => true
    | _ => true
  | .store .. | .mapUpdate .. | .mapEntry .. | .entryStore .. | .next .. | .panic _ | .defer _ | .go _ | .send .. | .recv .. | .select .. | .insert .. => true
  | _ => false

def isRead (o : Oper) : Bool :=
  match o.op with
  | .load .. | .lookup .. | .convert .. | .slice .. => true
  | .call c => match c.callee with
    | .builtin .len => true
    | _ => false
  | _ => false

mutual
def veq : Value → Value → Bool
  | .bool a, .bool b => a == b
  | .int k a, .int j b => (k == j) && (a == b)
  | .float k a, .float j b => (k == j) && Nat.beq a b
  | .string a, .string b => a.data.toList == b.data.toList
  | .pointer a, .pointer b => a == b
  | .slice a n c, .slice b m d => (a == b) && Nat.beq n m && Nat.beq c d
  | .map a, .map b => a == b
  | .chan (some a), .chan (some b) => Nat.beq a b
  | .func (.func f) ⟨a⟩ ⟨b⟩, .func (.func g) ⟨c⟩ ⟨d⟩ => Nat.beq f g && veqL a c && veqL b d
  | .nilFunc, .nilFunc => true
  | .iface t v, .iface u w => Nat.beq t u && veq v w
  | .nilIface, .nilIface => true
  | .agg ⟨a⟩, .agg ⟨b⟩ => veqL a b
  | .tuple ⟨a⟩, .tuple ⟨b⟩ => veqL a b
  | _, _ => false
def veqL : List Value → List Value → Bool
  | [], [] => true
  | v :: vs, w :: ws => veq v w && veqL vs ws
  | _, _ => false
end

/-- a read's value on each of some heaps, which it leaves as they are -/
def sameOn (P : Program) (o : Oper) (ρ : Operand → Value) (v : Value) : List Heap → Bool
  | [] => true
  | H :: hs => (match dop P o ρ H with
    | some (.val u H') => veq u v && Nat.beq H'.next H.next
    | _ => false) && sameOn P o ρ v hs

/-- how many effects stand among an operation's forerunners -/
def effsIn (effs : List Nat) (m : Nat) : Nat := (effs.filter fun e => m.testBit e).length

/-- the operations of a list that are no effects, one after another: 'hs': the heaps as they stood behind each effect so far, the last one first -/
def dnon (P : Program) (ops : Array Oper) (b : Array Nat) (effs : List Nat) (base : Nat) (hs : List Heap) : List Nat → Tr Value → Heap → Option (Tr Value × Heap)
  | [], tm, H => some (tm, H)
  | i :: L, tm, H => match ops[i]? with
    | none => none
    | some o => match dwanted ops tm o with
      | none => none
      | some false => dnon P ops b effs base hs L (match o.dst with | some d => tm.put d (some undef) | none => tm) H
      | some true => match isAlloc o with
        | true => match dalloc P o (ev tm) with
          | some (B, mk) => dnon P ops b effs base hs L (match o.dst with | some d => tm.put d (some (mk (base + i))) | none => tm) (H.put (base + i) (some B))
          | none => none
        | false => match hs with
          | [] => none
          | G :: gs => match dop P o (ev tm) G with
            | some (.val v G') => match !(isRead o) || (Nat.beq G'.next G.next && sameOn P o (ev tm) v (gs.take (gs.length - effsIn effs (b.getD i 0)))) with
              | true => dnon P ops b effs base hs L (match o.dst with | some d => tm.put d (some v) | none => tm) H
              | false => none
            | _ => none

/-- the bits of a mask that another lacks -/
def pending (all : List Nat) (effs : List Nat) (m done : Nat) : List Nat := all.filter fun i => m.testBit i && !done.testBit i && !effs.contains i

/-! ### Two stores that stand in no order to each other, at a region's end -/
def twin (b : Array Nat) : List Nat → Option (Nat × Nat)
  | [e, f] => match (b.getD f 0).testBit e || Nat.ble f e with
    | true => none
    | false => some (e, f)
  | _ => none

/-- the block that a store writes -/
def stBlk (o : Oper) (ρ : Operand → Value) : Option Nat :=
  match o.op with
  | .store _ a _ => match ρ a with
    | .pointer (some p) => some p.block
    | _ => none
  | _ => none

/-- a store, no more -/
def isSt (ops : Array Oper) (e : Nat) : Bool :=
  match ops[e]? with
  | some o => o.dst.isNone && o.guard.isNone && (match o.op with | .store .. => true | _ => false)
  | none => false

def dtwin (P : Program) (ops : Array Oper) (b : Array Nat) (effs : List Nat) (base done : Nat) (hs : List Heap) (tm : Tr Value) (e f : Nat) : Option (Nat × Nat) :=
  match hs with
  | [] => none
  | G :: _ => match dnon P ops b effs base hs (pending (List.range ops.size) effs (b.getD e 0) done) tm G, dnon P ops b effs base hs (pending (List.range ops.size) effs (b.getD f 0) done) tm G, ops[e]?, ops[f]? with
    | some (t1, _), some (t2, _), some o, some o2 => match stBlk o (ev t1), stBlk o2 (ev t2) with
      | some p, some q => some (p, q)
      | _, _ => none
    | _, _, _, _ => none

def cellEq (v u : Value) : Bool := veq v u || (match v, u with | .chan none, .chan none => true | _, _ => false)
def cellsEq : List Value → List Value → Bool
  | [], [] => true
  | v :: vs, u :: us => cellEq v u && cellsEq vs us
  | _, _ => false
def blkEq : Option Blk → Option Blk → Bool
  | none, none => true
  | some (.row cs e), some (.row cs' e') => Nat.beq e e' && cellsEq cs cs'
  | some (.ro cs e), some (.ro cs' e') => Nat.beq e e' && cellsEq cs cs'
  | some (.map [] c), some (.map [] c') => Nat.beq c c'
  | _, _ => false
def slotEq : Option Value → Option Value → Bool
  | none, none => true
  | some v, some u => cellEq v u
  | _, _ => false

/-- two ends of a region tell the same -/
def agree (ops : Array Oper) (base p q : Nat) (st st' : St) : Bool :=
  ops.toList.all (fun o => match o.dst with | some d => slotEq (st.tm.get d) (st'.tm.get d) | none => true) &&
  blkEq (st.H.get p) (st'.H.get p) && blkEq (st.H.get q) (st'.H.get q) && (List.range ops.size).all fun i => blkEq (st.H.get (base + i)) (st'.H.get (base + i))

/-- one operation's outcome -/
inductive R1 where
  | val (v : Value) (ds : List Deferred) (H : Heap)
  | panic (ch : List PanicEntry) (H : Heap)

/-- a body whose first operation asks what was recovered -/
def headRegion : Code → Option (Array Oper × List Code)
  | .region _ ops false => some (ops, [])
  | .seq a b => match headRegion a with
    | some (ops, rs) => some (ops, rs ++ [b])
    | none => none
  | _ => none

def isRecover (o : Oper) : Bool :=
  match o.guard, o.op with
  | none, .call c => match c.callee, c.args.toList with
    | .builtin .recover, [] => true
    | _, _ => false
  | _, _ => false

/-- what recover answers, and the panics behind it -/
def drecov : Option (List PanicEntry) → Value × Option (List PanicEntry)
  | some (e :: older) => if e.recovered || e.goexit then (.nilIface, some (e :: older)) else (e.v, some ({ e with recovered := true } :: older))
  | m => (.nilIface, m)

def dsettle : Option (List PanicEntry) → Option (List PanicEntry)
  | some (e :: older) => if e.recovered then (match older.dropWhile (!·.goexit) with | [] => none | r => some r) else some (e :: older)
  | m => m

def dendRound (l : Nat) (jump : Option Code) (v : Value) (s : LoopState) (H : Heap) : Option (Value × Heap) :=
  match H.get l with
  | some (.loop _ _ fn tm ps as bo dd) => some (v, H.put l (some (.loop s jump fn tm ps as bo dd)))
  | _ => none

/-- operations that call nothing, in the text's order -/
def dplain (P : Program) (ops : Array Oper) : List Nat → Tr Value → Heap → Option (Tr Value × Heap)
  | [], tm, H => some (tm, H)
  | i :: rest, tm, H => match ops[i]? with
    | some o => match o.guard, dop P o (ev tm) H with
      | none, some (.val v H') => dplain P ops rest (match o.dst with | some d => tm.put d (some v) | none => tm) H'
      | _, _ => none
    | none => none

structure Ctx where
  fn : FuncId
  round : Option Nat

/-- the functions that may be run, and what is known of calls -/
structure Ok where
  mask : Nat
  K : FuncId → List Value → Heap → Option (En × Heap)
def Ok.testBit (o : Ok) (f : Nat) : Bool := o.mask.testBit f
def Ok.run (mask : Nat) : Ok := ⟨mask, fun _ _ _ => none⟩

mutual
def dcode (P : Program) (ok : Ok) : Nat → Ctx → Code → St → Option (Ex × St)
  | 0, _, _, _ => none
  | n + 1, x, c, st =>
    match c with
    | .skip | .label _ => some (.normal, st)
    | .region _ ops false => dops P ok n x ops (List.range ops.size) st
    | .region _ ops true =>
      let effs := (List.range ops.size).filter fun i => match ops[i]? with | some o => isEff o | none => false
      match ddraw P ok n x ops (Region.before ops) effs st.H.next effs 0 [⟨st.H.next + ops.size, st.H.t⟩] st.tm st.ds with
      | some st1 => some (.normal, st1)
      | none => none
    | .seq a b => match dcode P ok n x a st with
      | some (.normal, st1) => dcode P ok n x b st1
      | r => r
    | .cond c a b => match ev st.tm c with
      | .bool true => dcode P ok n x a st
      | .bool false => dcode P ok n x b st
      | _ => none
    | .block id b => match dcode P ok n x b st with
      | some (.exit j, st1) => if Nat.beq j id then some (.normal, st1) else some (.exit j, st1)
      | r => r
    | .scope b => dcode P ok n x b st
    | .loop b => match dcode P ok n x b st with
      | some (.normal, st1) => dcode P ok n x (.loop b) st1
      | r => r
    | .exit id => some (.exit id, st)
    | .ret => some (.ret, st)
    | .rangeFunc f params assign body =>
      match x.round, ev st.tm f with
      | none, .func (.func g) first captured =>
        if (dcall1 P g []).isNone then none else
        let dl := st.H.next
        let H1 := st.H.new (some .dfr)
        let l := H1.next
        let H2 := H1.new (some (.loop .ready none x.fn st.tm params.toList assign body dl))
        match dcall P ok n g (first.toList ++ [.func (.yield l) #[] #[]] ++ captured.toList) H2 with
        | some (.ret _, H3) => match H3.get l with
          | some (.loop s pend fn tm ps as bo dd) => match s with
            | .busy => none
            | _ =>
              let H4 := H3.put l (some (.loop .exhausted pend fn tm ps as bo dd))
              let st1 : St := ⟨st.tm, { target := .collected dl, args := #[] } :: st.ds, H4⟩
              match pend with
              | none => some (.normal, st1)
              | some c => dcode P ok n x c st1
          | _ => none
        | _ => none
      | _, _ => none
    | _ => none
def dseq (P : Program) (ok : Ok) : Nat → Ctx → List Code → St → Option (Ex × St)
  | 0, _, _, _ => none
  | _ + 1, _, [], st => some (.normal, st)
  | n + 1, x, c :: cs, st => match dcode P ok n x c st with
    | some (.normal, st1) => dseq P ok n x cs st1
    | r => r
def dops (P : Program) (ok : Ok) : Nat → Ctx → Array Oper → List Nat → St → Option (Ex × St)
  | 0, _, _, _, _ => none
  | _ + 1, _, _, [], st => some (.normal, st)
  | n + 1, x, ops, i :: rest, st =>
    match ops[i]? with
    | none => none
    | some o => match dwanted ops st.tm o with
      | none => none
      | some false => dops P ok n x ops rest (st.put o.dst undef st.H)
      | some true => match dop1 P ok n x o (ev st.tm) st.ds st.H with
        | some (.val v ds H) => dops P ok n x ops rest (St.put ⟨st.tm, ds, st.H⟩ o.dst v H)
        | some (.panic ch H) => some (.panic ch, ⟨st.tm, st.ds, H⟩)
        | none => none
def dop1 (P : Program) (ok : Ok) : Nat → Ctx → Oper → (Operand → Value) → List Deferred → Heap → Option R1
  | 0, _, _, _, _, _ => none
  | n + 1, x, o, ρ, ds, H =>
    match dop P o ρ H with
    | some (.val v H') => some (.val v ds H')
    | some (.call f args) => match dcall P ok n f args H with
      | some (.ret v, H') => some (.val v ds H')
      | some (.panic ch, H') => some (.panic ch H')
      | none => none
    | some (.yield l args) => match dround P ok n l args H with
      | some (v, H') => some (.val v ds H')
      | none => none
    | some (.dfr d) => match x.round with
      | none => some (.val undef (d :: ds) H)
      | some _ => none
    | some (.panic v) => some (.panic [{ v, recovered := false }] H)
    | _ => none
def ddraw (P : Program) (ok : Ok) : Nat → Ctx → Array Oper → Array Nat → List Nat → Nat → List Nat → Nat → List Heap → Tr Value → List Deferred → Option St
  | 0, _, _, _, _, _, _, _, _, _, _ => none
  | n + 1, x, ops, b, effs, base, es, done, hs, tm, ds =>
    match twin b es with
    | none => dstage P ok n x ops b effs base es done hs tm ds
    | some (e, f) => match dstage P ok n x ops b effs base [e, f] done hs tm ds, dstage P ok n x ops b effs base [f, e] done hs tm ds with
      | some st, some st' => match dtwin P ops b effs base done hs tm e f with
        | some (p, q) => if agree ops base p q st st' then some st else none
        | none => none
      | _, _ => none
/-- one stage of a region that draws -/
def dstage (P : Program) (ok : Ok) : Nat → Ctx → Array Oper → Array Nat → List Nat → Nat → List Nat → Nat → List Heap → Tr Value → List Deferred → Option St
  | 0, _, _, _, _, _, _, _, _, _, _ => none
  | n + 1, x, ops, b, effs, base, es, done, hs, tm, ds =>
    match hs with
    | [] => none
    | G :: _ => match es with
      | [] => match dnon P ops b effs base hs ((List.range ops.size).filter fun i => !done.testBit i && !effs.contains i) tm G with
        | some (tm1, H1) => some ⟨tm1, ds, H1⟩
        | none => none
      | e :: es =>
        let m := b.getD e 0
        match dnon P ops b effs base hs (pending (List.range ops.size) effs m done) tm G with
        | none => none
        | some (tm1, H1) => match ops[e]? with
          | none => none
          | some o =>
            let done1 := done ||| m ||| 2 ^ e
            match dwanted ops tm1 o with
            | none => none
            | some false => ddraw P ok n x ops b effs base es done1 (H1 :: hs) (match o.dst with | some d => tm1.put d (some undef) | none => tm1) ds
            | some true => match dop1 P ok n x o (ev tm1) ds H1 with
              | some (.val v ds1 H2) => ddraw P ok n x ops b effs base es done1 (H2 :: hs) (match o.dst with | some d => tm1.put d (some v) | none => tm1) ds1
              | _ => none
def dcall (P : Program) (ok : Ok) : Nat → FuncId → List Value → Heap → Option (En × Heap)
  | 0, _, _, _ => none
  | n + 1, f, args, H =>
    match ok.K f args H with
    | some r => some r
    | none => match P.funcs[f]?, ok.testBit f with
      | some fn, true => match fn.body with
        | some c => match dcode P ok n ⟨f, none⟩ c ⟨initTm 0 args .nil, [], H⟩ with
          | some (.normal, st) | some (.ret, st) => dleave P ok n fn st.tm st.ds none st.H
          | some (.panic ch, st) => dleave P ok n fn st.tm st.ds (some ch) st.H
          | _ => none
        | none => none
      | _, _ => none
/-- the deferred calls of an activation that is being left -/
def dleave (P : Program) (ok : Ok) : Nat → Func → Tr Value → List Deferred → Option (List PanicEntry) → Heap → Option (En × Heap)
  | 0, _, _, _, _, _ => none
  | _ + 1, fn, tm, [], none, H => match dres P fn tm H with
    | some v => some (.ret v, H)
    | none => none
  | _ + 1, _, _, [], some ch, H => some (.panic ch, H)
  | n + 1, fn, tm, d :: ds, m, H => match d.target with
    | .collected l => match H.get l with
      | some .dfr => dleave P ok n fn tm ds m (H.put l none)
      | _ => none
    | .fn (.func g) captured => match P.funcs[g]?, ok.testBit g && (dcall1 P g []).isSome with
      | some gn, true => match gn.body with
        | some c => match headRegion c with
          | some (ops, rest) => match ops[0]? with
            | some o => if isRecover o then
                let r := drecov m
                let st0 := St.put ⟨initTm 0 (d.args.toList ++ captured.toList) .nil, [], H⟩ o.dst r.1 H
                match dplain P ops ((List.range ops.size).drop 1) st0.tm H with
                | some (tm1, H1) => match dseq P ok n ⟨g, none⟩ rest ⟨tm1, [], H1⟩ with
                  | some (.normal, st2) | some (.ret, st2) => if st2.ds.isEmpty && gn.results.isEmpty then dleave P ok n fn tm ds (dsettle r.2) st2.H else none
                  | _ => none
                | none => none
              else none
            | none => none
          | none => none
        | none => none
      | _, _ => none
    | _ => none
/-- a round of a range over a function -/
def dround (P : Program) (ok : Ok) : Nat → Nat → List Value → Heap → Option (Value × Heap)
  | 0, _, _, _ => none
  | n + 1, l, args, H => match H.get l with
    | some (.loop .ready pend fn tm ps as bo dd) =>
      if Nat.beq args.length ps.length then
        let tm1 := (ps.zip args).foldl (fun t p => t.put p.1 (some p.2)) tm
        match dcode P ok n ⟨fn, some l⟩ as ⟨tm1, [], H⟩ with
        | some (.normal, st1) => match st1.H.get l with
          | some (.loop .ready pend1 fn1 tm1 ps1 as1 bo1 d1) =>
            match dcode P ok n ⟨fn, some l⟩ bo ⟨st1.tm, st1.ds, st1.H.put l (some (.loop .busy pend1 fn1 tm1 ps1 as1 bo1 d1))⟩ with
            | some (.normal, st2) => dendRound l none (.bool true) .ready st2.H
            | some (.ret, st2) => dendRound l (some .ret) (.bool false) .done st2.H
            | some (.exit id, st2) => dendRound l (some (.exit id)) (.bool false) .done st2.H
            | _ => none
          | _ => none
        | _ => none
      else none
    | _ => none
end

end Go.Hb
