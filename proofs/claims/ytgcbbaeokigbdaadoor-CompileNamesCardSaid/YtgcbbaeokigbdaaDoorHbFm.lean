/- The abstract machine in small pieces (made by genfm.py out of its text): the same runs, cheap for the kernel. -/
import Derived.Test.YtgcbbaeokigbdaaDoorHbSop
namespace Go.Hb
open Go Go.RowKit

def o1 (P : Program) (o : Oper) (ρ : Operand → Value) (H : Heap) : Option Dr :=
  match o.op with
  | .pick c a b => match ρ c with
    | .bool true => some (.val (ρ a) H)
    | .bool false => some (.val (ρ b) H)
    | _ => none
  | _ => none

def o2 (P : Program) (o : Oper) (ρ : Operand → Value) (H : Heap) : Option Dr :=
  match o.op with
  | .alloc e => match pureRun P (zeroValue e) with
    | some z => if flat z && z.cells.toList.all one then some (.val (.pointer (some ⟨H.next, 0, none⟩)) (H.new (some (.row z.cells.toList e)))) else none
    | none => none
  | _ => none

def o3 (P : Program) (o : Oper) (ρ : Operand → Value) (H : Heap) : Option Dr :=
  match o.op with
  | .box e x => let v := ρ x
    if v.cells.toList.all one then some (.val (.pointer (some ⟨H.next, 0, none⟩)) (H.new (some (.row v.cells.toList e)))) else none
  | _ => none

def o4 (P : Program) (o : Oper) (ρ : Operand → Value) (H : Heap) : Option Dr :=
  match o.op with
  | .build t parts => if parts.toList.all (fun p => (ρ p.2).cells.toList.all one) && zflat P t then
      match pureRun P (Instr.build t (parts.map fun (i, x) => (i, ρ x))) with
      | some v => some (.val v H)
      | none => none
    else none
  | _ => none

def o5 (P : Program) (o : Oper) (ρ : Operand → Value) (H : Heap) : Option Dr :=
  match o.op with
  | .buildSlice t len parts => match P.underlying t with
    | some (.slice e) => match P.info? e with
      | some i => match i.zero with
        | some z =>
          let size := i.size
          if len ≤ most ∧ len * size ≤ most ∧ flat z = true ∧ z.cells.size = size ∧ z.cells.toList.all one = true ∧ parts.toList.all (fun p => (ρ p.2).cells.toList.all one) = true then
            match Instr.fill (fun i => some (i * size, size)) ((Array.range (len * size)).map (z.cells[· % z.cells.size]!)) (parts.toList.map fun p => (p.1, ρ p.2)) with
            | some cells => some (.val (.slice (some ⟨H.next, 0, none⟩) len len) (H.new (some (.row cells.toList e))))
            | none => none
          else none
        | none => none
      | none => none
    | _ => none
  | _ => none

def o6 (P : Program) (o : Oper) (ρ : Operand → Value) (H : Heap) : Option Dr :=
  match o.op with
  | .load t a => match ρ a with
    | .pointer (some ad) => (dload P t ad H).map (.val · H)
    | _ => none
  | _ => none

def o7 (P : Program) (o : Oper) (ρ : Operand → Value) (H : Heap) : Option Dr :=
  match o.op with
  | .store t a x => match ρ a with
    | .pointer (some ad) => let v := ρ x
      if Nat.beq v.cells.size (P.cellsOf t) && (P.info? t).isSome then (H.store ad v.cells.toList).map (.val undef ·) else none
    | _ => none
  | _ => none

def o8 (P : Program) (o : Oper) (ρ : Operand → Value) (H : Heap) : Option Dr :=
  match o.op with
  | .nilCheck x => match ρ x with
    | .pointer (some a) => some (.val (.pointer (some a)) H)
    | .func (.func f) a b => some (.val (.func (.func f) a b) H)
    | _ => none
  | _ => none

def o9 (P : Program) (o : Oper) (ρ : Operand → Value) (H : Heap) : Option Dr :=
  match o.op with
  | .binOp op t x y _ => match dnil P op t (ρ x) (ρ y) with
    | some v => some (.val v H)
    | none => dflat P o ρ H
  | _ => none

def o11 (P : Program) (o : Oper) (ρ : Operand → Value) (H : Heap) : Option Dr :=
  match o.op with
  | .convert src dst x => match P.underlying src, P.underlying dst, ρ x with
    | some (.slice e), some .string, .slice a n c => match P.underlying e with
      | some (.int .u8) => (dbytes (.slice a n c) H).map (.val · H)
      | _ => none
    | _, some (.slice _), _ => none
    | _, _, _ => dflat P o ρ H
  | _ => none

def o12 (P : Program) (o : Oper) (ρ : Operand → Value) (H : Heap) : Option Dr :=
  match o.op with
  | .makeInterface t x => match P.underlying t with
    | some (.interface _) => none
    | some _ => some (.val (.iface t (ρ x)) H)
    | none => none
  | _ => none

def o13 (P : Program) (o : Oper) (ρ : Operand → Value) (H : Heap) : Option Dr :=
  match o.op with
  | .makeFunc fn first captured => match fn with
    | .func f => some (.val (.func (.func f) (first.map ρ) (captured.map ρ)) H)
    | _ => none
  | _ => none

def o14 (P : Program) (o : Oper) (ρ : Operand → Value) (H : Heap) : Option Dr :=
  match o.op with
  | .makeMap _ none => some (.val (.map (some H.next)) (H.new (some (.map [] 0))))
  | _ => none

def o15 (P : Program) (o : Oper) (ρ : Operand → Value) (H : Heap) : Option Dr :=
  match o.op with
  | .makeSlice t l c => match P.underlying t with
    | some (.slice e) => match P.info? e, intBetween (ρ c) most with
      | some i, some cap => match i.zero, intBetween (ρ l) cap with
        | some z, some len =>
          let size := i.size
          if flat z = true ∧ z.cells.size = size ∧ i.bytes ≤ 4096 ∧ z.cells.toList.all one = true then
            some (.val (.slice (some ⟨H.next, 0, none⟩) len cap) (H.new (some (.row ((List.range (cap * size)).map (z.cells[· % z.cells.size]!)) e))))
          else none
        | _, _ => none
      | _, _ => none
    | _ => none
  | _ => none

def o16 (P : Program) (o : Oper) (ρ : Operand → Value) (H : Heap) : Option Dr :=
  match o.op with
  | .slice t x lo hi mx => match ρ x with
    | .string _ => dflat P o ρ H
    | v => dslice P t v (lo.map ρ) (hi.map ρ) (mx.map ρ) H
  | _ => none

def o17 (P : Program) (o : Oper) (ρ : Operand → Value) (H : Heap) : Option Dr :=
  match o.op with
  | .fieldAddr s x f => match P.underlying s, ρ x with
    | some (.struct fs), .pointer (some a) => match fs.toList[f]? with
      | some fd => if a.spot.isNone && !(Nat.beq (P.cellsOf fd.type) 0) then some (.val (.pointer (some ⟨a.block, a.off + fd.offset, none⟩)) H) else none
      | none => none
    | _, _ => none
  | _ => none

def o18 (P : Program) (o : Oper) (ρ : Operand → Value) (H : Heap) : Option Dr :=
  match o.op with
  | .field t x f => match P.underlying t, ρ x with
    | some (.struct fs), .agg cs => match fs.toList[f]? with
      | some fd => (dpart P fd.type cs fd.offset).map (.val · H)
      | none => none
    | _, _ => none
  | _ => none

def o19 (P : Program) (o : Oper) (ρ : Operand → Value) (H : Heap) : Option Dr :=
  match o.op with
  | .indexAddr t x ix => match P.underlying t, ρ x with
    | some (.slice e), .slice (some a) n _ => match intBetween (ρ ix) (n - 1), Nat.beq n 0, a.spot, (P.info? e).isSome with
      | some i, false, none, true => some (.val (.pointer (some ⟨a.block, a.off + i * P.cellsOf e, none⟩)) H)
      | _, _, _, _ => none
    | some (.array n e), .pointer (some a) => match intBetween (ρ ix) (n - 1), Nat.beq n 0, a.spot, (P.info? e).isSome with
      | some i, false, none, true => some (.val (.pointer (some ⟨a.block, a.off + i * P.cellsOf e, none⟩)) H)
      | _, _, _, _ => none
    | _, _ => none
  | _ => none

def o20 (P : Program) (o : Oper) (ρ : Operand → Value) (H : Heap) : Option Dr :=
  match o.op with
  | .index t x ix => match P.underlying t, ρ x with
    | some (.array n e), .agg cs => match intBetween (ρ ix) (n - 1), Nat.beq n 0 with
      | some i, false => (dpart P e cs (i * P.cellsOf e)).map (.val · H)
      | _, _ => none
    | _, _ => dflat P o ρ H
  | _ => none

def o24 (P : Program) (o : Oper) (ρ : Operand → Value) (H : Heap) : Option Dr :=
  match o.op with
  | .typeAssert x xt at_ ok => match ρ x with
    | .iface t v => (dassert P t v at_ ok).map (.val · H)
    | _ => dflat P o ρ H
  | _ => none

def o25 (P : Program) (o : Oper) (ρ : Operand → Value) (H : Heap) : Option Dr :=
  match o.op with
  | .extract t ix => match ρ t with
    | .tuple vs => (vs.toList[ix]?).map (.val · H)
    | _ => none
  | _ => none

def o26 (P : Program) (o : Oper) (ρ : Operand → Value) (H : Heap) : Option Dr :=
  match o.op with
  | .range t x => match P.underlying t, ρ x with
    | some .string, .string s => some (.val (.pointer (some ⟨H.next, 0, none⟩)) (H.new (some (.siter s 0))))
    | _, _ => none
  | _ => none

def o27 (P : Program) (o : Oper) (ρ : Operand → Value) (H : Heap) : Option Dr :=
  match o.op with
  | .next it true => match ρ it with
    | .pointer (some ⟨r, 0, _⟩) => match H.get r with
      | some (.siter s pos) =>
        if pos < s.size then
          let (c, width) := Utf8.decode s pos
          some (.val (.tuple #[.bool true, goInt pos, .int .i32 c]) (H.put r (some (.siter s (pos + width)))))
        else some (.val (.tuple #[.bool false]) H)
      | _ => none
    | _ => none
  | _ => none

def o28 (P : Program) (o : Oper) (ρ : Operand → Value) (H : Heap) : Option Dr :=
  match o.op with
  | .call c => match c.callee with
    | .builtin b => match b, c.args.toList with
      | .len, [x] => match ρ x with
        | .slice _ n _ => match (c.argTypes[0]?).bind P.underlying with
          | some (.slice _) => some (.val (goInt n) H)
          | _ => none
        | .map (some r) => match (c.argTypes[0]?).bind P.underlying, H.get r with
          | some (.map _ _), some (.map es _) => some (.val (goInt es.length) H)
          | _, _ => none
        | _ => dflat P o ρ H
      | .append, [s, x] => match c.argTypes.toList with
        | [t, xt] => match dzeros P t xt (ρ s) (ρ x) H with
          | some r => some r
          | none => dappend P c.argTypes (ρ s) (ρ x) H
        | _ => none
      | .cap, _ => dflat P o ρ H
      | .copy, [d, x] => dcopy P c.argTypes (ρ d) (ρ x) H
      | .delete, [m, k] => match c.argTypes[0]? with
        | some t => ddelete P t (ρ m) (ρ k) H
        | none => none
      | .recover, [] => some .recov
      | .min, _ | .max, _ => dflat P o ρ H
      | _, _ => none
    | .value f => match ρ f with
      | .func (.func f) first captured =>
        match dcall1 P f (first.toList ++ c.args.toList.map ρ ++ captured.toList) with
        | some r => some r
        | none => dflat P o ρ H
      | .func (.yield l) first _ => some (.yield l (first.toList ++ c.args.toList.map ρ))
      | _ => none
    | _ => none
  | _ => none

def o29 (P : Program) (o : Oper) (ρ : Operand → Value) (H : Heap) : Option Dr :=
  match o.op with
  | .defer c => match c.callee with
    | .value f => match ρ f with
      | .func (.func f) first captured => some (.dfr { target := .fn (.func f) captured, args := first ++ c.args.map ρ })
      | _ => none
    | _ => none
  | _ => none

def o30 (P : Program) (o : Oper) (ρ : Operand → Value) (H : Heap) : Option Dr :=
  match o.op with
  | .panic x => match ρ x with
    | .iface t v => some (.panic (.iface t v))
    | _ => none
  | _ => none

/-- plain arithmetic of integers of one kind -/
def fInt (op : BinOp) (k : IntKind) (a b : Int) : Option Value :=
  match op with
  | .add => some (.int k (k.wrap (a + b)))
  | .sub => some (.int k (k.wrap (a - b)))
  | .mul => some (.int k (k.wrap (a * b)))
  | .eql => some (.bool (a == b))
  | .neq => some (.bool (a != b))
  | .lss => some (.bool (decide (a < b)))
  | .leq => some (.bool (decide (a ≤ b)))
  | .gtr => some (.bool (decide (a > b)))
  | .geq => some (.bool (decide (a ≥ b)))
  | _ => none

def fop0 (P : Program) (o : Oper) (ρ : Operand → Value) (H : Heap) : Option Dr :=
  match o.op with
  | .move x | .assign x => some (.val (ρ x) H)
  | .pick c a b => o1 P o ρ H
  | .alloc e => o2 P o ρ H
  | .box e x => o3 P o ρ H
  | .build t parts => o4 P o ρ H
  | .buildSlice t len parts => o5 P o ρ H
  | .load t a => o6 P o ρ H
  | .store t a x => o7 P o ρ H
  | .nilCheck x => o8 P o ρ H
  | .binOp op t x y _ => o9 P o ρ H
  | .unOp .. => dflat P o ρ H
  | .convert src dst x => o11 P o ρ H
  | .makeInterface t x => o12 P o ρ H
  | .makeFunc fn first captured => o13 P o ρ H
  | .makeMap _ none => o14 P o ρ H
  | .makeSlice t l c => o15 P o ρ H
  | .slice t x lo hi mx => o16 P o ρ H
  | .fieldAddr s x f => o17 P o ρ H
  | .field t x f => o18 P o ρ H
  | .indexAddr t x ix => o19 P o ρ H
  | .index t x ix => o20 P o ρ H
  | .lookup t m k ok => dlookup P t (ρ m) (ρ k) ok H
  | .mapUpdate t m k x => dupdate P t (ρ m) (ρ k) (ρ x) H
  | .insert t m k x => dupdate P t (ρ m) (ρ k) (ρ x) H
  | .typeAssert x xt at_ ok => o24 P o ρ H
  | .extract t ix => o25 P o ρ H
  | .range t x => o26 P o ρ H
  | .next it true => o27 P o ρ H
  | .call c => o28 P o ρ H
  | .defer c => o29 P o ρ H
  | .panic x => o30 P o ρ H
  | _ => none

theorem fop0_eq (P : Program) (o : Oper) (ρ : Operand → Value) (H : Heap) : fop0 P o ρ H = dop P o ρ H := by
  obtain ⟨dst, op, ty, pos, af, g⟩ := o
  cases op <;> first | rfl | (rename_i a b; cases b <;> rfl)

def fBin (P : Program) (o : Oper) (ρ : Operand → Value) (H : Heap) (op : BinOp) (x y : Value) : Option Dr :=
  match x, y with
  | .int k a, .int k' b => match Nat.beq k.ctorIdx k'.ctorIdx, fInt op k a b with
    | true, some v => some (.val v H)
    | _, _ => fop0 P o ρ H
  | _, _ => fop0 P o ρ H

def fop (P : Program) (o : Oper) (ρ : Operand → Value) (H : Heap) : Option Dr :=
  match o.op with
  | .binOp op _ x y _ => fBin P o ρ H op (ρ x) (ρ y)
  | _ => fop0 P o ρ H

theorem fBin_eq {P : Program} {d : Option Tmp} {ty : TypeId} {pos : String} {af : Array Edge} {g : Option (Nat × Bool)} {ρ : Operand → Value} {H : Heap} {op : BinOp} {t u : TypeId} {x y : Operand} :
    fBin P ⟨d, .binOp op t x y u, ty, pos, af, g⟩ ρ H op (ρ x) (ρ y) = dop P ⟨d, .binOp op t x y u, ty, pos, af, g⟩ ρ H := by
  unfold fBin
  split
  · rename_i k a k' b hx hy
    split
    · rename_i v hk hv
      rw [Nat.beq_eq] at hk
      have hkk : k = k' := by cases k <;> cases k' <;> first | rfl | (simp [IntKind.ctorIdx] at hk)
      subst hkk
      show _ = dBin P op t x y (ρ x) (ρ y) H
      rw [hx, hy]
      unfold fInt at hv
      split at hv <;> cases hv
      all_goals (simp [dBin, dnil, flat, eqGuard, binOp, Op.intArith, Op.intCmp, Sem.bind]; rfl)
    · exact fop0_eq _ _ _ _
  · exact fop0_eq _ _ _ _

theorem fop_eq (P : Program) (o : Oper) (ρ : Operand → Value) (H : Heap) : fop P o ρ H = dop P o ρ H := by
  obtain ⟨dst, op, ty, pos, af, g⟩ := o
  cases op <;> first | exact fBin_eq | (unfold fop; exact fop0_eq _ _ _ _)

/-- the machine's functions, with so much fuel -/
structure Rec where
  code : Ctx → Code → St → Option (Ex × St)
  seq : Ctx → List Code → St → Option (Ex × St)
  ops : Ctx → Array Oper → List Nat → St → Option (Ex × St)
  op1 : Ctx → Oper → (Operand → Value) → List Deferred → Heap → Option R1
  draw : Ctx → Array Oper → Array Nat → List Nat → Nat → List Nat → Nat → List Heap → Tr Value → List Deferred → Option St
  stage : Ctx → Array Oper → Array Nat → List Nat → Nat → List Nat → Nat → List Heap → Tr Value → List Deferred → Option St
  call : FuncId → List Value → Heap → Option (En × Heap)
  leave : Func → Tr Value → List Deferred → Option (List PanicEntry) → Heap → Option (En × Heap)
  round : Nat → List Value → Heap → Option (Value × Heap)

def codeF (P : Program) (ok : Ok) (rr : Rec) : Ctx → Code → St → Option (Ex × St)
  | x, c, st =>
    match c with
    | .skip | .label _ => some (.normal, st)
    | .region _ ops false => rr.ops x ops (List.range ops.size) st
    | .region _ ops true =>
      let effs := (List.range ops.size).filter fun i => match ops[i]? with | some o => isEff o | none => false
      match rr.draw x ops (Region.before ops) effs st.H.next effs 0 [⟨st.H.next + ops.size, st.H.t⟩] st.tm st.ds with
      | some st1 => some (.normal, st1)
      | none => none
    | .seq a b => match rr.code x a st with
      | some (.normal, st1) => rr.code x b st1
      | r => r
    | .cond c a b => match ev st.tm c with
      | .bool true => rr.code x a st
      | .bool false => rr.code x b st
      | _ => none
    | .block id b => match rr.code x b st with
      | some (.exit j, st1) => if Nat.beq j id then some (.normal, st1) else some (.exit j, st1)
      | r => r
    | .scope b => rr.code x b st
    | .loop b => match rr.code x b st with
      | some (.normal, st1) => rr.code x (.loop b) st1
      | r => r
    | .exit id => some (.exit id, st)
    | .ret => some (.ret, st)
    | .rangeFunc f params assign body =>
      match x.round, ev st.tm f with
      | none, .func (.func g) first captured =>
        if (dcall1 P g []).isNone then none else
        let dl := st.H.next
        let H1 := st.H.new (some .dfr)
        let l := H1.next
        let H2 := H1.new (some (.loop .ready none x.fn st.tm params.toList assign body dl))
        match rr.call g (first.toList ++ [.func (.yield l) #[] #[]] ++ captured.toList) H2 with
        | some (.ret _, H3) => match H3.get l with
          | some (.loop s pend fn tm ps as bo dd) => match s with
            | .busy => none
            | _ =>
              let H4 := H3.put l (some (.loop .exhausted pend fn tm ps as bo dd))
              let st1 : St := ⟨st.tm, { target := .collected dl, args := #[] } :: st.ds, H4⟩
              match pend with
              | none => some (.normal, st1)
              | some c => rr.code x c st1
          | _ => none
        | _ => none
      | _, _ => none
    | _ => none

def seqF (P : Program) (ok : Ok) (rr : Rec) : Ctx → List Code → St → Option (Ex × St)
  | _, [], st => some (.normal, st)
  | x, c :: cs, st => match rr.code x c st with
    | some (.normal, st1) => rr.seq x cs st1
    | r => r

def opsF (P : Program) (ok : Ok) (rr : Rec) : Ctx → Array Oper → List Nat → St → Option (Ex × St)
  | _, _, [], st => some (.normal, st)
  | x, ops, i :: rest, st =>
    match ops[i]? with
    | none => none
    | some o => match dwanted ops st.tm o with
      | none => none
      | some false => rr.ops x ops rest (st.put o.dst undef st.H)
      | some true => match rr.op1 x o (ev st.tm) st.ds st.H with
        | some (.val v ds H) => rr.ops x ops rest (St.put ⟨st.tm, ds, st.H⟩ o.dst v H)
        | some (.panic ch H) => some (.panic ch, ⟨st.tm, st.ds, H⟩)
        | none => none

def op1F (P : Program) (ok : Ok) (rr : Rec) : Ctx → Oper → (Operand → Value) → List Deferred → Heap → Option R1
  | x, o, ρ, ds, H =>
    match fop P o ρ H with
    | some (.val v H') => some (.val v ds H')
    | some (.call f args) => match rr.call f args H with
      | some (.ret v, H') => some (.val v ds H')
      | some (.panic ch, H') => some (.panic ch H')
      | none => none
    | some (.yield l args) => match rr.round l args H with
      | some (v, H') => some (.val v ds H')
      | none => none
    | some (.dfr d) => match x.round with
      | none => some (.val undef (d :: ds) H)
      | some _ => none
    | some (.panic v) => some (.panic [{ v, recovered := false }] H)
    | _ => none

def drawF (P : Program) (ok : Ok) (rr : Rec) : Ctx → Array Oper → Array Nat → List Nat → Nat → List Nat → Nat → List Heap → Tr Value → List Deferred → Option St
  | x, ops, b, effs, base, es, done, hs, tm, ds =>
    match twin b es with
    | none => rr.stage x ops b effs base es done hs tm ds
    | some (e, f) => match rr.stage x ops b effs base [e, f] done hs tm ds, rr.stage x ops b effs base [f, e] done hs tm ds with
      | some st, some st' => match dtwin P ops b effs base done hs tm e f with
        | some (p, q) => if agree ops base p q st st' then some st else none
        | none => none
      | _, _ => none

def stageF (P : Program) (ok : Ok) (rr : Rec) : Ctx → Array Oper → Array Nat → List Nat → Nat → List Nat → Nat → List Heap → Tr Value → List Deferred → Option St
  | x, ops, b, effs, base, es, done, hs, tm, ds =>
    match hs with
    | [] => none
    | G :: _ => match es with
      | [] => match dnon P ops b effs base hs ((List.range ops.size).filter fun i => !done.testBit i && !effs.contains i) tm G with
        | some (tm1, H1) => some ⟨tm1, ds, H1⟩
        | none => none
      | e :: es =>
        let m := b.getD e 0
        match dnon P ops b effs base hs (pending (List.range ops.size) effs m done) tm G with
        | none => none
        | some (tm1, H1) => match ops[e]? with
          | none => none
          | some o =>
            let done1 := done ||| m ||| 2 ^ e
            match dwanted ops tm1 o with
            | none => none
            | some false => rr.draw x ops b effs base es done1 (H1 :: hs) (match o.dst with | some d => tm1.put d (some undef) | none => tm1) ds
            | some true => match rr.op1 x o (ev tm1) ds H1 with
              | some (.val v ds1 H2) => rr.draw x ops b effs base es done1 (H2 :: hs) (match o.dst with | some d => tm1.put d (some v) | none => tm1) ds1
              | _ => none

def callF (P : Program) (ok : Ok) (rr : Rec) : FuncId → List Value → Heap → Option (En × Heap)
  | f, args, H =>
    match ok.K f args H with
    | some r => some r
    | none => match P.funcs[f]?, ok.testBit f with
      | some fn, true => match fn.body with
        | some c => match rr.code ⟨f, none⟩ c ⟨initTm 0 args .nil, [], H⟩ with
          | some (.normal, st) | some (.ret, st) => rr.leave fn st.tm st.ds none st.H
          | some (.panic ch, st) => rr.leave fn st.tm st.ds (some ch) st.H
          | _ => none
        | none => none
      | _, _ => none

def leaveF (P : Program) (ok : Ok) (rr : Rec) : Func → Tr Value → List Deferred → Option (List PanicEntry) → Heap → Option (En × Heap)
  | fn, tm, [], none, H => match dres P fn tm H with
    | some v => some (.ret v, H)
    | none => none
  | _, _, [], some ch, H => some (.panic ch, H)
  | fn, tm, d :: ds, m, H => match d.target with
    | .collected l => match H.get l with
      | some .dfr => rr.leave fn tm ds m (H.put l none)
      | _ => none
    | .fn (.func g) captured => match P.funcs[g]?, ok.testBit g && (dcall1 P g []).isSome with
      | some gn, true => match gn.body with
        | some c => match headRegion c with
          | some (ops, rest) => match ops[0]? with
            | some o => if isRecover o then
                let r := drecov m
                let st0 := St.put ⟨initTm 0 (d.args.toList ++ captured.toList) .nil, [], H⟩ o.dst r.1 H
                match dplain P ops ((List.range ops.size).drop 1) st0.tm H with
                | some (tm1, H1) => match rr.seq ⟨g, none⟩ rest ⟨tm1, [], H1⟩ with
                  | some (.normal, st2) | some (.ret, st2) => if st2.ds.isEmpty && gn.results.isEmpty then rr.leave fn tm ds (dsettle r.2) st2.H else none
                  | _ => none
                | none => none
              else none
            | none => none
          | none => none
        | none => none
      | _, _ => none
    | _ => none

def roundF (P : Program) (ok : Ok) (rr : Rec) : Nat → List Value → Heap → Option (Value × Heap)
  | l, args, H => match H.get l with
    | some (.loop .ready pend fn tm ps as bo dd) =>
      if Nat.beq args.length ps.length then
        let tm1 := (ps.zip args).foldl (fun t p => t.put p.1 (some p.2)) tm
        match rr.code ⟨fn, some l⟩ as ⟨tm1, [], H⟩ with
        | some (.normal, st1) => match st1.H.get l with
          | some (.loop .ready pend1 fn1 tm1 ps1 as1 bo1 d1) =>
            match rr.code ⟨fn, some l⟩ bo ⟨st1.tm, st1.ds, st1.H.put l (some (.loop .busy pend1 fn1 tm1 ps1 as1 bo1 d1))⟩ with
            | some (.normal, st2) => dendRound l none (.bool true) .ready st2.H
            | some (.ret, st2) => dendRound l (some .ret) (.bool false) .done st2.H
            | some (.exit id, st2) => dendRound l (some (.exit id)) (.bool false) .done st2.H
            | _ => none
          | _ => none
        | _ => none
      else none
    | _ => none

def Rec.none : Rec := ⟨fun _ _ _ => Option.none, fun _ _ _ => Option.none, fun _ _ _ _ => Option.none, fun _ _ _ _ _ => Option.none, fun _ _ _ _ _ _ _ _ _ _ => Option.none, fun _ _ _ _ _ _ _ _ _ _ => Option.none, fun _ _ _ => Option.none, fun _ _ _ _ _ => Option.none, fun _ _ _ => Option.none⟩
def Rec.next (P : Program) (ok : Ok) (r : Rec) : Rec := ⟨codeF P ok r, seqF P ok r, opsF P ok r, op1F P ok r, drawF P ok r, stageF P ok r, callF P ok r, leaveF P ok r, roundF P ok r⟩
noncomputable def frun (P : Program) (ok : Ok) (n : Nat) : Rec := Nat.rec Rec.none (fun _ r => Rec.next P ok r) n

theorem fop_fun (P : Program) : fop P = dop P := by funext o ρ H; exact fop_eq P o ρ H

theorem codeF_eq (P : Program) (ok : Ok) (n : Nat) : codeF P ok ⟨dcode P ok n, dseq P ok n, dops P ok n, dop1 P ok n, ddraw P ok n, dstage P ok n, dcall P ok n, dleave P ok n, dround P ok n⟩ = dcode P ok (n + 1) := by
  funext a0 a1 a2
  cases a1 with
  | region i o d => cases d <;> (simp only [codeF, dcode]; try rfl)
  | _ => simp only [codeF, dcode]; try rfl

theorem seqF_eq (P : Program) (ok : Ok) (n : Nat) : seqF P ok ⟨dcode P ok n, dseq P ok n, dops P ok n, dop1 P ok n, ddraw P ok n, dstage P ok n, dcall P ok n, dleave P ok n, dround P ok n⟩ = dseq P ok (n + 1) := by
  funext a0 a1 a2
  cases a1 <;> (simp only [seqF, dseq]; try rfl)

theorem opsF_eq (P : Program) (ok : Ok) (n : Nat) : opsF P ok ⟨dcode P ok n, dseq P ok n, dops P ok n, dop1 P ok n, ddraw P ok n, dstage P ok n, dcall P ok n, dleave P ok n, dround P ok n⟩ = dops P ok (n + 1) := by
  funext a0 a1 a2 a3
  cases a2 <;> (simp only [opsF, dops]; try rfl)

theorem op1F_eq (P : Program) (ok : Ok) (n : Nat) : op1F P ok ⟨dcode P ok n, dseq P ok n, dops P ok n, dop1 P ok n, ddraw P ok n, dstage P ok n, dcall P ok n, dleave P ok n, dround P ok n⟩ = dop1 P ok (n + 1) := by
  funext a0 a1 a2 a3 a4
  simp only [op1F, dop1, fop_fun]; try rfl

theorem drawF_eq (P : Program) (ok : Ok) (n : Nat) : drawF P ok ⟨dcode P ok n, dseq P ok n, dops P ok n, dop1 P ok n, ddraw P ok n, dstage P ok n, dcall P ok n, dleave P ok n, dround P ok n⟩ = ddraw P ok (n + 1) := by
  funext a0 a1 a2 a3 a4 a5 a6 a7 a8 a9
  simp only [drawF, ddraw]; try rfl

theorem stageF_eq (P : Program) (ok : Ok) (n : Nat) : stageF P ok ⟨dcode P ok n, dseq P ok n, dops P ok n, dop1 P ok n, ddraw P ok n, dstage P ok n, dcall P ok n, dleave P ok n, dround P ok n⟩ = dstage P ok (n + 1) := by
  funext a0 a1 a2 a3 a4 a5 a6 a7 a8 a9
  cases a7 with
  | nil => simp only [stageF, dstage]; try rfl
  | cons G gs => cases a5 <;> (simp only [stageF, dstage]; try rfl)

theorem callF_eq (P : Program) (ok : Ok) (n : Nat) : callF P ok ⟨dcode P ok n, dseq P ok n, dops P ok n, dop1 P ok n, ddraw P ok n, dstage P ok n, dcall P ok n, dleave P ok n, dround P ok n⟩ = dcall P ok (n + 1) := by
  funext a0 a1 a2
  simp only [callF, dcall]; try rfl

theorem leaveF_eq (P : Program) (ok : Ok) (n : Nat) : leaveF P ok ⟨dcode P ok n, dseq P ok n, dops P ok n, dop1 P ok n, ddraw P ok n, dstage P ok n, dcall P ok n, dleave P ok n, dround P ok n⟩ = dleave P ok (n + 1) := by
  funext a0 a1 a2 a3 a4
  cases a2 with
  | nil => cases a3 <;> (simp only [leaveF, dleave]; try rfl)
  | cons d ds => simp only [leaveF, dleave]; try rfl

theorem roundF_eq (P : Program) (ok : Ok) (n : Nat) : roundF P ok ⟨dcode P ok n, dseq P ok n, dops P ok n, dop1 P ok n, ddraw P ok n, dstage P ok n, dcall P ok n, dleave P ok n, dround P ok n⟩ = dround P ok (n + 1) := by
  funext a0 a1 a2
  simp only [roundF, dround]; try rfl

theorem frun_eq (P : Program) (ok : Ok) : ∀ n, frun P ok n = ⟨dcode P ok n, dseq P ok n, dops P ok n, dop1 P ok n, ddraw P ok n, dstage P ok n, dcall P ok n, dleave P ok n, dround P ok n⟩
  | 0 => by
    show Rec.none = _
    unfold Rec.none
    congr 1 <;> funext <;> first | rw [dcode] | rw [dseq] | rw [dops] | rw [dop1] | rw [ddraw] | rw [dstage] | rw [dcall] | rw [dleave] | rw [dround]
  | n + 1 => by
    show Rec.next P ok (frun P ok n) = _
    rw [frun_eq P ok n, Rec.next]
    rw [codeF_eq, seqF_eq, opsF_eq, op1F_eq, drawF_eq, stageF_eq, callF_eq, leaveF_eq, roundF_eq]

end Go.Hb
