/- The walk: what each operation comes to, by its operands' shapes. -/
import Derived.Test.YtgcbbaeokigbdaaDoorHbHx
import Derived.IntWalk
import Derived.BigFrame
namespace Go.Hb
open Go Go.RowKit

theorem thenC_normal {k : St → Prop} {Q : Ex → St → Prop} {st : St} : Ex.thenC k Q .normal st = k st := rfl
theorem thenC_exit {k : St → Prop} {Q : Ex → St → Prop} {st : St} {i : Nat} : Ex.thenC k Q (.exit i) st = Q (.exit i) st := rfl
theorem thenC_ret {k : St → Prop} {Q : Ex → St → Prop} {st : St} : Ex.thenC k Q .ret st = Q .ret st := rfl
theorem inBlock_exit {id j : Nat} {Q : Ex → St → Prop} {st : St} : Ex.inBlock id Q (.exit j) st = if j = id then Q .normal st else Q (.exit j) st := rfl
theorem inBlock_normal {id : Nat} {Q : Ex → St → Prop} {st : St} : Ex.inBlock id Q .normal st = Q .normal st := rfl
theorem inBlock_ret {id : Nat} {Q : Ex → St → Prop} {st : St} : Ex.inBlock id Q .ret st = Q .ret st := rfl

theorem dres_one {P : Program} {fn : Func} {tm : Tr Value} {H : Heap} {r : Tmp} (h : fn.results.toList = [.tmp r]) : dres P fn tm H = some ((tm.get r).getD junk) := by
  simp only [dres, h, dresL, dres1]
theorem dres_two {P : Program} {fn : Func} {tm : Tr Value} {H : Heap} {r q : Tmp} (h : fn.results.toList = [.tmp r, .tmp q]) : dres P fn tm H = some (.tuple ⟨[(tm.get r).getD junk, (tm.get q).getD junk]⟩) := by
  simp only [dres, h, dresL, dres1]
theorem dres_three {P : Program} {fn : Func} {tm : Tr Value} {H : Heap} {r q p : Tmp} (h : fn.results.toList = [.tmp r, .tmp q, .tmp p]) :
    dres P fn tm H = some (.tuple ⟨[(tm.get r).getD junk, (tm.get q).getD junk, (tm.get p).getD junk]⟩) := by
  simp only [dres, h, dresL, dres1]
/-- a function of one result is left -/
theorem leave_one {P : Program} {ok : Ok} {fn : Func} {tm : Tr Value} {H : Heap} {r : Tmp} {v : Value} {K : Value → Heap → Prop} (h : fn.results.toList = [.tmp r]) (hv : tm.get r = some v) (hk : K v H) : Ex.leave P ok fn K .ret ⟨tm, [], H⟩ :=
  EvV.now (v := v) (by rw [dres_one h, hv]; rfl) hk
theorem leave_one' {P : Program} {ok : Ok} {fn : Func} {tm : Tr Value} {H : Heap} {r : Tmp} {v : Value} {K : Value → Heap → Prop} (h : fn.results.toList = [.tmp r]) (hv : tm.get r = some v) (hk : K v H) : Ex.leave P ok fn K .normal ⟨tm, [], H⟩ :=
  EvV.now (v := v) (by rw [dres_one h, hv]; rfl) hk

def guardGet (tm : Tr Value) : Option Oper → Option Value
  | some ⟨some d, _, _, _, _, _⟩ => tm.get d
  | _ => some (.tuple #[])
theorem guardOf_eq {ops : Array Oper} {tm : Tr Value} {j : Nat} : guardOf ops tm j = guardGet tm ops.toList[j]? := by
  unfold guardOf guardGet
  cases ops.toList[j]? with
  | none => rfl
  | some o =>
    obtain ⟨d, op, ty, pos, af, g⟩ := o
    cases d <;> rfl
theorem guardGet_some {tm : Tr Value} {d : Tmp} {op : Op} {ty : TypeId} {pos : String} {af : Array Edge} {g : Option (Nat × Bool)} : guardGet tm (some ⟨some d, op, ty, pos, af, g⟩) = tm.get d := rfl

/-- ways that meet again -/
theorem EvC.cut {P : Program} {ok : Ok} {x : Ctx} {a b : Code} {st : St} {Q : Ex → St → Prop} (R : St → Prop) (h1 : EvC P ok x a st (fun e st1 => e = .normal ∧ R st1)) (h2 : ∀ st1, R st1 → EvC P ok x b st1 Q) : EvC P ok x (.seq a b) st Q := by
  refine EvC.seq (h1.mono fun e st1 ⟨he, hr⟩ => ?_)
  subst he
  exact h2 st1 hr

theorem EvC.meet {P : Program} {ok : Ok} {x : Ctx} {c : Code} {st : St} {Q : Ex → St → Prop} (R : St → Prop) (h1 : EvC P ok x c st (fun e st1 => e = .normal ∧ R st1)) (h2 : ∀ st1, R st1 → Q .normal st1) : EvC P ok x c st Q :=
  h1.mono fun e st1 ⟨he, hr⟩ => by subst he; exact h2 st1 hr

theorem EvC.join {P : Program} {ok : Ok} {x : Ctx} {c : Code} {st : St} {Q : Ex → St → Prop} (R : St → Prop) (h1 : EvC P ok x c st (Ex.thenC R Q)) (h2 : ∀ st1, R st1 → Q .normal st1) : EvC P ok x c st Q :=
  h1.mono fun e st1 h => by
    cases e with
    | normal => exact h2 st1 h
    | _ => exact h

/-- of the frame, so much is kept in mind -/
theorem EvC.frame {P : Program} {ok : Ok} {x : Ctx} {c : Code} {tm : Tr Value} {ds : List Deferred} {H : Heap} {Q : Ex → St → Prop} (R : Tr Value → Prop) (h1 : R tm) (h2 : ∀ tm, R tm → EvC P ok x c ⟨tm, ds, H⟩ Q) : EvC P ok x c ⟨tm, ds, H⟩ Q := h2 tm h1

theorem LK.mono {P : Program} {ok : Ok} {x : Ctx} {d : Option Tmp} {tm : Tr Value} {ds : List Deferred} {H : Heap} {K L : Tr Value → List Deferred → Heap → Prop} {r : Option Dr} (h : LK P ok x d tm ds H K r) (k : ∀ tm ds H, K tm ds H → L tm ds H) : LK P ok x d tm ds H L r := by
  unfold LK at h ⊢
  split at h
  · exact k _ _ _ h
  · exact h.mono fun v H' hk => k _ _ _ hk
  · exact Upon.mono h fun _ hk => k _ _ _ hk
  · exact ⟨h.1, k _ _ _ h.2⟩
  · exact h
theorem EL.mono {P : Program} {ok : Ok} {x : Ctx} {ops : Array Oper} {K L : Tr Value → List Deferred → Heap → Prop} (k : ∀ tm ds H, K tm ds H → L tm ds H) : ∀ (os : List Oper) (tm : Tr Value) (ds : List Deferred) (H : Heap), EL P ok x ops os tm ds H K → EL P ok x ops os tm ds H L
  | [], tm, ds, H, h => k _ _ _ h
  | o :: os, tm, ds, H, h => by
    unfold EL at h ⊢
    split at h
    · exact h.mono fun tm ds H h => EL.mono k os tm ds H h
    · unfold GK at h ⊢
      split at h
      · split at h
        · rename_i hb; simp only [hb, if_true]; exact h.mono fun tm ds H h => EL.mono k os tm ds H h
        · rename_i hb; simp only [hb, if_false]; exact EL.mono k os _ _ _ h
      · exact EL.mono k os _ _ _ h
      · exact h
theorem EL.append {P : Program} {ok : Ok} {x : Ctx} {ops : Array Oper} {K : Tr Value → List Deferred → Heap → Prop} {b : List Oper} : ∀ (a : List Oper) (tm : Tr Value) (ds : List Deferred) (H : Heap), EL P ok x ops a tm ds H (fun tm ds H => EL P ok x ops b tm ds H K) → EL P ok x ops (a ++ b) tm ds H K
  | [], tm, ds, H, h => h
  | o :: os, tm, ds, H, h => by
    rw [List.cons_append]
    unfold EL at h ⊢
    split at h
    · exact h.mono fun tm ds H h => EL.append os tm ds H h
    · unfold GK at h ⊢
      split at h
      · split at h
        · rename_i hb; simp only [hb, if_true]; exact h.mono fun tm ds H h => EL.append os tm ds H h
        · rename_i hb; simp only [hb, if_false]; exact EL.append os _ _ _ h
      · exact EL.append os _ _ _ h
      · exact h
/-- within a region: so many operations first, and what is kept in mind of them -/
theorem EL.join {P : Program} {ok : Ok} {x : Ctx} {ops : Array Oper} {K : Tr Value → List Deferred → Heap → Prop} {os : List Oper} {tm : Tr Value} {ds : List Deferred} {H : Heap} (n : Nat) (R : Tr Value → Prop)
    (h1 : EL P ok x ops (os.take n) tm ds H fun tm' ds' H' => ds' = ds ∧ H' = H ∧ R tm') (h2 : ∀ tm', R tm' → EL P ok x ops (os.drop n) tm' ds H K) : EL P ok x ops os tm ds H K := by
  rw [← List.take_append_drop n os]
  refine EL.append _ _ _ _ (h1.mono ?_ _ _ _ _)
  rintro tm' ds' H' ⟨rfl, rfl, hr⟩
  exact h2 tm' hr

/-! ## Temporaries -/
theorem ev_tmp (tm : Tr Value) (t : Tmp) : ev tm (.tmp t) = (tm.get t).getD junk := rfl
theorem ev_const (tm : Tr Value) (v : Value) : ev tm (.const v) = v := rfl
theorem ev_global (tm : Tr Value) (g : Nat) : ev tm (.global g) = .pointer (some ⟨g, 0, none⟩) := rfl
theorem ev_func (tm : Tr Value) (f : FuncId) : ev tm (.func f) = .func (.func f) #[] #[] := rfl
theorem put_some (tm : Tr Value) (d : Tmp) (v : Value) : putD tm (some d) v = tm.put d (some v) := rfl
theorem put_none (tm : Tr Value) (v : Value) : putD tm none v = tm := rfl
theorem EL_nil {P : Program} {ok : Ok} {x : Ctx} {ops : Array Oper} {tm : Tr Value} {ds : List Deferred} {H : Heap} {K : Tr Value → List Deferred → Heap → Prop} : EL P ok x ops [] tm ds H K = K tm ds H := rfl
/-- on with an operation's outcome; what is left stands as text, and is not looked into -/
def LX (P : Program) (ok : Ok) (x : Ctx) (ops : Array Oper) (d : Option Tmp) (os : List Oper) (tm : Tr Value) (ds : List Deferred) (H : Heap) (K : Tr Value → List Deferred → Heap → Prop) (r : Option Dr) : Prop :=
  LK P ok x d tm ds H (fun tm ds H => EL P ok x ops os tm ds H K) r
/-- on by a guard's value -/
def LG (P : Program) (ok : Ok) (x : Ctx) (ops : Array Oper) (o : Oper) (os : List Oper) (tm : Tr Value) (ds : List Deferred) (H : Heap) (K : Tr Value → List Deferred → Heap → Prop) (w : Bool) (g : Option Value) : Prop :=
  GK o.dst tm (LX P ok x ops o.dst os tm ds H K (dop P o (ev tm) H)) (EL P ok x ops os (putD tm o.dst undef) ds H K) w g
section
variable {P : Program} {ok : Ok} {x : Ctx} {ops : Array Oper} {os : List Oper} {tm : Tr Value} {ds : List Deferred} {H H' : Heap} {K : Tr Value → List Deferred → Heap → Prop} {d : Option Tmp} {op : Op} {ty : TypeId} {pos : String} {af : Array Edge} {j : Nat} {w : Bool}
theorem EL_cons : EL P ok x ops (⟨d, op, ty, pos, af, none⟩ :: os) tm ds H K = LX P ok x ops d os tm ds H K (dop P ⟨d, op, ty, pos, af, none⟩ (ev tm) H) := rfl
theorem EL_guard : EL P ok x ops (⟨d, op, ty, pos, af, some (j, w)⟩ :: os) tm ds H K = LG P ok x ops ⟨d, op, ty, pos, af, some (j, w)⟩ os tm ds H K w (guardOf ops tm j) := rfl
theorem LX_val {v : Value} : LX P ok x ops d os tm ds H K (some (.val v H')) = EL P ok x ops os (putD tm d v) ds H' K := rfl
theorem LX_call {f : FuncId} {args : List Value} : LX P ok x ops d os tm ds H K (some (.call f args)) = EvF P ok f args H fun v H' => EL P ok x ops os (putD tm d v) ds H' K := rfl
theorem LX_yield {l : Nat} {args : List Value} : LX P ok x ops d os tm ds H K (some (.yield l args)) = EvR P ok l args H fun v H' => EL P ok x ops os (putD tm d v) ds H' K := rfl
theorem LG_tt {g : Option (Nat × Bool)} : LG P ok x ops ⟨d, op, ty, pos, af, g⟩ os tm ds H K true (some (.bool true)) = LX P ok x ops d os tm ds H K (dop P ⟨d, op, ty, pos, af, g⟩ (ev tm) H) := rfl
theorem LG_ff {g : Option (Nat × Bool)} : LG P ok x ops ⟨d, op, ty, pos, af, g⟩ os tm ds H K false (some (.bool false)) = LX P ok x ops d os tm ds H K (dop P ⟨d, op, ty, pos, af, g⟩ (ev tm) H) := rfl
theorem LG_tf {g : Option (Nat × Bool)} : LG P ok x ops ⟨d, op, ty, pos, af, g⟩ os tm ds H K true (some (.bool false)) = EL P ok x ops os (putD tm d undef) ds H K := rfl
theorem LG_ft {g : Option (Nat × Bool)} : LG P ok x ops ⟨d, op, ty, pos, af, g⟩ os tm ds H K false (some (.bool true)) = EL P ok x ops os (putD tm d undef) ds H K := rfl
theorem LG_undef {g : Option (Nat × Bool)} : LG P ok x ops ⟨d, op, ty, pos, af, g⟩ os tm ds H K w (some undef) = EL P ok x ops os (putD tm d undef) ds H K := rfl
end

section
variable (P : Program)

/-! ## What an operation does to its operands' values -/
def dPick (c a b : Value) (H : Heap) : Option Dr := match c with | .bool true => some (.val a H) | .bool false => some (.val b H) | _ => none
def dBin (op : BinOp) (t : TypeId) (x y : Operand) (a b : Value) (H : Heap) : Option Dr :=
  match dnil P op t a b with
  | some v => some (.val v H)
  | none => match (flat a && (flat b && true)), pureRun P (do let r ← (do eqGuard op t x y a b; binOp op t a b); pure (Next.value r)) with
    | true, some (.value v) => match flat v with
      | true => some (.val v H)
      | false => none
    | _, _ => none
def dLoad (t : TypeId) (a : Value) (H : Heap) : Option Dr := match a with | .pointer (some ad) => (dload P t ad H).map (.val · H) | _ => none
def dStore (t : TypeId) (a v : Value) (H : Heap) : Option Dr :=
  match a with
  | .pointer (some ad) => if Nat.beq v.cells.size (P.cellsOf t) && (P.info? t).isSome then (H.store ad v.cells.toList).map (.val undef ·) else none
  | _ => none
/-- a field's place and type -/
def fldOf (t : TypeId) (f : Nat) : Option (Nat × TypeId) := match P.underlying t with | some (.struct fs) => (fs.toList[f]?).map fun fd => (fd.offset, fd.type) | _ => none
def dField (t : TypeId) (x : Value) (f : Nat) (H : Heap) : Option Dr :=
  match P.underlying t, x with
  | some (.struct fs), .agg cs => match fs.toList[f]? with
    | some fd => (dpart P fd.type cs fd.offset).map (.val · H)
    | none => none
  | _, _ => none
def dFieldAddr (t : TypeId) (x : Value) (f : Nat) (H : Heap) : Option Dr :=
  match P.underlying t, x with
  | some (.struct fs), .pointer (some a) => match fs.toList[f]? with
    | some fd => if a.spot.isNone && !(Nat.beq (P.cellsOf fd.type) 0) then some (.val (.pointer (some ⟨a.block, a.off + fd.offset, none⟩)) H) else none
    | none => none
  | _, _ => none
def dIndexAddr (t : TypeId) (x ix : Value) (H : Heap) : Option Dr :=
  match P.underlying t, x with
  | some (.slice e), .slice (some a) n _ => match intBetween ix (n - 1), Nat.beq n 0, a.spot, (P.info? e).isSome with
    | some i, false, none, true => some (.val (.pointer (some ⟨a.block, a.off + i * P.cellsOf e, none⟩)) H)
    | _, _, _, _ => none
  | some (.array n e), .pointer (some a) => match intBetween ix (n - 1), Nat.beq n 0, a.spot, (P.info? e).isSome with
    | some i, false, none, true => some (.val (.pointer (some ⟨a.block, a.off + i * P.cellsOf e, none⟩)) H)
    | _, _, _, _ => none
  | _, _ => none
def dLen (ts : Option TypeId) (x : Value) (H : Heap) : Option Dr :=
  match x with
  | .slice _ n _ => match ts.bind P.underlying with
    | some (.slice _) => some (.val (goInt n) H)
    | _ => none
  | .map (some r) => match ts.bind P.underlying, H.get r with
    | some (.map _ _), some (.map es _) => some (.val (goInt es.length) H)
    | _, _ => none
  | _ => none
def callable (f : FuncId) : Bool := match P.funcs[f]? with | some fn => fn.body.isSome && !(fn.name == "runtime.NumGoroutine") | none => false
end

section
variable {P : Program} {d : Option Tmp} {ty : TypeId} {pos : String} {af : Array Edge} {g : Option (Nat × Bool)} {ρ : Operand → Value} {H : Heap}

theorem dop_move {a : Operand} : dop P ⟨d, .move a, ty, pos, af, g⟩ ρ H = some (.val (ρ a) H) := rfl
theorem dop_assign {a : Operand} : dop P ⟨d, .assign a, ty, pos, af, g⟩ ρ H = some (.val (ρ a) H) := rfl
theorem dop_pick {c a b : Operand} : dop P ⟨d, .pick c a b, ty, pos, af, g⟩ ρ H = dPick (ρ c) (ρ a) (ρ b) H := rfl
theorem dPick_bool {b : Bool} {v w : Value} : dPick (.bool b) v w H = some (.val (if b = true then v else w) H) := by cases b <;> rfl
theorem dop_load {t : TypeId} {a : Operand} : dop P ⟨d, .load t a, ty, pos, af, g⟩ ρ H = dLoad P t (ρ a) H := rfl
theorem dop_store {t : TypeId} {a v : Operand} : dop P ⟨d, .store t a v, ty, pos, af, g⟩ ρ H = dStore P t (ρ a) (ρ v) H := rfl
theorem dop_field {t : TypeId} {a : Operand} {f : Nat} : dop P ⟨d, .field t a f, ty, pos, af, g⟩ ρ H = dField P t (ρ a) f H := rfl
theorem dop_fieldAddr {t : TypeId} {a : Operand} {f : Nat} : dop P ⟨d, .fieldAddr t a f, ty, pos, af, g⟩ ρ H = dFieldAddr P t (ρ a) f H := rfl
theorem dop_indexAddr {t : TypeId} {a i : Operand} : dop P ⟨d, .indexAddr t a i, ty, pos, af, g⟩ ρ H = dIndexAddr P t (ρ a) (ρ i) H := rfl
theorem dop_bin {op : BinOp} {t u : TypeId} {a b : Operand} : dop P ⟨d, .binOp op t a b u, ty, pos, af, g⟩ ρ H = dBin P op t a b (ρ a) (ρ b) H := rfl

theorem dop_call {f : FuncId} {args : Array Operand} {ats : Array TypeId} {tm : Tr Value} (h : callable P f = true) :
    dop P ⟨d, .call ⟨.value (.func f), args, ats⟩, ty, pos, af, g⟩ (ev tm) H = some (.call f (args.toList.map (ev tm))) := by
  unfold callable at h
  simp only [dop, ev]
  cases hf : P.funcs[f]? with
  | none => rw [hf] at h; cases h
  | some fn =>
    rw [hf] at h
    simp only at h
    simp [dcall1, hf, h]

/-! ## Integers -/
theorem dBin_add {t : TypeId} {x y : Operand} {k : IntKind} {a b : Int} : dBin P .add t x y (.int k a) (.int k b) H = some (.val (.int k (k.wrap (a + b))) H) := by
  simp [dBin, dnil, flat, eqGuard, binOp, Op.intArith, Sem.bind]; rfl
theorem dBin_lss {t : TypeId} {x y : Operand} {k : IntKind} {a b : Int} : dBin P .lss t x y (.int k a) (.int k b) H = some (.val (.bool (decide (a < b))) H) := by
  simp [dBin, dnil, flat, eqGuard, binOp, Op.intCmp, Sem.bind]; rfl

/-! ## Memory -/
def cutC (cs : List Value) (o n : Nat) : Option (List Value) := let l := (cs.drop o).take n; if Nat.beq l.length n then some l else none
def dloadA (n : Nat) (l : Option (List Value)) (H : Heap) : Option Dr := (l.map fun l => Value.agg ⟨l⟩).map (.val · H)
def dload1 (l : Option (List Value)) (H : Heap) : Option Dr := match l with | some [v] => some (.val v H) | _ => none

theorem dLoad_agg {t : TypeId} {ad : Addr} (h : isAgg? P t = some true) : dLoad P t (.pointer (some ad)) H = dloadA (P.cellsOf t) (H.load ad (P.cellsOf t)) H := by
  simp only [dLoad, dload, h, dloadA]
theorem dLoad_one {t : TypeId} {ad : Addr} (h : isAgg? P t = some false) : dLoad P t (.pointer (some ad)) H = dload1 (H.load ad 1) H := by
  simp only [dLoad, dload, h, dload1]
  split
  · rename_i v hv; rw [hv]; rfl
  · rename_i hv
    split
    · rename_i v hv2; exact absurd hv2 (hv v)
    · rfl
theorem dloadA_some {n : Nat} {l : List Value} : dloadA n (some l) H = some (.val (.agg ⟨l⟩) H) := rfl
theorem dload1_some {v : Value} : dload1 (some [v]) H = some (.val v H) := rfl

theorem load_new {b o n : Nat} {B : Option Blk} : (H.new B).load ⟨b, o, none⟩ n = if b = H.next then (match B with | some (.ro cs _) | some (.row cs _) => cutC cs o n | _ => none) else H.load ⟨b, o, none⟩ n := by
  unfold Heap.load Heap.cells
  rw [Heap.get_new]
  by_cases h : b = H.next
  · rw [if_pos h, if_pos h]
    cases B with
    | none => rfl
    | some B => cases B <;> rfl
  · rw [if_neg h, if_neg h]
theorem load_put {b o n i : Nat} {B : Option Blk} : (H.put i B).load ⟨b, o, none⟩ n = if b = i then (match B with | some (.ro cs _) | some (.row cs _) => cutC cs o n | _ => none) else H.load ⟨b, o, none⟩ n := by
  unfold Heap.load Heap.cells
  rw [Heap.get_put]
  by_cases h : b = i
  · rw [if_pos h, if_pos h]
    cases B with
    | none => rfl
    | some B => cases B <;> rfl
  · rw [if_neg h, if_neg h]
theorem next_new {B : Option Blk} : (H.new B).next = H.next + 1 := rfl
theorem next_put {i : Nat} {B : Option Blk} : (H.put i B).next = H.next := rfl
theorem get_new {B : Option Blk} {j : Nat} : (H.new B).get j = if j = H.next then B else H.get j := Heap.get_new _ _ _
theorem get_put {B : Option Blk} {i j : Nat} : (H.put i B).get j = if j = i then B else H.get j := Heap.get_put _ _ _ _

def dStoreB (ad : Addr) (vs : List Value) (H : Heap) : Option Blk → Option Dr
  | some (.row cs e) => if ad.off + vs.length ≤ cs.length ∧ vs.all one = true then some (.val undef (H.put ad.block (some (.row (splice cs ad.off vs) e)))) else none
  | _ => none
theorem dStore_ptr {t : TypeId} {b o : Nat} {v : Value} (h : (P.info? t).isSome = true) (hc : v.cells.size = P.cellsOf t) : dStore P t (.pointer (some ⟨b, o, none⟩)) v H = dStoreB ⟨b, o, none⟩ v.cells.toList H (H.get b) := by
  simp only [dStore, h, hc, Nat.beq_refl, Bool.and_self, if_true]
  unfold Heap.store dStoreB
  simp only
  cases H.get b with
  | none => rfl
  | some B =>
    cases B with
    | row cs e =>
      simp only
      split <;> rfl
    | _ => rfl

def dStoreIf (c : Bool) (ad : Addr) (vs : List Value) (H : Heap) (B : Option Blk) : Option Dr := if c = true then dStoreB ad vs H B else none
theorem dStoreIf_true {ad : Addr} {vs : List Value} {B : Option Blk} : dStoreIf true ad vs H B = dStoreB ad vs H B := rfl
theorem dStore_gen {t : TypeId} {b o : Nat} {v : Value} (h : (P.info? t).isSome = true) : dStore P t (.pointer (some ⟨b, o, none⟩)) v H = dStoreIf (Nat.beq v.cells.size (P.cellsOf t)) ⟨b, o, none⟩ v.cells.toList H (H.get b) := by
  cases hc : Nat.beq v.cells.size (P.cellsOf t) with
  | true => rw [dStoreIf_true]; exact dStore_ptr h (Nat.beq_eq.mp hc)
  | false => simp only [dStore, hc, Bool.false_and]; rfl
theorem dStore_agg {t : TypeId} {b o : Nat} {cs : List Value} (h : (P.info? t).isSome = true) : dStore P t (.pointer (some ⟨b, o, none⟩)) (.agg ⟨cs⟩) H = dStoreIf (Nat.beq cs.length (P.cellsOf t)) ⟨b, o, none⟩ cs H (H.get b) := dStore_gen h
theorem dStore_one {t : TypeId} {b o : Nat} {v : Value} (h : (P.info? t).isSome = true) (h1 : P.cellsOf t = 1) (hv : v.cells = #[v]) : dStore P t (.pointer (some ⟨b, o, none⟩)) v H = dStoreB ⟨b, o, none⟩ [v] H (H.get b) := by
  rw [dStore_gen h, hv, h1]; rfl
theorem dStore_int {t : TypeId} {b o : Nat} {k : IntKind} {n : Int} (h : (P.info? t).isSome = true) (h1 : P.cellsOf t = 1) : dStore P t (.pointer (some ⟨b, o, none⟩)) (.int k n) H = dStoreB ⟨b, o, none⟩ [.int k n] H (H.get b) := dStore_one h h1 rfl
theorem dStore_string {t : TypeId} {b o : Nat} {s : ByteArray} (h : (P.info? t).isSome = true) (h1 : P.cellsOf t = 1) : dStore P t (.pointer (some ⟨b, o, none⟩)) (.string s) H = dStoreB ⟨b, o, none⟩ [.string s] H (H.get b) := dStore_one h h1 rfl
theorem dStore_bool {t : TypeId} {b o : Nat} {s : Bool} (h : (P.info? t).isSome = true) (h1 : P.cellsOf t = 1) : dStore P t (.pointer (some ⟨b, o, none⟩)) (.bool s) H = dStoreB ⟨b, o, none⟩ [.bool s] H (H.get b) := dStore_one h h1 rfl
theorem dStore_slice {t : TypeId} {b o n c : Nat} {a : Option Addr} (h : (P.info? t).isSome = true) (h1 : P.cellsOf t = 1) : dStore P t (.pointer (some ⟨b, o, none⟩)) (.slice a n c) H = dStoreB ⟨b, o, none⟩ [.slice a n c] H (H.get b) := dStore_one h h1 rfl
theorem dStoreB_row {b o : Nat} {vs cs : List Value} {e : TypeId} : dStoreB ⟨b, o, none⟩ vs H (some (.row cs e)) = if o + vs.length ≤ cs.length ∧ vs.all one = true then some (.val undef (H.put b (some (.row (splice cs o vs) e)))) else none := rfl
theorem splice_zero {cs vs : List Value} : splice cs 0 vs = vs ++ cs.drop vs.length := by cases cs <;> rfl
theorem splice_succ {c : Value} {cs vs : List Value} {n : Nat} : splice (c :: cs) (n + 1) vs = c :: splice cs n vs := rfl

/-! ## Blocks that are made -/
def dBox (e : TypeId) (v : Value) (H : Heap) : Option Dr := if v.cells.toList.all one then some (.val (.pointer (some ⟨H.next, 0, none⟩)) (H.new (some (.row v.cells.toList e)))) else none
theorem dop_box {e : TypeId} {a : Operand} : dop P ⟨d, .box e a, ty, pos, af, g⟩ ρ H = dBox e (ρ a) H := rfl
def zerosOf (P : Program) (e : TypeId) : Option (List Value) := match pureRun P (zeroValue e) with | some z => if flat z && z.cells.toList.all one then some z.cells.toList else none | none => none
def dAlloc (e : TypeId) (H : Heap) : Option (List Value) → Option Dr
  | some cs => some (.val (.pointer (some ⟨H.next, 0, none⟩)) (H.new (some (.row cs e))))
  | none => none
theorem dop_alloc {e : TypeId} : dop P ⟨d, .alloc e, ty, pos, af, g⟩ ρ H = dAlloc e H (zerosOf P e) := by
  simp only [dop, zerosOf]
  cases pureRun P (zeroValue e) with
  | none => rfl
  | some z =>
    simp only
    split <;> rfl

/-! ## Fields, elements -/
theorem dFieldAddr_at {t : TypeId} {f b o off : Nat} {u : TypeId} (h : fldOf P t f = some (off, u)) (hn : Nat.beq (P.cellsOf u) 0 = false) : dFieldAddr P t (.pointer (some ⟨b, o, none⟩)) f H = some (.val (.pointer (some ⟨b, o + off, none⟩)) H) := by
  unfold fldOf at h
  unfold dFieldAddr
  split at h
  · rename_i fs hu
    rw [hu]
    simp only
    cases hf : fs.toList[f]? with
    | none => rw [hf] at h; cases h
    | some fd =>
      rw [hf] at h
      simp only [Option.map_some, Option.some.injEq, Prod.mk.injEq] at h
      obtain ⟨rfl, rfl⟩ := h
      simp [hn]
  · cases h
theorem dIndexAddr_slice {t e : TypeId} {b o n c : Nat} {k : IntKind} {i : Nat} (hu : P.underlying t = some (.slice e)) (hi : (P.info? e).isSome = true) (h : i < n) :
    dIndexAddr P t (.slice (some ⟨b, o, none⟩) n c) (.int k (i : Int)) H = some (.val (.pointer (some ⟨b, o + i * P.cellsOf e, none⟩)) H) := by
  have h1 : intBetween (.int k (i : Int)) (n - 1) = some i := by
    unfold intBetween
    simp only
    rw [if_pos ⟨by omega, by omega⟩]; simp
  have h2 : Nat.beq n 0 = false := by rw [← Bool.not_eq_true, Nat.beq_eq]; omega
  simp only [dIndexAddr, hu, h1, h2, hi]
theorem pureRun_pure {α : Type} (a : α) : pureRun P (pure a : Sem α) = some a := rfl
theorem pureRun_underlying {t : TypeId} {d : TypeDesc} (h : P.underlying t = some d) : pureRun P (underlying t) = some d := by
  unfold underlying
  rw [pureRun_bind]
  show (pureRun P (match P.underlying t with | some d => pure d | none => stuck "no such type")) = _
  rw [h]; rfl
def dOut (fl : Bool) (r : Option Next) (H : Heap) : Option Dr :=
  match fl, r with
  | true, some (.value v) => match flat v with
    | true => some (.val v H)
    | false => none
  | _, _ => none
theorem dflat_out {o : Oper} : dflat P o ρ H = dOut (allFlat ρ o) (pureRun P (execOp ρ o)) H := rfl
def dLn (P : Program) (t ty : TypeId) (v : Value) (H : Heap) : Option Dr :=
  match v with
  | .slice _ n _ => match P.underlying t with
    | some (.slice _) => some (.val (goInt n) H)
    | _ => none
  | .map (some r) => match P.underlying t, H.get r with
    | some (.map _ _), some (.map es _) => some (.val (goInt es.length) H)
    | _, _ => none
  | v => dOut (flat v && true) (pureRun P (do let r ← Builtin.len_ #[t] ty #[v]; pure (Next.value r))) H
theorem dop_len {x : Operand} {t : TypeId} : dop P ⟨d, .call ⟨.builtin .len, #[x], #[t]⟩, ty, pos, af, g⟩ ρ H = dLn P t ty (ρ x) H := by
  have e : dflat P ⟨d, .call ⟨.builtin .len, #[x], #[t]⟩, ty, pos, af, g⟩ ρ H = dOut (flat (ρ x) && true) (pureRun P (do let r ← Builtin.len_ #[t] ty #[ρ x]; pure (Next.value r))) H := by
    rw [dflat_out, BigFrame.execOp_builtin, BigFrame.builtin_len]
    simp [allFlat, Op.operands, Call.operands]
  simp only [dop, e]
  unfold dLn
  cases h : ρ x with
  | slice a n c => rfl
  | map r => cases r <;> rfl
  | _ => rfl
theorem dLn_slice {t ty e : TypeId} {a : Option Addr} {n c : Nat} (hu : P.underlying t = some (.slice e)) : dLn P t ty (.slice a n c) H = some (.val (.int .i64 n) H) := by
  simp only [dLn, hu, goInt]
theorem dLn_string {t ty : TypeId} {s : ByteArray} (hu : P.underlying t = some .string) : dLn P t ty (.string s) H = some (.val (.int .i64 s.size) H) := by
  simp only [dLn, pureRun_bind, Builtin.len_]
  simp [pureRun_bind, pureRun_underlying hu, pureRun_pure, dOut, flat, goInt]
theorem dBin_gtr {t : TypeId} {x y : Operand} {k : IntKind} {a b : Int} : dBin P .gtr t x y (.int k a) (.int k b) H = some (.val (.bool (decide (a > b))) H) := by
  simp [dBin, dnil, flat, eqGuard, binOp, Op.intCmp, Sem.bind]; rfl
theorem dBin_sub {t : TypeId} {x y : Operand} {k : IntKind} {a b : Int} : dBin P .sub t x y (.int k a) (.int k b) H = some (.val (.int k (k.wrap (a - b))) H) := by
  simp [dBin, dnil, flat, eqGuard, binOp, Op.intArith, Sem.bind]; rfl
theorem dBin_mul {t : TypeId} {x y : Operand} {k : IntKind} {a b : Int} : dBin P .mul t x y (.int k a) (.int k b) H = some (.val (.int k (k.wrap (a * b))) H) := by
  simp [dBin, dnil, flat, eqGuard, binOp, Op.intArith, Sem.bind]; rfl
theorem dBin_leq {t : TypeId} {x y : Operand} {k : IntKind} {a b : Int} : dBin P .leq t x y (.int k a) (.int k b) H = some (.val (.bool (decide (a ≤ b))) H) := by
  simp [dBin, dnil, flat, eqGuard, binOp, Op.intCmp, Sem.bind]; rfl
theorem dBin_geq {t : TypeId} {x y : Operand} {k : IntKind} {a b : Int} : dBin P .geq t x y (.int k a) (.int k b) H = some (.val (.bool (decide (a ≥ b))) H) := by
  simp [dBin, dnil, flat, eqGuard, binOp, Op.intCmp, Sem.bind]; rfl
theorem dBin_eql {t : TypeId} {x y : Operand} {k : IntKind} {a b : Int} : dBin P .eql t x y (.int k a) (.int k b) H = some (.val (.bool (a == b)) H) := by
  simp [dBin, dnil, flat, eqGuard, binOp, Op.intCmp, Sem.bind]; rfl
theorem dBin_neq {t : TypeId} {x y : Operand} {k : IntKind} {a b : Int} : dBin P .neq t x y (.int k a) (.int k b) H = some (.val (.bool (a != b)) H) := by
  simp [dBin, dnil, flat, eqGuard, binOp, Op.intCmp, Sem.bind]; rfl
theorem dBin_eqlS {t : TypeId} {x y : Operand} {a b : ByteArray} : dBin P .eql t x y (.string a) (.string b) H = some (.val (.bool (a.toList == b.toList)) H) := by
  simp [dBin, dnil, flat, eqGuard, binOp, Op.stringOp, Sem.bind]; rfl
theorem dBin_neqS {t : TypeId} {x y : Operand} {a b : ByteArray} : dBin P .neq t x y (.string a) (.string b) H = some (.val (.bool (!(a.toList == b.toList))) H) := by
  simp [dBin, dnil, flat, eqGuard, binOp, Op.stringOp, Sem.bind]; rfl
def dUn (P : Program) (op : UnOp) (v : Value) (H : Heap) : Option Dr := dOut (flat v && true) (pureRun P (do let r ← Op.unary op v; pure (Next.value r))) H
theorem dop_un {op : UnOp} {t : TypeId} {a : Operand} : dop P ⟨d, .unOp op t a, ty, pos, af, g⟩ ρ H = dUn P op (ρ a) H := rfl
theorem un_not {b : Bool} : dUn P .not (.bool b) H = some (.val (.bool (!b)) H) := rfl
def dExt (t : Value) (i : Nat) (H : Heap) : Option Dr := match t with | .tuple vs => (vs.toList[i]?).map (.val · H) | _ => none
theorem dop_extract {a : Operand} {i : Nat} : dop P ⟨d, .extract a i, ty, pos, af, g⟩ ρ H = dExt (ρ a) i H := rfl
theorem dExt_0 {a : Value} {l : List Value} : dExt (.tuple ⟨a :: l⟩) 0 H = some (.val a H) := rfl
theorem dExt_1 {a b : Value} {l : List Value} : dExt (.tuple ⟨a :: b :: l⟩) 1 H = some (.val b H) := rfl
theorem dExt_2 {a b c : Value} {l : List Value} : dExt (.tuple ⟨a :: b :: c :: l⟩) 2 H = some (.val c H) := rfl
/-- a builtin that reckons with numbers -/
def dMin (P : Program) (ats : Array TypeId) (ty : TypeId) (v w : Value) (H : Heap) : Option Dr := dOut (flat v && (flat w && true)) (pureRun P (do let r ← Builtin.min_ ats ty #[v, w]; pure (Next.value r))) H
theorem dop_min {ats : Array TypeId} {a b : Operand} : dop P ⟨d, .call ⟨.builtin .min, #[a, b], ats⟩, ty, pos, af, g⟩ ρ H = dMin P ats ty (ρ a) (ρ b) H := by
  have e : dop P ⟨d, .call ⟨.builtin .min, #[a, b], ats⟩, ty, pos, af, g⟩ ρ H = dflat P ⟨d, .call ⟨.builtin .min, #[a, b], ats⟩, ty, pos, af, g⟩ ρ H := rfl
  rw [e, dflat_out, BigFrame.execOp_builtin, BigFrame.builtin_min]
  simp [allFlat, Op.operands, Call.operands, dMin]
theorem min_int {ats : Array TypeId} {k k' : IntKind} {a b : Int} : dMin P ats ty (.int k a) (.int k' b) H = some (.val (.int k (if b < a then b else a)) H) := by
  unfold dMin
  simp [Builtin.min_, Builtin.min2, flat, dOut]; rfl
theorem wrap_i64 {n : Int} (h1 : -9223372036854775808 ≤ n) (h2 : n ≤ 9223372036854775807) : IntKind.i64.wrap n = n := by
  exact IntWalk.i64_in _ ⟨h1, h2⟩
end
end Go.Hb
