import Derived.Test.YtnnpejdphgeciaaDoorM2
import Derived.IntWalk
import Derived.BigFrame
import Derived.Lib.ValidLaws
import Derived.DataReads
import Derived.Test.YtnnpejdphgeciaaDoorProg
import Derived.KernelRfl
/- Lemmas on the program's own code, towards the laws of this folder, part 3. Conditions: as each lemma says. -/
-- Hx
section
namespace Go.Hb
open Go Go.RowKit
def Heap.wf (H : Heap) : Prop := ∀ i B, H.get i = some B → i < H.next
structure HX (H H' : Heap) : Prop where
  next : H.next ≤ H'.next
  keep : ∀ i, i < H.next → H'.get i = H.get i
  wf : H'.wf
theorem HX.refl {H : Heap} (h : H.wf) : HX H H := ⟨Nat.le_refl _, fun _ _ => rfl, h⟩
theorem HX.trans {A B C : Heap} (h : HX A B) (k : HX B C) : HX A C :=
  ⟨Nat.le_trans h.next k.next, fun i hi => by rw [k.keep i (Nat.lt_of_lt_of_le hi h.next), h.keep i hi], k.wf⟩
theorem HX.new {A H : Heap} (h : HX A H) (B : Option Blk) : HX A (H.new B) := by
  refine ⟨Nat.le_succ_of_le h.next, fun i hi => ?_, fun i C hC => ?_⟩
  · rw [Heap.get_new, if_neg (by have := h.next; omega)]; exact h.keep i hi
  · rw [Heap.get_new] at hC
    show i < H.next + 1
    by_cases hi : i = H.next
    · omega
    · rw [if_neg hi] at hC; have := h.wf i C hC; omega
theorem HX.put {A H : Heap} (h : HX A H) {i : Nat} (hi : A.next ≤ i) (hl : i < H.next) (B : Option Blk) : HX A (H.put i B) := by
  refine ⟨h.next, fun j hj => ?_, fun j C hC => ?_⟩
  · rw [Heap.get_put, if_neg (by omega)]; exact h.keep j hj
  · rw [Heap.get_put] at hC
    show j < H.next
    by_cases hj : j = i
    · omega
    · rw [if_neg hj] at hC; exact h.wf j C hC
theorem HX.bump {A H : Heap} (h : HX A H) (k : Nat) : HX A ⟨H.next + k, H.t⟩ :=
  ⟨Nat.le_trans h.next (Nat.le_add_right _ _), h.keep, fun i B hB => Nat.lt_of_lt_of_le (h.wf i B hB) (Nat.le_add_right _ _)⟩
theorem HX.cells {H H' : Heap} (h : HX H H') {i : Nat} {cs : List Value} (hw : H.wf) (hc : H.cells i = some cs) : H'.cells i = some cs := by
  have hlt : i < H.next := by
    unfold Heap.cells at hc
    cases hg : H.get i with
    | none => rw [hg] at hc; cases hc
    | some B => exact hw i B hg
  unfold Heap.cells at hc ⊢
  rw [h.keep i hlt]; exact hc
theorem HX.load {H H' : Heap} (h : HX H H') {a : Addr} {n : Nat} {l : List Value} (hw : H.wf) (hl : H.load a n = some l) : H'.load a n = some l := by
  unfold Heap.load at hl ⊢
  split at hl
  · rename_i cs hs hc
    rw [hs, h.cells hw hc]
    exact hl
  · cases hl
theorem z95 {P : Program} {W : World} : (heapW P W).wf := by
  intro i B hB
  rw [z34] at hB
  split at hB
  · show i < deadAt P W + 1
    unfold deadAt; omega
  · cases hB
inductive Tm where
  | mk (kind : Int) (name num : ByteArray) (bits var : Int) (args : List Tm)
def Tm.args : Tm → List Tm | .mk _ _ _ _ _ l => l
def Tm.kind : Tm → Int | .mk k _ _ _ _ _ => k
def Tm.name : Tm → ByteArray | .mk _ s _ _ _ _ => s
def Tm.num : Tm → ByteArray | .mk _ _ s _ _ _ => s
def Tm.bits : Tm → Int | .mk _ _ _ b _ _ => b
def Tm.var : Tm → Int | .mk _ _ _ _ v _ => v
def i64 (n : Int) : Prop := -9223372036854775808 ≤ n ∧ n ≤ 9223372036854775807
def u64 (n : Int) : Prop := 0 ≤ n ∧ n ≤ 18446744073709551615
inductive RepT (H : Heap) : Tm → List Value → Prop
  | mk (k : Int) (s u : ByteArray) (b v : Int) (l : List Tm) (a : Option Addr) (c : Nat) (cells : Nat → List Value) : i64 k → s.size ≤ maxLen → u.size ≤ maxLen → u64 b → i64 v → l.length ≤ maxLen →
      l.length ≤ c → c ≤ maxLen → (a = none → l = [] ∧ c = 0) →
      (∀ i ad, i < l.length → a = some ad → ad.spot = none ∧ H.load ⟨ad.block, ad.off + i * 6, none⟩ 6 = some (cells i)) → (∀ i t, l[i]? = some t → RepT H t (cells i)) →
      RepT H (.mk k s u b v l) [.int .i64 k, .string s, .string u, .int .u64 b, .int .i64 v, .slice a l.length c]
theorem RepT.mono {H H' : Heap} (h : HX H H') (hw : H.wf) : ∀ {t : Tm} {cs : List Value}, RepT H t cs → RepT H' t cs := by
  intro t cs r
  induction r with
  | mk k s u b v l a c cells h1 h2 h3 h4 h5 h6 h7 h8 h9 h10 h11 ih =>
    exact .mk k s u b v l a c cells h1 h2 h3 h4 h5 h6 h7 h8 h9 (fun i ad hi ha => ⟨(h10 i ad hi ha).1, h.load hw (h10 i ad hi ha).2⟩) ih
structure RepL (H : Heap) (l : List Tm) (a : Option Addr) (c : Nat) (cells : Nat → List Value) : Prop where
  len : l.length ≤ c
  cap : c ≤ maxLen
  nil : a = none → l = [] ∧ c = 0
  load : ∀ i ad, i < l.length → a = some ad → ad.spot = none ∧ H.load ⟨ad.block, ad.off + i * 6, none⟩ 6 = some (cells i)
  rep : ∀ i t, l[i]? = some t → RepT H t (cells i)
theorem RepL.mono {H H' : Heap} (h : HX H H') (hw : H.wf) {l : List Tm} {a : Option Addr} {c : Nat} {cells : Nat → List Value} (r : RepL H l a c cells) : RepL H' l a c cells :=
  ⟨r.len, r.cap, r.nil, fun i ad hi ha => ⟨(r.load i ad hi ha).1, h.load hw (r.load i ad hi ha).2⟩, fun i t ht => (r.rep i t ht).mono h hw⟩
theorem RepT.inv {H : Heap} {t : Tm} {cs : List Value} (r : RepT H t cs) : ∃ a c cells, cs = [.int .i64 t.kind, .string t.name, .string t.num, .int .u64 t.bits, .int .i64 t.var, .slice a t.args.length c] ∧
    i64 t.kind ∧ t.name.size ≤ maxLen ∧ t.num.size ≤ maxLen ∧ u64 t.bits ∧ i64 t.var ∧ RepL H t.args a c cells := by
  cases r with
  | mk k s u b v l a c cells h1 h2 h3 h4 h5 h6 h7 h8 h9 h10 h11 => exact ⟨a, c, cells, rfl, h1, h2, h3, h4, h5, h7, h8, h9, h10, h11⟩
theorem RepL.at {H : Heap} {l : List Tm} {a : Option Addr} {c : Nat} {cells : Nat → List Value} (r : RepL H l a c cells) {i : Nat} {t : Tm} (h : l[i]? = some t) :
    ∃ b o, a = some ⟨b, o, none⟩ ∧ H.load ⟨b, o + i * 6, none⟩ 6 = some (cells i) ∧ RepT H t (cells i) := by
  have hi : i < l.length := (List.getElem?_eq_some_iff.1 h).1
  cases a with
  | none => obtain ⟨rfl, _⟩ := r.nil rfl; simp at hi
  | some ad =>
    obtain ⟨h1, h2⟩ := r.load i ad hi rfl
    obtain ⟨b, o, s⟩ := ad
    obtain rfl : s = none := h1
    exact ⟨b, o, rfl, h2, r.rep i t h⟩
end Go.Hb
end

-- Sop
section
namespace Go.Hb
open Go Go.RowKit
theorem z0p {k : St → Prop} {Q : Ex → St → Prop} {st : St} : Ex.thenC k Q .normal st = k st := _root_.id rfl
theorem z3p {k : St → Prop} {Q : Ex → St → Prop} {st : St} {i : Nat} : Ex.thenC k Q (.exit i) st = Q (.exit i) st := _root_.id rfl
theorem z01 {k : St → Prop} {Q : Ex → St → Prop} {st : St} : Ex.thenC k Q .ret st = Q .ret st := _root_.id rfl
theorem z2m {id j : Nat} {Q : Ex → St → Prop} {st : St} : Ex.inBlock id Q (.exit j) st = if j = id then Q .normal st else Q (.exit j) st := _root_.id rfl
theorem z16 {id : Nat} {Q : Ex → St → Prop} {st : St} : Ex.inBlock id Q .normal st = Q .normal st := _root_.id rfl
theorem z00 {id : Nat} {Q : Ex → St → Prop} {st : St} : Ex.inBlock id Q .ret st = Q .ret st := _root_.id rfl
theorem z96 {P : Program} {fn : Func} {tm : Tr Value} {H : Heap} {r : Tmp} (h : fn.results.toList = [.tmp r]) : dres P fn tm H = some ((tm.get r).getD junk) := by
  simp only [dres, h, dresL, dres1]
theorem z97 {P : Program} {fn : Func} {tm : Tr Value} {H : Heap} {r q : Tmp} (h : fn.results.toList = [.tmp r, .tmp q]) : dres P fn tm H = some (.tuple ⟨[(tm.get r).getD junk, (tm.get q).getD junk]⟩) := by
  simp only [dres, h, dresL, dres1]
theorem z0b {P : Program} {ok : Ok} {fn : Func} {tm : Tr Value} {H : Heap} {r : Tmp} {v : Value} {K : Value → Heap → Prop} (h : fn.results.toList = [.tmp r]) (hv : tm.get r = some v) (hk : K v H) : Ex.leave P ok fn K .ret ⟨tm, [], H⟩ :=
  EvV.now (v := v) (by rw [z96 h, hv]; rfl) hk
def guardGet (tm : Tr Value) : Option Oper → Option Value
  | some ⟨some d, _, _, _, _, _⟩ => tm.get d
  | _ => some (.tuple #[])
theorem z3q {ops : Array Oper} {tm : Tr Value} {j : Nat} : guardOf ops tm j = guardGet tm ops.toList[j]? := by
  unfold guardOf guardGet
  cases ops.toList[j]? with
  | none => rfl
  | some o =>
    obtain ⟨d, op, ty, pos, af, g⟩ := o
    cases d <;> rfl
theorem z27 {tm : Tr Value} {d : Tmp} {op : Op} {ty : TypeId} {pos : String} {af : Array Edge} {g : Option (Nat × Bool)} : guardGet tm (some ⟨some d, op, ty, pos, af, g⟩) = tm.get d := _root_.id rfl
theorem EvC.meet {P : Program} {ok : Ok} {x : Ctx} {c : Code} {st : St} {Q : Ex → St → Prop} (R : St → Prop) (h1 : EvC P ok x c st (fun e st1 => e = .normal ∧ R st1)) (h2 : ∀ st1, R st1 → Q .normal st1) : EvC P ok x c st Q :=
  h1.mono fun e st1 ⟨he, hr⟩ => by subst he; exact h2 st1 hr
theorem EvC.frame {P : Program} {ok : Ok} {x : Ctx} {c : Code} {tm : Tr Value} {ds : List Deferred} {H : Heap} {Q : Ex → St → Prop} (R : Tr Value → Prop) (h1 : R tm) (h2 : ∀ tm, R tm → EvC P ok x c ⟨tm, ds, H⟩ Q) : EvC P ok x c ⟨tm, ds, H⟩ Q := h2 tm h1
theorem LK.mono {P : Program} {ok : Ok} {x : Ctx} {d : Option Tmp} {tm : Tr Value} {ds : List Deferred} {H : Heap} {K L : Tr Value → List Deferred → Heap → Prop} {r : Option Dr} (h : LK P ok x d tm ds H K r) (k : ∀ tm ds H, K tm ds H → L tm ds H) : LK P ok x d tm ds H L r := by
  unfold LK at h ⊢
  split at h
  · exact k _ _ _ h
  · exact h.mono fun v H' hk => k _ _ _ hk
  · exact Upon.mono h fun _ hk => k _ _ _ hk
  · exact ⟨h.1, k _ _ _ h.2⟩
  · exact h
theorem EL.mono {P : Program} {ok : Ok} {x : Ctx} {ops : Array Oper} {K L : Tr Value → List Deferred → Heap → Prop} (k : ∀ tm ds H, K tm ds H → L tm ds H) : ∀ (os : List Oper) (tm : Tr Value) (ds : List Deferred) (H : Heap), EL P ok x ops os tm ds H K → EL P ok x ops os tm ds H L
  | [], tm, ds, H, h => k _ _ _ h
  | o :: os, tm, ds, H, h => by
    unfold EL at h ⊢
    split at h
    · exact h.mono fun tm ds H h => EL.mono k os tm ds H h
    · unfold GK at h ⊢
      split at h
      · split at h
        · rename_i hb; simp only [hb, if_true]; exact h.mono fun tm ds H h => EL.mono k os tm ds H h
        · rename_i hb; simp only [hb, if_false]; exact EL.mono k os _ _ _ h
      · exact EL.mono k os _ _ _ h
      · exact h
theorem EL.append {P : Program} {ok : Ok} {x : Ctx} {ops : Array Oper} {K : Tr Value → List Deferred → Heap → Prop} {b : List Oper} : ∀ (a : List Oper) (tm : Tr Value) (ds : List Deferred) (H : Heap), EL P ok x ops a tm ds H (fun tm ds H => EL P ok x ops b tm ds H K) → EL P ok x ops (a ++ b) tm ds H K
  | [], tm, ds, H, h => h
  | o :: os, tm, ds, H, h => by
    rw [List.cons_append]
    unfold EL at h ⊢
    split at h
    · exact h.mono fun tm ds H h => EL.append os tm ds H h
    · unfold GK at h ⊢
      split at h
      · split at h
        · rename_i hb; simp only [hb, if_true]; exact h.mono fun tm ds H h => EL.append os tm ds H h
        · rename_i hb; simp only [hb, if_false]; exact EL.append os _ _ _ h
      · exact EL.append os _ _ _ h
      · exact h
theorem z9h (tm : Tr Value) (t : Tmp) : ev tm (.tmp t) = (tm.get t).getD junk := _root_.id rfl
theorem z64 (tm : Tr Value) (v : Value) : ev tm (.const v) = v := _root_.id rfl
theorem z4t (tm : Tr Value) (g : Nat) : ev tm (.global g) = .pointer (some ⟨g, 0, none⟩) := _root_.id rfl
theorem z81 (tm : Tr Value) (f : FuncId) : ev tm (.func f) = .func (.func f) #[] #[] := _root_.id rfl
theorem z65 (tm : Tr Value) (d : Tmp) (v : Value) : putD tm (some d) v = tm.put d (some v) := _root_.id rfl
theorem z66 (tm : Tr Value) (v : Value) : putD tm none v = tm := _root_.id rfl
theorem z9i {P : Program} {ok : Ok} {x : Ctx} {ops : Array Oper} {tm : Tr Value} {ds : List Deferred} {H : Heap} {K : Tr Value → List Deferred → Heap → Prop} : EL P ok x ops [] tm ds H K = K tm ds H := _root_.id rfl
def LX (P : Program) (ok : Ok) (x : Ctx) (ops : Array Oper) (d : Option Tmp) (os : List Oper) (tm : Tr Value) (ds : List Deferred) (H : Heap) (K : Tr Value → List Deferred → Heap → Prop) (r : Option Dr) : Prop :=
  LK P ok x d tm ds H (fun tm ds H => EL P ok x ops os tm ds H K) r
def LG (P : Program) (ok : Ok) (x : Ctx) (ops : Array Oper) (o : Oper) (os : List Oper) (tm : Tr Value) (ds : List Deferred) (H : Heap) (K : Tr Value → List Deferred → Heap → Prop) (w : Bool) (g : Option Value) : Prop :=
  GK o.dst tm (LX P ok x ops o.dst os tm ds H K (dop P o (ev tm) H)) (EL P ok x ops os (putD tm o.dst undef) ds H K) w g
section
variable {P : Program} {ok : Ok} {x : Ctx} {ops : Array Oper} {os : List Oper} {tm : Tr Value} {ds : List Deferred} {H H' : Heap} {K : Tr Value → List Deferred → Heap → Prop} {d : Option Tmp} {op : Op} {ty : TypeId} {pos : String} {af : Array Edge} {j : Nat} {w : Bool}
theorem z82 : EL P ok x ops (⟨d, op, ty, pos, af, none⟩ :: os) tm ds H K = LX P ok x ops d os tm ds H K (dop P ⟨d, op, ty, pos, af, none⟩ (ev tm) H) := _root_.id rfl
theorem z67 : EL P ok x ops (⟨d, op, ty, pos, af, some (j, w)⟩ :: os) tm ds H K = LG P ok x ops ⟨d, op, ty, pos, af, some (j, w)⟩ os tm ds H K w (guardOf ops tm j) := _root_.id rfl
theorem z9j {v : Value} : LX P ok x ops d os tm ds H K (some (.val v H')) = EL P ok x ops os (putD tm d v) ds H' K := _root_.id rfl
theorem z83 {f : FuncId} {args : List Value} : LX P ok x ops d os tm ds H K (some (.call f args)) = EvF P ok f args H fun v H' => EL P ok x ops os (putD tm d v) ds H' K := _root_.id rfl
theorem z68 {l : Nat} {args : List Value} : LX P ok x ops d os tm ds H K (some (.yield l args)) = EvR P ok l args H fun v H' => EL P ok x ops os (putD tm d v) ds H' K := _root_.id rfl
theorem za3 {g : Option (Nat × Bool)} : LG P ok x ops ⟨d, op, ty, pos, af, g⟩ os tm ds H K true (some (.bool true)) = LX P ok x ops d os tm ds H K (dop P ⟨d, op, ty, pos, af, g⟩ (ev tm) H) := _root_.id rfl
theorem za4 {g : Option (Nat × Bool)} : LG P ok x ops ⟨d, op, ty, pos, af, g⟩ os tm ds H K false (some (.bool false)) = LX P ok x ops d os tm ds H K (dop P ⟨d, op, ty, pos, af, g⟩ (ev tm) H) := _root_.id rfl
theorem za5 {g : Option (Nat × Bool)} : LG P ok x ops ⟨d, op, ty, pos, af, g⟩ os tm ds H K true (some (.bool false)) = EL P ok x ops os (putD tm d undef) ds H K := _root_.id rfl
theorem za6 {g : Option (Nat × Bool)} : LG P ok x ops ⟨d, op, ty, pos, af, g⟩ os tm ds H K false (some (.bool true)) = EL P ok x ops os (putD tm d undef) ds H K := _root_.id rfl
theorem z69 {g : Option (Nat × Bool)} : LG P ok x ops ⟨d, op, ty, pos, af, g⟩ os tm ds H K w (some undef) = EL P ok x ops os (putD tm d undef) ds H K := _root_.id rfl
end
section
variable (P : Program)
def dPick (c a b : Value) (H : Heap) : Option Dr := match c with | .bool true => some (.val a H) | .bool false => some (.val b H) | _ => none
def dBin (op : BinOp) (t : TypeId) (x y : Operand) (a b : Value) (H : Heap) : Option Dr :=
  match dnil P op t a b with
  | some v => some (.val v H)
  | none => match (flat a && (flat b && true)), pureRun P (do let r ← (do eqGuard op t x y a b; binOp op t a b); pure (Next.value r)) with
    | true, some (.value v) => match flat v with
      | true => some (.val v H)
      | false => none
    | _, _ => none
def dLoad (t : TypeId) (a : Value) (H : Heap) : Option Dr := match a with | .pointer (some ad) => (dload P t ad H).map (.val · H) | _ => none
def dStore (t : TypeId) (a v : Value) (H : Heap) : Option Dr :=
  match a with
  | .pointer (some ad) => if Nat.beq v.cells.size (P.cellsOf t) && (P.info? t).isSome then (H.store ad v.cells.toList).map (.val undef ·) else none
  | _ => none
def fldOf (t : TypeId) (f : Nat) : Option (Nat × TypeId) := match P.underlying t with | some (.struct fs) => (fs.toList[f]?).map fun fd => (fd.offset, fd.type) | _ => none
def dField (t : TypeId) (x : Value) (f : Nat) (H : Heap) : Option Dr :=
  match P.underlying t, x with
  | some (.struct fs), .agg cs => match fs.toList[f]? with
    | some fd => (dpart P fd.type cs fd.offset).map (.val · H)
    | none => none
  | _, _ => none
def dFieldAddr (t : TypeId) (x : Value) (f : Nat) (H : Heap) : Option Dr :=
  match P.underlying t, x with
  | some (.struct fs), .pointer (some a) => match fs.toList[f]? with
    | some fd => if a.spot.isNone && !(Nat.beq (P.cellsOf fd.type) 0) then some (.val (.pointer (some ⟨a.block, a.off + fd.offset, none⟩)) H) else none
    | none => none
  | _, _ => none
def dIndexAddr (t : TypeId) (x ix : Value) (H : Heap) : Option Dr :=
  match P.underlying t, x with
  | some (.slice e), .slice (some a) n _ => match intBetween ix (n - 1), Nat.beq n 0, a.spot, (P.info? e).isSome with
    | some i, false, none, true => some (.val (.pointer (some ⟨a.block, a.off + i * P.cellsOf e, none⟩)) H)
    | _, _, _, _ => none
  | some (.array n e), .pointer (some a) => match intBetween ix (n - 1), Nat.beq n 0, a.spot, (P.info? e).isSome with
    | some i, false, none, true => some (.val (.pointer (some ⟨a.block, a.off + i * P.cellsOf e, none⟩)) H)
    | _, _, _, _ => none
  | _, _ => none
def dLen (ts : Option TypeId) (x : Value) (H : Heap) : Option Dr :=
  match x with
  | .slice _ n _ => match ts.bind P.underlying with
    | some (.slice _) => some (.val (goInt n) H)
    | _ => none
  | .map (some r) => match ts.bind P.underlying, H.get r with
    | some (.map _ _), some (.map es _) => some (.val (goInt es.length) H)
    | _, _ => none
  | _ => none
def callable (f : FuncId) : Bool := match P.funcs[f]? with | some fn => fn.body.isSome && !(fn.name == "runtime.NumGoroutine") | none => false
end
section
variable {P : Program} {d : Option Tmp} {ty : TypeId} {pos : String} {af : Array Edge} {g : Option (Nat × Bool)} {ρ : Operand → Value} {H : Heap}
theorem z6a {a : Operand} : dop P ⟨d, .move a, ty, pos, af, g⟩ ρ H = some (.val (ρ a) H) := _root_.id rfl
theorem z3r {a : Operand} : dop P ⟨d, .assign a, ty, pos, af, g⟩ ρ H = some (.val (ρ a) H) := _root_.id rfl
theorem z6b {c a b : Operand} : dop P ⟨d, .pick c a b, ty, pos, af, g⟩ ρ H = dPick (ρ c) (ρ a) (ρ b) H := _root_.id rfl
theorem z3s {b : Bool} {v w : Value} : dPick (.bool b) v w H = some (.val (if b = true then v else w) H) := by cases b <;> rfl
theorem z6c {t : TypeId} {a : Operand} : dop P ⟨d, .load t a, ty, pos, af, g⟩ ρ H = dLoad P t (ρ a) H := _root_.id rfl
theorem z4u {t : TypeId} {a v : Operand} : dop P ⟨d, .store t a v, ty, pos, af, g⟩ ρ H = dStore P t (ρ a) (ρ v) H := _root_.id rfl
theorem z4v {t : TypeId} {a : Operand} {f : Nat} : dop P ⟨d, .field t a f, ty, pos, af, g⟩ ρ H = dField P t (ρ a) f H := _root_.id rfl
theorem z28 {t : TypeId} {a : Operand} {f : Nat} : dop P ⟨d, .fieldAddr t a f, ty, pos, af, g⟩ ρ H = dFieldAddr P t (ρ a) f H := _root_.id rfl
theorem z29 {t : TypeId} {a i : Operand} : dop P ⟨d, .indexAddr t a i, ty, pos, af, g⟩ ρ H = dIndexAddr P t (ρ a) (ρ i) H := _root_.id rfl
theorem z84 {op : BinOp} {t u : TypeId} {a b : Operand} : dop P ⟨d, .binOp op t a b u, ty, pos, af, g⟩ ρ H = dBin P op t a b (ρ a) (ρ b) H := _root_.id rfl
theorem z07 {f : FuncId} {args : Array Operand} {ats : Array TypeId} {tm : Tr Value} (h : callable P f = true) :
    dop P ⟨d, .call ⟨.value (.func f), args, ats⟩, ty, pos, af, g⟩ (ev tm) H = some (.call f (args.toList.map (ev tm))) := by
  unfold callable at h
  simp only [dop, ev]
  cases hf : P.funcs[f]? with
  | none => rw [hf] at h; cases h
  | some fn =>
    rw [hf] at h
    simp only at h
    simp [dcall1, hf, h]
theorem z6d {t : TypeId} {x y : Operand} {k : IntKind} {a b : Int} : dBin P .add t x y (.int k a) (.int k b) H = some (.val (.int k (k.wrap (a + b))) H) := by
  simp [dBin, dnil, flat, eqGuard, binOp, Op.intArith, Sem.bind]; rfl
theorem z6e {t : TypeId} {x y : Operand} {k : IntKind} {a b : Int} : dBin P .lss t x y (.int k a) (.int k b) H = some (.val (.bool (decide (a < b))) H) := by
  simp [dBin, dnil, flat, eqGuard, binOp, Op.intCmp, Sem.bind]; rfl
def cutC (cs : List Value) (o n : Nat) : Option (List Value) := let l := (cs.drop o).take n; if Nat.beq l.length n then some l else none
def dloadA (n : Nat) (l : Option (List Value)) (H : Heap) : Option Dr := (l.map fun l => Value.agg ⟨l⟩).map (.val · H)
def dload1 (l : Option (List Value)) (H : Heap) : Option Dr := match l with | some [v] => some (.val v H) | _ => none
theorem z85 {t : TypeId} {ad : Addr} (h : isAgg? P t = some true) : dLoad P t (.pointer (some ad)) H = dloadA (P.cellsOf t) (H.load ad (P.cellsOf t)) H := by
  simp only [dLoad, dload, h, dloadA]
theorem z14 {t : TypeId} {ad : Addr} (h : isAgg? P t = some false) : dLoad P t (.pointer (some ad)) H = dload1 (H.load ad 1) H := by
  simp only [dLoad, dload, h, dload1]
  split
  · rename_i v hv; rw [hv]; rfl
  · rename_i hv
    split
    · rename_i v hv2; exact absurd hv2 (hv v)
    · rfl
theorem z36 {n : Nat} {l : List Value} : dloadA n (some l) H = some (.val (.agg ⟨l⟩) H) := _root_.id rfl
theorem z37 {v : Value} : dload1 (some [v]) H = some (.val v H) := _root_.id rfl
theorem z4b {b o n : Nat} {B : Option Blk} : (H.new B).load ⟨b, o, none⟩ n = if b = H.next then (match B with | some (.ro cs _) | some (.row cs _) => cutC cs o n | _ => none) else H.load ⟨b, o, none⟩ n := by
  unfold Heap.load Heap.cells
  rw [Heap.get_new]
  by_cases h : b = H.next
  · rw [if_pos h, if_pos h]
    cases B with
    | none => rfl
    | some B => cases B <;> rfl
  · rw [if_neg h, if_neg h]
theorem z6f {b o n i : Nat} {B : Option Blk} : (H.put i B).load ⟨b, o, none⟩ n = if b = i then (match B with | some (.ro cs _) | some (.row cs _) => cutC cs o n | _ => none) else H.load ⟨b, o, none⟩ n := by
  unfold Heap.load Heap.cells
  rw [Heap.get_put]
  by_cases h : b = i
  · rw [if_pos h, if_pos h]
    cases B with
    | none => rfl
    | some B => cases B <;> rfl
  · rw [if_neg h, if_neg h]
theorem z6g {B : Option Blk} : (H.new B).next = H.next + 1 := _root_.id rfl
theorem z2r {i : Nat} {B : Option Blk} : (H.put i B).next = H.next := _root_.id rfl
theorem get_new {B : Option Blk} {j : Nat} : (H.new B).get j = if j = H.next then B else H.get j := Heap.get_new _ _ _
theorem get_put {B : Option Blk} {i j : Nat} : (H.put i B).get j = if j = i then B else H.get j := Heap.get_put _ _ _ _
def dStoreB (ad : Addr) (vs : List Value) (H : Heap) : Option Blk → Option Dr
  | some (.row cs e) => if ad.off + vs.length ≤ cs.length ∧ vs.all one = true then some (.val undef (H.put ad.block (some (.row (splice cs ad.off vs) e)))) else none
  | _ => none
theorem z7b {t : TypeId} {b o : Nat} {v : Value} (h : (P.info? t).isSome = true) (hc : v.cells.size = P.cellsOf t) : dStore P t (.pointer (some ⟨b, o, none⟩)) v H = dStoreB ⟨b, o, none⟩ v.cells.toList H (H.get b) := by
  simp only [dStore, h, hc, Nat.beq_refl, Bool.and_self, if_true]
  unfold Heap.store dStoreB
  simp only
  cases H.get b with
  | none => rfl
  | some B =>
    cases B with
    | row cs e =>
      simp only
      split <;> rfl
    | _ => rfl
def dStoreIf (c : Bool) (ad : Addr) (vs : List Value) (H : Heap) (B : Option Blk) : Option Dr := if c = true then dStoreB ad vs H B else none
theorem z1h {ad : Addr} {vs : List Value} {B : Option Blk} : dStoreIf true ad vs H B = dStoreB ad vs H B := _root_.id rfl
theorem z3t {t : TypeId} {b o : Nat} {v : Value} (h : (P.info? t).isSome = true) : dStore P t (.pointer (some ⟨b, o, none⟩)) v H = dStoreIf (Nat.beq v.cells.size (P.cellsOf t)) ⟨b, o, none⟩ v.cells.toList H (H.get b) := by
  cases hc : Nat.beq v.cells.size (P.cellsOf t) with
  | true => rw [z1h]; exact z7b h (Nat.beq_eq.mp hc)
  | false => simp only [dStore, hc, Bool.false_and]; rfl
theorem z7c {t : TypeId} {b o : Nat} {cs : List Value} (h : (P.info? t).isSome = true) : dStore P t (.pointer (some ⟨b, o, none⟩)) (.agg ⟨cs⟩) H = dStoreIf (Nat.beq cs.length (P.cellsOf t)) ⟨b, o, none⟩ cs H (H.get b) := z3t h
theorem z7d {t : TypeId} {b o : Nat} {v : Value} (h : (P.info? t).isSome = true) (h1 : P.cellsOf t = 1) (hv : v.cells = #[v]) : dStore P t (.pointer (some ⟨b, o, none⟩)) v H = dStoreB ⟨b, o, none⟩ [v] H (H.get b) := by
  rw [z3t h, hv, h1]; rfl
theorem z4w {t : TypeId} {b o n c : Nat} {a : Option Addr} (h : (P.info? t).isSome = true) (h1 : P.cellsOf t = 1) : dStore P t (.pointer (some ⟨b, o, none⟩)) (.slice a n c) H = dStoreB ⟨b, o, none⟩ [.slice a n c] H (H.get b) := z7d h h1 rfl
theorem z38 {b o : Nat} {vs cs : List Value} {e : TypeId} : dStoreB ⟨b, o, none⟩ vs H (some (.row cs e)) = if o + vs.length ≤ cs.length ∧ vs.all one = true then some (.val undef (H.put b (some (.row (splice cs o vs) e)))) else none := _root_.id rfl
theorem z1w {cs vs : List Value} : splice cs 0 vs = vs ++ cs.drop vs.length := by cases cs <;> rfl
theorem z39 {c : Value} {cs vs : List Value} {n : Nat} : splice (c :: cs) (n + 1) vs = c :: splice cs n vs := _root_.id rfl
def dBox (e : TypeId) (v : Value) (H : Heap) : Option Dr := if v.cells.toList.all one then some (.val (.pointer (some ⟨H.next, 0, none⟩)) (H.new (some (.row v.cells.toList e)))) else none
theorem z86 {e : TypeId} {a : Operand} : dop P ⟨d, .box e a, ty, pos, af, g⟩ ρ H = dBox e (ρ a) H := _root_.id rfl
def zerosOf (P : Program) (e : TypeId) : Option (List Value) := match pureRun P (zeroValue e) with | some z => if flat z && z.cells.toList.all one then some z.cells.toList else none | none => none
def dAlloc (e : TypeId) (H : Heap) : Option (List Value) → Option Dr
  | some cs => some (.val (.pointer (some ⟨H.next, 0, none⟩)) (H.new (some (.row cs e))))
  | none => none
theorem z4x {e : TypeId} : dop P ⟨d, .alloc e, ty, pos, af, g⟩ ρ H = dAlloc e H (zerosOf P e) := by
  simp only [dop, zerosOf]
  cases pureRun P (zeroValue e) with
  | none => rfl
  | some z =>
    simp only
    split <;> rfl
theorem z04 {t : TypeId} {f b o off : Nat} {u : TypeId} (h : fldOf P t f = some (off, u)) (hn : Nat.beq (P.cellsOf u) 0 = false) : dFieldAddr P t (.pointer (some ⟨b, o, none⟩)) f H = some (.val (.pointer (some ⟨b, o + off, none⟩)) H) := by
  unfold fldOf at h
  unfold dFieldAddr
  split at h
  · rename_i fs hu
    rw [hu]
    simp only
    cases hf : fs.toList[f]? with
    | none => rw [hf] at h; cases h
    | some fd =>
      rw [hf] at h
      simp only [Option.map_some, Option.some.injEq, Prod.mk.injEq] at h
      obtain ⟨rfl, rfl⟩ := h
      simp [hn]
  · cases h
theorem z2a {t : TypeId} {d : TypeDesc} (h : P.underlying t = some d) : pureRun P (underlying t) = some d := by
  unfold underlying
  rw [z0f]
  show (pureRun P (match P.underlying t with | some d => pure d | none => stuck "no such type")) = _
  rw [h]; rfl
def dOut (fl : Bool) (r : Option Next) (H : Heap) : Option Dr :=
  match fl, r with
  | true, some (.value v) => match flat v with
    | true => some (.val v H)
    | false => none
  | _, _ => none
theorem z3a {o : Oper} : dflat P o ρ H = dOut (allFlat ρ o) (pureRun P (execOp ρ o)) H := rfl
def dLn (P : Program) (t ty : TypeId) (v : Value) (H : Heap) : Option Dr :=
  match v with
  | .slice _ n _ => match P.underlying t with
    | some (.slice _) => some (.val (goInt n) H)
    | _ => none
  | .map (some r) => match P.underlying t, H.get r with
    | some (.map _ _), some (.map es _) => some (.val (goInt es.length) H)
    | _, _ => none
  | v => dOut (flat v && true) (pureRun P (do let r ← Builtin.len_ #[t] ty #[v]; pure (Next.value r))) H
theorem z87 {x : Operand} {t : TypeId} : dop P ⟨d, .call ⟨.builtin .len, #[x], #[t]⟩, ty, pos, af, g⟩ ρ H = dLn P t ty (ρ x) H := by
  have e : dflat P ⟨d, .call ⟨.builtin .len, #[x], #[t]⟩, ty, pos, af, g⟩ ρ H = dOut (flat (ρ x) && true) (pureRun P (do let r ← Builtin.len_ #[t] ty #[ρ x]; pure (Next.value r))) H := by
    rw [z3a, BigFrame.execOp_builtin, BigFrame.builtin_len]
    simp [allFlat, Op.operands, Call.operands]
  simp only [dop, e]
  unfold dLn
  cases h : ρ x with
  | slice a n c => rfl
  | map r => cases r <;> rfl
  | _ => rfl
theorem z4y {t ty e : TypeId} {a : Option Addr} {n c : Nat} (hu : P.underlying t = some (.slice e)) : dLn P t ty (.slice a n c) H = some (.val (.int .i64 n) H) := by
  simp only [dLn, hu, goInt]
theorem z6h {t : TypeId} {x y : Operand} {k : IntKind} {a b : Int} : dBin P .gtr t x y (.int k a) (.int k b) H = some (.val (.bool (decide (a > b))) H) := by
  simp [dBin, dnil, flat, eqGuard, binOp, Op.intCmp, Sem.bind]; rfl
theorem z6i {t : TypeId} {x y : Operand} {k : IntKind} {a b : Int} : dBin P .sub t x y (.int k a) (.int k b) H = some (.val (.int k (k.wrap (a - b))) H) := by
  simp [dBin, dnil, flat, eqGuard, binOp, Op.intArith, Sem.bind]; rfl
theorem z6j {t : TypeId} {x y : Operand} {k : IntKind} {a b : Int} : dBin P .mul t x y (.int k a) (.int k b) H = some (.val (.int k (k.wrap (a * b))) H) := by
  simp [dBin, dnil, flat, eqGuard, binOp, Op.intArith, Sem.bind]; rfl
theorem z6k {t : TypeId} {x y : Operand} {k : IntKind} {a b : Int} : dBin P .leq t x y (.int k a) (.int k b) H = some (.val (.bool (decide (a ≤ b))) H) := by
  simp [dBin, dnil, flat, eqGuard, binOp, Op.intCmp, Sem.bind]; rfl
theorem z6l {t : TypeId} {x y : Operand} {k : IntKind} {a b : Int} : dBin P .geq t x y (.int k a) (.int k b) H = some (.val (.bool (decide (a ≥ b))) H) := by
  simp [dBin, dnil, flat, eqGuard, binOp, Op.intCmp, Sem.bind]; rfl
theorem z6m {t : TypeId} {x y : Operand} {k : IntKind} {a b : Int} : dBin P .eql t x y (.int k a) (.int k b) H = some (.val (.bool (a == b)) H) := by
  simp [dBin, dnil, flat, eqGuard, binOp, Op.intCmp, Sem.bind]; rfl
theorem z6n {t : TypeId} {x y : Operand} {k : IntKind} {a b : Int} : dBin P .neq t x y (.int k a) (.int k b) H = some (.val (.bool (a != b)) H) := by
  simp [dBin, dnil, flat, eqGuard, binOp, Op.intCmp, Sem.bind]; rfl
theorem z88 {t : TypeId} {x y : Operand} {a b : ByteArray} : dBin P .neq t x y (.string a) (.string b) H = some (.val (.bool (!(a.toList == b.toList))) H) := by
  simp [dBin, dnil, flat, eqGuard, binOp, Op.stringOp, Sem.bind]; rfl
def dUn (P : Program) (op : UnOp) (v : Value) (H : Heap) : Option Dr := dOut (flat v && true) (pureRun P (do let r ← Op.unary op v; pure (Next.value r))) H
theorem z9k {op : UnOp} {t : TypeId} {a : Operand} : dop P ⟨d, .unOp op t a, ty, pos, af, g⟩ ρ H = dUn P op (ρ a) H := _root_.id rfl
theorem z9l {b : Bool} : dUn P .not (.bool b) H = some (.val (.bool (!b)) H) := _root_.id rfl
def dExt (t : Value) (i : Nat) (H : Heap) : Option Dr := match t with | .tuple vs => (vs.toList[i]?).map (.val · H) | _ => none
theorem z3b {a : Operand} {i : Nat} : dop P ⟨d, .extract a i, ty, pos, af, g⟩ ρ H = dExt (ρ a) i H := _root_.id rfl
theorem z9m {a : Value} {l : List Value} : dExt (.tuple ⟨a :: l⟩) 0 H = some (.val a H) := _root_.id rfl
theorem z9n {a b : Value} {l : List Value} : dExt (.tuple ⟨a :: b :: l⟩) 1 H = some (.val b H) := _root_.id rfl
theorem z9o {a b c : Value} {l : List Value} : dExt (.tuple ⟨a :: b :: c :: l⟩) 2 H = some (.val c H) := _root_.id rfl
def dMin (P : Program) (ats : Array TypeId) (ty : TypeId) (v w : Value) (H : Heap) : Option Dr := dOut (flat v && (flat w && true)) (pureRun P (do let r ← Builtin.min_ ats ty #[v, w]; pure (Next.value r))) H
theorem z9v {ats : Array TypeId} {a b : Operand} : dop P ⟨d, .call ⟨.builtin .min, #[a, b], ats⟩, ty, pos, af, g⟩ ρ H = dMin P ats ty (ρ a) (ρ b) H := by
  have e : dop P ⟨d, .call ⟨.builtin .min, #[a, b], ats⟩, ty, pos, af, g⟩ ρ H = dflat P ⟨d, .call ⟨.builtin .min, #[a, b], ats⟩, ty, pos, af, g⟩ ρ H := rfl
  rw [e, z3a, BigFrame.execOp_builtin, BigFrame.builtin_min]
  simp [allFlat, Op.operands, Call.operands, dMin]
theorem z9w {ats : Array TypeId} {k k' : IntKind} {a b : Int} : dMin P ats ty (.int k a) (.int k' b) H = some (.val (.int k (if b < a then b else a)) H) := by
  unfold dMin
  simp [Builtin.min_, Builtin.min2, flat, dOut]; rfl
theorem z98 {n : Int} (h1 : -9223372036854775808 ≤ n) (h2 : n ≤ 9223372036854775807) : IntKind.i64.wrap n = n := by
  exact IntWalk.i64_in _ ⟨h1, h2⟩
end
end Go.Hb
end

-- Sop2
section
namespace Go.Hb
open Go Go.RowKit
section
variable {P : Program} {ok : Ok} {x : Ctx} {ops : Array Oper} {os : List Oper} {tm : Tr Value} {ds : List Deferred} {H H' : Heap} {K : Tr Value → List Deferred → Heap → Prop} {w : Bool}
theorem z0d {c : Code} {st : St} {Q : Ex → St → Prop} (h : EvC P ok x c st Q) : EvC P ok x c st Q := h
theorem z4z {d : Option Tmp} {r : Option Dr} (h : LX P ok x ops d os tm ds H K r) : LX P ok x ops d os tm ds H K r := h
theorem zal {o : Oper} {g : Option Value} (h : LG P ok x ops o os tm ds H K w g) : LG P ok x ops o os tm ds H K w g := h
theorem z89 {fn : Func} {r q : Tmp} {v u : Value} {KK : Value → Heap → Prop} (h : fn.results.toList = [.tmp r, .tmp q]) (hv : tm.get r = some v) (hu : tm.get q = some u) (hk : KK (.tuple ⟨[v, u]⟩) H) : Ex.leave P ok fn KK .ret ⟨tm, [], H⟩ :=
  EvV.now (v := .tuple ⟨[v, u]⟩) (by rw [z97 h, hv, hu]; rfl) hk
end
section
variable {P : Program} {d : Option Tmp} {ty : TypeId} {pos : String} {af : Array Edge} {g : Option (Nat × Bool)} {ρ : Operand → Value} {H : Heap}
theorem z8a {o n : Nat} {cs : List Value} {e : TypeId} : (H.new (some (.row cs e))).load ⟨H.next, o, none⟩ n = cutC cs o n := by rw [z4b, if_pos rfl]
theorem z1e {b : Nat} {B : Option Blk} (h : b < H.next) : (H.new B).get b = H.get b := by rw [get_new, if_neg (by omega)]
theorem z3c {B : Option Blk} : (H.new B).get H.next = B := by rw [get_new, if_pos rfl]
theorem z50 {b i : Nat} {B : Option Blk} (h : b ≠ i) : (H.put i B).get b = H.get b := by rw [get_put, if_neg h]
theorem z8b {b : Nat} {B : Option Blk} : (H.put b B).get b = B := by rw [get_put, if_pos rfl]
theorem z1x {t : TypeId} {n : Nat} (h : isAgg? P t = some true) (hn : P.cellsOf t = n) {ad : Addr} : dLoad P t (.pointer (some ad)) H = dloadA n (H.load ad n) H := by rw [z85 h, hn]
theorem z1l {t : TypeId} {n : Nat} (h : (P.info? t).isSome = true) (hn : P.cellsOf t = n) {b o : Nat} {cs : List Value} :
    dStore P t (.pointer (some ⟨b, o, none⟩)) (.agg ⟨cs⟩) H = dStoreIf (Nat.beq cs.length n) ⟨b, o, none⟩ cs H (H.get b) := by rw [z7c h, hn]
def dGet1 (v : Option Value) (H : Heap) : Option Dr := v.map (.val · H)
theorem z3u {v : Value} : dGet1 (some v) H = some (.val v H) := _root_.id rfl
def layC (pl : List (Nat × Nat)) : List Value → List (Nat × List Value) → Option (List Value)
  | cells, [] => some cells
  | cells, (i, v) :: rest => match pl[i]? with
    | some (off, size) => if v.length = size ∧ off + v.length ≤ cells.length then layC pl (splice cells off v) rest else none
    | none => none
theorem z6o : ∀ (vs : List Value) (off j : Nat) (cells : Array Value), off + j + vs.length ≤ cells.size →
    ((vs.zipIdx j).foldl (fun cs (p : Value × Nat) => cs.setIfInBounds (off + p.2) p.1) cells).toList = splice cells.toList (off + j) vs
  | [], off, j, cells, h => by
    rw [z0m _ _ _ (by simp at h ⊢; omega)]
    simp
  | v :: vs, off, j, cells, h => by
    have h' : off + j + (vs.length + 1) ≤ cells.size := by simpa using h
    rw [List.zipIdx_cons, List.foldl_cons]
    have ih := z6o vs off (j + 1) (cells.setIfInBounds (off + j) v) (by simp; omega)
    rw [ih, z0m _ _ _ (by simp; omega), z0m _ _ _ (by simp; omega)]
    simp only [Array.toList_setIfInBounds, List.length_cons]
    rw [List.set_eq_take_append_cons_drop, if_pos (by simp; omega)]
    apply List.ext_getElem?
    intro k
    simp only [List.getElem?_append, List.getElem?_take, List.getElem?_drop, List.length_take, List.length_append, List.length_cons, List.length_drop, Array.length_toList, List.getElem?_cons]
    grind
theorem z4c {place : Nat → Option (Nat × Nat)} {pl : List (Nat × Nat)} (hp : ∀ i, place i = pl[i]?) : ∀ (parts : List (Nat × Value)) (cells : Array Value), (Instr.fill place cells parts).map (·.toList) = layC pl cells.toList (parts.map fun p => (p.1, p.2.cells.toList))
  | [], cells => rfl
  | (i, v) :: rest, cells => by
    rw [Instr.fill, hp i, List.map_cons, layC]
    cases hi : pl[i]? with
    | none => rfl
    | some os =>
      obtain ⟨off, size⟩ := os
      simp only
      by_cases hc : v.cells.size = size ∧ off + v.cells.size ≤ cells.size
      · obtain ⟨h1, h2⟩ := hc
        rw [if_neg (by simp [h1]; omega), if_pos ⟨by simpa using h1, by simpa using h2⟩, z4c hp rest]
        congr 1
        have := z6o v.cells.toList off 0 cells (by simpa using h2)
        rw [← Array.foldl_toList, Array.toList_zipIdx]
        exact this
      · rw [if_pos (by
          simp
          by_cases h : v.cells.size = size
          · exact .inr (by omega)
          · exact .inl h), if_neg (by simpa using hc)]
        rfl
def bdPl (P : Program) (t : TypeId) : Option (List (Nat × Nat)) :=
  match P.underlying t with
  | some (.struct fs) => (pureRun P (fs.mapM fun f => do pure (f.offset, ← sizeOf f.type))).map (·.toList)
  | _ => none
def dBuild (P : Program) (t : TypeId) (vs : List (Nat × Value)) (H : Heap) : Option Dr :=
  if vs.all (fun p => p.2.cells.toList.all one) && zflat P t then
    match pureRun P (Instr.build t ⟨vs⟩) with
    | some v => some (.val v H)
    | none => none
  else none
theorem z51 {t : TypeId} {parts : Array (Nat × Operand)} : dop P ⟨d, .build t parts, ty, pos, af, g⟩ ρ H = dBuild P t (parts.toList.map fun p => (p.1, ρ p.2)) H := by
  have e1 : (parts.toList.all fun p => (ρ p.2).cells.toList.all one) = ((parts.toList.map fun p => (p.1, ρ p.2)).all fun p => p.2.cells.toList.all one) := by rw [List.all_map]; rfl
  have e2 : (parts.map fun (i, x) => (i, ρ x)) = ⟨parts.toList.map fun p => (p.1, ρ p.2)⟩ := by
    apply Array.ext'
    simp
  simp only [dop, dBuild, e1, e2]
  rfl
def dBd (c : Bool) (r : Option (List Value)) (H : Heap) : Option Dr := match c, r with | true, some cs => some (.val (.agg ⟨cs⟩) H) | _, _ => none
theorem z6p {cs : List Value} : dBd true (some cs) H = some (.val (.agg ⟨cs⟩) H) := _root_.id rfl
theorem z3d {t : TypeId} {pl : List (Nat × Nat)} {zs : List Value} {vs : List (Nat × Value)} (hp : bdPl P t = some pl) (hz : zerosOf P t = some zs) :
    dBuild P t vs H = dBd (vs.all fun p => p.2.cells.toList.all one) (layC pl zs (vs.map fun p => (p.1, p.2.cells.toList))) H := by
  unfold zerosOf at hz
  split at hz
  · rename_i z hzv
    split at hz
    · rename_i hfl
      cases hz
      rw [Bool.and_eq_true] at hfl
      have hzf : zflat P t = true := by unfold zflat; rw [hzv]; exact hfl.1
      unfold dBuild
      rw [hzf, Bool.and_true]
      cases hall : (vs.all fun p => p.2.cells.toList.all one) with
      | false => rfl
      | true =>
        rw [if_pos rfl]
        unfold bdPl at hp
        split at hp
        · rename_i fs hu
          cases hm : pureRun P (fs.mapM fun f => do pure (f.offset, ← sizeOf f.type)) with
          | none => rw [hm] at hp; cases hp
          | some places =>
            rw [hm] at hp
            cases hp
            have hf := z4c (place := (places[·]?)) (pl := places.toList) (fun i => by simp) vs z.cells
            simp only [Instr.build, z0f, hzv, z2a hu, Option.bind_some, hm]
            rw [← hf]
            cases Instr.fill (places[·]?) z.cells vs with
            | none => rfl
            | some cells => rfl
        · cases hp
    · cases hz
  · cases hz
def dBuildS (P : Program) (t : TypeId) (len : Nat) (vs : List (Nat × Value)) (H : Heap) : Option Dr :=
  match P.underlying t with
  | some (.slice e) => match P.info? e with
    | some i => match i.zero with
      | some z =>
        let size := i.size
        if len ≤ most ∧ len * size ≤ most ∧ flat z = true ∧ z.cells.size = size ∧ z.cells.toList.all one = true ∧ vs.all (fun p => p.2.cells.toList.all one) = true then
          match Instr.fill (fun i => some (i * size, size)) ((Array.range (len * size)).map (z.cells[· % z.cells.size]!)) vs with
          | some cells => some (.val (.slice (some ⟨H.next, 0, none⟩) len len) (H.new (some (.row cells.toList e))))
          | none => none
        else none
      | none => none
    | none => none
  | _ => none
theorem z1q {t : TypeId} {len : Nat} {parts : Array (Nat × Operand)} : dop P ⟨d, .buildSlice t len parts, ty, pos, af, g⟩ ρ H = dBuildS P t len (parts.toList.map fun p => (p.1, ρ p.2)) H := by
  have e1 : (parts.toList.all fun p => (ρ p.2).cells.toList.all one) = ((parts.toList.map fun p => (p.1, ρ p.2)).all fun p => p.2.cells.toList.all one) := by rw [List.all_map]; rfl
  simp only [dop, dBuildS, e1]
  rfl
def bsZs (P : Program) (t : TypeId) (len : Nat) : Option (TypeId × Nat × List Value) :=
  match P.underlying t with
  | some (.slice e) => match P.info? e with
    | some i => match i.zero with
      | some z => if len ≤ most ∧ len * i.size ≤ most ∧ flat z = true ∧ z.cells.size = i.size ∧ z.cells.toList.all one = true then some (e, i.size, (List.range (len * i.size)).map (z.cells[· % z.cells.size]!)) else none
      | none => none
    | none => none
  | _ => none
def placesN (size : Nat) : Nat → Nat → List (Nat × Nat)
  | 0, _ => []
  | n + 1, o => (o, size) :: placesN size n (o + size)
theorem z3e (size : Nat) : ∀ (n o i : Nat), (placesN size n o)[i]? = if i < n then some (o + i * size, size) else none
  | 0, o, i => by simp [placesN]
  | n + 1, o, 0 => by simp [placesN]
  | n + 1, o, i + 1 => by
    rw [placesN, List.getElem?_cons_succ, z3e size n (o + size) i]
    by_cases h : i < n
    · rw [if_pos h, if_pos (by omega), Nat.succ_mul]; congr 2; omega
    · rw [if_neg h, if_neg (by omega)]
def dBs (e : TypeId) (n : Nat) (c : Bool) (r : Option (List Value)) (H : Heap) : Option Dr := match c, r with | true, some cs => some (.val (.slice (some ⟨H.next, 0, none⟩) n n) (H.new (some (.row cs e)))) | _, _ => none
theorem z6q {e : TypeId} {n : Nat} {cs : List Value} : dBs e n true (some cs) H = some (.val (.slice (some ⟨H.next, 0, none⟩) n n) (H.new (some (.row cs e)))) := _root_.id rfl
theorem z8c {size n : Nat} : ∀ (parts : List (Nat × Value)) (cells : Array Value), parts.all (fun p => Nat.blt p.1 n) = true →
    Instr.fill (fun i => some (i * size, size)) cells parts = Instr.fill (fun i => (placesN size n 0)[i]?) cells parts
  | [], cells, _ => rfl
  | (i, v) :: rest, cells, h => by
    simp only [List.all_cons, Bool.and_eq_true] at h
    have hi : i < n := of_eq_true (by rw [← Nat.blt_eq, h.1]; simp)
    rw [Instr.fill, Instr.fill, z3e, if_pos hi, Nat.zero_add]
    simp only
    split
    · rfl
    · exact z8c rest _ h.2
theorem z7e {t e : TypeId} {len size : Nat} {zs : List Value} {vs : List (Nat × Value)} (h : bsZs P t len = some (e, size, zs)) (hv : vs.all (fun p => Nat.blt p.1 len) = true) :
    dBuildS P t len vs H = dBs e len (vs.all fun p => p.2.cells.toList.all one) (layC (placesN size len 0) zs (vs.map fun p => (p.1, p.2.cells.toList))) H := by
  unfold bsZs at h
  split at h
  · rename_i e' h1
    split at h
    · rename_i i h2
      split at h
      · rename_i z h3
        split at h
        · rename_i hc
          obtain ⟨h5, h6, h7, h8, h9⟩ := hc
          simp only [Option.some.injEq, Prod.mk.injEq] at h
          obtain ⟨rfl, rfl, rfl⟩ := h
          simp only [dBuildS, h1, h2, h3]
          cases hall : (vs.all fun p => p.2.cells.toList.all one) with
          | false => rw [if_neg (by simp)]; rfl
          | true =>
            rw [if_pos ⟨h5, h6, h7, h8, h9, rfl⟩, z8c vs _ hv]
            have hf := z4c (place := ((placesN i.size len 0)[·]?)) (pl := placesN i.size len 0) (fun i => rfl) vs ((Array.range (len * i.size)).map (z.cells[· % z.cells.size]!))
            rw [Array.toList_map, Array.toList_range] at hf
            rw [← hf]
            cases Instr.fill ((placesN i.size len 0)[·]?) ((Array.range (len * i.size)).map (z.cells[· % z.cells.size]!)) vs with
            | none => rfl
            | some cells => rfl
        · cases h
      · cases h
    · cases h
  · cases h
def dSl (P : Program) (t : TypeId) (v : Value) (lo hi mx : Option Value) (H : Heap) : Option Dr :=
  match v with
  | .string s => dOut ((lo.toList ++ (hi.toList ++ mx.toList)).all flat) (pureRun P (do let r ← Instr.sliceAt t (.string s) lo hi mx; pure (Next.value r))) H
  | v => dslice P t v lo hi mx H
def slcOk (P : Program) (t e : TypeId) (s : Nat) : Prop := P.underlying t = some (.slice e) ∧ (P.info? e).isSome = true ∧ P.cellsOf e = s
theorem z52 {t : TypeId} {v : Operand} {lo hi mx : Option Operand} : dop P ⟨d, .slice t v lo hi mx, ty, pos, af, g⟩ ρ H = dSl P t (ρ v) (lo.map ρ) (hi.map ρ) (mx.map ρ) H := by
  cases h : ρ v with
  | string s =>
    have e : dop P ⟨d, .slice t v lo hi mx, ty, pos, af, g⟩ ρ H = dflat P ⟨d, .slice t v lo hi mx, ty, pos, af, g⟩ ρ H := by simp only [dop, h]
    rw [e, z3a]
    have e1 : allFlat ρ ⟨d, .slice t v lo hi mx, ty, pos, af, g⟩ = (((lo.map ρ).toList ++ ((hi.map ρ).toList ++ (mx.map ρ).toList)).all flat) := by
      unfold allFlat
      cases lo <;> cases hi <;> cases mx <;> simp [Op.operands, h, flat]
    have e2 : execOp ρ ⟨d, .slice t v lo hi mx, ty, pos, af, g⟩ = (do let r ← Instr.sliceAt t (.string s) (lo.map ρ) (hi.map ρ) (mx.map ρ); pure (Next.value r)) := by rw [← h]; rfl
    rw [e1, e2]; rfl
  | _ => simp only [dop, h, dSl]
def dAp (P : Program) (ts : Array TypeId) (s v : Value) (H : Heap) : Option Dr :=
  match ts.toList with
  | [t, xt] => match dzeros P t xt s v H with
    | some r => some r
    | none => dappend P ts s v H
  | _ => none
theorem z3v {s v : Operand} {ts : Array TypeId} : dop P ⟨d, .call ⟨.builtin .append, #[s, v], ts⟩, ty, pos, af, g⟩ ρ H = dAp P ts (ρ s) (ρ v) H := _root_.id rfl
def apSz (P : Program) (t : TypeId) : Option (TypeId × Nat) :=
  match P.underlying t with
  | some (.slice e) => match P.info? e with
    | some i => if i.bytes ≤ 4096 ∧ 0 < i.size ∧ zsize i = i.size then some (e, i.size) else none
    | none => none
  | _ => none
def apOk (P : Program) (t e : TypeId) (s : Nat) : Prop := ∃ i, P.underlying t = some (.slice e) ∧ P.info? e = some i ∧ i.size = s ∧ i.bytes ≤ 4096 ∧ 0 < s ∧ zsize i = s
theorem z9x {t e : TypeId} {s : Nat} (h : apSz P t = some (e, s)) : apOk P t e s := by
  unfold apSz at h
  split at h
  · rename_i e' h1
    split at h
    · rename_i i h2
      split at h
      · rename_i hc
        simp only [Option.some.injEq, Prod.mk.injEq] at h
        obtain ⟨rfl, rfl⟩ := h
        exact ⟨i, h1, h2, rfl, hc.1, hc.2.1, hc.2.2⟩
      · cases h
    · cases h
  · cases h
theorem z2n {t xt : TypeId} {s : Value} {a : Option Addr} {n c : Nat} : dzeros P t xt s (.slice a n c) H = none := by
  unfold dzeros
  split
  · rename_i h; simp [intBetween] at h
  · rfl
theorem z9y {t e : TypeId} {s : Nat} {ad : Addr} {m c' : Nat} {news : List Value} (h : apOk P t e s) (hm : 0 < m) (hmost : m ≤ most) (hl : H.load ad (m * s) = some news) (hone : news.all one = true) :
    dAp P #[t, t] (.slice none 0 0) (.slice (some ad) m c') H = some (.val (.slice (some ⟨H.next, 0, none⟩) m m) (H.new (some (.row news e)))) := by
  obtain ⟨i, h1, h2, h3, h4, h5, h6⟩ := h
  subst h3
  have e0 : Nat.beq m 0 = false := by rw [← Bool.not_eq_true, Nat.beq_eq]; omega
  have hlen : news.length = m * i.size := by
    unfold Heap.load at hl
    split at hl
    · simp only at hl
      split at hl
      · rename_i hh; cases hl; rw [Nat.beq_eq] at hh; exact hh
      · cases hl
    · cases hl
  simp only [dAp, z2n, dappend, h1, h2, Nat.beq_refl, e0, dsource, hl]
  simp [hmost, h4, h5, h6, hlen, hone]
theorem z9z {t e : TypeId} {s b : Nat} {ad : Addr} {n c m c' : Nat} {cs news : List Value} (h : apOk P t e s) (hm : 0 < m) (hmost : n + m ≤ most) (hl : H.load ad (m * s) = some news) (hone : news.all one = true)
    (hb : H.get b = some (.row cs e)) (hn : n * s ≤ cs.length) (hone' : (cs.take (n * s)).all one = true) :
    dAp P #[t, t] (.slice (some ⟨b, 0, none⟩) n c) (.slice (some ad) m c') H = some (.val (.slice (some ⟨H.next, 0, none⟩) (n + m) (n + m)) ((H.put b none).new (some (.row (cs.take (n * s) ++ news) e)))) := by
  obtain ⟨i, h1, h2, h3, h4, h5, h6⟩ := h
  subst h3
  have e0 : Nat.beq m 0 = false := by rw [← Bool.not_eq_true, Nat.beq_eq]; omega
  have hlen : news.length = m * i.size := by
    unfold Heap.load at hl
    split at hl
    · simp only at hl
      split at hl
      · rename_i hh; cases hl; rw [Nat.beq_eq] at hh; exact hh
      · cases hl
    · cases hl
  simp only [dAp, z2n, dappend, h1, h2, Nat.beq_refl, e0, dsource, hl, hb]
  simp [hmost, h4, h5, h6, hlen, hone, hn, hone']
def repL (n : Nat) (zs : List Value) : List Value := (List.replicate n zs).flatten
def dMk (P : Program) (t : TypeId) (l c : Value) (H : Heap) : Option Dr :=
  match P.underlying t with
  | some (.slice e) => match P.info? e, intBetween c most with
    | some i, some cap => match i.zero, intBetween l cap with
      | some z, some len =>
        let size := i.size
        if flat z = true ∧ z.cells.size = size ∧ i.bytes ≤ 4096 ∧ z.cells.toList.all one = true then
          some (.val (.slice (some ⟨H.next, 0, none⟩) len cap) (H.new (some (.row ((List.range (cap * size)).map (z.cells[· % z.cells.size]!)) e))))
        else none
      | _, _ => none
    | _, _ => none
  | _ => none
theorem z2b {t : TypeId} {l c : Operand} : dop P ⟨d, .makeSlice t l c, ty, pos, af, g⟩ ρ H = dMk P t (ρ l) (ρ c) H := _root_.id rfl
def mkZs (P : Program) (t : TypeId) : Option (TypeId × List Value) :=
  match P.underlying t with
  | some (.slice e) => match P.info? e with
    | some i => match i.zero with
      | some z => if flat z = true ∧ z.cells.size = i.size ∧ i.bytes ≤ 4096 ∧ z.cells.toList.all one = true ∧ 0 < i.size then some (e, z.cells.toList) else none
      | none => none
    | none => none
  | _ => none
def mkOk (P : Program) (t e : TypeId) (zs : List Value) : Prop := ∃ i z, P.underlying t = some (.slice e) ∧ P.info? e = some i ∧ i.zero = some z ∧ flat z = true ∧ z.cells.size = i.size ∧ i.bytes ≤ 4096 ∧ z.cells.toList.all one = true ∧ z.cells.toList = zs ∧ 0 < i.size
def dCp (P : Program) (ts : Array TypeId) (a b : Value) (H : Heap) : Option Dr := dcopy P ts a b H
theorem z6r {a b : Operand} {ts : Array TypeId} : dop P ⟨d, .call ⟨.builtin .copy, #[a, b], ts⟩, ty, pos, af, g⟩ ρ H = dCp P ts (ρ a) (ρ b) H := _root_.id rfl
def dClr (P : Program) (ts : Array TypeId) (a : Value) (H : Heap) : Option Dr := dclear P ts a H
theorem z2o {f : FuncId} {a b : Array Operand} : dop P ⟨d, .makeFunc (.func f) a b, ty, pos, af, g⟩ ρ H = some (.val (.func (.func f) (a.map ρ) (b.map ρ)) H) := _root_.id rfl
def dCallV (P : Program) (o : Oper) (ρ : Operand → Value) (f : Value) (args : List Value) (H : Heap) : Option Dr :=
  match f with
  | .func (.func f) first captured =>
    match dcall1 P f (first.toList ++ args ++ captured.toList) with
    | some r => some r
    | none => dflat P o ρ H
  | .func (.yield l) first _ => some (.yield l (first.toList ++ args))
  | _ => none
end
end Go.Hb
end

-- Sop3
section
namespace Go.Hb
open Go Go.RowKit
section
variable {P : Program} {H : Heap} {ρ : Operand → Value} {d : Option Tmp} {ty : TypeId} {pos : String} {af : Array Edge} {g : Option (Nat × Bool)}
def byteAt (s : ByteArray) (i : Nat) : Nat := (s.data.toList.getD i 0).toNat
def dIdx (P : Program) (t : TypeId) (v i : Value) (H : Heap) : Option Dr :=
  match P.underlying t, v with
  | some (.array n e), .agg cs => match intBetween i (n - 1), Nat.beq n 0 with
    | some i, false => (dpart P e cs (i * P.cellsOf e)).map (.val · H)
    | _, _ => none
  | _, v => dOut (flat v && (flat i && true)) (pureRun P (do let r ← Instr.index t v i; pure (Next.value r))) H
theorem z53 {t : TypeId} {x i : Operand} : dop P ⟨d, .index t x i, ty, pos, af, g⟩ ρ H = dIdx P t (ρ x) (ρ i) H := by
  have e : dflat P ⟨d, .index t x i, ty, pos, af, g⟩ ρ H = dOut (flat (ρ x) && (flat (ρ i) && true)) (pureRun P (do let r ← Instr.index t (ρ x) (ρ i); pure (Next.value r))) H := rfl
  show (match P.underlying t, ρ x with | some (.array n e), .agg cs => _ | _, _ => _) = _
  rw [e]
  unfold dIdx
  split <;> rfl
def dCon (P : Program) (src dst : TypeId) (v : Value) (H : Heap) : Option Dr :=
  match P.underlying src, P.underlying dst, v with
    | some (.slice e), some .string, .slice a n c => match P.underlying e with
      | some (.int .u8) => (dbytes (.slice a n c) H).map (.val · H)
      | _ => none
    | _, some (.slice _), _ => none
    | _, _, v => dOut (flat v && true) (pureRun P (do let r ← convert src dst v; pure (Next.value r))) H
theorem z3f {src dst : TypeId} {x : Operand} : dop P ⟨d, .convert src dst x, ty, pos, af, g⟩ ρ H = dCon P src dst (ρ x) H := by
  have e : dflat P ⟨d, .convert src dst x, ty, pos, af, g⟩ ρ H = dOut (flat (ρ x) && true) (pureRun P (do let r ← convert src dst (ρ x); pure (Next.value r))) H := rfl
  show (match P.underlying src, P.underlying dst, ρ x with | some (.slice e), some .string, .slice a n c => _ | _, some (.slice _), _ => _ | _, _, _ => _) = _
  rw [e]
  unfold dCon
  split <;> rfl
def kAnd (k : IntKind) (a b : Int) : Int := k.wrap (BitVec.ofInt k.bits a &&& BitVec.ofInt k.bits b).toNat
def kOr (k : IntKind) (a b : Int) : Int := k.wrap (BitVec.ofInt k.bits a ||| BitVec.ofInt k.bits b).toNat
theorem z5q {α β : Type} (f : α → β) (s : Sem α) : pureRun P (Functor.map f s) = (pureRun P s).map f := by
  show pureRun P (s >>= fun a => pure (f a)) = _
  rw [z0f]
  cases pureRun P s <;> rfl
end
section
open IntWalk
end
def bytesV (l : List Nat) : List Value := l.map fun n : Nat => Value.int .u8 (n : Int)
end Go.Hb
end

-- Own
section
namespace Go.Hb
open Go Go.RowKit
structure OwnS (H : Heap) (e : TypeId) (s base : Nat) (L : List (List Value)) (b c : Nat) : Prop where
  lo : base ≤ b
  hi : b < H.next
  row : ∃ cs, H.get b = some (.row cs e) ∧ L.length * s ≤ cs.length ∧ cs.take (L.length * s) = L.flatten
  len : L.length ≤ c
  cap : c ≤ maxLen
  sz : ∀ x ∈ L, x.length = s
  all : ∀ x ∈ L, x.all one = true
def RepO (H : Heap) (e : TypeId) (s base : Nat) (L : List (List Value)) (v : Value) : Prop :=
  (L = [] ∧ v = .slice none 0 0) ∨ ∃ b c, OwnS H e s base L b c ∧ v = .slice (some ⟨b, 0, none⟩) L.length c
theorem z2s {s : Nat} : ∀ (L : List (List Value)), (∀ x ∈ L, x.length = s) → L.flatten.length = L.length * s
  | [], _ => by simp
  | x :: L, h => by
    rw [List.flatten_cons, List.length_append, h x (by simp), z2s L fun y hy => h y (List.mem_cons_of_mem _ hy), List.length_cons, Nat.succ_mul]; omega
theorem z5r {s : Nat} : ∀ (L : List (List Value)) (i : Nat) (x : List Value), (∀ x ∈ L, x.length = s) → L[i]? = some x → (L.flatten.drop (i * s)).take s = x
  | [], i, x, _, h => by simp at h
  | y :: L, 0, x, hs, h => by
    simp at h; subst h
    rw [Nat.zero_mul, List.drop_zero, List.flatten_cons, List.take_append_of_le_length (by rw [hs y (by simp)]; exact Nat.le_refl _), List.take_of_length_le (by rw [hs y (by simp)]; exact Nat.le_refl _)]
  | y :: L, i + 1, x, hs, h => by
    simp at h
    have hy : y.length = s := hs y (by simp)
    rw [List.flatten_cons, Nat.succ_mul, Nat.add_comm, ← List.drop_drop, List.drop_left' hy]
    exact z5r L i x (fun z hz => hs z (List.mem_cons_of_mem _ hz)) h
theorem z6s {s : Nat} : ∀ (L : List (List Value)) (i : Nat) (x : List Value), (∀ x ∈ L, x.length = s) → x.length = s → i < L.length → splice L.flatten (i * s) x = (L.set i x).flatten
  | [], i, x, _, _, h => by simp at h
  | y :: L, 0, x, hs, hx, h => by
    have hy : y.length = s := hs y (by simp)
    rw [Nat.zero_mul, z1w, List.flatten_cons, List.set_cons_zero, List.flatten_cons, hx, ← hy, List.drop_left]
  | y :: L, i + 1, x, hs, hx, h => by
    have hy : y.length = s := hs y (by simp)
    have hs' : ∀ z ∈ L, z.length = s := fun z hz => hs z (List.mem_cons_of_mem _ hz)
    have hi : i < L.length := by simpa using h
    have hL := z2s L hs'
    have hb : i * s + s ≤ L.length * s := by rw [← Nat.succ_mul]; exact Nat.mul_le_mul_right _ hi
    rw [List.set_cons_succ, List.flatten_cons, List.flatten_cons, ← z6s L i x hs' hx hi, z0m _ _ _ (by rw [List.length_append, hy, hL, Nat.succ_mul]; omega), z0m _ _ _ (by rw [hL]; omega), Nat.succ_mul]
    rw [List.take_append, List.drop_append, hy]
    have e1 : i * s + s - s = i * s := by omega
    have e2 : i * s + s + x.length - s = i * s + x.length := by omega
    rw [e1, e2, List.take_of_length_le (by omega), List.drop_eq_nil_of_le (by omega)]
    simp
theorem z5s {cs vs : List Value} {o n : Nat} (h : o + vs.length ≤ n) (hn : n ≤ cs.length) : (splice cs o vs).take n = splice (cs.take n) o vs := by
  rw [z0m _ _ _ (by omega), z0m _ _ _ (by rw [List.length_take]; omega)]
  apply List.ext_getElem?
  intro k
  simp only [List.getElem?_append, List.getElem?_take, List.getElem?_drop, List.length_take, List.length_append, List.length_drop]
  grind
theorem z7f {cs vs : List Value} {o : Nat} (h : o + vs.length ≤ cs.length) : (splice cs o vs).length = cs.length := by
  rw [z0m _ _ _ (by omega)]; simp; omega
section
variable {H : Heap} {e : TypeId} {s base b c : Nat} {L : List (List Value)}
theorem OwnS.load (h : OwnS H e s base L b c) {i : Nat} {x : List Value} (hx : L[i]? = some x) : H.load ⟨b, i * s, none⟩ s = some x := by
  obtain ⟨cs, hg, hl, ht⟩ := h.row
  have hi : i < L.length := (List.getElem?_eq_some_iff.1 hx).1
  have hle : i * s + s ≤ L.length * s := by rw [← Nat.succ_mul]; exact Nat.mul_le_mul_right _ hi
  have hc : H.cells b = some cs := by unfold Heap.cells; rw [hg]
  have e1 : (cs.drop (i * s)).take s = x := by
    rw [← z5r L i x h.sz hx, ← ht, List.drop_take, List.take_take]
    congr 1
    omega
  unfold Heap.load
  simp only [hc, e1]
  rw [if_pos (by rw [Nat.beq_eq]; exact h.sz x (List.mem_of_getElem? hx))]
theorem OwnS.part (h : OwnS H e s base L b c) {i j n : Nat} {x : List Value} (hx : L[i]? = some x) (hj : j + n ≤ s) : H.load ⟨b, i * s + j, none⟩ n = some ((x.drop j).take n) := by
  obtain ⟨cs, hg, hl, ht⟩ := h.row
  have hi : i < L.length := (List.getElem?_eq_some_iff.1 hx).1
  have hle : i * s + s ≤ L.length * s := by rw [← Nat.succ_mul]; exact Nat.mul_le_mul_right _ hi
  have hc : H.cells b = some cs := by unfold Heap.cells; rw [hg]
  have e1 : (cs.drop (i * s + j)).take n = (x.drop j).take n := by
    rw [← z5r L i x h.sz hx, ← ht, List.drop_take, List.drop_take, List.take_take, List.drop_take, List.take_take, List.drop_drop]
    congr 1
    omega
  have hxl := h.sz x (List.mem_of_getElem? hx)
  unfold Heap.load
  simp only [hc, e1]
  rw [if_pos (by rw [Nat.beq_eq]; simp; omega)]
theorem OwnS.set (h : OwnS H e s base L b c) {cs : List Value} (hg : H.get b = some (.row cs e)) {i : Nat} {y : List Value} (hi : i < L.length) (hy : y.length = s) (ha : y.all one = true) :
    OwnS (H.put b (some (.row (splice cs (i * s) y) e))) e s base (L.set i y) b c := by
  obtain ⟨cs', hg', hl, ht⟩ := h.row
  rw [hg] at hg'; cases hg'
  have hle : i * s + s ≤ L.length * s := by rw [← Nat.succ_mul]; exact Nat.mul_le_mul_right _ hi
  refine ⟨h.lo, h.hi, ⟨_, by rw [z8b], by rw [List.length_set, z7f (by omega)]; exact hl, ?_⟩, by rw [List.length_set]; exact h.len, h.cap, fun x hx => ?_, fun x hx => ?_⟩
  · rw [List.length_set, z5s (by omega) hl, ht, z6s L i y h.sz hy hi]
  · rcases List.mem_or_eq_of_mem_set hx with h1 | h1
    · exact h.sz x h1
    · rw [h1]; exact hy
  · rcases List.mem_or_eq_of_mem_set hx with h1 | h1
    · exact h.all x h1
    · rw [h1]; exact ha
theorem OwnS.heap (h : OwnS H e s base L b c) {H' : Heap} (hg : H'.get b = H.get b) (hn : H.next ≤ H'.next) : OwnS H' e s base L b c := by
  obtain ⟨cs, h1, h2, h3⟩ := h.row
  exact ⟨h.lo, Nat.lt_of_lt_of_le h.hi hn, ⟨cs, hg.trans h1, h2, h3⟩, h.len, h.cap, h.sz, h.all⟩
theorem OwnS.keep (h : OwnS H e s base L b c) {H' : Heap} (hx : HX H H') : OwnS H' e s base L b c := h.heap (hx.keep b h.hi) hx.next
theorem OwnS.take (h : OwnS H e s base L b c) {m : Nat} (hm : m ≤ L.length) : OwnS H e s base (L.take m) b c := by
  obtain ⟨cs, h1, h2, h3⟩ := h.row
  have hl : (L.take m).length = m := by rw [List.length_take]; omega
  have hle : m * s ≤ L.length * s := Nat.mul_le_mul_right _ hm
  refine ⟨h.lo, h.hi, ⟨cs, h1, by rw [hl]; omega, ?_⟩, by rw [hl]; exact Nat.le_trans hm h.len, h.cap, fun x hx => h.sz x (List.mem_of_mem_take hx), fun x hx => h.all x (List.mem_of_mem_take hx)⟩
  rw [hl]
  have h4 : (cs.take (L.length * s)).take (m * s) = L.flatten.take (m * s) := by rw [h3]
  rw [List.take_take, Nat.min_eq_left hle] at h4
  rw [h4]
  have h5 : L.flatten = (L.take m).flatten ++ (L.drop m).flatten := by rw [← List.flatten_append, List.take_append_drop]
  have h6 := z2s (L.take m) fun x hx => h.sz x (List.mem_of_mem_take hx)
  rw [hl] at h6
  rw [h5, List.take_left' h6]
theorem OwnS.push (h : OwnS H e s base L b c) {cs : List Value} (hg : H.get b = some (.row cs e)) {y : List Value} (hy : y.length = s) (ha : y.all one = true) (hm : L.length + 1 ≤ maxLen) (hb : base ≤ H.next) :
    OwnS ((H.put b none).new (some (.row (cs.take (L.length * s) ++ y) e))) e s base (L ++ [y]) H.next (L.length + 1) := by
  obtain ⟨cs', h1, h2, h3⟩ := h.row
  rw [hg] at h1; cases h1
  refine ⟨hb, Nat.lt_succ_self _, ⟨_, z3c, ?_, ?_⟩, by simp, hm, fun x hx => ?_, fun x hx => ?_⟩
  · rw [List.length_append, List.length_append, List.length_take, hy, List.length_singleton, Nat.succ_mul]; omega
  · rw [h3, List.take_of_length_le, List.flatten_append]
    · simp
    · rw [List.length_append, z2s L h.sz, hy, List.length_append, List.length_singleton, Nat.succ_mul]; exact Nat.le_refl _
  · rcases List.mem_append.1 hx with h5 | h5
    · exact h.sz x h5
    · simp at h5; rw [h5]; exact hy
  · rcases List.mem_append.1 hx with h5 | h5
    · exact h.all x h5
    · simp at h5; rw [h5]; exact ha
theorem OwnS.first {y : List Value} (hy : y.length = s) (ha : y.all one = true) (hb : base ≤ H.next) : OwnS (H.new (some (.row y e))) e s base [y] H.next 1 :=
  ⟨hb, Nat.lt_succ_self _, ⟨_, z3c, by simp [hy], by simp [← hy]⟩, by simp, by simp [maxLen], by simpa using hy, by simpa using ha⟩
end
structure RdS (H : Heap) (vs : List Value) (a : Option Addr) (c : Nat) : Prop where
  len : vs.length ≤ c
  cap : c ≤ maxLen
  get : ∀ i v, vs[i]? = some v → ∃ b o, a = some ⟨b, o, none⟩ ∧ H.load ⟨b, o + i, none⟩ 1 = some [v]
theorem RdS.keep {H H' : Heap} {vs : List Value} {a : Option Addr} {c : Nat} (h : RdS H vs a c) (hx : HX H H') (hw : H.wf) : RdS H' vs a c :=
  ⟨h.len, h.cap, fun i v hv => let ⟨b, o, ha, hl⟩ := h.get i v hv; ⟨b, o, ha, hx.load hw hl⟩⟩
theorem RdS.take {H : Heap} {vs : List Value} {a : Option Addr} {c : Nat} (h : RdS H vs a c) (m : Nat) : RdS H (vs.take m) a c :=
  ⟨by have := h.len; simp; omega, h.cap, fun i v hv => h.get i v (by rw [List.getElem?_take] at hv; split at hv; exact hv; cases hv)⟩
theorem RdS.nil {H : Heap} : RdS H [] none 0 := ⟨Nat.le_refl _, Nat.zero_le _, fun i v hv => by simp at hv⟩
end Go.Hb
end

-- Sop4
section
namespace Go.Hb
open Go Go.RowKit
section
variable {P : Program} {ok : Ok} {tm : Tr Value} {H : Heap} {fn : Func} {K : Value → Heap → Prop}
theorem z0j {a q : Tmp} {t : TypeId} {ad : Addr} {v u : Value} (h : fn.results.toList = [.cell a t, .tmp q]) (hv : tm.get a = some (.pointer (some ad))) (hd : dLoad P t (.pointer (some ad)) H = some (.val v H)) (hu : tm.get q = some u)
    (hk : K (.tuple ⟨[v, u]⟩) H) : Ex.leave P ok fn K .ret ⟨tm, [], H⟩ := by
  refine EvV.now (v := .tuple ⟨[v, u]⟩) ?_ hk
  have hd' : dload P t ad H = some v := by
    simp only [dLoad] at hd
    cases hx : dload P t ad H with
    | none => rw [hx] at hd; cases hd
    | some u => rw [hx] at hd; simp only [Option.map_some, Option.some.injEq, Dr.val.injEq] at hd; rw [hd.1]
  simp only [dres, h, dresL, dres1, hv, hd', hu, Option.getD_some]
theorem z99 {a : Addr} {n : Nat} {l : List Value} (h : H.load a n = some l) : l.length = n := by
  unfold Heap.load at h
  split at h
  · simp only at h
    split at h
    · rename_i hh; cases h; rw [Nat.beq_eq] at hh; exact hh
    · cases h
  · cases h
theorem RdS.all {vs : List Value} {a : Option Addr} {c : Nat} (h : RdS H vs a c) (h0 : vs ≠ []) : ∃ b o, a = some ⟨b, o, none⟩ ∧ H.load ⟨b, o, none⟩ vs.length = some vs := by
  match vs, h0, h with
  | v :: r, _, h =>
    obtain ⟨b, o, ha, hl⟩ := h.get 0 v rfl
    refine ⟨b, o, ha, ?_⟩
    have key : ∃ cs, H.cells b = some cs ∧ ∀ i v', (v :: r)[i]? = some v' → cs[o + i]? = some v' := by
      cases hc : H.cells b with
      | none => unfold Heap.load at hl; simp only [hc] at hl; cases hl
      | some cs =>
        refine ⟨cs, rfl, fun i v' hi => ?_⟩
        obtain ⟨b', o', ha', hl'⟩ := h.get i v' hi
        rw [ha] at ha'
        cases ha'
        have hll := z99 hl'
        unfold Heap.load at hl'
        simp only [hc] at hl'
        split at hl'
        · simp only [Option.some.injEq] at hl'
          have : ((cs.drop (o + i)).take 1)[0]? = some v' := by rw [hl']; rfl
          simpa [List.getElem?_take, List.getElem?_drop] using this
        · cases hl'
    obtain ⟨cs, hc, hg⟩ := key
    have e : (cs.drop o).take (v :: r).length = v :: r := by
      apply List.ext_getElem?
      intro k
      rw [List.getElem?_take]
      by_cases hk : k < (v :: r).length
      · rw [if_pos hk, List.getElem?_drop, List.getElem?_eq_getElem hk, hg k _ (List.getElem?_eq_getElem hk)]
      · rw [if_neg hk, List.getElem?_eq_none (by omega)]
    unfold Heap.load
    simp only [hc, e]
    rw [if_pos (by rw [Nat.beq_eq])]
theorem OwnS.ones {e : TypeId} {base b c : Nat} {vs : List Value} (hg : H.get b = some (.row vs e)) (lo : base ≤ b) (hi : b < H.next) (hc : vs.length ≤ c) (hm : c ≤ maxLen) (ho : vs.all one = true) : OwnS H e 1 base (vs.map fun v => [v]) b c := by
  have hf : (vs.map fun v => [v]).flatten = vs := by
    clear hg hc ho
    induction vs with
    | nil => rfl
    | cons v vs ih => rw [List.map_cons, List.flatten_cons, ih]; rfl
  refine ⟨lo, hi, ⟨vs, hg, by simp, ?_⟩, by simpa using hc, hm, by simp, fun x hx => ?_⟩
  · rw [hf, List.take_of_length_le (by simp)]
  · obtain ⟨v, hv, rfl⟩ := List.mem_map.1 hx
    simpa using List.all_eq_true.1 ho v hv
end
end Go.Hb
end

-- Own2
section
namespace Go.Hb
open Go Go.RowKit
section
variable {P : Program} {H : Heap} {e : TypeId} {s base b c : Nat} {L : List (List Value)} {v : Value}
theorem RepO.empty : RepO H e s base [] (.slice none 0 0) := .inl ⟨rfl, rfl⟩
theorem RepO.own (h : RepO H e s base L v) (h0 : L ≠ []) : ∃ b c, OwnS H e s base L b c ∧ v = .slice (some ⟨b, 0, none⟩) L.length c := by
  rcases h with ⟨h1, _⟩ | h
  · exact absurd h1 h0
  · exact h
theorem RepO.slice (h : RepO H e s base L v) : ∃ a c, v = .slice a L.length c ∧ L.length ≤ c ∧ c ≤ maxLen := by
  rcases h with ⟨rfl, rfl⟩ | ⟨b, c, h, rfl⟩
  · exact ⟨_, 0, rfl, Nat.le_refl _, Nat.zero_le _⟩
  · exact ⟨_, c, rfl, h.len, h.cap⟩
theorem RepO.keep (h : RepO H e s base L v) {H' : Heap} (hx : HX H H') : RepO H' e s base L v := by
  rcases h with h | ⟨b, c, h, hv⟩
  · exact .inl h
  · exact .inr ⟨b, c, h.keep hx, hv⟩
theorem RepO.before (h : RepO H e s base L v) {H' : Heap} {lo : Nat} (hk : ∀ i, i < lo → H'.get i = H.get i) (hn : H.next ≤ H'.next) (hlo : ∀ b c, OwnS H e s base L b c → b < lo) : RepO H' e s base L v := by
  rcases h with h | ⟨b, c, h, hv⟩
  · exact .inl h
  · exact .inr ⟨b, c, h.heap (hk b (hlo b c h)) hn, hv⟩
theorem RepO.putlo (h : RepO H e s base L v) {i : Nat} (hi : i < base) (B : Option Blk) : RepO (H.put i B) e s base L v := by
  rcases h with h | ⟨b, c, h, hv⟩
  · exact .inl h
  · exact .inr ⟨b, c, h.heap (z50 (by have := h.lo; omega)) (Nat.le_refl _), hv⟩
section
variable {ok : Ok} {x : Ctx} {d : Option Tmp} {tm : Tr Value} {ds : List Deferred} {H' : Heap} {KK : Tr Value → List Deferred → Heap → Prop}
end
def sameK (v : Value) (G : Heap) : Option Dr → Bool
  | some (.val u H') => veq u v && Nat.beq H'.next G.next
  | _ => false
theorem RepO.push {t : TypeId} (h : RepO H e s base L v) (hp : apOk P t e s) {y : List Value} (hy : y.length = s) (ha : y.all one = true) (hn : L.length + 1 ≤ most) (hb : base ≤ H.next) :
    ∃ H2 v2, dAp P #[t, t] v (.slice (some ⟨H.next, 0, Option.none⟩) 1 1) (H.new (some (.row y e))) = some (.val v2 H2) ∧ RepO H2 e s base (L ++ [y]) v2 ∧ H2.next = H.next + 2 ∧ (∀ A, HX A H → A.next ≤ base → HX A H2) ∧ (∀ i, i < H.next → (∀ cs, H.get i ≠ some (.row cs e)) → H2.get i = H.get i) := by
  have hs0 : 0 < s := by obtain ⟨i, _, _, _, _, h0, _⟩ := hp; exact h0
  have hmax : most ≤ maxLen := by simp [most, maxLen]
  have hl : (H.new (some (.row y e))).load ⟨H.next, 0, Option.none⟩ (1 * s) = some y := by
    rw [z8a, Nat.one_mul]
    unfold cutC
    simp [← hy]
  rcases h with ⟨rfl, rfl⟩ | ⟨b, c, h, rfl⟩
  · refine ⟨_, _, z9y hp (by omega) (by simp [most]) hl ha, .inr ⟨_, 1, OwnS.first hy ha (Nat.le_succ_of_le hb), rfl⟩, rfl, fun A hx _ => (hx.new _).new _, fun i hi _ => by rw [z1e (Nat.lt_succ_of_lt hi), z1e hi]⟩
  · obtain ⟨cs, hg, hle, ht⟩ := h.row
    have hbn : b < H.next := h.hi
    have h1 : OwnS (H.new (some (.row y e))) e s base L b c := h.heap (by rw [z1e hbn]) (Nat.le_succ _)
    have hg1 : (H.new (some (.row y e))).get b = some (.row cs e) := by rw [z1e hbn]; exact hg
    have hone : (cs.take (L.length * s)).all one = true := by
      rw [ht, List.all_eq_true]
      intro z hz
      obtain ⟨l, hl1, hl2⟩ := List.mem_flatten.1 hz
      exact List.all_eq_true.1 (h.all l hl1) z hl2
    refine ⟨_, _, z9z hp (by omega) hn hl ha hg1 hle hone, .inr ⟨_, _, h1.push hg1 hy ha (Nat.le_trans hn hmax) (Nat.le_succ_of_le hb), by simp⟩, rfl, fun A hx hA => ?_, fun i hi hne => ?_⟩
    rotate_left
    · have hib : i ≠ b := fun h => hne cs (h ▸ hg)
      rw [z1e (by rw [z2r]; exact Nat.lt_succ_of_lt hi), z50 hib, z1e hi]
    have hx1 := hx.new (some (.row y e))
    have hx2 := hx1.put (i := b) (by have := h.lo; omega) (Nat.lt_succ_of_lt hbn) Option.none
    exact hx2.new _
end
end Go.Hb
end

-- Own3
section
namespace Go.Hb
open Go Go.RowKit
section
variable (P : Program) (ok : Ok) (x : Ctx) (ops : Array Oper) (base : Nat)
def STK (e : Option Nat) (S : List (List (Nat × Nat) × Option Nat)) (G : Heap) (gs : List Heap) (ds : List Deferred) (K : Tr Value → List Deferred → Heap → Prop) (tm : Tr Value) (H : Heap) : Prop :=
  match e with
  | none => K tm ds H
  | some e => ES1 P ok x ops tm ds H (fun tm ds H => ES P ok x ops base S H (G :: gs) tm ds K) ops.toList[e]?
def STG (L : List (Nat × Nat)) (e : Option Nat) (S : List (List (Nat × Nat) × Option Nat)) (G : Heap) (gs : List Heap) (ds : List Deferred) (K : Tr Value → List Deferred → Heap → Prop) (tm : Tr Value) (H : Heap) : Prop := EN P ops base G gs L tm H (STK P ok x ops base e S G gs ds K)
def SGO (i k : Nat) (L : List (Nat × Nat)) (e : Option Nat) (S : List (List (Nat × Nat) × Option Nat)) (G : Heap) (gs : List Heap) (ds : List Deferred) (K : Tr Value → List Deferred → Heap → Prop) (o : Oper) (tm : Tr Value) (H : Heap) (al : Bool) : Prop :=
  match al with
  | true => AK base i tm H (fun tm H => STG P ok x ops base L e S G gs ds K tm H) o.dst (dalloc P o (ev tm))
  | false => NK P k o tm gs (fun tm => STG P ok x ops base L e S G gs ds K tm H) o.dst G.next (dop P o (ev tm) G)
def SAL (i : Nat) (L : List (Nat × Nat)) (e : Option Nat) (S : List (List (Nat × Nat) × Option Nat)) (G : Heap) (gs : List Heap) (ds : List Deferred) (K : Tr Value → List Deferred → Heap → Prop) (d : Option Tmp) (tm : Tr Value) (H : Heap) (r : Option (Blk × (Nat → Value))) : Prop := AK base i tm H (fun tm H => STG P ok x ops base L e S G gs ds K tm H) d r
def SRD (k : Nat) (L : List (Nat × Nat)) (e : Option Nat) (S : List (List (Nat × Nat) × Option Nat)) (G : Heap) (gs : List Heap) (ds : List Deferred) (K : Tr Value → List Deferred → Heap → Prop) (o : Oper) (tm : Tr Value) (H : Heap) (r : Option Dr) : Prop := NK P k o tm gs (fun tm => STG P ok x ops base L e S G gs ds K tm H) o.dst G.next r
def SOP (i k : Nat) (L : List (Nat × Nat)) (e : Option Nat) (S : List (List (Nat × Nat) × Option Nat)) (G : Heap) (gs : List Heap) (ds : List Deferred) (K : Tr Value → List Deferred → Heap → Prop) (tm : Tr Value) (H : Heap) (o : Option Oper) : Prop := EN1 P ops base G gs i k tm H (fun tm H => STG P ok x ops base L e S G gs ds K tm H) o
def SGD (i k : Nat) (L : List (Nat × Nat)) (e : Option Nat) (S : List (List (Nat × Nat) × Option Nat)) (G : Heap) (gs : List Heap) (ds : List Deferred) (K : Tr Value → List Deferred → Heap → Prop) (o : Oper) (tm : Tr Value) (H : Heap) (w : Bool) (g : Option Value) : Prop := GK o.dst tm (SGO P ok x ops base i k L e S G gs ds K o tm H (isAlloc o)) (STG P ok x ops base L e S G gs ds K (putD tm o.dst undef) H) w g
def SLK (S : List (List (Nat × Nat) × Option Nat)) (G : Heap) (gs : List Heap) (ds : List Deferred) (K : Tr Value → List Deferred → Heap → Prop) (d : Option Tmp) (tm : Tr Value) (H : Heap) (r : Option Dr) : Prop :=
  LK P ok x d tm ds H (fun tm ds H => ES P ok x ops base S H (G :: gs) tm ds K) r
def SEF (S : List (List (Nat × Nat) × Option Nat)) (G : Heap) (gs : List Heap) (ds : List Deferred) (K : Tr Value → List Deferred → Heap → Prop) (tm : Tr Value) (H : Heap) (o : Option Oper) : Prop :=
  ES1 P ok x ops tm ds H (fun tm ds H => ES P ok x ops base S H (G :: gs) tm ds K) o
def SEG (S : List (List (Nat × Nat) × Option Nat)) (G : Heap) (gs : List Heap) (ds : List Deferred) (K : Tr Value → List Deferred → Heap → Prop) (o : Oper) (tm : Tr Value) (H : Heap) (w : Bool) (g : Option Value) : Prop :=
  GK o.dst tm (SLK P ok x ops base S G gs ds K o.dst tm H (dop P o (ev tm) H)) (ES P ok x ops base S H (G :: gs) (putD tm o.dst undef) ds K) w g
def SCK (S : List (List (Nat × Nat) × Option Nat)) (G : Heap) (gs : List Heap) (ds : List Deferred) (K : Tr Value → List Deferred → Heap → Prop) (d : Option Tmp) (tm : Tr Value) (v : Value) (H' : Heap) : Prop :=
  ES P ok x ops base S H' (G :: gs) (putD tm d v) ds K
end
section
variable {P : Program} {ok : Ok} {x : Ctx} {ops : Array Oper} {base i k n j : Nat} {L : List (Nat × Nat)} {e : Option Nat} {S : List (List (Nat × Nat) × Option Nat)} {G H H' G' : Heap} {gs : List Heap} {ds : List Deferred} {K : Tr Value → List Deferred → Heap → Prop} {tm : Tr Value} {w b : Bool} {v : Value}
  {d : Option Tmp} {op : Op} {ty : TypeId} {pos : String} {af : Array Edge} {gd : Option (Nat × Bool)} {o : Oper}
end
end Go.Hb
end

-- Vq
section
namespace Go.Hb
open Go Go.RowKit
end Go.Hb
end

-- Sb
section
namespace Go.Hb
open Go Go.RowKit
theorem sA : type_of% (And.intro (And.intro (And.intro (And.intro (And.intro (And.intro (@z82) (And.intro (@z9i) (@z67))) (And.intro (@z9j) (And.intro (@z83) (@z68)))) (And.intro (And.intro (@za3) (And.intro (@za4) (@za5))) (And.intro (And.intro (@za6) (@z69)) (And.intro (@z86) (@z3r))))) (And.intro (And.intro (And.intro (@z6a) (And.intro (@z6b) (@z3s))) (And.intro (And.intro (@z6c) (@z4u)) (And.intro (@z4v) (@z28)))) (And.intro (And.intro (@z29) (And.intro (@z84) (@z6d))) (And.intro (And.intro (@z6e) (@z6h)) (And.intro (@z4x) (@z64)))))) (And.intro (And.intro (And.intro (And.intro (@z9h) (And.intro (@z81) (@z4t))) (And.intro (@Tr.get_put) (And.intro (@z65) (@z66)))) (And.intro (And.intro (@Option.getD_some.{0}) (And.intro (@Nat.add_zero) (@Nat.zero_add))) (And.intro (And.intro (@List.all_cons.{0}) (@List.all_nil.{0})) (And.intro (@Bool.and_self) (@z4b))))) (And.intro (And.intro (And.intro (@z6f) (And.intro (@z6g) (@z2r))) (And.intro (And.intro (@get_new) (@get_put)) (And.intro (@z36) (@z37)))) (And.intro (And.intro (@List.drop_succ_cons.{0}) (And.intro (@List.drop_zero.{0}) (@List.take_succ_cons.{0}))) (And.intro (And.intro (@List.take_zero.{0}) (@List.length_cons.{0})) (And.intro (@List.length_nil.{0}) (@Nat.beq_refl))))))) (And.intro (And.intro (And.intro (And.intro (And.intro (@List.map_cons.{0, 0}) (And.intro (@List.map_nil.{0, 0}) (@z1h))) (And.intro (@z38) (And.intro (@z1w) (@z39)))) (And.intro (And.intro (@List.cons_append.{0}) (And.intro (@List.nil_append.{0}) (@List.append_nil.{0}))) (And.intro (And.intro (@Nat.le_refl) (@and_self)) (And.intro (@and_true) (@true_and))))) (And.intro (And.intro (And.intro (@List.drop_nil.{0}) (And.intro (@z0p) (@z2m))) (And.intro (And.intro (@z16) (@z3p)) (And.intro (@z01) (@z00)))) (And.intro (And.intro (@z3q) (And.intro (@z27) (@List.getElem?_cons_succ.{0}))) (And.intro (And.intro (@List.getElem?_cons_zero.{0}) (@z6i)) (And.intro (@z6j) (@z6k)))))) (And.intro (And.intro (And.intro (And.intro (@z6l) (And.intro (@z6m) (@z6n))) (And.intro (And.intro (@z9k) (@z9l)) (And.intro (@z3b) (@z9m)))) (And.intro (And.intro (@z9n) (And.intro (@z9o) (@z87))) (And.intro (And.intro (@z51) (@z6p)) (And.intro (@z1q) (@z6q))))) (And.intro (And.intro (And.intro (@z52) (And.intro (@z3v) (@z2b))) (And.intro (And.intro (@z2o) (@z53)) (And.intro (@z3f) (@z6r)))) (And.intro (And.intro (@z3u) (And.intro (@Option.map_some.{0, 0}) (@Option.map_none.{0, 0}))) (And.intro (And.intro (@List.getElem?_nil.{0}) (@Option.some.injEq.{0})) (And.intro (@Nat.mul_one) (@Int.toNat_natCast)))))))) := And.intro (And.intro (And.intro (And.intro (And.intro (And.intro (@z82) (And.intro (@z9i) (@z67))) (And.intro (@z9j) (And.intro (@z83) (@z68)))) (And.intro (And.intro (@za3) (And.intro (@za4) (@za5))) (And.intro (And.intro (@za6) (@z69)) (And.intro (@z86) (@z3r))))) (And.intro (And.intro (And.intro (@z6a) (And.intro (@z6b) (@z3s))) (And.intro (And.intro (@z6c) (@z4u)) (And.intro (@z4v) (@z28)))) (And.intro (And.intro (@z29) (And.intro (@z84) (@z6d))) (And.intro (And.intro (@z6e) (@z6h)) (And.intro (@z4x) (@z64)))))) (And.intro (And.intro (And.intro (And.intro (@z9h) (And.intro (@z81) (@z4t))) (And.intro (@Tr.get_put) (And.intro (@z65) (@z66)))) (And.intro (And.intro (@Option.getD_some.{0}) (And.intro (@Nat.add_zero) (@Nat.zero_add))) (And.intro (And.intro (@List.all_cons.{0}) (@List.all_nil.{0})) (And.intro (@Bool.and_self) (@z4b))))) (And.intro (And.intro (And.intro (@z6f) (And.intro (@z6g) (@z2r))) (And.intro (And.intro (@get_new) (@get_put)) (And.intro (@z36) (@z37)))) (And.intro (And.intro (@List.drop_succ_cons.{0}) (And.intro (@List.drop_zero.{0}) (@List.take_succ_cons.{0}))) (And.intro (And.intro (@List.take_zero.{0}) (@List.length_cons.{0})) (And.intro (@List.length_nil.{0}) (@Nat.beq_refl))))))) (And.intro (And.intro (And.intro (And.intro (And.intro (@List.map_cons.{0, 0}) (And.intro (@List.map_nil.{0, 0}) (@z1h))) (And.intro (@z38) (And.intro (@z1w) (@z39)))) (And.intro (And.intro (@List.cons_append.{0}) (And.intro (@List.nil_append.{0}) (@List.append_nil.{0}))) (And.intro (And.intro (@Nat.le_refl) (@and_self)) (And.intro (@and_true) (@true_and))))) (And.intro (And.intro (And.intro (@List.drop_nil.{0}) (And.intro (@z0p) (@z2m))) (And.intro (And.intro (@z16) (@z3p)) (And.intro (@z01) (@z00)))) (And.intro (And.intro (@z3q) (And.intro (@z27) (@List.getElem?_cons_succ.{0}))) (And.intro (And.intro (@List.getElem?_cons_zero.{0}) (@z6i)) (And.intro (@z6j) (@z6k)))))) (And.intro (And.intro (And.intro (And.intro (@z6l) (And.intro (@z6m) (@z6n))) (And.intro (And.intro (@z9k) (@z9l)) (And.intro (@z3b) (@z9m)))) (And.intro (And.intro (@z9n) (And.intro (@z9o) (@z87))) (And.intro (And.intro (@z51) (@z6p)) (And.intro (@z1q) (@z6q))))) (And.intro (And.intro (And.intro (@z52) (And.intro (@z3v) (@z2b))) (And.intro (And.intro (@z2o) (@z53)) (And.intro (@z3f) (@z6r)))) (And.intro (And.intro (@z3u) (And.intro (@Option.map_some.{0, 0}) (@Option.map_none.{0, 0}))) (And.intro (And.intro (@List.getElem?_nil.{0}) (@Option.some.injEq.{0})) (And.intro (@Nat.mul_one) (@Int.toNat_natCast)))))))
theorem sB : type_of% (And.intro (@sA) (And.intro (@if_true.{1}) (@if_false.{1}))) := And.intro (@sA) (And.intro (@if_true.{1}) (@if_false.{1}))
theorem sG : type_of% (And.intro (@Tr.get_put) (And.intro (@if_true.{1}) (@if_false.{1}))) := And.intro (@Tr.get_put) (And.intro (@if_true.{1}) (@if_false.{1}))
end Go.Hb
end

-- Law
section
namespace Go.Hb
open Go Go.RowKit
section
variable {P : Program}
theorem z8d {N : Nat} {w0 : World} {τ : Nat → Value} {σ : Nat → Loc} {H : Heap} {w : World} {f : FuncId} {args : Array Value} {v : Value} (hv : flat v = true)
    (h : Calls P f args w fun e w' => e = .returned v ∧ Below w.heap.size w w') (hH : HR P N w0 τ σ H w) :
    Calls P f args w fun e w' => ∃ σ', EnR σ' τ (.ret v) e ∧ HR P N w0 τ σ' H w' ∧ Step σ H w σ' H w' := by
  refine h.mono fun e w' ⟨he, hB⟩ => ?_
  subst he
  have hlt := hH.lt
  refine ⟨σ, .flat _ hv, ⟨hH.below.trans (hB.mono hH.size), Nat.le_trans hH.size hB.size, hH.fresh, fun i B hi => (hH.blk i B hi).world fun b S es hb => hB.block b (hlt i b S es hb), hH.inj,
    fun i b S es hi => Nat.lt_of_lt_of_le (hlt i b S es hi) hB.size⟩, Nat.le_refl _, Ext.refl σ, fun i b S es hi => .inr (.inl ⟨S, es, hi⟩), fun b hb _ => hB.block b hb, hB.size, fun _ _ hg => ⟨rfl, hg⟩⟩
def kLaw (fa fv : FuncId) (f : FuncId) (args : List Value) (H : Heap) : Option (En × Heap) :=
  if f = fa then (match args with | [] => some (.ret (.bool true), H) | _ => none)
  else if f = fv then (match args with | [.string s] => if s.size ≤ 9223372036854775807 then some (.ret (.bool (Lib.validD s.data.toList)), H) else none | _ => none)
  else none
def okLaw (mask : Nat) (fa fv : FuncId) : Ok := ⟨mask, kLaw fa fv⟩
end
end Go.Hb
end

-- Z10a
section
namespace Go.Hb
open Go Go.RowKit
abbrev six (t : Tm) (a : Option Addr) (c : Nat) : List Value := [.int .i64 t.kind, .string t.name, .string t.num, .int .u64 t.bits, .int .i64 t.var, .slice a t.args.length c]
theorem new1 {H : Heap} (hw : H.wf) (A : Blk) : ∃ H2, H.new (some A) = H2 ∧ HX H H2 ∧ H2.get H.next = some A ∧ H2.next = H.next + 1 ∧ H2.wf := by
  have hx := (HX.refl hw).new (some A)
  exact ⟨_, rfl, hx, z3c, rfl, hx.wf⟩
theorem new2 {H : Heap} (hw : H.wf) (A B : Blk) : ∃ H2, (H.new (some A)).new (some B) = H2 ∧ HX H H2 ∧ H2.get H.next = some A ∧ H2.get (H.next + 1) = some B ∧ H2.next = H.next + 2 ∧ H2.wf := by
  have hx := ((HX.refl hw).new (some A)).new (some B)
  refine ⟨_, rfl, hx, ?_, ?_, rfl, hx.wf⟩
  · rw [get_new, if_neg (by show H.next ≠ H.next + 1; omega), get_new, if_pos rfl]
  · rw [get_new]; exact if_pos rfl
theorem HX.get {H H' : Heap} (h : HX H H') (hw : H.wf) {p : Nat} {B : Blk} (hp : H.get p = some B) : H'.get p = some B := by
  rw [h.keep p (hw p B hp)]; exact hp
theorem HX.lt {H H' : Heap} (h : HX H H') (hw : H.wf) {p : Nat} {B : Blk} (hp : H.get p = some B) : p < H'.next := Nat.lt_of_lt_of_le (hw p B hp) h.next
theorem RepT.six {H : Heap} {t : Tm} {cs : List Value} (r : RepT H t cs) : ∃ a c cells, cs = six t a c ∧ i64 t.kind ∧ t.name.size ≤ maxLen ∧ t.num.size ≤ maxLen ∧ u64 t.bits ∧ i64 t.var ∧ RepL H t.args a c cells := r.inv
theorem RepL.max {H : Heap} {l : List Tm} {a : Option Addr} {c : Nat} {cells : Nat → List Value} (r : RepL H l a c cells) : l.length ≤ 9223372036854775807 := Nat.le_trans r.len r.cap
theorem RepL.el {H : Heap} {l : List Tm} {a : Option Addr} {c : Nat} {cells : Nat → List Value} (r : RepL H l a c cells) {i : Nat} (h : i < l.length) :
    ∃ b o a' c', a = some ⟨b, o, none⟩ ∧ H.load ⟨b, o + i * 6, none⟩ 6 = some (Hb.six l[i] a' c') ∧ RepT H l[i] (Hb.six l[i] a' c') := by
  obtain ⟨b, o, rfl, hl, hr⟩ := r.at (List.getElem?_eq_getElem h)
  obtain ⟨a', c', cells', hc, -⟩ := hr.six
  rw [hc] at hl hr
  exact ⟨b, o, a', c', rfl, hl, hr⟩
theorem decl {i n : Nat} (h : i < n) : decide ((i : Int) < (n : Int)) = true := decide_eq_true (by omega)
theorem decn {i n : Nat} (h : ¬ i < n) : decide ((i : Int) < (n : Int)) = false := decide_eq_false (by omega)
end Go.Hb
end

-- St0
section
namespace Go.Hb
open Go Go.RowKit
section
variable {P : Program}
def kAw (fa : FuncId) (f : FuncId) (args : List Value) (H : Heap) : Option (En × Heap) :=
  if f = fa then (match args with | [] => some (.ret (.bool true), H) | _ => none) else none
def okAw (mask : Nat) (fa : FuncId) : Ok := ⟨mask, kAw fa⟩
theorem z9a {N mask : Nat} {w0 : World} {fa : FuncId} (hok : ((List.range P.funcs.size).all fun f => !mask.testBit f || okFn P f) = true)
    (ha : ∀ w, Calls P fa #[] w fun e w' => e = .returned (.bool true) ∧ Below w.heap.size w w') : OkFns P N w0 (okAw mask fa) := by
  refine ⟨z3o hok, fun τ f args args' H en H' w σ _ hk hl hH _ => ?_⟩
  simp only [okAw, kAw] at hk
  split at hk
  · rename_i hf
    subst hf
    split at hk
    · cases hk
      have : args' = #[] := by
        have := hl.1
        simp at this
        exact Array.eq_empty_of_size_eq_zero this.symm
      subst this
      exact z8d rfl (ha w) hH
    · cases hk
  · cases hk
theorem z9b {mask : Nat} {W : World} {fa f : FuncId} {args : Array Value} (hm : P.follows .mixedOrders = true) (hok : ((List.range P.funcs.size).all fun f => !mask.testBit f || okFn P f) = true)
    (ha : ∀ w, Calls P fa #[] w fun e w' => e = .returned (.bool true) ∧ Below w.heap.size w w')
    (h : EvF P (okAw mask fa) f (args.toList.map (abV P W)) (heapW P W) fun v _ => v = .bool true) : Calls P f args W fun e W' => e = .returned (.bool true) ∧ Below W.heap.size W W' :=
  z5o hm (z9a hok ha) h
theorem z8e {mask : Nat} {fa : FuncId} {H : Heap} (hw : H.wf) : EvF P (okAw mask fa) fa [] H fun v H' => v = .bool true ∧ HX H H' :=
  EvF.know (v := .bool true) (H' := H) (by simp [okAw, kAw]) ⟨rfl, HX.refl hw⟩
variable {ok : Ok} {tm : Tr Value} {H : Heap} {fn : Func} {K : Value → Heap → Prop}
theorem z2p {a q r : Tmp} {t : TypeId} {ad : Addr} {v u y : Value} (h : fn.results.toList = [.cell a t, .tmp q, .tmp r]) (hv : tm.get a = some (.pointer (some ad))) (hd : dLoad P t (.pointer (some ad)) H = some (.val v H)) (hu : tm.get q = some u) (hy : tm.get r = some y)
    (hk : K (.tuple ⟨[v, u, y]⟩) H) : Ex.leave P ok fn K .ret ⟨tm, [], H⟩ := by
  refine EvV.now (v := .tuple ⟨[v, u, y]⟩) ?_ hk
  have hd' : dload P t ad H = some v := by
    simp only [dLoad] at hd
    cases hx : dload P t ad H with
    | none => rw [hx] at hd; cases hd
    | some u => rw [hx] at hd; simp only [Option.map_some, Option.some.injEq, Dr.val.injEq] at hd; rw [hd.1]
  simp only [dres, h, dresL, dres1, hv, hd', hu, hy, Option.getD_some]
theorem HX.ptS {A H : Heap} (h : HX A H) {i : Nat} {B0 : Blk} (hi : A.next ≤ i) (hg : H.get i = some B0) (B : Option Blk) : HX A (H.put i B) := h.put hi (h.wf i _ hg) B
theorem z17 {H : Heap} (hw : H.wf) (A B : Blk) : ∃ H2, (H.new (some A)).put H.next (some B) = H2 ∧ HX H H2 ∧ H2.get H.next = some B ∧ H2.next = H.next + 1 ∧ H2.wf := by
  have hx := ((HX.refl hw).new (some A)).put (i := H.next) (Nat.le_refl _) (Nat.lt_succ_self _) (some B)
  exact ⟨_, rfl, hx, by rw [get_put, if_pos rfl], rfl, hx.wf⟩
end
end Go.Hb
end

-- Fk
section
namespace Go.Proofs.YtnnpejdphgeciaaDoor.hb
open Go Go.RowKit Go.Hb
theorem cl5 {d : Option Tmp} {args : Array Operand} {ats : Array TypeId} {ty : TypeId} {pos : String} {af : Array Edge} {g : Option (Nat × Bool)} {tm : Tr Value} {H : Heap} : dop Tryd.prog ⟨d, .call ⟨.value (.func 5), args, ats⟩, ty, pos, af, g⟩ (ev tm) H = some (.call 5 (args.toList.map (ev tm))) := z07 (by kernel_rfl)
theorem z2c {b o : Nat} {H : Heap} : dFieldAddr Tryd.prog 33 (.pointer (some ⟨b, o, none⟩)) 2 H = some (.val (.pointer (some ⟨b, o + 2, none⟩)) H) := z04 (u := 3) (by kernel_rfl) (by kernel_rfl)
theorem ld3 {ad : Addr} {H : Heap} : dLoad Tryd.prog 3 (.pointer (some ad)) H = dload1 (H.load ad 1) H := z14 (by kernel_rfl)
theorem cl6 {d : Option Tmp} {args : Array Operand} {ats : Array TypeId} {ty : TypeId} {pos : String} {af : Array Edge} {g : Option (Nat × Bool)} {tm : Tr Value} {H : Heap} : dop Tryd.prog ⟨d, .call ⟨.value (.func 6), args, ats⟩, ty, pos, af, g⟩ (ev tm) H = some (.call 6 (args.toList.map (ev tm))) := z07 (by kernel_rfl)
theorem zr27 : zerosOf Tryd.prog 27 = some [.int .i64 0, .int .i64 0] := by kernel_rfl
theorem st27 {b o : Nat} {H : Heap} {cs : List Value} : dStore Tryd.prog 27 (.pointer (some ⟨b, o, none⟩)) (.agg ⟨cs⟩) H = dStoreIf (Nat.beq cs.length 2) ⟨b, o, none⟩ cs H (H.get b) := z1l (by kernel_rfl) (by kernel_rfl)
theorem za7 {b o : Nat} {H : Heap} : dFieldAddr Tryd.prog 33 (.pointer (some ⟨b, o, none⟩)) 3 H = some (.val (.pointer (some ⟨b, o + 3, none⟩)) H) := z04 (u := 25) (by kernel_rfl) (by kernel_rfl)
theorem ld25 {ad : Addr} {H : Heap} : dLoad Tryd.prog 25 (.pointer (some ad)) H = dloadA 6 (H.load ad 6) H := z1x (by kernel_rfl) (by kernel_rfl)
theorem cl7 {d : Option Tmp} {args : Array Operand} {ats : Array TypeId} {ty : TypeId} {pos : String} {af : Array Edge} {g : Option (Nat × Bool)} {tm : Tr Value} {H : Heap} : dop Tryd.prog ⟨d, .call ⟨.value (.func 7), args, ats⟩, ty, pos, af, g⟩ (ev tm) H = some (.call 7 (args.toList.map (ev tm))) := z07 (by kernel_rfl)
theorem z54 {b o : Nat} {H : Heap} : dFieldAddr Tryd.prog 33 (.pointer (some ⟨b, o, none⟩)) 4 H = some (.val (.pointer (some ⟨b, o + 9, none⟩)) H) := z04 (u := 27) (by kernel_rfl) (by kernel_rfl)
theorem ld27 {ad : Addr} {H : Heap} : dLoad Tryd.prog 27 (.pointer (some ad)) H = dloadA 2 (H.load ad 2) H := z1x (by kernel_rfl) (by kernel_rfl)
theorem cl8 {d : Option Tmp} {args : Array Operand} {ats : Array TypeId} {ty : TypeId} {pos : String} {af : Array Edge} {g : Option (Nat × Bool)} {tm : Tr Value} {H : Heap} : dop Tryd.prog ⟨d, .call ⟨.value (.func 8), args, ats⟩, ty, pos, af, g⟩ (ev tm) H = some (.call 8 (args.toList.map (ev tm))) := z07 (by kernel_rfl)
theorem cl9 {d : Option Tmp} {args : Array Operand} {ats : Array TypeId} {ty : TypeId} {pos : String} {af : Array Edge} {g : Option (Nat × Bool)} {tm : Tr Value} {H : Heap} : dop Tryd.prog ⟨d, .call ⟨.value (.func 9), args, ats⟩, ty, pos, af, g⟩ (ev tm) H = some (.call 9 (args.toList.map (ev tm))) := z07 (by kernel_rfl)
theorem zr25 : zerosOf Tryd.prog 25 = some [.int .i64 0, .string ByteArray.empty, .string ByteArray.empty, .int .u64 0, .int .i64 0, .slice none 0 0] := by kernel_rfl
theorem st25 {b o : Nat} {H : Heap} {cs : List Value} : dStore Tryd.prog 25 (.pointer (some ⟨b, o, none⟩)) (.agg ⟨cs⟩) H = dStoreIf (Nat.beq cs.length 6) ⟨b, o, none⟩ cs H (H.get b) := z1l (by kernel_rfl) (by kernel_rfl)
theorem cl10 {d : Option Tmp} {args : Array Operand} {ats : Array TypeId} {ty : TypeId} {pos : String} {af : Array Edge} {g : Option (Nat × Bool)} {tm : Tr Value} {H : Heap} : dop Tryd.prog ⟨d, .call ⟨.value (.func 10), args, ats⟩, ty, pos, af, g⟩ (ev tm) H = some (.call 10 (args.toList.map (ev tm))) := z07 (by kernel_rfl)
theorem zr30 : zerosOf Tryd.prog 30 = some [.string ByteArray.empty, .int .i64 0] := by kernel_rfl
theorem st30 {b o : Nat} {H : Heap} {cs : List Value} : dStore Tryd.prog 30 (.pointer (some ⟨b, o, none⟩)) (.agg ⟨cs⟩) H = dStoreIf (Nat.beq cs.length 2) ⟨b, o, none⟩ cs H (H.get b) := z1l (by kernel_rfl) (by kernel_rfl)
theorem cl11 {d : Option Tmp} {args : Array Operand} {ats : Array TypeId} {ty : TypeId} {pos : String} {af : Array Edge} {g : Option (Nat × Bool)} {tm : Tr Value} {H : Heap} : dop Tryd.prog ⟨d, .call ⟨.value (.func 11), args, ats⟩, ty, pos, af, g⟩ (ev tm) H = some (.call 11 (args.toList.map (ev tm))) := z07 (by kernel_rfl)
theorem cl12 {d : Option Tmp} {args : Array Operand} {ats : Array TypeId} {ty : TypeId} {pos : String} {af : Array Edge} {g : Option (Nat × Bool)} {tm : Tr Value} {H : Heap} : dop Tryd.prog ⟨d, .call ⟨.value (.func 12), args, ats⟩, ty, pos, af, g⟩ (ev tm) H = some (.call 12 (args.toList.map (ev tm))) := z07 (by kernel_rfl)
theorem cl13 {d : Option Tmp} {args : Array Operand} {ats : Array TypeId} {ty : TypeId} {pos : String} {af : Array Edge} {g : Option (Nat × Bool)} {tm : Tr Value} {H : Heap} : dop Tryd.prog ⟨d, .call ⟨.value (.func 13), args, ats⟩, ty, pos, af, g⟩ (ev tm) H = some (.call 13 (args.toList.map (ev tm))) := z07 (by kernel_rfl)
theorem cl14 {d : Option Tmp} {args : Array Operand} {ats : Array TypeId} {ty : TypeId} {pos : String} {af : Array Edge} {g : Option (Nat × Bool)} {tm : Tr Value} {H : Heap} : dop Tryd.prog ⟨d, .call ⟨.value (.func 14), args, ats⟩, ty, pos, af, g⟩ (ev tm) H = some (.call 14 (args.toList.map (ev tm))) := z07 (by kernel_rfl)
theorem cl15 {d : Option Tmp} {args : Array Operand} {ats : Array TypeId} {ty : TypeId} {pos : String} {af : Array Edge} {g : Option (Nat × Bool)} {tm : Tr Value} {H : Heap} : dop Tryd.prog ⟨d, .call ⟨.value (.func 15), args, ats⟩, ty, pos, af, g⟩ (ev tm) H = some (.call 15 (args.toList.map (ev tm))) := z07 (by kernel_rfl)
theorem cl16 {d : Option Tmp} {args : Array Operand} {ats : Array TypeId} {ty : TypeId} {pos : String} {af : Array Edge} {g : Option (Nat × Bool)} {tm : Tr Value} {H : Heap} : dop Tryd.prog ⟨d, .call ⟨.value (.func 16), args, ats⟩, ty, pos, af, g⟩ (ev tm) H = some (.call 16 (args.toList.map (ev tm))) := z07 (by kernel_rfl)
theorem cl17 {d : Option Tmp} {args : Array Operand} {ats : Array TypeId} {ty : TypeId} {pos : String} {af : Array Edge} {g : Option (Nat × Bool)} {tm : Tr Value} {H : Heap} : dop Tryd.prog ⟨d, .call ⟨.value (.func 17), args, ats⟩, ty, pos, af, g⟩ (ev tm) H = some (.call 17 (args.toList.map (ev tm))) := z07 (by kernel_rfl)
theorem cl18 {d : Option Tmp} {args : Array Operand} {ats : Array TypeId} {ty : TypeId} {pos : String} {af : Array Edge} {g : Option (Nat × Bool)} {tm : Tr Value} {H : Heap} : dop Tryd.prog ⟨d, .call ⟨.value (.func 18), args, ats⟩, ty, pos, af, g⟩ (ev tm) H = some (.call 18 (args.toList.map (ev tm))) := z07 (by kernel_rfl)
theorem za8 {b o : Nat} {H : Heap} : dFieldAddr Tryd.prog 33 (.pointer (some ⟨b, o, none⟩)) 5 H = some (.val (.pointer (some ⟨b, o + 11, none⟩)) H) := z04 (u := 28) (by kernel_rfl) (by kernel_rfl)
theorem ld28 {ad : Addr} {H : Heap} : dLoad Tryd.prog 28 (.pointer (some ad)) H = dload1 (H.load ad 1) H := z14 (by kernel_rfl)
theorem cl19 {d : Option Tmp} {args : Array Operand} {ats : Array TypeId} {ty : TypeId} {pos : String} {af : Array Edge} {g : Option (Nat × Bool)} {tm : Tr Value} {H : Heap} : dop Tryd.prog ⟨d, .call ⟨.value (.func 19), args, ats⟩, ty, pos, af, g⟩ (ev tm) H = some (.call 19 (args.toList.map (ev tm))) := z07 (by kernel_rfl)
theorem za9 {b o : Nat} {H : Heap} : dFieldAddr Tryd.prog 33 (.pointer (some ⟨b, o, none⟩)) 6 H = some (.val (.pointer (some ⟨b, o + 12, none⟩)) H) := z04 (u := 30) (by kernel_rfl) (by kernel_rfl)
theorem ld30 {ad : Addr} {H : Heap} : dLoad Tryd.prog 30 (.pointer (some ad)) H = dloadA 2 (H.load ad 2) H := z1x (by kernel_rfl) (by kernel_rfl)
theorem zaa {b o : Nat} {H : Heap} : dFieldAddr Tryd.prog 33 (.pointer (some ⟨b, o, none⟩)) 7 H = some (.val (.pointer (some ⟨b, o + 14, none⟩)) H) := z04 (u := 31) (by kernel_rfl) (by kernel_rfl)
theorem ld31 {ad : Addr} {H : Heap} : dLoad Tryd.prog 31 (.pointer (some ad)) H = dload1 (H.load ad 1) H := z14 (by kernel_rfl)
theorem cl20 {d : Option Tmp} {args : Array Operand} {ats : Array TypeId} {ty : TypeId} {pos : String} {af : Array Edge} {g : Option (Nat × Bool)} {tm : Tr Value} {H : Heap} : dop Tryd.prog ⟨d, .call ⟨.value (.func 20), args, ats⟩, ty, pos, af, g⟩ (ev tm) H = some (.call 20 (args.toList.map (ev tm))) := z07 (by kernel_rfl)
theorem bd27 {vs : List (Nat × Value)} {H : Heap} : dBuild Tryd.prog 27 vs H = dBd (vs.all fun p => p.2.cells.toList.all one) (layC [(0, 1), (1, 1)] [.int .i64 0, .int .i64 0] (vs.map fun p => (p.1, p.2.cells.toList))) H := z3d (by kernel_rfl) (by kernel_rfl)
theorem bd30 {vs : List (Nat × Value)} {H : Heap} : dBuild Tryd.prog 30 vs H = dBd (vs.all fun p => p.2.cells.toList.all one) (layC [(0, 1), (1, 1)] [.string ByteArray.empty, .int .i64 0] (vs.map fun p => (p.1, p.2.cells.toList))) H := z3d (by kernel_rfl) (by kernel_rfl)
theorem ln31 {ty : TypeId} {a : Option Addr} {n c : Nat} {H : Heap} : dLn Tryd.prog 31 ty (.slice a n c) H = some (.val (.int .i64 n) H) := z4y (e := 27) (by kernel_rfl)
theorem bd25 {vs : List (Nat × Value)} {H : Heap} : dBuild Tryd.prog 25 vs H = dBd (vs.all fun p => p.2.cells.toList.all one) (layC [(0, 1), (1, 1), (2, 1), (3, 1), (4, 1), (5, 1)] [.int .i64 0, .string ByteArray.empty, .string ByteArray.empty, .int .u64 0, .int .i64 0, .slice none 0 0] (vs.map fun p => (p.1, p.2.cells.toList))) H := z3d (by kernel_rfl) (by kernel_rfl)
theorem cl21 {d : Option Tmp} {args : Array Operand} {ats : Array TypeId} {ty : TypeId} {pos : String} {af : Array Edge} {g : Option (Nat × Bool)} {tm : Tr Value} {H : Heap} : dop Tryd.prog ⟨d, .call ⟨.value (.func 21), args, ats⟩, ty, pos, af, g⟩ (ev tm) H = some (.call 21 (args.toList.map (ev tm))) := z07 (by kernel_rfl)
theorem cl22 {d : Option Tmp} {args : Array Operand} {ats : Array TypeId} {ty : TypeId} {pos : String} {af : Array Edge} {g : Option (Nat × Bool)} {tm : Tr Value} {H : Heap} : dop Tryd.prog ⟨d, .call ⟨.value (.func 22), args, ats⟩, ty, pos, af, g⟩ (ev tm) H = some (.call 22 (args.toList.map (ev tm))) := z07 (by kernel_rfl)
theorem cl23 {d : Option Tmp} {args : Array Operand} {ats : Array TypeId} {ty : TypeId} {pos : String} {af : Array Edge} {g : Option (Nat × Bool)} {tm : Tr Value} {H : Heap} : dop Tryd.prog ⟨d, .call ⟨.value (.func 23), args, ats⟩, ty, pos, af, g⟩ (ev tm) H = some (.call 23 (args.toList.map (ev tm))) := z07 (by kernel_rfl)
theorem cl24 {d : Option Tmp} {args : Array Operand} {ats : Array TypeId} {ty : TypeId} {pos : String} {af : Array Edge} {g : Option (Nat × Bool)} {tm : Tr Value} {H : Heap} : dop Tryd.prog ⟨d, .call ⟨.value (.func 24), args, ats⟩, ty, pos, af, g⟩ (ev tm) H = some (.call 24 (args.toList.map (ev tm))) := z07 (by kernel_rfl)
theorem cl25 {d : Option Tmp} {args : Array Operand} {ats : Array TypeId} {ty : TypeId} {pos : String} {af : Array Edge} {g : Option (Nat × Bool)} {tm : Tr Value} {H : Heap} : dop Tryd.prog ⟨d, .call ⟨.value (.func 25), args, ats⟩, ty, pos, af, g⟩ (ev tm) H = some (.call 25 (args.toList.map (ev tm))) := z07 (by kernel_rfl)
theorem cl26 {d : Option Tmp} {args : Array Operand} {ats : Array TypeId} {ty : TypeId} {pos : String} {af : Array Edge} {g : Option (Nat × Bool)} {tm : Tr Value} {H : Heap} : dop Tryd.prog ⟨d, .call ⟨.value (.func 26), args, ats⟩, ty, pos, af, g⟩ (ev tm) H = some (.call 26 (args.toList.map (ev tm))) := z07 (by kernel_rfl)
theorem zab {v0 : Value} {H : Heap} : dBuildS Tryd.prog 23 1 [(0, v0)] H = dBs 25 1 (([(0, v0)] : List (Nat × Value)).all fun p => p.2.cells.toList.all one) (layC [(0, 6)] [.int .i64 0, .string ByteArray.empty, .string ByteArray.empty, .int .u64 0, .int .i64 0, .slice none 0 0] (([(0, v0)] : List (Nat × Value)).map fun p => (p.1, p.2.cells.toList))) H := z7e (size := 6) (by kernel_rfl) rfl
theorem ld23 {ad : Addr} {H : Heap} : dLoad Tryd.prog 23 (.pointer (some ad)) H = dload1 (H.load ad 1) H := z14 (by kernel_rfl)
theorem cl39 {d : Option Tmp} {args : Array Operand} {ats : Array TypeId} {ty : TypeId} {pos : String} {af : Array Edge} {g : Option (Nat × Bool)} {tm : Tr Value} {H : Heap} : dop Tryd.prog ⟨d, .call ⟨.value (.func 39), args, ats⟩, ty, pos, af, g⟩ (ev tm) H = some (.call 39 (args.toList.map (ev tm))) := z07 (by kernel_rfl)
theorem ld35 {ad : Addr} {H : Heap} : dLoad Tryd.prog 35 (.pointer (some ad)) H = dload1 (H.load ad 1) H := z14 (by kernel_rfl)
theorem cl40 {d : Option Tmp} {args : Array Operand} {ats : Array TypeId} {ty : TypeId} {pos : String} {af : Array Edge} {g : Option (Nat × Bool)} {tm : Tr Value} {H : Heap} : dop Tryd.prog ⟨d, .call ⟨.value (.func 40), args, ats⟩, ty, pos, af, g⟩ (ev tm) H = some (.call 40 (args.toList.map (ev tm))) := z07 (by kernel_rfl)
theorem zac {b o : Nat} {H : Heap} : dFieldAddr Tryd.prog 30 (.pointer (some ⟨b, o, none⟩)) 0 H = some (.val (.pointer (some ⟨b, o + 0, none⟩)) H) := z04 (u := 9) (by kernel_rfl) (by kernel_rfl)
theorem ld9 {ad : Addr} {H : Heap} : dLoad Tryd.prog 9 (.pointer (some ad)) H = dload1 (H.load ad 1) H := z14 (by kernel_rfl)
theorem z8f {b o : Nat} {H : Heap} : dFieldAddr Tryd.prog 25 (.pointer (some ⟨b, o, none⟩)) 5 H = some (.val (.pointer (some ⟨b, o + 5, none⟩)) H) := z04 (u := 23) (by kernel_rfl) (by kernel_rfl)
theorem ap23 : apOk Tryd.prog 23 25 6 := z9x (by kernel_rfl)
theorem st23 {b o : Nat} {H : Heap} {a : Option Addr} {n c : Nat} : dStore Tryd.prog 23 (.pointer (some ⟨b, o, none⟩)) (.slice a n c) H = dStoreB ⟨b, o, none⟩ [.slice a n c] H (H.get b) := z4w (by kernel_rfl) (by kernel_rfl)
theorem zad {b o : Nat} {H : Heap} : dFieldAddr Tryd.prog 25 (.pointer (some ⟨b, o, none⟩)) 0 H = some (.val (.pointer (some ⟨b, o + 0, none⟩)) H) := z04 (u := 3) (by kernel_rfl) (by kernel_rfl)
theorem zae {b o : Nat} {H : Heap} : dFieldAddr Tryd.prog 25 (.pointer (some ⟨b, o, none⟩)) 1 H = some (.val (.pointer (some ⟨b, o + 1, none⟩)) H) := z04 (u := 9) (by kernel_rfl) (by kernel_rfl)
theorem zaf {b o : Nat} {H : Heap} : dFieldAddr Tryd.prog 25 (.pointer (some ⟨b, o, none⟩)) 2 H = some (.val (.pointer (some ⟨b, o + 2, none⟩)) H) := z04 (u := 9) (by kernel_rfl) (by kernel_rfl)
theorem zag {b o : Nat} {H : Heap} : dFieldAddr Tryd.prog 25 (.pointer (some ⟨b, o, none⟩)) 3 H = some (.val (.pointer (some ⟨b, o + 3, none⟩)) H) := z04 (u := 22) (by kernel_rfl) (by kernel_rfl)
theorem ld22 {ad : Addr} {H : Heap} : dLoad Tryd.prog 22 (.pointer (some ad)) H = dload1 (H.load ad 1) H := z14 (by kernel_rfl)
theorem zah {b o : Nat} {H : Heap} : dFieldAddr Tryd.prog 25 (.pointer (some ⟨b, o, none⟩)) 4 H = some (.val (.pointer (some ⟨b, o + 4, none⟩)) H) := z04 (u := 3) (by kernel_rfl) (by kernel_rfl)
theorem ln23 {ty : TypeId} {a : Option Addr} {n c : Nat} {H : Heap} : dLn Tryd.prog 23 ty (.slice a n c) H = some (.val (.int .i64 n) H) := z4y (e := 25) (by kernel_rfl)
end Go.Proofs.YtnnpejdphgeciaaDoor.hb
end

-- St1
section
namespace Go.Proofs.YtnnpejdphgeciaaDoor.hb
open Go Go.RowKit Go.Hb
variable {ok : Ok}
set_option maxRecDepth 10000
attribute [local irreducible] LX LG EL STG SOP SGO SGD SAL SRD SEF SEG SLK SCK ES
theorem zam : pureRun Tryd.prog (Op.equal 35 (.pointer none) (.pointer none)) = some true := by kernel_rfl
theorem bEqN {H : Heap} {x y : Operand} : dBin Tryd.prog .eql 35 x y (.pointer none) (.pointer none) H = some (.val (.bool true) H) := by
  simp only [dBin, dnil, flat, eqGuard, binOp]
  simp [z5q, zam, flat]
theorem bEqC {H : Heap} {x y : Operand} : dBin Tryd.prog .eql 27 x y (.agg ⟨[.int .i64 0, .int .i64 0]⟩) (.agg ⟨[.int .i64 0, .int .i64 0]⟩) H = some (.val (.bool true) H) := by
  have h : (fun (x y : Operand) (H : Heap) => dBin Tryd.prog .eql 27 x y (.agg ⟨[.int .i64 0, .int .i64 0]⟩) (.agg ⟨[.int .i64 0, .int .i64 0]⟩) H) = fun x y H => some (.val (.bool true) H) := by kernel_rfl
  exact congrFun (congrFun (congrFun h x) y) H
theorem bEqK {H : Heap} {x y : Operand} : dBin Tryd.prog .eql 30 x y (.agg ⟨[.string ByteArray.empty, .int .i64 0]⟩) (.agg ⟨[.string ByteArray.empty, .int .i64 0]⟩) H = some (.val (.bool true) H) := by
  have h : (fun (x y : Operand) (H : Heap) => dBin Tryd.prog .eql 30 x y (.agg ⟨[.string ByteArray.empty, .int .i64 0]⟩) (.agg ⟨[.string ByteArray.empty, .int .i64 0]⟩) H) = fun x y H => some (.val (.bool true) H) := by kernel_rfl
  exact congrFun (congrFun (congrFun h x) y) H
theorem z5t {H : Heap} {b : Nat} {x y : Value} {T : TypeId} (g : H.get b = some (.row [x, y] T)) : H.load ⟨b, 0, none⟩ 2 = some [x, y] := by unfold Heap.load Heap.cells; simp only [g]; rfl
theorem zan {H : Heap} {b : Nat} {x : Value} {T : TypeId} (g : H.get b = some (.row [x] T)) : H.load ⟨b, 0, none⟩ 1 = some [x] := by unfold Heap.load Heap.cells; simp only [g]; rfl
theorem d10 : ((1 : Int) == 0) = false := by decide
theorem d11 : ((1 : Int) != 0) = true := by decide
def okS : Ok := okAw (2 ^ 165 - 1) 5
theorem z8g  {H : Heap} (hw : H.wf) : EvF Tryd.prog okS 22 [.pointer none] H fun v H' => v = .int .i64 0 ∧ HX H H' := by
  refine EvF.enter rfl Tryd.func22 (by decide) rfl ?_
  repeat' (first | refine EvC.seq ?_ | refine EvC.scope ?_ | refine EvC.block ?_ | (refine EvC.skip ?_) | (refine EvC.exit ?_) | (refine EvC.ret ?_; try simp only [z01, z00]) | (refine EvC.reg ?_; simp (config := { maxSteps := 2000000 }) (disch := first | omega | rfl) only [sB, initTm, Nat.reduceEqDiff, reduceCtorEq, bEqN]) | (refine EvC.condT ?_ ?_; simp (config := { maxSteps := 2000000 }) (disch := first | omega | rfl) only [sB, Nat.reduceEqDiff, reduceCtorEq]; refine z0d ?_))
  exact z0b rfl (by simp only [sG, Nat.reduceEqDiff, reduceCtorEq] <;> rfl) ⟨rfl, HX.refl hw⟩
theorem z8h  {H : Heap} (hw : H.wf) : EvF Tryd.prog okS 23 [.pointer none] H fun v H' => v = .int .i64 0 ∧ HX H H' := by
  refine EvF.enter rfl Tryd.func23 (by decide) rfl ?_
  repeat' (first | refine EvC.seq ?_ | refine EvC.scope ?_ | refine EvC.block ?_ | (refine EvC.skip ?_) | (refine EvC.exit ?_) | (refine EvC.ret ?_; try simp only [z01, z00]) | (refine EvC.reg ?_; simp (config := { maxSteps := 2000000 }) (disch := first | omega | rfl) only [sB, initTm, Nat.reduceEqDiff, reduceCtorEq, bEqN]) | (refine EvC.condT ?_ ?_; simp (config := { maxSteps := 2000000 }) (disch := first | omega | rfl) only [sB, Nat.reduceEqDiff, reduceCtorEq]; refine z0d ?_))
  exact z0b rfl (by simp only [sG, Nat.reduceEqDiff, reduceCtorEq] <;> rfl) ⟨rfl, HX.refl hw⟩
theorem z8i  {H : Heap} (hw : H.wf) : EvF Tryd.prog okS 24 [.pointer none] H fun v H' => v = .int .i64 0 ∧ HX H H' := by
  refine EvF.enter rfl Tryd.func24 (by decide) rfl ?_
  repeat' (first | refine EvC.seq ?_ | refine EvC.scope ?_ | refine EvC.block ?_ | (refine EvC.skip ?_) | (refine EvC.exit ?_) | (refine EvC.ret ?_; try simp only [z01, z00]) | (refine EvC.reg ?_; simp (config := { maxSteps := 2000000 }) (disch := first | omega | rfl) only [sB, initTm, Nat.reduceEqDiff, reduceCtorEq, bEqN]) | (refine EvC.condT ?_ ?_; simp (config := { maxSteps := 2000000 }) (disch := first | omega | rfl) only [sB, Nat.reduceEqDiff, reduceCtorEq]; refine z0d ?_))
  exact z0b rfl (by simp only [sG, Nat.reduceEqDiff, reduceCtorEq] <;> rfl) ⟨rfl, HX.refl hw⟩
theorem z8j  {H : Heap} (hw : H.wf) : EvF Tryd.prog okS 25 [.pointer none] H fun v H' => v = .int .i64 0 ∧ HX H H' := by
  refine EvF.enter rfl Tryd.func25 (by decide) rfl ?_
  repeat' (first | refine EvC.seq ?_ | refine EvC.scope ?_ | refine EvC.block ?_ | (refine EvC.skip ?_) | (refine EvC.exit ?_) | (refine EvC.ret ?_; try simp only [z01, z00]) | (refine EvC.reg ?_; simp (config := { maxSteps := 2000000 }) (disch := first | omega | rfl) only [sB, initTm, Nat.reduceEqDiff, reduceCtorEq, bEqN]) | (refine EvC.condT ?_ ?_; simp (config := { maxSteps := 2000000 }) (disch := first | omega | rfl) only [sB, Nat.reduceEqDiff, reduceCtorEq]; refine z0d ?_))
  exact z0b rfl (by simp only [sG, Nat.reduceEqDiff, reduceCtorEq] <;> rfl) ⟨rfl, HX.refl hw⟩
theorem z8k {n : Int} {H : Heap} (hw : H.wf) : EvF Tryd.prog okS 13 [.pointer none, .int .i64 n] H fun v H' => v = .int .i64 1 ∧ HX H H' := by
  refine EvF.enter rfl Tryd.func13 (by decide) rfl ?_
  repeat' (first | refine EvC.seq ?_ | refine EvC.scope ?_ | refine EvC.block ?_ | (refine EvC.skip ?_) | (refine EvC.exit ?_) | (refine EvC.ret ?_; try simp only [z01, z00]) | (refine EvC.reg ?_; simp (config := { maxSteps := 2000000 }) (disch := first | omega | rfl) only [sB, initTm, Nat.reduceEqDiff, reduceCtorEq, bEqN]) | (refine EvC.condT ?_ ?_; simp (config := { maxSteps := 2000000 }) (disch := first | omega | rfl) only [sB, Nat.reduceEqDiff, reduceCtorEq]; refine z0d ?_))
  exact z0b rfl (by simp only [sG, Nat.reduceEqDiff, reduceCtorEq] <;> rfl) ⟨rfl, HX.refl hw⟩
theorem z5u {n : Int} {H : Heap} (hw : H.wf) : EvF Tryd.prog okS 14 [.pointer none, .int .i64 n] H fun v H' => v = .int .i64 1 ∧ HX H H' := by
  refine EvF.enter rfl Tryd.func14 (by decide) rfl ?_
  repeat' (first | refine EvC.seq ?_ | refine EvC.scope ?_ | refine EvC.block ?_ | (refine EvC.skip ?_) | (refine EvC.exit ?_) | (refine EvC.ret ?_; try simp only [z01, z00]) | (refine EvC.reg ?_; simp (config := { maxSteps := 2000000 }) (disch := first | omega | rfl) only [sB, initTm, Nat.reduceEqDiff, reduceCtorEq, bEqN]) | (refine EvC.condT ?_ ?_; simp (config := { maxSteps := 2000000 }) (disch := first | omega | rfl) only [sB, Nat.reduceEqDiff, reduceCtorEq]; refine z0d ?_))
  exact z0b rfl (by simp only [sG, Nat.reduceEqDiff, reduceCtorEq] <;> rfl) ⟨rfl, HX.refl hw⟩
theorem z3g {n : Int} {H : Heap} (hw : H.wf) : EvF Tryd.prog okS 40 [.pointer none, .int .i64 n] H fun v H' => v = .int .i64 1 ∧ HX H H' := by
  refine EvF.enter rfl Tryd.func40 (by decide) rfl ?_
  repeat' (first | refine EvC.seq ?_ | refine EvC.scope ?_ | refine EvC.block ?_ | (refine EvC.skip ?_) | (refine EvC.exit ?_) | (refine EvC.ret ?_; try simp only [z01, z00]) | (refine EvC.reg ?_; simp (config := { maxSteps := 2000000 }) (disch := first | omega | rfl) only [sB, initTm, Nat.reduceEqDiff, reduceCtorEq, bEqN]) | (refine EvC.condT ?_ ?_; simp (config := { maxSteps := 2000000 }) (disch := first | omega | rfl) only [sB, Nat.reduceEqDiff, reduceCtorEq]; refine z0d ?_))
  exact z0b rfl (by simp only [sG, Nat.reduceEqDiff, reduceCtorEq] <;> rfl) ⟨rfl, HX.refl hw⟩
theorem z5v {n : Int} {H : Heap} (hw : H.wf) : EvF Tryd.prog okS 12 [.pointer none, .int .i64 n] H fun v H' => v = .tuple ⟨[.int .i64 0, .int .i64 1]⟩ ∧ HX H H' := by
  refine EvF.enter rfl Tryd.func12 (by decide) rfl ?_
  repeat' (first | refine EvC.seq ?_ | refine EvC.scope ?_ | refine EvC.block ?_ | (refine EvC.skip ?_) | (refine EvC.exit ?_) | (refine EvC.ret ?_; try simp only [z01, z00]) | (refine EvC.reg ?_; simp (config := { maxSteps := 2000000 }) (disch := first | omega | rfl) only [sB, initTm, Nat.reduceEqDiff, reduceCtorEq, bEqN]) | (refine EvC.condT ?_ ?_; simp (config := { maxSteps := 2000000 }) (disch := first | omega | rfl) only [sB, Nat.reduceEqDiff, reduceCtorEq]; refine z0d ?_))
  exact z89 rfl (by simp only [sG, Nat.reduceEqDiff, reduceCtorEq] <;> rfl) (by simp only [sG, Nat.reduceEqDiff, reduceCtorEq] <;> rfl) ⟨rfl, HX.refl hw⟩
theorem z55 {n : Int} {H : Heap} (hw : H.wf) : EvF Tryd.prog okS 39 [.pointer none, .int .i64 n] H fun v H' => v = .int .i64 1 ∧ HX H H' := by
  refine EvF.enter rfl Tryd.func39 (by decide) rfl ?_
  repeat' (first | refine EvC.seq ?_ | refine EvC.scope ?_ | refine EvC.block ?_ | (refine EvC.skip ?_) | (refine EvC.exit ?_) | (refine EvC.ret ?_; try simp only [z01, z00]) | (refine EvC.reg ?_; simp (config := { maxSteps := 2000000 }) (disch := first | omega | rfl) only [sB, initTm, Nat.reduceEqDiff, reduceCtorEq, cl12]))
  refine (z5v hw).mono ?_
  rintro v H2 ⟨rfl, k2⟩
  repeat' (first | refine EvC.seq ?_ | refine EvC.scope ?_ | refine EvC.block ?_ | (refine EvC.skip ?_; try simp only [z0p]) | (refine EvC.exit ?_) | (refine EvC.ret ?_; try simp only [z01, z00]) | (refine EvC.reg ?_; simp (config := { maxSteps := 2000000 }) (disch := first | omega | rfl) only [sB, Nat.reduceEqDiff, reduceCtorEq, d10, Bool.false_eq_true]) | (refine z4z ?_; simp (config := { maxSteps := 2000000 }) (disch := first | omega | rfl) only [sB, Nat.reduceEqDiff, reduceCtorEq]) | (refine EvC.condT ?_ ?_; simp (config := { maxSteps := 2000000 }) (disch := first | omega | rfl) only [sB, Nat.reduceEqDiff, reduceCtorEq]; refine z0d ?_) | (refine EvC.condF ?_ ?_; simp (config := { maxSteps := 2000000 }) (disch := first | omega | rfl) only [sB, Nat.reduceEqDiff, reduceCtorEq]; refine z0d ?_))
  exact z0b rfl (by simp only [sG, Nat.reduceEqDiff, reduceCtorEq] <;> rfl) ⟨rfl, k2⟩
theorem z5w {n : Int} {H : Heap} (hw : H.wf) : EvF Tryd.prog okS 18 [.pointer none, .int .i64 n] H fun v H' => v = .int .i64 1 ∧ HX H H' := by
  refine EvF.enter rfl Tryd.func18 (by decide) rfl ?_
  repeat' (first | refine EvC.seq ?_ | refine EvC.scope ?_ | refine EvC.block ?_ | (refine EvC.skip ?_) | (refine EvC.exit ?_) | (refine EvC.ret ?_; try simp only [z01, z00]) | (refine EvC.reg ?_; simp (config := { maxSteps := 2000000 }) (disch := first | omega | rfl) only [sB, initTm, Nat.reduceEqDiff, reduceCtorEq, cl40]))
  refine (z3g hw).mono ?_
  rintro v H2 ⟨rfl, k2⟩
  repeat' (first | refine EvC.seq ?_ | refine EvC.scope ?_ | refine EvC.block ?_ | (refine EvC.skip ?_) | (refine EvC.exit ?_) | (refine EvC.ret ?_; try simp only [z01, z00]) | (refine EvC.reg ?_; simp (config := { maxSteps := 2000000 }) (disch := first | omega | rfl) only [sB, Nat.reduceEqDiff, reduceCtorEq, d11]) | (refine EvC.condT ?_ ?_; simp (config := { maxSteps := 2000000 }) (disch := first | omega | rfl) only [sB, Nat.reduceEqDiff, reduceCtorEq]; refine z0d ?_))
  exact z0b rfl (by simp only [sG, Nat.reduceEqDiff, reduceCtorEq] <;> rfl) ⟨rfl, k2⟩
theorem z8l {n : Int} {H : Heap} (hw : H.wf) : EvF Tryd.prog okS 16 [.pointer none, .int .i64 n] H fun v H' => v = .int .i64 1 ∧ HX H H' := by
  refine EvF.enter rfl Tryd.func16 (by decide) rfl ?_
  repeat' (first | refine EvC.seq ?_ | refine EvC.scope ?_ | refine EvC.block ?_ | (refine EvC.skip ?_) | (refine EvC.exit ?_) | (refine EvC.ret ?_; try simp only [z01, z00]) | (refine EvC.reg ?_; simp (config := { maxSteps := 2000000 }) (disch := first | omega | rfl) only [sB, initTm, Nat.reduceEqDiff, reduceCtorEq, cl39]))
  refine (z55 hw).mono ?_
  rintro v H2 ⟨rfl, k2⟩
  repeat' (first | refine EvC.seq ?_ | refine EvC.scope ?_ | refine EvC.block ?_ | (refine EvC.skip ?_) | (refine EvC.exit ?_) | (refine EvC.ret ?_; try simp only [z01, z00]) | (refine EvC.reg ?_; simp (config := { maxSteps := 2000000 }) (disch := first | omega | rfl) only [sB, Nat.reduceEqDiff, reduceCtorEq, d11]) | (refine EvC.condT ?_ ?_; simp (config := { maxSteps := 2000000 }) (disch := first | omega | rfl) only [sB, Nat.reduceEqDiff, reduceCtorEq]; refine z0d ?_))
  exact z0b rfl (by simp only [sG, Nat.reduceEqDiff, reduceCtorEq] <;> rfl) ⟨rfl, k2⟩
theorem z56 {n : Int} {H : Heap} (hw : H.wf) : EvF Tryd.prog okS 26 [.pointer none, .int .i64 n] H fun v H' => v = .bool false ∧ HX H H' := by
  refine EvF.enter rfl Tryd.func26 (by decide) rfl ?_
  repeat' (first | refine EvC.seq ?_ | refine EvC.scope ?_ | refine EvC.block ?_ | (refine EvC.skip ?_) | (refine EvC.exit ?_) | (refine EvC.ret ?_; try simp only [z01, z00]) | (refine EvC.reg ?_; simp (config := { maxSteps := 2000000 }) (disch := first | omega | rfl) only [sB, initTm, Nat.reduceEqDiff, reduceCtorEq, cl12]))
  refine (z5v hw).mono ?_
  rintro v H2 ⟨rfl, k2⟩
  repeat' (first | refine EvC.seq ?_ | refine EvC.scope ?_ | refine EvC.block ?_ | (refine EvC.skip ?_) | (refine EvC.exit ?_) | (refine EvC.ret ?_; try simp only [z01, z00]) | (refine EvC.reg ?_; simp (config := { maxSteps := 2000000 }) (disch := first | omega | rfl) only [sB, Nat.reduceEqDiff, reduceCtorEq, d10, Bool.false_eq_true]) | (refine z4z ?_; simp (config := { maxSteps := 2000000 }) (disch := first | omega | rfl) only [sB, Nat.reduceEqDiff, reduceCtorEq]))
  exact z0b rfl (by simp only [sG, Nat.reduceEqDiff, reduceCtorEq] <;> rfl) ⟨rfl, k2⟩
theorem z8m {n : Int} {H : Heap} (hw : H.wf) : EvF Tryd.prog okS 6 [.pointer none, .int .i64 n] H fun v H' => v = .tuple ⟨[.agg ⟨[.int .i64 0, .int .i64 0]⟩, .int .i64 1]⟩ ∧ HX H H' := by
  refine EvF.enter rfl Tryd.func6 (by decide) rfl ?_
  (repeat refine EvC.seq ?_); refine EvC.reg ?_; simp (config := { maxSteps := 2000000 }) (disch := first | omega | rfl) only [sA, initTm, dAlloc, zr27]
  obtain ⟨H2, e2, hx2, g2, hn2, hw2⟩ := new1 hw (.row [.int .i64 0, .int .i64 0] 27)
  simp only [e2]
  clear e2
  repeat' (first | refine EvC.seq ?_ | refine EvC.scope ?_ | refine EvC.block ?_ | (refine EvC.skip ?_) | (refine EvC.exit ?_) | (refine EvC.ret ?_; try simp only [z01, z00]) | (refine EvC.reg ?_; simp (config := { maxSteps := 2000000 }) (disch := first | omega | rfl) only [sB, Nat.reduceEqDiff, Nat.reduceAdd, Value.cells, one, reduceCtorEq, layC, bd27, st27, g2, bEqN]) | (refine EvC.condT ?_ ?_; simp (config := { maxSteps := 2000000 }) (disch := first | omega | rfl) only [sB, Nat.reduceEqDiff, reduceCtorEq]; refine z0d ?_))
  exact z0j rfl (by simp only [sB, Nat.reduceEqDiff, reduceCtorEq] <;> rfl) (by simp only [sB, Nat.reduceAdd, cutC, ld27] <;> rfl) (by simp only [sG, Nat.reduceEqDiff, reduceCtorEq] <;> rfl) ⟨rfl, hx2.ptS (Nat.le_refl _) g2 _⟩
theorem z9c {k : Int} {s u : ByteArray} {b v : Int} {a : Option Addr} {n c : Nat} {H : Heap} (hw : H.wf) : EvF Tryd.prog okS 7 [.pointer none, .agg ⟨[.int .i64 k, .string s, .string u, .int .u64 b, .int .i64 v, .slice a n c]⟩] H fun v H' => v = .tuple ⟨[.agg ⟨[.int .i64 0, .int .i64 0]⟩, .int .i64 1]⟩ ∧ HX H H' := by
  refine EvF.enter rfl Tryd.func7 (by decide) rfl ?_
  (repeat refine EvC.seq ?_); refine EvC.reg ?_; simp (config := { maxSteps := 2000000 }) (disch := first | omega | rfl) only [sB, initTm, dBox, dAlloc, Value.cells, one, reduceCtorEq, zr27]
  obtain ⟨H2, e2, hx2, g1, g2, hn2, hw2⟩ := new2 hw (.row [.int .i64 k, .string s, .string u, .int .u64 b, .int .i64 v, .slice a n c] 25) (.row [.int .i64 0, .int .i64 0] 27)
  simp only [e2]
  clear e2
  repeat' (first | refine EvC.seq ?_ | refine EvC.scope ?_ | refine EvC.block ?_ | (refine EvC.skip ?_) | (refine EvC.exit ?_) | (refine EvC.ret ?_; try simp only [z01, z00]) | (refine EvC.reg ?_; simp (config := { maxSteps := 2000000 }) (disch := first | omega | rfl) only [sB, Nat.reduceEqDiff, Nat.reduceAdd, Value.cells, one, reduceCtorEq, layC, bd27, st27, g2, bEqN]) | (refine EvC.condT ?_ ?_; simp (config := { maxSteps := 2000000 }) (disch := first | omega | rfl) only [sB, Nat.reduceEqDiff, reduceCtorEq]; refine z0d ?_))
  exact z0j rfl (by simp only [sB, Nat.reduceEqDiff, reduceCtorEq] <;> rfl) (by simp only [sB, Nat.reduceAdd, cutC, ld27] <;> rfl) (by simp only [sG, Nat.reduceEqDiff, reduceCtorEq] <;> rfl) ⟨rfl, hx2.ptS (by omega) g2 _⟩
theorem z2f {p q : Int} {H : Heap} (hw : H.wf) : EvF Tryd.prog okS 8 [.pointer none, .agg ⟨[.int .i64 p, .int .i64 q]⟩] H fun v H' => v = .tuple ⟨[.agg ⟨[.int .i64 0, .int .i64 0]⟩, .int .i64 1]⟩ ∧ HX H H' := by
  refine EvF.enter rfl Tryd.func8 (by decide) rfl ?_
  (repeat refine EvC.seq ?_); refine EvC.reg ?_; simp (config := { maxSteps := 2000000 }) (disch := first | omega | rfl) only [sB, initTm, dBox, dAlloc, Value.cells, one, reduceCtorEq, zr27]
  obtain ⟨H2, e2, hx2, g1, g2, hn2, hw2⟩ := new2 hw (.row [.int .i64 p, .int .i64 q] 27) (.row [.int .i64 0, .int .i64 0] 27)
  simp only [e2]
  clear e2
  repeat' (first | refine EvC.seq ?_ | refine EvC.scope ?_ | refine EvC.block ?_ | (refine EvC.skip ?_) | (refine EvC.exit ?_) | (refine EvC.ret ?_; try simp only [z01, z00]) | (refine EvC.reg ?_; simp (config := { maxSteps := 2000000 }) (disch := first | omega | rfl) only [sB, Nat.reduceEqDiff, Nat.reduceAdd, Value.cells, one, reduceCtorEq, layC, bd27, st27, g2, bEqN]) | (refine EvC.condT ?_ ?_; simp (config := { maxSteps := 2000000 }) (disch := first | omega | rfl) only [sB, Nat.reduceEqDiff, reduceCtorEq]; refine z0d ?_))
  exact z0j rfl (by simp only [sB, Nat.reduceEqDiff, reduceCtorEq] <;> rfl) (by simp only [sB, Nat.reduceAdd, cutC, ld27] <;> rfl) (by simp only [sG, Nat.reduceEqDiff, reduceCtorEq] <;> rfl) ⟨rfl, hx2.ptS (by omega) g2 _⟩
theorem z8n {p q : Int} {H : Heap} (hw : H.wf) : EvF Tryd.prog okS 11 [.pointer none, .agg ⟨[.int .i64 p, .int .i64 q]⟩] H fun v H' => v = .tuple ⟨[.agg ⟨[.int .i64 0, .string ByteArray.empty, .string ByteArray.empty, .int .u64 0, .int .i64 0, .slice none 0 0]⟩, .int .i64 1]⟩ ∧ HX H H' := by
  refine EvF.enter rfl Tryd.func11 (by decide) rfl ?_
  (repeat refine EvC.seq ?_); refine EvC.reg ?_; simp (config := { maxSteps := 2000000 }) (disch := first | omega | rfl) only [sB, initTm, dBox, dAlloc, Value.cells, one, reduceCtorEq, zr25]
  obtain ⟨H2, e2, hx2, g1, g2, hn2, hw2⟩ := new2 hw (.row [.int .i64 p, .int .i64 q] 27) (.row [.int .i64 0, .string ByteArray.empty, .string ByteArray.empty, .int .u64 0, .int .i64 0, .slice none 0 0] 25)
  simp only [e2]
  clear e2
  repeat' (first | refine EvC.seq ?_ | refine EvC.scope ?_ | refine EvC.block ?_ | (refine EvC.skip ?_) | (refine EvC.exit ?_) | (refine EvC.ret ?_; try simp only [z01, z00]) | (refine EvC.reg ?_; simp (config := { maxSteps := 2000000 }) (disch := first | omega | rfl) only [sB, Nat.reduceEqDiff, Nat.reduceAdd, Value.cells, one, reduceCtorEq, layC, bd25, st25, g2, bEqN]) | (refine EvC.condT ?_ ?_; simp (config := { maxSteps := 2000000 }) (disch := first | omega | rfl) only [sB, Nat.reduceEqDiff, reduceCtorEq]; refine z0d ?_))
  exact z0j rfl (by simp only [sB, Nat.reduceEqDiff, reduceCtorEq] <;> rfl) (by simp only [sB, Nat.reduceAdd, cutC, ld25] <;> rfl) (by simp only [sG, Nat.reduceEqDiff, reduceCtorEq] <;> rfl) ⟨rfl, hx2.ptS (by omega) g2 _⟩
theorem z5x {p q : Int} {H : Heap} (hw : H.wf) : EvF Tryd.prog okS 9 [.pointer none, .agg ⟨[.int .i64 p, .int .i64 q]⟩] H fun v H' => v = .tuple ⟨[.agg ⟨[.int .i64 0, .string ByteArray.empty, .string ByteArray.empty, .int .u64 0, .int .i64 0, .slice none 0 0]⟩, .int .i64 1]⟩ ∧ HX H H' := by
  refine EvF.enter rfl Tryd.func9 (by decide) rfl ?_
  (repeat refine EvC.seq ?_); refine EvC.reg ?_; simp (config := { maxSteps := 2000000 }) (disch := first | omega | rfl) only [sB, initTm, dBox, dAlloc, Value.cells, one, reduceCtorEq, zr25]
  obtain ⟨H2, e2, hx2, g1, g2, hn2, hw2⟩ := new2 hw (.row [.int .i64 p, .int .i64 q] 27) (.row [.int .i64 0, .string ByteArray.empty, .string ByteArray.empty, .int .u64 0, .int .i64 0, .slice none 0 0] 25)
  simp only [e2]
  clear e2
  repeat' (first | refine EvC.seq ?_ | refine EvC.scope ?_ | refine EvC.block ?_ | (refine EvC.skip ?_) | (refine EvC.exit ?_) | (refine EvC.ret ?_; try simp only [z01, z00]) | (refine EvC.reg ?_; simp (config := { maxSteps := 2000000 }) (disch := first | omega | rfl) only [sB, Nat.reduceEqDiff, reduceCtorEq, ld27, cl8, z5t g1]))
  refine (z2f hw2).mono ?_
  rintro v H3 ⟨rfl, k3⟩
  have g2 := k3.get hw2 g2
  try simp (config := { maxSteps := 2000000 }) (disch := first | omega | rfl) only [sB, dAlloc, Nat.reduceEqDiff, Nat.reduceAdd, one, reduceCtorEq, zr27, st27]
  obtain ⟨H4, e4, k4, g4, n4, w4⟩ := z17 k3.wf (.row [.int .i64 0, .int .i64 0] 27) (.row [.int .i64 0, .int .i64 0] 27)
  simp only [e4]
  clear e4
  have g2 := k4.get k3.wf g2
  repeat' (first | refine EvC.seq ?_ | refine EvC.scope ?_ | refine EvC.block ?_ | (refine EvC.skip ?_) | (refine EvC.exit ?_) | (refine EvC.ret ?_; try simp only [z01, z00]) | (refine EvC.reg ?_; simp (config := { maxSteps := 2000000 }) (disch := first | omega | rfl) only [sB, Nat.reduceEqDiff, Nat.reduceAdd, Value.cells, one, reduceCtorEq, layC, bd25, st25, g2, d11]) | (refine EvC.condT ?_ ?_; simp (config := { maxSteps := 2000000 }) (disch := first | omega | rfl) only [sB, Nat.reduceEqDiff, reduceCtorEq]; refine z0d ?_))
  exact z0j rfl (by simp only [sB, Nat.reduceEqDiff, reduceCtorEq] <;> rfl) (by simp only [sB, Nat.reduceAdd, cutC, ld25] <;> rfl) (by simp only [sG, Nat.reduceEqDiff, reduceCtorEq] <;> rfl) ⟨rfl, ((hx2.trans k3).trans k4).ptS (by omega) g2 _⟩
theorem z7g {p q : Int} {H : Heap} (hw : H.wf) : EvF Tryd.prog okS 10 [.pointer none, .agg ⟨[.int .i64 p, .int .i64 q]⟩] H fun v H' => v = .tuple ⟨[.agg ⟨[.string ByteArray.empty, .int .i64 0]⟩, .slice none 0 0, .int .i64 1]⟩ ∧ HX H H' := by
  refine EvF.enter rfl Tryd.func10 (by decide) rfl ?_
  (repeat refine EvC.seq ?_); refine EvC.reg ?_; simp (config := { maxSteps := 2000000 }) (disch := first | omega | rfl) only [sB, initTm, dBox, dAlloc, Value.cells, one, reduceCtorEq, zr30]
  obtain ⟨H2, e2, hx2, g1, g2, hn2, hw2⟩ := new2 hw (.row [.int .i64 p, .int .i64 q] 27) (.row [.string ByteArray.empty, .int .i64 0] 30)
  simp only [e2]
  clear e2
  repeat' (first | refine EvC.seq ?_ | refine EvC.scope ?_ | refine EvC.block ?_ | (refine EvC.skip ?_) | (refine EvC.exit ?_) | (refine EvC.ret ?_; try simp only [z01, z00]) | (refine EvC.reg ?_; simp (config := { maxSteps := 2000000 }) (disch := first | omega | rfl) only [sB, Nat.reduceEqDiff, reduceCtorEq, ld27, cl8, z5t g1]))
  refine (z2f hw2).mono ?_
  rintro v H3 ⟨rfl, k3⟩
  have g2 := k3.get hw2 g2
  try simp (config := { maxSteps := 2000000 }) (disch := first | omega | rfl) only [sB, dAlloc, Nat.reduceEqDiff, Nat.reduceAdd, one, reduceCtorEq, zr27, st27]
  obtain ⟨H4, e4, k4, g4, n4, w4⟩ := z17 k3.wf (.row [.int .i64 0, .int .i64 0] 27) (.row [.int .i64 0, .int .i64 0] 27)
  simp only [e4]
  clear e4
  have g2 := k4.get k3.wf g2
  repeat' (first | refine EvC.seq ?_ | refine EvC.scope ?_ | refine EvC.block ?_ | (refine EvC.skip ?_) | (refine EvC.exit ?_) | (refine EvC.ret ?_; try simp only [z01, z00]) | (refine EvC.reg ?_; simp (config := { maxSteps := 2000000 }) (disch := first | omega | rfl) only [sB, Nat.reduceEqDiff, Nat.reduceAdd, Value.cells, one, reduceCtorEq, layC, bd30, st30, g2, d11]) | (refine EvC.condT ?_ ?_; simp (config := { maxSteps := 2000000 }) (disch := first | omega | rfl) only [sB, Nat.reduceEqDiff, reduceCtorEq]; refine z0d ?_))
  exact z2p rfl (by simp only [sB, Nat.reduceEqDiff, reduceCtorEq] <;> rfl) (by simp only [sB, Nat.reduceAdd, cutC, ld30] <;> rfl) (by simp only [sG, Nat.reduceEqDiff, reduceCtorEq] <;> rfl) (by simp only [sG, Nat.reduceEqDiff, reduceCtorEq] <;> rfl) ⟨rfl, ((hx2.trans k3).trans k4).ptS (by omega) g2 _⟩
theorem z8o {n p q : Int} {H : Heap} (hw : H.wf) : EvF Tryd.prog okS 15 [.pointer none, .int .i64 n, .agg ⟨[.int .i64 p, .int .i64 q]⟩] H fun v H' => v = .int .i64 1 ∧ HX H H' := by
  refine EvF.enter rfl Tryd.func15 (by decide) rfl ?_
  (repeat refine EvC.seq ?_); refine EvC.reg ?_; simp (config := { maxSteps := 2000000 }) (disch := first | omega | rfl) only [sB, initTm, dBox, Nat.reduceEqDiff, Nat.reduceAdd, Value.cells, one, reduceCtorEq]
  obtain ⟨H2, e2, hx2, g2, hn2, hw2⟩ := new1 hw (.row [.int .i64 p, .int .i64 q] 27)
  simp only [e2]
  clear e2
  repeat' (first | refine EvC.seq ?_ | refine EvC.scope ?_ | refine EvC.block ?_ | (refine EvC.skip ?_) | (refine EvC.exit ?_) | (refine EvC.ret ?_; try simp only [z01, z00]) | (refine EvC.reg ?_; simp (config := { maxSteps := 2000000 }) (disch := first | omega | rfl) only [sB, Nat.reduceEqDiff, reduceCtorEq, cl39]))
  refine (z55 hw2).mono ?_
  rintro v H3 ⟨rfl, k3⟩
  repeat' (first | refine EvC.seq ?_ | refine EvC.scope ?_ | refine EvC.block ?_ | (refine EvC.skip ?_) | (refine EvC.exit ?_) | (refine EvC.ret ?_; try simp only [z01, z00]) | (refine EvC.reg ?_; simp (config := { maxSteps := 2000000 }) (disch := first | omega | rfl) only [sB, Nat.reduceEqDiff, reduceCtorEq, d11]) | (refine EvC.condT ?_ ?_; simp (config := { maxSteps := 2000000 }) (disch := first | omega | rfl) only [sB, Nat.reduceEqDiff, reduceCtorEq]; refine z0d ?_))
  exact z0b rfl (by simp only [sG, Nat.reduceEqDiff, reduceCtorEq] <;> rfl) ⟨rfl, hx2.trans k3⟩
theorem z8p {n : Int} {H : Heap} (hw : H.wf) : EvF Tryd.prog okS 17 [.pointer none, .int .i64 n] H fun v H' => v = .int .i64 1 ∧ HX H H' := by
  refine EvF.enter rfl Tryd.func17 (by decide) rfl ?_
  (repeat refine EvC.seq ?_); refine EvC.reg ?_; simp (config := { maxSteps := 2000000 }) (disch := first | omega | rfl) only [sB, initTm, dBox, Value.cells, one, reduceCtorEq]
  obtain ⟨H2, e2, hx2, g2, hn2, hw2⟩ := new1 hw (.row [.pointer none] 35)
  simp only [e2]
  clear e2
  repeat' (first | refine EvC.seq ?_ | refine EvC.scope ?_ | refine EvC.block ?_ | (refine EvC.skip ?_) | (refine EvC.exit ?_) | (refine EvC.ret ?_; try simp only [z01, z00]) | (refine EvC.reg ?_; simp (config := { maxSteps := 2000000 }) (disch := first | omega | rfl) only [sB, Nat.reduceEqDiff, reduceCtorEq, ld35, cl40, zan g2]))
  refine (z3g hw2).mono ?_
  rintro v H3 ⟨rfl, k3⟩
  repeat' (first | refine EvC.seq ?_ | refine EvC.scope ?_ | refine EvC.block ?_ | (refine EvC.skip ?_) | (refine EvC.exit ?_) | (refine EvC.ret ?_; try simp only [z01, z00]) | (refine EvC.reg ?_; simp (config := { maxSteps := 2000000 }) (disch := first | omega | rfl) only [sB, Nat.reduceEqDiff, reduceCtorEq, d11]) | (refine EvC.condT ?_ ?_; simp (config := { maxSteps := 2000000 }) (disch := first | omega | rfl) only [sB, Nat.reduceEqDiff, reduceCtorEq]; refine z0d ?_))
  exact z0b rfl (by simp only [sG, Nat.reduceEqDiff, reduceCtorEq] <;> rfl) ⟨rfl, hx2.trans k3⟩
theorem z7h {a : Option Addr} {n c : Nat} {H : Heap} (hw : H.wf) : EvF Tryd.prog okS 19 [.pointer none, .slice a n c] H fun v H' => v = .int .i64 1 ∧ HX H H' := by
  refine EvF.enter rfl Tryd.func19 (by decide) rfl ?_
  (repeat refine EvC.seq ?_); refine EvC.reg ?_; simp (config := { maxSteps := 2000000 }) (disch := first | omega | rfl) only [sB, initTm, dBox, Value.cells, one, reduceCtorEq]
  obtain ⟨H2, e2, hx2, g2, hn2, hw2⟩ := new1 hw (.row [.slice a n c] 28)
  simp only [e2]
  clear e2
  repeat' (first | refine EvC.seq ?_ | refine EvC.scope ?_ | refine EvC.block ?_ | (refine EvC.skip ?_) | (refine EvC.exit ?_) | (refine EvC.ret ?_; try simp only [z01, z00]) | (refine EvC.reg ?_; simp (config := { maxSteps := 2000000 }) (disch := first | omega | rfl) only [sB, Nat.reduceEqDiff, reduceCtorEq, bEqN]) | (refine EvC.condT ?_ ?_; simp (config := { maxSteps := 2000000 }) (disch := first | omega | rfl) only [sB, Nat.reduceEqDiff, reduceCtorEq]; refine z0d ?_))
  exact z0b rfl (by simp only [sG, Nat.reduceEqDiff, reduceCtorEq] <;> rfl) ⟨rfl, hx2⟩
end Go.Proofs.YtnnpejdphgeciaaDoor.hb
end

-- St2
section
namespace Go.Proofs.YtnnpejdphgeciaaDoor.hb
open Go Go.RowKit Go.Hb
variable {ok : Ok}
set_option maxRecDepth 10000
attribute [local irreducible] LX LG EL STG SOP SGO SGD SAL SRD SEF SEG SLK SCK ES
theorem za0 {H : Heap} {b : Nat} {x0 x1 x2 x3 x4 x5 : Value} {T : TypeId} (g : H.get b = some (.row [x0, x1, x2, x3, x4, x5] T)) : H.load ⟨b, 0, none⟩ 6 = some [x0, x1, x2, x3, x4, x5] ∧ H.load ⟨b, 5, none⟩ 1 = some [x5] := by
  constructor <;> (unfold Heap.load Heap.cells; simp only [g]; rfl)
theorem zai {H : Heap} {b : Nat} {x0 x1 x2 x3 x4 x5 : Value} {T : TypeId} (g : H.get b = some (.row [x0, x1, x2, x3, x4, x5] T)) : H.load ⟨b, 0, none⟩ 1 = some [x0] ∧ H.load ⟨b, 1, none⟩ 1 = some [x1] ∧ H.load ⟨b, 2, none⟩ 1 = some [x2] ∧ H.load ⟨b, 3, none⟩ 1 = some [x3] ∧ H.load ⟨b, 4, none⟩ 1 = some [x4] ∧ H.load ⟨b, 5, none⟩ 1 = some [x5] := by
  refine ⟨?_, ?_, ?_, ?_, ?_, ?_⟩ <;> (unfold Heap.load Heap.cells; simp only [g]; rfl)
theorem d00 : ((0 : Int) != 0) = false := by decide
theorem d0n : ((((0 : Nat) : Int)) != ((0 : Nat) : Int)) = false := by decide
theorem dlt0 : decide ((0 : Int) < ((0 : Nat) : Int)) = false := by decide
theorem zao {H : Heap} {b : Nat} {x y : Value} {T : TypeId} (g : H.get b = some (.row [x, y] T)) : H.load ⟨b, 0, none⟩ 1 = some [x] ∧ H.load ⟨b, 1, none⟩ 1 = some [y] := by
  constructor <;> (unfold Heap.load Heap.cells; simp only [g]; rfl)
abbrev z6 (k : Int) (s : ByteArray) (v : Value) : List Value := [.int .i64 k, .string s, .string ByteArray.empty, .int .u64 0, .int .i64 0, v]
set_option maxHeartbeats 4000000 in
theorem z7i {s : ByteArray} {m : Int} {a : Option Addr} {n c : Nat} {H : Heap} (hn : n ≤ 9223372036854775807) (hw : H.wf) :
    EvF Tryd.prog okS 20 [.pointer none, .agg ⟨[.string s, .int .i64 m]⟩, .slice a n c] H fun v H' => v = .tuple ⟨[.agg ⟨[.int .i64 0, .int .i64 0]⟩, .int .i64 1]⟩ ∧ HX H H' := by
  have ean : apOk Tryd.prog 23 25 6 := ap23
  refine EvF.enter rfl Tryd.func20 (by decide) rfl ?_
  (repeat refine EvC.seq ?_); refine EvC.reg ?_; simp (config := { maxSteps := 2000000 }) (disch := first | omega | rfl) only [sB, initTm, dBox, dAlloc, Nat.reduceEqDiff, Nat.reduceAdd, Value.cells, one, reduceCtorEq, zr27]
  obtain ⟨H2, e2, hx2, g1, g2, hn2, hw2⟩ := new2 hw (.row [.string s, .int .i64 m] 30) (.row [.int .i64 0, .int .i64 0] 27)
  simp only [e2]
  clear e2
  have q1 := zao g1
  (repeat refine EvC.seq ?_); refine EvC.reg ?_; simp (config := { maxSteps := 2000000 }) (disch := first | omega | rfl) only [sB, dAlloc, Nat.reduceEqDiff, Nat.reduceAdd, Value.cells, one, reduceCtorEq, Nat.reduceLeDiff, layC, zac, ld9, bd25, zr25, st25, q1]
  obtain ⟨H3, e3, k3, g3, n3, w3⟩ := z17 hw2 (.row (z6 0 ByteArray.empty (.slice none 0 0)) 25) (.row (z6 5 s (.slice none 0 0)) 25)
  simp only [z6] at e3
  simp only [e3]
  clear e3
  have g2 := k3.get hw2 g2
  have hx := hx2.trans k3
  rw [hn2] at g3 n3
  simp only [hn2]
  obtain ⟨N, hN, hN2⟩ : ∃ N : Nat, (if (4000 : Int) < (n : Int) then (4000 : Int) else (n : Int)) = (N : Int) ∧ N ≤ 4000 := by
    by_cases h : (4000 : Int) < (n : Int)
    · exact ⟨4000, by rw [if_pos h]; rfl, Nat.le_refl _⟩
    · exact ⟨n, by rw [if_neg h], by omega⟩
  (repeat refine EvC.seq ?_); refine EvC.reg ?_; simp (config := { maxSteps := 2000000 }) (disch := first | omega | rfl) only [sB, Nat.reduceEqDiff, reduceCtorEq, ln31, z9v, z9w, hN]
  refine EvC.meet (fun st => ∃ tm H', st = ⟨tm, [], H'⟩ ∧ tm.get 0 = some (.pointer none) ∧ tm.get 6 = some (.pointer (some ⟨H.next + 1, 0, none⟩)) ∧ H'.get (H.next + 1) = some (.row [.int .i64 0, .int .i64 0] 27) ∧ HX H H') ?_ ?_
  · refine EvC.block (EvC.loop (fun k st => ∃ tm H' i v L, st = ⟨tm, [], H'⟩ ∧ k = N - i ∧ i ≤ N ∧ tm.get 0 = some (.pointer none) ∧ tm.get 6 = some (.pointer (some ⟨H.next + 1, 0, none⟩)) ∧ tm.get 8 = some (.pointer (some ⟨H.next + 2, 0, none⟩)) ∧ tm.get 19 = some (.int .i64 (N : Nat)) ∧ tm.get 20 = some (.int .i64 (i : Nat)) ∧
      H'.get (H.next + 1) = some (.row [.int .i64 0, .int .i64 0] 27) ∧ H'.get (H.next + 2) = some (.row (z6 5 s v) 25) ∧ RepO H' 25 6 (H.next + 3) L v ∧ L.length = i ∧ HX H H' ∧ H.next + 3 ≤ H'.next) ?_ N _ ?_)
    · rintro k st ⟨tm, H', i, v, L, rfl, rfl, hi, t0, t6, t8, t19, t20, g2', g3', hr, hL, hx', hn'⟩
      have q3 := za0 g3'
      by_cases hlt : i < N
      · obtain ⟨a1, c1, rfl, -, -⟩ := hr.slice
        obtain ⟨H5, v5, e5, hr5, hn5, hA5, -⟩ := hr.push ean (y := z6 2 ByteArray.empty (.slice none 0 0)) rfl rfl (by unfold most; omega) hn'
        have hA : HX ⟨H.next + 3, H'.t⟩ H5 := hA5 _ ⟨hn', fun i hi => rfl, hx'.wf⟩ (Nat.le_refl _)
        have hH5 := hA5 H hx' (by omega)
        obtain ⟨H4, e4, k4, g4, n4, w4⟩ := new1 hx'.wf (.row (z6 2 ByteArray.empty (.slice none 0 0)) 25)
        rw [e4] at e5
        have e4' := e4
        simp only [z6] at e4'
        have g25 : H5.get (H.next + 1) = some (.row [.int .i64 0, .int .i64 0] 27) := by rw [hA.keep _ (show H.next + 1 < H.next + 3 by omega)]; exact g2'
        have g35 : H5.get (H.next + 2) = some (.row (z6 5 s (.slice a1 L.length c1)) 25) := by rw [hA.keep _ (show H.next + 2 < H.next + 3 by omega)]; exact g3'
        obtain ⟨a5, c5, rfl, -, -⟩ := hr5.slice
        have hi4 : i ≤ 4000 := by omega
        repeat' (first | refine EvC.seq ?_ | refine EvC.scope ?_ | refine EvC.block ?_ | (refine EvC.skip ?_; try simp only [z0p]) | (refine EvC.exit ?_) | (refine EvC.ret ?_; try simp only [z01, z00]) | (refine EvC.reg ?_; simp (config := { maxSteps := 2000000 }) (disch := first | omega | rfl) only [sB, Nat.reduceEqDiff, Nat.reduceAdd, Value.cells, one, Nat.reduceLeDiff, layC, bd25, z8f, ld23, zab, st23, t8, t19, t20, q3, decl hlt, e4', e5, g35, z98]) | (refine EvC.condT ?_ ?_; simp (config := { maxSteps := 2000000 }) (disch := first | omega | rfl) only [sB]; refine z0d ?_))
        refine ⟨N - (i + 1), by omega, _, _, i + 1, _, L ++ [z6 2 ByteArray.empty (.slice none 0 0)], rfl, rfl, by omega, (by simp only [sG, reduceCtorEq, t0] <;> rfl), (by simp only [sG, Nat.reduceEqDiff, t6] <;> rfl), (by simp only [sG, Nat.reduceEqDiff, t8] <;> rfl), (by simp only [sG, Nat.reduceEqDiff, t19] <;> rfl), (by simp only [sB, Nat.reduceEqDiff] <;> rfl), ?_, ?_, hr5.putlo (by omega) _, by simp [hL], hH5.put (i := H.next + 2) (by omega) (by omega) _, by rw [z2r]; omega⟩
        · rw [get_put, if_neg (by omega)]; exact g25
        · rw [get_put, if_pos rfl]
      · repeat' (first | refine EvC.seq ?_ | refine EvC.scope ?_ | refine EvC.block ?_ | (refine EvC.skip ?_) | (refine EvC.exit ?_; try simp only [sB, reduceCtorEq]) | (refine EvC.ret ?_; try simp only [z01, z00]) | (refine EvC.reg ?_; simp (config := { maxSteps := 2000000 }) (disch := first | omega | rfl) only [sA, t19, t20, decn hlt]) | (refine EvC.condT ?_ ?_; simp (config := { maxSteps := 2000000 }) (disch := first | omega | rfl) only [sB]; refine z0d ?_) | (refine EvC.condF ?_ ?_; simp (config := { maxSteps := 2000000 }) (disch := first | omega | rfl) only [sB]; refine z0d ?_))
        exact ⟨_, _, rfl, (by simp only [sG, reduceCtorEq, t0] <;> rfl), (by simp only [sG, Nat.reduceEqDiff, t6] <;> rfl), g2', hx'⟩
    · exact ⟨_, _, 0, _, [], rfl, rfl, by omega, (by simp only [sG, reduceCtorEq] <;> rfl), (by simp only [sG, Nat.reduceEqDiff, reduceCtorEq] <;> rfl), (by simp only [sG, Nat.reduceEqDiff, reduceCtorEq] <;> rfl), (by simp only [sG, Nat.reduceEqDiff, reduceCtorEq] <;> rfl), (by simp only [sB, Nat.reduceEqDiff, reduceCtorEq] <;> rfl), g2, g3, .inl ⟨rfl, rfl⟩, rfl, hx, by omega⟩
  · rintro st ⟨tm, H', rfl, t0, t6, g2', hx'⟩
    repeat' (first | refine EvC.seq ?_ | refine EvC.scope ?_ | refine EvC.block ?_ | (refine EvC.skip ?_) | (refine EvC.exit ?_) | (refine EvC.ret ?_; try simp only [z01, z00]) | (refine EvC.reg ?_; simp (config := { maxSteps := 2000000 }) (disch := first | omega | rfl) only [sB, Nat.reduceEqDiff, Nat.reduceAdd, Value.cells, one, layC, bd27, st27, t0, t6, g2', bEqN]) | (refine EvC.condT ?_ ?_; simp (config := { maxSteps := 2000000 }) (disch := first | omega | rfl) only [sB, Nat.reduceEqDiff]; refine z0d ?_))
    exact z0j rfl (by simp only [sB, Nat.reduceEqDiff, t6] <;> rfl) (by simp only [sB, Nat.reduceAdd, cutC, ld27] <;> rfl) (by simp only [sG, Nat.reduceEqDiff] <;> rfl) ⟨rfl, hx'.ptS (by omega) g2' _⟩
theorem z6t {H : Heap} (hw : H.wf) : EvF Tryd.prog okS 21 [.agg ⟨z6 0 ByteArray.empty (.slice none 0 0)⟩, .agg ⟨z6 0 ByteArray.empty (.slice none 0 0)⟩] H fun v H' => v = .bool true ∧ HX H H' := by
  refine EvF.enter rfl Tryd.func21 (by decide) rfl ?_
  (repeat refine EvC.seq ?_); refine EvC.reg ?_; simp (config := { maxSteps := 2000000 }) (disch := first | omega | rfl) only [sB, initTm, dBox, Nat.reduceEqDiff, Value.cells, one, reduceCtorEq]
  obtain ⟨H2, e2, hx2, g1, g2, hn2, hw2⟩ := new2 hw (.row (z6 0 ByteArray.empty (.slice none 0 0)) 25) (.row (z6 0 ByteArray.empty (.slice none 0 0)) 25)
  simp only [z6] at e2
  simp only [e2]
  clear e2
  have q1 := zai g1
  have q2 := zai g2
  repeat' (first | refine EvC.seq ?_ | refine EvC.scope ?_ | refine EvC.block ?_ | (refine EvC.skip ?_) | (refine EvC.exit ?_) | (refine EvC.ret ?_; try simp only [z01, z00]) | (refine EvC.reg ?_; simp (config := { maxSteps := 2000000 }) (disch := first | omega | rfl) only [sB, Nat.reduceEqDiff, reduceCtorEq, zad, ld3, zae, ld9, zaf, zag, ld22, zah, z8f, ld23, ln23, q1, q2, d00, z88, beq_self_eq_true, Bool.not_true, Bool.false_eq_true]) | (refine EvC.condT ?_ ?_; simp (config := { maxSteps := 2000000 }) (disch := first | omega | rfl) only [sB, Nat.reduceEqDiff, reduceCtorEq]; refine z0d ?_) | (refine EvC.condF ?_ ?_; simp (config := { maxSteps := 2000000 }) (disch := first | omega | rfl) only [sB, Nat.reduceEqDiff, reduceCtorEq]; refine z0d ?_))
  (repeat refine EvC.seq ?_); refine EvC.condF (by simp (config := { maxSteps := 2000000 }) (disch := first | omega | rfl) only [sB, Nat.reduceEqDiff, reduceCtorEq, d0n]) ?_; (try refine EvC.skip ?_); (try simp only [z0p, z16])
  (repeat refine EvC.seq ?_); refine EvC.reg ?_; simp (config := { maxSteps := 2000000 }) (disch := first | omega | rfl) only [sA]
  refine EvC.block (EvC.loop1 ?_)
  repeat' (first | refine EvC.seq ?_ | refine EvC.scope ?_ | refine EvC.block ?_ | (refine EvC.skip ?_) | (refine EvC.exit ?_; try simp only [sB]) | (refine EvC.ret ?_; try simp only [z01, z00]) | (refine EvC.reg ?_; simp (config := { maxSteps := 2000000 }) (disch := first | omega | rfl) only [sB, Nat.reduceEqDiff, reduceCtorEq, z8f, ld23, ln23, q1, dlt0]) | (refine EvC.condT ?_ ?_; simp (config := { maxSteps := 2000000 }) (disch := first | omega | rfl) only [sB, Nat.reduceEqDiff, reduceCtorEq]; refine z0d ?_) | (refine EvC.condF ?_ ?_; simp (config := { maxSteps := 2000000 }) (disch := first | omega | rfl) only [sB, Nat.reduceEqDiff, reduceCtorEq]; refine z0d ?_))
  exact z0b rfl (by simp only [sG, Nat.reduceEqDiff, reduceCtorEq] <;> rfl) ⟨rfl, hx2⟩
end Go.Proofs.YtnnpejdphgeciaaDoor.hb
end

-- St3
section
namespace Go.Proofs.YtnnpejdphgeciaaDoor.hb
open Go Go.RowKit Go.Hb
variable {ok : Ok}
set_option maxRecDepth 10000
attribute [local irreducible] LX LG EL STG SOP SGO SGD SAL SRD SEF SEG SLK SCK ES
theorem zaj {H : Heap} (hw : H.wf) : EvF Tryd.prog okS 5 [] H fun v H' => v = .bool true ∧ HX H H' := z8e hw
section
variable {H : Heap} {b : Nat} {T : TypeId} {x0 x1 x2 y0 y1 y2 y3 y4 y5 z0 z1 z2 z3 z4 z5 : Value}
theorem z15 (g : H.get b = some (.row [x0, x1, x2, y0, y1, y2, y3, y4, y5, z0, z1, z2, z3, z4, z5] T)) :
    H.load ⟨b, 2, none⟩ 1 = some [x2] ∧ H.load ⟨b, 3, none⟩ 6 = some [y0, y1, y2, y3, y4, y5] ∧ H.load ⟨b, 9, none⟩ 2 = some [z0, z1] ∧ H.load ⟨b, 11, none⟩ 1 = some [z2] ∧ H.load ⟨b, 12, none⟩ 2 = some [z3, z4] ∧ H.load ⟨b, 14, none⟩ 1 = some [z5] := by
  refine ⟨?_, ?_, ?_, ?_, ?_, ?_⟩ <;> (unfold Heap.load Heap.cells; simp only [g]; rfl)
end
theorem e11 : ((1 : Int) == 1) = true := by decide
theorem e00 : ((0 : Int) == 0) = true := by decide
theorem e0n : ((((0 : Nat) : Int)) == 0) = true := by decide
set_option maxHeartbeats 16000000 in
theorem z5y {k0 k1 n f0 f3 f4 p q m : Int} {f1 f2 s : ByteArray} {fa ma ca : Option Addr} {fn fc mn mc cn cc : Nat} {H : Heap} (hcn : cn ≤ 9223372036854775807) (hw : H.wf) :
    EvF Tryd.prog okS 3 [.agg ⟨[.int .i64 k0, .int .i64 k1, .int .i64 n, .int .i64 f0, .string f1, .string f2, .int .u64 f3, .int .i64 f4, .slice fa fn fc, .int .i64 p, .int .i64 q, .slice ma mn mc, .string s, .int .i64 m, .slice ca cn cc]⟩] H fun v _ => v = .bool true := by
  refine EvF.enter rfl Tryd.func3 (by decide) rfl ?_
  (repeat refine EvC.seq ?_); refine EvC.reg ?_; simp (config := { maxSteps := 2000000 }) (disch := first | omega | rfl) only [sB, initTm, dBox, Value.cells, one]
  obtain ⟨A0, e0, hx, go, n0, w0⟩ := new1 hw (.row [.int .i64 k0, .int .i64 k1, .int .i64 n, .int .i64 f0, .string f1, .string f2, .int .u64 f3, .int .i64 f4, .slice fa fn fc, .int .i64 p, .int .i64 q, .slice ma mn mc, .string s, .int .i64 m, .slice ca cn cc] 33)
  simp only [e0]
  clear e0
  (repeat refine EvC.seq ?_); refine EvC.reg ?_; simp (config := { maxSteps := 2000000 }) (disch := first | omega | rfl) only [sB, Nat.reduceEqDiff, reduceCtorEq, cl5]
  refine (zaj w0).mono ?_
  rintro v A1 ⟨rfl, k1⟩
  have go := k1.get w0 go
  have w1 := k1.wf
  have qo := z15 go
  try simp (config := { maxSteps := 2000000 }) (disch := first | omega | rfl) only []
  repeat' (first | refine EvC.seq ?_ | refine EvC.scope ?_ | refine EvC.block ?_ | (refine EvC.skip ?_; try simp only [z0p]) | (refine EvC.exit ?_) | (refine EvC.ret ?_; try simp only [z01, z00]) | (refine EvC.reg ?_; simp (config := { maxSteps := 2000000 }) (disch := first | omega | rfl) only [sB, Nat.reduceEqDiff, reduceCtorEq, z2c, ld3, cl6, Bool.not_true, qo]) | (refine EvC.condT ?_ ?_; simp (config := { maxSteps := 2000000 }) (disch := first | omega | rfl) only [sB, Nat.reduceEqDiff, reduceCtorEq]; refine z0d ?_) | (refine EvC.condF ?_ ?_; simp (config := { maxSteps := 2000000 }) (disch := first | omega | rfl) only [sB, Nat.reduceEqDiff, reduceCtorEq]; refine z0d ?_))
  refine (z8m w1).mono ?_
  rintro v A2 ⟨rfl, k2⟩
  have go := k2.get w1 go
  have w2 := k2.wf
  try simp (config := { maxSteps := 2000000 }) (disch := first | omega | rfl) only [sB, dAlloc, Nat.reduceEqDiff, Nat.reduceAdd, one, reduceCtorEq, zr27, st27]
  obtain ⟨A3, e3, k3, g5, n3, w3⟩ := z17 w2 (.row [.int .i64 0, .int .i64 0] 27) (.row [.int .i64 0, .int .i64 0] 27)
  simp only [e3]
  clear e3
  have go := k3.get w2 go
  have qo := z15 go
  repeat' (first | refine EvC.seq ?_ | refine EvC.scope ?_ | refine EvC.block ?_ | (refine EvC.skip ?_) | (refine EvC.exit ?_) | (refine EvC.ret ?_; try simp only [z01, z00]) | (refine EvC.reg ?_; simp (config := { maxSteps := 2000000 }) (disch := first | omega | rfl) only [sB, Nat.reduceEqDiff, reduceCtorEq, za7, ld25, cl7, qo]))
  refine (z9c w3).mono ?_
  rintro v A4 ⟨rfl, k4⟩
  have go := k4.get w3 go
  have g5 := k4.get w3 g5
  have w4 := k4.wf
  try simp (config := { maxSteps := 2000000 }) (disch := first | omega | rfl) only [sB, dAlloc, Nat.reduceEqDiff, Nat.reduceAdd, one, reduceCtorEq, zr27, st27]
  obtain ⟨A5, e5, k5, g7, n5, w5⟩ := z17 w4 (.row [.int .i64 0, .int .i64 0] 27) (.row [.int .i64 0, .int .i64 0] 27)
  simp only [e5]
  clear e5
  have go := k5.get w4 go
  have g5 := k5.get w4 g5
  have qo := z15 go
  repeat' (first | refine EvC.seq ?_ | refine EvC.scope ?_ | refine EvC.block ?_ | (refine EvC.skip ?_) | (refine EvC.exit ?_) | (refine EvC.ret ?_; try simp only [z01, z00]) | (refine EvC.reg ?_; simp (config := { maxSteps := 2000000 }) (disch := first | omega | rfl) only [sB, Nat.reduceEqDiff, reduceCtorEq, z54, ld27, cl8, qo]))
  refine (z2f w5).mono ?_
  rintro v A6 ⟨rfl, k6⟩
  have go := k6.get w5 go
  have g5 := k6.get w5 g5
  have g7 := k6.get w5 g7
  have w6 := k6.wf
  try simp (config := { maxSteps := 2000000 }) (disch := first | omega | rfl) only [sB, dAlloc, Nat.reduceEqDiff, Nat.reduceAdd, one, reduceCtorEq, zr27, st27]
  obtain ⟨A7, e7, k7, g9, n7, w7⟩ := z17 w6 (.row [.int .i64 0, .int .i64 0] 27) (.row [.int .i64 0, .int .i64 0] 27)
  simp only [e7]
  clear e7
  have go := k7.get w6 go
  have g5 := k7.get w6 g5
  have g7 := k7.get w6 g7
  have qo := z15 go
  refine EvC.frame (fun tm => tm.get 1 = some (.pointer (some ⟨H.next, 0, none⟩)) ∧ tm.get 4 = some (.pointer none) ∧ tm.get 5 = some (.pointer (some ⟨A2.next, 0, none⟩)) ∧ tm.get 6 = some (.int .i64 1) ∧ tm.get 7 = some (.pointer (some ⟨A4.next, 0, none⟩)) ∧ tm.get 8 = some (.int .i64 1) ∧ tm.get 9 = some (.pointer (some ⟨A6.next, 0, none⟩)) ∧ tm.get 10 = some (.int .i64 1)) ⟨(by simp only [sG, Nat.reduceEqDiff, reduceCtorEq] <;> rfl), (by simp only [sG, Nat.reduceEqDiff, reduceCtorEq] <;> rfl), (by simp only [sG, Nat.reduceEqDiff, reduceCtorEq] <;> rfl), (by simp only [sG, Nat.reduceEqDiff, reduceCtorEq] <;> rfl), (by simp only [sG, Nat.reduceEqDiff, reduceCtorEq] <;> rfl), (by simp only [sG, Nat.reduceEqDiff, reduceCtorEq] <;> rfl), (by simp only [sG, Nat.reduceEqDiff, reduceCtorEq] <;> rfl), (by simp only [sG, Nat.reduceEqDiff, reduceCtorEq] <;> rfl)⟩ ?_
  rintro tm ⟨t1, t4, t5, t6, t7, t8, t9, t10⟩
  repeat' (first | refine EvC.seq ?_ | refine EvC.scope ?_ | refine EvC.block ?_ | (refine EvC.skip ?_) | (refine EvC.exit ?_) | (refine EvC.ret ?_; try simp only [z01, z00]) | (refine EvC.reg ?_; simp (config := { maxSteps := 2000000 }) (disch := first | omega | rfl) only [sB, Nat.reduceEqDiff, z54, ld27, cl9, qo, t1, t4]))
  refine (z5x w7).mono ?_
  rintro v A8 ⟨rfl, k8⟩
  have go := k8.get w7 go
  have g5 := k8.get w7 g5
  have g7 := k8.get w7 g7
  have g9 := k8.get w7 g9
  have w8 := k8.wf
  try simp (config := { maxSteps := 2000000 }) (disch := first | omega | rfl) only [sB, dAlloc, Nat.reduceEqDiff, Nat.reduceAdd, one, zr25, st25]
  obtain ⟨A9, e9, k9, g11, n9, w9⟩ := z17 w8 (.row (z6 0 ByteArray.empty (.slice none 0 0)) 25) (.row (z6 0 ByteArray.empty (.slice none 0 0)) 25)
  simp only [z6] at e9
  simp only [e9]
  clear e9
  have go := k9.get w8 go
  have g5 := k9.get w8 g5
  have g7 := k9.get w8 g7
  have g9 := k9.get w8 g9
  have qo := z15 go
  repeat' (first | refine EvC.seq ?_ | refine EvC.scope ?_ | refine EvC.block ?_ | (refine EvC.skip ?_) | (refine EvC.exit ?_) | (refine EvC.ret ?_; try simp only [z01, z00]) | (refine EvC.reg ?_; simp (config := { maxSteps := 2000000 }) (disch := first | omega | rfl) only [sB, Nat.reduceEqDiff, z54, ld27, cl10, qo, t1, t4]))
  refine (z7g w9).mono ?_
  rintro v A10 ⟨rfl, k10⟩
  have go := k10.get w9 go
  have g5 := k10.get w9 g5
  have g7 := k10.get w9 g7
  have g9 := k10.get w9 g9
  have g11 := k10.get w9 g11
  have w10 := k10.wf
  try simp (config := { maxSteps := 2000000 }) (disch := first | omega | rfl) only [sB, dAlloc, Nat.reduceEqDiff, Nat.reduceAdd, one, zr30, st30]
  obtain ⟨A11, e11, k11, g13, n11, w11⟩ := z17 w10 (.row [.string ByteArray.empty, .int .i64 0] 30) (.row [.string ByteArray.empty, .int .i64 0] 30)
  simp only [e11]
  clear e11
  have go := k11.get w10 go
  have g5 := k11.get w10 g5
  have g7 := k11.get w10 g7
  have g9 := k11.get w10 g9
  have g11 := k11.get w10 g11
  have qo := z15 go
  repeat' (first | refine EvC.seq ?_ | refine EvC.scope ?_ | refine EvC.block ?_ | (refine EvC.skip ?_) | (refine EvC.exit ?_) | (refine EvC.ret ?_; try simp only [z01, z00]) | (refine EvC.reg ?_; simp (config := { maxSteps := 2000000 }) (disch := first | omega | rfl) only [sB, Nat.reduceEqDiff, z54, ld27, cl11, qo, t1, t4]))
  refine (z8n w11).mono ?_
  rintro v A12 ⟨rfl, k12⟩
  have go := k12.get w11 go
  have g5 := k12.get w11 g5
  have g7 := k12.get w11 g7
  have g9 := k12.get w11 g9
  have g11 := k12.get w11 g11
  have g13 := k12.get w11 g13
  have w12 := k12.wf
  try simp (config := { maxSteps := 2000000 }) (disch := first | omega | rfl) only [sB, dAlloc, Nat.reduceEqDiff, Nat.reduceAdd, one, zr25, st25]
  obtain ⟨A13, e13, k13, g16, n13, w13⟩ := z17 w12 (.row (z6 0 ByteArray.empty (.slice none 0 0)) 25) (.row (z6 0 ByteArray.empty (.slice none 0 0)) 25)
  simp only [z6] at e13
  simp only [e13]
  clear e13
  have go := k13.get w12 go
  have g5 := k13.get w12 g5
  have g7 := k13.get w12 g7
  have g9 := k13.get w12 g9
  have g11 := k13.get w12 g11
  have g13 := k13.get w12 g13
  have qo := z15 go
  refine EvC.frame (fun tm => tm.get 1 = some (.pointer (some ⟨H.next, 0, none⟩)) ∧ tm.get 4 = some (.pointer none) ∧ tm.get 5 = some (.pointer (some ⟨A2.next, 0, none⟩)) ∧ tm.get 6 = some (.int .i64 1) ∧ tm.get 7 = some (.pointer (some ⟨A4.next, 0, none⟩)) ∧ tm.get 8 = some (.int .i64 1) ∧ tm.get 9 = some (.pointer (some ⟨A6.next, 0, none⟩)) ∧ tm.get 10 = some (.int .i64 1) ∧ tm.get 11 = some (.pointer (some ⟨A8.next, 0, none⟩)) ∧ tm.get 12 = some (.int .i64 1) ∧ tm.get 13 = some (.pointer (some ⟨A10.next, 0, none⟩)) ∧ tm.get 14 = some (.slice none 0 0) ∧ tm.get 15 = some (.int .i64 1) ∧ tm.get 16 = some (.pointer (some ⟨A12.next, 0, none⟩)) ∧ tm.get 17 = some (.int .i64 1)) ⟨(by simp only [sG, Nat.reduceEqDiff, t1] <;> rfl), (by simp only [sG, Nat.reduceEqDiff, t4] <;> rfl), (by simp only [sG, Nat.reduceEqDiff, t5] <;> rfl), (by simp only [sG, Nat.reduceEqDiff, t6] <;> rfl), (by simp only [sG, Nat.reduceEqDiff, t7] <;> rfl), (by simp only [sG, Nat.reduceEqDiff, t8] <;> rfl), (by simp only [sG, Nat.reduceEqDiff, t9] <;> rfl), (by simp only [sG, Nat.reduceEqDiff, t10] <;> rfl), (by simp only [sG, Nat.reduceEqDiff] <;> rfl), (by simp only [sG, Nat.reduceEqDiff] <;> rfl), (by simp only [sG, Nat.reduceEqDiff] <;> rfl), (by simp only [sG, Nat.reduceEqDiff] <;> rfl), (by simp only [sG, Nat.reduceEqDiff] <;> rfl), (by simp only [sG, Nat.reduceEqDiff] <;> rfl), (by simp only [sG, Nat.reduceEqDiff] <;> rfl)⟩ ?_
  clear t1
  clear t4
  clear t5
  clear t6
  clear t7
  clear t8
  clear t9
  clear t10
  rintro tm ⟨t1, t4, t5, t6, t7, t8, t9, t10, t11, t12, t13, t14, t15, t16, t17⟩
  repeat' (first | refine EvC.seq ?_ | refine EvC.scope ?_ | refine EvC.block ?_ | (refine EvC.skip ?_) | (refine EvC.exit ?_) | (refine EvC.ret ?_; try simp only [z01, z00]) | (refine EvC.reg ?_; simp (config := { maxSteps := 2000000 }) (disch := first | omega | rfl) only [sB, Nat.reduceEqDiff, z2c, ld3, cl12, qo, t1, t4]))
  refine (z5v w13).mono ?_
  rintro v A14 ⟨rfl, k14⟩
  have go := k14.get w13 go
  have g5 := k14.get w13 g5
  have g7 := k14.get w13 g7
  have g9 := k14.get w13 g9
  have g11 := k14.get w13 g11
  have g13 := k14.get w13 g13
  have g16 := k14.get w13 g16
  have w14 := k14.wf
  have qo := z15 go
  repeat' (first | refine EvC.seq ?_ | refine EvC.scope ?_ | refine EvC.block ?_ | (refine EvC.skip ?_) | (refine EvC.exit ?_) | (refine EvC.ret ?_; try simp only [z01, z00]) | (refine EvC.reg ?_; simp (config := { maxSteps := 2000000 }) (disch := first | omega | rfl) only [sB, Nat.reduceEqDiff, z2c, ld3, cl13, qo, t1, t4]) | (refine z4z ?_; simp (config := { maxSteps := 2000000 }) (disch := first | omega | rfl) only [sB, Nat.reduceEqDiff]))
  refine (z8k w14).mono ?_
  rintro v A15 ⟨rfl, k15⟩
  have go := k15.get w14 go
  have g5 := k15.get w14 g5
  have g7 := k15.get w14 g7
  have g9 := k15.get w14 g9
  have g11 := k15.get w14 g11
  have g13 := k15.get w14 g13
  have g16 := k15.get w14 g16
  have w15 := k15.wf
  have qo := z15 go
  repeat' (first | refine EvC.seq ?_ | refine EvC.scope ?_ | refine EvC.block ?_ | (refine EvC.skip ?_) | (refine EvC.exit ?_) | (refine EvC.ret ?_; try simp only [z01, z00]) | (refine EvC.reg ?_; simp (config := { maxSteps := 2000000 }) (disch := first | omega | rfl) only [sB, Nat.reduceEqDiff, z2c, ld3, cl14, qo, t1, t4]))
  refine (z5u w15).mono ?_
  rintro v A16 ⟨rfl, k16⟩
  have go := k16.get w15 go
  have g5 := k16.get w15 g5
  have g7 := k16.get w15 g7
  have g9 := k16.get w15 g9
  have g11 := k16.get w15 g11
  have g13 := k16.get w15 g13
  have g16 := k16.get w15 g16
  have w16 := k16.wf
  have qo := z15 go
  repeat' (first | refine EvC.seq ?_ | refine EvC.scope ?_ | refine EvC.block ?_ | (refine EvC.skip ?_) | (refine EvC.exit ?_) | (refine EvC.ret ?_; try simp only [z01, z00]) | (refine EvC.reg ?_; simp (config := { maxSteps := 2000000 }) (disch := first | omega | rfl) only [sB, Nat.reduceEqDiff, z2c, ld3, z54, ld27, cl15, qo, t1, t4]))
  refine (z8o w16).mono ?_
  rintro v A17 ⟨rfl, k17⟩
  have go := k17.get w16 go
  have g5 := k17.get w16 g5
  have g7 := k17.get w16 g7
  have g9 := k17.get w16 g9
  have g11 := k17.get w16 g11
  have g13 := k17.get w16 g13
  have g16 := k17.get w16 g16
  have w17 := k17.wf
  have qo := z15 go
  try simp (config := { maxSteps := 2000000 }) (disch := first | omega | rfl) only []
  refine EvC.frame (fun tm => tm.get 1 = some (.pointer (some ⟨H.next, 0, none⟩)) ∧ tm.get 4 = some (.pointer none) ∧ tm.get 5 = some (.pointer (some ⟨A2.next, 0, none⟩)) ∧ tm.get 6 = some (.int .i64 1) ∧ tm.get 7 = some (.pointer (some ⟨A4.next, 0, none⟩)) ∧ tm.get 8 = some (.int .i64 1) ∧ tm.get 9 = some (.pointer (some ⟨A6.next, 0, none⟩)) ∧ tm.get 10 = some (.int .i64 1) ∧ tm.get 11 = some (.pointer (some ⟨A8.next, 0, none⟩)) ∧ tm.get 12 = some (.int .i64 1) ∧ tm.get 13 = some (.pointer (some ⟨A10.next, 0, none⟩)) ∧ tm.get 14 = some (.slice none 0 0) ∧ tm.get 15 = some (.int .i64 1) ∧ tm.get 16 = some (.pointer (some ⟨A12.next, 0, none⟩)) ∧ tm.get 17 = some (.int .i64 1) ∧ tm.get 18 = some (.int .i64 0) ∧ tm.get 19 = some (.int .i64 1) ∧ tm.get 20 = some (.int .i64 1) ∧ tm.get 21 = some (.int .i64 1) ∧ tm.get 22 = some (.int .i64 1)) ⟨(by simp only [sG, Nat.reduceEqDiff, t1] <;> rfl), (by simp only [sG, Nat.reduceEqDiff, t4] <;> rfl), (by simp only [sG, Nat.reduceEqDiff, t5] <;> rfl), (by simp only [sG, Nat.reduceEqDiff, t6] <;> rfl), (by simp only [sG, Nat.reduceEqDiff, t7] <;> rfl), (by simp only [sG, Nat.reduceEqDiff, t8] <;> rfl), (by simp only [sG, Nat.reduceEqDiff, t9] <;> rfl), (by simp only [sG, Nat.reduceEqDiff, t10] <;> rfl), (by simp only [sG, Nat.reduceEqDiff, t11] <;> rfl), (by simp only [sG, Nat.reduceEqDiff, t12] <;> rfl), (by simp only [sG, Nat.reduceEqDiff, t13] <;> rfl), (by simp only [sG, Nat.reduceEqDiff, t14] <;> rfl), (by simp only [sG, Nat.reduceEqDiff, t15] <;> rfl), (by simp only [sG, Nat.reduceEqDiff, t16] <;> rfl), (by simp only [sG, Nat.reduceEqDiff, t17] <;> rfl), (by simp only [sG, Nat.reduceEqDiff] <;> rfl), (by simp only [sG, Nat.reduceEqDiff] <;> rfl), (by simp only [sG, Nat.reduceEqDiff] <;> rfl), (by simp only [sG, Nat.reduceEqDiff] <;> rfl), (by simp only [sG, Nat.reduceEqDiff] <;> rfl)⟩ ?_
  clear t1
  clear t4
  clear t5
  clear t6
  clear t7
  clear t8
  clear t9
  clear t10
  clear t11
  clear t12
  clear t13
  clear t14
  clear t15
  clear t16
  clear t17
  rintro tm ⟨t1, t4, t5, t6, t7, t8, t9, t10, t11, t12, t13, t14, t15, t16, t17, t18, t19, t20, t21, t22⟩
  repeat' (first | refine EvC.seq ?_ | refine EvC.scope ?_ | refine EvC.block ?_ | (refine EvC.skip ?_) | (refine EvC.exit ?_) | (refine EvC.ret ?_; try simp only [z01, z00]) | (refine EvC.reg ?_; simp (config := { maxSteps := 2000000 }) (disch := first | omega | rfl) only [sB, Nat.reduceEqDiff, z2c, ld3, cl16, qo, t1, t4]))
  refine (z8l w17).mono ?_
  rintro v A18 ⟨rfl, k18⟩
  have go := k18.get w17 go
  have g5 := k18.get w17 g5
  have g7 := k18.get w17 g7
  have g9 := k18.get w17 g9
  have g11 := k18.get w17 g11
  have g13 := k18.get w17 g13
  have g16 := k18.get w17 g16
  have w18 := k18.wf
  have qo := z15 go
  repeat' (first | refine EvC.seq ?_ | refine EvC.scope ?_ | refine EvC.block ?_ | (refine EvC.skip ?_) | (refine EvC.exit ?_) | (refine EvC.ret ?_; try simp only [z01, z00]) | (refine EvC.reg ?_; simp (config := { maxSteps := 2000000 }) (disch := first | omega | rfl) only [sB, Nat.reduceEqDiff, z2c, ld3, cl17, qo, t1, t4]))
  refine (z8p w18).mono ?_
  rintro v A19 ⟨rfl, k19⟩
  have go := k19.get w18 go
  have g5 := k19.get w18 g5
  have g7 := k19.get w18 g7
  have g9 := k19.get w18 g9
  have g11 := k19.get w18 g11
  have g13 := k19.get w18 g13
  have g16 := k19.get w18 g16
  have w19 := k19.wf
  have qo := z15 go
  repeat' (first | refine EvC.seq ?_ | refine EvC.scope ?_ | refine EvC.block ?_ | (refine EvC.skip ?_) | (refine EvC.exit ?_) | (refine EvC.ret ?_; try simp only [z01, z00]) | (refine EvC.reg ?_; simp (config := { maxSteps := 2000000 }) (disch := first | omega | rfl) only [sB, Nat.reduceEqDiff, z2c, ld3, cl18, qo, t1, t4]))
  refine (z5w w19).mono ?_
  rintro v A20 ⟨rfl, k20⟩
  have go := k20.get w19 go
  have g5 := k20.get w19 g5
  have g7 := k20.get w19 g7
  have g9 := k20.get w19 g9
  have g11 := k20.get w19 g11
  have g13 := k20.get w19 g13
  have g16 := k20.get w19 g16
  have w20 := k20.wf
  have qo := z15 go
  repeat' (first | refine EvC.seq ?_ | refine EvC.scope ?_ | refine EvC.block ?_ | (refine EvC.skip ?_) | (refine EvC.exit ?_) | (refine EvC.ret ?_; try simp only [z01, z00]) | (refine EvC.reg ?_; simp (config := { maxSteps := 2000000 }) (disch := first | omega | rfl) only [sB, Nat.reduceEqDiff, za8, ld28, cl19, qo, t1, t4]))
  refine (z7h w20).mono ?_
  rintro v A21 ⟨rfl, k21⟩
  have go := k21.get w20 go
  have g5 := k21.get w20 g5
  have g7 := k21.get w20 g7
  have g9 := k21.get w20 g9
  have g11 := k21.get w20 g11
  have g13 := k21.get w20 g13
  have g16 := k21.get w20 g16
  have w21 := k21.wf
  have qo := z15 go
  repeat' (first | refine EvC.seq ?_ | refine EvC.scope ?_ | refine EvC.block ?_ | (refine EvC.skip ?_) | (refine EvC.exit ?_) | (refine EvC.ret ?_; try simp only [z01, z00]) | (refine EvC.reg ?_; simp (config := { maxSteps := 2000000 }) (disch := first | omega | rfl) only [sB, Nat.reduceEqDiff, za9, ld30, zaa, ld31, cl20, qo, t1, t4]))
  refine (z7i hcn w21).mono ?_
  rintro v A22 ⟨rfl, k22⟩
  have go := k22.get w21 go
  have g5 := k22.get w21 g5
  have g7 := k22.get w21 g7
  have g9 := k22.get w21 g9
  have g11 := k22.get w21 g11
  have g13 := k22.get w21 g13
  have g16 := k22.get w21 g16
  have w22 := k22.wf
  try simp (config := { maxSteps := 2000000 }) (disch := first | omega | rfl) only [sB, dAlloc, Nat.reduceEqDiff, Nat.reduceAdd, one, zr27, st27]
  obtain ⟨A23, e23, k23, g27, n23, w23⟩ := z17 w22 (.row [.int .i64 0, .int .i64 0] 27) (.row [.int .i64 0, .int .i64 0] 27)
  simp only [e23]
  clear e23
  have go := k23.get w22 go
  have g5 := k23.get w22 g5
  have g7 := k23.get w22 g7
  have g9 := k23.get w22 g9
  have g11 := k23.get w22 g11
  have g13 := k23.get w22 g13
  have g16 := k23.get w22 g16
  have qo := z15 go
  refine EvC.frame (fun tm => tm.get 1 = some (.pointer (some ⟨H.next, 0, none⟩)) ∧ tm.get 4 = some (.pointer none) ∧ tm.get 5 = some (.pointer (some ⟨A2.next, 0, none⟩)) ∧ tm.get 6 = some (.int .i64 1) ∧ tm.get 7 = some (.pointer (some ⟨A4.next, 0, none⟩)) ∧ tm.get 8 = some (.int .i64 1) ∧ tm.get 9 = some (.pointer (some ⟨A6.next, 0, none⟩)) ∧ tm.get 10 = some (.int .i64 1) ∧ tm.get 11 = some (.pointer (some ⟨A8.next, 0, none⟩)) ∧ tm.get 12 = some (.int .i64 1) ∧ tm.get 13 = some (.pointer (some ⟨A10.next, 0, none⟩)) ∧ tm.get 14 = some (.slice none 0 0) ∧ tm.get 15 = some (.int .i64 1) ∧ tm.get 16 = some (.pointer (some ⟨A12.next, 0, none⟩)) ∧ tm.get 17 = some (.int .i64 1) ∧ tm.get 18 = some (.int .i64 0) ∧ tm.get 19 = some (.int .i64 1) ∧ tm.get 20 = some (.int .i64 1) ∧ tm.get 21 = some (.int .i64 1) ∧ tm.get 22 = some (.int .i64 1) ∧ tm.get 23 = some (.int .i64 1) ∧ tm.get 24 = some (.int .i64 1) ∧ tm.get 25 = some (.int .i64 1) ∧ tm.get 26 = some (.int .i64 1) ∧ tm.get 27 = some (.pointer (some ⟨A22.next, 0, none⟩)) ∧ tm.get 28 = some (.int .i64 1)) ⟨(by simp only [sG, Nat.reduceEqDiff, t1] <;> rfl), (by simp only [sG, Nat.reduceEqDiff, t4] <;> rfl), (by simp only [sG, Nat.reduceEqDiff, t5] <;> rfl), (by simp only [sG, Nat.reduceEqDiff, t6] <;> rfl), (by simp only [sG, Nat.reduceEqDiff, t7] <;> rfl), (by simp only [sG, Nat.reduceEqDiff, t8] <;> rfl), (by simp only [sG, Nat.reduceEqDiff, t9] <;> rfl), (by simp only [sG, Nat.reduceEqDiff, t10] <;> rfl), (by simp only [sG, Nat.reduceEqDiff, t11] <;> rfl), (by simp only [sG, Nat.reduceEqDiff, t12] <;> rfl), (by simp only [sG, Nat.reduceEqDiff, t13] <;> rfl), (by simp only [sG, Nat.reduceEqDiff, t14] <;> rfl), (by simp only [sG, Nat.reduceEqDiff, t15] <;> rfl), (by simp only [sG, Nat.reduceEqDiff, t16] <;> rfl), (by simp only [sG, Nat.reduceEqDiff, t17] <;> rfl), (by simp only [sG, Nat.reduceEqDiff, t18] <;> rfl), (by simp only [sG, Nat.reduceEqDiff, t19] <;> rfl), (by simp only [sG, Nat.reduceEqDiff, t20] <;> rfl), (by simp only [sG, Nat.reduceEqDiff, t21] <;> rfl), (by simp only [sG, Nat.reduceEqDiff, t22] <;> rfl), (by simp only [sG, Nat.reduceEqDiff] <;> rfl), (by simp only [sG, Nat.reduceEqDiff] <;> rfl), (by simp only [sG, Nat.reduceEqDiff] <;> rfl), (by simp only [sG, Nat.reduceEqDiff] <;> rfl), (by simp only [sG, Nat.reduceEqDiff] <;> rfl), (by simp only [sG, Nat.reduceEqDiff] <;> rfl)⟩ ?_
  clear t1
  clear t4
  clear t5
  clear t6
  clear t7
  clear t8
  clear t9
  clear t10
  clear t11
  clear t12
  clear t13
  clear t14
  clear t15
  clear t16
  clear t17
  clear t18
  clear t19
  clear t20
  clear t21
  clear t22
  rintro tm ⟨t1, t4, t5, t6, t7, t8, t9, t10, t11, t12, t13, t14, t15, t16, t17, t18, t19, t20, t21, t22, t23, t24, t25, t26, t27, t28⟩
  (repeat refine EvC.seq ?_); refine EvC.reg ?_; simp (config := { maxSteps := 2000000 }) (disch := first | omega | rfl) only [sB, Nat.reduceEqDiff, e11, t6, t8, t10, t12, t15, t17, t19, t20, t21, t22, t23, t24, t25, t26]
  refine EvC.frame (fun tm => tm.get 1 = some (.pointer (some ⟨H.next, 0, none⟩)) ∧ tm.get 4 = some (.pointer none) ∧ tm.get 5 = some (.pointer (some ⟨A2.next, 0, none⟩)) ∧ tm.get 6 = some (.int .i64 1) ∧ tm.get 7 = some (.pointer (some ⟨A4.next, 0, none⟩)) ∧ tm.get 8 = some (.int .i64 1) ∧ tm.get 9 = some (.pointer (some ⟨A6.next, 0, none⟩)) ∧ tm.get 10 = some (.int .i64 1) ∧ tm.get 11 = some (.pointer (some ⟨A8.next, 0, none⟩)) ∧ tm.get 12 = some (.int .i64 1) ∧ tm.get 13 = some (.pointer (some ⟨A10.next, 0, none⟩)) ∧ tm.get 14 = some (.slice none 0 0) ∧ tm.get 15 = some (.int .i64 1) ∧ tm.get 16 = some (.pointer (some ⟨A12.next, 0, none⟩)) ∧ tm.get 17 = some (.int .i64 1) ∧ tm.get 18 = some (.int .i64 0) ∧ tm.get 19 = some (.int .i64 1) ∧ tm.get 20 = some (.int .i64 1) ∧ tm.get 21 = some (.int .i64 1) ∧ tm.get 22 = some (.int .i64 1) ∧ tm.get 23 = some (.int .i64 1) ∧ tm.get 24 = some (.int .i64 1) ∧ tm.get 25 = some (.int .i64 1) ∧ tm.get 26 = some (.int .i64 1) ∧ tm.get 27 = some (.pointer (some ⟨A22.next, 0, none⟩)) ∧ tm.get 28 = some (.int .i64 1) ∧ tm.get 29 = some (.bool true)) ⟨(by simp only [sG, Nat.reduceEqDiff, t1] <;> rfl), (by simp only [sG, Nat.reduceEqDiff, t4] <;> rfl), (by simp only [sG, Nat.reduceEqDiff, t5] <;> rfl), (by simp only [sG, Nat.reduceEqDiff, t6] <;> rfl), (by simp only [sG, Nat.reduceEqDiff, t7] <;> rfl), (by simp only [sG, Nat.reduceEqDiff, t8] <;> rfl), (by simp only [sG, Nat.reduceEqDiff, t9] <;> rfl), (by simp only [sG, Nat.reduceEqDiff, t10] <;> rfl), (by simp only [sG, Nat.reduceEqDiff, t11] <;> rfl), (by simp only [sG, Nat.reduceEqDiff, t12] <;> rfl), (by simp only [sG, Nat.reduceEqDiff, t13] <;> rfl), (by simp only [sG, Nat.reduceEqDiff, t14] <;> rfl), (by simp only [sG, Nat.reduceEqDiff, t15] <;> rfl), (by simp only [sG, Nat.reduceEqDiff, t16] <;> rfl), (by simp only [sG, Nat.reduceEqDiff, t17] <;> rfl), (by simp only [sG, Nat.reduceEqDiff, t18] <;> rfl), (by simp only [sG, Nat.reduceEqDiff, t19] <;> rfl), (by simp only [sG, Nat.reduceEqDiff, t20] <;> rfl), (by simp only [sG, Nat.reduceEqDiff, t21] <;> rfl), (by simp only [sG, Nat.reduceEqDiff, t22] <;> rfl), (by simp only [sG, Nat.reduceEqDiff, t23] <;> rfl), (by simp only [sG, Nat.reduceEqDiff, t24] <;> rfl), (by simp only [sG, Nat.reduceEqDiff, t25] <;> rfl), (by simp only [sG, Nat.reduceEqDiff, t26] <;> rfl), (by simp only [sG, Nat.reduceEqDiff, t27] <;> rfl), (by simp only [sG, Nat.reduceEqDiff, t28] <;> rfl), (by simp only [sG, Nat.reduceEqDiff] <;> rfl)⟩ ?_
  clear t1
  clear t4
  clear t5
  clear t6
  clear t7
  clear t8
  clear t9
  clear t10
  clear t11
  clear t12
  clear t13
  clear t14
  clear t15
  clear t16
  clear t17
  clear t18
  clear t19
  clear t20
  clear t21
  clear t22
  clear t23
  clear t24
  clear t25
  clear t26
  clear t27
  clear t28
  rintro tm ⟨t1, t4, t5, t6, t7, t8, t9, t10, t11, t12, t13, t14, t15, t16, t17, t18, t19, t20, t21, t22, t23, t24, t25, t26, t27, t28, t29⟩
  (repeat refine EvC.seq ?_); refine EvC.reg ?_; simp (config := { maxSteps := 2000000 }) (disch := first | omega | rfl) only [sB, Nat.reduceEqDiff, Value.cells, layC, ld27, ld30, bd27, bd30, ln31, z5t g5, z5t g7, z5t g9, z5t g13, bEqC, bEqK, e00, e0n, t5, t7, t9, t13, t14, t18]
  refine EvC.frame (fun tm => tm.get 1 = some (.pointer (some ⟨H.next, 0, none⟩)) ∧ tm.get 4 = some (.pointer none) ∧ tm.get 5 = some (.pointer (some ⟨A2.next, 0, none⟩)) ∧ tm.get 6 = some (.int .i64 1) ∧ tm.get 7 = some (.pointer (some ⟨A4.next, 0, none⟩)) ∧ tm.get 8 = some (.int .i64 1) ∧ tm.get 9 = some (.pointer (some ⟨A6.next, 0, none⟩)) ∧ tm.get 10 = some (.int .i64 1) ∧ tm.get 11 = some (.pointer (some ⟨A8.next, 0, none⟩)) ∧ tm.get 12 = some (.int .i64 1) ∧ tm.get 13 = some (.pointer (some ⟨A10.next, 0, none⟩)) ∧ tm.get 14 = some (.slice none 0 0) ∧ tm.get 15 = some (.int .i64 1) ∧ tm.get 16 = some (.pointer (some ⟨A12.next, 0, none⟩)) ∧ tm.get 17 = some (.int .i64 1) ∧ tm.get 18 = some (.int .i64 0) ∧ tm.get 19 = some (.int .i64 1) ∧ tm.get 20 = some (.int .i64 1) ∧ tm.get 21 = some (.int .i64 1) ∧ tm.get 22 = some (.int .i64 1) ∧ tm.get 23 = some (.int .i64 1) ∧ tm.get 24 = some (.int .i64 1) ∧ tm.get 25 = some (.int .i64 1) ∧ tm.get 26 = some (.int .i64 1) ∧ tm.get 27 = some (.pointer (some ⟨A22.next, 0, none⟩)) ∧ tm.get 28 = some (.int .i64 1) ∧ tm.get 29 = some (.bool true) ∧ tm.get 30 = some (.bool true)) ⟨(by simp only [sG, Nat.reduceEqDiff, t1] <;> rfl), (by simp only [sG, Nat.reduceEqDiff, t4] <;> rfl), (by simp only [sG, Nat.reduceEqDiff, t5] <;> rfl), (by simp only [sG, Nat.reduceEqDiff, t6] <;> rfl), (by simp only [sG, Nat.reduceEqDiff, t7] <;> rfl), (by simp only [sG, Nat.reduceEqDiff, t8] <;> rfl), (by simp only [sG, Nat.reduceEqDiff, t9] <;> rfl), (by simp only [sG, Nat.reduceEqDiff, t10] <;> rfl), (by simp only [sG, Nat.reduceEqDiff, t11] <;> rfl), (by simp only [sG, Nat.reduceEqDiff, t12] <;> rfl), (by simp only [sG, Nat.reduceEqDiff, t13] <;> rfl), (by simp only [sG, Nat.reduceEqDiff, t14] <;> rfl), (by simp only [sG, Nat.reduceEqDiff, t15] <;> rfl), (by simp only [sG, Nat.reduceEqDiff, t16] <;> rfl), (by simp only [sG, Nat.reduceEqDiff, t17] <;> rfl), (by simp only [sG, Nat.reduceEqDiff, t18] <;> rfl), (by simp only [sG, Nat.reduceEqDiff, t19] <;> rfl), (by simp only [sG, Nat.reduceEqDiff, t20] <;> rfl), (by simp only [sG, Nat.reduceEqDiff, t21] <;> rfl), (by simp only [sG, Nat.reduceEqDiff, t22] <;> rfl), (by simp only [sG, Nat.reduceEqDiff, t23] <;> rfl), (by simp only [sG, Nat.reduceEqDiff, t24] <;> rfl), (by simp only [sG, Nat.reduceEqDiff, t25] <;> rfl), (by simp only [sG, Nat.reduceEqDiff, t26] <;> rfl), (by simp only [sG, Nat.reduceEqDiff, t27] <;> rfl), (by simp only [sG, Nat.reduceEqDiff, t28] <;> rfl), (by simp only [sG, Nat.reduceEqDiff, t29] <;> rfl), (by simp only [sG, Nat.reduceEqDiff] <;> rfl)⟩ ?_
  clear t1
  clear t4
  clear t5
  clear t6
  clear t7
  clear t8
  clear t9
  clear t10
  clear t11
  clear t12
  clear t13
  clear t14
  clear t15
  clear t16
  clear t17
  clear t18
  clear t19
  clear t20
  clear t21
  clear t22
  clear t23
  clear t24
  clear t25
  clear t26
  clear t27
  clear t28
  clear t29
  rintro tm ⟨t1, t4, t5, t6, t7, t8, t9, t10, t11, t12, t13, t14, t15, t16, t17, t18, t19, t20, t21, t22, t23, t24, t25, t26, t27, t28, t29, t30⟩
  repeat' (first | refine EvC.seq ?_ | refine EvC.scope ?_ | refine EvC.block ?_ | (refine EvC.skip ?_) | (refine EvC.exit ?_) | (refine EvC.ret ?_; try simp only [z01, z00]) | (refine EvC.reg ?_; simp (config := { maxSteps := 2000000 }) (disch := first | omega | rfl) only [sB, Nat.reduceEqDiff, Value.cells, layC, ld25, bd25, cl21, (za0 g11).1, t11]))
  refine (z6t w23).mono ?_
  rintro v A24 ⟨rfl, k24⟩
  have go := k24.get w23 go
  have g5 := k24.get w23 g5
  have g7 := k24.get w23 g7
  have g9 := k24.get w23 g9
  have g11 := k24.get w23 g11
  have g13 := k24.get w23 g13
  have g16 := k24.get w23 g16
  have g27 := k24.get w23 g27
  have w24 := k24.wf
  have qo := z15 go
  repeat' (first | refine EvC.seq ?_ | refine EvC.scope ?_ | refine EvC.block ?_ | (refine EvC.skip ?_) | (refine EvC.exit ?_) | (refine EvC.ret ?_; try simp only [z01, z00]) | (refine zal ?_; simp (config := { maxSteps := 2000000 }) (disch := first | omega | rfl) only [sB, Nat.reduceEqDiff, Value.cells, layC, ld25, bd25, cl21, (za0 g16).1, t16]))
  refine (z6t w24).mono ?_
  rintro v A25 ⟨rfl, k25⟩
  have go := k25.get w24 go
  have g5 := k25.get w24 g5
  have g7 := k25.get w24 g7
  have g9 := k25.get w24 g9
  have g11 := k25.get w24 g11
  have g13 := k25.get w24 g13
  have g16 := k25.get w24 g16
  have g27 := k25.get w24 g27
  have w25 := k25.wf
  have qo := z15 go
  try simp (config := { maxSteps := 2000000 }) (disch := first | omega | rfl) only []
  try simp (config := { maxSteps := 2000000 }) (disch := first | omega | rfl) only []
  refine EvC.frame (fun tm => tm.get 1 = some (.pointer (some ⟨H.next, 0, none⟩)) ∧ tm.get 4 = some (.pointer none) ∧ tm.get 5 = some (.pointer (some ⟨A2.next, 0, none⟩)) ∧ tm.get 6 = some (.int .i64 1) ∧ tm.get 7 = some (.pointer (some ⟨A4.next, 0, none⟩)) ∧ tm.get 8 = some (.int .i64 1) ∧ tm.get 9 = some (.pointer (some ⟨A6.next, 0, none⟩)) ∧ tm.get 10 = some (.int .i64 1) ∧ tm.get 11 = some (.pointer (some ⟨A8.next, 0, none⟩)) ∧ tm.get 12 = some (.int .i64 1) ∧ tm.get 13 = some (.pointer (some ⟨A10.next, 0, none⟩)) ∧ tm.get 14 = some (.slice none 0 0) ∧ tm.get 15 = some (.int .i64 1) ∧ tm.get 16 = some (.pointer (some ⟨A12.next, 0, none⟩)) ∧ tm.get 17 = some (.int .i64 1) ∧ tm.get 18 = some (.int .i64 0) ∧ tm.get 19 = some (.int .i64 1) ∧ tm.get 20 = some (.int .i64 1) ∧ tm.get 21 = some (.int .i64 1) ∧ tm.get 22 = some (.int .i64 1) ∧ tm.get 23 = some (.int .i64 1) ∧ tm.get 24 = some (.int .i64 1) ∧ tm.get 25 = some (.int .i64 1) ∧ tm.get 26 = some (.int .i64 1) ∧ tm.get 27 = some (.pointer (some ⟨A22.next, 0, none⟩)) ∧ tm.get 28 = some (.int .i64 1) ∧ tm.get 29 = some (.bool true) ∧ tm.get 30 = some (.bool true) ∧ tm.get 31 = some (.bool true)) ⟨(by simp only [sG, Nat.reduceEqDiff, t1] <;> rfl), (by simp only [sG, Nat.reduceEqDiff, t4] <;> rfl), (by simp only [sG, Nat.reduceEqDiff, t5] <;> rfl), (by simp only [sG, Nat.reduceEqDiff, t6] <;> rfl), (by simp only [sG, Nat.reduceEqDiff, t7] <;> rfl), (by simp only [sG, Nat.reduceEqDiff, t8] <;> rfl), (by simp only [sG, Nat.reduceEqDiff, t9] <;> rfl), (by simp only [sG, Nat.reduceEqDiff, t10] <;> rfl), (by simp only [sG, Nat.reduceEqDiff, t11] <;> rfl), (by simp only [sG, Nat.reduceEqDiff, t12] <;> rfl), (by simp only [sG, Nat.reduceEqDiff, t13] <;> rfl), (by simp only [sG, Nat.reduceEqDiff, t14] <;> rfl), (by simp only [sG, Nat.reduceEqDiff, t15] <;> rfl), (by simp only [sG, Nat.reduceEqDiff, t16] <;> rfl), (by simp only [sG, Nat.reduceEqDiff, t17] <;> rfl), (by simp only [sG, Nat.reduceEqDiff, t18] <;> rfl), (by simp only [sG, Nat.reduceEqDiff, t19] <;> rfl), (by simp only [sG, Nat.reduceEqDiff, t20] <;> rfl), (by simp only [sG, Nat.reduceEqDiff, t21] <;> rfl), (by simp only [sG, Nat.reduceEqDiff, t22] <;> rfl), (by simp only [sG, Nat.reduceEqDiff, t23] <;> rfl), (by simp only [sG, Nat.reduceEqDiff, t24] <;> rfl), (by simp only [sG, Nat.reduceEqDiff, t25] <;> rfl), (by simp only [sG, Nat.reduceEqDiff, t26] <;> rfl), (by simp only [sG, Nat.reduceEqDiff, t27] <;> rfl), (by simp only [sG, Nat.reduceEqDiff, t28] <;> rfl), (by simp only [sG, Nat.reduceEqDiff, t29] <;> rfl), (by simp only [sG, Nat.reduceEqDiff, t30] <;> rfl), (by simp only [sG, Nat.reduceEqDiff] <;> rfl)⟩ ?_
  clear t1
  clear t4
  clear t5
  clear t6
  clear t7
  clear t8
  clear t9
  clear t10
  clear t11
  clear t12
  clear t13
  clear t14
  clear t15
  clear t16
  clear t17
  clear t18
  clear t19
  clear t20
  clear t21
  clear t22
  clear t23
  clear t24
  clear t25
  clear t26
  clear t27
  clear t28
  clear t29
  clear t30
  rintro tm ⟨t1, t4, t5, t6, t7, t8, t9, t10, t11, t12, t13, t14, t15, t16, t17, t18, t19, t20, t21, t22, t23, t24, t25, t26, t27, t28, t29, t30, t31⟩
  repeat' (first | refine EvC.seq ?_ | refine EvC.scope ?_ | refine EvC.block ?_ | (refine EvC.skip ?_) | (refine EvC.exit ?_) | (refine EvC.ret ?_; try simp only [z01, z00]) | (refine EvC.reg ?_; simp (config := { maxSteps := 2000000 }) (disch := first | omega | rfl) only [sB, Nat.reduceEqDiff, Value.cells, layC, ld27, bd27, cl22, t29, t30, t31, t27, t28, t4, z5t g27, bEqC, e11]))
  refine (z8g w25).mono ?_
  rintro v A26 ⟨rfl, k26⟩
  have go := k26.get w25 go
  have g5 := k26.get w25 g5
  have g7 := k26.get w25 g7
  have g9 := k26.get w25 g9
  have g11 := k26.get w25 g11
  have g13 := k26.get w25 g13
  have g16 := k26.get w25 g16
  have g27 := k26.get w25 g27
  have w26 := k26.wf
  have qo := z15 go
  repeat' (first | refine EvC.seq ?_ | refine EvC.scope ?_ | refine EvC.block ?_ | (refine EvC.skip ?_) | (refine EvC.exit ?_) | (refine EvC.ret ?_; try simp only [z01, z00]) | (refine z4z ?_; simp (config := { maxSteps := 2000000 }) (disch := first | omega | rfl) only [sB, Nat.reduceEqDiff, cl23, t4, e00]))
  refine (z8h w26).mono ?_
  rintro v A27 ⟨rfl, k27⟩
  have go := k27.get w26 go
  have g5 := k27.get w26 g5
  have g7 := k27.get w26 g7
  have g9 := k27.get w26 g9
  have g11 := k27.get w26 g11
  have g13 := k27.get w26 g13
  have g16 := k27.get w26 g16
  have g27 := k27.get w26 g27
  have w27 := k27.wf
  have qo := z15 go
  repeat' (first | refine EvC.seq ?_ | refine EvC.scope ?_ | refine EvC.block ?_ | (refine EvC.skip ?_) | (refine EvC.exit ?_) | (refine EvC.ret ?_; try simp only [z01, z00]) | (refine z4z ?_; simp (config := { maxSteps := 2000000 }) (disch := first | omega | rfl) only [sB, Nat.reduceEqDiff, cl24, t4, e00]))
  refine (z8i w27).mono ?_
  rintro v A28 ⟨rfl, k28⟩
  have go := k28.get w27 go
  have g5 := k28.get w27 g5
  have g7 := k28.get w27 g7
  have g9 := k28.get w27 g9
  have g11 := k28.get w27 g11
  have g13 := k28.get w27 g13
  have g16 := k28.get w27 g16
  have g27 := k28.get w27 g27
  have w28 := k28.wf
  have qo := z15 go
  repeat' (first | refine EvC.seq ?_ | refine EvC.scope ?_ | refine EvC.block ?_ | (refine EvC.skip ?_) | (refine EvC.exit ?_) | (refine EvC.ret ?_; try simp only [z01, z00]) | (refine z4z ?_; simp (config := { maxSteps := 2000000 }) (disch := first | omega | rfl) only [sB, Nat.reduceEqDiff, cl25, t4, e00]))
  refine (z8j w28).mono ?_
  rintro v A29 ⟨rfl, k29⟩
  have go := k29.get w28 go
  have g5 := k29.get w28 g5
  have g7 := k29.get w28 g7
  have g9 := k29.get w28 g9
  have g11 := k29.get w28 g11
  have g13 := k29.get w28 g13
  have g16 := k29.get w28 g16
  have g27 := k29.get w28 g27
  have w29 := k29.wf
  have qo := z15 go
  repeat' (first | refine EvC.seq ?_ | refine EvC.scope ?_ | refine EvC.block ?_ | (refine EvC.skip ?_) | (refine EvC.exit ?_) | (refine EvC.ret ?_; try simp only [z01, z00]) | (refine z4z ?_; simp (config := { maxSteps := 2000000 }) (disch := first | omega | rfl) only [sB, Nat.reduceEqDiff, z2c, ld3, cl26, t4, t1, qo, e00]))
  refine (z56 w29).mono ?_
  rintro v A30 ⟨rfl, k30⟩
  have go := k30.get w29 go
  have g5 := k30.get w29 g5
  have g7 := k30.get w29 g7
  have g9 := k30.get w29 g9
  have g11 := k30.get w29 g11
  have g13 := k30.get w29 g13
  have g16 := k30.get w29 g16
  have g27 := k30.get w29 g27
  have w30 := k30.wf
  have qo := z15 go
  repeat' (first | refine EvC.seq ?_ | refine EvC.scope ?_ | refine EvC.block ?_ | (refine EvC.skip ?_) | (refine EvC.exit ?_) | (refine EvC.ret ?_; try simp only [z01, z00]) | (refine z4z ?_; simp (config := { maxSteps := 2000000 }) (disch := first | omega | rfl) only [sB, Nat.reduceEqDiff, Bool.not_false]))
  exact z0b rfl (by simp only [sG, Nat.reduceEqDiff] <;> rfl) rfl
end Go.Proofs.YtnnpejdphgeciaaDoor.hb
end

-- Law2
section
namespace Go.Hb
open Go Go.RowKit
section
variable {H : Type} {enc : TypeId × Value → H} {P : Program} {W : World} {sp : Nat → Bool} {fuel : Nat} {t e : TypeId} {cs : List Value} {d : DataW H} {ps : List MemPlace}
theorem z8q {k : IntKind} {n : Int} : ab P W (.int k n) = .int k n := rfl
theorem z3h {s : ByteArray} : ab P W (.string s) = .string s := rfl
theorem z0y {k : IntKind} (ht : P.underlying t = some (.int k)) (h : DataW.trod enc P W 0 sp true fuel t cs = some (d, ps)) : ∃ n, cs = [.int k n] ∧ (Lit.int k n).wf = true := by
  cases fuel with
  | zero => simp [DataW.trod] at h
  | succ m =>
    unfold DataW.trod at h
    rw [ht] at h
    split at h <;> simp_all
theorem z1y (ht : P.underlying t = some .string) (h : DataW.trod enc P W 0 sp true fuel t cs = some (d, ps)) : ∃ s : ByteArray, cs = [.string s] ∧ s.size ≤ maxLen := by
  cases fuel with
  | zero => simp [DataW.trod] at h
  | succ m =>
    unfold DataW.trod at h
    rw [ht] at h
    split at h <;> simp_all
theorem z3w (ht : P.underlying t = some (.slice e)) (h : DataW.trod enc P W 0 sp true fuel t cs = some (d, ps)) :
    cs = [.slice none 0 0] ∨ ∃ a len cap m, fuel = m + 1 ∧ cs = [.slice (some a) len cap] ∧ len ≤ cap ∧ cap ≤ maxLen ∧
      ∀ i, i < len → ∃ es d' ps', W.cells? 0 (a.add (i * P.cellsOf e)) (P.cellsOf e) = some es ∧ DataW.trod enc P W 0 sp true m e es = some (d', ps') := by
  cases fuel with
  | zero => simp [DataW.trod] at h
  | succ m =>
    unfold DataW.trod at h
    rw [ht] at h
    split at h <;> simp_all
    obtain ⟨⟨hl, hc⟩, h⟩ := h
    simp only [Option.bind_eq_some_iff, Option.map_eq_some_iff] at h
    obtain ⟨elems, he, _⟩ := h
    refine ⟨_, _, _, ⟨rfl, rfl, rfl⟩, hl, hc, fun i hi => ?_⟩
    have hlen := mapM_some_length he
    have := mapM_some_get he i i (by simp [hi])
    rw [List.getElem?_eq_getElem (by rw [hlen]; simpa using hi)] at this
    simp only [Option.bind_eq_some_iff] at this
    obtain ⟨es, h1, h2⟩ := this
    exact ⟨es, h1, _, _, h2⟩
theorem z3i {fs : Array Field} (ht : P.underlying t = some (.struct fs)) (h : DataW.trod enc P W 0 sp true fuel t cs = some (d, ps)) :
    ∃ m, fuel = m + 1 ∧ cs.length = P.cellsOf t ∧ ∀ (i : Nat) (f : Field), fs[i]? = some f → ∃ d' ps', DataW.trod enc P W 0 sp true m f.type ((cs.drop f.offset).take (P.cellsOf f.type)) = some (d', ps') := by
  cases fuel with
  | zero => simp [DataW.trod] at h
  | succ m =>
    unfold DataW.trod at h
    rw [ht] at h
    split at h <;> simp_all
    subst_vars
    obtain ⟨hl, xs, hx, _⟩ := h
    intro i f hf
    have hlen := mapM_some_length hx
    have := mapM_some_get hx i f (by simpa using hf)
    have hi := (Array.getElem?_eq_some_iff.1 hf).1
    rw [List.getElem?_eq_getElem (by rw [hlen]; simpa using hi)] at this
    exact ⟨_, _, this⟩
theorem za1 (a : Addr) (i : Nat) : (a.add i).block = a.block := by unfold Addr.add; split <;> rfl
theorem z57 {a : Addr} {s i : Nat} {es : List Value} (hs : 0 < s) (h : W.cells? 0 (a.add (i * s)) s = some es) (hsp : a.spot = none) : (heapW P W).load ⟨a.block, a.off + i * s, none⟩ s = some (es.map (ab P W)) ∧ es.length = s ∧ a.block < W.heap.size := by
  obtain ⟨_, hl, hc⟩ := World.cells?_some h
  obtain ⟨b, o, sp⟩ := a
  obtain rfl : sp = none := hsp
  have hb := World.cells?_block h hs
  rw [za1] at hb
  refine ⟨z7a hs hl fun j v hj => ?_, hl, hb⟩
  have hjl : j < es.length := (List.getElem?_eq_some_iff.1 hj).1
  have := hc j (by omega)
  rw [add0, add0] at this
  rw [this]; exact hj
theorem z7j {a : Addr} {s : Nat} {es : List Value} (hs : 0 < s) (h : W.cells? 0 (a.add (0 * s)) s = some es) : a.spot = none := by
  obtain ⟨_, hl, hc⟩ := World.cells?_some h
  have e0 : ∀ a : Addr, a.add 0 = a := fun a => by unfold Addr.add; simp
  have := hc 0 hs
  rw [Nat.zero_mul, e0, e0, List.getElem?_eq_getElem (by omega)] at this
  unfold World.cell? at this
  split at this
  · split at this
    · cases this
    · rename_i hn; simpa using hn
  · cases this
end
section
variable {H : Type} {enc : TypeId × Value → H} {P : Program} {W : World} {sp : Nat → Bool}
structure TermTypes (P : Program) (tT tS tI tG tU : TypeId) : Prop where
  fields : ∃ fs : Array Field, P.underlying tT = some (.struct fs) ∧ (fs.toList.map fun f => (f.offset, f.type)) = [(0, tI), (1, tG), (2, tG), (3, tU), (4, tI), (5, tS)]
  slice : P.underlying tS = some (.slice tT)
  int : P.underlying tI = some (.int .i64)
  str : P.underlying tG = some .string
  u64 : P.underlying tU = some (.int .u64)
  cT : P.cellsOf tT = 6
  cS : P.cellsOf tS = 1
  cI : P.cellsOf tI = 1
  cG : P.cellsOf tG = 1
  cU : P.cellsOf tU = 1
theorem z3x {n : Int} (h : (Lit.int .i64 n).wf = true) : i64 n := by
  unfold i64
  unfold Lit.wf at h
  simp [IntKind.min, IntKind.max, IntKind.bits, IntKind.signed] at h
  exact h
theorem z8r {n : Int} (h : (Lit.int .u64 n).wf = true) : u64 n := by
  unfold u64
  unfold Lit.wf at h
  simp [IntKind.min, IntKind.max, IntKind.bits, IntKind.signed] at h
  exact h
theorem z1i {cs : List Value} {o : Nat} {v : Value} (h : (cs.drop o).take 1 = [v]) : cs[o]? = some v := by
  have : ((cs.drop o).take 1)[0]? = some v := by rw [h]; rfl
  simpa [List.getElem?_take, List.getElem?_drop] using this
theorem z6u {cs : List Value} {a b c d e f : Value} (hl : cs.length = 6) (h0 : cs[0]? = some a) (h1 : cs[1]? = some b) (h2 : cs[2]? = some c) (h3 : cs[3]? = some d) (h4 : cs[4]? = some e) (h5 : cs[5]? = some f) : cs = [a, b, c, d, e, f] := by
  match cs, hl with
  | [_, _, _, _, _, _], _ => simp at h0 h1 h2 h3 h4 h5; simp [h0, h1, h2, h3, h4, h5]
theorem z5z {tT tS tI tG tU : TypeId} (T : TermTypes P tT tS tI tG tU) : ∀ (fuel : Nat) (cs : List Value) (d : DataW H) (ps : List MemPlace), DataW.trod enc P W 0 sp true fuel tT cs = some (d, ps) → ∃ t, RepT (heapW P W) t (cs.map (ab P W)) := by
  intro fuel
  induction fuel using Nat.strongRecOn with
  | _ fuel ih =>
  intro cs d ps h
  obtain ⟨fs, hf, hfs⟩ := T.fields
  obtain ⟨m, rfl, hl, hall⟩ := z3i hf h
  rw [T.cT] at hl
  have fld : ∀ i o u, ((fs.toList.map fun f => (f.offset, f.type)))[i]? = some (o, u) → P.cellsOf u = 1 → ∃ d' ps', DataW.trod enc P W 0 sp true m u ((cs.drop o).take 1) = some (d', ps') := fun i o u hi hu => by
    rw [List.getElem?_map, Option.map_eq_some_iff] at hi
    obtain ⟨f, hf1, hf2⟩ := hi
    obtain ⟨d', ps', hd⟩ := hall i f (by simpa using hf1)
    cases hf2
    rw [hu] at hd
    exact ⟨d', ps', hd⟩
  rw [hfs] at fld
  obtain ⟨d0, p0, t0⟩ := fld 0 0 tI rfl T.cI
  obtain ⟨d1, p1, t1⟩ := fld 1 1 tG rfl T.cG
  obtain ⟨d2, p2, t2⟩ := fld 2 2 tG rfl T.cG
  obtain ⟨d3, p3, t3⟩ := fld 3 3 tU rfl T.cU
  obtain ⟨d4, p4, t4⟩ := fld 4 4 tI rfl T.cI
  obtain ⟨d5, p5, t5⟩ := fld 5 5 tS rfl T.cS
  obtain ⟨k, h0, w0⟩ := z0y T.int t0
  obtain ⟨s, h1, w1⟩ := z1y T.str t1
  obtain ⟨u, h2, w2⟩ := z1y T.str t2
  obtain ⟨b, h3, w3⟩ := z0y T.u64 t3
  obtain ⟨v, h4, w4⟩ := z0y T.int t4
  rcases z3w T.slice t5 with h5 | ⟨a, n, c, m', rfl, h5, hnc, hcm, hel⟩
  · rw [z6u hl (z1i h0) (z1i h1) (z1i h2) (z1i h3) (z1i h4) (z1i h5)]
    exact ⟨.mk k s u b v [], .mk k s u b v [] none 0 (fun _ => []) (z3x w0) w1 w2 (z8r w3) (z3x w4) (Nat.zero_le _) (Nat.le_refl _) (Nat.zero_le _) (fun _ => ⟨rfl, rfl⟩) (fun i ad hi => by simp at hi) (fun i t ht => by simp at ht)⟩
  · rw [z6u hl (z1i h0) (z1i h1) (z1i h2) (z1i h3) (z1i h4) (z1i h5)]
    rw [T.cT] at hel
    have hsp : 0 < n → a.spot = none := fun hn => by
      obtain ⟨es, _, _, he, _⟩ := hel 0 hn
      exact z7j (by omega) he
    have key : ∀ i, ∃ t cells, i < n → (heapW P W).load ⟨a.block, a.off + i * 6, none⟩ 6 = some cells ∧ RepT (heapW P W) t cells := fun i => by
      by_cases hi : i < n
      · obtain ⟨es, d', ps', he, ht⟩ := hel i hi
        obtain ⟨t, hr⟩ := ih m' (by omega) es d' ps' ht
        exact ⟨t, _, fun _ => ⟨(z57 (by omega) he (hsp (by omega))).1, hr⟩⟩
      · exact ⟨.mk 0 s u 0 0 [], [], fun h => absurd h hi⟩
    obtain ⟨T', hT'⟩ := Classical.axiomOfChoice key
    obtain ⟨C, hC⟩ := Classical.axiomOfChoice hT'
    have hlen : ((List.range n).map T').length = n := by simp
    refine ⟨.mk k s u b v ((List.range n).map T'), ?_⟩
    by_cases hn : 0 < n
    · have hbl : a.block < W.heap.size := by
        obtain ⟨es, _, _, he, _⟩ := hel 0 hn
        exact (z57 (P := P) (by omega) he (hsp hn)).2.2
      have hab : ab P W (.slice (some a) n c) = .slice (some a) ((List.range n).map T').length c := by
        unfold ab
        rw [hlen]
        simp only
        rw [if_pos ⟨hnc, hcm⟩, if_pos ⟨hsp hn, hbl⟩]
      simp only [List.map_cons, List.map_nil, z8q, z3h, hab]
      refine .mk k s u b v _ (some a) c C (z3x w0) w1 w2 (z8r w3) (z3x w4) (by rw [hlen]; omega) (by rw [hlen]; exact hnc) hcm (fun h => by cases h) (fun i ad hi ha => ?_) (fun i t ht => ?_)
      · cases ha
        rw [hlen] at hi
        exact ⟨hsp hn, (hC i hi).1⟩
      · rw [List.getElem?_map, Option.map_eq_some_iff] at ht
        obtain ⟨j, hj, rfl⟩ := ht
        have hi : i < n := by have := (List.getElem?_eq_some_iff.1 hj).1; simpa using this
        rw [List.getElem?_range hi] at hj
        cases hj
        exact (hC i hi).2
    · have hn0 : n = 0 := by omega
      subst hn0
      obtain ⟨a', hab⟩ : ∃ a', ab P W (.slice (some a) 0 c) = .slice (some a') 0 c := by
        unfold ab
        simp only
        rw [if_pos ⟨hnc, hcm⟩]
        split
        · exact ⟨_, rfl⟩
        · exact ⟨_, rfl⟩
      simp only [List.map_cons, List.map_nil, z8q, z3h, hab, List.range_zero]
      exact .mk k s u b v [] (some a') c C (z3x w0) w1 w2 (z8r w3) (z3x w4) (Nat.zero_le _) hnc hcm (fun h => by cases h) (fun i ad hi => by simp at hi) (fun i t ht => by simp at ht)
end
end Go.Hb
end

-- AwS
section
namespace Go.Proofs.YtnnpejdphgeciaaDoor.hb
open Go Go.RowKit Go.Hb Go.Proofs
theorem z9p : Tryd.prog.follows .mixedOrders = true := by kernel_rfl
theorem z9q : ((List.range Tryd.prog.funcs.size).all fun f => !(2 ^ 165 - 1).testBit f || okFn Tryd.prog f) = true := by kernel_rfl
theorem fewT : Tryd.prog.globals.size ≤ 64 := of_decide_eq_true (by kernel_rfl)
theorem z9d : retTrue (dcall Tryd.prog (Ok.run (2 ^ 165 - 1)) 1000000 5 [] ⟨64, .nil⟩) = true := by kernel_rfl
theorem z7k (w : World) : Calls Tryd.prog 5 #[] w fun e w' => e = .returned (.bool true) ∧ Below w.heap.size w w' :=
  z79 (τ := fun _ => .bool true) (fun _ => rfl) z9p z9q fewT z9d ⟨rfl, fun i v v' h => by simp at h⟩ w
end Go.Proofs.YtnnpejdphgeciaaDoor.hb
end

-- St4
section
namespace Go.Hb
open Go Go.RowKit
section
variable {H : Type} {enc : TypeId × Value → H} {P : Program} {W : World} {sp : Nat → Bool} {fuel : Nat} {t e : TypeId} {cs : List Value} {d : DataW H} {ps : List MemPlace}
theorem z1z {fs : Array Field} {L : List (Nat × TypeId)} (ht : P.underlying t = some (.struct fs)) (hL : (fs.toList.map fun f => (f.offset, f.type)) = L) (h : DataW.trod enc P W 0 sp true fuel t cs = some (d, ps)) :
    ∃ m, cs.length = P.cellsOf t ∧ ∀ (i o : Nat) (u : TypeId), L[i]? = some (o, u) → ∃ d' ps', DataW.trod enc P W 0 sp true m u ((cs.drop o).take (P.cellsOf u)) = some (d', ps') := by
  obtain ⟨m, rfl, hl, hall⟩ := z3i ht h
  refine ⟨m, hl, fun i o u hi => ?_⟩
  subst hL
  rw [List.getElem?_map, Option.map_eq_some_iff] at hi
  obtain ⟨f, hf1, hf2⟩ := hi
  obtain ⟨d', ps', hd⟩ := hall i f (by simpa using hf1)
  cases hf2
  exact ⟨d', ps', hd⟩
theorem z8s {v : Value} (ht : P.underlying t = some (.slice e)) (h : DataW.trod enc P W 0 sp true fuel t [v] = some (d, ps)) : ∃ a n c, ab P W v = .slice a n c ∧ n ≤ maxLen := by
  rcases z3w ht h with h | ⟨a, n, c, m, rfl, h, hnc, hcm, hel⟩
  · cases h; exact ⟨none, 0, 0, rfl, Nat.zero_le _⟩
  · cases h
    obtain ⟨a', ha⟩ : ∃ a', ab P W (.slice (some a) n c) = .slice a' n c := by
      unfold ab
      simp only
      rw [if_pos ⟨hnc, hcm⟩]
      split <;> exact ⟨_, rfl⟩
    exact ⟨a', n, c, ha, Nat.le_trans hnc hcm⟩
end
end Go.Hb
namespace Go.Proofs.YtnnpejdphgeciaaDoor.hb
open Go Go.RowKit Go.Hb Go.Proofs
theorem z7l : TermTypes Tryd.prog 25 23 3 9 22 := ⟨⟨_, Tryd.underlying25, rfl⟩, Tryd.underlying23, Tryd.underlying3, Tryd.underlying9, Tryd.underlying22, by kernel_rfl, by kernel_rfl, by kernel_rfl, by kernel_rfl, by kernel_rfl⟩
theorem ones : Tryd.prog.cellsOf 3 = 1 ∧ Tryd.prog.cellsOf 9 = 1 ∧ Tryd.prog.cellsOf 28 = 1 ∧ Tryd.prog.cellsOf 31 = 1 ∧ Tryd.prog.cellsOf 27 = 2 ∧ Tryd.prog.cellsOf 30 = 2 ∧ Tryd.prog.cellsOf 25 = 6 ∧ Tryd.prog.cellsOf 33 = 15 := by
  refine ⟨?_, ?_, ?_, ?_, ?_, ?_, ?_, ?_⟩ <;> kernel_rfl
set_option maxRecDepth 100000 in
set_option maxHeartbeats 4000000 in
theorem z7m {H : Type} {enc : TypeId × Value → H} {W : World} {sp : Nat → Bool} {fuel : Nat} {cs : List Value} {d : DataW H} {ps : List MemPlace} (h : DataW.trod enc Tryd.prog W 0 sp true fuel 33 cs = some (d, ps)) :
    ∃ (k0 k1 n f0 f3 f4 p q m : Int) (f1 f2 s : ByteArray) (fa ma ca : Option Addr) (fn fc mn mc cn cc : Nat), cs.map (ab Tryd.prog W) = [.int .i64 k0, .int .i64 k1, .int .i64 n, .int .i64 f0, .string f1, .string f2, .int .u64 f3, .int .i64 f4, .slice fa fn fc, .int .i64 p, .int .i64 q, .slice ma mn mc, .string s, .int .i64 m, .slice ca cn cc] ∧ cn ≤ 9223372036854775807 := by
  obtain ⟨oI, oG, oS, oC, o2, oK, o6, o15⟩ := ones
  obtain ⟨g, hl, fld⟩ := z1z Tryd.underlying33 rfl h
  rw [o15] at hl
  match cs, hl with
  | [c0, c1, c2, c3, c4, c5, c6, c7, c8, c9, c10, c11, c12, c13, c14], _ =>
  obtain ⟨d0, p0, t0⟩ := fld 0 0 3 rfl
  obtain ⟨d1, p1, t1⟩ := fld 1 1 3 rfl
  obtain ⟨d2, p2, t2⟩ := fld 2 2 3 rfl
  obtain ⟨d3, p3, t3⟩ := fld 3 3 25 rfl
  obtain ⟨d4, p4, t4⟩ := fld 4 9 27 rfl
  obtain ⟨d5, p5, t5⟩ := fld 5 11 28 rfl
  obtain ⟨d6, p6, t6⟩ := fld 6 12 30 rfl
  obtain ⟨d7, p7, t7⟩ := fld 7 14 31 rfl
  rw [oI] at t0 t1 t2
  rw [o6] at t3
  rw [o2] at t4
  rw [oS] at t5
  rw [oK] at t6
  rw [oC] at t7
  obtain ⟨k0, h0, -⟩ := z0y Tryd.underlying3 t0
  obtain ⟨k1, h1, -⟩ := z0y Tryd.underlying3 t1
  obtain ⟨n, h2, -⟩ := z0y Tryd.underlying3 t2
  obtain ⟨t, hr⟩ := z5z z7l _ _ _ _ t3
  obtain ⟨a, c, cells, h3, -⟩ := hr.six
  obtain ⟨g4, -, fld4⟩ := z1z Tryd.underlying27 rfl t4
  obtain ⟨d8, p8, t8⟩ := fld4 0 0 3 rfl
  obtain ⟨d9, p9, t9⟩ := fld4 1 1 3 rfl
  rw [oI] at t8 t9
  obtain ⟨p, h8, -⟩ := z0y Tryd.underlying3 t8
  obtain ⟨q, h9, -⟩ := z0y Tryd.underlying3 t9
  obtain ⟨ma, mn, mc, h5, -⟩ := z8s Tryd.underlying28 t5
  obtain ⟨g6, -, fld6⟩ := z1z Tryd.underlying30 rfl t6
  obtain ⟨d10, p10, t10⟩ := fld6 0 0 9 rfl
  obtain ⟨d11, p11, t11⟩ := fld6 1 1 3 rfl
  rw [oG] at t10
  rw [oI] at t11
  obtain ⟨s, h10, -⟩ := z1y Tryd.underlying9 t10
  obtain ⟨m, h11, -⟩ := z0y Tryd.underlying3 t11
  obtain ⟨ca, cn, cc, h7, hcn⟩ := z8s Tryd.underlying31 t7
  refine ⟨k0, k1, n, t.kind, t.bits, t.var, p, q, m, t.name, t.num, s, a, ma, ca, t.args.length, c, mn, mc, cn, cc, ?_, hcn⟩
  have i0 : c0 = .int .i64 k0 := List.cons.inj h0 |>.1
  have i1 : c1 = .int .i64 k1 := List.cons.inj h1 |>.1
  have i2 : c2 = .int .i64 n := List.cons.inj h2 |>.1
  have i9 : c9 = .int .i64 p := List.cons.inj h8 |>.1
  have i10 : c10 = .int .i64 q := List.cons.inj h9 |>.1
  have i12 : c12 = .string s := List.cons.inj h10 |>.1
  have i13 : c13 = .int .i64 m := List.cons.inj h11 |>.1
  have i3 : [ab Tryd.prog W c3, ab Tryd.prog W c4, ab Tryd.prog W c5, ab Tryd.prog W c6, ab Tryd.prog W c7, ab Tryd.prog W c8] = six t a c := h3
  simp only [six, List.cons.injEq, and_true] at i3
  obtain ⟨j3, j4, j5, j6, j7, j8⟩ := i3
  subst i0 i1 i2 i9 i10 i12 i13
  simp only [List.map_cons, List.map_nil, j3, j4, j5, j6, j7, j8, h5, h7, z8q, z3h]
end Go.Proofs.YtnnpejdphgeciaaDoor.hb
end
