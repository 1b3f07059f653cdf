import Derived.Test.YtbphheglefjpmaaGreatDoorM2
import Derived.IntWalk
import Derived.BigFrame
/- Lemmas on the program's own code, towards the laws of this folder, part 3. Conditions: as each lemma says. -/
-- Sim
section
namespace Go.Hb
open Go Go.RowKit
section
variable (P : Program) (ok : Ok) (x : Ctx) (ops : Array Oper)
def LK (d : Option Tmp) (tm : Tr Value) (ds : List Deferred) (H : Heap) (K : Tr Value → List Deferred → Heap → Prop) : Option Dr → Prop
  | some (.val v H') => K (putD tm d v) ds H'
  | some (.call f args) => EvF P ok f args H fun v H' => K (putD tm d v) ds H'
  | some (.yield l args) => EvR P ok l args H fun v H' => K (putD tm d v) ds H'
  | some (.dfr dd) => x.round = none ∧ K (putD tm d undef) (dd :: ds) H
  | _ => False
def GK (d : Option Tmp) (tm : Tr Value) (K L : Prop) (want : Bool) : Option Value → Prop
  | some (.bool b) => if b = want then K else L
  | some (.tuple _) => L
  | _ => False
def guardOf (ops : Array Oper) (tm : Tr Value) (j : Nat) : Option Value :=
  match ops.toList[j]? with
  | some o => match o.dst with
    | some d => tm.get d
    | none => some (.tuple #[])
  | none => some (.tuple #[])
def EL : List Oper → Tr Value → List Deferred → Heap → (Tr Value → List Deferred → Heap → Prop) → Prop
  | [], tm, ds, H, K => K tm ds H
  | o :: os, tm, ds, H, K => match o.guard with
    | none => LK P ok x o.dst tm ds H (fun tm ds H => EL os tm ds H K) (dop P o (ev tm) H)
    | some (j, w) => GK o.dst tm (LK P ok x o.dst tm ds H (fun tm ds H => EL os tm ds H K) (dop P o (ev tm) H)) (EL os (putD tm o.dst undef) ds H K) w (guardOf ops tm j)
end
section
variable {P : Program} {ok : Ok} {x : Ctx} {ops : Array Oper}
section
variable (P ok x ops) (base : Nat)
def NK (k : Nat) (o : Oper) (tm : Tr Value) (gs : List Heap) (K : Tr Value → Prop) (d : Option Tmp) (nx : Nat) : Option Dr → Prop
  | some (.val v G') => (isRead o = false ∨ (G'.next = nx ∧ sameOn P o (ev tm) v (gs.take (gs.length - k)) = true)) ∧ K (putD tm d v)
  | _ => False
def AK (i : Nat) (tm : Tr Value) (H : Heap) (K : Tr Value → Heap → Prop) (d : Option Tmp) : Option (Blk × (Nat → Value)) → Prop
  | some (B, mk) => K (putD tm d (mk (base + i))) (H.put (base + i) (some B))
  | none => False
def EN1 (G : Heap) (gs : List Heap) (i k : Nat) (tm : Tr Value) (H : Heap) (K : Tr Value → Heap → Prop) : Option Oper → Prop
  | none => False
  | some o =>
    let go : Prop := match isAlloc o with
      | true => AK base i tm H K o.dst (dalloc P o (ev tm))
      | false => NK P k o tm gs (fun tm => K tm H) o.dst G.next (dop P o (ev tm) G)
    match o.guard with
    | none => go
    | some (j, w) => GK o.dst tm go (K (putD tm o.dst undef) H) w (guardOf ops tm j)
def EN (G : Heap) (gs : List Heap) : List (Nat × Nat) → Tr Value → Heap → (Tr Value → Heap → Prop) → Prop
  | [], tm, H, K => K tm H
  | (i, k) :: L, tm, H, K => EN1 P ops base G gs i k tm H (fun tm H => EN G gs L tm H K) ops.toList[i]?
def ES1 (tm : Tr Value) (ds : List Deferred) (H : Heap) (K : Tr Value → List Deferred → Heap → Prop) : Option Oper → Prop
  | none => False
  | some o => match o.guard with
    | none => LK P ok x o.dst tm ds H K (dop P o (ev tm) H)
    | some (j, w) => GK o.dst tm (LK P ok x o.dst tm ds H K (dop P o (ev tm) H)) (K (putD tm o.dst undef) ds H) w (guardOf ops tm j)
def ES : List (List (Nat × Nat) × Option Nat) → Heap → List Heap → Tr Value → List Deferred → (Tr Value → List Deferred → Heap → Prop) → Prop
  | [], _, _, _, _, _ => False
  | (L, none) :: _, G, gs, tm, ds, K => EN P ops base G gs L tm G fun tm H => K tm ds H
  | (L, some e) :: S, G, gs, tm, ds, K => EN P ops base G gs L tm G fun tm H => ES1 P ok x ops tm ds H (fun tm ds H => ES S H (G :: gs) tm ds K) ops.toList[e]?
end
theorem EvN.mono {base : Nat} {hs : List Heap} {K K' : Tr Value → Heap → Prop} (hk : ∀ tm H, K tm H → K' tm H) : ∀ (L : List (Nat × Nat)) (tm : Tr Value) (H : Heap), EvN P ops base hs L tm H K → EvN P ops base hs L tm H K'
  | [], tm, H, h => hk _ _ h
  | (i, k) :: L, tm, H, h => by
    obtain ⟨o, ho, h⟩ := h
    refine ⟨o, ho, ?_⟩
    rcases h with ⟨hw, h⟩ | ⟨hw, ha, B, mk, hd, h⟩ | ⟨hw, ha, v, G, gs, G', rfl, hd, hr, h⟩
    · exact .inl ⟨hw, EvN.mono hk L _ _ h⟩
    · exact .inr (.inl ⟨hw, ha, B, mk, hd, EvN.mono hk L _ _ h⟩)
    · exact .inr (.inr ⟨hw, ha, v, G, gs, G', rfl, hd, hr, EvN.mono hk L _ _ h⟩)
end
end Go.Hb
end

-- Hx
section
namespace Go.Hb
open Go Go.RowKit
def Heap.wf (H : Heap) : Prop := ∀ i B, H.get i = some B → i < H.next
structure HX (H H' : Heap) : Prop where
  next : H.next ≤ H'.next
  keep : ∀ i, i < H.next → H'.get i = H.get i
  wf : H'.wf
theorem HX.refl {H : Heap} (h : H.wf) : HX H H := ⟨Nat.le_refl _, fun _ _ => rfl, h⟩
theorem HX.trans {A B C : Heap} (h : HX A B) (k : HX B C) : HX A C :=
  ⟨Nat.le_trans h.next k.next, fun i hi => by rw [k.keep i (Nat.lt_of_lt_of_le hi h.next), h.keep i hi], k.wf⟩
theorem HX.new {A H : Heap} (h : HX A H) (B : Option Blk) : HX A (H.new B) := by
  refine ⟨Nat.le_succ_of_le h.next, fun i hi => ?_, fun i C hC => ?_⟩
  · rw [Heap.get_new, if_neg (by have := h.next; omega)]; exact h.keep i hi
  · rw [Heap.get_new] at hC
    show i < H.next + 1
    by_cases hi : i = H.next
    · omega
    · rw [if_neg hi] at hC; have := h.wf i C hC; omega
theorem HX.put {A H : Heap} (h : HX A H) {i : Nat} (hi : A.next ≤ i) (hl : i < H.next) (B : Option Blk) : HX A (H.put i B) := by
  refine ⟨h.next, fun j hj => ?_, fun j C hC => ?_⟩
  · rw [Heap.get_put, if_neg (by omega)]; exact h.keep j hj
  · rw [Heap.get_put] at hC
    show j < H.next
    by_cases hj : j = i
    · omega
    · rw [if_neg hj] at hC; exact h.wf j C hC
theorem HX.bump {A H : Heap} (h : HX A H) (k : Nat) : HX A ⟨H.next + k, H.t⟩ :=
  ⟨Nat.le_trans h.next (Nat.le_add_right _ _), h.keep, fun i B hB => Nat.lt_of_lt_of_le (h.wf i B hB) (Nat.le_add_right _ _)⟩
theorem HX.cells {H H' : Heap} (h : HX H H') {i : Nat} {cs : List Value} (hw : H.wf) (hc : H.cells i = some cs) : H'.cells i = some cs := by
  have hlt : i < H.next := by
    unfold Heap.cells at hc
    cases hg : H.get i with
    | none => rw [hg] at hc; cases hc
    | some B => exact hw i B hg
  unfold Heap.cells at hc ⊢
  rw [h.keep i hlt]; exact hc
theorem HX.load {H H' : Heap} (h : HX H H') {a : Addr} {n : Nat} {l : List Value} (hw : H.wf) (hl : H.load a n = some l) : H'.load a n = some l := by
  unfold Heap.load at hl ⊢
  split at hl
  · rename_i cs hs hc
    rw [hs, h.cells hw hc]
    exact hl
  · cases hl
inductive Tm where
  | mk (kind : Int) (name num : ByteArray) (bits var : Int) (args : List Tm)
def Tm.args : Tm → List Tm | .mk _ _ _ _ _ l => l
def Tm.kind : Tm → Int | .mk k _ _ _ _ _ => k
def Tm.name : Tm → ByteArray | .mk _ s _ _ _ _ => s
def Tm.num : Tm → ByteArray | .mk _ _ s _ _ _ => s
def Tm.bits : Tm → Int | .mk _ _ _ b _ _ => b
def Tm.var : Tm → Int | .mk _ _ _ _ v _ => v
def i64 (n : Int) : Prop := -9223372036854775808 ≤ n ∧ n ≤ 9223372036854775807
def u64 (n : Int) : Prop := 0 ≤ n ∧ n ≤ 18446744073709551615
inductive RepT (H : Heap) : Tm → List Value → Prop
  | mk (k : Int) (s u : ByteArray) (b v : Int) (l : List Tm) (a : Option Addr) (c : Nat) (cells : Nat → List Value) : i64 k → s.size ≤ maxLen → u.size ≤ maxLen → u64 b → i64 v → l.length ≤ maxLen →
      l.length ≤ c → c ≤ maxLen → (a = none → l = [] ∧ c = 0) →
      (∀ i ad, i < l.length → a = some ad → ad.spot = none ∧ H.load ⟨ad.block, ad.off + i * 6, none⟩ 6 = some (cells i)) → (∀ i t, l[i]? = some t → RepT H t (cells i)) →
      RepT H (.mk k s u b v l) [.int .i64 k, .string s, .string u, .int .u64 b, .int .i64 v, .slice a l.length c]
theorem RepT.mono {H H' : Heap} (h : HX H H') (hw : H.wf) : ∀ {t : Tm} {cs : List Value}, RepT H t cs → RepT H' t cs := by
  intro t cs r
  induction r with
  | mk k s u b v l a c cells h1 h2 h3 h4 h5 h6 h7 h8 h9 h10 h11 ih =>
    exact .mk k s u b v l a c cells h1 h2 h3 h4 h5 h6 h7 h8 h9 (fun i ad hi ha => ⟨(h10 i ad hi ha).1, h.load hw (h10 i ad hi ha).2⟩) ih
structure RepL (H : Heap) (l : List Tm) (a : Option Addr) (c : Nat) (cells : Nat → List Value) : Prop where
  len : l.length ≤ c
  cap : c ≤ maxLen
  nil : a = none → l = [] ∧ c = 0
  load : ∀ i ad, i < l.length → a = some ad → ad.spot = none ∧ H.load ⟨ad.block, ad.off + i * 6, none⟩ 6 = some (cells i)
  rep : ∀ i t, l[i]? = some t → RepT H t (cells i)
theorem RepL.mono {H H' : Heap} (h : HX H H') (hw : H.wf) {l : List Tm} {a : Option Addr} {c : Nat} {cells : Nat → List Value} (r : RepL H l a c cells) : RepL H' l a c cells :=
  ⟨r.len, r.cap, r.nil, fun i ad hi ha => ⟨(r.load i ad hi ha).1, h.load hw (r.load i ad hi ha).2⟩, fun i t ht => (r.rep i t ht).mono h hw⟩
theorem RepT.inv {H : Heap} {t : Tm} {cs : List Value} (r : RepT H t cs) : ∃ a c cells, cs = [.int .i64 t.kind, .string t.name, .string t.num, .int .u64 t.bits, .int .i64 t.var, .slice a t.args.length c] ∧
    i64 t.kind ∧ t.name.size ≤ maxLen ∧ t.num.size ≤ maxLen ∧ u64 t.bits ∧ i64 t.var ∧ RepL H t.args a c cells := by
  cases r with
  | mk k s u b v l a c cells h1 h2 h3 h4 h5 h6 h7 h8 h9 h10 h11 => exact ⟨a, c, cells, rfl, h1, h2, h3, h4, h5, h7, h8, h9, h10, h11⟩
theorem RepL.at {H : Heap} {l : List Tm} {a : Option Addr} {c : Nat} {cells : Nat → List Value} (r : RepL H l a c cells) {i : Nat} {t : Tm} (h : l[i]? = some t) :
    ∃ b o, a = some ⟨b, o, none⟩ ∧ H.load ⟨b, o + i * 6, none⟩ 6 = some (cells i) ∧ RepT H t (cells i) := by
  have hi : i < l.length := (List.getElem?_eq_some_iff.1 h).1
  cases a with
  | none => obtain ⟨rfl, _⟩ := r.nil rfl; simp at hi
  | some ad =>
    obtain ⟨h1, h2⟩ := r.load i ad hi rfl
    obtain ⟨b, o, s⟩ := ad
    obtain rfl : s = none := h1
    exact ⟨b, o, rfl, h2, r.rep i t h⟩
end Go.Hb
end

-- Sop
section
namespace Go.Hb
open Go Go.RowKit
def guardGet (tm : Tr Value) : Option Oper → Option Value
  | some ⟨some d, _, _, _, _, _⟩ => tm.get d
  | _ => some (.tuple #[])
theorem EvC.frame {P : Program} {ok : Ok} {x : Ctx} {c : Code} {tm : Tr Value} {ds : List Deferred} {H : Heap} {Q : Ex → St → Prop} (R : Tr Value → Prop) (h1 : R tm) (h2 : ∀ tm, R tm → EvC P ok x c ⟨tm, ds, H⟩ Q) : EvC P ok x c ⟨tm, ds, H⟩ Q := h2 tm h1
theorem LK.mono {P : Program} {ok : Ok} {x : Ctx} {d : Option Tmp} {tm : Tr Value} {ds : List Deferred} {H : Heap} {K L : Tr Value → List Deferred → Heap → Prop} {r : Option Dr} (h : LK P ok x d tm ds H K r) (k : ∀ tm ds H, K tm ds H → L tm ds H) : LK P ok x d tm ds H L r := by
  unfold LK at h ⊢
  split at h
  · exact k _ _ _ h
  · exact h.mono fun v H' hk => k _ _ _ hk
  · exact Upon.mono h fun _ hk => k _ _ _ hk
  · exact ⟨h.1, k _ _ _ h.2⟩
  · exact h
theorem EL.mono {P : Program} {ok : Ok} {x : Ctx} {ops : Array Oper} {K L : Tr Value → List Deferred → Heap → Prop} (k : ∀ tm ds H, K tm ds H → L tm ds H) : ∀ (os : List Oper) (tm : Tr Value) (ds : List Deferred) (H : Heap), EL P ok x ops os tm ds H K → EL P ok x ops os tm ds H L
  | [], tm, ds, H, h => k _ _ _ h
  | o :: os, tm, ds, H, h => by
    unfold EL at h ⊢
    split at h
    · exact h.mono fun tm ds H h => EL.mono k os tm ds H h
    · unfold GK at h ⊢
      split at h
      · split at h
        · rename_i hb; simp only [hb, if_true]; exact h.mono fun tm ds H h => EL.mono k os tm ds H h
        · rename_i hb; simp only [hb, if_false]; exact EL.mono k os _ _ _ h
      · exact EL.mono k os _ _ _ h
      · exact h
theorem EL.append {P : Program} {ok : Ok} {x : Ctx} {ops : Array Oper} {K : Tr Value → List Deferred → Heap → Prop} {b : List Oper} : ∀ (a : List Oper) (tm : Tr Value) (ds : List Deferred) (H : Heap), EL P ok x ops a tm ds H (fun tm ds H => EL P ok x ops b tm ds H K) → EL P ok x ops (a ++ b) tm ds H K
  | [], tm, ds, H, h => h
  | o :: os, tm, ds, H, h => by
    rw [List.cons_append]
    unfold EL at h ⊢
    split at h
    · exact h.mono fun tm ds H h => EL.append os tm ds H h
    · unfold GK at h ⊢
      split at h
      · split at h
        · rename_i hb; simp only [hb, if_true]; exact h.mono fun tm ds H h => EL.append os tm ds H h
        · rename_i hb; simp only [hb, if_false]; exact EL.append os _ _ _ h
      · exact EL.append os _ _ _ h
      · exact h
def LX (P : Program) (ok : Ok) (x : Ctx) (ops : Array Oper) (d : Option Tmp) (os : List Oper) (tm : Tr Value) (ds : List Deferred) (H : Heap) (K : Tr Value → List Deferred → Heap → Prop) (r : Option Dr) : Prop :=
  LK P ok x d tm ds H (fun tm ds H => EL P ok x ops os tm ds H K) r
def LG (P : Program) (ok : Ok) (x : Ctx) (ops : Array Oper) (o : Oper) (os : List Oper) (tm : Tr Value) (ds : List Deferred) (H : Heap) (K : Tr Value → List Deferred → Heap → Prop) (w : Bool) (g : Option Value) : Prop :=
  GK o.dst tm (LX P ok x ops o.dst os tm ds H K (dop P o (ev tm) H)) (EL P ok x ops os (putD tm o.dst undef) ds H K) w g
section
variable {P : Program} {ok : Ok} {x : Ctx} {ops : Array Oper} {os : List Oper} {tm : Tr Value} {ds : List Deferred} {H H' : Heap} {K : Tr Value → List Deferred → Heap → Prop} {d : Option Tmp} {op : Op} {ty : TypeId} {pos : String} {af : Array Edge} {j : Nat} {w : Bool}
end
section
variable (P : Program)
def dPick (c a b : Value) (H : Heap) : Option Dr := match c with | .bool true => some (.val a H) | .bool false => some (.val b H) | _ => none
def dBin (op : BinOp) (t : TypeId) (x y : Operand) (a b : Value) (H : Heap) : Option Dr :=
  match dnil P op t a b with
  | some v => some (.val v H)
  | none => match (flat a && (flat b && true)), pureRun P (do let r ← (do eqGuard op t x y a b; binOp op t a b); pure (Next.value r)) with
    | true, some (.value v) => match flat v with
      | true => some (.val v H)
      | false => none
    | _, _ => none
def dLoad (t : TypeId) (a : Value) (H : Heap) : Option Dr := match a with | .pointer (some ad) => (dload P t ad H).map (.val · H) | _ => none
def dStore (t : TypeId) (a v : Value) (H : Heap) : Option Dr :=
  match a with
  | .pointer (some ad) => if Nat.beq v.cells.size (P.cellsOf t) && (P.info? t).isSome then (H.store ad v.cells.toList).map (.val undef ·) else none
  | _ => none
def fldOf (t : TypeId) (f : Nat) : Option (Nat × TypeId) := match P.underlying t with | some (.struct fs) => (fs.toList[f]?).map fun fd => (fd.offset, fd.type) | _ => none
def dField (t : TypeId) (x : Value) (f : Nat) (H : Heap) : Option Dr :=
  match P.underlying t, x with
  | some (.struct fs), .agg cs => match fs.toList[f]? with
    | some fd => (dpart P fd.type cs fd.offset).map (.val · H)
    | none => none
  | _, _ => none
def dFieldAddr (t : TypeId) (x : Value) (f : Nat) (H : Heap) : Option Dr :=
  match P.underlying t, x with
  | some (.struct fs), .pointer (some a) => match fs.toList[f]? with
    | some fd => if a.spot.isNone && !(Nat.beq (P.cellsOf fd.type) 0) then some (.val (.pointer (some ⟨a.block, a.off + fd.offset, none⟩)) H) else none
    | none => none
  | _, _ => none
def dIndexAddr (t : TypeId) (x ix : Value) (H : Heap) : Option Dr :=
  match P.underlying t, x with
  | some (.slice e), .slice (some a) n _ => match intBetween ix (n - 1), Nat.beq n 0, a.spot, (P.info? e).isSome with
    | some i, false, none, true => some (.val (.pointer (some ⟨a.block, a.off + i * P.cellsOf e, none⟩)) H)
    | _, _, _, _ => none
  | some (.array n e), .pointer (some a) => match intBetween ix (n - 1), Nat.beq n 0, a.spot, (P.info? e).isSome with
    | some i, false, none, true => some (.val (.pointer (some ⟨a.block, a.off + i * P.cellsOf e, none⟩)) H)
    | _, _, _, _ => none
  | _, _ => none
def dLen (ts : Option TypeId) (x : Value) (H : Heap) : Option Dr :=
  match x with
  | .slice _ n _ => match ts.bind P.underlying with
    | some (.slice _) => some (.val (goInt n) H)
    | _ => none
  | .map (some r) => match ts.bind P.underlying, H.get r with
    | some (.map _ _), some (.map es _) => some (.val (goInt es.length) H)
    | _, _ => none
  | _ => none
def callable (f : FuncId) : Bool := match P.funcs[f]? with | some fn => fn.body.isSome && !(fn.name == "runtime.NumGoroutine") | none => false
end
section
variable {P : Program} {d : Option Tmp} {ty : TypeId} {pos : String} {af : Array Edge} {g : Option (Nat × Bool)} {ρ : Operand → Value} {H : Heap}
def cutC (cs : List Value) (o n : Nat) : Option (List Value) := let l := (cs.drop o).take n; if Nat.beq l.length n then some l else none
def dloadA (n : Nat) (l : Option (List Value)) (H : Heap) : Option Dr := (l.map fun l => Value.agg ⟨l⟩).map (.val · H)
def dload1 (l : Option (List Value)) (H : Heap) : Option Dr := match l with | some [v] => some (.val v H) | _ => none
theorem load_new {b o n : Nat} {B : Option Blk} : (H.new B).load ⟨b, o, none⟩ n = if b = H.next then (match B with | some (.ro cs _) | some (.row cs _) => cutC cs o n | _ => none) else H.load ⟨b, o, none⟩ n := by
  unfold Heap.load Heap.cells
  rw [Heap.get_new]
  by_cases h : b = H.next
  · rw [if_pos h, if_pos h]
    cases B with
    | none => rfl
    | some B => cases B <;> rfl
  · rw [if_neg h, if_neg h]
theorem next_put {i : Nat} {B : Option Blk} : (H.put i B).next = H.next := _root_.id rfl
theorem get_new {B : Option Blk} {j : Nat} : (H.new B).get j = if j = H.next then B else H.get j := Heap.get_new _ _ _
theorem get_put {B : Option Blk} {i j : Nat} : (H.put i B).get j = if j = i then B else H.get j := Heap.get_put _ _ _ _
def dStoreB (ad : Addr) (vs : List Value) (H : Heap) : Option Blk → Option Dr
  | some (.row cs e) => if ad.off + vs.length ≤ cs.length ∧ vs.all one = true then some (.val undef (H.put ad.block (some (.row (splice cs ad.off vs) e)))) else none
  | _ => none
def dStoreIf (c : Bool) (ad : Addr) (vs : List Value) (H : Heap) (B : Option Blk) : Option Dr := if c = true then dStoreB ad vs H B else none
theorem splice_zero {cs vs : List Value} : splice cs 0 vs = vs ++ cs.drop vs.length := by cases cs <;> rfl
def dBox (e : TypeId) (v : Value) (H : Heap) : Option Dr := if v.cells.toList.all one then some (.val (.pointer (some ⟨H.next, 0, none⟩)) (H.new (some (.row v.cells.toList e)))) else none
def zerosOf (P : Program) (e : TypeId) : Option (List Value) := match pureRun P (zeroValue e) with | some z => if flat z && z.cells.toList.all one then some z.cells.toList else none | none => none
def dAlloc (e : TypeId) (H : Heap) : Option (List Value) → Option Dr
  | some cs => some (.val (.pointer (some ⟨H.next, 0, none⟩)) (H.new (some (.row cs e))))
  | none => none
def dOut (fl : Bool) (r : Option Next) (H : Heap) : Option Dr :=
  match fl, r with
  | true, some (.value v) => match flat v with
    | true => some (.val v H)
    | false => none
  | _, _ => none
def dLn (P : Program) (t ty : TypeId) (v : Value) (H : Heap) : Option Dr :=
  match v with
  | .slice _ n _ => match P.underlying t with
    | some (.slice _) => some (.val (goInt n) H)
    | _ => none
  | .map (some r) => match P.underlying t, H.get r with
    | some (.map _ _), some (.map es _) => some (.val (goInt es.length) H)
    | _, _ => none
  | v => dOut (flat v && true) (pureRun P (do let r ← Builtin.len_ #[t] ty #[v]; pure (Next.value r))) H
def dUn (P : Program) (op : UnOp) (v : Value) (H : Heap) : Option Dr := dOut (flat v && true) (pureRun P (do let r ← Op.unary op v; pure (Next.value r))) H
def dExt (t : Value) (i : Nat) (H : Heap) : Option Dr := match t with | .tuple vs => (vs.toList[i]?).map (.val · H) | _ => none
def dMin (P : Program) (ats : Array TypeId) (ty : TypeId) (v w : Value) (H : Heap) : Option Dr := dOut (flat v && (flat w && true)) (pureRun P (do let r ← Builtin.min_ ats ty #[v, w]; pure (Next.value r))) H
end
end Go.Hb
end

-- Fm
section
namespace Go.Hb
open Go Go.RowKit
def o1 (P : Program) (o : Oper) (ρ : Operand → Value) (H : Heap) : Option Dr :=
  match o.op with
  | .pick c a b => match ρ c with
    | .bool true => some (.val (ρ a) H)
    | .bool false => some (.val (ρ b) H)
    | _ => none
  | _ => none
def o2 (P : Program) (o : Oper) (ρ : Operand → Value) (H : Heap) : Option Dr :=
  match o.op with
  | .alloc e => match pureRun P (zeroValue e) with
    | some z => if flat z && z.cells.toList.all one then some (.val (.pointer (some ⟨H.next, 0, none⟩)) (H.new (some (.row z.cells.toList e)))) else none
    | none => none
  | _ => none
def o3 (P : Program) (o : Oper) (ρ : Operand → Value) (H : Heap) : Option Dr :=
  match o.op with
  | .box e x => let v := ρ x
    if v.cells.toList.all one then some (.val (.pointer (some ⟨H.next, 0, none⟩)) (H.new (some (.row v.cells.toList e)))) else none
  | _ => none
def o4 (P : Program) (o : Oper) (ρ : Operand → Value) (H : Heap) : Option Dr :=
  match o.op with
  | .build t parts => if parts.toList.all (fun p => (ρ p.2).cells.toList.all one) && zflat P t then
      match pureRun P (Instr.build t (parts.map fun (i, x) => (i, ρ x))) with
      | some v => some (.val v H)
      | none => none
    else none
  | _ => none
def o5 (P : Program) (o : Oper) (ρ : Operand → Value) (H : Heap) : Option Dr :=
  match o.op with
  | .buildSlice t len parts => match P.underlying t with
    | some (.slice e) => match P.info? e with
      | some i => match i.zero with
        | some z =>
          let size := i.size
          if len ≤ most ∧ len * size ≤ most ∧ flat z = true ∧ z.cells.size = size ∧ z.cells.toList.all one = true ∧ parts.toList.all (fun p => (ρ p.2).cells.toList.all one) = true then
            match Instr.fill (fun i => some (i * size, size)) ((Array.range (len * size)).map (z.cells[· % z.cells.size]!)) (parts.toList.map fun p => (p.1, ρ p.2)) with
            | some cells => some (.val (.slice (some ⟨H.next, 0, none⟩) len len) (H.new (some (.row cells.toList e))))
            | none => none
          else none
        | none => none
      | none => none
    | _ => none
  | _ => none
def o6 (P : Program) (o : Oper) (ρ : Operand → Value) (H : Heap) : Option Dr :=
  match o.op with
  | .load t a => match ρ a with
    | .pointer (some ad) => (dload P t ad H).map (.val · H)
    | _ => none
  | _ => none
def o7 (P : Program) (o : Oper) (ρ : Operand → Value) (H : Heap) : Option Dr :=
  match o.op with
  | .store t a x => match ρ a with
    | .pointer (some ad) => let v := ρ x
      if Nat.beq v.cells.size (P.cellsOf t) && (P.info? t).isSome then (H.store ad v.cells.toList).map (.val undef ·) else none
    | _ => none
  | _ => none
def o8 (P : Program) (o : Oper) (ρ : Operand → Value) (H : Heap) : Option Dr :=
  match o.op with
  | .nilCheck x => match ρ x with
    | .pointer (some a) => some (.val (.pointer (some a)) H)
    | .func (.func f) a b => some (.val (.func (.func f) a b) H)
    | _ => none
  | _ => none
def o9 (P : Program) (o : Oper) (ρ : Operand → Value) (H : Heap) : Option Dr :=
  match o.op with
  | .binOp op t x y _ => match dnil P op t (ρ x) (ρ y) with
    | some v => some (.val v H)
    | none => dflat P o ρ H
  | _ => none
def o11 (P : Program) (o : Oper) (ρ : Operand → Value) (H : Heap) : Option Dr :=
  match o.op with
  | .convert src dst x => match P.underlying src, P.underlying dst, ρ x with
    | some (.slice e), some .string, .slice a n c => match P.underlying e with
      | some (.int .u8) => (dbytes (.slice a n c) H).map (.val · H)
      | _ => none
    | _, some (.slice _), _ => none
    | _, _, _ => dflat P o ρ H
  | _ => none
def o12 (P : Program) (o : Oper) (ρ : Operand → Value) (H : Heap) : Option Dr :=
  match o.op with
  | .makeInterface t x => match P.underlying t with
    | some (.interface _) => none
    | some _ => some (.val (.iface t (ρ x)) H)
    | none => none
  | _ => none
def o13 (P : Program) (o : Oper) (ρ : Operand → Value) (H : Heap) : Option Dr :=
  match o.op with
  | .makeFunc fn first captured => match fn with
    | .func f => some (.val (.func (.func f) (first.map ρ) (captured.map ρ)) H)
    | _ => none
  | _ => none
def o14 (P : Program) (o : Oper) (ρ : Operand → Value) (H : Heap) : Option Dr :=
  match o.op with
  | .makeMap _ none => some (.val (.map (some H.next)) (H.new (some (.map [] 0))))
  | _ => none
def o15 (P : Program) (o : Oper) (ρ : Operand → Value) (H : Heap) : Option Dr :=
  match o.op with
  | .makeSlice t l c => match P.underlying t with
    | some (.slice e) => match P.info? e, intBetween (ρ c) most with
      | some i, some cap => match i.zero, intBetween (ρ l) cap with
        | some z, some len =>
          let size := i.size
          if flat z = true ∧ z.cells.size = size ∧ i.bytes ≤ 4096 ∧ z.cells.toList.all one = true then
            some (.val (.slice (some ⟨H.next, 0, none⟩) len cap) (H.new (some (.row ((List.range (cap * size)).map (z.cells[· % z.cells.size]!)) e))))
          else none
        | _, _ => none
      | _, _ => none
    | _ => none
  | _ => none
def o16 (P : Program) (o : Oper) (ρ : Operand → Value) (H : Heap) : Option Dr :=
  match o.op with
  | .slice t x lo hi mx => match ρ x with
    | .string _ => dflat P o ρ H
    | v => dslice P t v (lo.map ρ) (hi.map ρ) (mx.map ρ) H
  | _ => none
def o17 (P : Program) (o : Oper) (ρ : Operand → Value) (H : Heap) : Option Dr :=
  match o.op with
  | .fieldAddr s x f => match P.underlying s, ρ x with
    | some (.struct fs), .pointer (some a) => match fs.toList[f]? with
      | some fd => if a.spot.isNone && !(Nat.beq (P.cellsOf fd.type) 0) then some (.val (.pointer (some ⟨a.block, a.off + fd.offset, none⟩)) H) else none
      | none => none
    | _, _ => none
  | _ => none
def o18 (P : Program) (o : Oper) (ρ : Operand → Value) (H : Heap) : Option Dr :=
  match o.op with
  | .field t x f => match P.underlying t, ρ x with
    | some (.struct fs), .agg cs => match fs.toList[f]? with
      | some fd => (dpart P fd.type cs fd.offset).map (.val · H)
      | none => none
    | _, _ => none
  | _ => none
def o19 (P : Program) (o : Oper) (ρ : Operand → Value) (H : Heap) : Option Dr :=
  match o.op with
  | .indexAddr t x ix => match P.underlying t, ρ x with
    | some (.slice e), .slice (some a) n _ => match intBetween (ρ ix) (n - 1), Nat.beq n 0, a.spot, (P.info? e).isSome with
      | some i, false, none, true => some (.val (.pointer (some ⟨a.block, a.off + i * P.cellsOf e, none⟩)) H)
      | _, _, _, _ => none
    | some (.array n e), .pointer (some a) => match intBetween (ρ ix) (n - 1), Nat.beq n 0, a.spot, (P.info? e).isSome with
      | some i, false, none, true => some (.val (.pointer (some ⟨a.block, a.off + i * P.cellsOf e, none⟩)) H)
      | _, _, _, _ => none
    | _, _ => none
  | _ => none
def o20 (P : Program) (o : Oper) (ρ : Operand → Value) (H : Heap) : Option Dr :=
  match o.op with
  | .index t x ix => match P.underlying t, ρ x with
    | some (.array n e), .agg cs => match intBetween (ρ ix) (n - 1), Nat.beq n 0 with
      | some i, false => (dpart P e cs (i * P.cellsOf e)).map (.val · H)
      | _, _ => none
    | _, _ => dflat P o ρ H
  | _ => none
def o24 (P : Program) (o : Oper) (ρ : Operand → Value) (H : Heap) : Option Dr :=
  match o.op with
  | .typeAssert x xt at_ ok => match ρ x with
    | .iface t v => (dassert P t v at_ ok).map (.val · H)
    | _ => dflat P o ρ H
  | _ => none
def o25 (P : Program) (o : Oper) (ρ : Operand → Value) (H : Heap) : Option Dr :=
  match o.op with
  | .extract t ix => match ρ t with
    | .tuple vs => (vs.toList[ix]?).map (.val · H)
    | _ => none
  | _ => none
def o26 (P : Program) (o : Oper) (ρ : Operand → Value) (H : Heap) : Option Dr :=
  match o.op with
  | .range t x => match P.underlying t, ρ x with
    | some .string, .string s => some (.val (.pointer (some ⟨H.next, 0, none⟩)) (H.new (some (.siter s 0))))
    | _, _ => none
  | _ => none
def o27 (P : Program) (o : Oper) (ρ : Operand → Value) (H : Heap) : Option Dr :=
  match o.op with
  | .next it true => match ρ it with
    | .pointer (some ⟨r, 0, none⟩) => match H.get r with
      | some (.siter s pos) =>
        if pos < s.size then
          let (c, width) := Utf8.decode s pos
          some (.val (.tuple #[.bool true, goInt pos, .int .i32 c]) (H.put r (some (.siter s (pos + width)))))
        else some (.val (.tuple #[.bool false]) H)
      | _ => none
    | _ => none
  | _ => none
def o28 (P : Program) (o : Oper) (ρ : Operand → Value) (H : Heap) : Option Dr :=
  match o.op with
  | .call c => match c.callee with
    | .builtin b => match b, c.args.toList with
      | .len, [x] => match ρ x with
        | .slice _ n _ => match (c.argTypes[0]?).bind P.underlying with
          | some (.slice _) => some (.val (goInt n) H)
          | _ => none
        | .map (some r) => match (c.argTypes[0]?).bind P.underlying, H.get r with
          | some (.map _ _), some (.map es _) => some (.val (goInt es.length) H)
          | _, _ => none
        | _ => dflat P o ρ H
      | .append, [s, x] => match c.argTypes.toList with
        | [t, xt] => match dzeros P t xt (ρ s) (ρ x) H with
          | some r => some r
          | none => dappend P c.argTypes (ρ s) (ρ x) H
        | _ => none
      | .cap, _ => dflat P o ρ H
      | .copy, [d, x] => dcopy P c.argTypes (ρ d) (ρ x) H
      | .clear, [x] => dclear P c.argTypes (ρ x) H
      | .delete, [m, k] => match c.argTypes[0]? with
        | some t => ddelete P t (ρ m) (ρ k) H
        | none => none
      | .recover, [] => some .recov
      | .min, _ | .max, _ => dflat P o ρ H
      | _, _ => none
    | .value f => match ρ f with
      | .func (.func f) first captured =>
        match dcall1 P f (first.toList ++ c.args.toList.map ρ ++ captured.toList) with
        | some r => some r
        | none => dflat P o ρ H
      | .func (.yield l) first _ => some (.yield l (first.toList ++ c.args.toList.map ρ))
      | _ => none
    | _ => none
  | _ => none
def o29 (P : Program) (o : Oper) (ρ : Operand → Value) (H : Heap) : Option Dr :=
  match o.op with
  | .defer c => match c.callee with
    | .value f => match ρ f with
      | .func (.func f) first captured => some (.dfr { target := .fn (.func f) captured, args := first ++ c.args.map ρ })
      | _ => none
    | _ => none
  | _ => none
def o30 (P : Program) (o : Oper) (ρ : Operand → Value) (H : Heap) : Option Dr :=
  match o.op with
  | .panic x => match ρ x with
    | .iface t v => some (.panic (.iface t v))
    | _ => none
  | _ => none
def fInt (op : BinOp) (k : IntKind) (a b : Int) : Option Value :=
  match op with
  | .add => some (.int k (k.wrap (a + b)))
  | .sub => some (.int k (k.wrap (a - b)))
  | .mul => some (.int k (k.wrap (a * b)))
  | .eql => some (.bool (a == b))
  | .neq => some (.bool (a != b))
  | .lss => some (.bool (decide (a < b)))
  | .leq => some (.bool (decide (a ≤ b)))
  | .gtr => some (.bool (decide (a > b)))
  | .geq => some (.bool (decide (a ≥ b)))
  | _ => none
def fop0 (P : Program) (o : Oper) (ρ : Operand → Value) (H : Heap) : Option Dr :=
  match o.op with
  | .move x | .assign x => some (.val (ρ x) H)
  | .pick c a b => o1 P o ρ H
  | .alloc e => o2 P o ρ H
  | .box e x => o3 P o ρ H
  | .build t parts => o4 P o ρ H
  | .buildSlice t len parts => o5 P o ρ H
  | .load t a => o6 P o ρ H
  | .store t a x => o7 P o ρ H
  | .nilCheck x => o8 P o ρ H
  | .binOp op t x y _ => o9 P o ρ H
  | .unOp .. => dflat P o ρ H
  | .convert src dst x => o11 P o ρ H
  | .makeInterface t x => o12 P o ρ H
  | .makeFunc fn first captured => o13 P o ρ H
  | .makeMap _ none => o14 P o ρ H
  | .makeSlice t l c => o15 P o ρ H
  | .slice t x lo hi mx => o16 P o ρ H
  | .fieldAddr s x f => o17 P o ρ H
  | .field t x f => o18 P o ρ H
  | .indexAddr t x ix => o19 P o ρ H
  | .index t x ix => o20 P o ρ H
  | .lookup t m k ok => dlookup P t (ρ m) (ρ k) ok H
  | .mapUpdate t m k x => dupdate P t (ρ m) (ρ k) (ρ x) H
  | .insert t m k x => dupdate P t (ρ m) (ρ k) (ρ x) H
  | .typeAssert x xt at_ ok => o24 P o ρ H
  | .extract t ix => o25 P o ρ H
  | .range t x => o26 P o ρ H
  | .next it true => o27 P o ρ H
  | .call c => o28 P o ρ H
  | .defer c => o29 P o ρ H
  | .panic x => o30 P o ρ H
  | _ => none
theorem fop0_eq (P : Program) (o : Oper) (ρ : Operand → Value) (H : Heap) : fop0 P o ρ H = dop P o ρ H := by
  obtain ⟨dst, op, ty, pos, af, g⟩ := o
  cases op <;> first | rfl | (rename_i a b; cases b <;> rfl)
def fBin (P : Program) (o : Oper) (ρ : Operand → Value) (H : Heap) (op : BinOp) (x y : Value) : Option Dr :=
  match x, y with
  | .int k a, .int k' b => match Nat.beq k.ctorIdx k'.ctorIdx, fInt op k a b with
    | true, some v => some (.val v H)
    | _, _ => fop0 P o ρ H
  | _, _ => fop0 P o ρ H
def fop (P : Program) (o : Oper) (ρ : Operand → Value) (H : Heap) : Option Dr :=
  match o.op with
  | .binOp op _ x y _ => fBin P o ρ H op (ρ x) (ρ y)
  | _ => fop0 P o ρ H
theorem fBin_eq {P : Program} {d : Option Tmp} {ty : TypeId} {pos : String} {af : Array Edge} {g : Option (Nat × Bool)} {ρ : Operand → Value} {H : Heap} {op : BinOp} {t u : TypeId} {x y : Operand} :
    fBin P ⟨d, .binOp op t x y u, ty, pos, af, g⟩ ρ H op (ρ x) (ρ y) = dop P ⟨d, .binOp op t x y u, ty, pos, af, g⟩ ρ H := by
  unfold fBin
  split
  · rename_i k a k' b hx hy
    split
    · rename_i v hk hv
      rw [Nat.beq_eq] at hk
      have hkk : k = k' := by cases k <;> cases k' <;> first | rfl | (simp [IntKind.ctorIdx] at hk)
      subst hkk
      show _ = dBin P op t x y (ρ x) (ρ y) H
      rw [hx, hy]
      unfold fInt at hv
      split at hv <;> cases hv
      all_goals (simp [dBin, dnil, flat, eqGuard, binOp, Op.intArith, Op.intCmp, Sem.bind]; rfl)
    · exact fop0_eq _ _ _ _
  · exact fop0_eq _ _ _ _
theorem fop_eq (P : Program) (o : Oper) (ρ : Operand → Value) (H : Heap) : fop P o ρ H = dop P o ρ H := by
  obtain ⟨dst, op, ty, pos, af, g⟩ := o
  cases op <;> first | exact fBin_eq | (unfold fop; exact fop0_eq _ _ _ _)
structure Rec where
  code : Ctx → Code → St → Option (Ex × St)
  seq : Ctx → List Code → St → Option (Ex × St)
  ops : Ctx → Array Oper → List Nat → St → Option (Ex × St)
  op1 : Ctx → Oper → (Operand → Value) → List Deferred → Heap → Option R1
  draw : Ctx → Array Oper → Array Nat → List Nat → Nat → List Nat → Nat → List Heap → Tr Value → List Deferred → Option St
  stage : Ctx → Array Oper → Array Nat → List Nat → Nat → List Nat → Nat → List Heap → Tr Value → List Deferred → Option St
  call : FuncId → List Value → Heap → Option (En × Heap)
  leave : Func → Tr Value → List Deferred → Option (List PanicEntry) → Heap → Option (En × Heap)
  round : Nat → List Value → Heap → Option (Value × Heap)
def codeF (P : Program) (ok : Ok) (rr : Rec) : Ctx → Code → St → Option (Ex × St)
  | x, c, st =>
    match c with
    | .skip | .label _ => some (.normal, st)
    | .region _ ops false => rr.ops x ops (List.range ops.size) st
    | .region _ ops true =>
      let effs := (List.range ops.size).filter fun i => match ops[i]? with | some o => isEff o | none => false
      match rr.draw x ops (Region.before ops) effs st.H.next effs 0 [⟨st.H.next + ops.size, st.H.t⟩] st.tm st.ds with
      | some st1 => some (.normal, st1)
      | none => none
    | .seq a b => match rr.code x a st with
      | some (.normal, st1) => rr.code x b st1
      | r => r
    | .cond c a b => match ev st.tm c with
      | .bool true => rr.code x a st
      | .bool false => rr.code x b st
      | _ => none
    | .block id b => match rr.code x b st with
      | some (.exit j, st1) => if Nat.beq j id then some (.normal, st1) else some (.exit j, st1)
      | r => r
    | .scope b => rr.code x b st
    | .loop b => match rr.code x b st with
      | some (.normal, st1) => rr.code x (.loop b) st1
      | r => r
    | .exit id => some (.exit id, st)
    | .ret => some (.ret, st)
    | .rangeFunc f params assign body =>
      match x.round, ev st.tm f with
      | none, .func (.func g) first captured =>
        if (dcall1 P g []).isNone then none else
        let dl := st.H.next
        let H1 := st.H.new (some .dfr)
        let l := H1.next
        let H2 := H1.new (some (.loop .ready none x.fn st.tm params.toList assign body dl))
        match rr.call g (first.toList ++ [.func (.yield l) #[] #[]] ++ captured.toList) H2 with
        | some (.ret _, H3) => match H3.get l with
          | some (.loop s pend fn tm ps as bo dd) => match s with
            | .busy => none
            | _ =>
              let H4 := H3.put l (some (.loop .exhausted pend fn tm ps as bo dd))
              let st1 : St := ⟨st.tm, { target := .collected dl, args := #[] } :: st.ds, H4⟩
              match pend with
              | none => some (.normal, st1)
              | some c => rr.code x c st1
          | _ => none
        | _ => none
      | _, _ => none
    | _ => none
def seqF (P : Program) (ok : Ok) (rr : Rec) : Ctx → List Code → St → Option (Ex × St)
  | _, [], st => some (.normal, st)
  | x, c :: cs, st => match rr.code x c st with
    | some (.normal, st1) => rr.seq x cs st1
    | r => r
def opsF (P : Program) (ok : Ok) (rr : Rec) : Ctx → Array Oper → List Nat → St → Option (Ex × St)
  | _, _, [], st => some (.normal, st)
  | x, ops, i :: rest, st =>
    match ops[i]? with
    | none => none
    | some o => match dwanted ops st.tm o with
      | none => none
      | some false => rr.ops x ops rest (st.put o.dst undef st.H)
      | some true => match rr.op1 x o (ev st.tm) st.ds st.H with
        | some (.val v ds H) => rr.ops x ops rest (St.put ⟨st.tm, ds, st.H⟩ o.dst v H)
        | some (.panic ch H) => some (.panic ch, ⟨st.tm, st.ds, H⟩)
        | none => none
def op1F (P : Program) (ok : Ok) (rr : Rec) : Ctx → Oper → (Operand → Value) → List Deferred → Heap → Option R1
  | x, o, ρ, ds, H =>
    match fop P o ρ H with
    | some (.val v H') => some (.val v ds H')
    | some (.call f args) => match rr.call f args H with
      | some (.ret v, H') => some (.val v ds H')
      | some (.panic ch, H') => some (.panic ch H')
      | none => none
    | some (.yield l args) => match rr.round l args H with
      | some (v, H') => some (.val v ds H')
      | none => none
    | some (.dfr d) => match x.round with
      | none => some (.val undef (d :: ds) H)
      | some _ => none
    | some (.panic v) => some (.panic [{ v, recovered := false }] H)
    | _ => none
def drawF (P : Program) (ok : Ok) (rr : Rec) : Ctx → Array Oper → Array Nat → List Nat → Nat → List Nat → Nat → List Heap → Tr Value → List Deferred → Option St
  | x, ops, b, effs, base, es, done, hs, tm, ds =>
    match twin b es with
    | none => rr.stage x ops b effs base es done hs tm ds
    | some (e, f) => match rr.stage x ops b effs base [e, f] done hs tm ds, rr.stage x ops b effs base [f, e] done hs tm ds with
      | some st, some st' => match dtwin P ops b effs base done hs tm e f with
        | some (p, q) => if agree ops base p q st st' then some st else none
        | none => none
      | _, _ => none
def stageF (P : Program) (ok : Ok) (rr : Rec) : Ctx → Array Oper → Array Nat → List Nat → Nat → List Nat → Nat → List Heap → Tr Value → List Deferred → Option St
  | x, ops, b, effs, base, es, done, hs, tm, ds =>
    match hs with
    | [] => none
    | G :: _ => match es with
      | [] => match dnon P ops b effs base hs ((List.range ops.size).filter fun i => !done.testBit i && !effs.contains i) tm G with
        | some (tm1, H1) => some ⟨tm1, ds, H1⟩
        | none => none
      | e :: es =>
        let m := b.getD e 0
        match dnon P ops b effs base hs (pending (List.range ops.size) effs m done) tm G with
        | none => none
        | some (tm1, H1) => match ops[e]? with
          | none => none
          | some o =>
            let done1 := done ||| m ||| 2 ^ e
            match dwanted ops tm1 o with
            | none => none
            | some false => rr.draw x ops b effs base es done1 (H1 :: hs) (match o.dst with | some d => tm1.put d (some undef) | none => tm1) ds
            | some true => match rr.op1 x o (ev tm1) ds H1 with
              | some (.val v ds1 H2) => rr.draw x ops b effs base es done1 (H2 :: hs) (match o.dst with | some d => tm1.put d (some v) | none => tm1) ds1
              | _ => none
def callF (P : Program) (ok : Ok) (rr : Rec) : FuncId → List Value → Heap → Option (En × Heap)
  | f, args, H =>
    match ok.K f args H with
    | some r => some r
    | none => match P.funcs[f]?, ok.testBit f with
      | some fn, true => match fn.body with
        | some c => match rr.code ⟨f, none⟩ c ⟨initTm 0 args .nil, [], H⟩ with
          | some (.normal, st) | some (.ret, st) => rr.leave fn st.tm st.ds none st.H
          | some (.panic ch, st) => rr.leave fn st.tm st.ds (some ch) st.H
          | _ => none
        | none => none
      | _, _ => none
def leaveF (P : Program) (ok : Ok) (rr : Rec) : Func → Tr Value → List Deferred → Option (List PanicEntry) → Heap → Option (En × Heap)
  | fn, tm, [], none, H => match dres P fn tm H with
    | some v => some (.ret v, H)
    | none => none
  | _, _, [], some ch, H => some (.panic ch, H)
  | fn, tm, d :: ds, m, H => match d.target with
    | .collected l => match H.get l with
      | some .dfr => rr.leave fn tm ds m (H.put l none)
      | _ => none
    | .fn (.func g) captured => match P.funcs[g]?, ok.testBit g && (dcall1 P g []).isSome with
      | some gn, true => match gn.body with
        | some c => match headRegion c with
          | some (ops, rest) => match ops[0]? with
            | some o => if isRecover o then
                let r := drecov m
                let st0 := St.put ⟨initTm 0 (d.args.toList ++ captured.toList) .nil, [], H⟩ o.dst r.1 H
                match dplain P ops ((List.range ops.size).drop 1) st0.tm H with
                | some (tm1, H1) => match rr.seq ⟨g, none⟩ rest ⟨tm1, [], H1⟩ with
                  | some (.normal, st2) | some (.ret, st2) => if st2.ds.isEmpty && gn.results.isEmpty then rr.leave fn tm ds (dsettle r.2) st2.H else none
                  | _ => none
                | none => none
              else none
            | none => none
          | none => none
        | none => none
      | _, _ => none
    | _ => none
def roundF (P : Program) (ok : Ok) (rr : Rec) : Nat → List Value → Heap → Option (Value × Heap)
  | l, args, H => match H.get l with
    | some (.loop .ready pend fn tm ps as bo dd) =>
      if Nat.beq args.length ps.length then
        let tm1 := (ps.zip args).foldl (fun t p => t.put p.1 (some p.2)) tm
        match rr.code ⟨fn, some l⟩ as ⟨tm1, [], H⟩ with
        | some (.normal, st1) => match st1.H.get l with
          | some (.loop .ready pend1 fn1 tm1 ps1 as1 bo1 d1) =>
            match rr.code ⟨fn, some l⟩ bo ⟨st1.tm, st1.ds, st1.H.put l (some (.loop .busy pend1 fn1 tm1 ps1 as1 bo1 d1))⟩ with
            | some (.normal, st2) => dendRound l none (.bool true) .ready st2.H
            | some (.ret, st2) => dendRound l (some .ret) (.bool false) .done st2.H
            | some (.exit id, st2) => dendRound l (some (.exit id)) (.bool false) .done st2.H
            | _ => none
          | _ => none
        | _ => none
      else none
    | _ => none
def Rec.none : Rec := ⟨fun _ _ _ => Option.none, fun _ _ _ => Option.none, fun _ _ _ _ => Option.none, fun _ _ _ _ _ => Option.none, fun _ _ _ _ _ _ _ _ _ _ => Option.none, fun _ _ _ _ _ _ _ _ _ _ => Option.none, fun _ _ _ => Option.none, fun _ _ _ _ _ => Option.none, fun _ _ _ => Option.none⟩
def Rec.next (P : Program) (ok : Ok) (r : Rec) : Rec := ⟨codeF P ok r, seqF P ok r, opsF P ok r, op1F P ok r, drawF P ok r, stageF P ok r, callF P ok r, leaveF P ok r, roundF P ok r⟩
noncomputable def frun (P : Program) (ok : Ok) (n : Nat) : Rec := Nat.rec Rec.none (fun _ r => Rec.next P ok r) n
theorem fop_fun (P : Program) : fop P = dop P := by funext o ρ H; exact fop_eq P o ρ H
theorem codeF_eq (P : Program) (ok : Ok) (n : Nat) : codeF P ok ⟨dcode P ok n, dseq P ok n, dops P ok n, dop1 P ok n, ddraw P ok n, dstage P ok n, dcall P ok n, dleave P ok n, dround P ok n⟩ = dcode P ok (n + 1) := by
  funext a0 a1 a2
  cases a1 with
  | region i o d => cases d <;> (simp only [codeF, dcode]; try rfl)
  | _ => simp only [codeF, dcode]; try rfl
theorem seqF_eq (P : Program) (ok : Ok) (n : Nat) : seqF P ok ⟨dcode P ok n, dseq P ok n, dops P ok n, dop1 P ok n, ddraw P ok n, dstage P ok n, dcall P ok n, dleave P ok n, dround P ok n⟩ = dseq P ok (n + 1) := by
  funext a0 a1 a2
  cases a1 <;> (simp only [seqF, dseq]; try rfl)
theorem opsF_eq (P : Program) (ok : Ok) (n : Nat) : opsF P ok ⟨dcode P ok n, dseq P ok n, dops P ok n, dop1 P ok n, ddraw P ok n, dstage P ok n, dcall P ok n, dleave P ok n, dround P ok n⟩ = dops P ok (n + 1) := by
  funext a0 a1 a2 a3
  cases a2 <;> (simp only [opsF, dops]; try rfl)
theorem op1F_eq (P : Program) (ok : Ok) (n : Nat) : op1F P ok ⟨dcode P ok n, dseq P ok n, dops P ok n, dop1 P ok n, ddraw P ok n, dstage P ok n, dcall P ok n, dleave P ok n, dround P ok n⟩ = dop1 P ok (n + 1) := by
  funext a0 a1 a2 a3 a4
  simp only [op1F, dop1, fop_fun]; try rfl
theorem drawF_eq (P : Program) (ok : Ok) (n : Nat) : drawF P ok ⟨dcode P ok n, dseq P ok n, dops P ok n, dop1 P ok n, ddraw P ok n, dstage P ok n, dcall P ok n, dleave P ok n, dround P ok n⟩ = ddraw P ok (n + 1) := by
  funext a0 a1 a2 a3 a4 a5 a6 a7 a8 a9
  simp only [drawF, ddraw]; try rfl
theorem stageF_eq (P : Program) (ok : Ok) (n : Nat) : stageF P ok ⟨dcode P ok n, dseq P ok n, dops P ok n, dop1 P ok n, ddraw P ok n, dstage P ok n, dcall P ok n, dleave P ok n, dround P ok n⟩ = dstage P ok (n + 1) := by
  funext a0 a1 a2 a3 a4 a5 a6 a7 a8 a9
  cases a7 with
  | nil => simp only [stageF, dstage]; try rfl
  | cons G gs => cases a5 <;> (simp only [stageF, dstage]; try rfl)
theorem callF_eq (P : Program) (ok : Ok) (n : Nat) : callF P ok ⟨dcode P ok n, dseq P ok n, dops P ok n, dop1 P ok n, ddraw P ok n, dstage P ok n, dcall P ok n, dleave P ok n, dround P ok n⟩ = dcall P ok (n + 1) := by
  funext a0 a1 a2
  simp only [callF, dcall]; try rfl
theorem leaveF_eq (P : Program) (ok : Ok) (n : Nat) : leaveF P ok ⟨dcode P ok n, dseq P ok n, dops P ok n, dop1 P ok n, ddraw P ok n, dstage P ok n, dcall P ok n, dleave P ok n, dround P ok n⟩ = dleave P ok (n + 1) := by
  funext a0 a1 a2 a3 a4
  cases a2 with
  | nil => cases a3 <;> (simp only [leaveF, dleave]; try rfl)
  | cons d ds => simp only [leaveF, dleave]; try rfl
theorem roundF_eq (P : Program) (ok : Ok) (n : Nat) : roundF P ok ⟨dcode P ok n, dseq P ok n, dops P ok n, dop1 P ok n, ddraw P ok n, dstage P ok n, dcall P ok n, dleave P ok n, dround P ok n⟩ = dround P ok (n + 1) := by
  funext a0 a1 a2
  simp only [roundF, dround]; try rfl
theorem frun_eq (P : Program) (ok : Ok) : ∀ n, frun P ok n = ⟨dcode P ok n, dseq P ok n, dops P ok n, dop1 P ok n, ddraw P ok n, dstage P ok n, dcall P ok n, dleave P ok n, dround P ok n⟩
  | 0 => by
    show Rec.none = _
    unfold Rec.none
    congr 1 <;> funext <;> first | rw [dcode] | rw [dseq] | rw [dops] | rw [dop1] | rw [ddraw] | rw [dstage] | rw [dcall] | rw [dleave] | rw [dround]
  | n + 1 => by
    show Rec.next P ok (frun P ok n) = _
    rw [frun_eq P ok n, Rec.next]
    rw [codeF_eq, seqF_eq, opsF_eq, op1F_eq, drawF_eq, stageF_eq, callF_eq, leaveF_eq, roundF_eq]
end Go.Hb
end

-- Ck
section
namespace Go.Hb
open Go Go.RowKit
namespace Q
def N {α : Type} (l : Tr α) (v : α) (r : Tr α) : Tr α := .node l (some v) r
def M {α : Type} (l r : Tr α) : Tr α := .node l none r
def Z {α : Type} : Tr α := .nil
def L {α : Type} (v : α) : Tr α := .node .nil (some v) .nil
def i (n : Int) : Value := .int .i64 n
def z : Value := .int .i64 0
def b (n : Nat) : Value := .int .u8 n
def t : Value := .bool true
def f : Value := .bool false
def s (l : List Nat) : Value := .string ⟨⟨l.map UInt8.ofNat⟩⟩
def sn : Value := .string .empty
def p (a o : Nat) : Value := .pointer (some ⟨a, o, none⟩)
def pn : Value := .pointer none
def l (a o n c : Nat) : Value := .slice (some ⟨a, o, none⟩) n c
def ln : Value := .slice none 0 0
def a (cs : List Value) : Value := .agg ⟨cs⟩
def u (cs : List Value) : Value := .tuple ⟨cs⟩
def nl : Value := .nilIface
def R (cs : List Value) (e : TypeId) : Blk := .row cs e
def D (k v : Value) (n : Nat) : MapEntry := ⟨k, v, n⟩
end Q
def flatN : Code → Nat → List (Nat × Code)
  | .seq a b, n + 1 => flatN a n ++ flatN b n
  | c, n => [(n, c)]
section
variable (P : Program) (ok : Ok) (x : Ctx)
def runL : List (Nat × Code) → St → Option (Ex × St)
  | [], st => some (.normal, st)
  | (n, c) :: l, st => match dcode P ok n x c st with
    | some (.normal, st1) => runL l st1
    | r => r
noncomputable def runF : List (Nat × Code) → St → Option (Ex × St)
  | [], st => some (.normal, st)
  | (n, c) :: l, st => match (frun P ok n).code x c st with
    | some (.normal, st1) => runF l st1
    | r => r
noncomputable def endTrue (fn : Func) (n : Nat) (r : Option (Ex × St)) : Bool :=
  match r with
  | some (.normal, st) | some (.ret, st) => retTrue ((frun P ok n).leave fn st.tm st.ds none st.H)
  | _ => false
end
def bodyOf (P : Program) (f : FuncId) : Code := match P.funcs[f]? with
  | some fn => match fn.body with
    | some c => c
    | none => .skip
  | none => .skip
section
variable {P : Program} {ok : Ok} {x : Ctx}
theorem runF_eq : ∀ (l : List (Nat × Code)) (st : St), runF P ok x l st = runL P ok x l st
  | [], _ => rfl
  | (n, c) :: l, st => by
    rw [runF, runL, frun_eq]
    show (match dcode P ok n x c st with | some (.normal, st1) => runF P ok x l st1 | r => r) = _
    cases dcode P ok n x c st with
    | none => rfl
    | some r =>
      obtain ⟨e, s⟩ := r
      cases e with
      | normal => exact runF_eq l s
      | _ => rfl
theorem runL_append : ∀ (l m : List (Nat × Code)) (st : St), runL P ok x (l ++ m) st = match runL P ok x l st with | some (.normal, st1) => runL P ok x m st1 | r => r
  | [], _, _ => rfl
  | (n, c) :: l, m, st => by
    rw [List.cons_append, runL, runL]
    cases dcode P ok n x c st with
    | none => rfl
    | some r =>
      obtain ⟨e, s⟩ := r
      cases e with
      | normal => exact runL_append l m s
      | _ => rfl
theorem runL_one (n : Nat) (c : Code) (st : St) : runL P ok x [(n, c)] st = dcode P ok n x c st := by
  rw [runL]
  cases dcode P ok n x c st with
  | none => rfl
  | some r => obtain ⟨e, s⟩ := r; cases e <;> rfl
theorem runL_flat : ∀ (c : Code) (n : Nat) (st : St), runL P ok x (flatN c n) st = dcode P ok n x c st := by
  intro c
  induction c with
  | seq a b iha ihb =>
    intro n st
    cases n with
    | zero => rw [flatN]; exact runL_one 0 _ st; intro a b n h1 h2; cases h2
    | succ n =>
      rw [flatN, runL_append, dcode, iha]
      cases dcode P ok n x a st with
      | none => rfl
      | some r =>
        obtain ⟨e, s⟩ := r
        cases e with
        | normal => exact ihb n s
        | _ => rfl
  | _ => intro n st; rw [flatN]; exact runL_one n _ st; intro a b n h1 h2; cases h1
theorem runF_cut {l : List (Nat × Code)} {a : Nat} {st st1 : St} (h : runF P ok x (l.take a) st = some (.normal, st1)) : runF P ok x l st = runF P ok x (l.drop a) st1 := by
  conv => lhs; rw [← List.take_append_drop a l]
  rw [runF_eq] at h
  rw [runF_eq, runF_eq, runL_append, h]
theorem runF_cut2 {l : List (Nat × Code)} {a b : Nat} {st st1 : St} (h : runF P ok x ((l.drop a).take b) st = some (.normal, st1)) : runF P ok x (l.drop a) st = runF P ok x (l.drop (a + b)) st1 := by
  rw [runF_cut h, List.drop_drop]
theorem call_true {f : FuncId} {args : List Value} {H : Heap} {n : Nat} {fn : Func} {c : Code} (hk : ok.K f args H = none) (hf : P.funcs[f]? = some fn) (ht : ok.testBit f = true) (hb : fn.body = some c)
    (h : endTrue P ok fn n (runF P ok ⟨f, none⟩ (flatN c n) ⟨initTm 0 args .nil, [], H⟩) = true) : retTrue (dcall P ok (n + 1) f args H) = true := by
  rw [dcall, hk, hf, ht]
  simp only [hb]
  rw [runF_eq, runL_flat] at h
  unfold endTrue at h
  revert h
  cases dcode P ok n ⟨f, none⟩ c ⟨initTm 0 args .nil, [], H⟩ with
  | none => intro h; cases h
  | some r =>
    obtain ⟨e, s⟩ := r
    cases e with
    | normal => rw [frun_eq]; exact id
    | ret => rw [frun_eq]; exact id
    | _ => intro h; cases h
end
end Go.Hb
end
