import Derived.Test.YtopekindmbjeoaaDoorM1
import Derived.OrdersIn
import Derived.RecoverIn
import Derived.RangeFuncLeaves
import Derived.LoopNIn
import Derived.RowKit3
import Derived.ChangeSame
import Derived.Carry
import Derived.OpenShut
import Derived.ProofKit
/- Lemmas on the program's own code, towards the laws of this folder, part 2. Conditions: as each lemma says. -/
section
namespace Go.Hb
open Go Go.RowKit
mutual
theorem zdn : ∀ (v u : Value), veq v u = true → v = u
  | .bool a, u, h => by cases u <;> simp [veq] at h; rw [h]
  | .int k a, u, h => by cases u <;> simp [veq] at h; rw [h.1, h.2]
  | .float k a, u, h => by cases u <;> simp [veq] at h; rw [h.1, h.2]
  | .complex _ _ _, u, h => by cases u <;> simp [veq] at h
  | .string a, u, h => by
    cases u <;> simp [veq] at h
    rename_i b
    have : a = b := by
      obtain ⟨⟨x⟩⟩ := a
      obtain ⟨⟨y⟩⟩ := b
      simp at h
      rw [h]
    rw [this]
  | .pointer a, u, h => by cases u <;> simp [veq] at h; rw [h]
  | .slice a n c, u, h => by cases u <;> simp [veq] at h; rw [h.1.1, h.1.2, h.2]
  | .map a, u, h => by cases u <;> simp [veq] at h; rw [h]
  | .chan none, u, h => by cases u <;> simp [veq] at h
  | .chan (some a), u, h => by
    cases u <;> try (simp [veq] at h; done)
    rename_i b
    cases b <;> simp [veq] at h
    rw [h]
  | .func (.func f) ⟨a⟩ ⟨b⟩, u, h => by
    cases u with
    | func g c d =>
      cases g with
      | func g =>
        obtain ⟨c⟩ := c
        obtain ⟨d⟩ := d
        simp [veq] at h
        rw [h.1.1, z6w a c h.1.2, z6w b d h.2]
      | _ => simp [veq] at h
    | _ => simp [veq] at h
  | .func (.method _) _ _, u, h => by simp [veq] at h
  | .func (.methodOf _ _) _ _, u, h => by simp [veq] at h
  | .func (.via _ _ _ _) _ _, u, h => by simp [veq] at h
  | .func (.yield _) _ _, u, h => by simp [veq] at h
  | .nilFunc, u, h => by cases u <;> simp [veq] at h; rfl
  | .iface t v, u, h => by
    cases u <;> simp [veq] at h
    rename_i s w
    rw [h.1, zdn v w h.2]
  | .nilIface, u, h => by cases u <;> simp [veq] at h; rfl
  | .agg ⟨a⟩, u, h => by
    cases u with
    | agg b => obtain ⟨b⟩ := b; simp [veq] at h; rw [z6w a b h]
    | _ => simp [veq] at h
  | .tuple ⟨a⟩, u, h => by
    cases u with
    | tuple b => obtain ⟨b⟩ := b; simp [veq] at h; rw [z6w a b h]
    | _ => simp [veq] at h
theorem z6w : ∀ (a b : List Value), veqL a b = true → a = b
  | [], b, h => by cases b <;> simp [veqL] at h; rfl
  | v :: a, b, h => by
    cases b with
    | nil => simp [veqL] at h
    | cons w b => simp [veqL] at h; rw [zdn v w h.1, z6w a b h.2]
end
def anc (b : Array Nat) (i j : Nat) : Prop := (b.getD i 0).testBit j = true
structure RC (ops : Array Oper) (b : Array Nat) (effs : List Nat) : Prop where
  slot : ∀ p q op oq d, ops[p]? = some op → ops[q]? = some oq → p ≠ q → op.dst = some d → oq.dst ≠ some d ∧ (Operand.tmp d ∈ oq.op.operands.toList → anc b q p ∨ anc b p q)
  edge : ∀ i o, ops[i]? = some o → ∀ j, anc b i j ↔ ∃ e ∈ o.after.toList, Region.binds .any e = true ∧ (j = e.on ∨ anc b e.on j)
  lt : ∀ i o e, ops[i]? = some o → e ∈ o.after.toList → Region.binds .any e = true → e.on < i
  out : ∀ i, ops.size ≤ i → ∀ j, ¬ anc b i j
  guard : ∀ i o j want, ops[i]? = some o → o.guard = some (j, want) → anc b i j
  hf : effs = (List.range ops.size).filter fun i => match ops[i]? with | some o => isEff o | none => false
  chain : chainOK ops b effs = true
theorem z8i (b : Array Nat) (j : Nat) : ∀ (l : List Edge) (s : Nat),
    (l.foldl (fun s e => if Region.binds .any e then s ||| 2 ^ e.on ||| b.getD e.on 0 else s) s).testBit j = true ↔ s.testBit j = true ∨ ∃ e ∈ l, Region.binds .any e = true ∧ (j = e.on ∨ anc b e.on j)
  | [], s => by simp
  | e :: l, s => by
    rw [List.foldl_cons, z8i b j l]
    by_cases he : Region.binds .any e = true
    · rw [if_pos he]
      simp only [Nat.testBit_or, Bool.or_eq_true, Nat.testBit_two_pow, decide_eq_true_eq, List.mem_cons]
      constructor
      · rintro (((h | h) | h) | ⟨f, hf, h⟩)
        · exact .inl h
        · exact .inr ⟨e, .inl rfl, he, .inl h.symm⟩
        · exact .inr ⟨e, .inl rfl, he, .inr h⟩
        · exact .inr ⟨f, .inr hf, h⟩
      · rintro (h | ⟨f, rfl | hf, h1, h2 | h2⟩)
        · exact .inl (.inl (.inl h))
        · exact .inl (.inl (.inr h2.symm))
        · exact .inl (.inr h2)
        · exact .inr ⟨f, hf, h1, .inl h2⟩
        · exact .inr ⟨f, hf, h1, .inr h2⟩
    · rw [if_neg he]
      constructor
      · rintro (h | ⟨f, hf, h⟩)
        · exact .inl h
        · exact .inr ⟨f, List.mem_cons_of_mem _ hf, h⟩
      · rintro (h | ⟨f, hf, h⟩)
        · exact .inl h
        · rcases List.mem_cons.1 hf with rfl | hf
          · exact absurd h.1 he
          · exact .inr ⟨f, hf, h⟩
theorem RC.of_ok {ops : Array Oper} (h : okDraw ops = true) :
    RC ops (Region.before ops) ((List.range ops.size).filter fun i => match ops[i]? with | some o => isEff o | none => false) := by
  unfold okDraw at h
  simp only [Bool.and_eq_true, List.all_eq_true] at h
  obtain ⟨⟨⟨hsz, hap⟩, hch⟩, hall⟩ := h
  have hix : ∀ i o, ops[i]? = some o → (o, i) ∈ ops.toList.zipIdx := fun i o ho => by
    rw [List.mem_zipIdx_iff_getElem?]; simpa using ho
  rw [Nat.beq_eq] at hsz
  refine ⟨fun p q op oq d hp hq hne hd => ?_, fun i o ho j => ?_, fun i o e ho he hb => ?_, fun i hi j hj => ?_, fun i o j want ho hg => ?_, rfl, hch⟩
  · unfold apartOK at hap
    simp only [List.all_eq_true] at hap
    have h1 := hap _ (hix p op hp)
    rw [hd] at h1
    simp only [List.all_eq_true] at h1
    have h2 := h1 _ (hix q oq hq)
    simp only [Bool.or_eq_true, Bool.and_eq_true, Nat.beq_eq] at h2
    rcases h2 with h2 | ⟨h2, h3⟩
    · exact absurd h2 hne
    · refine ⟨fun hq' => ?_, fun hm => ?_⟩
      · rw [hq'] at h2; simp at h2
      · rcases h3 with (h3 | h3) | h3
        · simp only [Bool.not_eq_true', List.any_eq_false] at h3
          have := h3 _ hm
          simp at this
        · exact .inl h3
        · exact .inr h3
  · have h1 := (hall _ (hix i o ho)).1.1
    rw [Nat.beq_eq] at h1
    unfold anc
    simp only at h1
    rw [h1]
    unfold ahead
    rw [z8i]
    simp [anc]
  · have h1 := (hall _ (hix i o ho)).1.2 e he
    simp only [Bool.or_eq_true, Bool.not_eq_true', Nat.blt_eq, hb] at h1
    simpa using h1
  · unfold anc at hj
    rw [Array.getD_eq_getD_getElem?, Array.getElem?_eq_none (by omega)] at hj
    simp at hj
  · have h1 := (hall _ (hix i o ho)).2
    rw [hg] at h1
    exact h1
section
variable {ops : Array Oper} {b : Array Nat} {effs : List Nat}
theorem z34 {i : Nat} (h : i < ops.size) : ∃ o, ops[i]? = some o := ⟨ops[i], by simp [h]⟩
theorem z17 {i : Nat} {o : Oper} (h : ops[i]? = some o) : i < ops.size := (Array.getElem?_eq_some_iff.1 h).1
theorem RC.anc_some (R : RC ops b effs) {i j : Nat} (h : anc b i j) : ∃ o, ops[i]? = some o := by
  rcases Nat.lt_or_ge i ops.size with hi | hi
  · exact z34 hi
  · exact absurd h (R.out i hi j)
theorem RC.anc_lt (R : RC ops b effs) : ∀ i j, anc b i j → j < i := by
  intro i
  induction i using Nat.strongRecOn with
  | _ i ih =>
    intro j h
    obtain ⟨o, ho⟩ := R.anc_some h
    obtain ⟨e, he, hb, h1⟩ := (R.edge i o ho j).1 h
    have hlt := R.lt i o e ho he hb
    rcases h1 with rfl | h1
    · exact hlt
    · have := ih _ hlt _ h1; omega
theorem RC.anc_trans (R : RC ops b effs) : ∀ i j k, anc b i j → anc b j k → anc b i k := by
  intro i
  induction i using Nat.strongRecOn with
  | _ i ih =>
    intro j k h hk
    obtain ⟨o, ho⟩ := R.anc_some h
    obtain ⟨e, he, hb, h1⟩ := (R.edge i o ho j).1 h
    have hlt := R.lt i o e ho he hb
    refine (R.edge i o ho k).2 ⟨e, he, hb, .inr ?_⟩
    rcases h1 with rfl | h1
    · exact hk
    · exact ih _ hlt _ _ h1 hk
def DS (ops : Array Oper) (b : Array Nat) (S : Nat → Prop) : Prop := ∀ i, S i → i < ops.size ∧ ∀ j, anc b i j → S j
def written (ops : Array Oper) (S : Nat → Prop) (t : Tmp) : Prop := ∃ p o, S p ∧ ops[p]? = some o ∧ o.dst = some t
open Classical in
noncomputable def rho (ops : Array Oper) (b : Array Nat) (tm0 tmF : Tr Value) (i : Nat) (x : Operand) : Value :=
  match x with
  | .tmp t => if written ops (anc b i) t then ev tmF (.tmp t) else ev tm0 (.tmp t)
  | x => ev tm0 x
def TI (ops : Array Oper) (tm0 tmF : Tr Value) (S : Nat → Prop) (tm : Tr Value) : Prop :=
  ∀ t, (written ops S t → tm.get t = tmF.get t) ∧ (¬ written ops S t → tm.get t = tm0.get t)
theorem RC.not_written (R : RC ops b effs) {S : Nat → Prop} (hS : DS ops b S) {i : Nat} {o : Oper} (ho : ops[i]? = some o) (hi : ¬ S i) {t : Tmp} (hx : Operand.tmp t ∈ o.op.operands.toList)
    (hw : ¬ written ops (anc b i) t) : ¬ written ops S t := by
  rintro ⟨q, oq, hq, hoq, hd⟩
  have hne : q ≠ i := fun e => hi (e ▸ hq)
  rcases (R.slot q i oq o t hoq ho hne hd).2 hx with h | h
  · exact hw ⟨q, oq, h, hoq, hd⟩
  · exact hi ((hS q hq).2 i h)
theorem z13 {S T : Nat → Prop} (h : ∀ i, S i → T i) {t : Tmp} (hw : written ops S t) : written ops T t := by
  obtain ⟨p, o, hp, ho, hd⟩ := hw; exact ⟨p, o, h p hp, ho, hd⟩
theorem RC.ev_rho (R : RC ops b effs) {S : Nat → Prop} (hS : DS ops b S) {tm0 tmF tm : Tr Value} (hT : TI ops tm0 tmF S tm) {i : Nat} {o : Oper} (ho : ops[i]? = some o) (hi : ¬ S i)
    (ha : ∀ j, anc b i j → S j) : ∀ x ∈ o.op.operands.toList, ev tm x = rho ops b tm0 tmF i x := by
  intro x hx
  cases x with
  | tmp t =>
    unfold rho
    simp only
    split
    · rename_i hw
      show (tm.get t).getD junk = (tmF.get t).getD junk
      rw [(hT t).1 (z13 ha hw)]
    · rename_i hw
      show (tm.get t).getD junk = (tm0.get t).getD junk
      rw [(hT t).2 (R.not_written hS ho hi hx hw)]
  | _ => rfl
theorem RC.wanted (R : RC ops b effs) {S : Nat → Prop} {tm0 tmF tm : Tr Value} (hT : TI ops tm0 tmF S tm) {i : Nat} {o : Oper} (ho : ops[i]? = some o)
    (ha : ∀ j, anc b i j → S j) : dwanted ops tm o = dwanted ops tmF o := by
  unfold dwanted
  cases hg : o.guard with
  | none => rfl
  | some jw =>
    obtain ⟨j, want⟩ := jw
    have hj := R.guard i o j want ho hg
    simp only
    cases hd : (ops[j]?).bind (·.dst) with
    | none => rfl
    | some d =>
      simp only
      obtain ⟨oj, hoj, hdj⟩ := Option.bind_eq_some_iff.1 hd
      rw [(hT d).1 ⟨j, oj, ha j hj, hoj, hdj⟩]
end
section
variable {P : Program} {ops : Array Oper} {b : Array Nat} {effs : List Nat}
theorem z6a {o : Oper} {ρ ρ' : Operand → Value} (hal : isAlloc o = true) (h : ∀ x ∈ o.op.operands.toList, ρ x = ρ' x) : dalloc P o ρ = dalloc P o ρ' := by
  have hd : dop P o ρ ⟨0, .nil⟩ = dop P o ρ' ⟨0, .nil⟩ := by
    obtain ⟨dst, op, type, pos, after, guard⟩ := o
    cases op with
    | alloc e => rfl
    | box e x => simp only [dop, h x (by simp [Op.operands])]
    | buildSlice t len parts =>
      have hp : ∀ p ∈ parts.toList, ρ p.2 = ρ' p.2 := fun p hp => h p.2 (by simp only [Op.operands]; exact List.mem_map.2 ⟨p, hp, rfl⟩)
      have h1 : (parts.toList.map fun p => (p.1, ρ p.2)) = parts.toList.map fun p => (p.1, ρ' p.2) := List.map_congr_left fun p hq => by rw [hp p hq]
      have h2 : parts.toList.all (fun p => (ρ p.2).cells.toList.all one) = parts.toList.all (fun p => (ρ' p.2).cells.toList.all one) := by
        rw [Bool.eq_iff_iff, List.all_eq_true, List.all_eq_true]
        exact ⟨fun k p hq => by rw [← hp p hq]; exact k p hq, fun k p hq => by rw [hp p hq]; exact k p hq⟩
      simp only [dop, h1, h2]
    | makeSlice t l c => simp only [dop, h l (by simp [Op.operands]), h c (by simp [Op.operands])]
    | makeMap t r => cases r <;> simp only [dop]
    | range t x => simp only [dop, h x (by simp [Op.operands])]
    | _ => cases hal
  unfold dalloc
  rw [hd]
def FN (P : Program) (ops : Array Oper) (b : Array Nat) (base : Nat) (tm0 tmF : Tr Value) (i : Nat) (o : Oper) (G : Heap) : Prop :=
  (dwanted ops tmF o = some false ∧ ∀ d, o.dst = some d → tmF.get d = some undef) ∨
  (dwanted ops tmF o = some true ∧ isAlloc o = true ∧ ∃ B mk, dalloc P o (rho ops b tm0 tmF i) = some (B, mk) ∧ ∀ d, o.dst = some d → tmF.get d = some (mk (base + i))) ∨
  (dwanted ops tmF o = some true ∧ isAlloc o = false ∧ ∃ ρ v, (∀ x ∈ o.op.operands.toList, ρ x = rho ops b tm0 tmF i x) ∧ dop P o ρ G = some (.val v G) ∧ ∀ d, o.dst = some d → tmF.get d = some v)
def putD (tm : Tr Value) (d : Option Tmp) (v : Value) : Tr Value := match d with | some d => tm.put d (some v) | none => tm
theorem z2g (tm : Tr Value) (d : Option Tmp) (v : Value) (t : Tmp) : (d = some t → (putD tm d v).get t = some v) ∧ (d ≠ some t → (putD tm d v).get t = tm.get t) := by
  cases d with
  | none => exact ⟨fun h => (by cases h), fun _ => rfl⟩
  | some d =>
    constructor
    · intro h; cases h; show (tm.put t (some v)).get t = _; rw [Tr.get_put, if_pos rfl]
    · intro h; show (tm.put d (some v)).get t = _; rw [Tr.get_put, if_neg (fun e => h (by rw [e]))]
theorem zas {base : Nat} {hs : List Heap} {i : Nat} {L : List Nat} {tm : Tr Value} {H : Heap} {r : Tr Value × Heap} (h : dnon P ops b effs base hs (i :: L) tm H = some r) :
    ∃ o v H', ops[i]? = some o ∧ dnon P ops b effs base hs L (putD tm o.dst v) H' = some r ∧
      ((dwanted ops tm o = some false ∧ v = undef ∧ H' = H) ∨
       (dwanted ops tm o = some true ∧ isAlloc o = true ∧ ∃ B mk, dalloc P o (ev tm) = some (B, mk) ∧ v = mk (base + i) ∧ H' = H.put (base + i) (some B)) ∨
       (dwanted ops tm o = some true ∧ isAlloc o = false ∧ H' = H ∧ ∃ G gs G', hs = G :: gs ∧ dop P o (ev tm) G = some (.val v G') ∧
        (isRead o = false ∨ (G'.next = G.next ∧ sameOn P o (ev tm) v (gs.take (gs.length - effsIn effs (b.getD i 0))) = true)))) := by
  unfold dnon at h
  cases ho : ops[i]? with
  | none => rw [ho] at h; cases h
  | some o =>
    rw [ho] at h
    simp only at h
    cases hw : dwanted ops tm o with
    | none => rw [hw] at h; cases h
    | some wd =>
      rw [hw] at h
      cases wd with
      | false => exact ⟨o, undef, H, rfl, h, .inl ⟨hw, rfl, rfl⟩⟩
      | true =>
        simp only at h
        cases hal : isAlloc o with
        | true =>
          rw [hal] at h
          simp only at h
          cases hd : dalloc P o (ev tm) with
          | none => rw [hd] at h; cases h
          | some p =>
            obtain ⟨B, mk⟩ := p
            rw [hd] at h
            exact ⟨o, _, _, rfl, h, .inr (.inl ⟨hw, hal, B, mk, hd, rfl, rfl⟩)⟩
        | false =>
          rw [hal] at h
          simp only at h
          cases hs with
          | nil => cases h
          | cons G gs =>
            simp only at h
            split at h
            case h_2 => cases h
            rename_i v G' hd
            split at h
            case h_2 => cases h
            rename_i hc
            refine ⟨o, v, H, rfl, h, .inr (.inr ⟨hw, hal, rfl, G, gs, G', rfl, hd, ?_⟩)⟩
            simpa [Nat.beq_eq] using hc
theorem z35 {base : Nat} {hs : List Heap} {t : Tmp} : ∀ {L : List Nat} {tm : Tr Value} {H : Heap} {r : Tr Value × Heap}, dnon P ops b effs base hs L tm H = some r →
    (∀ i ∈ L, ∀ o, ops[i]? = some o → o.dst ≠ some t) → r.1.get t = tm.get t
  | [], tm, H, r, h, _ => by unfold dnon at h; cases h; rfl
  | i :: L, tm, H, r, h, hn => by
    obtain ⟨o, v, H', ho, h', _⟩ := zas h
    rw [z35 h' (fun j hj => hn j (List.mem_cons_of_mem _ hj))]
    exact (z2g tm o.dst v t).2 (hn i (by simp) o ho)
theorem z8j {o : Oper} {ρ : Operand → Value} {v : Value} : ∀ {l : List Heap} {G : Heap}, sameOn P o ρ v l = true → G ∈ l → ∃ G', dop P o ρ G = some (.val v G') ∧ G'.next = G.next
  | H :: l, G, h, hm => by
    unfold sameOn at h
    simp only [Bool.and_eq_true] at h
    rcases List.mem_cons.1 hm with rfl | hm
    · have h1 := h.1
      split at h1
      · rename_i u H' hd
        simp only [Bool.and_eq_true, Nat.beq_eq] at h1
        rw [← zdn u v h1.1]
        exact ⟨H', hd, h1.2⟩
      · cases h1
    · exact z8j h.2 hm
theorem z1d (R : RC ops b effs) {base : Nat} {hs : List Heap} {tm0 tmF : Tr Value} : ∀ {L : List Nat} {S : Nat → Prop} {tm : Tr Value} {H : Heap} {r : Tr Value × Heap},
    dnon P ops b effs base hs L tm H = some r → L.Pairwise (· < ·) → DS ops b S → (∀ i ∈ L, i < ops.size ∧ ¬ S i ∧ (∀ o, ops[i]? = some o → isEff o = false) ∧ ∀ j, anc b i j → S j ∨ j ∈ L) →
    (∀ t, written ops (fun i => S i ∨ i ∈ L) t → r.1.get t = tmF.get t) → (∀ t, ¬ written ops S t → tm.get t = tm0.get t) →
    (∀ i ∈ L, ∀ o, ops[i]? = some o → ∀ pre G post, hs = pre ++ G :: post → effsIn effs (b.getD i 0) ≤ post.length → FN P ops b base tm0 tmF i o G) ∧
    (∀ t, ¬ written ops (fun i => S i ∨ i ∈ L) t → r.1.get t = tm0.get t) ∧
    ∃ l : List (Nat × Blk), r.2 = l.foldl (fun H p => H.put (base + p.1) (some p.2)) H ∧ ∀ p ∈ l, p.1 ∈ L ∧ ∃ o mk, ops[p.1]? = some o ∧ isAlloc o = true ∧ dwanted ops tmF o = some true ∧ dalloc P o (rho ops b tm0 tmF p.1) = some (p.2, mk)
  | [], S, tm, H, r, h, _, hS, _, hF, h0 => by
    unfold dnon at h
    cases h
    refine ⟨fun i hi => (by cases hi), fun t ht => h0 t fun hw => ht (z13 (fun i hi => .inl hi) hw), [], rfl, fun p hp => (by cases hp)⟩
  | i :: L, S, tm, H, r, h, hso, hS, hL, hF, h0 => by
    obtain ⟨o, v, H', ho, h', hc⟩ := zas h
    obtain ⟨hiz, hiS, hie, hia⟩ := hL i (by simp)
    rw [List.pairwise_cons] at hso
    have ha : ∀ j, anc b i j → S j := fun j hj => by
      rcases hia j hj with h1 | h1
      · exact h1
      · have hlt := R.anc_lt i j hj
        rcases List.mem_cons.1 h1 with rfl | h1
        · omega
        · have := hso.1 j h1; omega
    have hkS : ∀ t, written ops S t → tm.get t = tmF.get t := by
      intro t hw
      rw [← hF t (z13 (fun i hi => .inl hi) hw)]
      obtain ⟨p, op, hp, hop, hd⟩ := hw
      exact (z35 h (fun j hj oj hoj => (R.slot p j op oj t hop hoj (fun e => (hL j hj).2.1 (e ▸ hp)) hd).1)).symm
    have hTI : TI ops tm0 tmF S tm := fun t => ⟨hkS t, h0 t⟩
    have hρ := R.ev_rho hS hTI ho hiS ha
    have hw := R.wanted hTI ho ha
    have hS' : DS ops b (fun j => S j ∨ j = i) := fun j hj => by
      rcases hj with hj | rfl
      · exact ⟨(hS j hj).1, fun k hk => .inl ((hS j hj).2 k hk)⟩
      · exact ⟨hiz, fun k hk => .inl (ha k hk)⟩
    have h0' : ∀ t, ¬ written ops (fun j => S j ∨ j = i) t → (putD tm o.dst v).get t = tm0.get t := fun t ht => by
      rw [(z2g tm o.dst v t).2 (fun hd => ht ⟨i, o, .inr rfl, ho, hd⟩)]
      exact h0 t fun hw => ht (z13 (fun i hi => .inl hi) hw)
    have heq : (fun j => (S j ∨ j = i) ∨ j ∈ L) = (fun j => S j ∨ j ∈ i :: L) := by
      funext j; simp only [List.mem_cons, or_assoc]
    have hF' : ∀ t, written ops (fun j => (S j ∨ j = i) ∨ j ∈ L) t → r.1.get t = tmF.get t := by rw [heq]; exact hF
    obtain ⟨k1, k2, l, k3, k4⟩ := z1d R h' hso.2 hS' (fun j hj => by
      obtain ⟨q1, q2, q3, q4⟩ := hL j (List.mem_cons_of_mem _ hj)
      refine ⟨q1, fun hh => ?_, q3, fun k hk => ?_⟩
      · rcases hh with hh | rfl
        · exact q2 hh
        · have := hso.1 _ hj; omega
      · rcases q4 k hk with q | q
        · exact .inl (.inl q)
        · rcases List.mem_cons.1 q with rfl | q
          · exact .inl (.inr rfl)
          · exact .inr q) hF' h0'
    have hdv : ∀ d, o.dst = some d → tmF.get d = some v := fun d hd => by
      rw [← hF d ⟨i, o, .inr (by simp), ho, hd⟩, z35 h' (fun j hj oj hoj => (R.slot i j o oj d ho hoj (fun e => by have := hso.1 j hj; omega) hd).1)]
      exact (z2g tm o.dst v d).1 hd
    refine ⟨fun j hj oj hoj pre G post hhs hle => ?_, by rw [heq] at k2; exact k2, ?_⟩
    rotate_left
    · have k4' : ∀ p ∈ l, p.1 ∈ i :: L ∧ ∃ o mk, ops[p.1]? = some o ∧ isAlloc o = true ∧ dwanted ops tmF o = some true ∧ dalloc P o (rho ops b tm0 tmF p.1) = some (p.2, mk) := fun p hp => ⟨List.mem_cons_of_mem _ (k4 p hp).1, (k4 p hp).2⟩
      rcases hc with ⟨c1, _, rfl⟩ | ⟨c1, c2, B, mk, c3, _, rfl⟩ | ⟨c1, c2, rfl, _⟩
      · exact ⟨l, k3, k4'⟩
      · refine ⟨(i, B) :: l, k3, fun p hp => ?_⟩
        rcases List.mem_cons.1 hp with rfl | hp
        · exact ⟨by simp, o, mk, ho, c2, hw ▸ c1, (z6a c2 hρ) ▸ c3⟩
        · exact k4' p hp
      · exact ⟨l, k3, k4'⟩
    rcases List.mem_cons.1 hj with rfl | hj
    · rw [ho] at hoj
      cases hoj
      rcases hc with ⟨c1, rfl, _⟩ | ⟨c1, c2, B, mk, c3, rfl, _⟩ | ⟨c1, c2, _, G0, gs, G', rfl, c4, c5⟩
      · exact .inl ⟨hw ▸ c1, hdv⟩
      · exact .inr (.inl ⟨hw ▸ c1, c2, B, mk, (z6a c2 hρ) ▸ c3, hdv⟩)
      · refine .inr (.inr ⟨hw ▸ c1, c2, ev tm, v, hρ, ?_, hdv⟩)
        cases hrd : isRead o with
        | false =>
          have hp : isPure o = true := by simp [isPure, hrd, c2, hie o ho]
          exact (zk1 hp c4).2 G
        | true =>
          rcases c5 with c5 | ⟨c5, c6⟩
          · rw [hrd] at c5; cases c5
          · cases pre with
            | nil =>
              simp only [List.nil_append, List.cons.injEq] at hhs
              obtain ⟨rfl, rfl⟩ := hhs
              have := zdm hrd c4 c5
              rw [this] at c4; exact c4
            | cons G1 pre =>
              simp only [List.cons_append, List.cons.injEq] at hhs
              obtain ⟨rfl, rfl⟩ := hhs
              have hmem : G ∈ ((pre ++ G :: post).take ((pre ++ G :: post).length - effsIn effs (b.getD j 0))) := by
                rw [List.mem_take_iff_getElem]
                refine ⟨pre.length, ?_, ?_⟩
                · simp only [List.length_append, List.length_cons]; omega
                · simp
              obtain ⟨G'', d1, d2⟩ := z8j c6 hmem
              have := zdm hrd d1 d2
              rw [this] at d1; exact d1
    · exact k1 j hj oj hoj pre G post hhs hle
end
end Go.Hb
end

section
namespace Go.Hb
open Go Go.RowKit
section
variable {P : Program} {ops : Array Oper} {b : Array Nat} {effs : List Nat}
def bit (m i : Nat) : Prop := m.testBit i = true
theorem z0i {done e i : Nat} : bit (done ||| b.getD e 0 ||| 2 ^ e) i ↔ bit done i ∨ anc b e i ∨ i = e := by
 unfold bit anc
 simp only [Nat.testBit_or, Bool.or_eq_true, Nat.testBit_two_pow, decide_eq_true_eq, or_assoc]
 constructor
 ·rintro (h | h | h)
  ·exact .inl h
  ·exact .inr (.inl h)
  ·exact .inr (.inr h.symm)
 ·rintro (h | h | h)
  ·exact .inl h
  ·exact .inr (.inl h)
  ·exact .inr (.inr h.symm)
theorem RC.sorted (R : RC ops b effs) : effs.Pairwise (· < ·) := by
 rw [R.hf]; exact List.Pairwise.filter _ List.pairwise_lt_range
theorem RC.mem_effs (R : RC ops b effs) {i : Nat} : i ∈ effs ↔ ∃ o, ops[i]? = some o ∧ isEff o = true := by
 rw [R.hf, List.mem_filter]
 constructor
 ·rintro ⟨h1, h2⟩
  obtain ⟨o, ho⟩ := z34 (List.mem_range.1 h1)
  rw [ho] at h2
  exact ⟨o, ho, h2⟩
 ·rintro ⟨o, ho, h⟩
  exact ⟨List.mem_range.2 (z17 ho), by rw [ho]; exact h⟩
theorem z8k {e : Nat} {es : List Nat} (h : chainOK ops b (e :: es) = true) : (∀ f ∈ es, anc b f e) ∨ ∃ f, es = [f] ∧ isSt ops e = true ∧ isSt ops f = true := by
 unfold chainOK at h
 rw [Bool.and_eq_true] at h
 have h1 := h.1
 split at h1
 ·rename_i f
  rw [Bool.or_eq_true, Bool.and_eq_true] at h1
  rcases h1 with h1 | h1
  ·refine .inl fun g hg => ?_
   rw [List.mem_singleton] at hg
   subst hg; exact h1
  ·exact .inr ⟨f, rfl, h1.1, h1.2⟩
 ·exact .inl fun f hf => List.all_eq_true.1 h1 f hf
theorem zfu {e : Nat} {es : List Nat} (h : chainOK ops b (e :: es) = true) : chainOK ops b es = true := by
 unfold chainOK at h
 rw [Bool.and_eq_true] at h
 exact h.2
theorem RC.topo (R : RC ops b effs) {es : List Nat} (h : es.Pairwise (· < ·)) : es.Pairwise (fun e f => e ≠ f ∧ ¬ anc b e f) :=
 h.imp fun {e f} hlt => ⟨by omega, fun ha => by have := R.anc_lt _ _ ha; omega⟩
structure DI (ops : Array Oper) (b : Array Nat) (effs : List Nat) (tm0 : Tr Value) (es : List Nat) (done : Nat) (tm : Tr Value) (k : Nat) : Prop where
 ds : DS ops b (bit done)
 sfx : ∃ pre, effs.Perm (pre ++ es) ∧ (∀ e ∈ pre, bit done e) ∧ pre.length = k
 ord : chainOK ops b es = true
 topo : es.Pairwise (fun e f => e ≠ f ∧ ¬ anc b e f)
 noe : ∀ e ∈ es, ¬ bit done e
 t0 : ∀ t, ¬ written ops (bit done) t → tm.get t = tm0.get t
theorem z0o {m done i : Nat} : i ∈ pending (List.range ops.size) effs m done ↔ i < ops.size ∧ bit m i ∧ ¬ bit done i ∧ i ∉ effs := by
 unfold pending bit
 simp [List.mem_filter, and_assoc]
theorem z3e {done i : Nat} : i ∈ ((List.range ops.size).filter fun i => !done.testBit i && !effs.contains i) ↔ i < ops.size ∧ ¬ bit done i ∧ i ∉ effs := by
 unfold bit
 simp [List.mem_filter]
theorem DI.next (R : RC ops b effs) {tm0 tm tm' : Tr Value} {e : Nat} {es : List Nat} {done k : Nat} (h : DI ops b effs tm0 (e :: es) done tm k)
  (h0 : ∀ t, ¬ written ops (bit (done ||| b.getD e 0 ||| 2 ^ e)) t → tm'.get t = tm0.get t) : DI ops b effs tm0 es (done ||| b.getD e 0 ||| 2 ^ e) tm' (k + 1) := by
 obtain ⟨pre, hp, hpd, hk⟩ := h.sfx
 have he : e ∈ effs := hp.mem_iff.2 (by simp)
 obtain ⟨o, ho, _⟩ := R.mem_effs.1 he
 have ht := List.pairwise_cons.1 h.topo
 refine ⟨fun i hi => ?_, ⟨pre ++ [e], by rw [List.append_assoc]; exact hp, fun f hf => ?_, by simp [hk]⟩, zfu h.ord, ht.2, fun f hf hb => ?_, h0⟩
 ·rw [z0i] at hi
  rcases hi with hi | hi | rfl
  ·exact ⟨(h.ds i hi).1, fun j hj => z0i.2 (.inl ((h.ds i hi).2 j hj))⟩
  ·exact ⟨by have := R.anc_lt _ _ hi; have := z17 ho; omega, fun j hj => z0i.2 (.inr (.inl (R.anc_trans _ _ _ hi hj)))⟩
  ·exact ⟨z17 ho, fun j hj => z0i.2 (.inr (.inl hj))⟩
 ·rcases List.mem_append.1 hf with hf | hf
  ·exact z0i.2 (.inl (hpd f hf))
  ·simp at hf; exact z0i.2 (.inr (.inr hf))
 ·have htf := ht.1 f hf
  rw [z0i] at hb
  rcases hb with hb | hb | hb
  ·exact h.noe f (List.mem_cons_of_mem _ hf) hb
  ·exact htf.2 hb
  ·exact htf.1 hb.symm
theorem DI.list (R : RC ops b effs) {tm0 tm : Tr Value} {es : List Nat} {done k : Nat} (h : DI ops b effs tm0 es done tm k) {L : List Nat}
  (hm : ∀ i ∈ L, i < ops.size ∧ ¬ bit done i ∧ i ∉ effs) (hc : ∀ i ∈ L, ∀ j, anc b i j → ¬ bit done j → j ∉ effs → j ∈ L) (he : ∀ i ∈ L, ∀ j, anc b i j → j ∈ es → False) :
  ∀ i ∈ L, i < ops.size ∧ ¬ bit done i ∧ (∀ o, ops[i]? = some o → isEff o = false) ∧ ∀ j, anc b i j → bit done j ∨ j ∈ L := by
 intro i hi
 obtain ⟨h1, h2, h3⟩ := hm i hi
 refine ⟨h1, h2, fun o ho => ?_, fun j hj => ?_⟩
 ·cases hx : isEff o with
  | false => rfl
  | true => exact absurd (R.mem_effs.2 ⟨o, ho, hx⟩) h3
 ·by_cases hd : bit done j
  ·exact .inl hd
  ·refine .inr (hc i hi j hj hd fun hje => ?_)
   obtain ⟨pre, hp, hpd, _⟩ := h.sfx
   rw [hp.mem_iff] at hje
   rcases List.mem_append.1 hje with hje | hje
   ·exact hd (hpd j hje)
   ·exact he i hi j hj hje
theorem DI.pend (R : RC ops b effs) {tm0 tm : Tr Value} {e : Nat} {es : List Nat} {done k : Nat} (h : DI ops b effs tm0 (e :: es) done tm k) :
  ∀ i ∈ pending (List.range ops.size) effs (b.getD e 0) done, i < ops.size ∧ ¬ bit done i ∧ (∀ o, ops[i]? = some o → isEff o = false) ∧ ∀ j, anc b i j → bit done j ∨ j ∈ pending (List.range ops.size) effs (b.getD e 0) done := by
 refine DI.list R h (fun i hi => ?_) (fun i hi j hj hd hne => ?_) (fun i hi j hj hje => ?_)
 ·rw [z0o] at hi; exact ⟨hi.1, hi.2.2⟩
 ·rw [z0o] at hi ⊢
  exact ⟨by have := R.anc_lt _ _ hj; omega, R.anc_trans _ _ _ hi.2.1 hj, hd, hne⟩
 ·rw [z0o] at hi
  have hej := R.anc_trans _ _ _ hi.2.1 hj
  rcases List.mem_cons.1 hje with rfl | hje
  ·have := R.anc_lt _ _ hej; omega
  ·exact ((List.pairwise_cons.1 h.topo).1 j hje).2 hej
theorem DI.last (R : RC ops b effs) {tm0 tm : Tr Value} {done k : Nat} (h : DI ops b effs tm0 [] done tm k) :
  ∀ i ∈ ((List.range ops.size).filter fun i => !done.testBit i && !effs.contains i), i < ops.size ∧ ¬ bit done i ∧ (∀ o, ops[i]? = some o → isEff o = false) ∧
   ∀ j, anc b i j → bit done j ∨ j ∈ ((List.range ops.size).filter fun i => !done.testBit i && !effs.contains i) := by
 refine DI.list R h (fun i hi => z3e.1 hi) (fun i hi j hj hd hne => ?_) (fun i hi j hj hje => by cases hje)
 rw [z3e] at hi ⊢
 exact ⟨by have := R.anc_lt _ _ hj; omega, hd, hne⟩
theorem z1h {m done : Nat} : (pending (List.range ops.size) effs m done).Pairwise (· < ·) := List.Pairwise.filter _ List.pairwise_lt_range
theorem z4p {done : Nat} : ((List.range ops.size).filter fun i => !done.testBit i && !effs.contains i).Pairwise (· < ·) := List.Pairwise.filter _ List.pairwise_lt_range
variable {ok : Ok} {n : Nat} {x : Ctx} {base : Nat} {G : Heap} {gs : List Heap} {ds : List Deferred} {tm0 tm : Tr Value} {st : St} {done : Nat} {es : List Nat}
theorem zfv (h : dstage P ok n x ops b effs base [] done (G :: gs) tm ds = some st) :
  ∃ tm1 H1, dnon P ops b effs base (G :: gs) ((List.range ops.size).filter fun i => !done.testBit i && !effs.contains i) tm G = some (tm1, H1) ∧ st = ⟨tm1, ds, H1⟩ := by
 cases n with
 | zero => unfold dstage at h; cases h
 | succ n =>
  unfold dstage at h
  simp only at h
  split at h
  ·rename_i tm1 H1 hd; cases h; exact ⟨tm1, H1, hd, rfl⟩
  ·cases h
theorem zcr {e : Nat} (h : dstage P ok n x ops b effs base (e :: es) done (G :: gs) tm ds = some st) :
  ∃ n' tm1 H1 o v ds1 H2, n = n' + 1 ∧ dnon P ops b effs base (G :: gs) (pending (List.range ops.size) effs (b.getD e 0) done) tm G = some (tm1, H1) ∧ ops[e]? = some o ∧
   ddraw P ok n' x ops b effs base es (done ||| b.getD e 0 ||| 2 ^ e) (H2 :: G :: gs) (putD tm1 o.dst v) ds1 = some st ∧
   ((dwanted ops tm1 o = some false ∧ v = undef ∧ ds1 = ds ∧ H2 = H1) ∨ (dwanted ops tm1 o = some true ∧ dop1 P ok n' x o (ev tm1) ds H1 = some (.val v ds1 H2))) := by
 cases n with
 | zero => unfold dstage at h; cases h
 | succ n =>
  unfold dstage at h
  simp only at h
  split at h
  ·cases h
  ·rename_i tm1 H1 hd
   split at h
   ·cases h
   ·rename_i o ho
    split at h
    ·cases h
    ·rename_i hw
     exact ⟨n, tm1, H1, o, undef, ds, H1, rfl, hd, ho, h, .inl ⟨hw, rfl, rfl, rfl⟩⟩
    ·rename_i hw
     split at h
     ·rename_i v ds1 H2 h1
      exact ⟨n, tm1, H1, o, v, ds1, H2, rfl, hd, ho, h, .inr ⟨hw, h1⟩⟩
     ·cases h
theorem zdo {e f : Nat} (h : twin b es = some (e, f)) : es = [e, f] ∧ (b.getD f 0).testBit e = false ∧ e < f := by
 unfold twin at h
 split at h
 ·split at h
  ·cases h
  ·rename_i hc
   cases h
   rw [Bool.or_eq_false_iff] at hc
   refine ⟨rfl, hc.1, ?_⟩
   have h2 := hc.2
   rw [← Bool.not_eq_true, Nat.ble_eq] at h2
   omega
 ·cases h
theorem z6x (h : ddraw P ok n x ops b effs base es done (G :: gs) tm ds = some st) : ∃ n', n = n' + 1 ∧ dstage P ok n' x ops b effs base es done (G :: gs) tm ds = some st := by
 cases n with
 | zero => unfold ddraw at h; cases h
 | succ n =>
  unfold ddraw at h
  split at h
  ·exact ⟨n, rfl, h⟩
  ·rename_i e f ht
   obtain ⟨rfl, _, _⟩ := zdo ht
   split at h
   ·rename_i st1 st2 h1 h2
    split at h
    ·split at h
     ·cases h; exact ⟨n, rfl, h1⟩
     ·cases h
    ·cases h
   ·cases h
theorem zfw {e f : Nat} (hb : (b.getD f 0).testBit e = false) (hlt : e < f) (h : ddraw P ok n x ops b effs base [e, f] done (G :: gs) tm ds = some st) :
  ∃ st' p q, ddraw P ok n x ops b effs base [f, e] done (G :: gs) tm ds = some st' ∧ dtwin P ops b effs base done (G :: gs) tm e f = some (p, q) ∧ agree ops base p q st st' = true := by
 have ht : twin b [e, f] = some (e, f) := by
  have h2 : Nat.ble f e = false := by rw [← Bool.not_eq_true, Nat.ble_eq]; omega
  unfold twin
  simp only [hb, h2, Bool.or_self]
 have ht' : twin b [f, e] = none := by
  have h2 : Nat.ble e f = true := by rw [Nat.ble_eq]; omega
  unfold twin
  simp only [h2, Bool.or_true]
 cases n with
 | zero => unfold ddraw at h; cases h
 | succ n =>
  unfold ddraw at h
  rw [ht] at h
  simp only at h
  split at h
  ·rename_i st1 st2 h1 h2
   split at h
   ·rename_i p q hpq
    split at h
    ·rename_i hag
     cases h
     refine ⟨st2, p, q, ?_, hpq, hag⟩
     unfold ddraw
     rw [ht']
     exact h2
    ·cases h
   ·cases h
  ·cases h
theorem z57 (h : ddraw P ok n x ops b effs base [] done (G :: gs) tm ds = some st) :
  ∃ tm1 H1, dnon P ops b effs base (G :: gs) ((List.range ops.size).filter fun i => !done.testBit i && !effs.contains i) tm G = some (tm1, H1) ∧ st = ⟨tm1, ds, H1⟩ := by
 obtain ⟨n', _, h⟩ := z6x h
 exact zfv h
theorem z2i {e : Nat} (h : ddraw P ok n x ops b effs base (e :: es) done (G :: gs) tm ds = some st) :
  ∃ n' tm1 H1 o v ds1 H2, n' < n ∧ dnon P ops b effs base (G :: gs) (pending (List.range ops.size) effs (b.getD e 0) done) tm G = some (tm1, H1) ∧ ops[e]? = some o ∧
   ddraw P ok n' x ops b effs base es (done ||| b.getD e 0 ||| 2 ^ e) (H2 :: G :: gs) (putD tm1 o.dst v) ds1 = some st ∧
   ((dwanted ops tm1 o = some false ∧ v = undef ∧ ds1 = ds ∧ H2 = H1) ∨ (dwanted ops tm1 o = some true ∧ dop1 P ok n' x o (ev tm1) ds H1 = some (.val v ds1 H2))) := by
 obtain ⟨m, rfl, hs⟩ := z6x h
 obtain ⟨n', tm1, H1, o, v, ds1, H2, rfl, hr⟩ := zcr hs
 exact ⟨n', tm1, H1, o, v, ds1, H2, by omega, hr⟩
theorem z2m (R : RC ops b effs) {t : Tmp} : ∀ {es : List Nat} {n done : Nat} {G : Heap} {gs : List Heap} {tm : Tr Value} {ds : List Deferred} {k : Nat},
  ddraw P ok n x ops b effs base es done (G :: gs) tm ds = some st → (∀ e ∈ es, ¬ bit done e) → es.Pairwise (fun e f => e ≠ f ∧ ¬ anc b e f) → (∀ i o, ops[i]? = some o → o.dst = some t → bit done i) → st.tm.get t = tm.get t
 | [], n, done, G, gs, tm, ds, k, h, _, _, ht => by
  obtain ⟨tm1, H1, hd, rfl⟩ := z57 h
  exact z35 hd fun i hi o ho hd => (z3e.1 hi).2.1 (ht i o ho hd)
 | e :: es, n, done, G, gs, tm, ds, k, h, he, hs, ht => by
  obtain ⟨n', tm1, H1, o, v, ds1, H2, _, hd, ho, h', _⟩ := z2i h
  have hs := List.pairwise_cons.1 hs
  rw [z2m R (k := k) h' (fun f hf hb => ?_) hs.2 (fun i o ho hd => z0i.2 (.inl (ht i o ho hd))), (z2g _ _ _ t).2 (fun hdst => he e (by simp) (ht e o ho hdst)),
   z35 hd fun i hi o ho hd => (z0o.1 hi).2.2.1 (ht i o ho hd)]
  have := hs.1 f hf
  rcases z0i.1 hb with hb | hb | hb
  ·exact he f (List.mem_cons_of_mem _ hf) hb
  ·exact this.2 hb
  ·exact this.1 hb.symm
theorem z2n (R : RC ops b effs) {e : Nat} {k : Nat} (D : DI ops b effs tm0 (e :: es) done tm k) {tm1 : Tr Value} {o : Oper} {v : Value} {n' : Nat} {H2 : Heap} {ds1 : List Deferred} (ho : ops[e]? = some o)
  (h' : ddraw P ok n' x ops b effs base es (done ||| b.getD e 0 ||| 2 ^ e) (H2 :: G :: gs) (putD tm1 o.dst v) ds1 = some st) :
  (∀ t, written ops (fun i => bit done i ∨ i ∈ pending (List.range ops.size) effs (b.getD e 0) done) t → tm1.get t = st.tm.get t) ∧ (∀ d, o.dst = some d → st.tm.get d = some v) := by
 have hs2 := List.pairwise_cons.1 D.topo
 have hno : ∀ f ∈ es, ¬ bit (done ||| b.getD e 0 ||| 2 ^ e) f := fun f hf hb => by
  have := hs2.1 f hf
  rcases z0i.1 hb with hb | hb | hb
  ·exact D.noe f (List.mem_cons_of_mem _ hf) hb
  ·exact this.2 hb
  ·exact this.1 hb.symm
 have he : ¬ bit done e := D.noe e (by simp)
 constructor
 ·rintro t ⟨p, op, hpp, hop, hd⟩
  have hpe : p ≠ e := by
   rintro rfl
   rcases hpp with hpp | hpp
   ·exact he hpp
   ·have h2 := (z0o.1 hpp).2.1
    have := R.anc_lt _ _ h2; omega
  rw [z2m R (k := k) h' hno hs2.2 (fun i oi hoi hdi => ?_), (z2g _ _ _ t).2 ((R.slot p e op o t hop ho hpe hd).1)]
  have hip : i = p := by
   by_cases h : p = i
   ·exact h.symm
   ·exact absurd hdi (R.slot p i op oi t hop hoi h hd).1
  subst hip
  rcases hpp with hpp | hpp
  ·exact z0i.2 (.inl hpp)
  ·exact z0i.2 (.inr (.inl (z0o.1 hpp).2.1))
 ·intro d hd
  rw [z2m R (k := k) h' hno hs2.2 (fun i oi hoi hdi => ?_), (z2g _ _ _ d).1 hd]
  have hip : i = e := by
   by_cases h : e = i
   ·exact h.symm
   ·exact absurd hdi (R.slot e i o oi d ho hoi h hd).1
  exact z0i.2 (.inr (.inr hip))
theorem z9j (R : RC ops b effs) {e : Nat} {tm1 : Tr Value} {o : Oper} {v : Value} (ho : ops[e]? = some o)
  (h0 : ∀ t, ¬ written ops (fun i => bit done i ∨ i ∈ pending (List.range ops.size) effs (b.getD e 0) done) t → tm1.get t = tm0.get t) :
  ∀ t, ¬ written ops (bit (done ||| b.getD e 0 ||| 2 ^ e)) t → (putD tm1 o.dst v).get t = tm0.get t := by
 intro t ht
 rw [(z2g _ _ _ t).2 (fun hd => ht ⟨e, o, z0i.2 (.inr (.inr rfl)), ho, hd⟩)]
 refine h0 t fun hw => ht (z13 (fun i hi => ?_) hw)
 rcases hi with hi | hi
 ·exact z0i.2 (.inl hi)
 ·exact z0i.2 (.inr (.inl (z0o.1 hi).2.1))
theorem z6y (R : RC ops b effs) : ∀ {es : List Nat} {n done : Nat} {G : Heap} {gs : List Heap} {tm : Tr Value} {ds : List Deferred} {k : Nat},
  ddraw P ok n x ops b effs base es done (G :: gs) tm ds = some st → DI ops b effs tm0 es done tm k →
  ∀ i o, ops[i]? = some o → isEff o = false → ¬ bit done i → ∀ pre G' post, G :: gs = pre ++ G' :: post → effsIn effs (b.getD i 0) ≤ post.length → FN P ops b base tm0 st.tm i o G'
 | [], n, done, G, gs, tm, ds, k, h, D, i, o, ho, hie, hid => by
  obtain ⟨tm1, H1, hd, rfl⟩ := z57 h
  have := z1d R (tmF := tm1) hd z4p D.ds (D.last R) (fun t _ => rfl) D.t0
  exact this.1 i (z3e.2 ⟨z17 ho, hid, fun he => by
   obtain ⟨o', ho', he'⟩ := R.mem_effs.1 he
   rw [ho] at ho'
   cases ho'
   rw [hie] at he'
   cases he'⟩) o ho
 | e :: es, n, done, G, gs, tm, ds, k, h, D, i, o, ho, hie, hid => by
  obtain ⟨n', tm1, H1, oe, v, ds1, H2, _, hd, hoe, h', _⟩ := z2i h
  obtain ⟨f1, f2⟩ := z2n R D hoe h'
  have hfac := z1d R (tmF := st.tm) hd z1h D.ds (D.pend R) f1 D.t0
  have hne : i ∉ effs := fun he => by
   obtain ⟨o', ho', he'⟩ := R.mem_effs.1 he
   rw [ho] at ho'
   cases ho'
   rw [hie] at he'
   cases he'
  by_cases hi : anc b e i
  ·exact hfac.1 i (z0o.2 ⟨z17 ho, hi, hid, hne⟩) o ho
  ·intro pre G' post hhs hle
   refine z6y R h' (D.next R (z9j R hoe hfac.2.1)) i o ho hie (fun hb => ?_) (H2 :: pre) G' post (by rw [hhs]; rfl) hle
   rcases z0i.1 hb with hb | hb | rfl
   ·exact hid hb
   ·exact hi hb
   ·exact hne (by obtain ⟨pre, hp, _⟩ := D.sfx; exact hp.mem_iff.2 (by simp))
end
end Go.Hb
end

section
namespace Go.Hb
open Go Go.RowKit
def DsR (σ : Nat → Loc) (τ : Nat → Value) : List Deferred → List Deferred → Prop
 | [], [] => True
 | d :: ds, d' :: ds' => DfR σ τ d d' ∧ DsR σ τ ds ds'
 | _, _ => False
def GR (P : Program) (σ : Nat → Loc) : Prop := ∀ g, g < P.globals.size → σ g = .dead ∨ ∃ S es, σ g = .live g S es
section
variable {P : Program} {N : Nat} {w0 : World} {τ : Nat → Value} {σ σ' : Nat → Loc} {H H' : Heap} {w w' : World}
theorem RA.ext (he : Ext σ σ') {x y : Array Value} (h : RA σ τ x y) : RA σ' τ x y := LR.ext he h
theorem DfR.ext (he : Ext σ σ') {d d' : Deferred} (h : DfR σ τ d d') : DfR σ' τ d d' := by
 refine ⟨h.1.ext he, ?_⟩
 rcases h.2 with ⟨f, c, c', h1, h2, h3⟩ | ⟨l, l', h1, h2, h3⟩
 ·exact .inl ⟨f, c, c', h1, h2, h3.ext he⟩
 ·exact .inr ⟨l, l', h1, h2, h3.ext he⟩
theorem DsR.ext (he : Ext σ σ') : ∀ {ds ds' : List Deferred}, DsR σ τ ds ds' → DsR σ' τ ds ds'
 | [], [], _ => trivial
 | _ :: _, _ :: _, h => ⟨h.1.ext he, DsR.ext he h.2⟩
 | [], _ :: _, h => h.elim
 | _ :: _, [], h => h.elim
theorem GR.ext (h : GR P σ) (he : Ext σ σ') : GR P σ' := by
 intro g hg
 rcases he g with h1 | h1 | ⟨_, h1⟩
 ·rcases h g hg with h2 | ⟨S, es, h2⟩ <;> rw [h1] at h2 <;> cases h2
 ·rw [h1]; exact h g hg
 ·exact .inl h1
theorem GR.ptr (h : GR P σ) {g : Nat} (hg : g < P.globals.size) : VR σ τ (.pointer (some ⟨g, 0, none⟩)) (.pointer (some ⟨g, 0, none⟩)) := by
 refine .ptr _ _ ?_
 unfold AR
 rcases h g hg with h1 | ⟨S, es, h1⟩
 ·simp only [h1]
 ·simp [h1]
theorem BlkR.step {B : Blk} {i : Nat} (h : BlkR P N σ τ w (σ i) B) (hH : HR P N w0 τ σ H w) (hs : Step σ H w σ' H' w') (hg : H.get i = none) : BlkR P N σ' τ w' (σ' i) B := by
 obtain ⟨b, S, es, hl⟩ := h.live
 have hk := hs.keep i (.inr (by rw [hl]; simp)) hg
 rw [hk.1]
 refine (h.ext hs.ext).world fun c S' es' hc => ?_
 refine hs.frame c (hH.lt i c S' es' hc) fun j S2 es2 hj => ?_
 rw [hH.inj j i c S2 es2 S' es' hj hc]; exact hg
theorem HR.adopt (h : HR P N w0 τ σ H w) {i : Nat} {B : Blk} (hB : BlkR P N σ τ w (σ i) B) : HR P N w0 τ σ (H.put i (some B)) w := by
 refine ⟨h.below, h.size, h.fresh, fun j C hj => ?_, h.inj, h.lt⟩
 rw [Heap.get_put] at hj
 by_cases hji : j = i
 ·rw [if_pos hji] at hj; cases hj; rw [hji]; exact hB
 ·rw [if_neg hji] at hj; exact h.blk j C hj
theorem HR.extra (h : HR P N w0 τ σ H w) {i : Nat} (ob : Obj) (S es : Nat) (hi : i < H.next) (hn : σ i = .none) :
  HR P N w0 τ (upd σ i (.live w.heap.size S es)) H (w.alloc ob) := by
 have he : Ext σ (upd σ i (.live w.heap.size S es)) := fun j => by
  by_cases hj : j = i
  ·rw [hj]; exact .inl hn
  ·exact .inr (.inl (z0b _ _ hj))
 have hsz : (w.alloc ob).heap.size = w.heap.size + 1 := by simp
 have hlt := h.lt
 refine ⟨h.below.trans ⟨rfl, rfl, rfl, by rw [hsz]; omega, fun k hk => Below.heap_alloc w _ k (Nat.lt_of_lt_of_le hk h.size)⟩, by have := h.size; omega, fun j hj => ?_, fun j C hj => ?_, fun j k b S1 e1 S2 e2 hj hk => ?_, fun j b S1 e1 hj => ?_⟩
 ·rw [z0b _ _ (by omega)]; exact h.fresh j hj
 ·have hB := h.blk j C hj
  have hji : j ≠ i := fun e => by
   obtain ⟨b, S', es', hl⟩ := hB.live
   rw [e, hn] at hl; cases hl
  rw [z0b _ _ hji]
  exact (hB.ext he).world fun c S' es' hc => Below.heap_alloc w _ c (hlt j c S' es' hc)
 ·by_cases hj1 : j = i
  ·by_cases hk1 : k = i
   ·rw [hj1, hk1]
   ·rw [hj1, z0h] at hj; cases hj
    rw [z0b _ _ hk1] at hk
    have := hlt k _ _ _ hk; omega
  ·rw [z0b _ _ hj1] at hj
   by_cases hk1 : k = i
   ·rw [hk1, z0h] at hk; cases hk
    have := hlt j _ _ _ hj; omega
   ·rw [z0b _ _ hk1] at hk
    exact h.inj j k b S1 e1 S2 e2 hj hk
 ·by_cases hj1 : j = i
  ·rw [hj1, z0h] at hj; cases hj; omega
  ·rw [z0b _ _ hj1] at hj; have := hlt j b S1 e1 hj; omega
theorem Step.extra {σ0 : Nat → Loc} {H0 : Heap} {w1 : World} (h : Step σ0 H0 w1 σ H w) {i : Nat} (ob : Obj) (S es : Nat) (hi : H0.next ≤ i) (h0 : σ0 i = .none) :
  Step σ0 H0 w1 (upd σ i (.live w.heap.size S es)) H (w.alloc ob) := by
 have hsz : (w.alloc ob).heap.size = w.heap.size + 1 := by simp
 refine ⟨h.next, fun j => ?_, fun j b S1 e1 hj => ?_, fun b hb hn => ?_, by have := h.size; omega, fun j hj hg => ?_⟩
 ·by_cases hji : j = i
  ·rw [hji]; exact .inl h0
  ·rw [z0b _ _ hji]; exact h.ext j
 ·by_cases hji : j = i
  ·rw [hji, z0h] at hj; cases hj; exact .inl h.size
  ·rw [z0b _ _ hji] at hj; exact h.new j b S1 e1 hj
 ·rw [Below.heap_alloc w _ b (Nat.lt_of_lt_of_le hb h.size)]; exact h.frame b hb hn
 ·have hji : j ≠ i := by
   rintro rfl
   rcases hj with hj | hj
   ·omega
   ·exact hj h0
  rw [z0b _ _ hji]; exact h.keep j hj hg
theorem Step.adopt {σ0 : Nat → Loc} {H0 : Heap} {w1 : World} (h : Step σ0 H0 w1 σ H w) {i : Nat} (B : Blk) (hi : H0.next ≤ i) (h0 : σ0 i = .none) : Step σ0 H0 w1 σ (H.put i (some B)) w := by
 refine ⟨h.next, h.ext, h.new, h.frame, h.size, fun j hj hg => ?_⟩
 obtain ⟨e1, e2⟩ := h.keep j hj hg
 have hji : j ≠ i := by
  rintro rfl
  rcases hj with hj | hj
  ·omega
  ·exact hj h0
 exact ⟨e1, by rw [Heap.get_put, if_neg hji]; exact e2⟩
theorem zh4 {σ0 : Nat → Loc} {H0 : Heap} {w1 : World} {base : Nat} (h0 : ∀ i, base ≤ i → H0.next ≤ i ∧ σ0 i = .none) : ∀ (l : List (Nat × Blk)) (H : Heap), HR P N w0 τ σ H w → Step σ0 H0 w1 σ H w →
  (∀ p ∈ l, BlkR P N σ τ w (σ (base + p.1)) p.2) →
  HR P N w0 τ σ (l.foldl (fun H p => H.put (base + p.1) (some p.2)) H) w ∧ Step σ0 H0 w1 σ (l.foldl (fun H p => H.put (base + p.1) (some p.2)) H) w ∧
  (l.foldl (fun H p => H.put (base + p.1) (some p.2)) H).next = H.next ∧
  ∀ j, (∀ p ∈ l, j ≠ base + p.1) → (l.foldl (fun H p => H.put (base + p.1) (some p.2)) H).get j = H.get j
 | [], H, hH, hs, _ => ⟨hH, hs, rfl, fun _ _ => rfl⟩
 | p :: l, H, hH, hs, hl => by
  have h1 := h0 (base + p.1) (Nat.le_add_right _ _)
  obtain ⟨k1, k2, k3, k4⟩ := zh4 h0 l (H.put (base + p.1) (some p.2)) (hH.adopt (hl p (by simp))) (hs.adopt p.2 h1.1 h1.2) (fun q hq => hl q (List.mem_cons_of_mem _ hq))
  refine ⟨k1, k2, k3, fun j hj => ?_⟩
  rw [List.foldl_cons, k4 j (fun q hq => hj q (List.mem_cons_of_mem _ hq)), Heap.get_put, if_neg (hj p (by simp))]
theorem zat {ops : Array Oper} {o : Oper} {tm : Tr Value} {a : Array Value} {bb : Bool}
  (hT : ∀ j want oj d v, o.guard = some (j, want) → ops[j]? = some oj → oj.dst = some d → tm.get d = some v → VR σ τ v (a.getD d undef)) (h : dwanted ops tm o = some bb) :
  Region.wanted o (yielded ops a) = bb := by
 unfold dwanted at h
 unfold Region.wanted
 cases hg : o.guard with
 | none => rw [hg] at h; simp only [Option.some.injEq] at h; exact h
 | some jw =>
  obtain ⟨j, want⟩ := jw
  rw [hg] at h
  simp only at h ⊢
  cases hd : (ops[j]?).bind (·.dst) with
  | none =>
   rw [hd] at h
   simp only [Option.some.injEq] at h
   subst h
   simp [yielded, hd]
  | some d =>
   rw [hd] at h
   obtain ⟨oj, hoj, hdj⟩ := Option.bind_eq_some_iff.1 hd
   simp only at h
   have hv := hT j want oj d
   cases hq : tm.get d with
   | none => rw [hq] at h; cases h
   | some v =>
    have hvr := hv v hg hoj hdj hq
    rw [hq] at h
    have hin : ∀ u : Value, a.getD d undef = u → u ≠ undef → a[d]? = some u := by
     intro u hu hne
     rw [Array.getD_eq_getD_getElem?] at hu
     cases hx : a[d]? with
     | none => rw [hx] at hu; exact absurd hu.symm hne
     | some z => rw [hx] at hu; simp at hu; rw [hu]
    split at h
    ·rename_i x c hx
     cases hx
     simp only [Option.some.injEq] at h
     subst h
     have := hin _ (hvr.flat_eq rfl) (by simp [undef])
     simp [yielded, hd, this]
    ·rename_i x c hx
     cases hx
     cases h
     obtain ⟨x', e1, _⟩ := hvr.tuple_inv
     have hy : yielded ops a j = none := by
      unfold yielded
      rw [hd]
      simp only [Option.bind_some]
      rw [Array.getD_eq_getD_getElem?] at e1
      cases hx : a[d]? with
      | none => rfl
      | some z => rw [hx] at e1; simp at e1; rw [e1]
     simp [hy]
    ·cases h
end
structure SI (P : Program) (N : Nat) (w0 : World) (τ : Nat → Value) (ops : Array Oper) (b : Array Nat) (base m : Nat) (tm0 tmF : Tr Value) (σ0 : Nat → Loc) (H0 : Heap) (w1 : World)
  (S : Nat → Prop) (done : Nat) (G : Heap) (ds : List Deferred) (σ : Nat → Loc) (a : Act) (w : World) : Prop where
 hH : HR P N w0 τ σ G w
 ta : ∀ t v, (written ops S t → tmF.get t = some v → VR σ τ v (a.tmps.getD t undef)) ∧ (¬ written ops S t → tm0.get t = some v → VR σ τ v (a.tmps.getD t undef))
 dsr : DsR σ τ ds a.defers
 sz : m ≤ a.tmps.size
 ex : ∀ p o B mk, S p → ¬ bit done p → ops[p]? = some o → isAlloc o = true → dwanted ops tmF o = some true → dalloc P o (rho ops b tm0 tmF p) = some (B, mk) → BlkR P N σ τ w (σ (base + p)) B
 non : ∀ p, p < ops.size → ¬ S p → σ (base + p) = .none
 nob : ∀ p, p < ops.size → ¬ bit done p → G.get (base + p) = none
 nx : base + ops.size ≤ G.next
 stp : Step σ0 H0 w1 σ G w
def DrawPost (P : Program) (N : Nat) (w0 : World) (τ : Nat → Value) (m : Nat) (σ0 : Nat → Loc) (H0 : Heap) (w1 : World) (st : St) (Q : Exit → Act → World → Prop) : Prop :=
 ∀ σ a w, HR P N w0 τ σ st.H w → TmR σ τ st.tm a.tmps → DsR σ τ st.ds a.defers → m ≤ a.tmps.size → Step σ0 H0 w1 σ st.H w → Q .normal a w
structure Seen (P : Program) (N : Nat) (w0 : World) (τ : Nat → Value) (ops : Array Oper) (m : Nat) (tm0 : Tr Value) (σ0 : Nat → Loc) (H0 : Heap) (w1 : World) (σ : Nat → Loc) (H : Heap) (a : Act) (w : World) : Prop where
 tm : ∀ t v, (∀ (i : Nat) (o : Oper), ops[i]? = some o → o.dst ≠ some t) → tm0.get t = some v → VR σ τ v (a.tmps.getD t undef)
 sz : m ≤ a.tmps.size
 stp : Step σ0 H0 w1 σ H w
def EffLaw (F : Fence) (P : Program) (N : Nat) (w0 : World) (τ : Nat → Value) (ok : Ok) (n : Nat) (x : Ctx) (ops : Array Oper) (m : Nat) (tm0 : Tr Value) (σ0 : Nat → Loc) (H0 : Heap) (w1 : World) (Q : Exit → Act → World → Prop) (Z : Prop) (B : Oper → (Operand → Value) → List Deferred → Heap → Prop) : Prop :=
 ∀ n', n' < n → ∀ o ρ ds H v ds1 H1, o ∈ ops → Z ∨ B o ρ ds H → dop1 P ok n' x o ρ ds H = some (.val v ds1 H1) →
  ∀ (a : Act) (w : World) (σ : Nat → Loc) (K : Act → World → Prop), (∀ y ∈ o.op.operands.toList, VR σ τ (ρ y) (a.eval y)) → HR P N w0 τ σ H w → DsR σ τ ds a.defers → GR P σ → Seen P N w0 τ ops m tm0 σ0 H0 w1 σ H a w →
   (Z → ∀ σ' v' w' dfs', VR σ' τ v v' → HR P N w0 τ σ' H1 w' → DsR σ' τ ds1 dfs' → Step σ H w σ' H1 w' → K (({ a with defers := dfs' } : Act).put o.dst v') w') → o.wpIn F 0 P a w K Q
section
variable {P : Program} {N : Nat} {w0 : World} {τ : Nat → Value} {ops : Array Oper} {b : Array Nat} {effs : List Nat} {F : Fence} {ok : Ok} {n : Nat} {x : Ctx} {base m : Nat} {tm0 tmF : Tr Value} {σ0 : Nat → Loc} {H0 : Heap} {w1 : World}
theorem z6b (a : Act) (d : Option Tmp) (v : Value) (t : Tmp) : ((a.put d v).tmps.getD t undef = if d = some t ∧ t < a.tmps.size then v else a.tmps.getD t undef) := by
 cases d with
 | none => simp [Act.put]
 | some d =>
  simp only [Act.put, Array.getD_eq_getD_getElem?, Array.getElem?_setIfInBounds]
  by_cases h : d = t
  ·subst h
   by_cases h2 : d < a.tmps.size
   ·simp [h2]
   ·simp [h2]
  ·simp [h]
theorem z19 (a : Act) (d : Option Tmp) (v : Value) : (a.put d v).tmps.size = a.tmps.size := by cases d <;> simp [Act.put]
theorem z10 (a : Act) (d : Option Tmp) (v : Value) : (a.put d v).defers = a.defers := by cases d <;> rfl
theorem SI.opnd {S : Nat → Prop} {done : Nat} {G : Heap} {ds : List Deferred} {σ : Nat → Loc} {a : Act} {w : World} (R : RC ops b effs)
  (h : SI P N w0 τ ops b base m tm0 tmF σ0 H0 w1 S done G ds σ a w) (hS : DS ops b S) (hg : GR P σ) {i : Nat} {o : Oper} (ho : ops[i]? = some o) (hi : ¬ S i) (ha : ∀ j, anc b i j → S j)
  (hok : o.op.operands.toList.all (okOpnd P.globals.size) = true) : ∀ y ∈ o.op.operands.toList, VR σ τ (rho ops b tm0 tmF i y) (a.eval y) := by
 intro y hy
 cases y with
 | tmp t =>
  unfold rho
  simp only
  show VR σ τ _ (a.tmps.getD t undef)
  split
  ·rename_i hw
   show VR σ τ ((tmF.get t).getD junk) _
   cases hq : tmF.get t with
   | none => exact .junk _
   | some v => exact (h.ta t v).1 (z13 ha hw) hq
  ·rename_i hw
   show VR σ τ ((tm0.get t).getD junk) _
   cases hq : tm0.get t with
   | none => exact .junk _
   | some v => exact (h.ta t v).2 (R.not_written hS ho hi hy hw) hq
 | const v => exact .flat _ (List.all_eq_true.1 hok _ hy)
 | global g => exact hg.ptr (by simpa [okOpnd, Nat.blt_eq] using List.all_eq_true.1 hok _ hy)
 | func f => exact .flat _ rfl
theorem SI.slots {S : Nat → Prop} {done : Nat} {G : Heap} {ds : List Deferred} {σ σ' : Nat → Loc} {a a' : Act} {w : World} (R : RC ops b effs)
  (h : SI P N w0 τ ops b base m tm0 tmF σ0 H0 w1 S done G ds σ a w) (he : Ext σ σ') {i : Nat} {o : Oper} (ho : ops[i]? = some o) (hi : ¬ S i) {v' : Value}
  (hd : ∀ d, o.dst = some d → d < m) (hv : ∀ d v, o.dst = some d → tmF.get d = some v → VR σ' τ v v') (ha : a'.tmps = a.tmps) :
  ∀ t v, (written ops (fun j => S j ∨ j = i) t → tmF.get t = some v → VR σ' τ v ((a'.put o.dst v').tmps.getD t undef)) ∧
   (¬ written ops (fun j => S j ∨ j = i) t → tm0.get t = some v → VR σ' τ v ((a'.put o.dst v').tmps.getD t undef)) := by
 intro t v
 rw [z6b, ha]
 by_cases hdt : o.dst = some t
 ·have hlt : t < a.tmps.size := Nat.lt_of_lt_of_le (hd t hdt) h.sz
  rw [if_pos ⟨hdt, hlt⟩]
  exact ⟨fun _ hq => hv t v hdt hq, fun hn => absurd ⟨i, o, .inr rfl, ho, hdt⟩ hn⟩
 ·rw [if_neg (fun h => hdt h.1)]
  constructor
  ·rintro ⟨p, op, hp, hop, hpd⟩ hq
   rcases hp with hp | rfl
   ·exact ((h.ta t v).1 ⟨p, op, hp, hop, hpd⟩ hq).ext he
   ·rw [ho] at hop; cases hop; exact absurd hpd hdt
  ·intro hn hq
   exact ((h.ta t v).2 (fun hw => hn (z13 (fun i hi => .inl hi) hw)) hq).ext he
theorem zau {p q : Nat → Bool} : ∀ {l : List Nat} {i : Nat}, (∀ j, q j = true → p j = true) → i ∈ l → p i = true → q i = false → (l.filter q).length < (l.filter p).length
 | a :: l, i, hpq, hm, hp, hq => by
  have hle : (l.filter q).length ≤ (l.filter p).length := by
   rw [← List.countP_eq_length_filter, ← List.countP_eq_length_filter]
   exact List.countP_mono_left fun j _ hj => hpq j hj
  by_cases hai : a = i
  ·subst hai
   rw [List.filter_cons_of_pos hp, List.filter_cons_of_neg (by simp [hq]), List.length_cons]; omega
  ·have ih := zau hpq ((List.mem_cons.1 hm).resolve_left (fun e => hai e.symm)) hp hq
   by_cases hqa : q a = true
   ·rw [List.filter_cons_of_pos hqa, List.filter_cons_of_pos (hpq a hqa), List.length_cons, List.length_cons]; omega
   ·rw [List.filter_cons_of_neg hqa]
    by_cases hpa : p a = true
    ·rw [List.filter_cons_of_pos hpa, List.length_cons]; omega
    ·rw [List.filter_cons_of_neg hpa]; exact ih
def lst (listed : Array Bool) (i : Nat) : Prop := listed.getD i false = true
theorem zcs {listed : Array Bool} {i j : Nat} (hi : i < listed.size) : lst (listed.setIfInBounds i true) j ↔ lst listed j ∨ j = i := by
 unfold lst
 simp only [Array.getD_eq_getD_getElem?, Array.getElem?_setIfInBounds]
 by_cases h : i = j
 ·subst h; simp [hi]
 ·simp only [if_neg h]
  constructor
  ·exact .inl
  ·rintro (h1 | h1)
   ·exact h1
   ·exact absurd h1.symm h
theorem z6z {listed : Array Bool} {i : Nat} (R : RC ops b effs) (hl : listed.size = ops.size) (hS : DS ops b (lst listed)) :
  i ∈ Region.ready .any ops listed ↔ i < ops.size ∧ ¬ lst listed i ∧ ∀ j, anc b i j → lst listed j := by
 unfold Region.ready
 rw [List.mem_filter, List.mem_range]
 constructor
 ·rintro ⟨h1, h2⟩
  obtain ⟨o, ho⟩ := z34 h1
  simp only [Bool.and_eq_true, Bool.not_eq_true', ho, Option.map_some, Option.getD_some] at h2
  refine ⟨h1, fun hl' => ?_, fun j hj => ?_⟩
  ·unfold lst at hl'
   have h3 := h2.1
   rw [Array.getD_eq_getD_getElem?] at hl' h3
   cases hx : listed[i]? with
   | none => rw [hx] at hl'; cases hl'
   | some v => rw [hx] at hl' h3; simp at hl' h3; rw [hl'] at h3; cases h3
  ·obtain ⟨e, he, hb, h3⟩ := (R.edge i o ho j).1 hj
   have h4 := h2.2
   rw [Array.all_eq_true'] at h4
   have h5 := h4 e (Array.mem_toList_iff.1 he)
   rw [hb] at h5
   simp only [Bool.not_true, Bool.false_or] at h5
   rcases h3 with rfl | h3
   ·exact h5
   ·exact (hS _ h5).2 j h3
 ·rintro ⟨h1, h2, h3⟩
  obtain ⟨o, ho⟩ := z34 h1
  refine ⟨h1, ?_⟩
  simp only [Bool.and_eq_true, Bool.not_eq_true', ho, Option.map_some, Option.getD_some]
  constructor
  ·unfold lst at h2
   rw [Array.getD_eq_getD_getElem?] at h2 ⊢
   cases hx : listed[i]? with
   | none => rw [Array.getElem?_eq_none_iff] at hx; omega
   | some v => rw [hx] at h2; simpa using h2
  ·rw [Array.all_eq_true']
   intro e he
   cases hb : Region.binds .any e with
   | false => rfl
   | true =>
    simp only [Bool.not_true, Bool.false_or]
    exact h3 _ ((R.edge i o ho e.on).2 ⟨e, Array.mem_toList_iff.2 he, hb, .inl rfl⟩)
theorem zfx {listed : Array Bool} (R : RC ops b effs) (hl : listed.size = ops.size) (hS : DS ops b (lst listed)) (h : Region.ready .any ops listed = []) : ∀ i, i < ops.size → lst listed i := by
 intro i
 induction i using Nat.strongRecOn with
 | _ i ih =>
  intro hi
  by_cases hx : lst listed i
  ·exact hx
  ·have : i ∈ Region.ready .any ops listed := (z6z R hl hS).2 ⟨hi, hx, fun j hj => ih j (R.anc_lt _ _ hj) (by have := R.anc_lt _ _ hj; omega)⟩
   rw [h] at this; cases this
end
end Go.Hb
end

section
namespace Go.Hb
open Go Go.RowKit
theorem zav {v u : Value} (h : cellEq v u = true) : v = u := by
 unfold cellEq at h
 rw [Bool.or_eq_true] at h
 rcases h with h | h
 ·exact zdn v u h
 ·split at h
  ·rfl
  ·cases h
theorem z5t : ∀ {a b : List Value}, cellsEq a b = true → a = b
 | [], [], _ => rfl
 | v :: a, u :: b, h => by
  unfold cellsEq at h
  rw [Bool.and_eq_true] at h
  rw [zav h.1, z5t h.2]
 | [], _ :: _, h => by unfold cellsEq at h; cases h
 | _ :: _, [], h => by unfold cellsEq at h; cases h
theorem z9k {a b : Option Blk} (h : blkEq a b = true) : a = b := by
 unfold blkEq at h
 split at h
 ·rfl
 ·rw [Bool.and_eq_true, Nat.beq_eq] at h; rw [h.1, z5t h.2]
 ·rw [Bool.and_eq_true, Nat.beq_eq] at h; rw [h.1, z5t h.2]
 ·rw [Nat.beq_eq] at h; rw [h]
 ·cases h
theorem zh5 {a b : Option Value} (h : slotEq a b = true) : a = b := by
 unfold slotEq at h
 split at h
 ·rfl
 ·rw [zav h]
 ·cases h
section
variable {P : Program} {ops : Array Oper} {b : Array Nat} {effs : List Nat} {ok : Ok} {n : Nat} {x : Ctx} {base : Nat}
theorem zh6 {p q : Nat} {st st' : St} (h : agree ops base p q st st' = true) :
  (∀ (i : Nat) (o : Oper) (d : Tmp), ops[i]? = some o → o.dst = some d → st.tm.get d = st'.tm.get d) ∧ st.H.get p = st'.H.get p ∧ st.H.get q = st'.H.get q ∧ ∀ i, i < ops.size → st.H.get (base + i) = st'.H.get (base + i) := by
 unfold agree at h
 simp only [Bool.and_eq_true, List.all_eq_true] at h
 obtain ⟨⟨⟨h1, h2⟩, h3⟩, h4⟩ := h
 refine ⟨fun i o d ho hd => ?_, z9k h2, z9k h3, fun i hi => z9k (h4 i (List.mem_range.2 hi))⟩
 have hm : o ∈ ops.toList := by
  obtain ⟨k1, k2⟩ := Array.getElem?_eq_some_iff.1 ho
  rw [← k2]; exact Array.getElem_mem_toList k1
 have := h1 o hm
 rw [hd] at this
 exact zh5 this
theorem zk2 {e : Nat} {o : Oper} (h : isSt ops e = true) (ho : ops[e]? = some o) : o.dst = none ∧ o.guard = none ∧ ∃ t a v, o.op = .store t a v := by
 unfold isSt at h
 rw [ho] at h
 simp only [Bool.and_eq_true, Option.isNone_iff_eq_none] at h
 refine ⟨h.1.1, h.1.2, ?_⟩
 have := h.2
 split at this
 ·rename_i t a v hop; exact ⟨t, a, v, hop⟩
 ·cases this
theorem z5u : ∀ (l : List (Nat × Blk)) (H : Heap), (l.foldl (fun H p => H.put (base + p.1) (some p.2)) H).next = H.next ∧
  ∀ j, (∀ p ∈ l, j ≠ base + p.1) → (l.foldl (fun H p => H.put (base + p.1) (some p.2)) H).get j = H.get j
 | [], H => ⟨rfl, fun _ _ => rfl⟩
 | p :: l, H => by
  obtain ⟨h1, h2⟩ := z5u l (H.put (base + p.1) (some p.2))
  refine ⟨h1, fun j hj => ?_⟩
  rw [List.foldl_cons, h2 j (fun q hq => hj q (List.mem_cons_of_mem _ hq)), Heap.get_put, if_neg (hj p (by simp))]
theorem zct {o : Oper} {ρ : Operand → Value} {ds ds1 : List Deferred} {H H' : Heap} {v : Value} {t : TypeId} {a y : Operand} (hop : o.op = .store t a y) (h : dop1 P ok n x o ρ ds H = some (.val v ds1 H')) :
  ds1 = ds ∧ H'.next = H.next ∧ ∀ j, stBlk o ρ ≠ some j → H'.get j = H.get j := by
 cases n with
 | zero => unfold dop1 at h; cases h
 | succ n =>
  unfold dop1 at h
  have hd : ∀ r, dop P o ρ H = some r → ∃ H2, r = .val undef H2 ∧ H2.next = H.next ∧ ∀ j, stBlk o ρ ≠ some j → H2.get j = H.get j := by
   intro r hr
   unfold dop at hr
   rw [hop] at hr
   simp only at hr
   split at hr
   ·rename_i ad hρ
    split at hr
    ·obtain ⟨H2, h2, rfl⟩ := Option.map_eq_some_iff.1 hr
     refine ⟨H2, rfl, ?_⟩
     unfold Heap.store at h2
     split at h2
     ·split at h2
      ·cases h2
       refine ⟨rfl, fun j hj => ?_⟩
       rw [Heap.get_put, if_neg]
       rintro rfl
       refine hj ?_
       unfold stBlk
       rw [hop]
       simp only [hρ]
      ·cases h2
     ·cases h2
    ·cases hr
   ·cases hr
  split at h
  ·rename_i v' H2 hd2
   cases h
   obtain ⟨H3, e, h1, h2⟩ := hd _ hd2
   cases e
   exact ⟨rfl, h1, h2⟩
  all_goals first
   | (rename_i hd2; obtain ⟨_, e, _⟩ := hd _ hd2; cases e; done)
   | cases h
   | skip
theorem z4q {o : Oper} {ρ ρ' : Operand → Value} (h : ∀ y ∈ o.op.operands.toList, ρ y = ρ' y) : stBlk o ρ = stBlk o ρ' := by
 unfold stBlk
 cases hop : o.op with
 | store t a v =>
  simp only
  rw [h a (by rw [hop]; simp [Op.operands])]
 | _ => rfl
theorem z2o (R : RC ops b effs) {tm0 : Tr Value} {st : St} : ∀ {es : List Nat} {n done : Nat} {G : Heap} {gs : List Heap} {tm : Tr Value} {ds : List Deferred} {k : Nat},
  ddraw P ok n x ops b effs base es done (G :: gs) tm ds = some st → DI ops b effs tm0 es done tm k → (∀ e ∈ es, isSt ops e = true) →
  st.H.next = G.next ∧ st.ds = ds ∧ ∀ j, (∀ i, i < ops.size → j ≠ base + i) → (∀ e ∈ es, ∀ o, ops[e]? = some o → stBlk o (rho ops b tm0 st.tm e) ≠ some j) → st.H.get j = G.get j
 | [], n, done, G, gs, tm, ds, k, h, D, _ => by
  obtain ⟨tm1, H1, hd, rfl⟩ := z57 h
  obtain ⟨_, _, l, hl1, hl2⟩ := z1d R (tmF := tm1) hd z4p D.ds (D.last R) (fun t _ => rfl) D.t0
  simp only at hl1
  subst hl1
  obtain ⟨f1, f2⟩ := z5u (base := base) l G
  exact ⟨f1, rfl, fun j hj _ => f2 j fun p hp => hj p.1 (z3e.1 (hl2 p hp).1).1⟩
 | e :: es, n, done, G, gs, tm, ds, k, h, D, hst => by
  obtain ⟨n', tm1, H1, o, v, ds1, H2, _, hdn, ho, h', hc⟩ := z2i h
  obtain ⟨f1, f2⟩ := z2n R D ho h'
  obtain ⟨_, ht0, l, hl1, hl2⟩ := z1d R (tmF := st.tm) hdn z1h D.ds (D.pend R) f1 D.t0
  simp only at hl1
  subst hl1
  obtain ⟨g1, g2⟩ := z5u (base := base) l G
  obtain ⟨e1, e2, t, a, y, e3⟩ := zk2 (hst e (by simp)) ho
  obtain ⟨k1, k2, k3⟩ := z2o R h' (D.next R (z9j R ho ht0)) (fun f hf => hst f (List.mem_cons_of_mem _ hf))
  rcases hc with ⟨c1, _⟩ | ⟨c1, c2⟩
  ·rw [wanted_none' e2] at c1; cases c1
  ·obtain ⟨s1, s2, s3⟩ := zct e3 c2
   refine ⟨by rw [k1, s2, g1], by rw [k2, s1], fun j hj hno => ?_⟩
   rw [k3 j hj (fun f hf of hof => hno f (List.mem_cons_of_mem _ hf) of hof), s3 j ?_, g2 j fun p hp => hj p.1 (z0o.1 (hl2 p hp).1).1]
   have hrho := pend_rho R D ho ht0 f1
   rw [z4q hrho]
   exact hno e (by simp) o ho
where
 wanted_none' {tm : Tr Value} {o : Oper} (h : o.guard = none) : dwanted ops tm o = some true := by unfold dwanted; rw [h]
 pend_rho (R : RC ops b effs) {tm0 : Tr Value} {st : St} {es : List Nat} {done : Nat} {tm tm1 : Tr Value} {k e : Nat} {o : Oper} (D : DI ops b effs tm0 (e :: es) done tm k) (ho : ops[e]? = some o)
   (ht0 : ∀ t, ¬ written ops (fun i => bit done i ∨ i ∈ pending (List.range ops.size) effs (b.getD e 0) done) t → tm1.get t = tm0.get t)
   (f1 : ∀ t, written ops (fun i => bit done i ∨ i ∈ pending (List.range ops.size) effs (b.getD e 0) done) t → tm1.get t = st.tm.get t) :
   ∀ y ∈ o.op.operands.toList, ev tm1 y = rho ops b tm0 st.tm e y := by
  have hTI : TI ops tm0 st.tm (fun j => bit done j ∨ j ∈ pending (List.range ops.size) effs (b.getD e 0) done) tm1 := fun t => ⟨f1 t, ht0 t⟩
  have hdsL : DS ops b (fun j => bit done j ∨ j ∈ pending (List.range ops.size) effs (b.getD e 0) done) := fun j hj => by
   rcases hj with hj | hj
   ·exact ⟨(D.ds j hj).1, fun k hk => .inl ((D.ds j hj).2 k hk)⟩
   ·exact ⟨((D.pend R) j hj).1, ((D.pend R) j hj).2.2.2⟩
  refine R.ev_rho hdsL hTI ho ?_ ?_
  ·rintro (h | h)
   ·exact D.noe e (by simp) h
   ·have := R.anc_lt _ _ (z0o.1 h).2.1; omega
  ·intro j hj
   by_cases hb : bit done j
   ·exact .inl hb
   ·refine .inr (z0o.2 ⟨by have := R.anc_lt _ _ hj; have := z17 ho; omega, hj, hb, fun hje => ?_⟩)
    obtain ⟨pre, hp, hpd, _⟩ := D.sfx
    rw [hp.mem_iff] at hje
    rcases List.mem_append.1 hje with hje | hje
    ·exact hb (hpd j hje)
    ·rcases List.mem_cons.1 hje with rfl | hje
     ·have := R.anc_lt _ _ hj; omega
     ·exact ((List.pairwise_cons.1 D.topo).1 j hje).2 hj
theorem DI.swap {tm0 tm : Tr Value} {e f done k : Nat} (D : DI ops b effs tm0 [e, f] done tm k) (hb : ¬ anc b f e) (h1 : isSt ops e = true) (h2 : isSt ops f = true) : DI ops b effs tm0 [f, e] done tm k := by
 obtain ⟨pre, hp, hpd, hk⟩ := D.sfx
 have ht := (List.pairwise_cons.1 D.topo).1 f (by simp)
 refine ⟨D.ds, ⟨pre, hp.trans (List.Perm.append_left _ (List.Perm.swap f e [])), hpd, hk⟩, ?_, ?_, fun g hg => D.noe g (by simp at hg ⊢; exact hg.symm), D.t0⟩
 ·simp [chainOK, h1, h2]
 ·simp only [List.pairwise_cons, List.mem_singleton, List.not_mem_nil, false_implies, implies_true, List.Pairwise.nil, and_true, forall_eq]
  exact ⟨fun h => ht.1 h.symm, hb⟩
theorem zh7 (R : RC ops b effs) {tm0 : Tr Value} {st st' : St} {e f p q done k : Nat} {G : Heap} {gs : List Heap} {tm : Tr Value} {ds : List Deferred}
  (h : ddraw P ok n x ops b effs base [e, f] done (G :: gs) tm ds = some st) (h' : ddraw P ok n x ops b effs base [f, e] done (G :: gs) tm ds = some st') (D : DI ops b effs tm0 [e, f] done tm k)
  (hb : ¬ anc b f e) (h1 : isSt ops e = true) (h2 : isSt ops f = true) (hpq : dtwin P ops b effs base done (G :: gs) tm e f = some (p, q)) (hag : agree ops base p q st st' = true) :
  (∀ t, st'.tm.get t = st.tm.get t) ∧ (∀ j, st'.H.get j = st.H.get j) ∧ st'.H.next = st.H.next ∧ st'.ds = st.ds := by
 have D' := D.swap hb h1 h2
 obtain ⟨a1, a2, a3, a4⟩ := zh6 hag
 have htm : ∀ t, st'.tm.get t = st.tm.get t := by
  intro t
  by_cases hw : ∃ (i : Nat) (o : Oper), ops[i]? = some o ∧ o.dst = some t
  ·obtain ⟨i, o, ho, hd⟩ := hw
   exact (a1 i o t ho hd).symm
  ·rw [z2m R (k := k) h D.noe D.topo (fun i o ho hd => absurd ⟨i, o, ho, hd⟩ hw), z2m R (k := k) h' D'.noe D'.topo (fun i o ho hd => absurd ⟨i, o, ho, hd⟩ hw)]
 have hst : ∀ g ∈ [e, f], isSt ops g = true := fun g hg => by
  rcases List.mem_cons.1 hg with rfl | hg
  ·exact h1
  ·rw [List.mem_singleton] at hg; subst hg; exact h2
 have hst' : ∀ g ∈ [f, e], isSt ops g = true := fun g hg => hst g (by simp at hg ⊢; exact hg.symm)
 obtain ⟨s1, s2, s3⟩ := z2o R h D hst
 obtain ⟨s1', s2', s3'⟩ := z2o R h' D' hst'
 have hrho : ∀ i, rho ops b tm0 st'.tm i = rho ops b tm0 st.tm i := fun i => by
  funext y
  unfold rho
  cases y with
  | tmp t => simp only [ev, htm]
  | _ => rfl
 have hp : ∀ o, ops[e]? = some o → stBlk o (rho ops b tm0 st.tm e) = some p := by
  intro o ho
  obtain ⟨n', tm1, H1, o', v, ds1, H2, _, hdn, ho', hr, hc⟩ := z2i h
  rw [ho] at ho'; cases ho'
  obtain ⟨f1, f2⟩ := z2n R D ho hr
  obtain ⟨_, ht0, _⟩ := z1d R (tmF := st.tm) hdn z1h D.ds (D.pend R) f1 D.t0
  rw [← z4q (z2o.pend_rho R D ho ht0 f1)]
  unfold dtwin at hpq
  simp only at hpq
  rw [hdn, ho] at hpq
  split at hpq
  ·rename_i t1 _ t2 _ o1 o2 q1 q2 q3 q4
   cases q1; cases q3
   split at hpq
   ·rename_i p' q' r1 r2
    cases hpq; exact r1
   ·cases hpq
  ·cases hpq
 have hq : ∀ o, ops[f]? = some o → stBlk o (rho ops b tm0 st.tm f) = some q := by
  intro o ho
  obtain ⟨n', tm1, H1, o', v, ds1, H2, _, hdn, ho', hr, hc⟩ := z2i h'
  rw [ho] at ho'; cases ho'
  obtain ⟨f1, f2⟩ := z2n R D' ho hr
  obtain ⟨_, ht0, _⟩ := z1d R (tmF := st'.tm) hdn z1h D'.ds (D'.pend R) f1 D'.t0
  rw [← hrho, ← z4q (z2o.pend_rho R D' ho ht0 f1)]
  unfold dtwin at hpq
  simp only at hpq
  rw [hdn, ho] at hpq
  split at hpq
  ·rename_i t1 _ t2 _ o1 o2 q1 q2 q3 q4
   cases q2; cases q4
   split at hpq
   ·rename_i p' q' r1 r2
    cases hpq; exact r2
   ·cases hpq
  ·cases hpq
 refine ⟨htm, fun j => ?_, by rw [s1, s1'], by rw [s2, s2']⟩
 by_cases hjp : j = p
 ·rw [hjp]; exact a2.symm
 ·by_cases hjq : j = q
  ·rw [hjq]; exact a3.symm
  ·by_cases hjb : ∃ i, i < ops.size ∧ j = base + i
   ·obtain ⟨i, hi, rfl⟩ := hjb
    exact (a4 i hi).symm
   ·have hj0 : ∀ i, i < ops.size → j ≠ base + i := fun i hi hij => hjb ⟨i, hi, hij⟩
    have hno : ∀ g, (g = e ∨ g = f) → ∀ o, ops[g]? = some o → stBlk o (rho ops b tm0 st.tm g) ≠ some j := by
     rintro g (rfl | rfl) o ho hh
     ·rw [hp o ho] at hh; cases hh; exact hjp rfl
     ·rw [hq o ho] at hh; cases hh; exact hjq rfl
    rw [s3 j hj0 (fun g hg o ho => hno g (by simpa using hg) o ho), s3' j hj0 (fun g hg o ho => by rw [hrho]; exact hno g (by simp at hg; exact hg.symm) o ho)]
theorem HR.like {N : Nat} {w0 w : World} {τ : Nat → Value} {σ : Nat → Loc} {H H' : Heap} (h : HR P N w0 τ σ H' w) (hg : ∀ j, H'.get j = H.get j) (hn : H'.next = H.next) : HR P N w0 τ σ H w :=
 ⟨h.below, h.size, fun i hi => h.fresh i (by rw [hn]; exact hi), fun i B hB => h.blk i B (by rw [hg]; exact hB), h.inj, h.lt⟩
theorem Step.like {σ σ' : Nat → Loc} {w w' : World} {H0 H H' : Heap} (h : Step σ H0 w σ' H' w') (hg : ∀ j, H'.get j = H.get j) (hn : H'.next = H.next) : Step σ H0 w σ' H w' :=
 ⟨by rw [← hn]; exact h.next, h.ext, h.new, h.frame, h.size, fun i hi h0 => ⟨(h.keep i hi h0).1, by rw [← hg]; exact (h.keep i hi h0).2⟩⟩
theorem DrawPost.like {N : Nat} {w0 w1 : World} {τ : Nat → Value} {m : Nat} {σ0 : Nat → Loc} {H0 : Heap} {st st' : St} {Q : Exit → Act → World → Prop} (hQ : DrawPost P N w0 τ m σ0 H0 w1 st Q)
  (ht : ∀ t, st'.tm.get t = st.tm.get t) (hg : ∀ j, st'.H.get j = st.H.get j) (hn : st'.H.next = st.H.next) (hd : st'.ds = st.ds) : DrawPost P N w0 τ m σ0 H0 w1 st' Q :=
 fun σ a w hH htm hds hsz hst => hQ σ a w (hH.like hg hn) (fun t v hv => htm t v (by rw [ht]; exact hv)) (by rw [← hd]; exact hds) hsz (hst.like hg hn)
theorem SI.like {N : Nat} {w0 w1 w : World} {τ : Nat → Value} {m : Nat} {tm0 tmF tmF' : Tr Value} {σ0 σ : Nat → Loc} {H0 G : Heap} {S : Nat → Prop} {done : Nat} {ds : List Deferred} {a : Act}
  (I : SI P N w0 τ ops b base m tm0 tmF σ0 H0 w1 S done G ds σ a w) (ht : ∀ t, tmF'.get t = tmF.get t) : SI P N w0 τ ops b base m tm0 tmF' σ0 H0 w1 S done G ds σ a w := by
 have hrho : ∀ i, rho ops b tm0 tmF' i = rho ops b tm0 tmF i := fun i => by
  funext y
  unfold rho
  cases y with
  | tmp t => simp only [ev, ht]
  | _ => rfl
 have hw : ∀ o, dwanted ops tmF' o = dwanted ops tmF o := fun o => by
  unfold dwanted
  simp only [ht]
 exact ⟨I.hH, fun t v => by rw [ht]; exact I.ta t v, I.dsr, I.sz, fun p o B mk h1 h2 h3 h4 h5 h6 => I.ex p o B mk h1 h2 h3 h4 (by rw [← hw]; exact h5) (by rw [← hrho]; exact h6), I.non, I.nob, I.nx, I.stp⟩
end
end Go.Hb
end

section
namespace Go.Hb
open Go Go.RowKit
theorem z4r {F : Fence} {n : Nat} {P : Program} {o : Oper} {a : Act} {w w' : World} {K : Act → World → Prop} {Q : Exit → Act → World → Prop} {nx : Next} {v' : Value} (hF : ∀ f, F.fn f) (hnd : ∀ c, o.op ≠ .defer c)
    (hr : (execOp a.eval o).run P w = .ok nx w') (hx : nx = .value v' ∨ (nx = .skip ∧ v' = undef)) (hK : K (a.put o.dst v') w') : o.wpIn F n P a w K Q := by
  refine ⟨fun f _ => hF f, ?_⟩
  rw [Oper.semAt_eq _ _ _ hnd, hr]
  rcases hx with rfl | ⟨rfl, rfl⟩
  · rw [Oper.uponIn_value]; exact hK
  · rw [Oper.uponIn_skip]; exact hK
theorem zaw {o : Oper} (h : isEff o = false) : ∀ c, o.op ≠ .defer c := by
  intro c hc
  unfold isEff at h
  rw [hc] at h
  cases h
def HZ (Z : Prop) (B : Oper → (Operand → Value) → List Deferred → Heap → Prop) (P : Program) (ops : Array Oper) (b : Array Nat) (effs : List Nat) (base : Nat) (es : List Nat) (done : Nat) (G : Heap) (gs : List Heap) (tm : Tr Value) (ds : List Deferred) : Prop :=
  Z ∨ ∃ e r tm1 H1 o, es = e :: r ∧ isSt ops e = false ∧ ops[e]? = some o ∧ dnon P ops b effs base (G :: gs) (pending (List.range ops.size) effs (b.getD e 0) done) tm G = some (tm1, H1) ∧ dwanted ops tm1 o = some true ∧ B o (ev tm1) ds H1
section
variable {P : Program} {N : Nat} {w0 : World} {τ : Nat → Value} {ops : Array Oper} {b : Array Nat} {effs : List Nat} {F : Fence} {ok : Ok} {n : Nat} {x : Ctx} {base m : Nat} {tm0 : Tr Value} {σ0 : Nat → Loc} {H0 : Heap} {w1 : World} {Q : Exit → Act → World → Prop}
theorem zms {listed : Array Bool} {i fuel : Nat} (hl : listed.size = ops.size) (hi : i < ops.size) (hn : ¬ lst listed i)
    (h : ((List.range ops.size).filter fun j => !listed.getD j false).length ≤ fuel + 1) : ((List.range ops.size).filter fun j => !(listed.setIfInBounds i true).getD j false).length ≤ fuel := by
  have := zau (p := fun j => !listed.getD j false) (q := fun j => !(listed.setIfInBounds i true).getD j false) (l := List.range ops.size) (i := i) (fun j hj => by
    have h1 : ¬ lst (listed.setIfInBounds i true) j := by unfold lst; simpa using hj
    rw [zcs (by omega)] at h1
    have h2 : ¬ lst listed j := fun h => h1 (.inl h)
    unfold lst at h2
    simpa using h2) (List.mem_range.2 hi) (by unfold lst at hn; simpa using hn) (by
    have h1 : lst (listed.setIfInBounds i true) i := (zcs (by omega)).2 (.inr rfl)
    unfold lst at h1
    simp [h1])
  omega
set_option maxHeartbeats 1000000 in
theorem zk3 (R : RC ops b effs) (hF : ∀ f, F.fn f) (hτ : ∀ j, (τ j).oneCell' = true) (hok : ops.toList.all (okOper P.globals.size m) = true) {Z : Prop} {B : Oper → (Operand → Value) → List Deferred → Heap → Prop} (hE : EffLaw F P N w0 τ ok n x ops m tm0 σ0 H0 w1 Q Z B)
    (hg0 : GR P σ0) (hb0 : ∀ i, base ≤ i → H0.next ≤ i ∧ σ0 i = .none) :
    ∀ (fuel : Nat) (listed : Array Bool) (n' : Nat) (es : List Nat) (done : Nat) (G : Heap) (gs : List Heap) (tm : Tr Value) (ds : List Deferred) (σ : Nat → Loc) (a : Act) (w : World) (st : St), n' ≤ n →
    (Z → DrawPost P N w0 τ m σ0 H0 w1 st Q) → HZ Z B P ops b effs base es done G gs tm ds → es.Pairwise (· < ·) →
    ddraw P ok n' x ops b effs base es done (G :: gs) tm ds = some st → DI ops b effs tm0 es done tm gs.length → listed.size = ops.size → DS ops b (lst listed) → (∀ i, bit done i → lst listed i) → (∀ e ∈ es, ¬ lst listed e) →
    SI P N w0 τ ops b base m tm0 st.tm σ0 H0 w1 (lst listed) done G ds σ a w → ((List.range ops.size).filter fun i => !listed.getD i false).length ≤ fuel →
    wpAnyIn F 0 P .any ops Q fuel listed a w := by
  have fin : ∀ (listed : Array Bool) (n' : Nat) (es : List Nat) (done : Nat) (G : Heap) (gs : List Heap) (tm : Tr Value) (ds : List Deferred) (σ : Nat → Loc) (a : Act) (w : World) (st : St),
      (Z → DrawPost P N w0 τ m σ0 H0 w1 st Q) → HZ Z B P ops b effs base es done G gs tm ds → ddraw P ok n' x ops b effs base es done (G :: gs) tm ds = some st → DI ops b effs tm0 es done tm gs.length → (∀ i, i < ops.size → lst listed i) → DS ops b (lst listed) → (∀ e ∈ es, ¬ lst listed e) →
      SI P N w0 τ ops b base m tm0 st.tm σ0 H0 w1 (lst listed) done G ds σ a w → Q .normal a w := by
    intro listed n' es done G gs tm ds σ a w st hQz hZ hd D hall hS hes I
    have hnil : es = [] := by
      cases es with
      | nil => rfl
      | cons e es =>
        obtain ⟨pre, hp, _⟩ := D.sfx
        obtain ⟨o, ho, _⟩ := R.mem_effs.1 (show e ∈ effs from hp.mem_iff.2 (by simp))
        exact absurd (hall e (z17 ho)) (hes e (by simp))
    subst hnil
    have hQ := hQz (hZ.resolve_right fun ⟨_, _, _, _, _, h, _⟩ => by cases h)
    obtain ⟨tm1, H1, hdn, hst⟩ := z57 hd
    have hfac := z1d R (tmF := tm1) hdn z4p D.ds (D.last R) (fun t _ => rfl) D.t0
    obtain ⟨_, ht0, l, hl1, hl2⟩ := hfac
    have htm : st.tm = tm1 := by rw [hst]
    have hH1 : st.H = H1 := by rw [hst]
    have hds : st.ds = ds := by rw [hst]
    simp only at hl1
    obtain ⟨k1, k2, _, _⟩ := zh4 (P := P) (N := N) (w0 := w0) (τ := τ) (base := base) hb0 l G I.hH I.stp (fun p hp => by
      obtain ⟨q1, o, mk, q2, q3, q4, q5⟩ := hl2 p hp
      exact I.ex p.1 o p.2 mk (hall _ (z17 q2)) (z3e.1 q1).2.1 q2 q3 (by rw [htm]; exact q4) (by rw [htm]; exact q5))
    rw [← hl1] at k1 k2
    refine hQ σ a w (by rw [hH1]; exact k1) (fun t v hv => ?_) (by rw [hds]; exact I.dsr) I.sz (by rw [hH1]; exact k2)
    by_cases hw : written ops (lst listed) t
    · exact (I.ta t v).1 hw hv
    · refine (I.ta t v).2 hw ?_
      rw [htm, ht0 t (fun hw' => hw (z13 (fun i hi => ?_) hw'))] at hv
      · exact hv
      · rcases hi with hi | hi
        · exact hall i (D.ds i hi).1
        · exact hall i (z3e.1 hi).1
  intro fuel
  induction fuel with
  | zero =>
    intro listed n' es done G gs tm ds σ a w st hn hQ hZ hso hd D hl hS hdS hes I hle
    have hall : ∀ i, i < ops.size → lst listed i := fun i hi => by
      have hnil : ((List.range ops.size).filter fun i => !listed.getD i false) = [] := List.eq_nil_of_length_eq_zero (by omega)
      have := (List.filter_eq_nil_iff.1 hnil) i (List.mem_range.2 hi)
      unfold lst; simpa using this
    refine ⟨?_, fin listed n' es done G gs tm ds σ a w st hQ hZ hd D hall hS hes I⟩
    refine List.eq_nil_iff_forall_not_mem.2 fun i hi => ?_
    have := (z6z R hl hS).1 hi
    exact this.2.1 (hall i this.1)
  | succ fuel ih =>
    intro listed n' es0 done G gs tm ds σ a w st0 hn hQ0 hZ0 hso0 hd0 D0 hl hS hdS hes0 I0 hle
    refine ⟨fun hr => fin listed n' es0 done G gs tm ds σ a w st0 hQ0 hZ0 hd0 D0 (zfx R hl hS hr) hS hes0 I0, fun i hi => ?_⟩
    obtain ⟨hiz, hil, hia⟩ := (z6z R hl hS).1 hi
    have adapt : ∃ (st : St) (es : List Nat), (Z → DrawPost P N w0 τ m σ0 H0 w1 st Q) ∧ HZ Z B P ops b effs base es done G gs tm ds ∧ ddraw P ok n' x ops b effs base es done (G :: gs) tm ds = some st ∧ DI ops b effs tm0 es done tm gs.length ∧ (∀ e ∈ es, ¬ lst listed e) ∧
        SI P N w0 τ ops b base m tm0 st.tm σ0 H0 w1 (lst listed) done G ds σ a w ∧ (∀ r, es = i :: r → r.Pairwise (· < ·)) ∧ (i ∈ es → ∃ r, es = i :: r) ∧ (i ∉ es → es.Pairwise (· < ·)) := by
      have hrs : ∀ r, es0 = i :: r → r.Pairwise (· < ·) := fun r hr => by rw [hr] at hso0; exact (List.pairwise_cons.1 hso0).2
      by_cases hie : i ∈ es0
      · cases es0 with
        | nil => cases hie
        | cons e r =>
          by_cases hei : i = e
          · exact ⟨st0, e :: r, hQ0, hZ0, hd0, D0, hes0, I0, hrs, fun _ => ⟨r, by rw [hei]⟩, fun _ => hso0⟩
          · have hir : i ∈ r := (List.mem_cons.1 hie).resolve_left hei
            rcases z8k D0.ord with h | ⟨f, rfl, h1, h2⟩
            · exact absurd (hia e (h i hir)) (hes0 e (by simp))
            · rw [List.mem_singleton] at hir
              subst hir
              have hb : ¬ anc b i e := fun h => hes0 e (by simp) (hia e h)
              have hlt : e < i := (List.pairwise_cons.1 hso0).1 i (by simp)
              obtain ⟨st', p, q, t1, t2, t3⟩ := zfw (by unfold anc at hb; simpa using hb) hlt hd0
              obtain ⟨s1, s2, s3, s4⟩ := zh7 R hd0 t1 D0 hb h1 h2 t2 t3
              have hz : Z := hZ0.resolve_right fun ⟨e', _, _, _, _, he', hn, _⟩ => by cases he'; rw [h1] at hn; cases hn
              refine ⟨st', [i, e], fun z => (hQ0 z).like s1 s2 s3 s4, .inl hz, t1, D0.swap hb h1 h2, fun g hg => hes0 g (by simp at hg ⊢; exact hg.symm), I0.like s1, fun r hr => ?_, fun _ => ⟨[e], rfl⟩, fun h => absurd (by simp) h⟩
              cases hr
              exact List.pairwise_singleton _ _
      · exact ⟨st0, es0, hQ0, hZ0, hd0, D0, hes0, I0, hrs, fun h => absurd h hie, fun _ => hso0⟩
    obtain ⟨st, es, hQ, hZ, hd, D, hes, I, hso1, hhead, hso2⟩ := adapt
    obtain ⟨o, ho⟩ := z34 hiz
    have hg : GR P σ := hg0.ext I.stp.ext
    have hoko : okOper P.globals.size m o = true := List.all_eq_true.1 hok o (by have := Array.getElem?_eq_some_iff.1 ho; obtain ⟨h1, h2⟩ := this; rw [← h2]; exact Array.getElem_mem_toList h1)
    unfold okOper at hoko
    rw [Bool.and_eq_true] at hoko
    have hdm : ∀ d, o.dst = some d → d < m := fun d hd => by have := hoko.1; rw [hd] at this; simpa [Nat.blt_eq] using this
    have hop := I.opnd R hS hg ho hil hia hoko.2
    have hl' : (listed.setIfInBounds i true).size = ops.size := by simpa using hl
    have hset : ∀ j, lst (listed.setIfInBounds i true) j ↔ lst listed j ∨ j = i := fun j => zcs (by omega)
    have hSeq : lst (listed.setIfInBounds i true) = fun j => lst listed j ∨ j = i := funext fun j => propext (hset j)
    have hS' : DS ops b (lst (listed.setIfInBounds i true)) := fun j hj => by
      rw [hset] at hj
      rcases hj with hj | rfl
      · exact ⟨(hS j hj).1, fun k hk => (hset k).2 (.inl ((hS j hj).2 k hk))⟩
      · exact ⟨hiz, fun k hk => (hset k).2 (.inl (hia k hk))⟩
    have hle' := zms (ops := ops) hl hiz hil hle
    have hwant : ∀ bb, dwanted ops st.tm o = some bb → Region.wanted o (yielded ops a.tmps) = bb := fun bb hw => by
      refine zat (σ := σ) (τ := τ) (fun j want oj d v hgd hoj hdj hv => ?_) hw
      exact (I.ta d v).1 ⟨j, oj, hia j (R.guard i o j want ho hgd), hoj, hdj⟩ hv
    unfold wpOpIn
    rw [ho]
    simp only
    by_cases hie : i ∈ es
    ·
      cases es with
      | nil => cases hie
      | cons e es =>
        obtain ⟨pre, hp, hpd, hk⟩ := D.sfx
        obtain ⟨r, hr⟩ := hhead hie
        have hso := hso1 r hr
        cases hr
        obtain ⟨n'', tm1, H1, o', v, ds1, H2, hlt', hdn, ho', hrest, hcase⟩ := z2i hd
        rw [ho] at ho'
        cases ho'
        obtain ⟨f1, f2⟩ := z2n R D ho hrest
        obtain ⟨_, ht0, l, hl1, hl2⟩ := z1d R (tmF := st.tm) hdn z1h D.ds (D.pend R) f1 D.t0
        simp only at hl1
        have hlS : ∀ p ∈ l, lst listed p.1 ∧ ¬ bit done p.1 ∧ anc b i p.1 := fun p hp => by
          have := z0o.1 (hl2 p hp).1
          exact ⟨hia _ this.2.1, this.2.2.1, this.2.1⟩
        obtain ⟨k1, k2, k3, k4⟩ := zh4 (P := P) (N := N) (w0 := w0) (τ := τ) (base := base) hb0 l G I.hH I.stp (fun p hp => by
          obtain ⟨q1, o2, mk, q2, q3, q4, q5⟩ := hl2 p hp
          exact I.ex p.1 o2 p.2 mk (hlS p hp).1 (hlS p hp).2.1 q2 q3 q4 q5)
        rw [← hl1] at k1 k2 k3 k4
        have hget1 : ∀ p, p < ops.size → ¬ bit (done ||| b.getD i 0 ||| 2 ^ i) p → H1.get (base + p) = none := fun p hp hb => by
          rw [k4 _ (fun q hq e => hb (by rw [z0i]; have : p = q.1 := by omega
                                         rw [this]; exact .inr (.inl (hlS q hq).2.2)))]
          exact I.nob p hp (fun h => hb (z0i.2 (.inl h)))
        have hdS' : ∀ j, bit (done ||| b.getD i 0 ||| 2 ^ i) j → lst (listed.setIfInBounds i true) j := fun j hj => by
          rw [hset]
          rcases z0i.1 hj with h | h | h
          · exact .inl (hdS j h)
          · exact .inl (hia j h)
          · exact .inr h
        have hes' : ∀ f ∈ es, ¬ lst (listed.setIfInBounds i true) f := fun f hf h => by
          rcases (hset f).1 h with h | rfl
          · exact hes f (List.mem_cons_of_mem _ hf) h
          · exact ((List.pairwise_cons.1 D.topo).1 f hf).1 rfl
        have D' := D.next R (z9j R ho ht0 (v := v))
        have hTI : TI ops tm0 st.tm (fun j => bit done j ∨ j ∈ pending (List.range ops.size) effs (b.getD i 0) done) tm1 := fun t => ⟨f1 t, ht0 t⟩
        have hdsL : DS ops b (fun j => bit done j ∨ j ∈ pending (List.range ops.size) effs (b.getD i 0) done) := fun j hj => by
          rcases hj with hj | hj
          · exact ⟨(D.ds j hj).1, fun k hk => .inl ((D.ds j hj).2 k hk)⟩
          · exact ⟨((D.pend R) j hj).1, ((D.pend R) j hj).2.2.2⟩
        have hanc : ∀ j, anc b i j → bit done j ∨ j ∈ pending (List.range ops.size) effs (b.getD i 0) done := fun j hj => by
          by_cases hb : bit done j
          · exact .inl hb
          · refine .inr (z0o.2 ⟨by have := R.anc_lt _ _ hj; omega, hj, hb, fun hje => ?_⟩)
            rw [hp.mem_iff] at hje
            rcases List.mem_append.1 hje with hje | hje
            · exact hb (hpd j hje)
            · exact hes j hje (hia j hj)
        have hni : ¬ (bit done i ∨ i ∈ pending (List.range ops.size) effs (b.getD i 0) done) := by
          rintro (h | h)
          · exact hil (hdS i h)
          · have := R.anc_lt _ _ (z0o.1 h).2.1; omega
        have hwt : dwanted ops tm1 o = dwanted ops st.tm o := R.wanted hTI ho hanc
        have hρ := R.ev_rho hdsL hTI ho hni hanc
        have next : Z → ∀ (σ' : Nat → Loc) (a' : Act) (v' : Value) (w' : World), a'.tmps = a.tmps → VR σ' τ v v' → HR P N w0 τ σ' H2 w' → DsR σ' τ ds1 a'.defers → Step σ H1 w σ' H2 w' →
            wpAnyIn F 0 P .any ops Q fuel (listed.setIfInBounds i true) (a'.put o.dst v') w' := by
          intro hz σ' a' v' w' hta hvr hH' hdr hst'
          refine ih _ n'' es _ H2 (G :: gs) _ ds1 σ' _ w' st (by omega) hQ (.inl hz) hso hrest D' hl' hS' hdS' hes' ?_ hle'
          refine ⟨hH', ?_, by rw [z10]; exact hdr, by rw [z19, hta]; exact I.sz, fun p op B mk hpS hpd' hop' hal hwp hdal => ?_, fun p hp hpS => ?_, fun p hp hpd' => ?_, by have := hst'.next; have := I.nx; omega, k2.trans hst'⟩
          · rw [hSeq]
            exact I.slots R hst'.ext ho hil hdm (fun d v2 hd hv2 => by rw [f2 d hd] at hv2; cases hv2; exact hvr) hta
          · have hpi : p ≠ i := fun e => hpd' (z0i.2 (.inr (.inr e)))
            have hpS0 : lst listed p := ((hset p).1 hpS).resolve_right hpi
            have hnd : ¬ bit done p := fun h => hpd' (z0i.2 (.inl h))
            exact (I.ex p op B mk hpS0 hnd hop' hal hwp hdal).step k1 hst' (hget1 p (z17 hop') hpd')
          · have hpS0 : ¬ lst listed p := fun h => hpS ((hset p).2 (.inl h))
            have hpb : ¬ bit (done ||| b.getD i 0 ||| 2 ^ i) p := fun h => hpS (hdS' p h)
            rw [(hst'.keep (base + p) (.inl (by have := I.nx; omega)) (hget1 p hp hpb)).1]
            exact I.non p hp hpS0
          · exact (hst'.keep (base + p) (.inl (by have := I.nx; omega)) (hget1 p hp hpd')).2
        have hzb : Z ∨ (dwanted ops tm1 o = some true ∧ B o (ev tm1) ds H1) := hZ.imp_right fun ⟨e', _, _, _, _, he', _, ho', hd', hw', hb'⟩ => by
          cases he'
          rw [ho] at ho'; cases ho'
          rw [hdn] at hd'; cases hd'
          exact ⟨hw', hb'⟩
        rcases hcase with ⟨c1, rfl, rfl, rfl⟩ | ⟨c1, c2⟩
        · rw [hwant false (hwt ▸ c1)]
          simp only [Bool.false_eq_true, if_false]
          have hz : Z := hzb.resolve_right fun h => by rw [c1] at h; cases h.1
          exact ⟨fun f _ => hF f, next hz σ a undef w rfl (.flat _ rfl) k1 I.dsr (Step.refl _ _ _)⟩
        · rw [hwant true (hwt ▸ c1)]
          simp only [if_true]
          refine hE n'' (by omega) o (ev tm1) ds H1 v ds1 H2 (by have := Array.getElem?_eq_some_iff.1 ho; obtain ⟨h1, h2⟩ := this; rw [← h2]; exact Array.getElem_mem h1) (hzb.imp_right fun h => h.2) c2 a w σ _ (fun y hy => by rw [hρ y hy]; exact hop y hy) k1 I.dsr hg ⟨fun t v hno hv => (I.ta t v).2 (fun ⟨p, op, _, hp, hd⟩ => hno p op hp hd) hv, I.sz, k2⟩ (fun hz σ' v' w' dfs' hv hH' hdr hst' => ?_)
          exact next hz σ' { a with defers := dfs' } v' w' rfl hv hH' hdr hst'
    ·
      obtain ⟨pre, hp, hpd, hk⟩ := D.sfx
      have hne : isEff o = false := by
        cases hx : isEff o with
        | false => rfl
        | true =>
          have := R.mem_effs.2 ⟨o, ho, hx⟩
          rw [hp.mem_iff] at this
          rcases List.mem_append.1 this with h | h
          · exact absurd (hdS i (hpd i h)) hil
          · exact absurd h hie
      have hso := hso2 hie
      have hnd : ¬ bit done i := fun h => hil (hdS i h)
      have hcnt : effsIn effs (b.getD i 0) ≤ gs.length := by
        unfold effsIn
        rw [(hp.filter _).length_eq, List.filter_append, List.length_append, ← hk]
        have : (es.filter fun e => (b.getD i 0).testBit e) = [] := List.filter_eq_nil_iff.2 fun e he hb => hes e he (hia e hb)
        rw [this]
        have := List.length_filter_le (fun e => (b.getD i 0).testBit e) pre
        simpa using this
      have hFN := z6y R hd D i o ho hne hnd [] G gs rfl hcnt
      have hdS' : ∀ j, bit done j → lst (listed.setIfInBounds i true) j := fun j hj => (hset j).2 (.inl (hdS j hj))
      have hes' : ∀ f ∈ es, ¬ lst (listed.setIfInBounds i true) f := fun f hf h => by
        rcases (hset f).1 h with h | rfl
        · exact hes f hf h
        · exact hie hf
      rcases hFN with ⟨c1, c2⟩ | ⟨c1, c2, B, mk, c3, c4⟩ | ⟨c1, c2, ρ, v, c3, c4, c5⟩
      ·
        rw [hwant false c1]
        simp only [Bool.false_eq_true, if_false]
        refine ⟨fun f _ => hF f, ih _ n' es done G gs tm ds σ _ w st hn hQ hZ hso hd D hl' hS' hdS' hes' ?_ hle'⟩
        refine ⟨I.hH, ?_, by rw [z10]; exact I.dsr, by rw [z19]; exact I.sz, fun p op B mk hpS hpd' hop' hal hwp hdal => ?_, fun p hp hpS => I.non p hp (fun h => hpS ((hset p).2 (.inl h))), I.nob, I.nx, I.stp⟩
        · rw [hSeq]
          exact I.slots R (Ext.refl σ) ho hil hdm (fun d v2 hd hv2 => by rw [c2 d hd] at hv2; cases hv2; exact .flat _ rfl) rfl
        · rcases (hset p).1 hpS with h | rfl
          · exact I.ex p op B mk h hpd' hop' hal hwp hdal
          · rw [ho] at hop'; cases hop'; rw [c1] at hwp; cases hwp
      ·
        rw [hwant true c1]
        simp only [if_true]
        obtain ⟨v', ob, Sz, es1, hrun, hall⟩ := zar (w := w) I.hH.size hτ hop c2 c3
        have hnn := I.non i hiz hil
        have hlt : base + i < G.next := by have := I.nx; omega
        have hH' := I.hH.extra ob Sz es1 hlt hnn
        have hb := hb0 (base + i) (Nat.le_add_right _ _)
        have he : Ext σ (upd σ (base + i) (.live w.heap.size Sz es1)) := fun j => by
          by_cases hj : j = base + i
          · rw [hj]; exact .inl hnn
          · exact .inr (.inl (z0b _ _ hj))
        obtain ⟨hvr, hbr⟩ := hall _ (base + i) he (z0h _ _ _)
        refine z4r hF (zaw hne) hrun (.inl rfl) (ih _ n' es done G gs tm ds (upd σ (base + i) (.live w.heap.size Sz es1)) _ _ st hn hQ hZ hso hd D hl' hS' hdS' hes' ?_ hle')
        refine ⟨hH', ?_, by rw [z10]; exact I.dsr.ext he, by rw [z19]; exact I.sz, fun p op B2 mk2 hpS hpd' hop' hal hwp hdal => ?_, fun p hp hpS => ?_, I.nob, I.nx, I.stp.extra ob Sz es1 hb.1 hb.2⟩
        · rw [hSeq]
          exact I.slots R he ho hil hdm (fun d v2 hd hv2 => by rw [c4 d hd] at hv2; cases hv2; exact hvr) rfl
        · rcases (hset p).1 hpS with h | rfl
          · have hpi : p ≠ i := fun e => hil (e ▸ h)
            have hB := I.ex p op B2 mk2 h hpd' hop' hal hwp hdal
            rw [z0b _ _ (by omega)]
            have hlt2 := I.hH.lt
            exact (hB.ext he).world fun c S' es' hc => Below.heap_alloc w _ c (hlt2 (base + p) c S' es' hc)
          · rw [ho] at hop'
            cases hop'
            rw [c3] at hdal
            cases hdal
            rw [z0h]; exact hbr
        · rw [hset] at hpS
          have hpi : p ≠ i := fun e => hpS (.inr e)
          rw [z0b _ _ (by omega)]
          exact I.non p hp fun h => hpS (.inl h)
      ·
        rw [hwant true c1]
        simp only [if_true]
        obtain ⟨nx, w', σ', v', hrun, hnx, hvr, hH', hst'⟩ := z2l I.hH hτ (fun y hy => by rw [c3 y hy]; exact hop y hy) c4
        refine z4r hF (zaw hne) hrun hnx (ih _ n' es done G gs tm ds σ' _ w' st hn hQ hZ hso hd D hl' hS' hdS' hes' ?_ hle')
        have hlow : ∀ p, p < ops.size → ¬ bit done p → (base + p < G.next ∨ σ (base + p) ≠ .none) := fun p hp _ => .inl (by have := I.nx; omega)
        refine ⟨hH', ?_, by rw [z10]; exact I.dsr.ext hst'.ext, by rw [z19]; exact I.sz, fun p op B2 mk2 hpS hpd' hop' hal hwp hdal => ?_, fun p hp hpS => ?_, I.nob, I.nx, I.stp.trans hst'⟩
        · rw [hSeq]
          exact I.slots R hst'.ext ho hil hdm (fun d v2 hd hv2 => by rw [c5 d hd] at hv2; cases hv2; exact hvr) rfl
        · rcases (hset p).1 hpS with h | rfl
          · exact (I.ex p op B2 mk2 h hpd' hop' hal hwp hdal).step I.hH hst' (I.nob p (z17 hop') hpd')
          · rw [ho] at hop'; cases hop'; rw [c2] at hal; cases hal
        · rw [hset] at hpS
          have hpS0 : ¬ lst listed p := fun h => hpS (.inl h)
          rw [(hst'.keep (base + p) (hlow p hp (fun h => hpS0 (hdS p h))) (I.nob p hp (fun h => hpS0 (hdS p h)))).1]
          exact I.non p hp hpS0
end
end Go.Hb
end

section
namespace Go.Hb
open Go Go.RowKit
section
variable {P : Program} {b : Frame} {a : Act} {k : List Item} {cs : List Frame} {w : World} {F : Fence} {n : Nat} {Q : Exit → Act → World → Prop}
theorem z22 {c : Code} : step P (lone (b.atR a (.code (.scope c) :: k)) cs w) = .next (lone (b.atR a (.code c :: .inScope c :: k)) cs w) :=
 step_lone_go (by simp [stepG, stepG.exec, Frame.atR])
theorem z9l {c : Code} : step P (lone (b.atR a (.inScope c :: k)) cs w) = .next (lone (b.atR a k) cs w) :=
 step_lone_go (by simp [stepG, stepG.exec, Frame.atR])
def noGoto (Q : Exit → Act → World → Prop) : Exit → Act → World → Prop
 | .goto _, _, _ => False
 | e, a, w => Q e a w
theorem zfy {c : Code} (h : c.wpIn F n P (noGoto Q) a w) : (Code.scope c).wpIn F n P Q a w := by
 intro b k cs hro hb hr
 have h0 : (lone (b.atR a (.code (.scope c) :: k)) cs w).fenced P F := fenced_calm hb hr rfl
 obtain ⟨e, a₁, w₁, hq, harr⟩ := h b (.inScope c :: k) cs hro hb hr
 cases e with
 | normal => exact ⟨.normal, a₁, w₁, hq, .head h0 z22 (StepsIn.trans harr (.one (fenced_calm hb hr rfl) z9l))⟩
 | exit id =>
  have hx : exitTo id (.inScope c :: k) = exitTo id k := by simp [exitTo]
  exact ⟨.exit id, a₁, w₁, hq, fun k' hk => .head h0 z22 (harr.1 k' (by rw [hx]; exact hk)),
   fun hr' hk => let ⟨k₁, h1, h2⟩ := harr.2 hr' (by rw [hx]; exact hk); ⟨k₁, h1, .head h0 z22 h2⟩⟩
 | goto l => exact hq.elim
 | ret => exact ⟨_, a₁, w₁, hq, .of_steps (.one h0 z22) harr⟩
 | panic ch => exact ⟨_, a₁, w₁, hq, .of_steps (.one h0 z22) harr⟩
 | outgrown => exact ⟨_, a₁, w₁, hq, .of_steps (.one h0 z22) harr⟩
def seqS (F : Fence) (n : Nat) (P : Program) (Q : Exit → Act → List Frame → World → Prop) : List Code → Act → List Frame → World → Prop
 | [] => Q .normal
 | c :: rs => c.wpSIn F n P (Exit.thenS (seqS F n P Q rs) Q)
theorem z8l (Q : Exit → Act → List Frame → World → Prop) : Exit.thenS (Q .normal) Q = Q := by
 funext e a cs w; cases e <;> rfl
theorem z70 (Q : Exit → Act → List Frame → World → Prop) (c : Code) : ∀ rs : List Code, seqS F n P Q (rs ++ [c]) = seqS F n P (Exit.thenS (c.wpSIn F n P Q) Q) rs
 | [] => by show c.wpSIn F n P (Exit.thenS (Q .normal) Q) = _; rw [z8l]; rfl
 | d :: rs => by
  show d.wpSIn F n P (Exit.thenS (seqS F n P Q (rs ++ [c])) Q) = d.wpSIn F n P (Exit.thenS (seqS F n P (Exit.thenS (c.wpSIn F n P Q) Q) rs) (Exit.thenS (c.wpSIn F n P Q) Q))
  rw [z70 Q c rs]
  congr 1
  funext e a cs w
  cases e <;> rfl
theorem zk4 : ∀ {c : Code} {ops : Array Oper} {rs : List Code} {Q : Exit → Act → List Frame → World → Prop} {a : Act} {cs : List Frame} {w : World}, headRegion c = some (ops, rs) →
  wpOpsSIn F n P ops (Exit.thenS (seqS F n P Q rs) Q) (List.range ops.size) a cs w → c.wpSIn F n P Q a cs w := by
 intro c
 induction c with
 | region id ops dr =>
  intro ops' rs Q a cs w h hw
  cases dr with
  | true => cases h
  | false =>
   simp only [headRegion, Option.some.injEq, Prod.mk.injEq] at h
   obtain ⟨rfl, rfl⟩ := h
   refine wpSIn_region ?_
   have : Exit.thenS (seqS F n P Q []) Q = Q := z8l Q
   rw [this] at hw; exact hw
 | seq x y ihx _ =>
  intro ops' rs Q a cs w h hw
  simp only [headRegion] at h
  cases hx : headRegion x with
  | none => rw [hx] at h; cases h
  | some p =>
   obtain ⟨ops1, rs1⟩ := p
   rw [hx] at h
   simp only [Option.some.injEq, Prod.mk.injEq] at h
   obtain ⟨rfl, rfl⟩ := h
   refine wpSIn_seq (ihx hx ?_)
   rw [z70] at hw
   have : Exit.thenS (seqS F n P (Exit.thenS (y.wpSIn F n P Q) Q) rs1) (Exit.thenS (y.wpSIn F n P Q) Q) = Exit.thenS (seqS F n P (Exit.thenS (y.wpSIn F n P Q) Q) rs1) Q := by
    funext e a cs w; cases e <;> rfl
   rw [this]; exact hw
 | _ => intro ops' rs Q a cs w h; cases h
end
section
variable {P : Program} {N : Nat} {w0 : World} {τ : Nat → Value} {σ σ' : Nat → Loc} {H : Heap} {w w' : World}
theorem HR.drop (h : HR P N w0 τ σ H w) {i : Nat} {b S es : Nat} (hgi : H.get i ≠ none) (hi : i < H.next) (hl : σ i = .live b S es) (hb : N ≤ b)
  (hos : w'.os = w.os) (ht : w'.tape = w.tape) (ho : w'.output = w.output) (hs : w'.heap.size = w.heap.size) (hw : ∀ k, k ≠ b → w'.heap[k]? = w.heap[k]?) :
  HR P N w0 τ (upd σ i .dead) (H.put i none) w' ∧ Step σ H w (upd σ i .dead) (H.put i none) w' := by
 obtain ⟨h1, s1⟩ := h.kill i hi (by rw [hl]; simp) hgi
 have hlive : ∀ j c S' es', upd σ i .dead j = .live c S' es' → c ≠ b := fun j c S' es' hj hc => by
  by_cases hji : j = i
  ·rw [hji, z0h] at hj; cases hj
  ·rw [z0b _ _ hji] at hj; subst hc; exact hji (h.inj j i c S' es' S es hj hl)
 refine ⟨⟨h1.below.trans ⟨hos, ht, ho, by have := h.size; omega, fun k hk => hw k (by omega)⟩, by rw [hs]; exact h.size, h1.fresh, fun j C hj => ?_, h1.inj, fun j c S' es' hj => by rw [hs]; exact h1.lt j c S' es' hj⟩,
  ⟨s1.next, s1.ext, s1.new, fun k hk hn => ?_, by omega, s1.keep⟩⟩
 ·exact (h1.blk j C hj).world fun c S' es' hc => hw c (hlive j c S' es' hc)
 ·exact hw k fun e => hgi (hn i S es (e ▸ hl))
theorem z8m : ∀ (l : List Value) (i : Nat) (t : Tr Value) (j : Nat), (initTm i l t).get j = if i ≤ j ∧ j < i + l.length then l[j - i]? else t.get j
 | [], i, t, j => by
  have : ¬ (i ≤ j ∧ j < i + ([] : List Value).length) := by simp
  rw [if_neg this]; rfl
 | v :: l, i, t, j => by
  rw [initTm, z8m l (i + 1) _ j]
  by_cases h1 : i + 1 ≤ j ∧ j < i + 1 + l.length
  ·rw [if_pos h1, if_pos (by simp; omega)]
   obtain ⟨k, hk⟩ : ∃ k, j - i = k + 1 := ⟨j - i - 1, by omega⟩
   rw [hk, List.getElem?_cons_succ]
   congr 1; omega
  ·rw [if_neg h1, Tr.get_put]
   by_cases h2 : j = i
   ·subst h2; rw [if_pos rfl, if_pos (by simp)]; simp
   ·rw [if_neg h2, if_neg (by simp; omega)]
theorem TmR.init {args : List Value} {args' : Array Value} (h : LR σ τ args args'.toList) (nt : Nat) : TmR σ τ (initTm 0 args .nil) (args' ++ Array.replicate (nt - args'.size) undef) := by
 intro j v hv
 rw [z8m] at hv
 split at hv
 ·rename_i hj
  obtain ⟨v', hv', hr⟩ := h.get hv
  simp only [Nat.sub_zero, Array.getElem?_toList] at hv'
  have hlt : j < args'.size := (Array.getElem?_eq_some_iff.1 hv').1
  rw [Array.getD_eq_getD_getElem?, Array.getElem?_append_left hlt, hv']
  exact hr
 ·cases hv
theorem TmR.put {tm : Tr Value} {a : Act} (h : TmR σ τ tm a.tmps) (he : Ext σ σ') {d : Option Tmp} {v v' : Value} (hd : ∀ t, d = some t → t < a.tmps.size) (hv : VR σ' τ v v') :
  TmR σ' τ (putD tm d v) (a.put d v').tmps := by
 intro t u hu
 rw [z6b]
 by_cases hdt : d = some t
 ·rw [if_pos ⟨hdt, hd t hdt⟩]
  rw [(z2g tm d v t).1 hdt] at hu
  cases hu; exact hv
 ·rw [if_neg (fun h => hdt h.1)]
  rw [(z2g tm d v t).2 hdt] at hu
  exact (h t u hu).ext he
theorem opnd {tm : Tr Value} {a : Act} (h : TmR σ τ tm a.tmps) (hg : GR P σ) {y : Operand} (hy : okOpnd P.globals.size y = true) : VR σ τ (ev tm y) (a.eval y) := by
 cases y with
 | tmp t =>
  show VR σ τ ((tm.get t).getD junk) (a.tmps.getD t undef)
  cases hq : tm.get t with
  | none => exact .junk _
  | some v => exact h t v hq
 | const v => exact .flat _ hy
 | global g => exact hg.ptr (by simpa [okOpnd, Nat.blt_eq] using hy)
 | func f => exact .flat _ rfl
def res1 (a : Array Value) : ResultVar → Sem Value
 | .tmp t => pure (a.getD t undef)
 | .cell b t => do loadVar t (← asAddr (a.getD b undef))
theorem zcu (hH : HR P N w0 τ σ H w) {tm : Tr Value} {a : Array Value} (h : TmR σ τ tm a) {r : ResultVar} {v : Value} (hd : dres1 P tm H r = some v) :
  ∃ v', (res1 a r).run P w = .ok v' w ∧ VR σ τ v v' := by
 cases r with
 | tmp t =>
  simp only [dres1, Option.some.injEq] at hd
  subst hd
  refine ⟨_, rfl, ?_⟩
  cases hq : tm.get t with
  | none => exact .junk _
  | some v => exact h t v hq
 | cell b t =>
  simp only [dres1] at hd
  split at hd
  ·rename_i ad hq
   have := h b _ hq
   obtain ⟨a', e1, hA⟩ := this.ptr_inv
   obtain ⟨v', hv', hr⟩ := z6s hH hd hA
   refine ⟨v', ?_, hr⟩
   simp [res1, e1, asAddr, Sem.run_bind, hv']
  ·cases hd
theorem z71 (hH : HR P N w0 τ σ H w) {tm : Tr Value} {a : Array Value} (h : TmR σ τ tm a) : ∀ {rs : List ResultVar} {vs : List Value}, dresL P tm H rs = some vs →
  ∃ vs', (rs.mapM (res1 a)).run P w = .ok vs' w ∧ LR σ τ vs vs'
 | [], vs, hd => by simp only [dresL, Option.some.injEq] at hd; subst hd; exact ⟨[], rfl, LR.nil⟩
 | r :: rs, vs, hd => by
  simp only [dresL] at hd
  split at hd
  ·rename_i v vs1 h1 h2
   cases hd
   obtain ⟨v', e1, r1⟩ := zcu hH h h1
   obtain ⟨vs', e2, r2⟩ := z71 hH h h2
   refine ⟨v' :: vs', ?_, LR.cons r1 r2⟩
   rw [List.mapM_cons, Sem.run_bind, e1, Result.andThen_ok, Sem.run_bind, e2]
   rfl
  ·cases hd
theorem zfz (hH : HR P N w0 τ σ H w) {fn : Func} {tm : Tr Value} {a : Array Value} (h : TmR σ τ tm a) {v : Value} (hd : dres P fn tm H = some v) :
  ∃ v', (results fn a).run P w = .ok v' w ∧ VR σ τ v v' := by
 unfold dres at hd
 cases hl : dresL P tm H fn.results.toList with
 | none => rw [hl] at hd; cases hd
 | some vs =>
  rw [hl] at hd
  obtain ⟨vs', e1, r1⟩ := z71 hH h hl
  have hrun : (results fn a).run P w = (do let vs ← fn.results.toList.mapM (res1 a); pure (if h : vs.toArray.size = 1 then vs.toArray[0] else Value.tuple vs.toArray) : Sem Value).run P w := by
   have hf : (fun r : ResultVar => (match r with
    | ResultVar.tmp t => (pure (a.getD t undef) : Sem Value)
    | ResultVar.cell b t => (do loadVar t (← asAddr (a.getD b undef)) : Sem Value))) = res1 a := by
    funext r; cases r <;> rfl
   show Sem.run P (do let vs ← fn.results.mapM (fun r : ResultVar => (match r with
    | ResultVar.tmp t => (pure (a.getD t undef) : Sem Value)
    | ResultVar.cell b t => (do loadVar t (← asAddr (a.getD b undef)) : Sem Value))); pure (if h : vs.size = 1 then vs[0] else Value.tuple vs)) w = _
   rw [hf, Array.mapM_eq_mapM_toList]
   simp only [map_eq_pure_bind, bind_assoc, pure_bind]
  rw [hrun, Sem.run_bind, e1, Result.andThen_ok]
  have hl1 := r1.1
  match vs, hd, r1 with
  | [u], hd, r1 =>
   cases hd
   obtain ⟨v', r', rfl, hv, hr⟩ := r1.cons_inv
   have := hr.nil_inv
   subst this
   exact ⟨v', rfl, hv⟩
  | [], hd, r1 =>
   cases hd
   have := r1.nil_inv
   subst this
   exact ⟨_, rfl, .flat _ rfl⟩
  | u1 :: u2 :: vs, hd, r1 =>
   cases hd
   obtain ⟨v1, r', rfl, hv, hr⟩ := r1.cons_inv
   obtain ⟨v2, r'', rfl, hv2, hr2⟩ := hr.cons_inv
   refine ⟨.tuple (v1 :: v2 :: r'').toArray, ?_, RA.mk_tuple r1⟩
   simp
end
end Go.Hb
end

section
namespace Go.Hb
open Go Go.RowKit
def ChR (σ : Nat → Loc) (τ : Nat → Value) : List PanicEntry → List PanicEntry → Prop
 | [], [] => True
 | e :: l, e' :: l' => VR σ τ e.v e'.v ∧ e'.recovered = e.recovered ∧ e'.goexit = e.goexit ∧ ChR σ τ l l'
 | _, _ => False
def ExR (σ : Nat → Loc) (τ : Nat → Value) : Ex → Exit → Prop
 | .normal, .normal => True
 | .exit i, .exit j => i = j
 | .ret, .ret => True
 | .panic ch, .panic ch' => ChR σ τ ch ch'
 | _, _ => False
def EnR (σ : Nat → Loc) (τ : Nat → Value) : En → Ending → Prop
 | .ret v, .returned v' => VR σ τ v v'
 | .panic ch, .panicked ch' => ChR σ τ ch ch'
 | _, _ => False
def MdR (σ : Nat → Loc) (τ : Nat → Value) : Option (List PanicEntry) → FrameMode → Prop
 | none, .returning => True
 | some ch, .panicking ch' => ChR σ τ ch ch'
 | _, _ => False
structure SR (P : Program) (N : Nat) (w0 : World) (τ : Nat → Value) (σ : Nat → Loc) (st : St) (m : Nat) (a : Act) (w : World) : Prop where
 hH : HR P N w0 τ σ st.H w
 tm : TmR σ τ st.tm a.tmps
 ds : DsR σ τ st.ds a.defers
 sz : m ≤ a.tmps.size
 gr : GR P σ
def FRel (x : Ctx) (F : Fence) : Prop := (x.round = none ∧ F = Fence.wide) ∨ (x.round ≠ none ∧ ∃ l, F = Fence.wide.inRound l)
section
variable {P : Program} {N : Nat} {w0 : World} {τ : Nat → Value} {σ σ' : Nat → Loc} {H : Heap} {w w' : World}
theorem ChR.ext (he : Ext σ σ') : ∀ {l l' : List PanicEntry}, ChR σ τ l l' → ChR σ' τ l l'
 | [], [], _ => trivial
 | _ :: _, _ :: _, h => ⟨h.1.ext he, h.2.1, h.2.2.1, ChR.ext he h.2.2.2⟩
 | [], _ :: _, h => h.elim
 | _ :: _, [], h => h.elim
theorem MdR.ext (he : Ext σ σ') : ∀ {m : Option (List PanicEntry)} {u : FrameMode}, MdR σ τ m u → MdR σ' τ m u
 | none, .returning, _ => trivial
 | some _, .panicking _, h => ChR.ext he h
 | none, .run, h => h.elim
 | none, .panicking _, h => h.elim
 | some _, .run, h => h.elim
 | some _, .returning, h => h.elim
theorem MdR.ne_run {m : Option (List PanicEntry)} {u : FrameMode} (h : MdR σ τ m u) : u ≠ .run := by
 rintro rfl; cases m <;> exact h
theorem ChR.dropWhile : ∀ {l l' : List PanicEntry}, ChR σ τ l l' → ChR σ τ (l.dropWhile (!·.goexit)) (l'.dropWhile (!·.goexit))
 | [], [], _ => trivial
 | e :: l, e' :: l', h => by
  simp only [List.dropWhile_cons]
  rw [h.2.2.1]
  split
  ·exact ChR.dropWhile h.2.2.2
  ·exact h
 | [], _ :: _, h => h.elim
 | _ :: _, [], h => h.elim
theorem MdR.settle : ∀ {m : Option (List PanicEntry)} {u : FrameMode}, MdR σ τ m u → MdR σ τ (dsettle m) (settle u)
 | none, .returning, _ => trivial
 | some [], .panicking [], _ => trivial
 | some (⟨v, r, g⟩ :: l), .panicking (⟨v', r', g'⟩ :: l'), h => by
  have hr : r' = r := h.2.1
  subst hr
  cases r' with
  | false => exact h
  | true =>
   have hd := h.2.2.2.dropWhile
   unfold dsettle Go.settle
   simp only [if_true]
   revert hd
   generalize l.dropWhile (!·.goexit) = x
   generalize l'.dropWhile (!·.goexit) = y
   intro hd
   match x, y, hd with
   | [], [], _ => trivial
   | _ :: _, _ :: _, hd => exact hd
   | [], _ :: _, hd => exact hd.elim
   | _ :: _, [], hd => exact hd.elim
 | none, .run, h => h.elim
 | none, .panicking _, h => h.elim
 | some _, .run, h => h.elim
 | some _, .returning, h => h.elim
 | some [], .panicking (_ :: _), h => h.elim
 | some (_ :: _), .panicking [], h => h.elim
theorem zcv {m : Option (List PanicEntry)} {c₀ : Frame} {cs : List Frame} (h : MdR σ τ m c₀.mode) :
  ∃ v' u', (match recoverD (c₀ :: cs) with | some (v, cs') => (v, cs') | none => (.nilIface, c₀ :: cs)) = (v', { c₀ with mode := u' } :: cs) ∧ VR σ τ (drecov m).1 v' ∧ MdR σ τ (drecov m).2 u' := by
 obtain ⟨f1, f2, f3, f4, mode, f6, f7⟩ := c₀
 simp only at h
 match m, mode, h with
 | none, .returning, _ => exact ⟨.nilIface, .returning, rfl, .flat _ rfl, trivial⟩
 | some [], .panicking [], _ => exact ⟨.nilIface, .panicking [], rfl, .flat _ rfl, trivial⟩
 | some (⟨v, r, g⟩ :: l), .panicking (⟨v', r', g'⟩ :: l'), h =>
  have hr : r' = r := h.2.1
  have hg : g' = g := h.2.2.1
  subst hr hg
  cases r' with
  | true => exact ⟨.nilIface, .panicking (⟨v', true, g'⟩ :: l'), rfl, .flat _ rfl, h⟩
  | false =>
   cases g' with
   | true => exact ⟨.nilIface, .panicking (⟨v', false, true⟩ :: l'), rfl, .flat _ rfl, h⟩
   | false => exact ⟨v', .panicking (⟨v', true, false⟩ :: l'), rfl, h.1, ⟨h.1, rfl, rfl, h.2.2.2⟩⟩
theorem HR.loopAt (hH : HR P N w0 τ σ H w) {l : Nat} {s : LoopState} {pend : Option Code} {fn : FuncId} {tm : Tr Value} {ps : List Tmp} {as bo : Code} {k : Nat} (hg : H.get l = some (.loop s pend fn tm ps as bo k)) :
  ∃ b S es m L, σ l = .live b S es ∧ N ≤ b ∧ w.heap[b]? = some (.loop L) ∧ L.state = s ∧ L.pending = pend ∧ L.params.toList = ps ∧ L.assign = as ∧ L.body = bo ∧ TmR σ τ tm L.tmps ∧ m ≤ L.tmps.size ∧
   okCode P.globals.size m as = true ∧ okCode P.globals.size m bo = true ∧ (∀ t ∈ ps, t < m) ∧ (pend = none ∨ pend = some .ret ∨ ∃ id, pend = some (.exit id)) := by
 have hB := hH.blk l _ hg
 generalize hσ : σ l = loc at hB
 cases hB with
 | loop b S es _ _ _ _ _ _ _ _ m L h1 h2 h3 h4 h5 h6 h7 h8 h9 h10 h11 h12 h13 => exact ⟨b, S, es, m, L, rfl, h1, h2, h3, h4, h5, h6, h7, h8, h9, h10, h11, h12, h13⟩
theorem BR.at' {l l' b S es : Nat} (h : BR σ l l') (hl : σ l = .live b S es) : l' = b := by
 unfold BR at h; rw [hl] at h; exact h
theorem z3f {b : Nat} {L : Loop} (h : w.heap[b]? = some (.loop L)) : (Instr.getLoop b).run P w = .ok L w := by
 have hg : (getObj b).run P w = .ok (.loop L) w := by simp [getObj, Sem.run, h]
 simp [Instr.getLoop, Sem.run_bind, hg]
theorem z4s {b : Nat} {o : Obj} {L : Loop} (h : w.heap[b]? = some (.loop L)) : (setObj b o).run P w = .ok () { w with heap := w.heap.setIfInBounds b o } := by
 simp [setObj, Sem.run, h]
theorem zg0 {b : Nat} {o : Obj} {l : Option (List Deferred)} (h : w.heap[b]? = some (.deferred l)) : (setObj b o).run P w = .ok () { w with heap := w.heap.setIfInBounds b o } := by
 simp [setObj, Sem.run, h]
theorem HR.setLoop (hH : HR P N w0 τ σ H w) {l : Nat} {s s' : LoopState} {pend pend' : Option Code} {fn : FuncId} {tm : Tr Value} {ps : List Tmp} {as bo : Code} {k b S es m : Nat} {L : Loop} (hg : H.get l = some (.loop s pend fn tm ps as bo k))
  (hσ : σ l = .live b S es) (hN : N ≤ b) (hb : w.heap[b]? = some (.loop L)) (h5 : L.params.toList = ps) (h6 : L.assign = as) (h7 : L.body = bo) (h8 : TmR σ τ tm L.tmps) (h9 : m ≤ L.tmps.size)
  (h10 : okCode P.globals.size m as = true) (h11 : okCode P.globals.size m bo = true) (h12 : ∀ t ∈ ps, t < m) (h13 : pend' = none ∨ pend' = some .ret ∨ ∃ id, pend' = some (.exit id)) :
  HR P N w0 τ σ (H.put l (some (.loop s' pend' fn tm ps as bo k))) { w with heap := w.heap.setIfInBounds b (.loop { L with state := s', pending := pend' }) } ∧
  Step σ H w σ (H.put l (some (.loop s' pend' fn tm ps as bo k))) { w with heap := w.heap.setIfInBounds b (.loop { L with state := s', pending := pend' }) } := by
 have hbl := (Array.getElem?_eq_some_iff.1 hb).1
 exact hH.write (by rw [hg]; simp) hσ hN rfl rfl rfl (by simp) (fun j hj => zdl _ hj)
  (.loop b S es s' pend' fn tm ps as bo k m { L with state := s', pending := pend' } hN (z9g _ hbl) rfl rfl h5 h6 h7 h8 h9 h10 h11 h12 h13)
theorem zh8 {m : Nat} : ∀ {ps : List Tmp} {args args' : List Value} {tm : Tr Value} {a : Array Value}, LR σ τ args args' → TmR σ τ tm a → m ≤ a.size → (∀ t ∈ ps, t < m) →
  TmR σ τ ((ps.zip args).foldl (fun t p => t.put p.1 (some p.2)) tm) ((ps.zip args').foldl (fun tmps p => tmps.setIfInBounds p.1 p.2) a) ∧ ((ps.zip args').foldl (fun tmps p => tmps.setIfInBounds p.1 p.2) a).size = a.size
 | [], args, args', tm, a, _, ht, _, _ => by simpa using ht
 | p :: ps, [], args', tm, a, hl, ht, _, _ => by rw [hl.nil_inv]; simpa using ht
 | p :: ps, v :: args, args', tm, a, hl, ht, hm, hp => by
  obtain ⟨v', r', rfl, hv, hr⟩ := hl.cons_inv
  simp only [List.zip_cons_cons, List.foldl_cons]
  have hlt : p < a.size := Nat.lt_of_lt_of_le (hp p (by simp)) hm
  have h1 : TmR σ τ (tm.put p (some v)) (a.setIfInBounds p v') := fun t u hu => by
   rw [Tr.get_put] at hu
   rw [Array.getD_eq_getD_getElem?, Array.getElem?_setIfInBounds]
   by_cases h : t = p
   ·rw [if_pos h] at hu; cases hu
    rw [if_pos h.symm, if_pos hlt]; exact hv
   ·rw [if_neg h] at hu
    rw [if_neg (fun e => h e.symm)]
    have := ht t u hu
    rw [Array.getD_eq_getD_getElem?] at this; exact this
  obtain ⟨k1, k2⟩ := zh8 hr h1 (by simpa using hm) (fun t ht => hp t (List.mem_cons_of_mem _ ht))
  exact ⟨k1, by rw [k2]; simp⟩
end
end Go.Hb
end

section
namespace Go.Hb
open Go Go.RowKit
section
variable (P : Program) (N : Nat) (w0 : World) (τ : Nat → Value) (ok : Ok)
def seqW (F : Fence) (P : Program) (Q : Exit → Act → World → Prop) : List Code → Act → World → Prop
  | [] => Q .normal
  | c :: rs => c.wpIn F 0 P (Exit.then (seqW F P Q rs) Q)
def Cont (σ : Nat → Loc) (H : Heap) (w : World) (ex : Ex) (st' : St) (m : Nat) (Q : Exit → Act → World → Prop) : Prop :=
  ∀ e a' w' σ', ExR σ' τ ex e → SR P N w0 τ σ' st' m a' w' → Step σ H w σ' st'.H w' → Q e a' w'
structure All (n : Nat) : Prop where
  code : ∀ {x c st ex st' m a w σ F} (Q : Exit → Act → World → Prop), dcode P ok n x c st = some (ex, st') → okCode P.globals.size m c = true → SR P N w0 τ σ st m a w → FRel x F →
    Cont P N w0 τ σ st.H w ex st' m Q → c.wpIn F 0 P Q a w
  loop : ∀ {x c st ex st' m a w σ F} (Q : Exit → Act → World → Prop), dcode P ok n x (.loop c) st = some (ex, st') → okCode P.globals.size m c = true → SR P N w0 τ σ st m a w → FRel x F →
    Cont P N w0 τ σ st.H w ex st' m Q → Code.roundsIn F 0 P c Q n a w
  seq : ∀ {x rs st ex st' m a w σ F} (Q : Exit → Act → World → Prop), dseq P ok n x rs st = some (ex, st') → (∀ c ∈ rs, okCode P.globals.size m c = true) → SR P N w0 τ σ st m a w → FRel x F →
    Cont P N w0 τ σ st.H w ex st' m Q → seqW F P Q rs a w
  ops : ∀ {x ops l st ex st' m a w σ F} (Q : Exit → Act → World → Prop), dops P ok n x ops l st = some (ex, st') → ops.toList.all (okOper P.globals.size m) = true → SR P N w0 τ σ st m a w → FRel x F →
    Cont P N w0 τ σ st.H w ex st' m Q → wpOpsIn F 0 P ops Q l a w
  op1 : ∀ {x o ρ ds H r a w σ F} (K : Act → World → Prop) (Q : Exit → Act → World → Prop), dop1 P ok n x o ρ ds H = some r → (∀ y ∈ o.op.operands.toList, VR σ τ (ρ y) (a.eval y)) → HR P N w0 τ σ H w → DsR σ τ ds a.defers → GR P σ → FRel x F →
    (match (generalizing := false) r with
     | .val v ds1 H1 => ∀ σ' v' w' dfs', VR σ' τ v v' → HR P N w0 τ σ' H1 w' → DsR σ' τ ds1 dfs' → Step σ H w σ' H1 w' → K (({ a with defers := dfs' } : Act).put o.dst v') w'
     | .panic ch H1 => ∀ σ' ch' w', ChR σ' τ ch ch' → HR P N w0 τ σ' H1 w' → Step σ H w σ' H1 w' → Q (.panic ch') a w') → o.wpIn F 0 P a w K Q
  call : ∀ {f args args' H en H' w σ}, dcall P ok n f args H = some (en, H') → LR σ τ args args'.toList → HR P N w0 τ σ H w → GR P σ →
    CallsIn Fence.wide 0 P f args' w fun e w' => ∃ σ', EnR σ' τ en e ∧ HR P N w0 τ σ' H' w' ∧ Step σ H w σ' H' w'
  leave : ∀ {fn tm ds md H en H' tmps ds' u w σ} (R : Ending → World → Prop), dleave P ok n fn tm ds md H = some (en, H') → TmR σ τ tm tmps → DsR σ τ ds ds' → MdR σ τ md u → HR P N w0 τ σ H w → GR P σ →
    (∀ e w' σ', EnR σ' τ en e → HR P N w0 τ σ' H' w' → Step σ H w σ' H' w' → R e w') → LeavesInM Fence.wide 0 P fn tmps R ds' u w
  round : ∀ {l l' args args' H v H' w σ}, dround P ok n l args H = some (v, H') → BR σ l l' → LR σ τ args args'.toList → HR P N w0 τ σ H w → GR P σ →
    ∃ f tmps as bo, (Instr.yield l' args').run P w = .ok (.round l' f tmps as bo) w ∧
      ∀ (F : Fence), (F = Fence.wide ∨ ∃ l2, F = Fence.wide.inRound l2) → RoundIn F 0 P l' f tmps as bo w fun e w' => ∃ v' σ', e = .returned v' ∧ VR σ' τ v v' ∧ HR P N w0 τ σ' H' w' ∧ Step σ H w σ' H' w'
end
end Go.Hb
end

section
namespace Go.Hb
open Go Go.RowKit
section
variable {P : Program} {N : Nat} {w0 : World} {τ : Nat → Value} {ok : Ok} {n : Nat}
theorem FRel.fn {x : Ctx} {F : Fence} (h : FRel x F) : ∀ f, F.fn f := by
  intro f
  rcases h with ⟨_, rfl⟩ | ⟨_, l, rfl⟩ <;> trivial
theorem FRel.depth {x : Ctx} {F : Fence} (h : FRel x F) : F.depth.isSome = true → 1 ≤ 0 := by
  intro hd
  rcases h with ⟨_, rfl⟩ | ⟨_, l, rfl⟩ <;> cases hd
theorem FRel.calls {x : Ctx} {F : Fence} (h : FRel x F) {f : FuncId} {args : Array Value} {w : World} {R : Ending → World → Prop} (hc : CallsIn Fence.wide 0 P f args w R) : CallsIn F 0 P f args w R := by
  rcases h with ⟨_, rfl⟩ | ⟨_, l, rfl⟩
  · exact hc
  · exact hc
theorem FRel.any {x : Ctx} {F : Fence} (h : FRel x F) : F = Fence.wide ∨ ∃ l2, F = Fence.wide.inRound l2 := by
  rcases h with ⟨_, h⟩ | ⟨_, h⟩
  · exact .inl h
  · exact .inr h
theorem zh9 {o : Oper} {ρ : Operand → Value} {H : Heap} {r : Dr} {c : Call} (ho : o.op = .defer c) (h : dop P o ρ H = some r) : ∃ d, r = .dfr d := by
  unfold dop at h
  rw [ho] at h
  simp only at h
  split at h
  · split at h
    · cases h; exact ⟨_, rfl⟩
    · cases h
  · cases h
theorem zdp (hτ : ∀ j, (τ j).oneCell' = true) (A : All P N w0 τ ok n) {x o ρ ds H r a w σ F} (K : Act → World → Prop) (Q : Exit → Act → World → Prop) (h : dop1 P ok (n + 1) x o ρ ds H = some r)
    (hρ : ∀ y ∈ o.op.operands.toList, VR σ τ (ρ y) (a.eval y)) (hH : HR P N w0 τ σ H w) (hds : DsR σ τ ds a.defers) (hg : GR P σ) (hF : FRel x F)
    (hK : match (generalizing := false) r with
     | .val v ds1 H1 => ∀ σ' v' w' dfs', VR σ' τ v v' → HR P N w0 τ σ' H1 w' → DsR σ' τ ds1 dfs' → Step σ H w σ' H1 w' → K (({ a with defers := dfs' } : Act).put o.dst v') w'
     | .panic ch H1 => ∀ σ' ch' w', ChR σ' τ ch ch' → HR P N w0 τ σ' H1 w' → Step σ H w σ' H1 w' → Q (.panic ch') a w') : o.wpIn F 0 P a w K Q := by
  unfold dop1 at h
  have hnd : ∀ dr, dop P o ρ H = some dr → (∀ d, dr ≠ .dfr d) → ∀ c, o.op ≠ .defer c := fun dr hd hne c hc => by
    obtain ⟨d, hd'⟩ := zh9 hc hd
    exact hne d hd'
  split at h
  ·
    rename_i v H' hd
    cases h
    obtain ⟨nx, w', σ', v', hrun, hnx, hv, hH', hst⟩ := z2l hH hτ hρ hd
    exact z4r hF.fn (hnd _ hd (by simp)) hrun hnx (hK σ' v' w' a.defers hv hH' (hds.ext hst.ext) hst)
  ·
    rename_i f args hd
    obtain ⟨args', hrun, hl⟩ := z2l hH hτ hρ hd
    refine ⟨fun f _ => hF.fn f, ?_⟩
    rw [Oper.semAt_eq _ _ _ (hnd _ hd (by simp)), hrun, Oper.uponIn_enter]
    refine ⟨hF.depth, ?_⟩
    cases hc : dcall P ok n f args H with
    | none => rw [hc] at h; cases h
    | some p =>
      obtain ⟨en, H'⟩ := p
      rw [hc] at h
      refine hF.calls (CallsIn.mono (A.call hc hl hH hg) fun e w' he => ?_)
      obtain ⟨σ', hen, hH', hst⟩ := he
      cases en with
      | ret v =>
        cases h
        cases e with
        | returned v' => exact hK σ' v' w' a.defers hen hH' (hds.ext hst.ext) hst
        | panicked _ => exact hen.elim
        | outgrown => exact hen.elim
      | panic ch =>
        cases h
        cases e with
        | returned v' => exact hen.elim
        | panicked ch' => exact hK σ' ch' w' hen hH' hst
        | outgrown => exact hen.elim
  ·
    rename_i l args hd
    obtain ⟨l', args', hrun, hbr, hl⟩ := z2l hH hτ hρ hd
    cases hc : dround P ok n l args H with
    | none => rw [hc] at h; cases h
    | some p =>
      obtain ⟨v, H'⟩ := p
      rw [hc] at h
      cases h
      obtain ⟨f, tmps, as, bo, hy, hr⟩ := A.round hc hbr hl hH hg
      refine ⟨fun f _ => hF.fn f, ?_⟩
      rw [Oper.semAt_eq _ _ _ (hnd _ hd (by simp)), hrun, hy, Oper.uponIn_round]
      refine ⟨hF.depth, RoundIn.mono (hr F hF.any) fun e w' he => ?_⟩
      obtain ⟨v', σ', rfl, hv, hH', hst⟩ := he
      exact hK σ' v' w' a.defers hv hH' (hds.ext hst.ext) hst
  ·
    rename_i d hd
    obtain ⟨d', hrun, hdr⟩ := z2l hH hτ hρ hd
    cases hx : x.round with
    | some _ => rw [hx] at h; cases h
    | none =>
      rw [hx] at h
      cases h
      refine ⟨fun f _ => hF.fn f, ?_⟩
      have hFw : F = Fence.wide := by
        rcases hF with ⟨_, h⟩ | ⟨h, _⟩
        · exact h
        · exact absurd hx h
      subst hFw
      show o.uponIn Fence.wide 0 P a K Q ((execOp a.eval o).run P w)
      rw [hrun, Oper.uponIn_defer]
      exact hK σ undef w (d' :: a.defers) (.flat _ rfl) hH ⟨hdr, hds⟩ (Step.refl _ _ _)
  ·
    rename_i v hd
    cases h
    obtain ⟨v', hrun, hv⟩ := z2l hH hτ hρ hd
    refine ⟨fun f _ => hF.fn f, ?_⟩
    rw [Oper.semAt_eq _ _ _ (hnd _ hd (by simp)), hrun, Oper.uponIn_panic]
    exact hK σ _ w ⟨hv, rfl, rfl, trivial⟩ hH (Step.refl _ _ _)
  · cases h
theorem zk5 (A : All P N w0 τ ok n) {x ops l st ex st' m a w σ F} (Q : Exit → Act → World → Prop) (h : dops P ok (n + 1) x ops l st = some (ex, st')) (hok : ops.toList.all (okOper P.globals.size m) = true) (hs : SR P N w0 τ σ st m a w)
    (hF : FRel x F) (hQ : Cont P N w0 τ σ st.H w ex st' m Q) : wpOpsIn F 0 P ops Q l a w := by
  cases l with
  | nil =>
    unfold dops at h
    cases h
    exact hQ .normal a w σ trivial hs (Step.refl _ _ _)
  | cons i rest =>
    unfold dops at h
    unfold wpOpsIn
    cases ho : ops[i]? with
    | none => rw [ho] at h; cases h
    | some o =>
      rw [ho] at h
      simp only at h ⊢
      have hmem : o ∈ ops.toList := by
        obtain ⟨h1, h2⟩ := Array.getElem?_eq_some_iff.1 ho
        rw [← h2]; exact Array.getElem_mem_toList h1
      have hoko := List.all_eq_true.1 hok o hmem
      unfold okOper at hoko
      rw [Bool.and_eq_true] at hoko
      have hdm : ∀ d, o.dst = some d → d < m := fun d hd => by have := hoko.1; rw [hd] at this; simpa [Nat.blt_eq] using this
      have hput : ∀ {σ' : Nat → Loc} {v v' : Value} {ds : List Deferred} {dfs : List Deferred} {H' : Heap} {w' : World}, Ext σ σ' → VR σ' τ v v' → HR P N w0 τ σ' H' w' → DsR σ' τ ds dfs →
          SR P N w0 τ σ' (St.put ⟨st.tm, ds, st.H⟩ o.dst v H') m (({ a with defers := dfs } : Act).put o.dst v') w' := by
        intro σ' v v' ds dfs H' w' he hv hH' hd
        have htm := TmR.put (a := { a with defers := dfs }) hs.tm he (d := o.dst) (fun t ht => Nat.lt_of_lt_of_le (hdm t ht) hs.sz) hv
        have hst : St.put ⟨st.tm, ds, st.H⟩ o.dst v H' = ⟨putD st.tm o.dst v, ds, H'⟩ := by cases o.dst <;> rfl
        rw [hst]
        exact ⟨hH', htm, by rw [z10]; exact hd, by rw [z19]; exact hs.sz, hs.gr.ext he⟩
      cases hw : dwanted ops st.tm o with
      | none => rw [hw] at h; cases h
      | some bb =>
        rw [hw] at h
        have hwant := zat (σ := σ) (τ := τ) (a := a.tmps) (fun j want oj d v _ _ _ hv => hs.tm d v hv) hw
        rw [hwant]
        cases bb with
        | false =>
          simp only [Bool.false_eq_true, if_false] at h ⊢
          refine ⟨fun f _ => hF.fn f, A.ops Q h hok (hput (Ext.refl σ) (.flat _ rfl) hs.hH hs.ds) hF ?_⟩
          intro e a' w' σ' he hs' hst
          refine hQ e a' w' σ' he hs' ?_
          have : (st.put o.dst undef st.H).H = st.H := by cases o.dst <;> rfl
          rw [this] at hst; exact hst
        | true =>
          simp only [if_true] at h ⊢
          cases h1 : dop1 P ok n x o (ev st.tm) st.ds st.H with
          | none => rw [h1] at h; cases h
          | some r =>
            rw [h1] at h
            refine A.op1 _ Q h1 (fun y hy => opnd hs.tm hs.gr (List.all_eq_true.1 hoko.2 y hy)) hs.hH hs.ds hs.gr hF ?_
            cases r with
            | val v ds1 H1 =>
              intro σ' v' w' dfs' hv hH' hd' hst
              refine A.ops Q h hok (hput hst.ext hv hH' hd') hF ?_
              intro e a' w'' σ'' he hs' hst'
              refine hQ e a' w'' σ'' he hs' ?_
              have : (St.put ⟨st.tm, ds1, st.H⟩ o.dst v H1).H = H1 := by cases o.dst <;> rfl
              rw [this] at hst'
              exact hst.trans hst'
            | panic ch H1 =>
              intro σ' ch' w' hch hH' hst
              cases h
              exact hQ (.panic ch') a w' σ' hch ⟨hH', fun t v hv => (hs.tm t v hv).ext hst.ext, hs.ds.ext hst.ext, hs.sz, hs.gr.ext hst.ext⟩ hst
theorem zk6 (A : All P N w0 τ ok n) {x rs st ex st' m a w σ F} (Q : Exit → Act → World → Prop) (h : dseq P ok (n + 1) x rs st = some (ex, st')) (hok : ∀ c ∈ rs, okCode P.globals.size m c = true) (hs : SR P N w0 τ σ st m a w)
    (hF : FRel x F) (hQ : Cont P N w0 τ σ st.H w ex st' m Q) : seqW F P Q rs a w := by
  cases rs with
  | nil => unfold dseq at h; cases h; exact hQ .normal a w σ trivial hs (Step.refl _ _ _)
  | cons c rs =>
    unfold dseq at h
    cases hc : dcode P ok n x c st with
    | none => rw [hc] at h; cases h
    | some p =>
      obtain ⟨ex1, st1⟩ := p
      rw [hc] at h
      refine A.code _ hc (hok c (by simp)) hs hF ?_
      intro e a' w' σ' he hs' hst
      cases ex1 with
      | normal =>
        cases e <;> try exact he.elim
        exact A.seq Q h (fun d hd => hok d (List.mem_cons_of_mem _ hd)) hs' hF fun e2 a2 w2 σ2 he2 hs2 hst2 => hQ e2 a2 w2 σ2 he2 hs2 (hst.trans hst2)
      | exit i => cases h; cases e <;> try exact he.elim
                  exact hQ _ a' w' σ' he hs' hst
      | ret => cases h; cases e <;> try exact he.elim
               exact hQ _ a' w' σ' he hs' hst
      | panic ch => cases h; cases e <;> try exact he.elim
                    exact hQ _ a' w' σ' he hs' hst
theorem zax (A : All P N w0 τ ok n) {x c st ex st' m a w σ F} (Q : Exit → Act → World → Prop) (h : dcode P ok (n + 1) x (.loop c) st = some (ex, st')) (hok : okCode P.globals.size m c = true) (hs : SR P N w0 τ σ st m a w)
    (hF : FRel x F) (hQ : Cont P N w0 τ σ st.H w ex st' m Q) : Code.roundsIn F 0 P c Q (n + 1) a w := by
  unfold dcode at h
  simp only at h
  rw [roundsIn_succ]
  cases hc : dcode P ok n x c st with
  | none => rw [hc] at h; cases h
  | some p =>
    obtain ⟨ex1, st1⟩ := p
    rw [hc] at h
    refine A.code _ hc hok hs hF ?_
    intro e a' w' σ' he hs' hst
    cases ex1 with
    | normal =>
      cases e <;> try exact he.elim
      exact A.loop Q h hok hs' hF fun e2 a2 w2 σ2 he2 hs2 hst2 => hQ e2 a2 w2 σ2 he2 hs2 (hst.trans hst2)
    | exit i => cases h; cases e <;> try exact he.elim
                exact hQ _ a' w' σ' he hs' hst
    | ret => cases h; cases e <;> try exact he.elim
             exact hQ _ a' w' σ' he hs' hst
    | panic ch => cases h; cases e <;> try exact he.elim
                  exact hQ _ a' w' σ' he hs' hst
end
end Go.Hb
end

section
namespace Go.Hb
open Go Go.RowKit
section
variable {P : Program} {N : Nat} {w0 : World} {τ : Nat → Value} {ok : Ok} {n : Nat}
theorem FRel.round {x : Ctx} {F : Fence} (h : FRel x F) (hx : x.round = none) : F = Fence.wide := by
  rcases h with ⟨_, h⟩ | ⟨h, _⟩
  · exact h
  · exact absurd hx h
theorem HR.bump {σ : Nat → Loc} {H : Heap} {w : World} (h : HR P N w0 τ σ H w) (k : Nat) : HR P N w0 τ σ ⟨H.next + k, H.t⟩ w :=
  ⟨h.below, h.size, fun i hi => h.fresh i (by have : H.next + k ≤ i := hi; omega), h.blk, h.inj, h.lt⟩
theorem HR.get_none {σ : Nat → Loc} {H : Heap} {w : World} (h : HR P N w0 τ σ H w) {i : Nat} (hi : H.next ≤ i) : H.get i = none := by
  cases hg : H.get i with
  | none => rfl
  | some B => have := h.get_lt hg; omega
theorem z6m {n i : Nat} : ¬ lst (Array.replicate n false) i := by
  unfold lst
  rw [Array.getD_eq_getD_getElem?, Array.getElem?_replicate]
  split <;> simp
theorem zdq (hτ : ∀ j, (τ j).oneCell' = true) (hm : P.follows .mixedOrders = true) {x id ops st st' m a w σ F} (Q : Exit → Act → World → Prop) {Z : Prop} {B : Oper → (Operand → Value) → List Deferred → Heap → Prop} {effs : List Nat}
    (heffs : effs = (List.range ops.size).filter fun i => match ops[i]? with | some o => isEff o | none => false) (hE : EffLaw F P N w0 τ ok n x ops m st.tm σ st.H w Q Z B)
    (h : ddraw P ok n x ops (Region.before ops) effs st.H.next effs 0 [⟨st.H.next + ops.size, st.H.t⟩] st.tm st.ds = some st')
    (hok : ops.toList.all (okOper P.globals.size m) = true) (hdr : okDraw ops = true) (hs : SR P N w0 τ σ st m a w) (hF : ∀ f, F.fn f) (hQ : Z → DrawPost P N w0 τ m σ st.H w st' Q)
    (hZ : HZ Z B P ops (Region.before ops) effs st.H.next effs 0 ⟨st.H.next + ops.size, st.H.t⟩ [] st.tm st.ds) : (Code.region id ops true).wpIn F 0 P Q a w := by
  subst heffs
  have R := RC.of_ok hdr
  refine wpIn_region_any hm ?_
  have hdrew : ({ w with drawn := w.drawn + 1 } : World) = w.drew := rfl
  rw [hdrew]
  refine zk3 (N := N) (w0 := w0) (n := n) (x := x) (m := m) (tm0 := st.tm) (σ0 := σ) (H0 := st.H) (w1 := w) R hF hτ hok hE hs.gr (fun i hi => ⟨hi, hs.hH.fresh i hi⟩) ops.size (Array.replicate ops.size false) n _ 0 _ [] st.tm st.ds σ a w.drew st' (Nat.le_refl _) hQ hZ R.sorted h ?_ (by simp) ?_ ?_ ?_ ?_ ?_
  · exact ⟨fun i hi => by simp [bit] at hi, ⟨[], List.Perm.refl _, fun e he => (by cases he), rfl⟩, R.chain, R.topo R.sorted, fun e _ he => by simp [bit] at he, fun t _ => rfl⟩
  · intro i hi; exact absurd hi z6m
  · intro i hi; simp [bit] at hi
  · intro e _ he; exact absurd he z6m
  · refine ⟨hs.hH.drew.bump _, fun t v => ⟨fun hw => ?_, fun _ hv => hs.tm t v hv⟩, hs.ds, hs.sz, fun p o B mk hp => absurd hp z6m, fun p _ _ => hs.hH.fresh _ (Nat.le_add_right _ _), fun p _ _ => hs.hH.get_none (Nat.le_add_right _ _), Nat.le_refl _, ?_⟩
    · obtain ⟨p, _, hp, _⟩ := hw; exact absurd hp z6m
    · exact ⟨Nat.le_add_right _ _, Ext.refl σ, fun i b S es hi => .inr (.inl ⟨S, es, hi⟩), fun _ _ _ => rfl, Nat.le_refl _, fun i _ hg => ⟨rfl, hg⟩⟩
  · have := List.length_filter_le (fun i => !(Array.replicate ops.size false).getD i false) (List.range ops.size)
    simpa using this
theorem zha (hτ : ∀ j, (τ j).oneCell' = true) (hm : P.follows .mixedOrders = true) (hE : ∀ k, k < n → All P N w0 τ ok k) {x id ops st st' m a w σ F} (Q : Exit → Act → World → Prop)
    (h : ddraw P ok n x ops (Region.before ops) ((List.range ops.size).filter fun i => match ops[i]? with | some o => isEff o | none => false) st.H.next
      ((List.range ops.size).filter fun i => match ops[i]? with | some o => isEff o | none => false) 0 [⟨st.H.next + ops.size, st.H.t⟩] st.tm st.ds = some st')
    (hok : ops.toList.all (okOper P.globals.size m) = true) (hdr : okDraw ops = true) (hs : SR P N w0 τ σ st m a w) (hF : FRel x F) (hQ : Cont P N w0 τ σ st.H w .normal st' m Q) : (Code.region id ops true).wpIn F 0 P Q a w := by
  refine zdq (Z := True) (B := fun _ _ _ _ => False) hτ hm Q rfl ?_ h hok hdr hs hF.fn ?_ (.inl trivial)
  · intro n' hn' o ρ ds H v ds1 H1 _ _ hd a w σ K hρ hH hds hg _ hK
    exact (hE n' hn').op1 K Q hd hρ hH hds hg hF (hK trivial)
  · intro _ σ' a' w' hH' htm hds' hsz hst
    exact hQ .normal a' w' σ' trivial ⟨hH', htm, hds', hsz, hs.gr.ext hst.ext⟩ hst
theorem dval {o : Option Heap} {r : Dr} (h : o.map (Dr.val undef ·) = some r) : ∃ v H, r = .val v H := by
  cases o with
  | none => cases h
  | some H => cases h; exact ⟨_, _, rfl⟩
theorem z72 {t : TypeId} {m k v : Value} {H : Heap} {r : Dr} (h : dupdate P t m k v H = some r) : ∃ v H, r = .val v H := by
  unfold dupdate at h
  repeat' (split at h)
  all_goals first | (cases h; exact ⟨_, _, rfl⟩) | cases h
theorem zcw {ts : Array TypeId} {s x : Value} {H : Heap} {r : Dr} (h : dappend P ts s x H = some r) : ∃ v H, r = .val v H := by
  unfold dappend at h
  repeat' (first | split at h | (simp only at h; split at h))
  all_goals first | (cases h; exact ⟨_, _, rfl⟩) | cases h
theorem zg1 {t xt : TypeId} {s x : Value} {H : Heap} {r : Dr} (h : dzeros P t xt s x H = some r) : ∃ v H, r = .val v H := by
  unfold dzeros at h
  repeat' (split at h)
  all_goals first | (cases h; exact ⟨_, _, rfl⟩) | cases h
theorem zk7 {ops : Array Oper} {e : Nat} {o : Oper} {ρ : Operand → Value} {H : Heap} {r : Dr} (hm : mild ops e = true) (ho : ops[e]? = some o) (h : dop P o ρ H = some r) : ∃ v H, r = .val v H := by
  unfold mild at hm
  rw [ho] at hm
  obtain ⟨dst, op, ty, pos, af, g⟩ := o
  cases op with
  | store t a x =>
    unfold dop at h
    simp only at h
    split at h
    · split at h
      · exact dval h
      · cases h
    · cases h
  | mapUpdate t m k x => unfold dop at h; exact z72 h
  | insert t m k x => unfold dop at h; exact z72 h
  | call c =>
    obtain ⟨cl, as, ats⟩ := c
    cases cl with
    | builtin bb =>
      cases bb with
      | append =>
        unfold dop at h
        simp only at h
        split at h <;> first | contradiction | skip
        split at h
        · split at h
          · rename_i hz; cases h; exact zg1 hz
          · exact zcw h
        · cases h
      | _ => simp at hm
    | _ => simp at hm
  | _ => simp at hm
theorem zhb {ok ok' : Ok} {ops : Array Oper} {e : Nat} {o : Oper} (hm : mild ops e = true) (ho : ops[e]? = some o) (n : Nat) (x : Ctx) (ρ : Operand → Value) (ds : List Deferred) (H : Heap) : dop1 P ok n x o ρ ds H = dop1 P ok' n x o ρ ds H := by
  cases n with
  | zero => rw [dop1, dop1]
  | succ n =>
    rw [dop1, dop1]
    cases hd : dop P o ρ H with
    | none => rfl
    | some r =>
      obtain ⟨v, H', rfl⟩ := zk7 hm ho hd
      rfl
theorem z2j {ok ok' : Ok} {x : Ctx} {ops : Array Oper} {b : Array Nat} {effs : List Nat} {base : Nat} : ∀ (n : Nat) (es : List Nat) (done : Nat) (hs : List Heap) (tm : Tr Value) (ds : List Deferred), es.all (mild ops) = true →
    ddraw P ok n x ops b effs base es done hs tm ds = ddraw P ok' n x ops b effs base es done hs tm ds ∧ dstage P ok n x ops b effs base es done hs tm ds = dstage P ok' n x ops b effs base es done hs tm ds
  | 0, es, done, hs, tm, ds, _ => ⟨by rw [ddraw, ddraw], by rw [dstage, dstage]⟩
  | n + 1, es, done, hs, tm, ds, hm => by
    constructor
    · rw [ddraw, ddraw]
      cases ht : twin b es with
      | none => exact (z2j n es done hs tm ds hm).2
      | some p =>
        obtain ⟨e, f⟩ := p
        obtain ⟨rfl, _, _⟩ := zdo ht
        have hm2 : [f, e].all (mild ops) = true := by
          simp only [List.all_cons, List.all_nil, Bool.and_true, Bool.and_eq_true] at hm ⊢
          exact ⟨hm.2, hm.1⟩
        simp only [(z2j (ok := ok) (ok' := ok') (x := x) (b := b) (effs := effs) (base := base) n [e, f] done hs tm ds hm).2, (z2j (ok := ok) (ok' := ok') (x := x) (b := b) (effs := effs) (base := base) n [f, e] done hs tm ds hm2).2]
    · unfold dstage
      cases hs with
      | nil => rfl
      | cons G gs =>
        cases es with
        | nil => rfl
        | cons e es =>
          simp only
          rw [List.all_cons, Bool.and_eq_true] at hm
          cases hd : dnon P ops b effs base (G :: gs) (pending (List.range ops.size) effs (b.getD e 0) done) tm G with
          | none => rfl
          | some p =>
            obtain ⟨tm1, H1⟩ := p
            simp only
            cases ho : ops[e]? with
            | none => rfl
            | some o =>
              simp only
              cases hw : dwanted ops tm1 o with
              | none => rfl
              | some bb =>
                cases bb with
                | false => exact (z2j n es _ _ _ _ hm.2).1
                | true =>
                  simp only [zhb (ok := ok) (ok' := ok') hm.1 ho]
                  cases h1 : dop1 P ok' n x o (ev tm1) ds H1 with
                  | none => rfl
                  | some r =>
                    cases r with
                    | val v ds1 H2 => exact (z2j n es _ _ _ _ hm.2).1
                    | panic _ _ => rfl
def okAny (z : Value) : Ok := ⟨0, fun _ _ H => some (.ret z, H)⟩
theorem zhc {ops : Array Oper} {e : Nat} {o : Oper} {ρ : Operand → Value} {H : Heap} {f : FuncId} {args : List Value} (ho : ops[e]? = some o) (h : dop P o ρ H = some (.call f args)) : isSt ops e = false := by
  cases hs : isSt ops e with
  | false => rfl
  | true =>
    exfalso
    unfold isSt at hs
    rw [ho] at hs
    simp only [Bool.and_eq_true] at hs
    have h3 := hs.2
    obtain ⟨dst, op, ty, pos, af, g⟩ := o
    cases op with
    | store t a y =>
      unfold dop at h
      simp only at h
      split at h
      · split at h
        · obtain ⟨_, _, h⟩ := dval h; cases h
        · cases h
      · cases h
    | _ => simp at h3
theorem zay {t : Tmp} {v : Value} : ∀ (l : List Oper) (tm : Tr Value), (l.foldl (fun t o => match o.dst with | some d => t.put d none | none => t) tm).get t = some v → (∀ o ∈ l, o.dst ≠ some t) ∧ tm.get t = some v
  | [], tm, h => ⟨fun _ h => (by cases h), h⟩
  | o :: l, tm, h => by
    rw [List.foldl_cons] at h
    obtain ⟨h1, h2⟩ := zay l _ h
    cases hd : o.dst with
    | none =>
      rw [hd] at h2
      exact ⟨fun o' ho' => by rcases List.mem_cons.1 ho' with rfl | ho'; (· rw [hd]; simp); exact h1 o' ho', h2⟩
    | some d =>
      rw [hd] at h2
      simp only at h2
      rw [Tr.get_put] at h2
      split at h2
      · cases h2
      · rename_i hne
        exact ⟨fun o' ho' => by rcases List.mem_cons.1 ho' with rfl | ho'; (· rw [hd]; intro h; cases h; exact hne rfl); exact h1 o' ho', h2⟩
theorem zmt {ops : Array Oper} {tm : Tr Value} {t : Tmp} {v : Value} (h : (clr ops tm).get t = some v) : (∀ (i : Nat) (o : Oper), ops[i]? = some o → o.dst ≠ some t) ∧ tm.get t = some v := by
  obtain ⟨h1, h2⟩ := zay _ _ h
  exact ⟨fun i o ho => h1 o (by obtain ⟨k1, k2⟩ := Array.getElem?_eq_some_iff.1 ho; rw [← k2]; exact Array.getElem_mem_toList k1), h2⟩
theorem zk8 {call : FuncId → List Value → Heap → Option (En × Heap)} {draw : List Nat → Nat → List Heap → Tr Value → Option St} {ops : Array Oper} {b : Array Nat} {effs : List Nat} {base : Nat} {G : Heap} {tm : Tr Value} {ch : List PanicEntry} {H2 : Heap}
    (h : dpan P call draw ops b effs base G tm = some (ch, H2)) :
    ∃ e es tm1 H1 o f args st1, effs = e :: es ∧ dnon P ops b effs base [G] (pending (List.range ops.size) effs (b.getD e 0) 0) tm G = some (tm1, H1) ∧ ops[e]? = some o ∧ dwanted ops tm1 o = some true ∧ dop P o (ev tm1) H1 = some (.call f args) ∧
      es.all (mild ops) = true ∧ call f args H1 = some (.panic ch, H2) ∧ draw es (0 ||| b.getD e 0 ||| 2 ^ e) [H1, G] (putD tm1 o.dst (dmight P f)) = some st1 := by
  unfold dpan at h
  split at h
  · cases h
  rename_i e es
  split at h
  · cases h
  rename_i tm1 H1 hdn
  split at h
  · cases h
  rename_i o ho
  split at h
  · rename_i f args hw hd hm
    split at h
    · rename_i ch' H2' st1 hc hr
      cases h
      refine ⟨e, es, tm1, H1, o, f, args, st1, rfl, hdn, ho, hw, hd, hm, hc, ?_⟩
      rw [← hr]
      cases o.dst <;> rfl
    · cases h
  · cases h
theorem zk9 (hτ : ∀ j, (τ j).oneCell' = true) (hm : P.follows .mixedOrders = true) (A : All P N w0 τ ok n) {x id ops st m a w σ F} {ch : List PanicEntry} {H2 : Heap} (Q : Exit → Act → World → Prop)
    (h : dpan P (dcall P ok n) (fun es done hs tm => ddraw P ok n x ops (Region.before ops) ((List.range ops.size).filter fun i => match ops[i]? with | some o => isEff o | none => false) st.H.next es done hs tm st.ds) ops (Region.before ops)
      ((List.range ops.size).filter fun i => match ops[i]? with | some o => isEff o | none => false) st.H.next ⟨st.H.next + ops.size, st.H.t⟩ st.tm = some (ch, H2))
    (hok : ops.toList.all (okOper P.globals.size m) = true) (hdr : okDraw ops = true) (hs : SR P N w0 τ σ st m a w) (hF : FRel x F) (hQ : Cont P N w0 τ σ st.H w (.panic ch) ⟨clr ops st.tm, st.ds, H2⟩ m Q) : (Code.region id ops true).wpIn F 0 P Q a w := by
  have R := RC.of_ok hdr
  generalize he : ((List.range ops.size).filter fun i => match ops[i]? with | some o => isEff o | none => false) = effs at h R
  obtain ⟨e, es, tm1, H1, o, f, args, st1, hee, hdn, ho, hw, hd, hmild, hc, hr⟩ := zk8 h
  have hns := zhc ho hd
  have hn : ∃ k, n = k + 2 := by
    match n, hr with
    | 0, hr => rw [ddraw] at hr; cases hr
    | 1, hr =>
      exfalso
      rw [ddraw] at hr
      split at hr
      · rw [dstage] at hr; cases hr
      · rw [dstage] at hr; cases hr
    | k + 2, _ => exact ⟨k, rfl⟩
  have htw : twin (Region.before ops) effs = none := by
    have hch := R.chain
    rw [hee] at hch ⊢
    rcases z8k hch with h | ⟨g, rfl, h1, _⟩
    · cases es with
      | nil => rfl
      | cons g gs =>
        cases gs with
        | nil =>
          have h1 : ((Region.before ops).getD g 0).testBit e = true := h g (by simp)
          unfold twin
          simp only [h1, Bool.true_or]
        | cons _ _ => rfl
    · rw [h1] at hns; cases hns
  have hrun : ddraw P (okAny (dmight P f)) (n + 2) x ops (Region.before ops) effs st.H.next effs 0 [⟨st.H.next + ops.size, st.H.t⟩] st.tm st.ds = some st1 := by
    rw [ddraw, htw]
    simp only
    unfold dstage
    generalize hq : effs = E at hee ⊢
    subst hee
    subst hq
    simp only [hdn, ho, hw]
    obtain ⟨k, rfl⟩ := hn
    have h1 : dop1 P (okAny (dmight P f)) (k + 2) x o (ev tm1) st.ds H1 = some (.val (dmight P f) st.ds H1) := by
      rw [dop1, hd]
      simp only
      rw [dcall]
      rfl
    rw [h1]
    simp only
    rw [(z2j (ok := okAny (dmight P f)) (ok' := ok) (k + 2) es _ _ _ _ hmild).1, ← hr]
    cases o.dst <;> rfl
  refine zdq (Z := False) (B := fun o' ρ ds H => dop P o' ρ H = some (.call f args) ∧ ds = st.ds ∧ H = H1) (n := n + 2) (ok := okAny (dmight P f)) hτ hm Q he.symm ?_ hrun hok hdr hs hF.fn (fun h => h.elim) (.inr ⟨e, es, tm1, H1, o, hee, hns, ho, hdn, hw, hd, rfl, rfl⟩)
  intro n' _ o' ρ ds H v ds1 H1' _ hB _ a w σ' K hρ hH hds hg hseen _
  obtain ⟨hdo, rfl, rfl⟩ := hB.resolve_left (fun h => h)
  have h1 : dop1 P ok (n + 1) x o' ρ st.ds H = some (.panic ch H2) := by rw [dop1, hdo]; simp only [hc]
  refine zdp hτ A K Q h1 hρ hH hds hg hF ?_
  intro σ2 ch' w2 hch hH2 hst2
  refine hQ (.panic ch') a w2 σ2 hch ⟨hH2, fun t v hv => ?_, hds.ext hst2.ext, hseen.sz, hg.ext hst2.ext⟩ (hseen.stp.trans hst2)
  obtain ⟨hv1, hv2⟩ := zmt hv
  exact (hseen.tm t v hv1 hv2).ext hst2.ext
theorem zcx {σ : Nat → Loc} {H : Heap} {w : World} (hH : HR P N w0 τ σ H w) {tm : Tr Value} (L : Loop) (htm : TmR σ τ tm L.tmps) {ps : List Tmp} {as bo : Code} {m : Nat} {fnx : FuncId} (hL1 : L.state = .ready) (hL2 : L.pending = none)
    (hL3 : L.params.toList = ps) (hL4 : L.assign = as) (hL5 : L.body = bo) (hsz : m ≤ L.tmps.size) (hok3 : okCode P.globals.size m as = true) (hok4 : okCode P.globals.size m bo = true) (hps : ∀ t ∈ ps, t < m) :
    ∃ σ2, HR P N w0 τ σ2 ((H.new (some .dfr)).new (some (.loop .ready none fnx tm ps as bo H.next))) ((w.alloc (.deferred (some []))).alloc (.loop L)) ∧
      Step σ H w σ2 ((H.new (some .dfr)).new (some (.loop .ready none fnx tm ps as bo H.next))) ((w.alloc (.deferred (some []))).alloc (.loop L)) ∧
      σ2 H.next = .live w.heap.size 0 0 ∧ σ2 (H.new (some .dfr)).next = .live (w.heap.size + 1) 0 0 := by
  obtain ⟨hH1, hst1⟩ := hH.alloc (w' := w.alloc (.deferred (some []))) (B := .dfr) (S := 0) (es := 0) rfl rfl rfl (by simp) (fun k hk => Below.heap_alloc w _ k hk)
    (.dfr _ _ _ hH.size (by show (w.heap.push _)[w.heap.size]? = _; simp))
  have hsz' : (w.alloc (.deferred (some []))).heap.size = w.heap.size + 1 := by simp
  have htm1 := htm.ext hst1.ext
  have hN := hH.size
  obtain ⟨hH2, hst2⟩ := hH1.alloc (w' := (w.alloc (.deferred (some []))).alloc (.loop L))
    (B := .loop .ready none fnx tm ps as bo H.next) (S := 0) (es := 0) rfl rfl rfl (by simp) (fun k hk => Below.heap_alloc _ _ k hk)
    (.loop _ _ _ _ _ _ _ _ _ _ _ m L (by omega)
      (by show ((w.alloc (.deferred (some []))).heap.push _)[(w.alloc (.deferred (some []))).heap.size]? = _; exact Array.getElem?_push_size) hL1 hL2 hL3 hL4 hL5 (htm1.ext (hH1.ext_new _)) hsz hok3 hok4 hps (.inl rfl))
  refine ⟨_, hH2, hst1.trans hst2, ?_, ?_⟩
  · have hne : H.next ≠ (H.new (some .dfr)).next := Nat.ne_of_lt (Nat.lt_succ_self _)
    rw [z0b _ _ hne, z0h]
  · rw [z0h, hsz']
theorem z9m (fnid : FuncId) (tmps : Array Value) (ps : Array Tmp) (as bo : Code) (w : World) :
    (Instr.enterLoop fnid tmps ps as bo none).run P w = .ok (w.heap.size + 1, [{ target := .collected w.heap.size, args := #[] }])
      ((w.alloc (.deferred (some []))).alloc (.loop { state := .ready, pending := none, fn := fnid, tmps := tmps, params := ps, assign := as, body := bo, defers := w.heap.size })) := by
  have hsz : (w.alloc (.deferred (some []))).heap.size = w.heap.size + 1 := by simp
  simp [Instr.enterLoop, Sem.run_bind, hsz]
theorem zcy {w : World} {b : Nat} {L : Loop} (h : w.heap[b]? = some (.loop L)) (hb : L.state ≠ .busy) :
    (Instr.endLoop b).run P w = .ok L.pending { w with heap := w.heap.setIfInBounds b (.loop { L with state := .exhausted }) } := by
  simp [Instr.endLoop, Sem.run_bind, z3f h, hb, z4s h]
theorem z9n {a : Act} {f : Operand} {g : FuncId} {x y : Array Value} (l : Nat) (h : a.eval f = .func (.func g) x y) (w : World) :
    (resolve a.eval (rangeCall f l) 0).run P w = .ok { target := .fn (.func g) y, args := x ++ #[.func (.yield l) #[] #[]] } w := by
  have hc : a.eval (.const (.func (.yield l) #[] #[])) = .func (.yield l) #[] #[] := rfl
  simp [rangeCall, resolve, h, hc, Deferred.ofValue, Sem.run_bind]
theorem zg2 (A : All P N w0 τ ok n) {x : Ctx} {f : Operand} {ps : Array Tmp} {as bo : Code} {st st' : St} {ex : Ex} {m : Nat} {a : Act} {w : World} {σ : Nat → Loc} (Q : Exit → Act → World → Prop)
    (hok1 : okOpnd P.globals.size f = true) (hok2 : ∀ t ∈ ps.toList, t < m) (hok3 : okCode P.globals.size m as = true) (hok4 : okCode P.globals.size m bo = true) (hs : SR P N w0 τ σ st m a w) (hF : FRel x Fence.wide)
    {g : FuncId} {first captured : Array Value} (hv : ev st.tm f = .func (.func g) first captured) {d1 : Dr} (hd1 : dcall1 P g [] = some d1) {v : Value} {H3 : Heap}
    (hc : dcall P ok n g (first.toList ++ [.func (.yield (st.H.new (some .dfr)).next) #[] #[]] ++ captured.toList) ((st.H.new (some .dfr)).new (some (.loop .ready none x.fn st.tm ps.toList as bo st.H.next))) = some (.ret v, H3))
    {s : LoopState} {pend : Option Code} {fn3 : FuncId} {tm3 : Tr Value} {ps3 : List Tmp} {as3 bo3 : Code} {dd3 : Nat} (hg3 : H3.get (st.H.new (some .dfr)).next = some (.loop s pend fn3 tm3 ps3 as3 bo3 dd3)) (hnb : s ≠ .busy)
    (h : (match (generalizing := false) pend with
      | none => some (Ex.normal, (⟨st.tm, { target := .collected st.H.next, args := #[] } :: st.ds, H3.put (st.H.new (some .dfr)).next (some (.loop .exhausted pend fn3 tm3 ps3 as3 bo3 dd3))⟩ : St))
      | some c => dcode P ok n x c ⟨st.tm, { target := .collected st.H.next, args := #[] } :: st.ds, H3.put (st.H.new (some .dfr)).next (some (.loop .exhausted pend fn3 tm3 ps3 as3 bo3 dd3))⟩) = some (ex, st'))
    (hQ : Cont P N w0 τ σ st.H w ex st' m Q) : (Code.rangeFunc f ps as bo).wpIn Fence.wide 0 P Q a w := by
  have hy := opnd hs.tm hs.gr hok1
  rw [hv] at hy
  obtain ⟨first', captured', e1, hf, hcap⟩ := hy.func_inv
  obtain ⟨_, hcallf⟩ := z3t hd1
  refine wpIn_rangeFunc fun fnid _ => ?_
  obtain ⟨σ2, hH2, hst2, hσd, hσl⟩ := zcx hs.hH (tm := st.tm) (fnx := x.fn) (m := m) { state := .ready, pending := none, fn := fnid, tmps := a.tmps, params := ps, assign := as, body := bo, defers := w.heap.size } hs.tm rfl rfl rfl rfl rfl hs.sz hok3 hok4 hok2
  have hbr : BR σ2 (st.H.new (some .dfr)).next (w.heap.size + 1) := by unfold BR; rw [hσl]
  have hargs : LR σ2 τ (first.toList ++ [Value.func (.yield (st.H.new (some .dfr)).next) #[] #[]] ++ captured.toList) (first' ++ #[Value.func (.yield (w.heap.size + 1)) #[] #[]] ++ captured').toList := by
    simp only [Array.toList_append]
    exact LR.append (LR.append (hf.ext hst2.ext) (LR.cons (.yield _ _ hbr) LR.nil)) (hcap.ext hst2.ext)
  have hcall := A.call hc hargs hH2 (hs.gr.ext hst2.ext)
  refine ⟨w.heap.size + 1, [{ target := .collected w.heap.size, args := #[] }], _, { target := .fn (.func g) captured', args := first' ++ #[.func (.yield (w.heap.size + 1)) #[] #[]] }, _, g, first' ++ #[Value.func (.yield (w.heap.size + 1)) #[] #[]] ++ captured', _,
    z9m fnid a.tmps ps as bo w, z9n _ e1 _, fun _ _ => trivial, (by simp only [invoke]; exact hcallf _ _), fun hd => (by cases hd), CallsIn.mono hcall ?_⟩
  intro e w3 he
  obtain ⟨σ3, hen, hH3, hst3⟩ := he
  cases e with
  | panicked _ => exact hen.elim
  | outgrown => exact hen.elim
  | returned v' =>
    obtain ⟨b, S, es, mm, L3, q1, q2, q3, q4, q5, q6, q7, q8, q9, q10, q11, q12, q13, q14⟩ := hH3.loopAt hg3
    have hbe : b = w.heap.size + 1 := by
      rcases hst3.ext (st.H.new (some .dfr)).next with k | k | ⟨_, k⟩
      · rw [hσl] at k; cases k
      · rw [hσl, q1] at k; cases k; rfl
      · rw [q1] at k; cases k
    subst hbe
    obtain ⟨hH4, hst4⟩ := hH3.setLoop (s' := .exhausted) (pend' := pend) hg3 q1 q2 q3 q6 q7 q8 q9 q10 q11 q12 q13 q14
    have hstA := hst2.trans (hst3.trans hst4)
    have hL : ({ L3 with state := .exhausted, pending := pend } : Loop) = { L3 with state := .exhausted } := by rw [← q5]
    have hend := zcy (P := P) q3 (by rw [q4]; exact hnb)
    rw [← hL, q5] at hend
    have hsr : SR P N w0 τ σ3 ⟨st.tm, { target := .collected st.H.next, args := #[] } :: st.ds, H3.put (st.H.new (some .dfr)).next (some (.loop .exhausted pend fn3 tm3 ps3 as3 bo3 dd3))⟩ m { a with defers := [{ target := .collected w.heap.size, args := #[] }] ++ a.defers }
        { w3 with heap := w3.heap.setIfInBounds (w.heap.size + 1) (.loop { L3 with state := .exhausted, pending := pend }) } := by
      refine ⟨hH4, hs.tm.ext hstA.ext, ⟨⟨LR.nil, .inr ⟨st.H.next, w.heap.size, rfl, rfl, ?_⟩⟩, hs.ds.ext hstA.ext⟩, hs.sz, hs.gr.ext hstA.ext⟩
      have : BR σ2 st.H.next w.heap.size := by unfold BR; rw [hσd]
      exact this.ext (hst3.trans hst4).ext
    refine ⟨pend, _, hend, ?_⟩
    cases pend with
    | none =>
      cases h
      exact hQ .normal _ _ σ3 trivial hsr hstA
    | some c =>
      have hokc : okCode P.globals.size m c = true := by
        rcases q14 with k | k | ⟨id, k⟩
        · cases k
        · cases k; rfl
        · cases k; rfl
      exact A.code Q h hokc hsr hF fun e2 a2 w2 σ5 he2 hs2 hst5 => hQ e2 a2 w2 σ5 he2 hs2 (hstA.trans hst5)
theorem zhd (hτ : ∀ j, (τ j).oneCell' = true) (hm : P.follows .mixedOrders = true) (A : All P N w0 τ ok n) (hE : ∀ k, k < n → All P N w0 τ ok k) {x c st ex st' m a w σ F} (Q : Exit → Act → World → Prop)
    (h : dcode P ok (n + 1) x c st = some (ex, st')) (hok : okCode P.globals.size m c = true) (hs : SR P N w0 τ σ st m a w) (hF : FRel x F) (hQ : Cont P N w0 τ σ st.H w ex st' m Q) : c.wpIn F 0 P Q a w := by
  cases c with
  | skip => unfold dcode at h; cases h; exact wpIn_skip (hQ .normal a w σ trivial hs (Step.refl _ _ _))
  | label l => unfold dcode at h; cases h; exact wpIn_label (hQ .normal a w σ trivial hs (Step.refl _ _ _))
  | exit i => unfold dcode at h; cases h; exact wpIn_exit (hQ (.exit i) a w σ rfl hs (Step.refl _ _ _))
  | ret => unfold dcode at h; cases h; exact wpIn_ret (hQ .ret a w σ trivial hs (Step.refl _ _ _))
  | region id ops dr =>
    unfold okCode at hok
    rw [Bool.and_eq_true] at hok
    cases dr with
    | false =>
      unfold dcode at h
      exact wpIn_region (A.ops Q h hok.1 hs hF hQ)
    | true =>
      unfold dcode at h
      simp only at h
      split at h
      · rename_i st1 hd
        cases h
        exact zha hτ hm hE Q hd hok.1 (by simpa using hok.2) hs hF hQ
      · split at h
        · rename_i ch H2 hp
          cases h
          exact zk9 hτ hm A Q hp hok.1 (by simpa using hok.2) hs hF hQ
        · cases h
  | seq c1 c2 =>
    unfold dcode at h
    simp only at h
    unfold okCode at hok
    rw [Bool.and_eq_true] at hok
    refine wpIn_seq ?_
    cases hc : dcode P ok n x c1 st with
    | none => rw [hc] at h; cases h
    | some p =>
      obtain ⟨ex1, st1⟩ := p
      rw [hc] at h
      refine A.code _ hc hok.1 hs hF ?_
      intro e a' w' σ' he hs' hst
      cases ex1 with
      | normal =>
        cases e <;> try exact he.elim
        exact A.code Q h hok.2 hs' hF fun e2 a2 w2 σ2 he2 hs2 hst2 => hQ e2 a2 w2 σ2 he2 hs2 (hst.trans hst2)
      | exit i => cases h; cases e <;> try exact he.elim
                  exact hQ _ a' w' σ' he hs' hst
      | ret => cases h; cases e <;> try exact he.elim
               exact hQ _ a' w' σ' he hs' hst
      | panic ch => cases h; cases e <;> try exact he.elim
                    exact hQ _ a' w' σ' he hs' hst
  | cond y c1 c2 =>
    unfold dcode at h
    simp only at h
    unfold okCode at hok
    rw [Bool.and_eq_true, Bool.and_eq_true] at hok
    have hy := opnd hs.tm hs.gr hok.1.1
    split at h
    · rename_i hv
      rw [hv] at hy
      exact wpIn_cond_true (hy.flat_eq rfl) (A.code Q h hok.1.2 hs hF hQ)
    · rename_i hv
      rw [hv] at hy
      exact wpIn_cond_false (hy.flat_eq rfl) (A.code Q h hok.2 hs hF hQ)
    · cases h
  | block i c1 =>
    unfold dcode at h
    simp only at h
    unfold okCode at hok
    refine wpIn_block ?_
    cases hc : dcode P ok n x c1 st with
    | none => rw [hc] at h; cases h
    | some p =>
      obtain ⟨ex1, st1⟩ := p
      rw [hc] at h
      refine A.code _ hc hok hs hF ?_
      intro e a' w' σ' he hs' hst
      cases ex1 with
      | normal => cases h; cases e <;> try exact he.elim
                  exact hQ .normal a' w' σ' trivial hs' hst
      | exit j =>
        cases e <;> try exact he.elim
        rename_i j'
        have hj : j = j' := he
        subst hj
        show (if j = i then Q .normal a' w' else Q (.exit j) a' w')
        by_cases hji : j = i
        · subst hji
          simp only [Nat.beq_refl, if_true] at h
          cases h
          rw [if_pos rfl]; exact hQ .normal a' w' σ' trivial hs' hst
        · have hb : Nat.beq j i = false := by rw [← Bool.not_eq_true, Nat.beq_eq]; exact hji
          simp only [hb, Bool.false_eq_true, if_false] at h
          cases h
          rw [if_neg hji]; exact hQ (.exit j) a' w' σ' rfl hs' hst
      | ret => cases h; cases e <;> try exact he.elim
               exact hQ _ a' w' σ' he hs' hst
      | panic ch => cases h; cases e <;> try exact he.elim
                    exact hQ _ a' w' σ' he hs' hst
  | scope c1 =>
    unfold dcode at h
    simp only at h
    unfold okCode at hok
    refine zfy (A.code _ h hok hs hF ?_)
    intro e a' w' σ' he hs' hst
    have hq := hQ e a' w' σ' he hs' hst
    cases e with
    | goto l => cases ex <;> exact he.elim
    | _ => exact hq
  | loop c1 =>
    unfold okCode at hok
    exact wpIn_loop_rounds (n + 1) (zax A Q h hok hs hF hQ)
  | rangeFunc f ps as bo =>
    unfold dcode at h
    simp only at h
    unfold okCode at hok
    simp only [Bool.and_eq_true] at hok
    obtain ⟨⟨⟨hok1, hok2⟩, hok3⟩, hok4⟩ := hok
    split at h
    case h_2 => cases h
    rename_i g first captured hx hv
    split at h
    · cases h
    rename_i hd1
    have hFw := hF.round hx
    subst hFw
    have hd1' : ∃ d, dcall1 P g [] = some d := by
      cases hh : dcall1 P g [] with
      | none => rw [hh] at hd1; simp at hd1
      | some d => exact ⟨d, rfl⟩
    obtain ⟨d1, hd1'⟩ := hd1'
    split at h
    case h_2 => cases h
    rename_i v H3 hc
    split at h
    case h_2 => cases h
    rename_i s pend fn3 tm3 ps3 as3 bo3 dd3 hg3
    refine zg2 A Q hok1 (fun t ht => by have := List.all_eq_true.1 hok2 t ht; simpa [Nat.blt_eq] using this) hok3 hok4 hs hF hv hd1' hc hg3 ?_ ?_ hQ
    · intro hb; subst hb; cases h
    · cases s <;> first | cases h | exact h
  | _ => unfold dcode at h; cases h
end
end Go.Hb
end

section
namespace Go.Hb
open Go Go.RowKit
section
variable {P : Program} {N : Nat} {w0 : World} {τ : Nat → Value} {ok : Ok} {n : Nat}
structure OkFns (P : Program) (N : Nat) (w0 : World) (ok : Ok) : Prop where
 code : ∀ f fn c, ok.testBit f = true → P.funcs[f]? = some fn → fn.body = some c → okCode P.globals.size fn.ntmps c = true
 know : ∀ (τ : Nat → Value) f args args' H en H' w σ, (∀ j, (τ j).oneCell' = true) → ok.K f args H = some (en, H') → LR σ τ args args'.toList → HR P N w0 τ σ H w → GR P σ →
  Calls P f args' w fun e w' => ∃ σ', EnR σ' τ en e ∧ HR P N w0 τ σ' H' w' ∧ Step σ H w σ' H' w'
theorem SR.init {σ : Nat → Loc} {H : Heap} {w : World} {args : List Value} {args' : Array Value} (hl : LR σ τ args args'.toList) (hH : HR P N w0 τ σ H w) (hg : GR P σ) (nt : Nat) :
  SR P N w0 τ σ ⟨initTm 0 args .nil, [], H⟩ nt { tmps := args' ++ Array.replicate (nt - args'.size) undef, defers := [] } w :=
 ⟨hH, TmR.init hl nt, trivial, by simp; omega, hg⟩
theorem zhe (hτ : ∀ j, (τ j).oneCell' = true) (hOK : OkFns P N w0 ok) (A : All P N w0 τ ok n) {f args args' H en H' w σ} (h : dcall P ok (n + 1) f args H = some (en, H')) (hl : LR σ τ args args'.toList) (hH : HR P N w0 τ σ H w) (hg : GR P σ) :
  CallsIn Fence.wide 0 P f args' w fun e w' => ∃ σ', EnR σ' τ en e ∧ HR P N w0 τ σ' H' w' ∧ Step σ H w σ' H' w' := by
 unfold dcall at h
 split at h
 ·rename_i r hk
  cases h
  exact callsIn_wide.2 (hOK.know τ f args args' H en H' w σ hτ hk hl hH hg)
 split at h
 case h_2 => cases h
 rename_i fn hf hb
 split at h
 case h_2 => cases h
 rename_i c hc
 refine callsIn_of_wp_marks hf hc trivial ?_
 have hcode := hOK.code f fn c hb hf hc
 cases hd : dcode P ok n ⟨f, none⟩ c ⟨initTm 0 args .nil, [], H⟩ with
 | none => rw [hd] at h; cases h
 | some p =>
  obtain ⟨ex, st⟩ := p
  rw [hd] at h
  refine A.code _ hd hcode (SR.init hl hH hg fn.ntmps) (.inl ⟨rfl, rfl⟩) ?_
  intro e a' w' σ' he hs hst
  cases ex with
  | normal =>
   cases e <;> try exact he.elim
   exact A.leave _ h hs.tm hs.ds trivial hs.hH hs.gr fun e2 w2 σ2 he2 hH2 hst2 => ⟨σ2, he2, hH2, hst.trans hst2⟩
  | ret =>
   cases e <;> try exact he.elim
   exact A.leave _ h hs.tm hs.ds trivial hs.hH hs.gr fun e2 w2 σ2 he2 hH2 hst2 => ⟨σ2, he2, hH2, hst.trans hst2⟩
  | panic ch =>
   cases e <;> try exact he.elim
   exact A.leave (u := .panicking _) _ h hs.tm hs.ds he hs.hH hs.gr fun e2 w2 σ2 he2 hH2 hst2 => ⟨σ2, he2, hH2, hst.trans hst2⟩
  | exit i => cases h
theorem z6c {F : Fence} (hro : F.round = none) (Q : Exit → Act → List Frame → World → Prop) (cs : List Frame) : ∀ (rs : List Code) (a : Act) (w : World), seqW F P (fun e a w => Q e a cs w) rs a w → seqS F 0 P Q rs a cs w
 | [], a, w, h => h
 | c :: rs, a, w, h => by
  refine wpSIn_of_wpIn hro (wpIn_mono h fun e a' w' he => ?_)
  cases e with
  | normal => exact z6c hro Q cs rs a' w' he
  | _ => exact he
theorem z73 (hτ : ∀ j, (τ j).oneCell' = true) {F : Fence} (hF : ∀ f, F.fn f) {ops : Array Oper} {m : Nat} (hok : ops.toList.all (okOper P.globals.size m) = true) (Q : Exit → Act → List Frame → World → Prop) (cs : List Frame) :
  ∀ (l : List Nat) (tm : Tr Value) (H : Heap) (r : Tr Value × Heap) (a : Act) (w : World) (σ : Nat → Loc), dplain P ops l tm H = some r → HR P N w0 τ σ H w → TmR σ τ tm a.tmps → m ≤ a.tmps.size → GR P σ →
  (∀ a' w' σ', HR P N w0 τ σ' r.2 w' → TmR σ' τ r.1 a'.tmps → a'.defers = a.defers → m ≤ a'.tmps.size → Step σ H w σ' r.2 w' → Q .normal a' cs w') → wpOpsSIn F 0 P ops Q l a cs w
 | [], tm, H, r, a, w, σ, h, hH, ht, hm, hg, hQ => by
  unfold dplain at h
  cases h
  exact hQ a w σ hH ht rfl hm (Step.refl _ _ _)
 | i :: l, tm, H, r, a, w, σ, h, hH, ht, hm, hg, hQ => by
  unfold dplain at h
  unfold wpOpsSIn
  cases ho : ops[i]? with
  | none => rw [ho] at h; cases h
  | some o =>
   rw [ho] at h
   simp only at h ⊢
   have hmem : o ∈ ops.toList := by
    obtain ⟨h1, h2⟩ := Array.getElem?_eq_some_iff.1 ho
    rw [← h2]; exact Array.getElem_mem_toList h1
   have hoko := List.all_eq_true.1 hok o hmem
   unfold okOper at hoko
   rw [Bool.and_eq_true] at hoko
   have hdm : ∀ d, o.dst = some d → d < m := fun d hd => by have := hoko.1; rw [hd] at this; simpa [Nat.blt_eq] using this
   split at h
   case h_2 => cases h
   rename_i v H1 hgd hd
   have hw : Region.wanted o (yielded ops a.tmps) = true := by unfold Region.wanted; rw [hgd]
   refine ⟨fun f _ => hF f, ?_⟩
   rw [hw]
   simp only [if_true]
   obtain ⟨nx, w', σ', v', hrun, hnx, hv, hH', hst⟩ := z2l hH hτ (fun y hy => opnd ht hg (List.all_eq_true.1 hoko.2 y hy)) hd
   have next : wpOpsSIn F 0 P ops Q l (a.put o.dst v') cs w' := by
    refine z73 hτ hF hok Q cs l (putD tm o.dst v) H1 r _ w' σ' h hH' (TmR.put ht hst.ext (fun t hd => Nat.lt_of_lt_of_le (hdm t hd) hm) hv) (by rw [z19]; exact hm) (hg.ext hst.ext) ?_
    intro a' w2 σ2 k1 k2 k3 k4 k5
    exact hQ a' w2 σ2 k1 k2 (by rw [k3, z10]) k4 (hst.trans k5)
   rw [hrun]
   rcases hnx with rfl | ⟨rfl, rfl⟩
   ·exact next
   ·exact next
theorem z9o {o : Oper} (h : isRecover o = true) (ρ : Operand → Value) (w : World) : o.guard = none ∧ (execOp ρ o).run P w = .ok .recover w := by
 unfold isRecover at h
 split at h
 case h_2 => cases h
 rename_i c hg ho
 split at h
 case h_2 => cases h
 rename_i hc ha
 refine ⟨hg, ?_⟩
 have hd : dop P o ρ ⟨0, .nil⟩ = some .recov := by
  unfold dop; rw [ho]; simp only [hc, ha]
 unfold execOp
 rw [ho]
 obtain ⟨callee, args, ats⟩ := c
 simp only at hc ha
 subst hc
 simp only [resolve]
 rfl
theorem zhf {F : Fence} {k : Nat} (hF : ∀ f, F.fn f) {ops : Array Oper} {i : Nat} {o : Oper} (ho : ops[i]? = some o) (hrec : isRecover o = true) {Q : Exit → Act → List Frame → World → Prop} {rest : List Nat} {a : Act} {cs cs1 : List Frame} {w : World} {v' : Value}
  (hrv : (match recoverD cs with | some (v, cs') => (v, cs') | none => (.nilIface, cs)) = (v', cs1)) (h : wpOpsSIn F k P ops Q rest (a.put o.dst v') cs1 w) : wpOpsSIn F k P ops Q (i :: rest) a cs w := by
 unfold wpOpsSIn
 rw [ho]
 simp only
 refine ⟨fun _ _ => hF _, ?_⟩
 have hir := z9o (P := P) hrec
 have hw : Region.wanted o (yielded ops a.tmps) = true := by unfold Region.wanted; rw [(hir a.eval w).1]
 rw [hw]
 simp only [if_true]
 rw [(hir _ w).2]
 cases hrd : recoverD cs with
 | none =>
  rw [hrd] at hrv
  simp only [Prod.mk.injEq] at hrv
  simp only
  rw [hrv.1, hrv.2]
  exact h
 | some p =>
  obtain ⟨v2, cs2⟩ := p
  rw [hrd] at hrv
  simp only [Prod.mk.injEq] at hrv
  simp only
  rw [hrv.1, hrv.2]
  exact h
theorem zo3 : ∀ {c : Code} {ops : Array Oper} {rs : List Code} {g m : Nat}, headRegion c = some (ops, rs) → okCode g m c = true → ops.toList.all (okOper g m) = true ∧ ∀ d ∈ rs, okCode g m d = true := by
 intro c
 induction c with
 | region id ops dr =>
  intro ops' rs g m h hok
  cases dr with
  | true => cases h
  | false =>
   simp only [headRegion, Option.some.injEq, Prod.mk.injEq] at h
   obtain ⟨rfl, rfl⟩ := h
   unfold okCode at hok
   rw [Bool.and_eq_true] at hok
   exact ⟨hok.1, fun d hd => (by cases hd)⟩
 | seq x y ihx _ =>
  intro ops' rs g m h hok
  simp only [headRegion] at h
  unfold okCode at hok
  rw [Bool.and_eq_true] at hok
  cases hx : headRegion x with
  | none => rw [hx] at h; cases h
  | some p =>
   obtain ⟨ops1, rs1⟩ := p
   rw [hx] at h
   simp only [Option.some.injEq, Prod.mk.injEq] at h
   obtain ⟨rfl, rfl⟩ := h
   obtain ⟨k1, k2⟩ := ihx hx hok.1
   refine ⟨k1, fun d hd => ?_⟩
   rcases List.mem_append.1 hd with hd | hd
   ·exact k2 d hd
   ·simp at hd; rw [hd]; exact hok.2
 | _ => intro ops' rs g m h; cases h
theorem DsR.nil_inv {σ : Nat → Loc} {ds : List Deferred} (h : DsR σ τ [] ds) : ds = [] := by
 cases ds with
 | nil => rfl
 | cons _ _ => exact h.elim
theorem zg3 (hτ : ∀ j, (τ j).oneCell' = true) (hOK : OkFns P N w0 ok) (A : All P N w0 τ ok n) {fn tm ds md H en H' tmps ds' u w σ} (R : Ending → World → Prop) (h : dleave P ok (n + 1) fn tm ds md H = some (en, H')) (ht : TmR σ τ tm tmps)
  (hd : DsR σ τ ds ds') (hu : MdR σ τ md u) (hH : HR P N w0 τ σ H w) (hg : GR P σ) (hR : ∀ e w' σ', EnR σ' τ en e → HR P N w0 τ σ' H' w' → Step σ H w σ' H' w' → R e w') : LeavesInM Fence.wide 0 P fn tmps R ds' u w := by
 cases ds with
 | nil =>
  have := hd.nil_inv
  subst this
  unfold dleave at h
  cases md with
  | none =>
   cases u with
   | returning =>
    simp only at h
    cases hr : dres P fn tm H with
    | none => rw [hr] at h; cases h
    | some v =>
     rw [hr] at h
     cases h
     obtain ⟨v', hrun, hv⟩ := zfz hH ht hr
     exact ⟨v', hrun, hR _ w σ hv hH (Step.refl _ _ _)⟩
   | run => exact hu.elim
   | panicking _ => exact hu.elim
  | some ch =>
   cases u with
   | panicking ch' => cases h; exact hR _ w σ hu hH (Step.refl _ _ _)
   | run => exact hu.elim
   | returning => exact hu.elim
 | cons d ds =>
  cases ds' with
  | nil => exact hd.elim
  | cons d' ds' =>
   obtain ⟨⟨hargs, htgt⟩, hds⟩ := hd
   unfold dleave at h
   unfold LeavesInM
   refine ⟨hu.ne_run, ?_⟩
   rcases htgt with ⟨g, cap, cap', e1, e2, hcap⟩ | ⟨l, l', e1, e2, hbr⟩
   ·
    rw [e1] at h
    simp only at h
    split at h
    case h_2 => cases h
    rename_i gn hgn hokg
    rw [Bool.and_eq_true] at hokg
    obtain ⟨hokg, hd1⟩ := hokg
    obtain ⟨d1, hd1⟩ := Option.isSome_iff_exists.1 hd1
    obtain ⟨_, hcallf⟩ := z3t hd1
    split at h
    case h_2 => cases h
    rename_i c hc
    split at h
    case h_2 => cases h
    rename_i ops rest hhead
    split at h
    case h_2 => cases h
    rename_i o ho
    split at h
    case isFalse => cases h
    rename_i hrec
    split at h
    case h_2 => cases h
    rename_i tm1 H1 hpl
    refine .inr ⟨fun hh => (by cases hh), .func g, cap', g, d'.args ++ cap', e2, by rw [e2]; simp only [invoke]; exact hcallf _ _, fun _ _ => trivial, ?_⟩
    obtain ⟨hok1, hok2⟩ := zo3 hhead (hOK.code g gn c hokg hgn hc)
    refine callsDIn_of_wpSIn hgn hc trivial fun c₀ cs hmode => ?_
    refine zk4 hhead ?_
    have hsz : 0 < ops.size := (Array.getElem?_eq_some_iff.1 ho).1
    have hrange : List.range ops.size = 0 :: (List.range ops.size).drop 1 := by
     obtain ⟨k, hk⟩ : ∃ k, ops.size = k + 1 := ⟨ops.size - 1, by omega⟩
     rw [hk, List.range_succ_eq_map]; rfl
    rw [hrange]
    obtain ⟨v', u', hrv, hvr, hmd⟩ := zcv (cs := cs) (c₀ := c₀) (by rw [hmode]; exact hu)
    have hmem : o ∈ ops.toList := by
     obtain ⟨h1, h2⟩ := Array.getElem?_eq_some_iff.1 ho
     rw [← h2]; exact Array.getElem_mem_toList h1
    have hoko := List.all_eq_true.1 hok1 o hmem
    unfold okOper at hoko
    rw [Bool.and_eq_true] at hoko
    have hdm : ∀ t, o.dst = some t → t < gn.ntmps := fun t hd => by have := hoko.1; rw [hd] at this; simpa [Nat.blt_eq] using this
    have hl : LR σ τ (d.args.toList ++ cap.toList) (d'.args ++ cap').toList := by rw [Array.toList_append]; exact LR.append hargs hcap
    have hs0 := SR.init (P := P) hl hH hg gn.ntmps
    have hst0 : (St.put ⟨initTm 0 (d.args.toList ++ cap.toList) .nil, [], H⟩ o.dst (drecov md).1 H).tm = putD (initTm 0 (d.args.toList ++ cap.toList) .nil) o.dst (drecov md).1 := by cases o.dst <;> rfl
    rw [hst0] at hpl
    have main : wpOpsSIn Fence.wide 0 P ops (Exit.thenS (seqS Fence.wide 0 P (bodyPostS P gn c₀ cs (fun
      | .returned _, u', w' => LeavesInM Fence.wide 0 P fn tmps R ds' (settle u') w'
      | .panicked chain, u', w' => LeavesInM Fence.wide 0 P fn tmps R ds' (raised u' chain) w'
      | .outgrown, _, w' => R .outgrown w')) rest) (bodyPostS P gn c₀ cs (fun
      | .returned _, u', w' => LeavesInM Fence.wide 0 P fn tmps R ds' (settle u') w'
      | .panicked chain, u', w' => LeavesInM Fence.wide 0 P fn tmps R ds' (raised u' chain) w'
      | .outgrown, _, w' => R .outgrown w'))) ((List.range ops.size).drop 1)
      ((({ tmps := (d'.args ++ cap') ++ Array.replicate (gn.ntmps - (d'.args ++ cap').size) undef, defers := [] } : Act)).put o.dst v') ({ c₀ with mode := u' } :: cs) w := by
     refine z73 hτ (fun _ => trivial) hok1 _ _ _ _ H (tm1, H1) _ w σ hpl hH (TmR.put hs0.tm (Ext.refl σ) (fun t hd => Nat.lt_of_lt_of_le (hdm t hd) hs0.sz) hvr) (by rw [z19]; exact hs0.sz) hg ?_
     intro a1 w1 σ1 hH1 ht1 hdf1 hsz1 hst1
     rw [z10] at hdf1
     show seqS Fence.wide 0 P _ rest a1 _ w1
     refine z6c rfl _ _ rest a1 w1 ?_
     cases hsq : dseq P ok n ⟨g, none⟩ rest ⟨tm1, [], H1⟩ with
     | none => rw [hsq] at h; cases h
     | some p =>
      obtain ⟨ex, st2⟩ := p
      rw [hsq] at h
      refine A.seq _ hsq hok2 ⟨hH1, ht1, by rw [hdf1]; trivial, hsz1, hg.ext hst1.ext⟩ (.inl ⟨rfl, rfl⟩) ?_
      intro e a2 w2 σ2 he hs2 hst2
      have hstA := hst1.trans hst2
      have fin : ∀ (hx : (if st2.ds.isEmpty && gn.results.isEmpty then dleave P ok n fn tm ds (dsettle (drecov md).2) st2.H else none) = some (en, H')),
        a2.defers = [] ∧ ∃ u2, ({ c₀ with mode := u' } :: cs : List Frame) = { c₀ with mode := u2 } :: cs ∧ ∃ v, (results gn a2.tmps).run P w2 = .ok v w2 ∧ LeavesInM Fence.wide 0 P fn tmps R ds' (settle u2) w2 := by
       intro hx
       split at hx
       case isFalse => cases hx
       rename_i hemp
       rw [Bool.and_eq_true] at hemp
       have hds2 : st2.ds = [] := by simpa using hemp.1
       have hrs : gn.results = #[] := by simpa using hemp.2
       have hdf2 : a2.defers = [] := by have := hs2.ds; rw [hds2] at this; exact this.nil_inv
       refine ⟨hdf2, u', rfl, .tuple #[], by simp [results, hrs], ?_⟩
       exact A.leave R hx (ht.ext hstA.ext) (hds.ext hstA.ext) ((hmd.ext hstA.ext).settle) hs2.hH hs2.gr fun e3 w3 σ3 he3 hH3 hst3 => hR e3 w3 σ3 he3 hH3 (hstA.trans hst3)
      cases ex with
      | normal =>
       cases e <;> try exact he.elim
       obtain ⟨q1, u2, q2, v, q3, q4⟩ := fin h
       exact ⟨q1, u2, q2, v, q3, q4⟩
      | ret =>
       cases e <;> try exact he.elim
       obtain ⟨q1, u2, q2, v, q3, q4⟩ := fin h
       exact ⟨q1, u2, q2, v, q3, q4⟩
      | exit i => cases h
      | panic ch => cases h
    exact zhf (fun _ => trivial) ho hrec hrv main
   ·
    rw [e1] at h
    simp only at h
    split at h
    case h_2 => cases h
    rename_i hgl
    have hB := hH.blk l _ hgl
    have hlt := hH.get_lt hgl
    generalize hσ : σ l = loc at hB
    cases hB with
    | dfr b S es q1 q2 =>
     have hlb := hbr.at' hσ
     subst hlb
     obtain ⟨hH2, hst2⟩ := hH.drop (w' := { w with heap := w.heap.setIfInBounds l' (.deferred none) }) (by rw [hgl]; simp) hlt hσ q1 rfl rfl rfl (by simp) (fun k hk => zdl _ hk)
     refine .inl ⟨l', _, e2, ?_, A.leave R h (ht.ext hst2.ext) (hds.ext hst2.ext) (hu.ext hst2.ext) hH2 (hg.ext hst2.ext) fun e3 w3 σ3 he3 hH3 hst3 => hR e3 w3 σ3 he3 hH3 (hst2.trans hst3)⟩
     have hgo : (getObj l').run P w = .ok (.deferred (some [])) w := by simp [getObj, Sem.run, q2]
     simp [Instr.takeDeferred, Sem.run_bind, hgo, zg0 q2]
end
end Go.Hb
end

section
namespace Go.Hb
open Go Go.RowKit
section
variable {P : Program} {N : Nat} {w0 : World} {τ : Nat → Value} {ok : Ok} {n : Nat}
theorem z8f {w : World} {b : Nat} {L : Loop} (h : w.heap[b]? = some (.loop L)) (hr : L.state = .ready) :
  (Instr.beginRound b).run P w = .ok () { w with heap := w.heap.setIfInBounds b (.loop { L with state := .busy }) } := by
 simp [Instr.beginRound, Sem.run_bind, z3f h, z4s h, hr]
theorem zaz {w : World} {b : Nat} {L : Loop} (h : w.heap[b]? = some (.loop L)) (jump : Option Code) :
  (Instr.endRound b jump).run P w = .ok (.bool jump.isNone) { w with heap := w.heap.setIfInBounds b (.loop { L with state := if jump.isNone then .ready else .done, pending := jump }) } := by
 simp [Instr.endRound, Sem.run_bind, z3f h, z4s h]
theorem zhg {w : World} {b : Nat} {L : Loop} {args : Array Value} (h : w.heap[b]? = some (.loop L)) (hs : args.size = L.params.size) :
  (Instr.yield b args).run P w = .ok (.round b L.fn ((L.params.zip args).foldl (fun tmps (t, a) => tmps.setIfInBounds t a) L.tmps) L.assign L.body) w := by
 simp [Instr.yield, Sem.run_bind, z3f h, hs]
theorem zg4 (A : All P N w0 τ ok n) {l l' args args' H v H' w σ} (h : dround P ok (n + 1) l args H = some (v, H')) (hbr : BR σ l l') (hl : LR σ τ args args'.toList) (hH : HR P N w0 τ σ H w) (hg : GR P σ) :
  ∃ f tmps as bo, (Instr.yield l' args').run P w = .ok (.round l' f tmps as bo) w ∧
   ∀ (F : Fence), (F = Fence.wide ∨ ∃ l2, F = Fence.wide.inRound l2) → RoundIn F 0 P l' f tmps as bo w fun e w' => ∃ v' σ', e = .returned v' ∧ VR σ' τ v v' ∧ HR P N w0 τ σ' H' w' ∧ Step σ H w σ' H' w' := by
 unfold dround at h
 split at h
 case h_2 => cases h
 rename_i pend fn tm ps as bo dd hgl
 obtain ⟨b, S, es, m, L, q1, q2, q3, q4, q5, q6, q7, q8, q9, q10, q11, q12, q13, q14⟩ := hH.loopAt hgl
 have hlb := hbr.at' q1
 subst hlb
 split at h
 case isFalse => cases h
 rename_i hlen
 rw [Nat.beq_eq] at hlen
 have hsz : args'.size = L.params.size := by
  have h1 := hl.1
  have h2 : L.params.toList.length = ps.length := by rw [q6]
  simp at h1 h2
  omega
 obtain ⟨hz1, hz2⟩ := zh8 hl q9 q10 q13
 have hfold : (L.params.zip args').foldl (fun tmps (t, a) => tmps.setIfInBounds t a) L.tmps = (ps.zip args'.toList).foldl (fun tmps p => tmps.setIfInBounds p.1 p.2) L.tmps := by
  rw [← q6, ← Array.foldl_toList, Array.toList_zip]
 refine ⟨L.fn, _, L.assign, L.body, zhg q3 hsz, fun F hF => ?_⟩
 rw [hfold]
 have hFn : ∀ f, F.fn f := by rcases hF with rfl | ⟨l2, rfl⟩ <;> exact fun _ => trivial
 have hFr : ∀ fn0 : FuncId, FRel ⟨fn0, some l⟩ (F.inRound l') := fun fn0 => by
  refine .inr ⟨by simp, l', ?_⟩
  rcases hF with rfl | ⟨l2, rfl⟩ <;> rfl
 refine roundIn_of_wpIn (hFn _) ?_
 rw [q7, q8]
 dsimp only at h
 cases hd : dcode P ok n ⟨fn, some l⟩ as ⟨(ps.zip args).foldl (fun t p => t.put p.1 (some p.2)) tm, [], H⟩ with
 | none => rw [hd] at h; cases h
 | some p =>
  obtain ⟨ex1, st1⟩ := p
  rw [hd] at h
  cases ex1 with
  | exit i => cases h
  | ret => cases h
  | panic ch => cases h
  | normal =>
   simp only at h
   refine A.code (m := m) _ hd q11 ⟨hH, hz1, trivial, by rw [hz2]; exact q10, hg⟩ (hFr fn) ?_
   intro e a1 w1 σ1 he hs1 hst1
   cases e <;> try exact he.elim
   split at h
   case h_2 => cases h
   rename_i pend1 fn1 tm1 ps1 as1 bo1 d1 hgl1
   obtain ⟨b1, S1, es1, m1, L1, r1, r2, r3, r4, r5, r6, r7, r8, r9, r10, r11, r12, r13, r14⟩ := hs1.hH.loopAt hgl1
   have live : ∀ {σ2 : Nat → Loc} {b2 S2 es2 : Nat}, Ext σ σ2 → σ2 l = .live b2 S2 es2 → b2 = l' := fun he hl2 => by
    rcases he l with k | k | ⟨_, k⟩
    ·rw [q1] at k; cases k
    ·rw [q1, hl2] at k; cases k; rfl
    ·rw [hl2] at k; cases k
   have hb1 := live hst1.ext r1
   subst hb1
   obtain ⟨hH2, hst2⟩ := hs1.hH.setLoop (s' := .busy) (pend' := pend1) hgl1 r1 r2 r3 r6 r7 r8 r9 r10 r11 r12 r13 r14
   have hL2 : ({ L1 with state := .busy, pending := pend1 } : Loop) = { L1 with state := .busy } := by rw [← r5]
   rw [hL2] at hH2 hst2
   refine ⟨_, z8f r3 r4, ?_⟩
   cases hd2 : dcode P ok n ⟨fn, some l⟩ bo ⟨st1.tm, st1.ds, st1.H.put l (some (.loop .busy pend1 fn1 tm1 ps1 as1 bo1 d1))⟩ with
   | none => rw [hd2] at h; cases h
   | some p2 =>
    obtain ⟨ex2, st2⟩ := p2
    rw [hd2] at h
    refine A.code (m := m) _ hd2 q12 ⟨hH2, hs1.tm, hs1.ds, hs1.sz, hs1.gr⟩ (hFr fn) ?_
    intro e2 a2 w2 σ2 he2 hs2 hst3
    have hstA := hst1.trans (hst2.trans hst3)
    have fin : ∀ (jump : Option Code) (vv : Value) (s : LoopState), dendRound l jump vv s st2.H = some (v, H') → vv = .bool jump.isNone → s = (if jump.isNone then .ready else .done) → (jump = none ∨ jump = some .ret ∨ ∃ id, jump = some (.exit id)) →
      ∃ v' w', (Instr.endRound b1 jump).run P w2 = .ok v' w' ∧ ∃ v2 σ', Ending.returned v' = .returned v2 ∧ VR σ' τ v v2 ∧ HR P N w0 τ σ' H' w' ∧ Step σ H w σ' H' w' := by
     intro jump vv s hx hvv hss hj
     unfold dendRound at hx
     split at hx
     case h_2 => cases hx
     rename_i s0 pend0 fn3 tm3 ps3 as3 bo3 d3 hgl3
     cases hx
     obtain ⟨b3, S3, es3, m3, L3, t1, t2, t3, t4, t5, t6, t7, t8, t9, t10, t11, t12, t13, t14⟩ := hs2.hH.loopAt hgl3
     have hb3 := live hstA.ext t1
     subst hb3
     obtain ⟨hH4, hst4⟩ := hs2.hH.setLoop (s' := s) (pend' := jump) hgl3 t1 t2 t3 t6 t7 t8 t9 t10 t11 t12 t13 hj
     rw [hss] at hH4 hst4
     refine ⟨_, _, zaz t3 jump, _, σ2, rfl, ?_, by rw [hss]; exact hH4, by rw [hss]; exact hstA.trans hst4⟩
     rw [hvv]; exact .flat _ rfl
    cases ex2 with
    | normal =>
     cases e2 <;> try exact he2.elim
     exact fin none _ _ h rfl rfl (.inl rfl)
    | ret =>
     cases e2 <;> try exact he2.elim
     exact fin (some .ret) _ _ h rfl rfl (.inr (.inl rfl))
    | exit id =>
     cases e2 <;> try exact he2.elim
     rename_i id'
     have hid : id = id' := he2
     subst hid
     exact fin (some (.exit id)) _ _ h rfl rfl (.inr (.inr ⟨id, rfl⟩))
    | panic ch => cases h
theorem zka : All P N w0 τ ok 0 := by
 constructor
 ·intros; rename_i h _ _ _ _; unfold dcode at h; cases h
 ·intros; rename_i h _ _ _ _; unfold dcode at h; cases h
 ·intros; rename_i h _ _ _ _; unfold dseq at h; cases h
 ·intros; rename_i h _ _ _ _; unfold dops at h; cases h
 ·intros; rename_i h _ _ _ _ _ _; unfold dop1 at h; cases h
 ·intros; rename_i h _ _ _; unfold dcall at h; cases h
 ·intros; rename_i h _ _ _ _ _ _; unfold dleave at h; cases h
 ·intros; rename_i h _ _ _ _; unfold dround at h; cases h
theorem zhh (hτ : ∀ j, (τ j).oneCell' = true) (hm : P.follows .mixedOrders = true) (hOK : OkFns P N w0 ok) : ∀ n, All P N w0 τ ok n := by
 intro n
 induction n using Nat.strongRecOn with
 | _ n ih =>
  cases n with
  | zero => exact zka
  | succ n =>
   have A := ih n (Nat.lt_succ_self n)
   have hE : ∀ k, k < n → All P N w0 τ ok k := fun k hk => ih k (by omega)
   exact {
    code := fun Q h hok hs hF hQ => zhd hτ hm A hE Q h hok hs hF hQ
    loop := fun Q h hok hs hF hQ => zax A Q h hok hs hF hQ
    seq := fun Q h hok hs hF hQ => zk6 A Q h hok hs hF hQ
    ops := fun Q h hok hs hF hQ => zk5 A Q h hok hs hF hQ
    op1 := fun K Q h hρ hH hd hg hF hK => zdp hτ A K Q h hρ hH hd hg hF hK
    call := fun h hl hH hg => zhe hτ hOK A h hl hH hg
    leave := fun R h ht hd hu hH hg hR => zg3 hτ hOK A R h ht hd hu hH hg hR
    round := fun h hb hl hH hg => zg4 A h hb hl hH hg }
theorem z6d (hτ : ∀ j, (τ j).oneCell' = true) (hm : P.follows .mixedOrders = true) (hOK : OkFns P N w0 ok) {f : FuncId} {args : List Value} {args' : Array Value} {H H' : Heap} {en : En} {w : World} {σ : Nat → Loc}
  (h : dcall P ok n f args H = some (en, H')) (hl : LR σ τ args args'.toList) (hH : HR P N w0 τ σ H w) (hg : GR P σ) :
  Calls P f args' w fun e w' => ∃ σ', EnR σ' τ en e ∧ HR P N w0 τ σ' H' w' ∧ Step σ H w σ' H' w' :=
 callsIn_wide.1 ((zhh hτ hm hOK n).call h hl hH hg)
end
end Go.Hb
end

section
namespace Go.Hb
open Go Go.RowKit
def okFn (P : Program) (f : FuncId) : Bool :=
 match P.funcs[f]? with
 | some fn => match fn.body with
  | some c => okCode P.globals.size fn.ntmps c
  | none => true
 | none => true
theorem z8n {P : Program} {ok : Nat} (h : ((List.range P.funcs.size).all fun f => !ok.testBit f || okFn P f) = true) : ∀ f fn c, ok.testBit f = true → P.funcs[f]? = some fn → fn.body = some c → okCode P.globals.size fn.ntmps c = true := by
 intro f fn c hb hf hc
 have hlt : f < P.funcs.size := (Array.getElem?_eq_some_iff.1 hf).1
 have := List.all_eq_true.1 h f (List.mem_range.2 hlt)
 rw [hb] at this
 simp only [Bool.not_true, Bool.false_or] at this
 unfold okFn at this
 rw [hf] at this
 simp only [hc] at this
 exact this
theorem zkb {P : Program} {ok N : Nat} {w0 : World} (h : ((List.range P.funcs.size).all fun f => !ok.testBit f || okFn P f) = true) : OkFns P N w0 (Ok.run ok) :=
 ⟨z8n h, fun τ f args args' H en H' w σ _ hk => by cases hk⟩
def retTrue : Option (En × Heap) → Bool
 | some (.ret (.bool true), _) => true
 | _ => false
theorem zcz {r : Option (En × Heap)} (h : retTrue r = true) : ∃ H', r = some (.ret (.bool true), H') := by
 unfold retTrue at h
 split at h
 ·exact ⟨_, rfl⟩
 ·cases h
def sig0 (nx : Nat) : Nat → Loc := fun i => if i < nx then .dead else .none
theorem HR.start {P : Program} {τ : Nat → Value} (nx : Nat) (W : World) : HR P W.heap.size W τ (sig0 nx) ⟨nx, .nil⟩ W := by
 refine ⟨Below.refl _ _, Nat.le_refl _, fun i hi => ?_, fun i B hB => ?_, fun i j b S es S' es' hi => ?_, fun i b S es hi => ?_⟩
 ·have hi' : nx ≤ i := hi
  unfold sig0; rw [if_neg (by omega)]
 ·cases hB
 ·unfold sig0 at hi; split at hi <;> cases hi
 ·unfold sig0 at hi; split at hi <;> cases hi
theorem GR.start {P : Program} {nx : Nat} (h : P.globals.size ≤ nx) : GR P (sig0 nx) := fun g hg => .inl (by unfold sig0; rw [if_pos (by omega)])
theorem zg5 {P : Program} {ok n nx : Nat} {f : FuncId} {args : List Value} {args' : Array Value} {τ : Nat → Value} (hτ : ∀ j, (τ j).oneCell' = true) (hm : P.follows .mixedOrders = true)
  (hok : ((List.range P.funcs.size).all fun f => !ok.testBit f || okFn P f) = true) (hnx : P.globals.size ≤ nx)
  (hrun : retTrue (dcall P (Ok.run ok) n f args ⟨nx, .nil⟩) = true) (hl : LR (sig0 nx) τ args args'.toList) (W : World) :
  Calls P f args' W fun e W' => e = .returned (.bool true) ∧ Below W.heap.size W W' := by
 obtain ⟨H', h⟩ := zcz hrun
 refine (z6d hτ hm (zkb hok) h hl (HR.start nx W) (GR.start hnx)).mono fun e w' he => ?_
 obtain ⟨σ', hen, hH, _⟩ := he
 cases e with
 | returned v' => exact ⟨by rw [show v' = .bool true from VR.flat_eq hen rfl], hH.below⟩
 | panicked _ => exact hen.elim
 | outgrown => exact hen.elim
section
open Go.ChangeShapes Go.WideShapes
variable {H : Type} {enc : TypeId × Value → H} {P : Program}
theorem z9p {f : Func} {s : ChangeSpec} {apart fresh handsOn again : Bool} {W W' : World} {args : Array Value} {v : Value} {ds gs : List (DataW H)} {before pa pv : List MemPlace}
  (hW : DataW.Whole enc P f.params.toList s.vars apart W args.toList ds gs before)
  (hres : ∀ (b : Nat) (sp : Nat → Bool) (hd : Bool), DataW.TrodAll enc P W' b sp hd f.resultTypes.toList (v.resultList f.resultTypes.size) (s.fn H (ds ++ gs)).results [])
  (hargs : ∀ sp : Nat → Bool, (∀ p ∈ before, sp p.block = true) → DataW.TrodAll enc P W' 0 sp true f.params.toList args.toList (s.fn H (ds ++ gs)).args pa)
  (hvars : ∀ sp : Nat → Bool, (∀ p ∈ before, sp p.block = true) → DataW.TrodVars enc P W' sp s.vars (s.fn H (ds ++ gs)).vars pv)
  (hps : before = pa ++ pv) (hB : Below W.heap.size W W')
  (hok : ∀ (j : Nat) (t : TypeId) (r : Value), f.resultTypes[j]? = some t → (v.resultList f.resultTypes.size)[j]? = some r → Value.okWide P W' .any 0 t r) :
  s.post enc P f apart fresh handsOn again W args v W' := by
 have hlt : ∀ p ∈ before, p.block < W.heap.size := fun p hp => hW.lt p hp
 have hold : ∀ p ∈ before, (fun b => decide (b < W.heap.size)) p.block = true := fun p hp => by simpa using hW.lt p hp
 refine ⟨ds, gs, before, [], pa, pv, hW, hres _ _ _, hargs _ hold, hvars _ hold, World.keptBut_mono (fun p hp => ⟨hp, ?_⟩) (hB.frame (· ∈ before)), fun _ => ?_⟩
 ·rw [hps, List.mem_append] at hp
  exact Or.inr hp
 ·obtain ⟨_, _, _, _, _, hz, hn⟩ := hW
  refine ⟨hok, _, _, ([] ++ pa) ++ pv, ⟨[] ++ pa, pv, trodAll_append (hargs _ (fun _ _ => rfl)) (hres _ _ _), hvars _ (fun _ _ => rfl), rfl, ?_, ?_⟩, ?_⟩
  ·intro b off hp
   have hp' : MemPlace.cell b off ∈ before := by rw [hps]; simpa using hp
   rw [hB.frozen (hlt _ hp')]
   exact hz b off hp'
  ·intro ha
   have := hn ha
   rw [hps] at this
   simpa using this
  ·intro p hp _
   rw [hps]
   simpa using hp
end
end Go.Hb
end

section
namespace Go.Hb
open Go Go.RowKit
def toksFrom : Nat → List (Option Nat) → List Value
 | _, [] => []
 | o, none :: l => .chan (some o) :: toksFrom (o + 1) l
 | o, some n :: l => .agg ⟨(List.range n).map fun i => .chan (some (o + i))⟩ :: toksFrom (o + n) l
def Fits (s : Option Nat) (v : Value) : Prop :=
 match s with
 | none => v.oneCell' = true
 | some n => ∃ cs, v = .agg cs ∧ cs.size = n ∧ ∀ (i : Nat) u, cs[i]? = some u → u.oneCell' = true
def FitsL : List (Option Nat) → List Value → Prop
 | [], [] => True
 | s :: l, v :: vs => Fits s v ∧ FitsL l vs
 | _, _ => False
def cellsOfL (vs : List Value) : List Value := vs.flatMap fun v => v.cells.toList
def tokT (vs : List Value) (j : Nat) : Value := ((cellsOfL vs)[j]?).getD (.bool true)
end Go.Hb
end

section
namespace Go.Hb
open Go Go.RowKit Go.ChangeShapes Go.WideShapes
section
variable {H : Type} {enc : TypeId × Value → H} {P : Program}
theorem z58 (hl : laidOutB P = true) {W W' : World} (hB : Below W.heap.size W W') (sp : Nat → Bool) : ∀ {ts : List TypeId} {vs : List Value} {ds : List (DataW H)} {ps : List MemPlace},
  (∀ t ∈ ts, P.readableRec t = true ∧ t < P.types.size) → DataW.TrodAll enc P W 0 (fun _ => true) true ts vs ds ps → (∀ x ∈ ps, x.block < W.heap.size) → (∀ x ∈ ps, sp x.block = true) → DataW.TrodAll enc P W' 0 sp true ts vs ds ps
 | [], vs, ds, ps, _, h, _, _ => by
  obtain ⟨rfl, rfl, rfl⟩ := trodAll_nil h
  exact trodAll_mk0
 | t :: ts, vs, ds, ps, ht, h, hlt, hsp => by
  obtain ⟨v, vs1, d, ds1, p, q, rfl, rfl, rfl, h1, h2⟩ := trodAll_cons h
  exact trodAll_cons_mk (WideElems.Trod_stays hl (ht t (by simp)).1 (ht t (by simp)).2 h1 (fun x hx => hB.same (hlt x (by simp [hx]))) (fun x hx => hsp x (by simp [hx])))
   (z58 hl hB sp (fun u hu => ht u (by simp [hu])) h2 (fun x hx => hlt x (by simp [hx])) (fun x hx => hsp x (by simp [hx])))
theorem zd0 {f : FuncId} {fn : Func} {s : ChangeSpec} {W : World} {args : Array Value} {ds gs : List (DataW H)} {before : List MemPlace}
  (hl : laidOutB P = true) (hts : fn.params.toList.all (fun t => P.readableRec t && decide (t < P.types.size)) = true) (hvs : s.vars = []) (hr : fn.resultTypes = #[4]) (hb : P.underlying 4 = some .bool)
  (hfn : ∀ ds : List (DataW H), ds.length = fn.params.size → (s.fn H (ds ++ [])).results = [.lit (.bool true)] ∧ (s.fn H (ds ++ [])).args = ds ∧ (s.fn H (ds ++ [])).vars = [])
  (hW : DataW.Whole enc P fn.params.toList s.vars false W args.toList ds gs before)
  (hc : Calls P f args W fun e W' => e = .returned (.bool true) ∧ Below W.heap.size W W') :
  Calls P f args W fun e W' => ∃ v, e = .returned v ∧ s.post enc P fn false true false false W args v W' := by
 have hW' := hW
 obtain ⟨p, q, hA, hV, rfl, hfz, hnd⟩ := hW
 rw [hvs] at hV
 obtain ⟨rfl, rfl⟩ := trodVars_none hV
 have hlen : ∀ {ts : List TypeId} {vs : List Value} {ds : List (DataW H)} {ps : List MemPlace}, DataW.TrodAll enc P W 0 (fun _ => true) true ts vs ds ps → ds.length = ts.length := by
  intro ts
  induction ts with
  | nil => intro vs ds ps h; obtain ⟨_, rfl, _⟩ := trodAll_nil h; rfl
  | cons t ts ih => intro vs ds ps h; obtain ⟨v, vs1, d, ds1, p, q, rfl, rfl, rfl, h1, h2⟩ := trodAll_cons h; simp [ih h2]
 obtain ⟨e1, e2, e3⟩ := hfn ds (by rw [hlen hA]; simp)
 refine hc.mono fun e W' ⟨he, hB⟩ => ?_
 subst he
 refine ⟨_, rfl, z9p (pa := p) (pv := []) hW' (fun _ _ _ => ?_) (fun sp hsp => ?_) (fun _ _ => ?_) rfl hB (ok_one hr rfl (okWide_bool_mk hb _))⟩
 ·rw [e1, hr]; exact trodAll_cons_mk (shut_bool hb _) trodAll_mk0
 ·rw [e2]
  refine z58 hl hB sp (fun t ht => ?_) hA (fun x hx => hW'.lt x (by simp [hx])) (fun x hx => hsp x (by simp [hx]))
  have := List.all_eq_true.1 hts t ht
  simpa using this
 ·rw [e3, hvs]; rfl
def shOf (P : Program) (t : TypeId) : Option Nat :=
 match P.underlying t with
 | some (.struct _) | some (.array _ _) => some (P.cellsOf t)
 | _ => none
end
end Go.Hb
end

section
namespace Go.Hb
open Go Go.RowKit
def Upon {α : Type} (f : Nat → Option α) (Q : α → Prop) : Prop := ∃ N r, (∀ n, N ≤ n → f n = some r) ∧ Q r
theorem Upon.mono {α : Type} {f : Nat → Option α} {Q R : α → Prop} (h : Upon f Q) (k : ∀ r, Q r → R r) : Upon f R := by
 obtain ⟨N, r, h1, h2⟩ := h; exact ⟨N, r, h1, k r h2⟩
theorem Upon.now {α : Type} {f : Nat → Option α} {Q : α → Prop} {r : α} (h : ∀ n, f (n + 1) = some r) (hq : Q r) : Upon f Q :=
 ⟨1, r, fun n hn => by obtain ⟨m, rfl⟩ : ∃ m, n = m + 1 := ⟨n - 1, by omega⟩; exact h m, hq⟩
theorem Upon.step {α β : Type} {f : Nat → Option α} {g : Nat → Option β} {R : α → Prop} {Q : β → Prop} (k : Nat → α → Option β) (hg : ∀ n r, f n = some r → g (n + 1) = k n r)
  (hf : Upon f R) (hk : ∀ r, R r → Upon (fun n => k n r) Q) : Upon g Q := by
 obtain ⟨N, r, h1, h2⟩ := hf
 obtain ⟨M, q, h3, h4⟩ := hk r h2
 refine ⟨max N M + 1, q, fun n hn => ?_, h4⟩
 obtain ⟨m, rfl⟩ : ∃ m, n = m + 1 := ⟨n - 1, by omega⟩
 rw [hg m r (h1 m (by omega))]
 exact h3 m (by omega)
theorem Upon.go {α : Type} {f g : Nat → Option α} {Q : α → Prop} (hg : ∀ n, g (n + 1) = f n) (hf : Upon f Q) : Upon g Q := by
 obtain ⟨N, r, h1, h2⟩ := hf
 refine ⟨N + 1, r, fun n hn => ?_, h2⟩
 obtain ⟨m, rfl⟩ : ∃ m, n = m + 1 := ⟨n - 1, by omega⟩
 rw [hg]; exact h1 m (by omega)
section
variable (P : Program) (ok : Ok) (x : Ctx)
def EvC (c : Code) (st : St) (Q : Ex → St → Prop) : Prop := Upon (fun n => dcode P ok n x c st) fun p => Q p.1 p.2
def EvO (ops : Array Oper) (l : List Nat) (st : St) (Q : Ex → St → Prop) : Prop := Upon (fun n => dops P ok n x ops l st) fun p => Q p.1 p.2
def EvF (f : FuncId) (args : List Value) (H : Heap) (K : Value → Heap → Prop) : Prop := Upon (fun n => dcall P ok n f args H) fun p => ∃ v, p.1 = .ret v ∧ K v p.2
def EvV (fn : Func) (tm : Tr Value) (ds : List Deferred) (H : Heap) (K : Value → Heap → Prop) : Prop := Upon (fun n => dleave P ok n fn tm ds none H) fun p => ∃ v, p.1 = .ret v ∧ K v p.2
def Ev1 (o : Oper) (ρ : Operand → Value) (ds : List Deferred) (H : Heap) (K : Value → List Deferred → Heap → Prop) : Prop :=
 Upon (fun n => dop1 P ok n x o ρ ds H) fun r => ∃ v ds' H', r = .val v ds' H' ∧ K v ds' H'
def EvR (l : Nat) (args : List Value) (H : Heap) (K : Value → Heap → Prop) : Prop := Upon (fun n => dround P ok n l args H) fun p => K p.1 p.2
def EvL (ops : Array Oper) : List Oper → St → (St → Prop) → Prop
 | [], st, Q => Q st
 | o :: os, st, Q =>
  (dwanted ops st.tm o = some false ∧ EvL ops os ⟨putD st.tm o.dst undef, st.ds, st.H⟩ Q) ∨
  (dwanted ops st.tm o = some true ∧ Ev1 P ok x o (ev st.tm) st.ds st.H fun v ds H => EvL ops os ⟨putD st.tm o.dst v, ds, H⟩ Q)
end
def Ex.thenC (k : St → Prop) (Q : Ex → St → Prop) : Ex → St → Prop
 | .normal, st => k st
 | e, st => Q e st
def Ex.inBlock (id : Nat) (Q : Ex → St → Prop) : Ex → St → Prop
 | .exit j, st => if j = id then Q .normal st else Q (.exit j) st
 | e, st => Q e st
def Ex.leave (P : Program) (ok : Ok) (fn : Func) (K : Value → Heap → Prop) : Ex → St → Prop
 | .normal, st | .ret, st => EvV P ok fn st.tm st.ds st.H K
 | _, _ => False
section
variable {P : Program} {ok : Ok} {x : Ctx} {st : St} {Q : Ex → St → Prop}
theorem EvC.mono {c : Code} {R : Ex → St → Prop} (h : EvC P ok x c st Q) (k : ∀ e st, Q e st → R e st) : EvC P ok x c st R := Upon.mono h fun _ hq => k _ _ hq
theorem EvF.mono {f : FuncId} {args : List Value} {H : Heap} {K L : Value → Heap → Prop} (h : EvF P ok f args H K) (k : ∀ v H', K v H' → L v H') : EvF P ok f args H L :=
 Upon.mono h fun _ ⟨v, e, hq⟩ => ⟨v, e, k _ _ hq⟩
theorem Ev1.mono {o : Oper} {ρ : Operand → Value} {ds : List Deferred} {H : Heap} {K L : Value → List Deferred → Heap → Prop} (h : Ev1 P ok x o ρ ds H K) (k : ∀ v d H', K v d H' → L v d H') : Ev1 P ok x o ρ ds H L :=
 Upon.mono h fun _ ⟨v, ds', H', e, hq⟩ => ⟨v, ds', H', e, k _ _ _ hq⟩
theorem EvC.skip (h : Q .normal st) : EvC P ok x .skip st Q := Upon.now (fun n => by rw [dcode]) h
theorem EvC.exit {id : Nat} (h : Q (.exit id) st) : EvC P ok x (.exit id) st Q := Upon.now (fun n => by rw [dcode]) h
theorem EvC.ret (h : Q .ret st) : EvC P ok x .ret st Q := Upon.now (fun n => by rw [dcode]) h
theorem EvC.scope {c : Code} (h : EvC P ok x c st Q) : EvC P ok x (.scope c) st Q := Upon.go (fun n => by rw [dcode]) h
theorem EvC.seq {a b : Code} (h : EvC P ok x a st (Ex.thenC (fun st1 => EvC P ok x b st1 Q) Q)) : EvC P ok x (.seq a b) st Q := by
 refine Upon.step (fun n (r : Ex × St) => match r with | (.normal, st1) => dcode P ok n x b st1 | r => some r) (fun n r hr => ?_) h ?_
 ·rw [dcode, hr]
  obtain ⟨e, s⟩ := r
  cases e <;> rfl
 ·rintro ⟨e, s⟩ hq
  cases e with
  | normal => exact hq
  | _ => exact ⟨0, _, fun n _ => rfl, hq⟩
theorem EvC.condT {c : Operand} {a b : Code} (hc : ev st.tm c = .bool true) (h : EvC P ok x a st Q) : EvC P ok x (.cond c a b) st Q := Upon.go (fun n => by rw [dcode, hc]) h
theorem EvC.condF {c : Operand} {a b : Code} (hc : ev st.tm c = .bool false) (h : EvC P ok x b st Q) : EvC P ok x (.cond c a b) st Q := Upon.go (fun n => by rw [dcode, hc]) h
theorem EvC.cond {c : Operand} {a b : Code} (t : Bool) (hc : ev st.tm c = .bool t) (h1 : t = true → EvC P ok x a st Q) (h2 : t = false → EvC P ok x b st Q) : EvC P ok x (.cond c a b) st Q := by
 cases t with
 | true => exact .condT hc (h1 rfl)
 | false => exact .condF hc (h2 rfl)
theorem EvC.block {id : Nat} {b : Code} (h : EvC P ok x b st (Ex.inBlock id Q)) : EvC P ok x (.block id b) st Q := by
 refine Upon.step (fun n (r : Ex × St) => match r with | (.exit j, st1) => if Nat.beq j id then some (.normal, st1) else some (.exit j, st1) | r => some r) (fun n r hr => ?_) h ?_
 ·rw [dcode, hr]
  obtain ⟨e, s⟩ := r
  cases e <;> rfl
 ·rintro ⟨e, s⟩ hq
  cases e with
  | exit j =>
   simp only [Ex.inBlock] at hq
   by_cases hj : j = id
   ·rw [if_pos hj] at hq
    exact ⟨0, _, fun n _ => by simp only [hj, Nat.beq_refl, if_true]; rfl, hq⟩
   ·rw [if_neg hj] at hq
    have : Nat.beq j id = false := by rw [← Bool.not_eq_true, Nat.beq_eq]; exact hj
    exact ⟨0, _, fun n _ => by simp only [this]; rfl, hq⟩
  | _ => exact ⟨0, _, fun n _ => rfl, hq⟩
theorem EvC.loop1 {b : Code} (h : EvC P ok x b st (Ex.thenC (fun st1 => EvC P ok x (.loop b) st1 Q) Q)) : EvC P ok x (.loop b) st Q := by
 refine Upon.step (fun n (r : Ex × St) => match r with | (.normal, st1) => dcode P ok n x (.loop b) st1 | r => some r) (fun n r hr => ?_) h ?_
 ·rw [dcode, hr]
  obtain ⟨e, s⟩ := r
  cases e <;> rfl
 ·rintro ⟨e, s⟩ hq
  cases e with
  | normal => exact hq
  | _ => exact ⟨0, _, fun n _ => rfl, hq⟩
theorem EvC.loop {b : Code} (I : Nat → St → Prop) (hI : ∀ k st, I k st → EvC P ok x b st (Ex.thenC (fun st1 => ∃ k', k' < k ∧ I k' st1) Q)) : ∀ (k : Nat) (st : St), I k st → EvC P ok x (.loop b) st Q := by
 intro k
 induction k using Nat.strongRecOn with
 | _ k ih =>
  intro st h
  refine EvC.loop1 ((hI k st h).mono fun e st1 hq => ?_)
  cases e with
  | normal => obtain ⟨k', hk, hI'⟩ := hq; exact ih k' hk st1 hI'
  | _ => exact hq
theorem EvO.nil {ops : Array Oper} (h : Q .normal st) : EvO P ok x ops [] st Q := Upon.now (fun n => by rw [dops]) h
theorem EvO.of_list {ops : Array Oper} {K : St → Prop} (hQ : ∀ st, K st → Q .normal st) : ∀ (l : List Nat) (os : List Oper) (st : St), l.map (fun i => ops[i]?) = os.map some → EvL P ok x ops os st K → EvO P ok x ops l st Q
 | [], [], st, _, h => EvO.nil (hQ _ h)
 | [], _ :: _, _, h, _ => by simp at h
 | _ :: _, [], _, h, _ => by simp at h
 | i :: l, o :: os, st, hl, h => by
  simp only [List.map_cons, List.cons.injEq] at hl
  rcases h with ⟨hw, h⟩ | ⟨hw, h⟩
  ·refine Upon.go (fun n => ?_) (EvO.of_list hQ l os _ hl.2 h)
   rw [dops, hl.1]
   simp only [hw]
   cases o.dst <;> rfl
  ·refine Upon.step (fun n r => match r with | .val v ds H => dops P ok n x ops l (St.put ⟨st.tm, ds, st.H⟩ o.dst v H) | .panic ch H => some (.panic ch, ⟨st.tm, st.ds, H⟩)) (fun n r hr => ?_) h ?_
   ·rw [dops, hl.1]
    simp only [hw, hr]
    cases r <;> rfl
   ·rintro r ⟨v, ds, H, rfl, hr⟩
    have := EvO.of_list hQ l os _ hl.2 hr
    refine this.imp fun N => ?_
    rintro ⟨r, h1, h2⟩
    refine ⟨r, fun n hn => ?_, h2⟩
    rw [← h1 n hn]
    cases o.dst <;> rfl
theorem z4t (ops : Array Oper) : (List.range ops.size).map (fun i => ops[i]?) = ops.toList.map some := by
 apply List.ext_getElem?
 intro i
 simp only [List.getElem?_map, List.getElem?_range]
 by_cases h : i < ops.size
 ·simp [h]
 ·simp [h]
theorem EvC.ops {id : Nat} {ops : Array Oper} (h : EvL P ok x ops ops.toList st (Q .normal)) : EvC P ok x (.region id ops false) st Q :=
 Upon.go (fun n => by rw [dcode]) (EvO.of_list (K := Q .normal) (fun _ h => h) _ _ st (z4t ops) h)
theorem z23 {ops : Array Oper} {tm : Tr Value} {o : Oper} (h : o.guard = none) : dwanted ops tm o = some true := by unfold dwanted; rw [h]
theorem Ev1.val {o : Oper} {ρ : Operand → Value} {ds : List Deferred} {H H' : Heap} {v : Value} {K : Value → List Deferred → Heap → Prop} (h : dop P o ρ H = some (.val v H')) (hk : K v ds H') : Ev1 P ok x o ρ ds H K :=
 Upon.now (r := .val v ds H') (fun n => by rw [dop1, h]) ⟨v, ds, H', rfl, hk⟩
theorem Ev1.call {o : Oper} {ρ : Operand → Value} {ds : List Deferred} {H : Heap} {f : FuncId} {args : List Value} {K : Value → List Deferred → Heap → Prop} (h : dop P o ρ H = some (.call f args))
  (hk : EvF P ok f args H fun v H' => K v ds H') : Ev1 P ok x o ρ ds H K := by
 refine Upon.step (fun n (r : En × Heap) => match r with | (.ret v, H') => some (.val v ds H') | (.panic ch, H') => some (.panic ch H')) (fun n r hr => ?_) hk ?_
 ·rw [dop1, h]
  simp only [hr]
  obtain ⟨e, H'⟩ := r
  cases e <;> rfl
 ·rintro ⟨e, H'⟩ ⟨v, rfl, hv⟩
  exact ⟨0, _, fun n _ => rfl, v, ds, H', rfl, hv⟩
theorem Ev1.yield {o : Oper} {ρ : Operand → Value} {ds : List Deferred} {H : Heap} {l : Nat} {args : List Value} {K : Value → List Deferred → Heap → Prop} (h : dop P o ρ H = some (.yield l args))
  (hk : EvR P ok l args H fun v H' => K v ds H') : Ev1 P ok x o ρ ds H K := by
 refine Upon.step (fun n (r : Value × Heap) => some (.val r.1 ds r.2)) (fun n r hr => ?_) hk ?_
 ·rw [dop1, h]
  simp only [hr]
 ·rintro ⟨v, H'⟩ hv
  exact ⟨0, _, fun n _ => rfl, v, ds, H', rfl, hv⟩
section
variable {ops : Array Oper} {os : List Oper} {tm : Tr Value} {ds : List Deferred} {H : Heap} {K : St → Prop} {op : Op} {ty : TypeId} {pos : String} {af : Array Edge}
theorem EvL.val {d : Tmp} {v : Value} {H' : Heap} (h : dop P ⟨some d, op, ty, pos, af, none⟩ (ev tm) H = some (.val v H')) (hk : EvL P ok x ops os ⟨tm.put d (some v), ds, H'⟩ K) :
  EvL P ok x ops (⟨some d, op, ty, pos, af, none⟩ :: os) ⟨tm, ds, H⟩ K := .inr ⟨rfl, Ev1.val h hk⟩
theorem EvL.call {d : Tmp} {f : FuncId} {args : List Value} (h : dop P ⟨some d, op, ty, pos, af, none⟩ (ev tm) H = some (.call f args))
  (hk : EvF P ok f args H fun v H' => EvL P ok x ops os ⟨tm.put d (some v), ds, H'⟩ K) : EvL P ok x ops (⟨some d, op, ty, pos, af, none⟩ :: os) ⟨tm, ds, H⟩ K := .inr ⟨rfl, Ev1.call h hk⟩
end
theorem EvF.enter {f : FuncId} {fn : Func} {c : Code} {args : List Value} {H : Heap} {K : Value → Heap → Prop} (hK : ok.K f args H = none) (hf : P.funcs[f]? = some fn) (hm : ok.testBit f = true) (hb : fn.body = some c)
  (h : EvC P ok ⟨f, none⟩ c ⟨initTm 0 args .nil, [], H⟩ (Ex.leave P ok fn K)) : EvF P ok f args H K := by
 refine Upon.step (fun n (r : Ex × St) => match r with | (.normal, st) | (.ret, st) => dleave P ok n fn st.tm st.ds none st.H | (.panic ch, st) => dleave P ok n fn st.tm st.ds (some ch) st.H | _ => none) (fun n r hr => ?_) h ?_
 ·rw [dcall, hK]
  simp only [hf, hm, hb, hr]
  obtain ⟨e, s⟩ := r
  cases e <;> rfl
 ·rintro ⟨e, s⟩ hq
  cases e with
  | normal => exact hq
  | ret => exact hq
  | exit _ => exact hq.elim
  | panic _ => exact hq.elim
theorem EvF.know {f : FuncId} {args : List Value} {H H' : Heap} {v : Value} {K : Value → Heap → Prop} (hK : ok.K f args H = some (.ret v, H')) (h : K v H') : EvF P ok f args H K :=
 Upon.now (r := (.ret v, H')) (fun n => by rw [dcall, hK]) ⟨v, rfl, h⟩
theorem EvV.now {fn : Func} {tm : Tr Value} {H : Heap} {v : Value} {K : Value → Heap → Prop} (hr : dres P fn tm H = some v) (h : K v H) : EvV P ok fn tm [] H K :=
 Upon.now (r := (.ret v, H)) (fun n => by rw [dleave, hr]) ⟨v, rfl, h⟩
theorem EvV.mark {fn : Func} {tm : Tr Value} {ds : List Deferred} {l : Nat} {args : Array Value} {H : Heap} {K : Value → Heap → Prop} (hg : H.get l = some .dfr) (h : EvV P ok fn tm ds (H.put l none) K) :
  EvV P ok fn tm (⟨.collected l, args⟩ :: ds) H K :=
 Upon.go (fun n => by rw [dleave]; simp only [hg]) h
end
end Go.Hb
end

section
namespace Go.Hb
open Go Go.RowKit
def deadAt (P : Program) (W : World) : Nat := max P.globals.size W.heap.size
def ab (P : Program) (W : World) : Value → Value
 | .pointer (some a) => if a.spot = none ∧ a.block < W.heap.size then .pointer (some a) else .pointer (some ⟨deadAt P W, 0, none⟩)
 | .slice (some a) n c => if n ≤ c ∧ c ≤ maxLen then (if a.spot = none ∧ a.block < W.heap.size then .slice (some a) n c else .slice (some ⟨deadAt P W, 0, none⟩) n c) else junk
 | .map (some _) => .map (some (deadAt P W))
 | v => if flat v then v else junk
def abV (P : Program) (W : World) : Value → Value
 | .agg ⟨cs⟩ => .agg ⟨cs.map (ab P W)⟩
 | v => ab P W v
def mkTr (f : Nat → Option Blk) : Nat → Tr Blk
 | 0 => .nil
 | n + 1 => (mkTr f n).put n (f n)
theorem zdr (f : Nat → Option Blk) : ∀ n i, (mkTr f n).get i = if i < n then f i else none
 | 0, i => by simp [mkTr, Tr.get]
 | n + 1, i => by
  rw [mkTr, Tr.get_put, zdr f n i]
  by_cases h : i = n
  ·rw [if_pos h, if_pos (by omega), h]
  ·rw [if_neg h]
   by_cases h2 : i < n
   ·rw [if_pos h2, if_pos (by omega)]
   ·rw [if_neg h2, if_neg (by omega)]
def blkW (P : Program) (W : World) (i : Nat) : Option Blk :=
 match W.heap[i]? with
 | some (.cells cs t _) => some (.ro (cs.toList.map (ab P W)) t)
 | _ => none
def heapW (P : Program) (W : World) : Heap := ⟨deadAt P W + 1, mkTr (blkW P W) W.heap.size⟩
def sigW (P : Program) (W : World) : Nat → Loc := fun i => if i < W.heap.size then .live i 0 0 else if i < deadAt P W + 1 then .dead else .none
def tauW : Nat → Value := fun _ => .bool true
section
variable {P : Program} {W : World}
theorem z74 (i : Nat) : (heapW P W).get i = if i < W.heap.size then blkW P W i else none := zdr _ _ _
theorem z75 : sigW P W (deadAt P W) = .dead := by
 unfold sigW
 rw [if_neg (by unfold deadAt; omega), if_pos (by omega)]
theorem z9q {b : Nat} (h : b < W.heap.size) : sigW P W b = .live b 0 0 := by unfold sigW; rw [if_pos h]
theorem zlg (v : Value) : VR (sigW P W) tauW (ab P W v) v := by
 have dead : ∀ a : Addr, AR (sigW P W) ⟨deadAt P W, 0, none⟩ a := fun a => by unfold AR; simp only [z75]
 have live : ∀ a : Addr, a.spot = none ∧ a.block < W.heap.size → AR (sigW P W) a a := fun a h => by
  unfold AR; rw [h.1]; simp only [z9q h.2]
  obtain ⟨b, o, s⟩ := a
  obtain rfl : s = none := h.1
  exact ⟨rfl, rfl⟩
 have rest : ∀ v : Value, VR (sigW P W) tauW (if flat v then v else junk) v := fun v => by
  split
  ·rename_i h; exact .flat _ h
  ·exact .junk _
 unfold ab
 split
 ·split
  ·rename_i h; exact .ptr _ _ (live _ h)
  ·exact .ptr _ _ (dead _)
 ·split
  ·rename_i h
   split
   ·rename_i h2
    refine .slice _ _ _ _ _ (live _ h2) h.1 (Nat.le_refl _) ⟨h.2, fun _ b S es hb => ?_⟩
    rw [z9q h2.2] at hb
    cases hb
    exact fun e => absurd rfl e
   ·refine .slice _ _ _ _ _ (dead _) h.1 (Nat.le_refl _) ⟨h.2, fun _ b S es hb => ?_⟩
    simp only [z75] at hb
    cases hb
  ·exact .junk _
 ·refine .map _ _ ?_
  unfold BR; rw [z75]; trivial
 ·exact rest _
theorem zhi (l : List Value) : LR (sigW P W) tauW (l.map (ab P W)) l :=
 ⟨by simp, fun i v v' h h' => by
  rw [List.getElem?_map, h'] at h
  simp only [Option.map_some, Option.some.injEq] at h
  subst h; exact zlg v'⟩
theorem zmu (v : Value) : VR (sigW P W) tauW (abV P W v) v := by
 unfold abV
 split
 ·rename_i cs
  exact RA.mk_agg (x := ⟨cs.map (ab P W)⟩) (x' := ⟨cs⟩) (zhi cs)
 ·exact zlg _
theorem zkc (l : List Value) : LR (sigW P W) tauW (l.map (abV P W)) l :=
 ⟨by simp, fun i v v' h h' => by
  rw [List.getElem?_map, h'] at h
  simp only [Option.map_some, Option.some.injEq] at h
  subst h; exact zmu v'⟩
theorem HR.world : HR P W.heap.size W tauW (sigW P W) (heapW P W) W := by
 refine ⟨Below.refl _ _, Nat.le_refl _, fun i hi => ?_, fun i B hB => ?_, fun i j b S es S' es' hi hj => ?_, fun i b S es hi => ?_⟩
 ·have hi' : deadAt P W + 1 ≤ i := hi
  unfold sigW
  have : W.heap.size ≤ deadAt P W := by unfold deadAt; omega
  rw [if_neg (by omega), if_neg (by omega)]
 ·rw [z74] at hB
  split at hB
  ·rename_i hlt
   unfold blkW at hB
   split at hB
   ·rename_i cs t fr hw
    cases hB
    rw [z9q hlt]
    refine .ro i 0 _ t cs fr hlt hw ?_
    unfold PR
    rw [List.length_map, List.take_length]
    exact zhi _
   ·cases hB
  ·cases hB
 ·unfold sigW at hi hj
  split at hi
  ·split at hj
   ·cases hi; cases hj; rfl
   ·split at hj <;> cases hj
  ·split at hi <;> cases hi
 ·unfold sigW at hi
  split at hi
  ·cases hi; assumption
  ·split at hi <;> cases hi
theorem GR.world : GR P (sigW P W) := fun g hg => by
 by_cases h : g < W.heap.size
 ·exact .inr ⟨0, 0, z9q h⟩
 ·refine .inl ?_
  unfold sigW
  rw [if_neg h, if_pos (by unfold deadAt; omega)]
theorem zg6 {b o n : Nat} {l : List Value} (hn : 0 < n) (hl : l.length = n) (h : ∀ j v, l[j]? = some v → W.cell? ⟨b, o + j, none⟩ = some v) : (heapW P W).load ⟨b, o, none⟩ n = some (l.map (ab P W)) := by
 have hcell : ∀ j (hj : j < n), ∃ cs t fr, W.heap[b]? = some (.cells cs t fr) ∧ cs[o + j]? = l[j]? := fun j hj => by
  have h0 := h j l[j] (List.getElem?_eq_getElem (by omega))
  unfold World.cell? at h0
  simp only at h0
  split at h0
  ·rename_i cs t fr hw
   refine ⟨cs, t, fr, hw, ?_⟩
   rw [List.getElem?_eq_getElem (by omega)]
   simpa using h0
  ·cases h0
 obtain ⟨cs, t, fr, hw, _⟩ := hcell 0 hn
 have hlt : b < W.heap.size := (Array.getElem?_eq_some_iff.1 hw).1
 have hcells : (heapW P W).cells b = some (cs.toList.map (ab P W)) := by
  unfold Heap.cells
  rw [z74, if_pos hlt]
  unfold blkW
  rw [hw]
 have hget : ∀ j, j < n → cs[o + j]? = l[j]? := fun j hj => by
  obtain ⟨cs', t', fr', hw', he⟩ := hcell j hj
  rw [hw] at hw'; cases hw'; exact he
 have hlist : ((cs.toList.map (ab P W)).drop o).take n = l.map (ab P W) := by
  apply List.ext_getElem?
  intro j
  rw [List.getElem?_take]
  by_cases hj : j < n
  ·rw [if_pos hj, List.getElem?_drop, List.getElem?_map, List.getElem?_map]
   have := hget j hj
   simp only [Array.getElem?_toList]
   rw [this]
  ·rw [if_neg hj, List.getElem?_eq_none (by simp; omega)]
 unfold Heap.load
 rw [hcells]
 simp only [hlist]
 rw [if_pos (by rw [Nat.beq_eq]; simp [hl])]
theorem zd1 {ok : Ok} {f : FuncId} {args : Array Value} (hm : P.follows .mixedOrders = true) (hOK : OkFns P W.heap.size W ok)
  (h : EvF P ok f (args.toList.map (abV P W)) (heapW P W) fun v _ => v = .bool true) : Calls P f args W fun e W' => e = .returned (.bool true) ∧ Below W.heap.size W W' := by
 obtain ⟨N, ⟨en, H'⟩, hr, v, he, hv⟩ := h
 simp only at he
 subst he hv
 refine (z6d (τ := tauW) (fun _ => rfl) hm hOK (hr N (Nat.le_refl _)) (zkc args.toList) HR.world GR.world).mono fun e w' he => ?_
 obtain ⟨σ', hen, hH, _⟩ := he
 cases e with
 | returned v' => exact ⟨by rw [show v' = .bool true from VR.flat_eq hen rfl], hH.below⟩
 | panicked _ => exact hen.elim
 | outgrown => exact hen.elim
end
end Go.Hb
end
