/- Regions that draw their order of evaluation: what stands ahead of what, and what the abstract machine's run of one shows. -/
import Derived.Test.YtgcbbaeokigbdaaDoorHbAlloc
namespace Go.Hb
open Go Go.RowKit

/-! ## Values alike -/
mutual
theorem veq_eq : ∀ (v u : Value), veq v u = true → v = u
  | .bool a, u, h => by cases u <;> simp [veq] at h; rw [h]
  | .int k a, u, h => by cases u <;> simp [veq] at h; rw [h.1, h.2]
  | .float k a, u, h => by cases u <;> simp [veq] at h; rw [h.1, h.2]
  | .complex _ _ _, u, h => by cases u <;> simp [veq] at h
  | .string a, u, h => by
    cases u <;> simp [veq] at h
    rename_i b
    have : a = b := by
      obtain ⟨⟨x⟩⟩ := a
      obtain ⟨⟨y⟩⟩ := b
      simp at h
      rw [h]
    rw [this]
  | .pointer a, u, h => by cases u <;> simp [veq] at h; rw [h]
  | .slice a n c, u, h => by cases u <;> simp [veq] at h; rw [h.1.1, h.1.2, h.2]
  | .map a, u, h => by cases u <;> simp [veq] at h; rw [h]
  | .chan none, u, h => by cases u <;> simp [veq] at h
  | .chan (some a), u, h => by
    cases u <;> try (simp [veq] at h; done)
    rename_i b
    cases b <;> simp [veq] at h
    rw [h]
  | .func (.func f) ⟨a⟩ ⟨b⟩, u, h => by
    cases u with
    | func g c d =>
      cases g with
      | func g =>
        obtain ⟨c⟩ := c
        obtain ⟨d⟩ := d
        simp [veq] at h
        rw [h.1.1, veqL_eq a c h.1.2, veqL_eq b d h.2]
      | _ => simp [veq] at h
    | _ => simp [veq] at h
  | .func (.method _) _ _, u, h => by simp [veq] at h
  | .func (.methodOf _ _) _ _, u, h => by simp [veq] at h
  | .func (.via _ _ _ _) _ _, u, h => by simp [veq] at h
  | .func (.yield _) _ _, u, h => by simp [veq] at h
  | .nilFunc, u, h => by cases u <;> simp [veq] at h; rfl
  | .iface t v, u, h => by
    cases u <;> simp [veq] at h
    rename_i s w
    rw [h.1, veq_eq v w h.2]
  | .nilIface, u, h => by cases u <;> simp [veq] at h; rfl
  | .agg ⟨a⟩, u, h => by
    cases u with
    | agg b => obtain ⟨b⟩ := b; simp [veq] at h; rw [veqL_eq a b h]
    | _ => simp [veq] at h
  | .tuple ⟨a⟩, u, h => by
    cases u with
    | tuple b => obtain ⟨b⟩ := b; simp [veq] at h; rw [veqL_eq a b h]
    | _ => simp [veq] at h
theorem veqL_eq : ∀ (a b : List Value), veqL a b = true → a = b
  | [], b, h => by cases b <;> simp [veqL] at h; rfl
  | v :: a, b, h => by
    cases b with
    | nil => simp [veqL] at h
    | cons w b => simp [veqL] at h; rw [veq_eq v w h.1, veqL_eq a b h.2]
end

/-! ## What stands ahead of what -/
def anc (b : Array Nat) (i j : Nat) : Prop := (b.getD i 0).testBit j = true

structure RC (ops : Array Oper) (b : Array Nat) (effs : List Nat) : Prop where
  slot : ∀ p q op oq d, ops[p]? = some op → ops[q]? = some oq → p ≠ q → op.dst = some d → oq.dst ≠ some d ∧ (Operand.tmp d ∈ oq.op.operands.toList → anc b q p ∨ anc b p q)
  edge : ∀ i o, ops[i]? = some o → ∀ j, anc b i j ↔ ∃ e ∈ o.after.toList, Region.binds .any e = true ∧ (j = e.on ∨ anc b e.on j)
  lt : ∀ i o e, ops[i]? = some o → e ∈ o.after.toList → Region.binds .any e = true → e.on < i
  out : ∀ i, ops.size ≤ i → ∀ j, ¬ anc b i j
  guard : ∀ i o j want, ops[i]? = some o → o.guard = some (j, want) → anc b i j
  hf : effs = (List.range ops.size).filter fun i => match ops[i]? with | some o => isEff o | none => false
  chain : chainOK ops b effs = true

theorem foldl_bits (b : Array Nat) (j : Nat) : ∀ (l : List Edge) (s : Nat),
    (l.foldl (fun s e => if Region.binds .any e then s ||| 2 ^ e.on ||| b.getD e.on 0 else s) s).testBit j = true ↔ s.testBit j = true ∨ ∃ e ∈ l, Region.binds .any e = true ∧ (j = e.on ∨ anc b e.on j)
  | [], s => by simp
  | e :: l, s => by
    rw [List.foldl_cons, foldl_bits b j l]
    by_cases he : Region.binds .any e = true
    · rw [if_pos he]
      simp only [Nat.testBit_or, Bool.or_eq_true, Nat.testBit_two_pow, decide_eq_true_eq, List.mem_cons]
      constructor
      · rintro (((h | h) | h) | ⟨f, hf, h⟩)
        · exact .inl h
        · exact .inr ⟨e, .inl rfl, he, .inl h.symm⟩
        · exact .inr ⟨e, .inl rfl, he, .inr h⟩
        · exact .inr ⟨f, .inr hf, h⟩
      · rintro (h | ⟨f, rfl | hf, h1, h2 | h2⟩)
        · exact .inl (.inl (.inl h))
        · exact .inl (.inl (.inr h2.symm))
        · exact .inl (.inr h2)
        · exact .inr ⟨f, hf, h1, .inl h2⟩
        · exact .inr ⟨f, hf, h1, .inr h2⟩
    · rw [if_neg he]
      constructor
      · rintro (h | ⟨f, hf, h⟩)
        · exact .inl h
        · exact .inr ⟨f, List.mem_cons_of_mem _ hf, h⟩
      · rintro (h | ⟨f, hf, h⟩)
        · exact .inl h
        · rcases List.mem_cons.1 hf with rfl | hf
          · exact absurd h.1 he
          · exact .inr ⟨f, hf, h⟩

theorem RC.of_ok {ops : Array Oper} (h : okDraw ops = true) :
    RC ops (Region.before ops) ((List.range ops.size).filter fun i => match ops[i]? with | some o => isEff o | none => false) := by
  unfold okDraw at h
  simp only [Bool.and_eq_true, List.all_eq_true] at h
  obtain ⟨⟨⟨hsz, hap⟩, hch⟩, hall⟩ := h
  have hix : ∀ i o, ops[i]? = some o → (o, i) ∈ ops.toList.zipIdx := fun i o ho => by
    rw [List.mem_zipIdx_iff_getElem?]; simpa using ho
  rw [Nat.beq_eq] at hsz
  refine ⟨fun p q op oq d hp hq hne hd => ?_, fun i o ho j => ?_, fun i o e ho he hb => ?_, fun i hi j hj => ?_, fun i o j want ho hg => ?_, rfl, hch⟩
  · unfold apartOK at hap
    simp only [List.all_eq_true] at hap
    have h1 := hap _ (hix p op hp)
    rw [hd] at h1
    simp only [List.all_eq_true] at h1
    have h2 := h1 _ (hix q oq hq)
    simp only [Bool.or_eq_true, Bool.and_eq_true, Nat.beq_eq] at h2
    rcases h2 with h2 | ⟨h2, h3⟩
    · exact absurd h2 hne
    · refine ⟨fun hq' => ?_, fun hm => ?_⟩
      · rw [hq'] at h2; simp at h2
      · rcases h3 with (h3 | h3) | h3
        · simp only [Bool.not_eq_true', List.any_eq_false] at h3
          have := h3 _ hm
          simp at this
        · exact .inl h3
        · exact .inr h3
  · have h1 := (hall _ (hix i o ho)).1.1
    rw [Nat.beq_eq] at h1
    unfold anc
    simp only at h1
    rw [h1]
    unfold ahead
    rw [foldl_bits]
    simp [anc]
  · have h1 := (hall _ (hix i o ho)).1.2 e he
    simp only [Bool.or_eq_true, Bool.not_eq_true', Nat.blt_eq, hb] at h1
    simpa using h1
  · unfold anc at hj
    rw [Array.getD_eq_getD_getElem?, Array.getElem?_eq_none (by omega)] at hj
    simp at hj
  · have h1 := (hall _ (hix i o ho)).2
    rw [hg] at h1
    exact h1

section
variable {ops : Array Oper} {b : Array Nat} {effs : List Nat}

theorem some_of_lt {i : Nat} (h : i < ops.size) : ∃ o, ops[i]? = some o := ⟨ops[i], by simp [h]⟩
theorem lt_of_some {i : Nat} {o : Oper} (h : ops[i]? = some o) : i < ops.size := (Array.getElem?_eq_some_iff.1 h).1

theorem RC.anc_some (R : RC ops b effs) {i j : Nat} (h : anc b i j) : ∃ o, ops[i]? = some o := by
  rcases Nat.lt_or_ge i ops.size with hi | hi
  · exact some_of_lt hi
  · exact absurd h (R.out i hi j)

theorem RC.anc_lt (R : RC ops b effs) : ∀ i j, anc b i j → j < i := by
  intro i
  induction i using Nat.strongRecOn with
  | _ i ih =>
    intro j h
    obtain ⟨o, ho⟩ := R.anc_some h
    obtain ⟨e, he, hb, h1⟩ := (R.edge i o ho j).1 h
    have hlt := R.lt i o e ho he hb
    rcases h1 with rfl | h1
    · exact hlt
    · have := ih _ hlt _ h1; omega

theorem RC.anc_trans (R : RC ops b effs) : ∀ i j k, anc b i j → anc b j k → anc b i k := by
  intro i
  induction i using Nat.strongRecOn with
  | _ i ih =>
    intro j k h hk
    obtain ⟨o, ho⟩ := R.anc_some h
    obtain ⟨e, he, hb, h1⟩ := (R.edge i o ho j).1 h
    have hlt := R.lt i o e ho he hb
    refine (R.edge i o ho k).2 ⟨e, he, hb, .inr ?_⟩
    rcases h1 with rfl | h1
    · exact hk
    · exact ih _ hlt _ _ h1 hk

/-- a set that holds what stands ahead of its members -/
def DS (ops : Array Oper) (b : Array Nat) (S : Nat → Prop) : Prop := ∀ i, S i → i < ops.size ∧ ∀ j, anc b i j → S j

/-- written by one of a set -/
def written (ops : Array Oper) (S : Nat → Prop) (t : Tmp) : Prop := ∃ p o, S p ∧ ops[p]? = some o ∧ o.dst = some t

open Classical in
/-- what an operation finds -/
noncomputable def rho (ops : Array Oper) (b : Array Nat) (tm0 tmF : Tr Value) (i : Nat) (x : Operand) : Value :=
  match x with
  | .tmp t => if written ops (anc b i) t then ev tmF (.tmp t) else ev tm0 (.tmp t)
  | x => ev tm0 x

/-- the temporaries when a set has been done -/
def TI (ops : Array Oper) (tm0 tmF : Tr Value) (S : Nat → Prop) (tm : Tr Value) : Prop :=
  ∀ t, (written ops S t → tm.get t = tmF.get t) ∧ (¬ written ops S t → tm.get t = tm0.get t)

theorem RC.not_written (R : RC ops b effs) {S : Nat → Prop} (hS : DS ops b S) {i : Nat} {o : Oper} (ho : ops[i]? = some o) (hi : ¬ S i) {t : Tmp} (hx : Operand.tmp t ∈ o.op.operands.toList)
    (hw : ¬ written ops (anc b i) t) : ¬ written ops S t := by
  rintro ⟨q, oq, hq, hoq, hd⟩
  have hne : q ≠ i := fun e => hi (e ▸ hq)
  rcases (R.slot q i oq o t hoq ho hne hd).2 hx with h | h
  · exact hw ⟨q, oq, h, hoq, hd⟩
  · exact hi ((hS q hq).2 i h)

theorem written_mono {S T : Nat → Prop} (h : ∀ i, S i → T i) {t : Tmp} (hw : written ops S t) : written ops T t := by
  obtain ⟨p, o, hp, ho, hd⟩ := hw; exact ⟨p, o, h p hp, ho, hd⟩

theorem RC.ev_rho (R : RC ops b effs) {S : Nat → Prop} (hS : DS ops b S) {tm0 tmF tm : Tr Value} (hT : TI ops tm0 tmF S tm) {i : Nat} {o : Oper} (ho : ops[i]? = some o) (hi : ¬ S i)
    (ha : ∀ j, anc b i j → S j) : ∀ x ∈ o.op.operands.toList, ev tm x = rho ops b tm0 tmF i x := by
  intro x hx
  cases x with
  | tmp t =>
    unfold rho
    simp only
    split
    · rename_i hw
      show (tm.get t).getD junk = (tmF.get t).getD junk
      rw [(hT t).1 (written_mono ha hw)]
    · rename_i hw
      show (tm.get t).getD junk = (tm0.get t).getD junk
      rw [(hT t).2 (R.not_written hS ho hi hx hw)]
  | _ => rfl

theorem RC.wanted (R : RC ops b effs) {S : Nat → Prop} {tm0 tmF tm : Tr Value} (hT : TI ops tm0 tmF S tm) {i : Nat} {o : Oper} (ho : ops[i]? = some o)
    (ha : ∀ j, anc b i j → S j) : dwanted ops tm o = dwanted ops tmF o := by
  unfold dwanted
  cases hg : o.guard with
  | none => rfl
  | some jw =>
    obtain ⟨j, want⟩ := jw
    have hj := R.guard i o j want ho hg
    simp only
    cases hd : (ops[j]?).bind (·.dst) with
    | none => rfl
    | some d =>
      simp only
      obtain ⟨oj, hoj, hdj⟩ := Option.bind_eq_some_iff.1 hd
      rw [(hT d).1 ⟨j, oj, ha j hj, hoj, hdj⟩]
end

/-! ## Operations that are no effects -/
section
variable {P : Program} {ops : Array Oper} {b : Array Nat} {effs : List Nat}

theorem dalloc_congr {o : Oper} {ρ ρ' : Operand → Value} (hal : isAlloc o = true) (h : ∀ x ∈ o.op.operands.toList, ρ x = ρ' x) : dalloc P o ρ = dalloc P o ρ' := by
  have hd : dop P o ρ ⟨0, .nil⟩ = dop P o ρ' ⟨0, .nil⟩ := by
    obtain ⟨dst, op, type, pos, after, guard⟩ := o
    cases op with
    | alloc e => rfl
    | box e x => simp only [dop, h x (by simp [Op.operands])]
    | buildSlice t len parts =>
      have hp : ∀ p ∈ parts.toList, ρ p.2 = ρ' p.2 := fun p hp => h p.2 (by simp only [Op.operands]; exact List.mem_map.2 ⟨p, hp, rfl⟩)
      have h1 : (parts.toList.map fun p => (p.1, ρ p.2)) = parts.toList.map fun p => (p.1, ρ' p.2) := List.map_congr_left fun p hq => by rw [hp p hq]
      have h2 : parts.toList.all (fun p => (ρ p.2).cells.toList.all one) = parts.toList.all (fun p => (ρ' p.2).cells.toList.all one) := by
        rw [Bool.eq_iff_iff, List.all_eq_true, List.all_eq_true]
        exact ⟨fun k p hq => by rw [← hp p hq]; exact k p hq, fun k p hq => by rw [hp p hq]; exact k p hq⟩
      simp only [dop, h1, h2]
    | makeSlice t l c => simp only [dop, h l (by simp [Op.operands]), h c (by simp [Op.operands])]
    | makeMap t r => cases r <;> simp only [dop]
    | range t x => simp only [dop, h x (by simp [Op.operands])]
    | _ => cases hal
  unfold dalloc
  rw [hd]

/-- what an operation that is no effect has shown -/
def FN (P : Program) (ops : Array Oper) (b : Array Nat) (base : Nat) (tm0 tmF : Tr Value) (i : Nat) (o : Oper) (G : Heap) : Prop :=
  (dwanted ops tmF o = some false ∧ ∀ d, o.dst = some d → tmF.get d = some undef) ∨
  (dwanted ops tmF o = some true ∧ isAlloc o = true ∧ ∃ B mk, dalloc P o (rho ops b tm0 tmF i) = some (B, mk) ∧ ∀ d, o.dst = some d → tmF.get d = some (mk (base + i))) ∨
  (dwanted ops tmF o = some true ∧ isAlloc o = false ∧ ∃ ρ v, (∀ x ∈ o.op.operands.toList, ρ x = rho ops b tm0 tmF i x) ∧ dop P o ρ G = some (.val v G) ∧ ∀ d, o.dst = some d → tmF.get d = some v)

def putD (tm : Tr Value) (d : Option Tmp) (v : Value) : Tr Value := match d with | some d => tm.put d (some v) | none => tm

theorem putD_get (tm : Tr Value) (d : Option Tmp) (v : Value) (t : Tmp) : (d = some t → (putD tm d v).get t = some v) ∧ (d ≠ some t → (putD tm d v).get t = tm.get t) := by
  cases d with
  | none => exact ⟨fun h => (by cases h), fun _ => rfl⟩
  | some d =>
    constructor
    · intro h; cases h; show (tm.put t (some v)).get t = _; rw [Tr.get_put, if_pos rfl]
    · intro h; show (tm.put d (some v)).get t = _; rw [Tr.get_put, if_neg (fun e => h (by rw [e]))]

/-- one step of dnon -/
theorem dnon_cons {base : Nat} {hs : List Heap} {i : Nat} {L : List Nat} {tm : Tr Value} {H : Heap} {r : Tr Value × Heap} (h : dnon P ops b effs base hs (i :: L) tm H = some r) :
    ∃ o v H', ops[i]? = some o ∧ dnon P ops b effs base hs L (putD tm o.dst v) H' = some r ∧
      ((dwanted ops tm o = some false ∧ v = undef ∧ H' = H) ∨
       (dwanted ops tm o = some true ∧ isAlloc o = true ∧ ∃ B mk, dalloc P o (ev tm) = some (B, mk) ∧ v = mk (base + i) ∧ H' = H.put (base + i) (some B)) ∨
       (dwanted ops tm o = some true ∧ isAlloc o = false ∧ H' = H ∧ ∃ G gs G', hs = G :: gs ∧ dop P o (ev tm) G = some (.val v G') ∧
        (isRead o = false ∨ (G'.next = G.next ∧ sameOn P o (ev tm) v (gs.take (gs.length - effsIn effs (b.getD i 0))) = true)))) := by
  unfold dnon at h
  cases ho : ops[i]? with
  | none => rw [ho] at h; cases h
  | some o =>
    rw [ho] at h
    simp only at h
    cases hw : dwanted ops tm o with
    | none => rw [hw] at h; cases h
    | some wd =>
      rw [hw] at h
      cases wd with
      | false => exact ⟨o, undef, H, rfl, h, .inl ⟨hw, rfl, rfl⟩⟩
      | true =>
        simp only at h
        cases hal : isAlloc o with
        | true =>
          rw [hal] at h
          simp only at h
          cases hd : dalloc P o (ev tm) with
          | none => rw [hd] at h; cases h
          | some p =>
            obtain ⟨B, mk⟩ := p
            rw [hd] at h
            exact ⟨o, _, _, rfl, h, .inr (.inl ⟨hw, hal, B, mk, hd, rfl, rfl⟩)⟩
        | false =>
          rw [hal] at h
          simp only at h
          cases hs with
          | nil => cases h
          | cons G gs =>
            simp only at h
            split at h
            case h_2 => cases h
            rename_i v G' hd
            split at h
            case h_2 => cases h
            rename_i hc
            refine ⟨o, v, H, rfl, h, .inr (.inr ⟨hw, hal, rfl, G, gs, G', rfl, hd, ?_⟩)⟩
            simpa [Nat.beq_eq] using hc

theorem dnon_keeps {base : Nat} {hs : List Heap} {t : Tmp} : ∀ {L : List Nat} {tm : Tr Value} {H : Heap} {r : Tr Value × Heap}, dnon P ops b effs base hs L tm H = some r →
    (∀ i ∈ L, ∀ o, ops[i]? = some o → o.dst ≠ some t) → r.1.get t = tm.get t
  | [], tm, H, r, h, _ => by unfold dnon at h; cases h; rfl
  | i :: L, tm, H, r, h, hn => by
    obtain ⟨o, v, H', ho, h', _⟩ := dnon_cons h
    rw [dnon_keeps h' (fun j hj => hn j (List.mem_cons_of_mem _ hj))]
    exact (putD_get tm o.dst v t).2 (hn i (by simp) o ho)

theorem sameOn_mem {o : Oper} {ρ : Operand → Value} {v : Value} : ∀ {l : List Heap} {G : Heap}, sameOn P o ρ v l = true → G ∈ l → ∃ G', dop P o ρ G = some (.val v G') ∧ G'.next = G.next
  | H :: l, G, h, hm => by
    unfold sameOn at h
    simp only [Bool.and_eq_true] at h
    rcases List.mem_cons.1 hm with rfl | hm
    · have h1 := h.1
      split at h1
      · rename_i u H' hd
        simp only [Bool.and_eq_true, Nat.beq_eq] at h1
        rw [← veq_eq u v h1.1]
        exact ⟨H', hd, h1.2⟩
      · cases h1
    · exact sameOn_mem h.2 hm

/-- the facts that a list's run shows -/
theorem dnon_facts (R : RC ops b effs) {base : Nat} {hs : List Heap} {tm0 tmF : Tr Value} : ∀ {L : List Nat} {S : Nat → Prop} {tm : Tr Value} {H : Heap} {r : Tr Value × Heap},
    dnon P ops b effs base hs L tm H = some r → L.Pairwise (· < ·) → DS ops b S → (∀ i ∈ L, i < ops.size ∧ ¬ S i ∧ (∀ o, ops[i]? = some o → isEff o = false) ∧ ∀ j, anc b i j → S j ∨ j ∈ L) →
    (∀ t, written ops (fun i => S i ∨ i ∈ L) t → r.1.get t = tmF.get t) → (∀ t, ¬ written ops S t → tm.get t = tm0.get t) →
    (∀ i ∈ L, ∀ o, ops[i]? = some o → ∀ pre G post, hs = pre ++ G :: post → effsIn effs (b.getD i 0) ≤ post.length → FN P ops b base tm0 tmF i o G) ∧
    (∀ t, ¬ written ops (fun i => S i ∨ i ∈ L) t → r.1.get t = tm0.get t) ∧
    ∃ l : List (Nat × Blk), r.2 = l.foldl (fun H p => H.put (base + p.1) (some p.2)) H ∧ ∀ p ∈ l, p.1 ∈ L ∧ ∃ o mk, ops[p.1]? = some o ∧ isAlloc o = true ∧ dwanted ops tmF o = some true ∧ dalloc P o (rho ops b tm0 tmF p.1) = some (p.2, mk)
  | [], S, tm, H, r, h, _, hS, _, hF, h0 => by
    unfold dnon at h
    cases h
    refine ⟨fun i hi => (by cases hi), fun t ht => h0 t fun hw => ht (written_mono (fun i hi => .inl hi) hw), [], rfl, fun p hp => (by cases hp)⟩
  | i :: L, S, tm, H, r, h, hso, hS, hL, hF, h0 => by
    obtain ⟨o, v, H', ho, h', hc⟩ := dnon_cons h
    obtain ⟨hiz, hiS, hie, hia⟩ := hL i (by simp)
    rw [List.pairwise_cons] at hso
    -- what stands ahead of it is done
    have ha : ∀ j, anc b i j → S j := fun j hj => by
      rcases hia j hj with h1 | h1
      · exact h1
      · have hlt := R.anc_lt i j hj
        rcases List.mem_cons.1 h1 with rfl | h1
        · omega
        · have := hso.1 j h1; omega
    -- the slots of those done
    have hkS : ∀ t, written ops S t → tm.get t = tmF.get t := by
      intro t hw
      rw [← hF t (written_mono (fun i hi => .inl hi) hw)]
      obtain ⟨p, op, hp, hop, hd⟩ := hw
      exact (dnon_keeps h (fun j hj oj hoj => (R.slot p j op oj t hop hoj (fun e => (hL j hj).2.1 (e ▸ hp)) hd).1)).symm
    have hTI : TI ops tm0 tmF S tm := fun t => ⟨hkS t, h0 t⟩
    have hρ := R.ev_rho hS hTI ho hiS ha
    have hw := R.wanted hTI ho ha
    have hS' : DS ops b (fun j => S j ∨ j = i) := fun j hj => by
      rcases hj with hj | rfl
      · exact ⟨(hS j hj).1, fun k hk => .inl ((hS j hj).2 k hk)⟩
      · exact ⟨hiz, fun k hk => .inl (ha k hk)⟩
    have h0' : ∀ t, ¬ written ops (fun j => S j ∨ j = i) t → (putD tm o.dst v).get t = tm0.get t := fun t ht => by
      rw [(putD_get tm o.dst v t).2 (fun hd => ht ⟨i, o, .inr rfl, ho, hd⟩)]
      exact h0 t fun hw => ht (written_mono (fun i hi => .inl hi) hw)
    have heq : (fun j => (S j ∨ j = i) ∨ j ∈ L) = (fun j => S j ∨ j ∈ i :: L) := by
      funext j; simp only [List.mem_cons, or_assoc]
    have hF' : ∀ t, written ops (fun j => (S j ∨ j = i) ∨ j ∈ L) t → r.1.get t = tmF.get t := by rw [heq]; exact hF
    obtain ⟨k1, k2, l, k3, k4⟩ := dnon_facts R h' hso.2 hS' (fun j hj => by
      obtain ⟨q1, q2, q3, q4⟩ := hL j (List.mem_cons_of_mem _ hj)
      refine ⟨q1, fun hh => ?_, q3, fun k hk => ?_⟩
      · rcases hh with hh | rfl
        · exact q2 hh
        · have := hso.1 _ hj; omega
      · rcases q4 k hk with q | q
        · exact .inl (.inl q)
        · rcases List.mem_cons.1 q with rfl | q
          · exact .inl (.inr rfl)
          · exact .inr q) hF' h0'
    have hdv : ∀ d, o.dst = some d → tmF.get d = some v := fun d hd => by
      rw [← hF d ⟨i, o, .inr (by simp), ho, hd⟩, dnon_keeps h' (fun j hj oj hoj => (R.slot i j o oj d ho hoj (fun e => by have := hso.1 j hj; omega) hd).1)]
      exact (putD_get tm o.dst v d).1 hd
    refine ⟨fun j hj oj hoj pre G post hhs hle => ?_, by rw [heq] at k2; exact k2, ?_⟩
    rotate_left
    · have k4' : ∀ p ∈ l, p.1 ∈ i :: L ∧ ∃ o mk, ops[p.1]? = some o ∧ isAlloc o = true ∧ dwanted ops tmF o = some true ∧ dalloc P o (rho ops b tm0 tmF p.1) = some (p.2, mk) := fun p hp => ⟨List.mem_cons_of_mem _ (k4 p hp).1, (k4 p hp).2⟩
      rcases hc with ⟨c1, _, rfl⟩ | ⟨c1, c2, B, mk, c3, _, rfl⟩ | ⟨c1, c2, rfl, _⟩
      · exact ⟨l, k3, k4'⟩
      · refine ⟨(i, B) :: l, k3, fun p hp => ?_⟩
        rcases List.mem_cons.1 hp with rfl | hp
        · exact ⟨by simp, o, mk, ho, c2, hw ▸ c1, (dalloc_congr c2 hρ) ▸ c3⟩
        · exact k4' p hp
      · exact ⟨l, k3, k4'⟩
    rcases List.mem_cons.1 hj with rfl | hj
    · rw [ho] at hoj
      cases hoj
      rcases hc with ⟨c1, rfl, _⟩ | ⟨c1, c2, B, mk, c3, rfl, _⟩ | ⟨c1, c2, _, G0, gs, G', rfl, c4, c5⟩
      · exact .inl ⟨hw ▸ c1, hdv⟩
      · exact .inr (.inl ⟨hw ▸ c1, c2, B, mk, (dalloc_congr c2 hρ) ▸ c3, hdv⟩)
      · refine .inr (.inr ⟨hw ▸ c1, c2, ev tm, v, hρ, ?_, hdv⟩)
        cases hrd : isRead o with
        | false =>
          have hp : isPure o = true := by simp [isPure, hrd, c2, hie o ho]
          exact (dop_pure hp c4).2 G
        | true =>
          rcases c5 with c5 | ⟨c5, c6⟩
          · rw [hrd] at c5; cases c5
          · cases pre with
            | nil =>
              simp only [List.nil_append, List.cons.injEq] at hhs
              obtain ⟨rfl, rfl⟩ := hhs
              have := dop_read hrd c4 c5
              rw [this] at c4; exact c4
            | cons G1 pre =>
              simp only [List.cons_append, List.cons.injEq] at hhs
              obtain ⟨rfl, rfl⟩ := hhs
              have hmem : G ∈ ((pre ++ G :: post).take ((pre ++ G :: post).length - effsIn effs (b.getD j 0))) := by
                rw [List.mem_take_iff_getElem]
                refine ⟨pre.length, ?_, ?_⟩
                · simp only [List.length_append, List.length_cons]; omega
                · simp
              obtain ⟨G'', d1, d2⟩ := sameOn_mem c6 hmem
              have := dop_read hrd d1 d2
              rw [this] at d1; exact d1
    · exact k1 j hj oj hoj pre G post hhs hle
end
end Go.Hb
