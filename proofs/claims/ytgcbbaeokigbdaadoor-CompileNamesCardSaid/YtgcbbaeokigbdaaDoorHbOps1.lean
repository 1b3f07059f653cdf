/- One operation of the abstract machine is one of the model's: the plain ones. -/
import Derived.Test.YtgcbbaeokigbdaaDoorHbHeap
import Derived.Orders
namespace Go.Hb
open Go Go.RowKit

theorem pureRun_run {P : Program} {α : Type} {a : α} : ∀ (s : Sem α), pureRun P s = some a → ∀ w, s.run P w = .ok a w := by
  intro s
  induction s with
  | pure b => intro h w; simp only [pureRun, Option.some.injEq] at h; subst h; rfl
  | program k ih => intro h w; exact ih P h w
  | mark m k ih => intro h w; exact ih h w
  | _ => intro h; simp [pureRun] at h

/-- deferred calls -/
def DfR (σ : Nat → Loc) (τ : Nat → Value) (d d' : Deferred) : Prop :=
  RA σ τ d.args d'.args ∧
  ((∃ f c c', d.target = .fn (.func f) c ∧ d'.target = .fn (.func f) c' ∧ RA σ τ c c') ∨
   (∃ l l', d.target = .collected l ∧ d'.target = .collected l' ∧ BR σ l l'))

def OpR (P : Program) (N : Nat) (w0 : World) (τ : Nat → Value) (σ : Nat → Loc) (H : Heap) (w : World) (s : Sem Next) : Dr → Prop
  | .val v H' => ∃ nx w' σ' v', s.run P w = .ok nx w' ∧ (nx = .value v' ∨ (nx = .skip ∧ v' = undef)) ∧ VR σ' τ v v' ∧ HR P N w0 τ σ' H' w' ∧ Step σ H w σ' H' w'
  | .call f args => ∃ args', s.run P w = .ok (.enter f args') w ∧ LR σ τ args args'.toList
  | .yield l args => ∃ l' args', s.run P w = (Instr.yield l' args').run P w ∧ BR σ l l' ∧ LR σ τ args args'.toList
  | .dfr d => ∃ d', s.run P w = .ok (.defer d') w ∧ DfR σ τ d d'
  | .panic v => ∃ v', s.run P w = .halt (.panic v') w ∧ VR σ τ v v'
  | .recov => s.run P w = .ok .recover w

section
variable {P : Program} {N : Nat} {w0 : World} {τ : Nat → Value} {σ : Nat → Loc} {H : Heap} {w : World} {ρ ρ' : Operand → Value} {o : Oper}

theorem OpR.value {s : Sem Next} {v v' : Value} (hH : HR P N w0 τ σ H w) (hr : s.run P w = .ok (.value v') w) (hv : VR σ τ v v') : OpR P N w0 τ σ H w s (.val v H) :=
  ⟨_, w, σ, v', hr, .inl rfl, hv, hH, Step.refl _ _ _⟩

theorem undef_flat : flat undef = true := rfl

theorem run_v (s : Sem Value) (v : Value) (w' : World) (h : s.run P w = .ok v w') : (do pure (Next.value (← s)) : Sem Next).run P w = .ok (.value v) w' := by
  simp [Sem.run_bind, h]
theorem run_u (s : Sem Unit) (w' : World) (h : s.run P w = .ok () w') : (do s; pure Next.skip : Sem Next).run P w = .ok .skip w' := by
  simp [Sem.run_bind, h]

theorem allFlat_eq (hρ : ∀ x ∈ o.op.operands.toList, VR σ τ (ρ x) (ρ' x)) (h : allFlat ρ o = true) : ∀ x ∈ o.op.operands, ρ' x = ρ x := by
  intro x hx
  have hx' : x ∈ o.op.operands.toList := Array.mem_toList_iff.2 hx
  exact (hρ x hx').flat_eq (List.all_eq_true.1 h x hx')

theorem dflat_sound (hH : HR P N w0 τ σ H w) (hs : ∀ cs b, o.op ≠ .select cs b) (hρ : ∀ x ∈ o.op.operands.toList, VR σ τ (ρ x) (ρ' x)) {dr : Dr} (h : dflat P o ρ H = some dr) :
    OpR P N w0 τ σ H w (execOp ρ' o) dr := by
  unfold dflat at h
  split at h
  · rename_i v hf hp
    split at h
    · rename_i hv
      cases h
      refine OpR.value hH ?_ (.flat v hv)
      rw [execOp_congr o hs (allFlat_eq hρ hf)]
      exact pureRun_run _ hp w
    · cases h
  · cases h

theorem run_isAgg {t : TypeId} {b : Bool} (h : isAgg? P t = some b) (w : World) : (isAgg t).run P w = .ok b w := by
  unfold isAgg? at h
  cases hu : P.underlying t with
  | none => rw [hu] at h; cases h
  | some d =>
    rw [hu] at h
    unfold isAgg
    simp only [Sem.run_bind, run_underlying hu, Result.andThen_ok]
    cases d <;> simp_all

theorem info_of_agg {t : TypeId} {b : Bool} (h : isAgg? P t = some b) : ∃ i, P.info? t = some i := by
  unfold isAgg? at h
  cases hi : P.info? t with
  | some i => exact ⟨i, rfl⟩
  | none => simp [Program.underlying, hi] at h

theorem run_sizeOf {t : TypeId} {i : TypeInfo} (h : P.info? t = some i) (w : World) : (sizeOf t).run P w = .ok (P.cellsOf t) w := by
  simp [sizeOf, typeInfo, Sem.run_bind, h, Program.cellsOf]

theorem cellsOf_info {t : TypeId} {i : TypeInfo} (h : P.info? t = some i) : P.cellsOf t = i.size := by simp [Program.cellsOf, h]

theorem dload_sound (hH : HR P N w0 τ σ H w) {t : TypeId} {a a' : Addr} {v : Value} (h : dload P t a H = some v) (ha : AR σ a a') :
    ∃ v', (loadVar t a').run P w = .ok v' w ∧ VR σ τ v v' := by
  unfold dload at h
  cases hb : isAgg? P t with
  | none => rw [hb] at h; cases h
  | some b =>
    rw [hb] at h
    obtain ⟨i, hi⟩ := info_of_agg hb
    cases b with
    | true =>
      simp only at h
      cases hl : H.load a (P.cellsOf t) with
      | none => rw [hl] at h; cases h
      | some l =>
        rw [hl] at h
        cases h
        obtain ⟨l', hlen, hr, hc⟩ := hH.load hl ha
        have hrun := run_loadCells_list (P := P) w a' l' hc
        rw [hlen] at hrun
        refine ⟨.agg l'.toArray, ?_, RA.mk_agg hr⟩
        unfold loadVar
        simp [Sem.run_bind, run_isAgg hb, run_sizeOf hi, hrun]
    | false =>
      simp only at h
      cases hl : H.load a 1 with
      | none => rw [hl] at h; cases h
      | some l =>
        rw [hl] at h
        match l, h, hl with
        | [u], h, hl =>
          cases h
          obtain ⟨l', hlen, hr, hc⟩ := hH.load hl ha
          obtain ⟨v', r', rfl, hv, _⟩ := hr.cons_inv
          have hcell := hc 0 v' rfl
          have h0 : a'.add 0 = a' := by simp [Addr.add]
          rw [h0] at hcell
          refine ⟨v', ?_, hv⟩
          unfold loadVar
          simp [Sem.run_bind, run_isAgg hb, run_load, hcell]

theorem sureAddr_run (a : Addr) : (Instr.sureAddr (.pointer (some a))).run P w = .ok a w := rfl

/-- a new row out of cells -/
theorem newRow_sound (hH : HR P N w0 τ σ H w) {cs : List Value} {cs' : Array Value} {e : TypeId} (hr : LR σ τ cs cs'.toList) :
    ∃ σ', (newRow e cs').run P w = .ok ⟨w.heap.size, 0, none⟩ (w.alloc (.cells cs' e)) ∧
      σ' = upd σ H.next (.live w.heap.size cs'.size (P.cellsOf e)) ∧
      HR P N w0 τ σ' (H.new (some (.row cs e))) (w.alloc (.cells cs' e)) ∧ Step σ H w σ' (H.new (some (.row cs e))) (w.alloc (.cells cs' e)) := by
  refine ⟨_, by simp [newRow, Sem.run_bind], rfl, ?_⟩
  refine hH.alloc (S := cs'.size) (es := P.cellsOf e) rfl rfl rfl (by simp) (fun k hk => Below.heap_alloc w _ k hk) ?_
  refine .row _ _ _ cs e cs' hH.size (by show (w.heap.push _)[w.heap.size]? = _; simp) rfl rfl ?_
  have : cs'.toList.take cs.length = cs'.toList := by rw [List.take_of_length_le]; rw [hr.1]; exact Nat.le_refl _
  unfold PR
  rw [this]
  exact hr.ext (hH.ext_new _)

theorem AR_new {H : Heap} {b S es : Nat} : AR (upd σ H.next (.live b S es)) ⟨H.next, 0, none⟩ ⟨b, 0, none⟩ := by
  unfold AR; rw [upd_same]; exact ⟨rfl, rfl⟩

theorem dpart_sound {t : TypeId} {cs cs' : Array Value} {off : Nat} {v : Value} (h : dpart P t cs off = some v) (hr : RA σ τ cs cs') :
    ∃ v', (part t cs' off).run P w = .ok v' w ∧ VR σ τ v v' := by
  unfold dpart at h
  cases hb : isAgg? P t with
  | none => rw [hb] at h; cases h
  | some b =>
    rw [hb] at h
    obtain ⟨i, hi⟩ := info_of_agg hb
    cases b with
    | true =>
      cases h
      refine ⟨.agg (cs'.extract off (off + P.cellsOf t)), ?_, RA.mk_agg ?_⟩
      · unfold part
        simp [Sem.run_bind, run_isAgg hb, run_sizeOf hi]
      · unfold RA
        rw [Array.toList_extract]
        have : (cs'.toList.extract off (off + P.cellsOf t)) = (cs'.toList.drop off).take (P.cellsOf t) := by
          rw [List.extract_eq_take_drop]; congr 1; omega
        rw [this]
        exact LR.take _ (LR.drop _ hr)
    | false =>
      obtain ⟨v', hv', hv⟩ := hr.get h
      refine ⟨v', ?_, hv⟩
      have : cs'[off]? = some v' := by simpa using hv'
      unfold part
      simp [Sem.run_bind, run_isAgg hb, this]
end
end Go.Hb
