/- One operation of the abstract machine is one of the model's: all of them. -/
import Derived.Test.YtgcbbaeokigbdaaDoorHbOps6
namespace Go.Hb
open Go Go.RowKit

section
variable {P : Program} {N : Nat} {w0 : World} {τ : Nat → Value} {σ : Nat → Loc} {H : Heap} {w w' : World} {ρ ρ' : Operand → Value} {o : Oper}

theorem dnil_run {op : BinOp} {t : TypeId} {X Y : Operand} {x y v : Value} (hg : eqGuard op t X Y x y = pure ()) (hb : ∀ op, (op = .eql ∨ op = .neq) → binOp op t x y = (if op = .eql then (do pure (Value.bool (← Op.equal t x y))) else (do pure (Value.bool (!(← Op.equal t x y))))))
    (he : ∀ d, (Op.equalIn (d + 1) t x y).run P w = .ok false w) (hv : (op = .eql ∧ v = .bool false) ∨ (op = .neq ∧ v = .bool true)) :
    (do eqGuard op t X Y x y; binOp op t x y : Sem Value).run P w = .ok v w ∧ flat v = true := by
  have h9 : (Op.equal t x y).run P w = .ok false w := he 9999
  rcases hv with ⟨rfl, rfl⟩ | ⟨rfl, rfl⟩
  · refine ⟨?_, rfl⟩
    rw [hg, hb _ (.inl rfl)]
    simp [h9]
  · refine ⟨?_, rfl⟩
    rw [hg, hb _ (.inr rfl)]
    simp [h9]

theorem dnil_sound {op : BinOp} {t : TypeId} {X Y : Operand} {x y x' y' v : Value} (hx : VR σ τ x x') (hy : VR σ τ y y') (h : dnil P op t x y = some v) :
    (do eqGuard op t X Y x' y'; binOp op t x' y' : Sem Value).run P w = .ok v w ∧ flat v = true := by
  have ne : ∀ {op : BinOp} {v : Value}, nilEq op = some v → (op = .eql ∧ v = .bool false) ∨ (op = .neq ∧ v = .bool true) := by
    intro op v h; cases op <;> simp [nilEq] at h <;> simp [h]
  unfold dnil at h
  split at h
  · split at h
    case isFalse => cases h
    rename_i hi
    obtain ⟨u', rfl, _⟩ := hx.iface_inv
    rw [hy.flat_eq rfl]
    unfold isIface at hi
    split at hi
    · rename_i ms hu
      exact dnil_run (by rcases ne h with ⟨rfl, _⟩ | ⟨rfl, _⟩ <;> rfl) (by rintro op (rfl | rfl) <;> rfl) (fun d => by simp [Op.equalIn, run_underlying hu]) (ne h)
    · cases hi
  · split at h
    case isFalse => cases h
    rename_i hi
    obtain ⟨u', rfl, _⟩ := hy.iface_inv
    rw [hx.flat_eq rfl]
    unfold isIface at hi
    split at hi
    · rename_i ms hu
      exact dnil_run (by rcases ne h with ⟨rfl, _⟩ | ⟨rfl, _⟩ <;> rfl) (by rintro op (rfl | rfl) <;> rfl) (fun d => by simp [Op.equalIn, run_underlying hu]) (ne h)
    · cases hi
  · split at h
    case isFalse => cases h
    rename_i hi
    obtain ⟨u', rfl, _⟩ := hx.ptr_inv
    rw [hy.flat_eq rfl]
    unfold isPtr at hi
    split at hi
    · rename_i ms hu
      exact dnil_run (by rcases ne h with ⟨rfl, _⟩ | ⟨rfl, _⟩ <;> rfl) (by rintro op (rfl | rfl) <;> rfl) (fun d => by simp [Op.equalIn, run_underlying hu]) (ne h)
    · cases hi
  · split at h
    case isFalse => cases h
    rename_i hi
    obtain ⟨u', rfl, _⟩ := hy.ptr_inv
    rw [hx.flat_eq rfl]
    unfold isPtr at hi
    split at hi
    · rename_i ms hu
      exact dnil_run (by rcases ne h with ⟨rfl, _⟩ | ⟨rfl, _⟩ <;> rfl) (by rintro op (rfl | rfl) <;> rfl) (fun d => by simp [Op.equalIn, run_underlying hu]) (ne h)
    · cases hi
  · split at h
    case isFalse => cases h
    rename_i hi
    obtain ⟨a', c', rfl, _⟩ := hx.slice_inv
    obtain ⟨rfl, rfl, rfl⟩ := hy.slice_none_inv
    unfold isSl at hi
    split at hi
    · rename_i ms hu
      exact dnil_run (by rcases ne h with ⟨rfl, _⟩ | ⟨rfl, _⟩ <;> rfl) (by rintro op (rfl | rfl) <;> rfl) (fun d => by simp [Op.equalIn, run_underlying hu]) (ne h)
    · cases hi
  · split at h
    case isFalse => cases h
    rename_i hi
    obtain ⟨a', c', rfl, _⟩ := hy.slice_inv
    obtain ⟨rfl, rfl, rfl⟩ := hx.slice_none_inv
    unfold isSl at hi
    split at hi
    · rename_i ms hu
      exact dnil_run (by rcases ne h with ⟨rfl, _⟩ | ⟨rfl, _⟩ <;> rfl) (by rintro op (rfl | rfl) <;> rfl) (fun d => by simp [Op.equalIn, run_underlying hu]) (ne h)
    · cases hi
  · split at h
    case isFalse => cases h
    rename_i hi
    obtain ⟨u', rfl, _⟩ := hx.map_inv
    rw [hy.flat_eq rfl]
    unfold isMp at hi
    split at hi
    · rename_i ms hu
      exact dnil_run (by rcases ne h with ⟨rfl, _⟩ | ⟨rfl, _⟩ <;> rfl) (by rintro op (rfl | rfl) <;> rfl) (fun d => by simp [Op.equalIn, run_underlying hu]) (ne h)
    · cases hi
  · split at h
    case isFalse => cases h
    rename_i hi
    obtain ⟨u', rfl, _⟩ := hy.map_inv
    rw [hx.flat_eq rfl]
    unfold isMp at hi
    split at hi
    · rename_i ms hu
      exact dnil_run (by rcases ne h with ⟨rfl, _⟩ | ⟨rfl, _⟩ <;> rfl) (by rintro op (rfl | rfl) <;> rfl) (fun d => by simp [Op.equalIn, run_underlying hu]) (ne h)
    · cases hi
  · split at h
    case isFalse => cases h
    rename_i hi
    obtain ⟨x1, y1, rfl, _⟩ := hx.func_inv
    rw [hy.flat_eq rfl]
    unfold isFn at hi
    split at hi
    · rename_i ms hu
      exact dnil_run (by rcases ne h with ⟨rfl, _⟩ | ⟨rfl, _⟩ <;> rfl) (by rintro op (rfl | rfl) <;> rfl) (fun d => by simp [Op.equalIn, run_underlying hu]) (ne h)
    · cases hi
  · split at h
    case isFalse => cases h
    rename_i hi
    obtain ⟨x1, y1, rfl, _⟩ := hy.func_inv
    rw [hx.flat_eq rfl]
    unfold isFn at hi
    split at hi
    · rename_i ms hu
      exact dnil_run (by rcases ne h with ⟨rfl, _⟩ | ⟨rfl, _⟩ <;> rfl) (by rintro op (rfl | rfl) <;> rfl) (fun d => by simp [Op.equalIn, run_underlying hu]) (ne h)
    · cases hi
  · cases h

theorem dassert_sound {t xt at_ : TypeId} {v v' r : Value} {ok : Bool} (hv : VR σ τ v v') (h : dassert P t v at_ ok = some r) :
    ∃ r', (Instr.typeAssert (.iface t v') xt at_ ok).run P w = .ok r' w ∧ VR σ τ r r' := by
  have holds : ∀ {u u' : Value}, VR σ τ u u' → VR σ τ (if ok then .tuple #[u, .bool true] else u) (if ok then .tuple #[u', .bool true] else u') := by
    intro u u' hr
    split
    · exact RA.mk_tuple (LR.cons hr (LR.cons (.flat _ rfl) LR.nil))
    · exact hr
  have fails : ∀ {r : Value}, dfail P at_ ok = some r → ok = true ∧ ∃ z : Value, (∀ w, (zeroValue at_).run P w = .ok z w) ∧ r = .tuple #[z, .bool false] ∧ VR σ τ r r := by
    intro r h
    unfold dfail at h
    split at h
    · rename_i z hz _
      split at h
      · rename_i hf
        cases h
        refine ⟨rfl, z, pureRun_run _ hz, rfl, .flat _ ?_⟩
        simp [flat, flatL, hf]
      · cases h
    · cases h
  unfold dassert at h
  simp only at h
  split at h
  · rename_i want hu
    cases hi : P.info? t with
    | none => rw [hi] at h; cases h
    | some i =>
      rw [hi] at h
      simp only at h
      cases hm : Instr.missingMethod want i.methods with
      | none =>
        rw [hm] at h
        simp only [Option.some.injEq] at h
        subst h
        refine ⟨_, ?_, holds (.iface t v v' hv)⟩
        unfold Instr.typeAssert
        simp [Sem.run_bind, run_underlying hu, typeInfo, hi, hm]
      | some mm =>
        rw [hm] at h
        obtain ⟨rfl, z, hz, rfl, hr⟩ := fails h
        refine ⟨_, ?_, hr⟩
        unfold Instr.typeAssert
        simp [Sem.run_bind, run_underlying hu, typeInfo, hi, hm, hz]
  · rename_i d hnd hu
    by_cases hta : t = at_
    · subst hta
      simp only [Nat.beq_refl, if_true, Option.some.injEq] at h
      subst h
      refine ⟨_, ?_, holds hv⟩
      cases d with
      | interface ms => exact absurd rfl (hnd ms)
      | _ => simp [Instr.typeAssert, Sem.run_bind, run_underlying hu]
    · have hb : Nat.beq t at_ = false := by rw [← Bool.not_eq_true, Nat.beq_eq]; exact hta
      rw [hb] at h
      obtain ⟨rfl, z, hz, rfl, hr⟩ := fails h
      refine ⟨_, ?_, hr⟩
      cases d with
      | interface ms => exact absurd rfl (hnd ms)
      | _ => simp [Instr.typeAssert, Sem.run_bind, run_underlying hu, hta, hz]
  · cases h

theorem info_of_agg' {t : TypeId} {cs : Array Value} {off : Nat} {v : Value} (h : dpart P t cs off = some v) : ∃ i, P.info? t = some i := by
  unfold dpart at h
  cases hb : isAgg? P t with
  | none => rw [hb] at h; cases h
  | some b => exact info_of_agg hb

theorem mapρ {l : List Operand} (h : ∀ x ∈ l, VR σ τ (ρ x) (ρ' x)) : LR σ τ (l.map ρ) (l.map ρ') := by
  induction l with
  | nil => exact LR.nil
  | cons a l ih => exact LR.cons (h a (by simp)) (ih fun x hx => h x (by simp [hx]))

theorem dcall1_sound {f : FuncId} {args : List Value} {dr : Dr} (h : dcall1 P f args = some dr) : dr = .call f args ∧ ∀ (args' : Array Value) w, (callFunc f args').run P w = .ok (.enter f args') w := by
  unfold dcall1 at h
  split at h
  case h_2 => cases h
  rename_i fn hf
  split at h
  case isFalse => cases h
  rename_i hb
  simp only [Bool.and_eq_true, Bool.not_eq_true', Option.isSome_iff_exists] at hb
  obtain ⟨⟨c, hc⟩, hn⟩ := hb
  cases h
  refine ⟨rfl, fun args' w => ?_⟩
  have hn' : ¬ fn.name = "runtime.NumGoroutine" := by simpa using hn
  simp [callFunc, Sem.run_bind, hf, hc, hn']

set_option maxHeartbeats 1000000 in
theorem dop_sound (hH : HR P N w0 τ σ H w) (hτ : ∀ j, (τ j).oneCell' = true) (hρ : ∀ x ∈ o.op.operands.toList, VR σ τ (ρ x) (ρ' x)) {dr : Dr} (h : dop P o ρ H = some dr) :
    OpR P N w0 τ σ H w (execOp ρ' o) dr := by
  obtain ⟨dst, op, type, pos, after, guard⟩ := o
  cases op with
  | move x => simp only [dop] at h; cases h; exact OpR.value hH rfl (hρ x (by simp [Op.operands]))
  | assign x => simp only [dop] at h; cases h; exact OpR.value hH rfl (hρ x (by simp [Op.operands]))
  | pick c a b =>
    have hc := hρ c (by simp [Op.operands])
    simp only [dop] at h
    cases hv : ρ c with
    | bool t =>
      rw [hv] at h hc
      have hc' := hc.flat_eq rfl
      cases t with
      | true => cases h; exact OpR.value hH (by simp [execOp, hc', asBool]) (hρ a (by simp [Op.operands]))
      | false => cases h; exact OpR.value hH (by simp [execOp, hc', asBool]) (hρ b (by simp [Op.operands]))
    | _ => rw [hv] at h; cases h
  | alloc e =>
    simp only [dop] at h
    split at h
    case h_2 => cases h
    rename_i z hz
    split at h
    case isFalse => cases h
    rename_i hc
    simp only [Bool.and_eq_true] at hc
    cases h
    exact alloc_sound hH hz hc.1
  | box e x =>
    simp only [dop] at h
    split at h
    case isFalse => cases h
    rename_i hc
    cases h
    exact box_sound hH hτ (hρ x (by simp [Op.operands])) hc
  | build t parts =>
    simp only [dop] at h
    split at h
    case isFalse => cases h
    rename_i hc
    simp only [Bool.and_eq_true] at hc
    obtain ⟨hc1, hc2⟩ := hc
    unfold zflat at hc2
    cases hz : pureRun P (zeroValue t) with
    | none => rw [hz] at hc2; cases hc2
    | some z =>
      rw [hz] at hc2
      split at h
      case h_2 => cases h
      rename_i v hv
      cases h
      have hp : PtR σ τ ((parts.map fun (i, x) => (i, ρ x)).toList) ((parts.map fun (i, x) => (i, ρ' x)).toList) := by
        rw [Array.toList_map, Array.toList_map]
        exact ptR_map parts.toList (fun p hp => hρ p.2 (by simp only [Op.operands]; exact List.mem_map.2 ⟨p, hp, rfl⟩)) hc1
      obtain ⟨v', hrun, hr⟩ := build_sound hτ hz hc2 hp hv
      exact OpR.value hH (run_v _ _ _ (hrun w)) hr
  | buildSlice t len parts =>
    simp only [dop] at h
    split at h
    case h_2 => cases h
    rename_i e hu
    split at h
    case h_2 => cases h
    rename_i i hi
    split at h
    case h_2 => cases h
    rename_i z hz
    by_cases hc : len ≤ most ∧ len * i.size ≤ most ∧ flat z = true ∧ z.cells.size = i.size ∧ z.cells.toList.all one = true ∧ parts.toList.all (fun p => (ρ p.2).cells.toList.all one) = true
    case neg => rw [if_neg hc] at h; cases h
    rw [if_pos hc] at h
    obtain ⟨hlen, hmost, hzf, hzs, hz1, hp1⟩ := hc
    split at h
    case h_2 => cases h
    rename_i cells hfl
    cases h
    have hp : PtR σ τ (parts.toList.map fun p => (p.1, ρ p.2)) (parts.toList.map fun p => (p.1, ρ' p.2)) :=
      ptR_map parts.toList (fun p hp => hρ p.2 (by simp only [Op.operands]; exact List.mem_map.2 ⟨p, hp, rfl⟩)) hp1
    have hbase : RA σ τ ((Array.range (len * i.size)).map (z.cells[· % z.cells.size]!)) ((Array.range (len * i.size)).map (z.cells[· % z.cells.size]!)) := by
      unfold RA
      have : ((Array.range (len * i.size)).map (z.cells[· % z.cells.size]!)).toList = (List.range (len * i.size)).map (z.cells[· % z.cells.size]!) := madeCells_list z.cells _
      rw [this]
      exact LR.flat (made_flat hzf _)
    obtain ⟨r', hr', hrr⟩ := fill_rel hτ _ _ _ _ _ cells hp hbase hfl
    have hsz : r'.size = len * i.size := by
      have h1 : ∀ (place : Nat → Option (Nat × Nat)) (l : List (Nat × Value)) (cs r : Array Value), Instr.fill place cs l = some r → r.size = cs.size := by
        intro place l
        induction l with
        | nil => intro cs r h; simp only [Instr.fill, Option.some.injEq] at h; rw [h]
        | cons p l ih =>
          intro cs r h
          obtain ⟨k, v⟩ := p
          simp only [Instr.fill] at h
          split at h
          · cases h
          · split at h
            · cases h
            · rw [ih _ _ h]
              have : ∀ (ll : List (Value × Nat)) (off : Nat) (acc : Array Value), (ll.foldl (fun cs (c, j) => cs.setIfInBounds (off + j) c) acc).size = acc.size := by
                intro ll
                induction ll with
                | nil => intro off acc; rfl
                | cons q ll ih2 => intro off acc; simp only [List.foldl_cons]; rw [ih2]; simp
              rw [← Array.foldl_toList, this]
      rw [h1 _ _ _ _ hr']
      simp
    have hcl := cellsOf_info hi
    refine OpR.ofSlice hH (cs' := r') hrr (Nat.le_refl _) ?_ (by rw [hsz, hcl]) ?_
    · simp only [most] at hlen; simp only [maxLen]; omega
    · have hpl : (parts.map fun (i, x) => (i, ρ' x)).toList = parts.toList.map fun p => (p.1, ρ' p.2) := by rw [Array.toList_map]
      have hnr : ∀ (cs : Array Value), (newRow e cs).run P w = .ok ⟨w.heap.size, 0, none⟩ (w.alloc (.cells cs e)) := fun cs => by simp [newRow, Sem.run_bind]
      apply run_v
      unfold Instr.buildSlice
      simp only [most] at hmost
      have hgt : ¬ (len * i.size > 2 ^ 24) := by omega
      by_cases h0 : len * i.size = 0
      · have hr0 : Instr.fill (fun k => some (k * i.size, i.size)) ((Array.range (len * i.size)).map ((#[] : Array Value)[· % (#[] : Array Value).size]!)) (parts.toList.map fun p => (p.1, ρ' p.2)) = some r' := by
          rw [← hr', h0]
          simp [Array.range_zero']
        simp only [Sem.run_bind, run_underlying hu, Result.andThen_ok, run_sizeOf hi, hcl, h0, gt_iff_lt, Nat.not_lt_zero, if_false, if_true, Sem.run_pure, hpl]
        rw [h0] at hr0
        rw [hr0]
        simp only [Sem.run_bind, hnr, Result.andThen_ok, Sem.run_pure]
      · simp only [Sem.run_bind, run_underlying hu, Result.andThen_ok, run_sizeOf hi, hcl, hgt, if_false, h0, Sem.run_pure, hpl, zeroValue, typeInfo, run_program, hi, hz]
        rw [hr']
        simp only [Sem.run_bind, hnr, Result.andThen_ok, Sem.run_pure]
  | load t a =>
    have ha := hρ a (by simp [Op.operands])
    simp only [dop] at h
    split at h
    case h_2 => cases h
    rename_i ad hv
    rw [hv] at ha
    obtain ⟨a', e1, hA⟩ := ha.ptr_inv
    cases hd : dload P t ad H with
    | none => rw [hd] at h; cases h
    | some v =>
      rw [hd] at h
      cases h
      obtain ⟨v', hrun, hr⟩ := dload_sound hH hd hA
      refine OpR.value hH ?_ hr
      apply run_v
      simp only [e1, Instr.loadAt, Instr.sureAddr, Sem.run_bind, Sem.run_pure, Result.andThen_ok, hrun]
  | store t a x =>
    have ha := hρ a (by simp [Op.operands])
    have hx := hρ x (by simp [Op.operands])
    simp only [dop] at h
    split at h
    case h_2 => cases h
    rename_i ad hv
    rw [hv] at ha
    obtain ⟨a', e1, hA⟩ := ha.ptr_inv
    split at h
    case isFalse => cases h
    rename_i hc
    simp only [Bool.and_eq_true, Nat.beq_eq, Option.isSome_iff_exists] at hc
    obtain ⟨hsz, i, hi⟩ := hc
    cases hd : H.store ad (ρ x).cells.toList with
    | none => rw [hd] at h; cases h
    | some H' =>
      rw [hd] at h
      cases h
      have hone : (ρ x).cells.toList.all one = true := by
        unfold Heap.store at hd
        split at hd
        · split at hd
          · rename_i hq; exact hq.2
          · cases hd
        · cases hd
      have hcr := hx.cells hτ hone
      obtain ⟨w', hrun, hH', hst⟩ := hH.store hτ hd hA hcr
      refine ⟨.skip, w', σ, undef, ?_, .inr ⟨rfl, rfl⟩, .flat _ rfl, hH', hst⟩
      apply run_u
      have hsz' : (ρ' x).cells.size = P.cellsOf t := by have := hcr.1; simp at this; omega
      simp only [e1, Instr.storeAt, Instr.sureAddr, Sem.run_bind, Sem.run_pure, Result.andThen_ok, storeVar, run_sizeOf hi, hsz', ne_eq, not_true_eq_false, if_false, hrun]
  | nilCheck x =>
    have hx := hρ x (by simp [Op.operands])
    simp only [dop] at h
    split at h
    · rename_i a hv
      cases h
      rw [hv] at hx
      obtain ⟨a', e1, hA⟩ := hx.ptr_inv
      refine OpR.value hH ?_ (.ptr a a' hA)
      simp [execOp, e1]
    · rename_i f a b hv
      cases h
      rw [hv] at hx
      obtain ⟨x1, y1, e1, h1, h2⟩ := hx.func_inv
      refine OpR.value hH ?_ hx
      simp [execOp, e1]
    · cases h
  | binOp op t x y yt =>
    have hx := hρ x (by simp [Op.operands])
    have hy := hρ y (by simp [Op.operands])
    simp only [dop] at h
    split at h
    · rename_i v hd
      cases h
      obtain ⟨hrun, hf⟩ := dnil_sound (w := w) (X := x) (Y := y) hx hy hd
      exact OpR.value hH (run_v _ _ _ hrun) (.flat _ hf)
    · exact dflat_sound hH (by intro cs b; simp) hρ h
  | unOp op t x => simp only [dop] at h; exact dflat_sound hH (by intro cs b; simp) hρ h
  | convert src dst2 x =>
    have hx := hρ x (by simp [Op.operands])
    simp only [dop] at h
    split at h
    · rename_i e a n c hus hud hv
      split at h
      case h_2 => cases h
      rename_i hue
      rw [hv] at hx
      cases hd : dbytes (.slice a n c) H with
      | none => rw [hd] at h; cases h
      | some v =>
        rw [hd] at h
        cases h
        obtain ⟨hrun, a', c', e1, hf⟩ := dbytes_sound hH hx hd
        refine OpR.value hH ?_ (.flat _ hf)
        apply run_v
        rw [e1] at hrun ⊢
        rw [run_convert_bytes_string w src dst2 e a' n c' hus hue hud]
        exact hrun
    · cases h
    · exact dflat_sound hH (by intro cs b; simp) hρ h
  | makeInterface t x =>
    have hx := hρ x (by simp [Op.operands])
    simp only [dop] at h
    split at h
    · cases h
    · rename_i d hnd hu
      cases h
      refine OpR.value hH ?_ (.iface t _ _ hx)
      apply run_v
      cases d with
      | interface ms => exact (hnd ms rfl).elim
      | _ => simp [Instr.makeInterface, Sem.run_bind, run_underlying hu]
    · cases h
  | makeFunc fn first captured =>
    simp only [dop] at h
    split at h
    case h_2 => cases h
    rename_i f
    cases h
    have h1 : RA σ τ (first.map ρ) (first.map ρ') := by unfold RA; rw [Array.toList_map, Array.toList_map]; exact mapρ fun x hx => hρ x (by simp only [Op.operands]; simp; exact .inl (by simpa using hx))
    have h2 : RA σ τ (captured.map ρ) (captured.map ρ') := by unfold RA; rw [Array.toList_map, Array.toList_map]; exact mapρ fun x hx => hρ x (by simp only [Op.operands]; simp; exact .inr (by simpa using hx))
    refine OpR.value hH rfl (.func f _ _ _ _ h1.1 (fun i v v' a b => h1.2 i v v' (by simpa using a) (by simpa using b)) h2.1 (fun i v v' a b => h2.2 i v v' (by simpa using a) (by simpa using b)))
  | makeMap t r =>
    cases r with
    | some r => simp only [dop] at h; cases h
    | none =>
      simp only [dop] at h
      cases h
      obtain ⟨hH', hst⟩ := hH.alloc (w' := w.alloc (.map #[] 0)) (B := .map [] 0) (S := 0) (es := 0) rfl rfl rfl (by simp) (fun k hk => Below.heap_alloc w _ k hk)
        (.map _ _ _ [] 0 #[] hH.size (by show (w.heap.push _)[w.heap.size]? = _; simp) ⟨rfl, fun i e e' a b => by simp at a⟩)
      refine ⟨_, _, _, _, rfl, .inl rfl, .map _ _ ?_, hH', hst⟩
      unfold BR; rw [upd_same]
  | makeSlice t l c =>
    have hl := hρ l (by simp [Op.operands])
    have hc := hρ c (by simp [Op.operands])
    simp only [dop] at h
    split at h
    case h_2 => cases h
    rename_i e hu
    split at h
    case h_2 => cases h
    rename_i i cap hi hcap
    split at h
    case h_2 => cases h
    rename_i z len hz hlen
    split at h
    case isFalse => cases h
    rename_i hq
    obtain ⟨hzf, hzs, hby, hz1⟩ := hq
    cases h
    obtain ⟨kc, ci, hcv, c0, c1, rfl⟩ := intBetween_inv hcap
    obtain ⟨kl, li, hlv, l0, l1, rfl⟩ := intBetween_inv hlen
    rw [hcv] at hc; rw [hlv] at hl
    have ec := hc.flat_eq rfl
    have el := hl.flat_eq rfl
    have hm : (most : Int) = 1048576 := rfl
    have hbytes : (i.bytes : Int) * ci ≤ 281474976710656 := by
      have h1 : (i.bytes : Int) * ci ≤ 4096 * 1048576 := Int.mul_le_mul (by omega) (by omega) c0 (by omega)
      omega
    have hrun := run_make (P := P) w t e i z hu hi hz kl kc li ci l0 (by omega) hbytes (by omega)
    have hcl := cellsOf_info hi
    refine OpR.ofSlice hH (cs' := madeCells z.cells (ci.toNat * i.size)) ?_ (by omega) (by simp only [maxLen]; omega) (by rw [size_madeCells, hcl]) ?_
    · rw [madeCells_list]
      exact LR.flat (made_flat hzf _)
    · show Sem.run P (do pure (Next.value (← Instr.makeSlice t (ρ' l) (ρ' c)))) w = _
      rw [el, ec]
      exact run_v _ _ _ hrun
  | slice t x lo hi mx =>
    have hx := hρ x (by simp [Op.operands])
    simp only [dop] at h
    split at h
    · exact dflat_sound hH (by intro cs b; simp) hρ h
    · cases mx with
      | some m =>
        simp only [Option.map_some] at h
        unfold dslice at h
        split at h
        · rename_i h3; cases h3
        · cases h
      | none =>
        refine dslice_sound hH hx ?_ ?_ ?_ ?_ h
        · intro v hv
          cases lo with
          | none => cases hv
          | some y => cases hv; exact ⟨_, rfl, hρ y (by simp [Op.operands])⟩
        · intro hv; cases lo with
          | none => rfl
          | some y => cases hv
        · intro v hv
          cases hi with
          | none => cases hv
          | some y => cases hv; exact ⟨_, rfl, hρ y (by simp [Op.operands])⟩
        · intro hv; cases hi with
          | none => rfl
          | some y => cases hv
  | lookup t m k ok =>
    simp only [dop] at h
    exact dlookup_sound hH (hρ m (by simp [Op.operands])) (hρ k (by simp [Op.operands])) h
  | mapUpdate t m k x =>
    simp only [dop] at h
    exact dupdate_sound hH (hρ m (by simp [Op.operands])) (hρ k (by simp [Op.operands])) (hρ x (by simp [Op.operands])) h
  | fieldAddr s x f =>
    have hx := hρ x (by simp [Op.operands])
    simp only [dop] at h
    split at h
    case h_2 => cases h
    rename_i fs a hu hv
    rw [hv] at hx
    obtain ⟨a', e1, hA⟩ := hx.ptr_inv
    split at h
    case h_2 => cases h
    rename_i fd hfd
    split at h
    case isFalse => cases h
    rename_i hc
    simp only [Bool.and_eq_true, Bool.not_eq_true'] at hc
    obtain ⟨hsp, hz⟩ := hc
    have hz : P.cellsOf fd.type ≠ 0 := by
      intro e; rw [← Bool.not_eq_true, Nat.beq_eq] at hz; exact hz e
    cases h
    have hfd' : fs[f]? = some fd := by simpa using hfd
    have hi : ∃ i, P.info? fd.type = some i := by
      cases hq : P.info? fd.type with
      | some i => exact ⟨i, rfl⟩
      | none => exact absurd (by simp [Program.cellsOf, hq]) hz
    obtain ⟨i, hi⟩ := hi
    have hrun : (Instr.fieldAt s (.pointer (some a')) f).run P w = .ok (.pointer (some (a'.add fd.offset))) w := by
      unfold Instr.fieldAt fieldPlace
      simp [Sem.run_bind, run_underlying hu, hfd', Instr.sureAddr, run_sizeOf hi, hz]
    refine OpR.value hH (v' := .pointer (some (a'.add fd.offset))) ?_ ?_
    · apply run_v; rw [e1]; exact hrun
    · refine .ptr _ _ ?_
      unfold AR at hA ⊢
      simp only
      cases hσ : σ a.block with
      | none => rw [hσ] at hA; exact hA.elim
      | dead => trivial
      | live b S es =>
        rw [hσ] at hA
        obtain ⟨_, rfl⟩ := hA
        exact ⟨trivial, add0 _ _ _⟩
  | field t x f =>
    have hx := hρ x (by simp [Op.operands])
    simp only [dop] at h
    split at h
    case h_2 => cases h
    rename_i fs cs hu hv
    rw [hv] at hx
    obtain ⟨cs', e1, hr⟩ := hx.agg_inv
    split at h
    case h_2 => cases h
    rename_i fd hfd
    have hfd' : fs[f]? = some fd := by simpa using hfd
    cases hd : dpart P fd.type cs fd.offset with
    | none => rw [hd] at h; cases h
    | some v =>
      rw [hd] at h
      cases h
      obtain ⟨v', hrun, hvr⟩ := dpart_sound (w := w) hd hr
      refine OpR.value hH ?_ hvr
      apply run_v
      unfold Instr.field
      simp [Sem.run_bind, run_underlying hu, hfd', e1, asAgg, hrun]
  | indexAddr t x ix =>
    have hx := hρ x (by simp [Op.operands])
    have hix := hρ ix (by simp [Op.operands])
    have key : ∀ (a : Addr) (a' : Addr) (i : Nat) (e : TypeId), AR σ a a' → a.spot = none → VR σ τ (.pointer (some ⟨a.block, a.off + i * P.cellsOf e, none⟩)) (.pointer (some (a'.add (i * P.cellsOf e)))) := by
      intro a a' i e hA hsp
      refine .ptr _ _ ?_
      unfold AR at hA ⊢
      simp only
      cases hσ : σ a.block with
      | none => rw [hσ] at hA; exact hA.elim
      | dead => trivial
      | live b S es =>
        rw [hσ] at hA
        obtain ⟨_, rfl⟩ := hA
        exact ⟨trivial, add0 _ _ _⟩
    simp only [dop] at h
    split at h
    · rename_i e a n c hu hv
      rw [hv] at hx
      obtain ⟨a', c', e1, hA, _⟩ := hx.slice_inv
      split at h
      case h_2 => cases h
      rename_i i hib hnz hsp hin
      have hnz : n ≠ 0 := by intro e; rw [← Bool.not_eq_true, Nat.beq_eq] at hnz; exact hnz e
      cases h
      obtain ⟨k, j, hjv, j0, j1, rfl⟩ := intBetween_inv hib
      rw [hjv] at hix
      have e2 := hix.flat_eq rfl
      have hlt : j < (n : Int) := by omega
      refine OpR.value hH (v' := .pointer (some (a'.add (j.toNat * P.cellsOf e)))) ?_ (key a a' j.toNat e hA hsp)
      apply run_v
      obtain ⟨ie, hie⟩ : ∃ ie, P.info? e = some ie := by
        cases hq : P.info? e with
        | some ie => exact ⟨ie, rfl⟩
        | none => rw [hq] at hin; cases hin
      have := run_sizeOf hie
      simp [e1, e2, Instr.indexAt, asIntOf, Sem.run_bind, run_underlying hu, j0, hlt, this]
    · rename_i n e a hu hv
      rw [hv] at hx
      obtain ⟨a', e1, hA⟩ := hx.ptr_inv
      split at h
      case h_2 => cases h
      rename_i i hib hnz hsp hin
      have hnz : n ≠ 0 := by intro e; rw [← Bool.not_eq_true, Nat.beq_eq] at hnz; exact hnz e
      cases h
      obtain ⟨k, j, hjv, j0, j1, rfl⟩ := intBetween_inv hib
      rw [hjv] at hix
      have e2 := hix.flat_eq rfl
      have hlt : j < (n : Int) := by omega
      refine OpR.value hH (v' := .pointer (some (a'.add (j.toNat * P.cellsOf e)))) ?_ (key a a' j.toNat e hA hsp)
      apply run_v
      obtain ⟨ie, hie⟩ : ∃ ie, P.info? e = some ie := by
        cases hq : P.info? e with
        | some ie => exact ⟨ie, rfl⟩
        | none => rw [hq] at hin; cases hin
      have := run_sizeOf hie
      simp [e1, e2, Instr.indexAt, asIntOf, Sem.run_bind, run_underlying hu, Instr.sureAddr, j0, hlt, this]
    · cases h
  | index t x ix =>
    have hx := hρ x (by simp [Op.operands])
    have hix := hρ ix (by simp [Op.operands])
    simp only [dop] at h
    split at h
    · rename_i n e cs hu hv
      rw [hv] at hx
      obtain ⟨cs', e1, hr⟩ := hx.agg_inv
      split at h
      case h_2 => cases h
      rename_i i hib hnz
      have hnz : n ≠ 0 := by intro e; rw [← Bool.not_eq_true, Nat.beq_eq] at hnz; exact hnz e
      obtain ⟨k, j, hjv, j0, j1, rfl⟩ := intBetween_inv hib
      rw [hjv] at hix
      have e2 := hix.flat_eq rfl
      have hlt : j < (n : Int) := by omega
      cases hd : dpart P e cs (j.toNat * P.cellsOf e) with
      | none => rw [hd] at h; cases h
      | some v =>
        rw [hd] at h
        cases h
        obtain ⟨v', hrun, hvr⟩ := dpart_sound (w := w) hd hr
        refine OpR.value hH ?_ hvr
        apply run_v
        obtain ⟨ie, hie⟩ := info_of_agg' hd
        have := run_sizeOf hie
        simp [e1, e2, Instr.index, asIntOf, Sem.run_bind, run_underlying hu, j0, hlt, this, hrun]
    · exact dflat_sound hH (by intro cs b; simp) hρ h
  | insert t m k x =>
    simp only [dop] at h
    exact dupdate_sound hH (hρ m (by simp [Op.operands])) (hρ k (by simp [Op.operands])) (hρ x (by simp [Op.operands])) h
  | typeAssert x xt at_ ok =>
    have hx := hρ x (by simp [Op.operands])
    simp only [dop] at h
    split at h
    · rename_i t v hv
      rw [hv] at hx
      obtain ⟨v', e1, hr⟩ := hx.iface_inv
      cases hd : dassert P t v at_ ok with
      | none => rw [hd] at h; cases h
      | some r =>
        rw [hd] at h
        cases h
        obtain ⟨r', hrun, hrr⟩ := dassert_sound (w := w) (xt := xt) hr hd
        refine OpR.value hH ?_ hrr
        apply run_v
        rw [e1]; exact hrun
    · exact dflat_sound hH (by intro cs b; simp) hρ h
  | extract t ix =>
    have hx := hρ t (by simp [Op.operands])
    simp only [dop] at h
    split at h
    case h_2 => cases h
    rename_i vs hv
    rw [hv] at hx
    obtain ⟨vs', e1, hr⟩ := hx.tuple_inv
    cases hd : vs.toList[ix]? with
    | none => rw [hd] at h; cases h
    | some v =>
      rw [hd] at h
      cases h
      obtain ⟨v', hv', hvr⟩ := hr.get hd
      have : vs'[ix]? = some v' := by simpa using hv'
      refine OpR.value hH ?_ hvr
      simp [execOp, e1, Instr.extract, this]
  | range t x =>
    have hx := hρ x (by simp [Op.operands])
    simp only [dop] at h
    split at h
    case h_2 => cases h
    rename_i s hu hv
    cases h
    rw [hv] at hx
    have e1 := hx.flat_eq rfl
    obtain ⟨hH', hst⟩ := hH.alloc (w' := w.alloc (.stringIter s 0)) (B := .siter s 0) (S := 0) (es := 0) rfl rfl rfl (by simp) (fun k hk => Below.heap_alloc w _ k hk)
      (.siter _ _ _ s 0 hH.size (by show (w.heap.push _)[w.heap.size]? = _; simp))
    refine ⟨_, _, _, _, ?_, .inl rfl, .ptr _ _ AR_new, hH', hst⟩
    simp [execOp, e1, Instr.range, Sem.run_bind, run_underlying hu]
  | next it str =>
    have hx := hρ it (by simp [Op.operands])
    cases str with
    | false => simp only [dop] at h; cases h
    | true =>
      simp only [dop] at h
      split at h
      case h_2 => cases h
      rename_i r sp hv
      rw [hv] at hx
      obtain ⟨a', e1, hA⟩ := hx.ptr_inv
      split at h
      case h_2 => cases h
      rename_i s pos hg
      have hB := hH.blk r _ hg
      have hlt := hH.get_lt hg
      generalize hσ : σ r = loc at hB
      cases hB with
      | siter b S es _ _ g1 g2 =>
        unfold AR at hA
        simp only [hσ] at hA
        obtain ⟨_, rfl⟩ := hA
        have hbl := (Array.getElem?_eq_some_iff.1 g2).1
        have hget : (getObj b).run P w = .ok (.stringIter s pos) w := by simp [getObj, Sem.run, g2]
        split at h
        · rename_i hpos
          cases h
          obtain ⟨hH', hst⟩ := hH.write (w' := { w with heap := w.heap.setIfInBounds b (.stringIter s (pos + (Utf8.decode s pos).2)) }) (B := .siter s (pos + (Utf8.decode s pos).2)) (by rw [hg]; simp) hσ g1 rfl rfl rfl (by simp) (fun k hk => set_at _ hk) (.siter _ _ _ _ _ g1 (set_same _ hbl))
          refine ⟨_, _, _, _, ?_, .inl rfl, .flat _ rfl, hH', hst⟩
          have hset : ∀ o : Obj, (setObj b o).run P w = .ok () { w with heap := w.heap.setIfInBounds b o } := fun o => by simp [setObj, Sem.run, g2]
          simp [execOp, e1, Instr.next, Sem.run_bind, hget, hpos, hset]
        · rename_i hpos
          cases h
          refine OpR.value hH ?_ (.flat _ rfl)
          simp [execOp, e1, Instr.next, Sem.run_bind, hget, hpos]
  | call c =>
    obtain ⟨callee, args, ats⟩ := c
    cases callee with
    | builtin b =>
      obtain ⟨args⟩ := args
      have hargs : ∀ x ∈ args, VR σ τ (ρ x) (ρ' x) := fun x hx => hρ x (by simpa [Op.operands, Call.operands] using hx)
      have hex : ∀ s : Sem Next, builtin b ats type (args.map fun | .const _ => true | _ => false).toArray (args.map ρ').toArray = s →
          execOp ρ' ⟨dst, .call ⟨.builtin b, ⟨args⟩, ats⟩, type, pos, after, guard⟩ = s := by
        intro s hs
        rw [← hs]
        simp only [execOp, resolve, List.map_toArray]
        rfl
      simp only [dop] at h
      split at h
      · rename_i x
        have hx := hargs x (by simp)
        split at h
        · rename_i a n c hv
          split at h
          case h_2 => cases h
          rename_i e hu
          cases h
          rw [hv] at hx
          obtain ⟨t, ht, hut⟩ := Option.bind_eq_some_iff.1 hu
          have hxx : ∃ a' c', ρ' x = .slice a' n c' := by
            cases a with
            | some ad => obtain ⟨a', c', e1, _⟩ := hx.slice_inv; exact ⟨_, _, e1⟩
            | none => obtain ⟨rfl, rfl, e1⟩ := hx.slice_none_inv; exact ⟨_, _, e1⟩
          obtain ⟨a', c', e1⟩ := hxx
          refine OpR.value hH ?_ (.flat _ rfl)
          rw [hex _ rfl]
          simp [builtin, Builtin.len_, ht, e1, Sem.run_bind, run_underlying hut]
        · rename_i r hv
          split at h
          case h_2 => cases h
          rename_i kt et es clock hu hg
          cases h
          rw [hv] at hx
          obtain ⟨r', e1, hbr⟩ := hx.map_inv
          obtain ⟨b, S, ez, es', hσ, hNb, hb, he⟩ := hH.mapAt hg
          have := hbr.at hσ
          subst this
          obtain ⟨t, ht, hut⟩ := Option.bind_eq_some_iff.1 hu
          refine OpR.value hH ?_ (.flat _ rfl)
          rw [hex _ rfl]
          have hsz := he.1
          simp [builtin, Builtin.len_, ht, e1, Sem.run_bind, run_underlying hut, run_getMap hb, hsz]
        · exact dflat_sound hH (by intro cs b; simp) hρ h
      · rename_i s x
        rw [hex _ rfl]
        split at h
        case h_2 => cases h
        rename_i t xt hts
        obtain ⟨ts⟩ := ats
        simp only at hts
        subst hts
        split at h
        · rename_i r hz
          cases h
          exact dzeros_sound hH (hargs s (by simp)) (hargs x (by simp)) hz
        · exact dappend_sound hH hτ (hargs s (by simp)) (hargs x (by simp)) h
      · exact dflat_sound hH (by intro cs b; simp) hρ h
      · rename_i s x
        rw [hex _ rfl]
        exact dcopy_sound hH hτ (hargs s (by simp)) (hargs x (by simp)) h
      · rename_i m k
        split at h
        case h_2 => cases h
        rename_i t ht
        rw [hex _ rfl]
        exact ddelete_sound hH ht (hargs m (by simp)) (hargs k (by simp)) h
      · cases h
        rfl
      · exact dflat_sound hH (by intro cs b; simp) hρ h
      · exact dflat_sound hH (by intro cs b; simp) hρ h
      · cases h
    | value f =>
      have hf := hρ f (by simp [Op.operands, Call.operands])
      have ha : LR σ τ (args.toList.map ρ) (args.map ρ').toList := by
        rw [Array.toList_map]; exact mapρ fun x hx => hρ x (by simp only [Op.operands, Call.operands]; simp; exact .inr (by simpa using hx))
      simp only [dop] at h
      split at h
      · rename_i g first captured hv
        have hf' := hf
        rw [hv] at hf'
        obtain ⟨x1, y1, e1, h1, h2⟩ := hf'.func_inv
        split at h
        · rename_i r hd
          cases h
          obtain ⟨rfl, hrun⟩ := dcall1_sound hd
          refine ⟨x1 ++ args.map ρ' ++ y1, ?_, ?_⟩
          · simp only [execOp, resolve, e1, Deferred.ofValue, Sem.run_bind, Sem.run_pure, Result.andThen_ok, invoke]
            exact hrun _ _
          · rw [Array.toList_append, Array.toList_append]
            exact LR.append (LR.append h1 ha) h2
        · exact dflat_sound hH (by intro cs b; simp) hρ h
      · rename_i l first captured hv
        cases h
        rw [hv] at hf
        obtain ⟨l', e1, hbr, rfl, rfl⟩ := hf.yield_inv
        refine ⟨l', #[] ++ args.map ρ', ?_, hbr, ?_⟩
        · simp only [execOp, resolve, e1, Deferred.ofValue, Sem.run_bind, Sem.run_pure, Result.andThen_ok, invoke]
        · simpa using ha
      · cases h
    | invoke r m => simp only [dop] at h; cases h
  | defer c =>
    obtain ⟨callee, args, ats⟩ := c
    cases callee with
    | value f =>
      have hf := hρ f (by simp [Op.operands, Call.operands])
      simp only [dop] at h
      split at h
      case h_2 => cases h
      rename_i g first captured hv
      cases h
      rw [hv] at hf
      obtain ⟨x1, y1, e1, h1, h2⟩ := hf.func_inv
      have ha : RA σ τ (args.map ρ) (args.map ρ') := by
        unfold RA; rw [Array.toList_map, Array.toList_map]; exact mapρ fun x hx => hρ x (by simp only [Op.operands, Call.operands]; simp; exact .inr (by simpa using hx))
      refine ⟨{ target := .fn (.func g) y1, args := x1 ++ args.map ρ' }, ?_, ?_, .inl ⟨g, captured, y1, rfl, rfl, h2⟩⟩
      · simp [execOp, resolve, e1, Deferred.ofValue, Sem.run_bind]
      · unfold RA; simp only [Array.toList_append]; exact LR.append h1 ha
    | _ => simp only [dop] at h; cases h
  | panic x =>
    have hx := hρ x (by simp [Op.operands])
    simp only [dop] at h
    split at h
    case h_2 => cases h
    rename_i t v hv
    cases h
    rw [hv] at hx
    obtain ⟨u', e1, hr⟩ := hx.iface_inv
    refine ⟨.iface t u', ?_, .iface t _ _ hr⟩
    simp [execOp, e1, Instr.panic, Sem.run_bind]
  | _ => simp only [dop] at h; cases h
end
end Go.Hb
