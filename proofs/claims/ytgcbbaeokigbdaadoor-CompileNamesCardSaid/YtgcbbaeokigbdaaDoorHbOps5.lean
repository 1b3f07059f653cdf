/- One operation of the abstract machine is one of the model's: maps, copy, conversions, make. -/
import Derived.Test.YtgcbbaeokigbdaaDoorHbOps4
import Derived.Laws.MakeOwn
namespace Go.Hb
open Go Go.RowKit

section
variable {P : Program} {N : Nat} {w0 : World} {τ : Nat → Value} {σ : Nat → Loc} {H : Heap} {w w' : World} {ρ ρ' : Operand → Value} {o : Oper}

/-! ## keys -/
theorem findNow_keys (kind : TypeDesc) (k : Value) : ∀ (es es' : List MapEntry) (i : Nat), es.map (·.key) = es'.map (·.key) →
    match Instr.findNow kind k es i with
    | none => Instr.findNow kind k es' i = none
    | some none => Instr.findNow kind k es' i = some none
    | some (some (j, _)) => i ≤ j ∧ ∃ e', es'[j - i]? = some e' ∧ Instr.findNow kind k es' i = some (some (j, e'.val))
  | [], [], i, _ => rfl
  | [], _ :: _, i, h => by simp at h
  | _ :: _, [], i, h => by simp at h
  | e :: es, e' :: es', i, h => by
    simp only [List.map_cons, List.cons.injEq] at h
    obtain ⟨h1, h2⟩ := h
    simp only [Instr.findNow]
    rw [← h1]
    cases hs : Instr.sameNow kind k e.key with
    | none => rfl
    | some b =>
      cases b with
      | true => exact ⟨Nat.le_refl _, e', by simp, rfl⟩
      | false =>
        simp only
        have ih := findNow_keys kind k es es' (i + 1) h2
        cases hf : Instr.findNow kind k es (i + 1) with
        | none => rw [hf] at ih; exact ih
        | some r =>
          rw [hf] at ih
          cases r with
          | none => exact ih
          | some p =>
            obtain ⟨j, v⟩ := p
            obtain ⟨hij, e2, h3, h4⟩ := ih
            refine ⟨by omega, e2, ?_, h4⟩
            rw [show j - i = (j - (i + 1)) + 1 from by omega, List.getElem?_cons_succ]
            exact h3

theorem findAsking_keys (kt : TypeId) (k : Value) : ∀ (es es' : List MapEntry) (i : Nat) (r : Option (Nat × Value)), es.map (·.key) = es'.map (·.key) → pureRun P (Instr.findAsking kt k es i) = some r →
    match r with
    | none => ∀ w, (Instr.findAsking kt k es' i).run P w = .ok none w
    | some (j, _) => i ≤ j ∧ ∃ e', es'[j - i]? = some e' ∧ ∀ w, (Instr.findAsking kt k es' i).run P w = .ok (some (j, e'.val)) w
  | [], [], i, r, _, h => by
    have : r = none := by simpa [Instr.findAsking, pureRun, pure] using h.symm
    subst this
    intro w; rfl
  | [], _ :: _, i, _, h, _ => by simp at h
  | _ :: _, [], i, _, h, _ => by simp at h
  | e :: es, e' :: es', i, r, hk, h => by
    simp only [List.map_cons, List.cons.injEq] at hk
    obtain ⟨h1, h2⟩ := hk
    simp only [Instr.findAsking] at h ⊢
    rw [pureRun_bind] at h
    cases hq : pureRun P (Op.equal kt k e.key) with
    | none => rw [hq] at h; cases h
    | some b =>
      have hq0 := pureRun_run _ hq
      rw [h1] at hq0
      rw [hq, Option.bind_some] at h
      cases b with
      | true =>
        have : r = some (i, e.val) := by simpa [pureRun, pure] using h.symm
        subst this
        exact ⟨Nat.le_refl _, e', by simp, fun w => by simp [Sem.run_bind, hq0]⟩
      | false =>
        simp only [Bool.false_eq_true, if_false] at h
        have ih := findAsking_keys kt k es es' (i + 1) r h2 h
        cases r with
        | none => exact fun w => by simp [Sem.run_bind, hq0, ih w]
        | some p =>
          obtain ⟨j, v⟩ := p
          obtain ⟨hij, e2, h3, h4⟩ := ih
          refine ⟨by omega, e2, ?_, fun w => by simp [Sem.run_bind, hq0, h4 w]⟩
          rw [show j - i = (j - (i + 1)) + 1 from by omega, List.getElem?_cons_succ]
          exact h3

theorem findKey_keys (kt : TypeId) (k : Value) (es es' : List MapEntry) (r : Option (Nat × Value)) (hk : es.map (·.key) = es'.map (·.key)) (h : pureRun P (Instr.findKey kt k es) = some r) :
    match r with
    | none => ∀ w, (Instr.findKey kt k es').run P w = .ok none w
    | some (j, _) => ∃ e', es'[j]? = some e' ∧ ∀ w, (Instr.findKey kt k es').run P w = .ok (some (j, e'.val)) w := by
  unfold Instr.findKey at h ⊢
  rw [pureRun_bind] at h
  cases hu : pureRun P (underlying kt) with
  | none => rw [hu] at h; cases h
  | some d =>
    have hu0 := pureRun_run _ hu
    rw [hu, Option.bind_some] at h
    have hn := findNow_keys d k es es' 0 hk
    cases hf : Instr.findNow d k es 0 with
    | none =>
      rw [hf] at hn h
      simp only at hn h
      have ha := findAsking_keys kt k es es' 0 r hk h
      cases r with
      | none => exact fun w => by simp [Sem.run_bind, hu0, hn, ha w]
      | some p =>
        obtain ⟨j, v⟩ := p
        obtain ⟨_, e2, h3, h4⟩ := ha
        exact ⟨e2, by simpa using h3, fun w => by simp [Sem.run_bind, hu0, hn, h4 w]⟩
    | some q =>
      rw [hf] at hn h
      have : r = q := by simpa [pureRun, pure] using h.symm
      subst this
      cases r with
      | none =>
        simp only at hn
        exact fun w => by simp [Sem.run_bind, hu0, hn]
      | some p =>
        obtain ⟨j, v⟩ := p
        simp only at hn
        obtain ⟨_, e2, h3, h4⟩ := hn
        exact ⟨e2, by simpa using h3, fun w => by simp [Sem.run_bind, hu0, h4]⟩

theorem EntR.keys {es : List MapEntry} {es' : Array MapEntry} (h : EntR σ τ es es') : (keysOf es).map (·.key) = es'.toList.map (·.key) := by
  apply List.ext_getElem?
  intro i
  simp only [keysOf, List.map_map, List.getElem?_map]
  cases he : es[i]? with
  | none =>
    have hi : es.length ≤ i := by
      rcases Nat.lt_or_ge i es.length with hlt | hge
      · rw [List.getElem?_eq_getElem hlt] at he; cases he
      · exact hge
    have : es'.toList[i]? = none := List.getElem?_eq_none (by have := h.1; simp; omega)
    rw [this]; rfl
  | some e =>
    have hi : i < es.length := by
      rcases Nat.lt_or_ge i es.length with hlt | hge
      · exact hlt
      · rw [List.getElem?_eq_none hge] at he; cases he
    have hi' : i < es'.size := h.1 ▸ hi
    have he' : es'[i]? = some es'[i] := Array.getElem?_eq_getElem hi'
    obtain ⟨hk, _⟩ := h.2 i e _ he he'
    have : es'.toList[i]? = some es'[i] := by simp
    rw [this]
    simp [hk]

theorem EntR.isEmpty {es : List MapEntry} {es' : Array MapEntry} (h : EntR σ τ es es') : es'.isEmpty = es.isEmpty := by
  have := h.1
  cases es with
  | nil => simp at this ⊢; exact Array.eq_empty_of_size_eq_zero this.symm
  | cons a l => simp at this; cases hq : es'.isEmpty <;> simp_all

theorem dfind_sound {emp : Bool} {kt : TypeId} {k k' : Value} {es : List MapEntry} {es' : Array MapEntry} {r : Option Nat} (h : dfind P emp kt k es = some r) (hk : VR σ τ k k') (he : EntR σ τ es es') :
    k' = k ∧ flat k = true ∧ (∀ w, (Instr.checkKey emp 10000 kt k').run P w = .ok () w) ∧
    match r with
    | none => ∀ w, (Instr.findKey kt k' es'.toList).run P w = .ok none w
    | some j => ∃ e', es'[j]? = some e' ∧ ∀ w, (Instr.findKey kt k' es'.toList).run P w = .ok (some (j, e'.val)) w := by
  unfold dfind at h
  split at h
  case h_2 => cases h
  rename_i r0 hf hc hq
  cases h
  have hkk := hk.flat_eq hf
  subst hkk
  refine ⟨rfl, hf, fun w => pureRun_run _ hc w, ?_⟩
  have := findKey_keys kt k' _ _ r0 he.keys hq
  cases r0 with
  | none => exact this
  | some p =>
    obtain ⟨j, v⟩ := p
    obtain ⟨e2, h3, h4⟩ := this
    exact ⟨e2, by simpa using h3, h4⟩

theorem HR.mapAt (hH : HR P N w0 τ σ H w) {r : Nat} {es : List MapEntry} {clock : Nat} (h : H.get r = some (.map es clock)) :
    ∃ b S ez es', σ r = .live b S ez ∧ N ≤ b ∧ w.heap[b]? = some (.map es' clock) ∧ EntR σ τ es es' := by
  have hB := hH.blk r _ h
  generalize hσ : σ r = loc at hB
  cases hB with
  | map b S ez _ _ es' h1 h2 h3 => exact ⟨b, S, ez, es', rfl, h1, h2, h3⟩

theorem BR.at {r r' b S ez : Nat} (h : BR σ r r') (hσ : σ r = .live b S ez) : r' = b := by unfold BR at h; rw [hσ] at h; exact h

theorem run_getMap {r : Nat} {es : Array MapEntry} {clock : Nat} (hb : w.heap[r]? = some (.map es clock)) : (getObj r).run P w = .ok (.map es clock) w := by simp [getObj, Sem.run, hb]
theorem run_setMap {r : Nat} {es : Array MapEntry} {clock : Nat} (o : Obj) (hb : w.heap[r]? = some (.map es clock)) : (setObj r o).run P w = .ok () { w with heap := w.heap.setIfInBounds r o } := by simp [setObj, Sem.run, hb]

theorem dlookup_sound (hH : HR P N w0 τ σ H w) {t : TypeId} {m m' k k' : Value} {ok : Bool} {dr : Dr} (hm : VR σ τ m m') (hk : VR σ τ k k') (h : dlookup P t m k ok H = some dr) :
    OpR P N w0 τ σ H w (do pure (Next.value (← Instr.lookup t m' k' ok))) dr := by
  unfold dlookup at h
  split at h
  case h_2 => cases h
  rename_i kt et hu
  -- what is handed back
  have out : ∀ (u u' : Value) (b : Bool), VR σ τ u u' → VR σ τ (if ok then .tuple #[u, .bool b] else u) (if ok then .tuple #[u', .bool b] else u') := by
    intro u u' b hr
    split
    · exact RA.mk_tuple (LR.cons hr (LR.cons (.flat _ rfl) LR.nil))
    · exact hr
  cases m with
  | map r =>
    cases r with
    | none =>
      have := hm.flat_eq rfl
      subst this
      simp only at h
      split at h
      case h_2 => cases h
      rename_i hf hc hq
      have hkk := hk.flat_eq hf
      subst hkk
      have hc0 := pureRun_run _ hc
      have hq0 := pureRun_run _ hq
      split at h
      case h_2 => cases h
      rename_i z hz
      have hz0 := pureRun_run _ hz
      split at h
      case isFalse => cases h
      rename_i hzf
      cases h
      refine OpR.value hH ?_ (out z z false (.flat z hzf))
      apply run_v
      unfold Instr.lookup
      simp only [Sem.run_bind, run_underlying hu, Result.andThen_ok, Sem.run_pure]
      rw [show (#[] : Array MapEntry).isEmpty = true from rfl, hc0 w]
      simp only [Result.andThen_ok]
      rw [hq0 w]
      simp only [Result.andThen_ok, Sem.run_bind, hz0, Sem.run_pure]
    | some r =>
      obtain ⟨r', rfl, hbr⟩ := hm.map_inv
      simp only at h
      split at h
      case h_2 => cases h
      rename_i es clock hg
      obtain ⟨b, S, ez, es', hσ, hNb, hb, he⟩ := hH.mapAt hg
      have := hbr.at hσ
      subst this
      split at h
      · -- not there
        rename_i hd
        obtain ⟨rfl, hf, hck, hfk⟩ := dfind_sound hd hk he
        split at h
        case h_2 => cases h
        rename_i z hz
        have hz0 := pureRun_run _ hz
        split at h
        case isFalse => cases h
        rename_i hzf
        cases h
        refine OpR.value hH ?_ (out z z false (.flat z hzf))
        apply run_v
        unfold Instr.lookup
        simp only [Sem.run_bind, run_underlying hu, Result.andThen_ok, run_getMap hb, he.isEmpty, hck, hfk, hz0, Sem.run_pure]
      · rename_i i hd
        obtain ⟨rfl, hf, hck, e', he1, hfk⟩ := dfind_sound hd hk he
        split at h
        case h_2 => cases h
        rename_i e hes
        cases h
        refine OpR.value hH ?_ (out e.val e'.val true (he.2 i e e' hes he1).2.2.2)
        apply run_v
        unfold Instr.lookup
        simp only [Sem.run_bind, run_underlying hu, Result.andThen_ok, run_getMap hb, he.isEmpty, hck, hfk, Sem.run_pure]
      · cases h
  | _ => cases h

theorem set_at {b k : Nat} (o : Obj) (hk : k ≠ b) : ({ w with heap := w.heap.setIfInBounds b o } : World).heap[k]? = w.heap[k]? := by
  simp [Array.getElem?_setIfInBounds, Ne.symm hk]
theorem set_same {b : Nat} (o : Obj) (hb : b < w.heap.size) : ({ w with heap := w.heap.setIfInBounds b o } : World).heap[b]? = some o := by
  simp [Array.getElem?_setIfInBounds, hb]

theorem HR.setMap (hH : HR P N w0 τ σ H w) {r b S ez : Nat} {es es1 : List MapEntry} {c1 clock : Nat} {es' : Array MapEntry} (hg : H.get r = some (.map es clock)) (hσ : σ r = .live b S ez) (hN : N ≤ b)
    (hb : b < w.heap.size) (he : EntR σ τ es1 es') :
    HR P N w0 τ σ (H.put r (some (.map es1 c1))) { w with heap := w.heap.setIfInBounds b (.map es' c1) } ∧
    Step σ H w σ (H.put r (some (.map es1 c1))) { w with heap := w.heap.setIfInBounds b (.map es' c1) } :=
  hH.write (by rw [hg]; simp) hσ hN rfl rfl rfl (by simp) (fun k hk => set_at _ hk) (.map b S ez es1 c1 es' hN (set_same _ hb) he)

theorem dupdate_sound (hH : HR P N w0 τ σ H w) {t : TypeId} {m m' k k' v v' : Value} {dr : Dr} (hm : VR σ τ m m') (hk : VR σ τ k k') (hv : VR σ τ v v') (h : dupdate P t m k v H = some dr) :
    OpR P N w0 τ σ H w (do Instr.mapUpdate t m' k' v'; pure Next.skip) dr := by
  unfold dupdate at h
  split at h
  case h_2 => cases h
  rename_i kt et r hu
  obtain ⟨r', rfl, hbr⟩ := hm.map_inv
  split at h
  case h_2 => cases h
  rename_i es clock hg
  obtain ⟨b, S, ez, es', hσ, hNb, hb, he⟩ := hH.mapAt hg
  have := hbr.at hσ
  subst this
  have hlt := (Array.getElem?_eq_some_iff.1 hb).1
  split at h
  · rename_i hd
    obtain ⟨rfl, hf, hck, hfk⟩ := dfind_sound hd hk he
    cases h
    have hent : EntR σ τ (es ++ [{ key := k', val := v, born := clock }]) (es'.push { key := k', val := v', born := clock }) := by
      refine ⟨by simp [he.1], fun i e e' x y => ?_⟩
      by_cases hi : i < es.length
      · rw [List.getElem?_append_left hi] at x
        rw [Array.getElem?_push_lt (by have := he.1; omega)] at y
        exact he.2 i e e' x (by rw [Array.getElem?_eq_getElem (by have := he.1; omega)]; exact y)
      · have hi' : i = es.length := by
          rcases Nat.lt_or_ge es.length i with h1 | h1
          · rw [List.getElem?_eq_none (by simp; omega)] at x; cases x
          · omega
        subst hi'
        simp at x
        rw [he.1, Array.getElem?_push_size] at y
        cases x; cases y
        exact ⟨rfl, hf, rfl, hv⟩
    obtain ⟨h1, h2⟩ := hH.setMap (c1 := clock + 1) hg hσ hNb hlt hent
    refine ⟨.skip, _, _, undef, ?_, .inr ⟨rfl, rfl⟩, .flat _ rfl, h1, h2⟩
    apply run_u
    unfold Instr.mapUpdate
    simp only [Sem.run_bind, run_underlying hu, Result.andThen_ok, run_getMap hb, hck, hfk, run_setMap _ hb]
  · rename_i i hd
    obtain ⟨rfl, hf, hck, e', he1, hfk⟩ := dfind_sound hd hk he
    split at h
    case h_2 => cases h
    rename_i e hes
    split at h
    case isFalse => cases h
    rename_i hsb
    cases h
    obtain ⟨hke, hkf, hbo, hva⟩ := he.2 i e e' hes he1
    have hent : EntR σ τ (es.set i { e with key := k', val := v }) (es'.modify i fun e => { e with key := k', val := v' }) := by
      refine ⟨by simp [he.1], fun j a a' x y => ?_⟩
      rw [List.getElem?_set] at x
      rw [Array.getElem?_modify] at y
      split at x
      · rename_i hij
        subst hij
        rw [if_pos rfl, he1] at y
        split at x
        · cases x; cases y; exact ⟨rfl, hf, hbo, hv⟩
        · cases x
      · rename_i hij
        rw [if_neg hij] at y
        exact he.2 j a a' x y
    obtain ⟨h1, h2⟩ := hH.setMap (c1 := clock) hg hσ hNb hlt hent
    refine ⟨.skip, _, _, undef, ?_, .inr ⟨rfl, rfl⟩, .flat _ rfl, h1, h2⟩
    apply run_u
    unfold Instr.mapUpdate Instr.keyThatStays
    simp only [Sem.run_bind, run_underlying hu, Result.andThen_ok, run_getMap hb, hck, hfk, he1, Option.map_some, Option.getD_some, hke, hsb, if_true, Sem.run_pure, run_setMap _ hb]
  · cases h
end
end Go.Hb
