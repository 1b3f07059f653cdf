/- One operation of the abstract machine is one of the model's: delete, copy, bytes, make, calls. -/
import Derived.Test.YtgcbbaeokigbdaaDoorHbOps5
import Derived.Lib.AppendZeros
import Derived.Laws.BytesString
namespace Go.Hb
open Go Go.RowKit

section
variable {P : Program} {N : Nat} {w0 : World} {τ : Nat → Value} {σ : Nat → Loc} {H : Heap} {w w' : World} {ρ ρ' : Operand → Value} {o : Oper}

theorem ddelete_sound (hH : HR P N w0 τ σ H w) {t : TypeId} {ts : Array TypeId} {ty : TypeId} {m m' k k' : Value} {dr : Dr} (ht : ts[0]? = some t) (hm : VR σ τ m m') (hk : VR σ τ k k') (h : ddelete P t m k H = some dr) :
    OpR P N w0 τ σ H w (do pure (Next.value (← Builtin.delete_ ts ty #[m', k']))) dr := by
  unfold ddelete at h
  split at h
  case h_2 => cases h
  rename_i kt et r hu
  obtain ⟨r', rfl, hbr⟩ := hm.map_inv
  split at h
  case h_2 => cases h
  rename_i es clock hg
  obtain ⟨b, S, ez, es', hσ, hNb, hb, he⟩ := hH.mapAt hg
  have := hbr.at hσ
  subst this
  have hlt := (Array.getElem?_eq_some_iff.1 hb).1
  split at h
  · rename_i hd
    obtain ⟨rfl, hf, hck, hfk⟩ := dfind_sound hd hk he
    cases h
    have hsame : ({ w with heap := w.heap.setIfInBounds r' (.map es' clock) } : World) = w := by
      have : w.heap.setIfInBounds r' (.map es' clock) = w.heap := by
        apply Array.ext_getElem?
        intro i
        rw [Array.getElem?_setIfInBounds]
        split
        · rename_i hi; subst hi; first | rw [hb] | rw [if_pos hlt, hb]
        · rfl
      cases w; simp_all
    refine OpR.value hH ?_ (.flat _ rfl)
    apply run_v
    unfold Builtin.delete_
    simp only [ht, List.getElem?_toArray, List.getElem?_cons_zero, List.getElem?_cons_succ, Sem.run_bind, run_underlying hu, Result.andThen_ok, run_getMap hb, he.isEmpty, hck, hfk, run_setMap _ hb, hsame]
    rfl
  · rename_i i hd
    obtain ⟨rfl, hf, hck, e', he1, hfk⟩ := dfind_sound hd hk he
    cases h
    have hent : EntR σ τ (es.eraseIdx i) (es'.eraseIdxIfInBounds i) := by
      have hl : (es'.eraseIdxIfInBounds i).toList = es'.toList.eraseIdx i := by
        rw [Array.eraseIdxIfInBounds]
        split
        · simp
        · rename_i hi; rw [List.eraseIdx_of_length_le]; simpa using hi
      have hz : (es'.eraseIdxIfInBounds i).size = (es'.toList.eraseIdx i).length := by rw [← hl, Array.length_toList]
      have e1 : es'.toList.length = es.length := by rw [Array.length_toList]; exact he.1.symm
      refine ⟨by rw [hz, List.length_eraseIdx, List.length_eraseIdx, e1], fun j a a' x y => ?_⟩
      have y' : (es'.toList.eraseIdx i)[j]? = some a' := by rw [← hl, Array.getElem?_toList]; exact y
      rw [List.getElem?_eraseIdx] at x y'
      split at x
      · rename_i hj; rw [if_pos hj] at y'; exact he.2 j a a' x (by simpa using y')
      · rename_i hj; rw [if_neg hj] at y'; exact he.2 (j + 1) a a' x (by simpa using y')
    obtain ⟨h1, h2⟩ := hH.setMap (c1 := clock) hg hσ hNb hlt hent
    refine ⟨_, _, _, undef, run_v _ _ _ ?_, .inl rfl, .flat _ rfl, h1, h2⟩
    unfold Builtin.delete_
    simp only [ht, List.getElem?_toArray, List.getElem?_cons_zero, List.getElem?_cons_succ, Sem.run_bind, run_underlying hu, Result.andThen_ok, run_getMap hb, he.isEmpty, hck, hfk, run_setMap _ hb]
    rfl
  · cases h

theorem dcopy_sound (hH : HR P N w0 τ σ H w) (hτ : ∀ j, (τ j).oneCell' = true) {ts : Array TypeId} {ty : TypeId} {d d' x x' : Value} {dr : Dr} (hd : VR σ τ d d') (hx : VR σ τ x x')
    (h : dcopy P ts d x H = some dr) : OpR P N w0 τ σ H w (do pure (Next.value (← Builtin.copy_ ts ty #[d', x']))) dr := by
  unfold dcopy at h
  split at h
  case h_2 => cases h
  rename_i t ts' hts
  have ht : ts[0]? = some t := by
    have : ts.toList[0]? = some t := by rw [hts]; rfl
    simpa using this
  split at h
  case h_2 => cases h
  rename_i e a n c b m cc hu
  split at h
  case h_2 => cases h
  rename_i i hi
  have hdd : ∃ a' c', d' = .slice a' n c' ∧ ∀ ad, a = some ad → ∃ ad', a' = some ad' ∧ AR σ ad ad' := by
    cases a with
    | some ad => obtain ⟨a', c', rfl, h1, _⟩ := hd.slice_inv; exact ⟨_, _, rfl, fun ad' e => (by cases e; exact ⟨a', rfl, h1⟩)⟩
    | none => obtain ⟨rfl, rfl, rfl⟩ := hd.slice_none_inv; exact ⟨_, _, rfl, fun ad e => by cases e⟩
  obtain ⟨a', c', rfl, hA⟩ := hdd
  dsimp only at h
  split at h
  · rename_i hk
    rw [Nat.beq_eq] at hk
    cases h
    have hxx : ∃ b' d2, x' = .slice b' m d2 := by
      cases b with
      | some bd => obtain ⟨b', d', rfl, _⟩ := hx.slice_inv; exact ⟨_, _, rfl⟩
      | none => obtain ⟨rfl, rfl, rfl⟩ := hx.slice_none_inv; exact ⟨_, _, rfl⟩
    obtain ⟨b', d2, rfl⟩ := hxx
    refine OpR.value hH ?_ (.flat _ rfl)
    apply run_v
    have hk' : m.min n = 0 := hk
    unfold Builtin.copy_
    simp only [ht, List.getElem?_toArray, List.getElem?_cons_zero, List.getElem?_cons_succ, Sem.run_bind, run_underlying hu, Result.andThen_ok, Builtin.lenOf, Sem.run_pure, hk', run_sizeOf hi]
    cases b' with
    | none => cases a' <;> simp [Builtin.firstCells, storeCells, goInt]
    | some bd => cases a' <;> simp [Builtin.firstCells, storeCells, goInt, loadCells, loadCellsFrom]
  · rename_i hk
    split at h
    case h_2 => cases h
    rename_i news ad hds
    obtain ⟨ad', rfl, hA1⟩ := hA ad rfl
    split at h
    case h_2 => cases h
    rename_i H' hst
    cases h
    obtain ⟨bd, n2, c2, bd', d2, news', e1, rfl, hbA, hlen, hnr, hcell⟩ := dsource_sound hH hx hds
    cases e1
    obtain ⟨w', hrun, hH', hstep⟩ := hH.store hτ hst hA1 hnr
    have hl := run_loadCells_list (P := P) w bd' news' hcell
    rw [hlen] at hl
    refine ⟨_, w', σ, _, run_v _ _ _ ?_, .inl rfl, .flat _ rfl, hH', hstep⟩
    unfold Builtin.copy_
    simp only [ht, List.getElem?_toArray, List.getElem?_cons_zero, List.getElem?_cons_succ, Sem.run_bind, run_underlying hu, Result.andThen_ok, Builtin.lenOf, Sem.run_pure, run_sizeOf hi, Builtin.firstCells]
    rw [hl]
    simp only [Result.andThen_ok, Sem.run_bind, hrun]
    rfl

theorem bytesOf_rel : ∀ {l l' : List Value} {ns : List Int}, bytesOf l = some ns → LR σ τ l l' → l' = ns.map (Value.int .u8)
  | [], l', ns, h, hr => by rw [hr.nil_inv]; cases h; rfl
  | v :: l, l', ns, h, hr => by
    obtain ⟨v', r', rfl, hv, hr'⟩ := hr.cons_inv
    unfold bytesOf at h
    split at h
    · rename_i h0; cases h0
    · rename_i n vs h0
      cases h0
      cases hb : bytesOf l with
      | none => rw [hb] at h; cases h
      | some ms =>
        rw [hb] at h
        cases h
        rw [hv.flat_eq rfl, bytesOf_rel hb hr']
        rfl
    · cases h

theorem dbytes_sound (hH : HR P N w0 τ σ H w) {a : Option Addr} {n c : Nat} {x' v : Value} (hx : VR σ τ (.slice a n c) x') (h : dbytes (.slice a n c) H = some v) :
    (Conv.bytesToString x').run P w = .ok v w ∧ ∃ a' c', x' = .slice a' n c' ∧ flat v = true := by
  cases a with
  | none =>
    obtain ⟨rfl, rfl, rfl⟩ := hx.slice_none_inv
    simp only [dbytes, Option.some.injEq] at h
    subst h
    exact ⟨by simp [Conv.bytesToString], _, _, rfl, rfl⟩
  | some ad =>
    obtain ⟨a', c', rfl, h1, h2, h3, h4⟩ := hx.slice_inv
    simp only [dbytes] at h
    by_cases hn : n = 0
    · subst hn
      simp only [Nat.beq_refl, if_true, bytesOf, Option.map_some, Option.some.injEq, List.foldl_nil] at h
      subst h
      refine ⟨?_, _, _, rfl, rfl⟩
      have := run_bytesToString (P := P) w a' 0 c' [] (by simp [loadCells, loadCellsFrom])
      simpa using this
    · have hn' : Nat.beq n 0 = false := by rw [← Bool.not_eq_true, Nat.beq_eq]; exact hn
      rw [hn'] at h
      simp only [Bool.false_eq_true, if_false] at h
      cases hl : H.load ad n with
      | none => rw [hl] at h; cases h
      | some l =>
        rw [hl] at h
        simp only at h
        cases hb : bytesOf l with
        | none => rw [hb] at h; cases h
        | some ns =>
          rw [hb] at h
          simp only [Option.map_some, Option.some.injEq] at h
          subst h
          obtain ⟨l', e1, e2, e3⟩ := hH.load hl h1
          have hl' := bytesOf_rel hb e2
          have hrun := run_loadCells_list (P := P) w a' l' e3
          rw [e1, hl'] at hrun
          exact ⟨run_bytesToString w a' n c' ns hrun, _, _, rfl, rfl⟩

theorem flatL_iff {l : List Value} : flatL l = true ↔ ∀ v ∈ l, flat v = true := by
  induction l with
  | nil => simp [flatL]
  | cons a l ih => simp [flatL, ih]

theorem made_flat {z : Value} (h : flat z = true) (n : Nat) : flatL ((List.range n).map (z.cells[· % z.cells.size]!)) = true := by
  rw [flatL_iff]
  intro v hv
  rw [List.mem_map] at hv
  obtain ⟨j, _, rfl⟩ := hv
  by_cases hz : z.cells.size = 0
  · have : z.cells = #[] := Array.eq_empty_of_size_eq_zero hz
    rw [this]; rfl
  · have hlt : j % z.cells.size < z.cells.size := Nat.mod_lt _ (by omega)
    show flat (z.cells[j % z.cells.size]!) = true
    rw [getElem!_pos z.cells (j % z.cells.size) hlt]
    have hr := flat_cells (σ := fun _ => .none) (τ := fun _ => undef) h
    have hmem : z.cells[j % z.cells.size] ∈ z.cells.toList := Array.getElem_mem_toList hlt
    cases z with
    | agg x => obtain ⟨l⟩ := x; simp only [flat] at h; exact flatL_iff.1 h _ (by simp [Value.cells])
    | _ => simp [Value.cells] at hmem ⊢; exact h

theorem madeCells_list (z : Array Value) (n : Nat) : (madeCells z n).toList = (List.range n).map (z[· % z.size]!) := by
  simp [madeCells]

/-- a new row under a slice -/
theorem OpR.ofSlice (hH : HR P N w0 τ σ H w) {s : Sem Next} {cs : List Value} {cs' : Array Value} {e : TypeId} {n c : Nat} (hr : LR σ τ cs cs'.toList) (hn : n ≤ c) (hc : c ≤ maxLen) (hz : cs'.size = c * P.cellsOf e)
    (hs : s.run P w = .ok (.value (.slice (some ⟨w.heap.size, 0, none⟩) n c)) (w.alloc (.cells cs' e))) :
    OpR P N w0 τ σ H w s (.val (.slice (some ⟨H.next, 0, none⟩) n c) (H.new (some (.row cs e)))) := by
  obtain ⟨σ', hrun, rfl, hH', hst⟩ := newRow_sound (e := e) hH hr
  refine ⟨_, _, _, _, hs, .inl rfl, .slice _ _ _ _ _ AR_new hn (Nat.le_refl _) ⟨hc, fun b S es hb _ => ?_⟩, hH', hst⟩
  rw [upd_same] at hb
  cases hb
  rw [hz, Nat.zero_add]

theorem zeroCells_list (z : Array Value) (n : Nat) : (Builtin.zeroCells z n).toList = (List.range (n * z.size)).map (z[· % z.size]!) := by
  simp [Builtin.zeroCells]

theorem dzeros_sound (hH : HR P N w0 τ σ H w) {t xt ty : TypeId} {s s' x x' : Value} {dr : Dr} (hs : VR σ τ s s') (hx : VR σ τ x x')
    (h : dzeros P t xt s x H = some dr) : OpR P N w0 τ σ H w (do pure (Next.value (← Builtin.append_ #[t, xt] ty #[s', x']))) dr := by
  unfold dzeros at h
  split at h
  case h_2 => cases h
  rename_i e kn n hu hut hn
  obtain ⟨k, ni, rfl, n0, n1, rfl⟩ := intBetween_inv hn
  cases hi : P.info? e with
  | none => rw [hi] at h; cases h
  | some i =>
    rw [hi] at h
    simp only at h
    cases hz : i.zero with
    | none => rw [hz] at h; cases h
    | some z =>
      rw [hz] at h
      simp only at h
      split at h
      case isFalse => cases h
      rename_i hc
      obtain ⟨hn0, hsz, hzf, hzs, hby⟩ := hc
      cases h
      rw [hs.flat_eq rfl, hx.flat_eq rfl]
      have hm : (most : Int) = 1048576 := rfl
      have hb48 : ni.toNat * i.bytes ≤ 281474976710656 := by
        have : ni.toNat * i.bytes ≤ 1048576 * 4096 := Nat.mul_le_mul (by omega) hby
        omega
      have hrun := Lib.run_append_nil_zeros (P := P) w t xt ty e i z k kn hu hut hi hz ni.toNat hn0 hsz (by omega) hb48
      have hni : ((ni.toNat : Nat) : Int) = ni := by omega
      rw [hni] at hrun
      have hge := grownCap_ge w ni.toNat 0 e
      have hle := grownCap_le_maxLen w ni.toNat 0 e (by simp only [maxLen]; omega)
      have hsize : (Builtin.zeroCells z.cells ni.toNat ++ Builtin.zeroCells z.cells (grownCap w ni.toNat 0 e - ni.toNat)).size = grownCap w ni.toNat 0 e * i.size := by
        rw [Array.size_append, size_zeroCells, size_zeroCells, hzs, ← Nat.add_mul]; congr 1; omega
      have hpr : PR σ τ ((List.range (ni.toNat * i.size)).map (z.cells[· % z.cells.size]!)) (Builtin.zeroCells z.cells ni.toNat ++ Builtin.zeroCells z.cells (grownCap w ni.toNat 0 e - ni.toNat)).toList := by
        unfold PR
        rw [Array.toList_append, zeroCells_list, ← hzs, List.take_left']
        · exact LR.flat (made_flat hzf _)
        · simp
      obtain ⟨hH', hst⟩ := hH.alloc (w' := w.drew.alloc (.cells (Builtin.zeroCells z.cells ni.toNat ++ Builtin.zeroCells z.cells (grownCap w ni.toNat 0 e - ni.toNat)) e))
        (B := .row ((List.range (ni.toNat * i.size)).map (z.cells[· % z.cells.size]!)) e)
        (S := grownCap w ni.toNat 0 e * i.size) (es := P.cellsOf e) rfl rfl rfl (by simp) (fun k hk => Below.heap_alloc w.drew _ k hk)
        (.row _ _ _ _ e _ hH.size (by show (w.heap.push _)[w.heap.size]? = _; simp) hsize rfl (hpr.ext (hH.ext_new _)))
      refine ⟨_, _, _, _, run_v _ _ _ hrun, .inl rfl, .slice _ _ _ _ _ AR_new (Nat.le_refl _) hge ⟨hle, fun b S es hb _ => ?_⟩, hH', hst⟩
      rw [upd_same] at hb
      cases hb
      rw [cellsOf_info hi, Nat.zero_add]
end
end Go.Hb
