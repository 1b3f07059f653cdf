/- One operation of the abstract machine is one of the model's: append, copy, maps. -/
import Derived.Test.YtgcbbaeokigbdaaDoorHbOps3
import Derived.MapKept
namespace Go.Hb
open Go Go.RowKit

section
variable {P : Program} {N : Nat} {w0 : World} {τ : Nat → Value} {σ : Nat → Loc} {H : Heap} {w w' : World} {ρ ρ' : Operand → Value} {o : Oper}

/-- what is appended or copied -/
theorem dsource_sound (hH : HR P N w0 τ σ H w) {size m : Nat} {x x' : Value} {l : List Value} (hx : VR σ τ x x') (h : dsource size m x H = some l) :
    ∃ ad n c ad' c' l', x = .slice (some ad) n c ∧ x' = .slice (some ad') n c' ∧ AR σ ad ad' ∧ l'.length = m * size ∧ LR σ τ l l' ∧ ∀ j v, l'[j]? = some v → w.cell? (ad'.add j) = some v := by
  unfold dsource at h
  split at h
  case h_2 => cases h
  rename_i ad n c
  obtain ⟨ad', c', rfl, h1, h2, h3, h4⟩ := hx.slice_inv
  obtain ⟨l', e1, e2, e3⟩ := hH.load h h1
  exact ⟨ad, n, c, ad', c', l', rfl, rfl, h1, e1, e2, e3⟩

/-- behind an append: the old number is dead, a new one is the row's -/
theorem HR.grow (hH : HR P N w0 τ σ H w) {i b S es : Nat} (hi : i < H.next) (hgi : H.get i ≠ none) (hσ : σ i = .live b S es) (hb : N ≤ b) {row : Option Nat} (hrow : row = some b ∨ row = none) (hg : w.grownBy w' row) {g : Nat} (hgl : g < w'.heap.size)
    (hgb : g = b ∨ g = w.heap.size) {cs : List Value} {e : TypeId} {cur : Array Value} (hcur : w'.heap[g]? = some (.cells cur e (0, 0))) (hp : PR σ τ cs cur.toList) :
    HR P N w0 τ (upd (upd σ i .dead) H.next (.live g cur.size (P.cellsOf e))) ((H.put i none).new (some (.row cs e))) w' ∧
    Step σ H w (upd (upd σ i .dead) H.next (.live g cur.size (P.cellsOf e))) ((H.put i none).new (some (.row cs e))) w' := by
  obtain ⟨h1, s1⟩ := hH.kill i hi (by rw [hσ]; simp) hgi
  have hnext : (H.put i none).next = H.next := rfl
  have he : Ext (upd σ i .dead) (upd (upd σ i .dead) H.next (.live g cur.size (P.cellsOf e))) := h1.ext_new _
  have hnb : ∀ j c S' es', upd σ i .dead j = .live c S' es' → c ≠ b := fun j c S' es' hj hc => by
    subst hc
    by_cases hji : j = i
    · rw [hji, upd_same] at hj; cases hj
    · rw [upd_other _ _ hji] at hj; exact hji (hH.inj j i c S' es' S es hj hσ)
  have hlt1 := h1.lt
  have hng : ∀ j c S' es', upd σ i .dead j = .live c S' es' → c ≠ g := fun j c S' es' hj hc => by
    rcases hgb with rfl | rfl
    · exact hnb j c S' es' hj hc
    · have := hlt1 j c S' es' hj; omega
  have hkeep : ∀ k, k < w.heap.size → k ≠ b → w'.heap[k]? = w.heap[k]? := fun k hk hkb => hg.block k hk (by rcases hrow with rfl | rfl <;> simp [hkb])
  have hsz := hH.size
  refine ⟨⟨h1.below.trans ⟨hg.os, hg.tape, hg.output, hg.size, fun k hk => hkeep k (by omega) (by omega)⟩, by have := hg.size; omega, fun j hj => ?_, fun j C hj => ?_, fun j k c S1 es1 S2 es2 hj hk => ?_, fun j c S1 es1 hj => ?_⟩,
    ⟨Nat.le_succ _, s1.ext.trans he, fun j c S1 es1 hj => ?_, fun k hk hn => hkeep k hk (fun e => hgi (hn i S es (e ▸ hσ))), hg.size, fun j hj hgj => ?_⟩⟩
  · have hj' : H.next + 1 ≤ j := hj
    rw [upd_other _ _ (by omega)]; exact h1.fresh j (by rw [hnext]; omega)
  · rw [Heap.get_new, hnext] at hj
    by_cases hjn : j = H.next
    · rw [if_pos hjn] at hj
      cases hj
      rw [hjn, upd_same]
      exact .row _ _ _ cs e cur (by rcases hgb with h | h <;> omega) hcur rfl rfl (hp.ext (s1.ext.trans he))
    · rw [if_neg hjn] at hj
      rw [upd_other _ _ hjn]
      exact ((h1.blk j C hj).ext he).world fun c S' es' hc => hkeep c (hlt1 j c S' es' hc) (hnb j c S' es' hc)
  · by_cases hj1 : j = H.next
    · by_cases hk1 : k = H.next
      · rw [hj1, hk1]
      · rw [hj1, upd_same] at hj; cases hj
        rw [upd_other _ _ hk1] at hk
        exact absurd rfl (hng k _ _ _ hk)
    · rw [upd_other _ _ hj1] at hj
      by_cases hk1 : k = H.next
      · rw [hk1, upd_same] at hk; cases hk
        exact absurd rfl (hng j _ _ _ hj)
      · rw [upd_other _ _ hk1] at hk
        exact h1.inj j k c S1 es1 S2 es2 hj hk
  · by_cases hj1 : j = H.next
    · rw [hj1, upd_same] at hj; cases hj; exact hgl
    · rw [upd_other _ _ hj1] at hj; have := hlt1 j c S1 es1 hj; have := hg.size; omega
  · by_cases hj1 : j = H.next
    · rw [hj1, upd_same] at hj
      cases hj
      rcases hgb with h | h
      · exact .inr (.inr ⟨i, S, es, hgi, h ▸ hσ⟩)
      · exact .inl (Nat.le_of_eq h.symm)
    · rw [upd_other _ _ hj1] at hj; exact s1.new j c S1 es1 hj
  · obtain ⟨e1, e2⟩ := s1.keep j hj hgj
    obtain ⟨e3, e4⟩ := h1.keep_new (.live g cur.size (P.cellsOf e)) (some (.row cs e)) (i := j) (hj.elim .inl fun h => .inr (by rw [e1]; exact h)) e2
    exact ⟨e3.trans e1, e4⟩

theorem run_builtin (s : Sem Value) (v : Value) (w' : World) (h : s.run P w = .ok v w') : (do pure (Next.value (← s)) : Sem Next).run P w = .ok (.value v) w' := run_v s v w' h

theorem append_zero_run {t : TypeId} {e : TypeId} {i : TypeInfo} {ty : TypeId} {a b : Option Addr} {n c d : Nat} (hu : P.underlying t = some (.slice e)) (hi : P.info? e = some i) (hn : n ≤ c) (w : World) :
    (Builtin.append_ #[t, t] ty #[.slice a n c, .slice b 0 d]).run P w = .ok (.slice a n c) w := by
  have hf : (Builtin.firstCells i.size 0 (.slice b 0 d)).run P w = .ok #[] w := by
    cases b with
    | none => rfl
    | some b => simp [Builtin.firstCells, loadCells, loadCellsFrom]
  cases a with
  | none => simp [Builtin.append_, run_underlying hu, sizeOf, typeInfo, hi, Builtin.lenOf, hf, hn]
  | some a => simp [Builtin.append_, run_underlying hu, sizeOf, typeInfo, hi, Builtin.lenOf, hf, hn, storeCells]

theorem dappend_sound (hH : HR P N w0 τ σ H w) (hτ : ∀ j, (τ j).oneCell' = true) {ts : Array TypeId} {ty : TypeId} {s s' x x' : Value} {dr : Dr} (hs : VR σ τ s s') (hx : VR σ τ x x')
    (h : dappend P ts s x H = some dr) : OpR P N w0 τ σ H w (do pure (Next.value (← Builtin.append_ ts ty #[s', x']))) dr := by
  unfold dappend at h
  split at h
  case h_2 => cases h
  rename_i t xt hts
  obtain ⟨ts⟩ := ts
  simp only at hts
  subst hts
  split at h
  case h_2 => cases h
  rename_i e a n c b m d hu hxt
  rw [Nat.beq_eq] at hxt
  subst hxt
  cases hi : P.info? e with
  | none => rw [hi] at h; cases h
  | some i =>
    rw [hi] at h
    simp only at h
    -- the shapes
    have hxs : ∃ b' d', x' = .slice b' m d' ∧ (b = none → m = 0) := by
      cases b with
      | some bd => obtain ⟨b', d', rfl, _⟩ := hx.slice_inv; exact ⟨_, _, rfl, fun e => by cases e⟩
      | none => obtain ⟨rfl, rfl, rfl⟩ := hx.slice_none_inv; exact ⟨_, _, rfl, fun _ => rfl⟩
    obtain ⟨b', d', rfl, hb0⟩ := hxs
    have hss : ∃ a' c', s' = .slice a' n c' ∧ n ≤ c' := by
      cases a with
      | some ad => obtain ⟨a', c', rfl, _, h2, h3, _⟩ := hs.slice_inv; exact ⟨_, _, rfl, by omega⟩
      | none => obtain ⟨rfl, rfl, rfl⟩ := hs.slice_none_inv; exact ⟨_, _, rfl, Nat.le_refl _⟩
    obtain ⟨a', c', rfl, hnc⟩ := hss
    split at h
    · rename_i hm
      rw [Nat.beq_eq] at hm
      subst hm
      cases h
      exact OpR.value hH (run_v _ _ _ (append_zero_run hu hi hnc w)) hs
    · rename_i hm
      rw [Nat.beq_eq] at hm
      split at h
      case isFalse => cases h
      rename_i hbd
      obtain ⟨hnm, hby, hsz, hzs⟩ := hbd
      cases hds : dsource i.size m (.slice b m d) H with
      | none => rw [hds] at h; cases h
      | some news =>
        rw [hds] at h
        simp only at h
        split at h
        case isFalse => cases h
        rename_i hnl
        obtain ⟨hnl, hone⟩ := hnl
        rw [Nat.beq_eq] at hnl
        obtain ⟨bd, n2, c2, bd', d2, news', e1, e2, hbA, hlen, hnr, hcell⟩ := dsource_sound hH hx hds
        cases e1
        cases e2
        have h1 : ∀ u ∈ news', u.oneCell' = true := LR.one hτ hnr hone
        have hz : ∃ z, i.zero = some z ∧ z.cells.size = i.size := by
          unfold zsize at hzs
          cases hzz : i.zero with
          | some z => rw [hzz] at hzs; exact ⟨z, rfl, hzs⟩
          | none => rw [hzz] at hzs; simp only at hzs; omega
        obtain ⟨z, hz, hzs'⟩ := hz
        have hb63 : n + m ≤ maxLen := by simp only [most] at hnm; simp only [maxLen]; omega
        have hbytes : (n + m) * i.bytes ≤ 140737488355328 := by
          have : (n + m) * i.bytes ≤ 1048576 * 4096 := Nat.mul_le_mul (by simpa [most] using hnm) hby
          omega
        cases a with
        | none =>
          obtain ⟨rfl, rfl, e3⟩ := hs.slice_none_inv
          cases e3
          simp only at h
          cases h
          have hown : w.ownsRow N e i.size (.slice none 0 0) 0 [] := ⟨by simp, .inl ⟨rfl, rfl⟩⟩
          obtain ⟨v', w1, hrun, hown', hgr, hnil, hat⟩ := run_append_own_at (P := P) w N xt ty e i z i.size i.bytes hu hi hz rfl rfl hzs' hsz _ 0 [] hown bd' m d' news' hlen hcell h1 (by simpa using hb63) (by simpa using hbytes) hH.size
          obtain ⟨hl1, hform⟩ := hown'
          rcases hform with ⟨e4, _⟩ | ⟨g, cap, cur, rfl, hNg, hcur, hncap, hcm, hcs, htake⟩
          · rw [hnil] at e4; omega
          · have hg : g = w.heap.size := by
              rcases hat with h | h
              · simp [Value.ownBlock] at h
              · simpa [Value.ownBlock] using h
            subst hg
            have hlt := (Array.getElem?_eq_some_iff.1 hcur).1
            have hpr : PR σ τ news cur.toList := by
              unfold PR
              have : cur.toList.take news.length = news' := by
                rw [hnl]; simpa using htake
              rw [this]; exact hnr
            obtain ⟨hH', hst⟩ := hH.alloc (B := .row news e) (S := cur.size) (es := P.cellsOf e) hgr.os hgr.tape hgr.output hlt (fun k hk => hgr.block k hk (by simp [Value.ownBlock]))
              (.row _ _ _ news e cur hH.size hcur rfl rfl (hpr.ext (hH.ext_new _)))
            rw [Nat.zero_add] at hrun hncap
            refine ⟨_, w1, _, _, run_v _ _ _ hrun, .inl rfl, .slice _ _ _ _ _ AR_new (Nat.le_refl _) hncap ⟨hcm, fun b S es hb => ?_⟩, hH', hst⟩
            intro _
            rw [upd_same] at hb
            cases hb
            rw [hcs, cellsOf_info hi, Nat.zero_add]
        | some ad =>
          simp only at h
          split at h
          case h_2 => cases h
          rename_i cs e' hsp hoff hg
          split at h
          case isFalse => cases h
          rename_i hc
          obtain ⟨he', hfit, hone1⟩ := hc
          rw [Nat.beq_eq] at he'
          subst he'
          cases h
          have hlt0 := hH.get_lt hg
          have hB := hH.blk _ _ hg
          obtain ⟨ad', c'', e4, hA, h5, h6, h7⟩ := hs.slice_inv
          cases e4
          generalize hσ : σ ad.block = loc at hB
          cases hB with
          | row bb S es _ _ cur g1 g2 g3 g4 g5 =>
            have hroom := h7.2 bb S es hσ (by rw [g4, cellsOf_info hi]; omega)
            unfold AR at hA
            rw [hσ] at hA
            obtain ⟨_, rfl⟩ := hA
            rw [hoff] at hroom hs ⊢
            have hcsz : cur.size = c' * i.size := by rw [g3, ← hroom, g4, cellsOf_info hi, Nat.zero_add]
            have hxl : (cur.toList.take (n * i.size)).length = n * i.size := by
              have := g5.len; simp at this ⊢; omega
            have hown : w.ownsRow N e i.size (.slice (some ⟨bb, 0, none⟩) n c') n (cur.toList.take (n * i.size)) :=
              ⟨hxl, .inr ⟨bb, c', cur, rfl, g1, g2, hnc, h7.1, hcsz, rfl⟩⟩
            obtain ⟨v', w1, hrun, hown', hgr, hnil, hat⟩ := run_append_own_at (P := P) w N xt ty e i z i.size i.bytes hu hi hz rfl rfl hzs' hsz _ n _ hown bd' m d' news' hlen hcell h1 hb63 hbytes hH.size
            obtain ⟨hl1, hform⟩ := hown'
            rcases hform with ⟨e4, _⟩ | ⟨g, cap, cur', rfl, hNg, hcur, hncap, hcm, hcs, htake⟩
            · have := hnil.1 e4; cases this.1
            · have hgb : g = bb ∨ g = w.heap.size := by simpa [Value.ownBlock] using hat
              have hlt := (Array.getElem?_eq_some_iff.1 hcur).1
              have hxr : LR σ τ (cs.take (n * i.size)) (cur.toList.take (n * i.size)) := by
                have := LR.take (n * i.size) g5
                rw [List.take_take, Nat.min_eq_left hfit] at this
                exact this
              have hpr : PR σ τ (cs.take (n * i.size) ++ news) cur'.toList := by
                unfold PR
                have : (cs.take (n * i.size) ++ news).length = (n + m) * i.size := by
                  rw [List.length_append, List.length_take, Nat.min_eq_left hfit, hnl, Nat.add_mul]
                rw [this, htake]
                exact LR.append hxr hnr
              obtain ⟨hH', hst⟩ := hH.grow hlt0 (by rw [hg]; simp) hσ g1 (row := some bb) (.inl rfl) hgr hlt hgb hcur hpr
              refine ⟨_, w1, _, _, run_v _ _ _ hrun, .inl rfl, .slice _ _ _ _ _ ?_ (Nat.le_refl _) hncap ⟨hcm, fun b S es hb => ?_⟩, hH', hst⟩
              · unfold AR; rw [upd_same]; exact ⟨rfl, rfl⟩
              · intro _
                rw [upd_same] at hb
                cases hb
                rw [hcs, cellsOf_info hi, Nat.zero_add]
end
end Go.Hb
