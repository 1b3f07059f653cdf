/- The machine's soundness: relations of endings, loops' records, the list of panics. -/
import Derived.Test.YtgcbbaeokigbdaaDoorHbSnd1
namespace Go.Hb
open Go Go.RowKit

def ChR (σ : Nat → Loc) (τ : Nat → Value) : List PanicEntry → List PanicEntry → Prop
  | [], [] => True
  | e :: l, e' :: l' => VR σ τ e.v e'.v ∧ e'.recovered = e.recovered ∧ e'.goexit = e.goexit ∧ ChR σ τ l l'
  | _, _ => False

def ExR (σ : Nat → Loc) (τ : Nat → Value) : Ex → Exit → Prop
  | .normal, .normal => True
  | .exit i, .exit j => i = j
  | .ret, .ret => True
  | .panic ch, .panic ch' => ChR σ τ ch ch'
  | _, _ => False

def EnR (σ : Nat → Loc) (τ : Nat → Value) : En → Ending → Prop
  | .ret v, .returned v' => VR σ τ v v'
  | .panic ch, .panicked ch' => ChR σ τ ch ch'
  | _, _ => False

def MdR (σ : Nat → Loc) (τ : Nat → Value) : Option (List PanicEntry) → FrameMode → Prop
  | none, .returning => True
  | some ch, .panicking ch' => ChR σ τ ch ch'
  | _, _ => False

structure SR (P : Program) (N : Nat) (w0 : World) (τ : Nat → Value) (σ : Nat → Loc) (st : St) (m : Nat) (a : Act) (w : World) : Prop where
  hH : HR P N w0 τ σ st.H w
  tm : TmR σ τ st.tm a.tmps
  ds : DsR σ τ st.ds a.defers
  sz : m ≤ a.tmps.size
  gr : GR P σ

def FRel (x : Ctx) (F : Fence) : Prop := (x.round = none ∧ F = Fence.wide) ∨ (x.round ≠ none ∧ ∃ l, F = Fence.wide.inRound l)

section
variable {P : Program} {N : Nat} {w0 : World} {τ : Nat → Value} {σ σ' : Nat → Loc} {H : Heap} {w w' : World}

theorem ChR.ext (he : Ext σ σ') : ∀ {l l' : List PanicEntry}, ChR σ τ l l' → ChR σ' τ l l'
  | [], [], _ => trivial
  | _ :: _, _ :: _, h => ⟨h.1.ext he, h.2.1, h.2.2.1, ChR.ext he h.2.2.2⟩
  | [], _ :: _, h => h.elim
  | _ :: _, [], h => h.elim

theorem MdR.ext (he : Ext σ σ') : ∀ {m : Option (List PanicEntry)} {u : FrameMode}, MdR σ τ m u → MdR σ' τ m u
  | none, .returning, _ => trivial
  | some _, .panicking _, h => ChR.ext he h
  | none, .run, h => h.elim
  | none, .panicking _, h => h.elim
  | some _, .run, h => h.elim
  | some _, .returning, h => h.elim

theorem MdR.ne_run {m : Option (List PanicEntry)} {u : FrameMode} (h : MdR σ τ m u) : u ≠ .run := by
  rintro rfl; cases m <;> exact h

theorem ChR.dropWhile : ∀ {l l' : List PanicEntry}, ChR σ τ l l' → ChR σ τ (l.dropWhile (!·.goexit)) (l'.dropWhile (!·.goexit))
  | [], [], _ => trivial
  | e :: l, e' :: l', h => by
    simp only [List.dropWhile_cons]
    rw [h.2.2.1]
    split
    · exact ChR.dropWhile h.2.2.2
    · exact h
  | [], _ :: _, h => h.elim
  | _ :: _, [], h => h.elim

theorem MdR.settle : ∀ {m : Option (List PanicEntry)} {u : FrameMode}, MdR σ τ m u → MdR σ τ (dsettle m) (settle u)
  | none, .returning, _ => trivial
  | some [], .panicking [], _ => trivial
  | some (⟨v, r, g⟩ :: l), .panicking (⟨v', r', g'⟩ :: l'), h => by
    have hr : r' = r := h.2.1
    subst hr
    cases r' with
    | false => exact h
    | true =>
      have hd := h.2.2.2.dropWhile
      unfold dsettle Go.settle
      simp only [if_true]
      revert hd
      generalize l.dropWhile (!·.goexit) = x
      generalize l'.dropWhile (!·.goexit) = y
      intro hd
      match x, y, hd with
      | [], [], _ => trivial
      | _ :: _, _ :: _, hd => exact hd
      | [], _ :: _, hd => exact hd.elim
      | _ :: _, [], hd => exact hd.elim
  | none, .run, h => h.elim
  | none, .panicking _, h => h.elim
  | some _, .run, h => h.elim
  | some _, .returning, h => h.elim
  | some [], .panicking (_ :: _), h => h.elim
  | some (_ :: _), .panicking [], h => h.elim

/-- what recover answers -/
theorem recov_sound {m : Option (List PanicEntry)} {c₀ : Frame} {cs : List Frame} (h : MdR σ τ m c₀.mode) :
    ∃ v' u', (match recoverD (c₀ :: cs) with | some (v, cs') => (v, cs') | none => (.nilIface, c₀ :: cs)) = (v', { c₀ with mode := u' } :: cs) ∧ VR σ τ (drecov m).1 v' ∧ MdR σ τ (drecov m).2 u' := by
  obtain ⟨f1, f2, f3, f4, mode, f6, f7⟩ := c₀
  simp only at h
  match m, mode, h with
  | none, .returning, _ => exact ⟨.nilIface, .returning, rfl, .flat _ rfl, trivial⟩
  | some [], .panicking [], _ => exact ⟨.nilIface, .panicking [], rfl, .flat _ rfl, trivial⟩
  | some (⟨v, r, g⟩ :: l), .panicking (⟨v', r', g'⟩ :: l'), h =>
    have hr : r' = r := h.2.1
    have hg : g' = g := h.2.2.1
    subst hr hg
    cases r' with
    | true => exact ⟨.nilIface, .panicking (⟨v', true, g'⟩ :: l'), rfl, .flat _ rfl, h⟩
    | false =>
      cases g' with
      | true => exact ⟨.nilIface, .panicking (⟨v', false, true⟩ :: l'), rfl, .flat _ rfl, h⟩
      | false => exact ⟨v', .panicking (⟨v', true, false⟩ :: l'), rfl, h.1, ⟨h.1, rfl, rfl, h.2.2.2⟩⟩

/-! ## A loop's record -/
theorem HR.loopAt (hH : HR P N w0 τ σ H w) {l : Nat} {s : LoopState} {pend : Option Code} {fn : FuncId} {tm : Tr Value} {ps : List Tmp} {as bo : Code} {k : Nat} (hg : H.get l = some (.loop s pend fn tm ps as bo k)) :
    ∃ b S es m L, σ l = .live b S es ∧ N ≤ b ∧ w.heap[b]? = some (.loop L) ∧ L.state = s ∧ L.pending = pend ∧ L.params.toList = ps ∧ L.assign = as ∧ L.body = bo ∧ TmR σ τ tm L.tmps ∧ m ≤ L.tmps.size ∧
      okCode P.globals.size m as = true ∧ okCode P.globals.size m bo = true ∧ (∀ t ∈ ps, t < m) ∧ (pend = none ∨ pend = some .ret ∨ ∃ id, pend = some (.exit id)) := by
  have hB := hH.blk l _ hg
  generalize hσ : σ l = loc at hB
  cases hB with
  | loop b S es _ _ _ _ _ _ _ _ m L h1 h2 h3 h4 h5 h6 h7 h8 h9 h10 h11 h12 h13 => exact ⟨b, S, es, m, L, rfl, h1, h2, h3, h4, h5, h6, h7, h8, h9, h10, h11, h12, h13⟩

theorem BR.at' {l l' b S es : Nat} (h : BR σ l l') (hl : σ l = .live b S es) : l' = b := by
  unfold BR at h; rw [hl] at h; exact h

theorem run_getLoop {b : Nat} {L : Loop} (h : w.heap[b]? = some (.loop L)) : (Instr.getLoop b).run P w = .ok L w := by
  have hg : (getObj b).run P w = .ok (.loop L) w := by simp [getObj, Sem.run, h]
  simp [Instr.getLoop, Sem.run_bind, hg]

theorem run_setLoop {b : Nat} {o : Obj} {L : Loop} (h : w.heap[b]? = some (.loop L)) : (setObj b o).run P w = .ok () { w with heap := w.heap.setIfInBounds b o } := by
  simp [setObj, Sem.run, h]
theorem run_setDfr {b : Nat} {o : Obj} {l : Option (List Deferred)} (h : w.heap[b]? = some (.deferred l)) : (setObj b o).run P w = .ok () { w with heap := w.heap.setIfInBounds b o } := by
  simp [setObj, Sem.run, h]

/-- a loop's record changes its state -/
theorem HR.setLoop (hH : HR P N w0 τ σ H w) {l : Nat} {s s' : LoopState} {pend pend' : Option Code} {fn : FuncId} {tm : Tr Value} {ps : List Tmp} {as bo : Code} {k b S es m : Nat} {L : Loop} (hg : H.get l = some (.loop s pend fn tm ps as bo k))
    (hσ : σ l = .live b S es) (hN : N ≤ b) (hb : w.heap[b]? = some (.loop L)) (h5 : L.params.toList = ps) (h6 : L.assign = as) (h7 : L.body = bo) (h8 : TmR σ τ tm L.tmps) (h9 : m ≤ L.tmps.size)
    (h10 : okCode P.globals.size m as = true) (h11 : okCode P.globals.size m bo = true) (h12 : ∀ t ∈ ps, t < m) (h13 : pend' = none ∨ pend' = some .ret ∨ ∃ id, pend' = some (.exit id)) :
    HR P N w0 τ σ (H.put l (some (.loop s' pend' fn tm ps as bo k))) { w with heap := w.heap.setIfInBounds b (.loop { L with state := s', pending := pend' }) } ∧
    Step σ H w σ (H.put l (some (.loop s' pend' fn tm ps as bo k))) { w with heap := w.heap.setIfInBounds b (.loop { L with state := s', pending := pend' }) } := by
  have hbl := (Array.getElem?_eq_some_iff.1 hb).1
  exact hH.write (by rw [hg]; simp) hσ hN rfl rfl rfl (by simp) (fun j hj => set_at _ hj)
    (.loop b S es s' pend' fn tm ps as bo k m { L with state := s', pending := pend' } hN (set_same _ hbl) rfl rfl h5 h6 h7 h8 h9 h10 h11 h12 h13)

/-- yield's temporaries -/
theorem zip_rel {m : Nat} : ∀ {ps : List Tmp} {args args' : List Value} {tm : Tr Value} {a : Array Value}, LR σ τ args args' → TmR σ τ tm a → m ≤ a.size → (∀ t ∈ ps, t < m) →
    TmR σ τ ((ps.zip args).foldl (fun t p => t.put p.1 (some p.2)) tm) ((ps.zip args').foldl (fun tmps p => tmps.setIfInBounds p.1 p.2) a) ∧ ((ps.zip args').foldl (fun tmps p => tmps.setIfInBounds p.1 p.2) a).size = a.size
  | [], args, args', tm, a, _, ht, _, _ => by simpa using ht
  | p :: ps, [], args', tm, a, hl, ht, _, _ => by rw [hl.nil_inv]; simpa using ht
  | p :: ps, v :: args, args', tm, a, hl, ht, hm, hp => by
    obtain ⟨v', r', rfl, hv, hr⟩ := hl.cons_inv
    simp only [List.zip_cons_cons, List.foldl_cons]
    have hlt : p < a.size := Nat.lt_of_lt_of_le (hp p (by simp)) hm
    have h1 : TmR σ τ (tm.put p (some v)) (a.setIfInBounds p v') := fun t u hu => by
      rw [Tr.get_put] at hu
      rw [Array.getD_eq_getD_getElem?, Array.getElem?_setIfInBounds]
      by_cases h : t = p
      · rw [if_pos h] at hu; cases hu
        rw [if_pos h.symm, if_pos hlt]; exact hv
      · rw [if_neg h] at hu
        rw [if_neg (fun e => h e.symm)]
        have := ht t u hu
        rw [Array.getD_eq_getD_getElem?] at this; exact this
    obtain ⟨k1, k2⟩ := zip_rel hr h1 (by simpa using hm) (fun t ht => hp t (List.mem_cons_of_mem _ ht))
    exact ⟨k1, by rw [k2]; simp⟩
end
end Go.Hb
