/- Operations that make a block and look at none; operations that look at no block. -/
import Derived.Test.YtgcbbaeokigbdaaDoorHbOps7
namespace Go.Hb
open Go Go.RowKit

section
variable {P : Program} {N : Nat} {w0 : World} {τ : Nat → Value} {σ : Nat → Loc} {H : Heap} {w w' : World} {ρ ρ' : Operand → Value} {o : Oper}

def AllocR (P : Program) (N : Nat) (τ : Nat → Value) (σ : Nat → Loc) (w : World) (s : Sem Next) (B : Blk) (mk : Nat → Value) : Prop :=
  ∃ v' ob S es, s.run P w = .ok (.value v') (w.alloc ob) ∧
    ∀ σ1 i, Ext σ σ1 → σ1 i = .live w.heap.size S es → VR σ1 τ (mk i) v' ∧ BlkR P N σ1 τ (w.alloc ob) (.live w.heap.size S es) B

theorem AllocR.ofRow (hN : N ≤ w.heap.size) {s : Sem Next} {cs : List Value} {cs' : Array Value} {e : TypeId} {mk : Nat → Value} {v' : Value} (hr : LR σ τ cs cs'.toList)
    (hs : (newRow e cs').run P w = .ok ⟨w.heap.size, 0, none⟩ (w.alloc (.cells cs' e)) → s.run P w = .ok (.value v') (w.alloc (.cells cs' e)))
    (hv : ∀ σ1 i, σ1 i = .live w.heap.size cs'.size (P.cellsOf e) → VR σ1 τ (mk i) v') : AllocR P N τ σ w s (.row cs e) mk := by
  refine ⟨v', .cells cs' e, cs'.size, P.cellsOf e, hs (by simp [newRow, Sem.run_bind]), fun σ1 i he hi => ⟨hv σ1 i hi, ?_⟩⟩
  refine .row _ _ _ cs e cs' hN (by show (w.heap.push _)[w.heap.size]? = _; simp) rfl rfl ?_
  have : cs'.toList.take cs.length = cs'.toList := by rw [List.take_of_length_le]; rw [hr.1]; exact Nat.le_refl _
  unfold PR
  rw [this]
  exact hr.ext he

theorem AR_at {σ1 : Nat → Loc} {i b S es : Nat} (h : σ1 i = .live b S es) : AR σ1 ⟨i, 0, none⟩ ⟨b, 0, none⟩ := by
  unfold AR; rw [h]; exact ⟨rfl, rfl⟩

theorem AllocR.ofPtr (hN : N ≤ w.heap.size) {s : Sem Next} {cs : List Value} {cs' : Array Value} {e : TypeId} (hr : LR σ τ cs cs'.toList)
    (hs : (newRow e cs').run P w = .ok ⟨w.heap.size, 0, none⟩ (w.alloc (.cells cs' e)) → s.run P w = .ok (.value (.pointer (some ⟨w.heap.size, 0, none⟩))) (w.alloc (.cells cs' e))) :
    AllocR P N τ σ w s (.row cs e) (fun i => .pointer (some ⟨i, 0, none⟩)) :=
  AllocR.ofRow hN hr hs fun _ _ h => .ptr _ _ (AR_at h)

theorem AllocR.ofSlice (hN : N ≤ w.heap.size) {s : Sem Next} {cs : List Value} {cs' : Array Value} {e : TypeId} {n c : Nat} (hr : LR σ τ cs cs'.toList) (hn : n ≤ c) (hc : c ≤ maxLen) (hz : cs'.size = c * P.cellsOf e)
    (hs : s.run P w = .ok (.value (.slice (some ⟨w.heap.size, 0, none⟩) n c)) (w.alloc (.cells cs' e))) :
    AllocR P N τ σ w s (.row cs e) (fun i => .slice (some ⟨i, 0, none⟩) n c) :=
  AllocR.ofRow hN hr (fun _ => hs) fun σ1 i h => .slice _ _ _ _ _ (AR_at h) hn (Nat.le_refl _) ⟨hc, fun b S es hb _ => by
    have := h.symm.trans hb
    injection this with e1 e2 e3
    subst e1 e2 e3
    rw [hz, Nat.zero_add]⟩

theorem get_new0 (B : Option Blk) : (Heap.new ⟨0, .nil⟩ B).get 0 = B := by rw [Heap.get_new]; simp

/-- what dalloc has seen -/
theorem dalloc_inv {B : Blk} {mk : Nat → Value} (h : dalloc P o ρ = some (B, mk)) :
    ∃ v H', dop P o ρ ⟨0, .nil⟩ = some (.val v H') ∧ H'.get 0 = some B ∧
      ((v = .pointer (some ⟨0, 0, none⟩) ∧ mk = fun i => .pointer (some ⟨i, 0, none⟩)) ∨ (∃ n c, v = .slice (some ⟨0, 0, none⟩) n c ∧ mk = fun i => .slice (some ⟨i, 0, none⟩) n c) ∨ (v = .map (some 0) ∧ mk = fun i => .map (some i))) := by
  unfold dalloc at h
  split at h
  case h_2 => cases h
  rename_i v H' hd
  refine ⟨v, H', hd, ?_⟩
  split at h
  · rename_i hg; cases h; exact ⟨hg, .inl ⟨rfl, rfl⟩⟩
  · rename_i hg; cases h; exact ⟨hg, .inr (.inl ⟨_, _, rfl, rfl⟩)⟩
  · rename_i hg; cases h; exact ⟨hg, .inr (.inr ⟨rfl, rfl⟩)⟩
  · cases h

theorem row_new0 {B : Blk} {X : Option Blk} (hg : (Heap.new ⟨0, .nil⟩ X).get 0 = some B) : X = some B := by rw [get_new0] at hg; exact hg

set_option maxHeartbeats 1000000 in
theorem dalloc_sound (hN : N ≤ w.heap.size) (hτ : ∀ j, (τ j).oneCell' = true) (hρ : ∀ x ∈ o.op.operands.toList, VR σ τ (ρ x) (ρ' x)) {B : Blk} {mk : Nat → Value} (hal : isAlloc o = true) (h : dalloc P o ρ = some (B, mk)) :
    AllocR P N τ σ w (execOp ρ' o) B mk := by
  obtain ⟨v, H0, h, hg, hmk⟩ := dalloc_inv h
  obtain ⟨dst, op, type, pos, after, guard⟩ := o
  cases op with
  | alloc e =>
    simp only [dop] at h
    split at h
    case h_2 => cases h
    rename_i z hz
    split at h
    case isFalse => cases h
    rename_i hc
    simp only [Bool.and_eq_true] at hc
    cases h
    cases row_new0 hg
    rcases hmk with ⟨_, rfl⟩ | ⟨n, c, hv, rfl⟩ | ⟨hv, rfl⟩
    · refine AllocR.ofPtr hN (cs' := z.cells) (flat_cells hc.1) fun hrun => ?_
      have hz' := pureRun_run _ hz w
      show Sem.run P (do pure (Next.value (← Instr.alloc e true (.tuple #[])))) w = _
      simp [Instr.alloc, Sem.run_bind, hz', newVar, hrun]
    · cases hv
    · cases hv
  | box e x =>
    simp only [dop] at h
    split at h
    case isFalse => cases h
    rename_i hc
    cases h
    cases row_new0 hg
    rcases hmk with ⟨_, rfl⟩ | ⟨n, c, hv, rfl⟩ | ⟨hv, rfl⟩
    · refine AllocR.ofPtr hN (cs' := (ρ' x).cells) ((hρ x (by simp [Op.operands])).cells hτ hc) fun hrun => ?_
      show Sem.run P (do pure (Next.value (← Instr.box e (ρ' x)))) w = _
      simp [Instr.box, Sem.run_bind, newVar, hrun]
    · cases hv
    · cases hv
  | buildSlice t len parts =>
    simp only [dop] at h
    split at h
    case h_2 => cases h
    rename_i e hu
    split at h
    case h_2 => cases h
    rename_i i hi
    split at h
    case h_2 => cases h
    rename_i z hz
    by_cases hc : len ≤ most ∧ len * i.size ≤ most ∧ flat z = true ∧ z.cells.size = i.size ∧ z.cells.toList.all one = true ∧ parts.toList.all (fun p => (ρ p.2).cells.toList.all one) = true
    case neg => rw [if_neg hc] at h; cases h
    rw [if_pos hc] at h
    obtain ⟨hlen, hmost, hzf, hzs, hz1, hp1⟩ := hc
    split at h
    case h_2 => cases h
    rename_i cells hfl
    cases h
    cases row_new0 hg
    obtain ⟨n', c', hv, rfl⟩ : ∃ n c, Value.slice (some ⟨0, 0, none⟩) len len = .slice (some ⟨0, 0, none⟩) n c ∧ mk = fun i => .slice (some ⟨i, 0, none⟩) n c := by
      rcases hmk with ⟨hv, _⟩ | hh | ⟨hv, _⟩
      · cases hv
      · exact hh
      · cases hv
    cases hv
    have hp : PtR σ τ (parts.toList.map fun p => (p.1, ρ p.2)) (parts.toList.map fun p => (p.1, ρ' p.2)) :=
      ptR_map parts.toList (fun p hp => hρ p.2 (by simp only [Op.operands]; exact List.mem_map.2 ⟨p, hp, rfl⟩)) hp1
    have hbase : RA σ τ ((Array.range (len * i.size)).map (z.cells[· % z.cells.size]!)) ((Array.range (len * i.size)).map (z.cells[· % z.cells.size]!)) := by
      unfold RA
      have : ((Array.range (len * i.size)).map (z.cells[· % z.cells.size]!)).toList = (List.range (len * i.size)).map (z.cells[· % z.cells.size]!) := madeCells_list z.cells _
      rw [this]
      exact LR.flat (made_flat hzf _)
    obtain ⟨r', hr', hrr⟩ := fill_rel hτ _ _ _ _ _ cells hp hbase hfl
    have hsz : r'.size = len * i.size := by
      have h1 : ∀ (place : Nat → Option (Nat × Nat)) (l : List (Nat × Value)) (cs r : Array Value), Instr.fill place cs l = some r → r.size = cs.size := by
        intro place l
        induction l with
        | nil => intro cs r h; simp only [Instr.fill, Option.some.injEq] at h; rw [h]
        | cons p l ih =>
          intro cs r h
          obtain ⟨k, v⟩ := p
          simp only [Instr.fill] at h
          split at h
          · cases h
          · split at h
            · cases h
            · rw [ih _ _ h]
              have : ∀ (ll : List (Value × Nat)) (off : Nat) (acc : Array Value), (ll.foldl (fun cs (c, j) => cs.setIfInBounds (off + j) c) acc).size = acc.size := by
                intro ll
                induction ll with
                | nil => intro off acc; rfl
                | cons q ll ih2 => intro off acc; simp only [List.foldl_cons]; rw [ih2]; simp
              rw [← Array.foldl_toList, this]
      rw [h1 _ _ _ _ hr']
      simp
    have hcl := cellsOf_info hi
    refine AllocR.ofSlice hN (cs' := r') hrr (Nat.le_refl _) ?_ (by rw [hsz, hcl]) ?_
    · simp only [most] at hlen; simp only [maxLen]; omega
    · have hpl : (parts.map fun (i, x) => (i, ρ' x)).toList = parts.toList.map fun p => (p.1, ρ' p.2) := by rw [Array.toList_map]
      have hnr : ∀ (cs : Array Value), (newRow e cs).run P w = .ok ⟨w.heap.size, 0, none⟩ (w.alloc (.cells cs e)) := fun cs => by simp [newRow, Sem.run_bind]
      apply run_v
      unfold Instr.buildSlice
      simp only [most] at hmost
      have hgt : ¬ (len * i.size > 2 ^ 24) := by omega
      by_cases h0 : len * i.size = 0
      · have hr0 : Instr.fill (fun k => some (k * i.size, i.size)) ((Array.range (len * i.size)).map ((#[] : Array Value)[· % (#[] : Array Value).size]!)) (parts.toList.map fun p => (p.1, ρ' p.2)) = some r' := by
          rw [← hr', h0]
          simp [Array.range_zero']
        simp only [Sem.run_bind, run_underlying hu, Result.andThen_ok, run_sizeOf hi, hcl, h0, gt_iff_lt, Nat.not_lt_zero, if_false, if_true, Sem.run_pure, hpl]
        rw [h0] at hr0
        rw [hr0]
        simp only [Sem.run_bind, hnr, Result.andThen_ok, Sem.run_pure]
      · simp only [Sem.run_bind, run_underlying hu, Result.andThen_ok, run_sizeOf hi, hcl, hgt, if_false, h0, Sem.run_pure, hpl, zeroValue, typeInfo, run_program, hi, hz]
        rw [hr']
        simp only [Sem.run_bind, hnr, Result.andThen_ok, Sem.run_pure]
  | makeMap t r =>
    cases r with
    | some r => simp only [dop] at h; cases h
    | none =>
      simp only [dop] at h
      cases h
      cases row_new0 hg
      rcases hmk with ⟨hv, rfl⟩ | ⟨n, c, hv, rfl⟩ | ⟨hv, rfl⟩
      · cases hv
      · cases hv
      refine ⟨.map (some w.heap.size), .map #[] 0, 0, 0, rfl, fun σ1 i he hi => ⟨.map _ _ ?_, .map _ _ _ [] 0 #[] hN (by show (w.heap.push _)[w.heap.size]? = _; simp) ⟨rfl, fun i e e' a b => by simp at a⟩⟩⟩
      unfold BR; rw [hi]
  | makeSlice t l c =>
    have hl := hρ l (by simp [Op.operands])
    have hc := hρ c (by simp [Op.operands])
    simp only [dop] at h
    split at h
    case h_2 => cases h
    rename_i e hu
    split at h
    case h_2 => cases h
    rename_i i cap hi hcap
    split at h
    case h_2 => cases h
    rename_i z len hz hlen
    split at h
    case isFalse => cases h
    rename_i hq
    obtain ⟨hzf, hzs, hby, hz1⟩ := hq
    cases h
    cases row_new0 hg
    obtain ⟨n', c', hv, rfl⟩ : ∃ n c, Value.slice (some ⟨0, 0, none⟩) len cap = .slice (some ⟨0, 0, none⟩) n c ∧ mk = fun i => .slice (some ⟨i, 0, none⟩) n c := by
      rcases hmk with ⟨hv, _⟩ | hh | ⟨hv, _⟩
      · cases hv
      · exact hh
      · cases hv
    cases hv
    obtain ⟨kc, ci, hcv, c0, c1, rfl⟩ := intBetween_inv hcap
    obtain ⟨kl, li, hlv, l0, l1, rfl⟩ := intBetween_inv hlen
    rw [hcv] at hc; rw [hlv] at hl
    have ec := hc.flat_eq rfl
    have el := hl.flat_eq rfl
    have hm : (most : Int) = 1048576 := rfl
    have hbytes : (i.bytes : Int) * ci ≤ 281474976710656 := by
      have h1 : (i.bytes : Int) * ci ≤ 4096 * 1048576 := Int.mul_le_mul (by omega) (by omega) c0 (by omega)
      omega
    have hrun := run_make (P := P) w t e i z hu hi hz kl kc li ci l0 (by omega) hbytes (by omega)
    have hcl := cellsOf_info hi
    refine AllocR.ofSlice hN (cs' := madeCells z.cells (ci.toNat * i.size)) ?_ (by omega) (by simp only [maxLen]; omega) (by rw [size_madeCells, hcl]) ?_
    · rw [madeCells_list]
      exact LR.flat (made_flat hzf _)
    · show Sem.run P (do pure (Next.value (← Instr.makeSlice t (ρ' l) (ρ' c)))) w = _
      rw [el, ec]
      exact run_v _ _ _ hrun
  | range t x =>
    have hx := hρ x (by simp [Op.operands])
    simp only [dop] at h
    split at h
    case h_2 => cases h
    rename_i s hu hv
    cases h
    rw [hv] at hx
    have e1 := hx.flat_eq rfl
    cases row_new0 hg
    rcases hmk with ⟨_, rfl⟩ | ⟨n, c, hv, rfl⟩ | ⟨hv, rfl⟩
    · refine ⟨.pointer (some ⟨w.heap.size, 0, none⟩), .stringIter s 0, 0, 0, ?_, fun σ1 i he hi => ⟨.ptr _ _ (AR_at hi), .siter _ _ _ s 0 hN (by show (w.heap.push _)[w.heap.size]? = _; simp)⟩⟩
      simp [execOp, e1, Instr.range, Sem.run_bind, run_underlying hu]
    · cases hv
    · cases hv
  | _ => cases hal

/-- what looks at no block -/
def isPure (o : Oper) : Bool := !isEff o && !isRead o && !isAlloc o

theorem dflat_pure {v : Value} {H' : Heap} (h : dflat P o ρ H = some (.val v H')) : H' = H ∧ ∀ H2, dflat P o ρ H2 = some (.val v H2) := by
  unfold dflat at *
  split at h
  · rename_i u hf hp
    split at h
    · rename_i hu
      cases h
      exact ⟨rfl, fun H2 => by simp [hu]⟩
    · cases h
  · cases h

theorem map_pure {x : Option Value} {v : Value} {H' : Heap} (h : x.map (Dr.val · H) = some (.val v H')) : H' = H ∧ ∀ H2, x.map (Dr.val · H2) = some (.val v H2) := by
  cases x with
  | none => cases h
  | some u => cases h; exact ⟨rfl, fun _ => rfl⟩

set_option maxHeartbeats 1000000 in
theorem dop_pure (hp : isPure o = true) {v : Value} {H' : Heap} (h : dop P o ρ H = some (.val v H')) : H' = H ∧ ∀ H2, dop P o ρ H2 = some (.val v H2) := by
  obtain ⟨dst, op, type, pos, after, guard⟩ := o
  cases op with
  | call c =>
    obtain ⟨callee, args, ats⟩ := c
    cases callee with
    | builtin b =>
      cases b <;> first | (simp [isPure, isEff, isRead, isAlloc] at hp; done) | exact dflat_pure h
    | _ => simp [isPure, isEff] at hp
  | fieldAddr s x f =>
    simp only [dop] at h ⊢
    split at h
    · rename_i fs a h1 h2
      split at h
      · rename_i fd hfd
        split at h
        · rename_i hc; cases h; refine ⟨rfl, fun H2 => ?_⟩; simp [h1, h2, hfd, hc]
        · cases h
      · cases h
    · cases h
  | field t x f =>
    simp only [dop] at h ⊢
    split at h
    · rename_i fs cs h1 h2
      split at h
      · rename_i fd hfd
        have := map_pure h
        refine ⟨this.1, fun H2 => ?_⟩
        exact this.2 H2
      · cases h
    · cases h
  | indexAddr t x ix =>
    simp only [dop] at h ⊢
    split at h
    · rename_i e a n c h1 h2
      split at h
      · rename_i i q1 q2 q3 q4; cases h; refine ⟨rfl, fun H2 => ?_⟩; simp [h1, h2, q1, q2, q3, q4]
      · cases h
    · rename_i n e a h1 h2
      split at h
      · rename_i i q1 q2 q3 q4; cases h; refine ⟨rfl, fun H2 => ?_⟩; simp [h1, h2, q1, q2, q3, q4]
      · cases h
    · cases h
  | index t x ix =>
    simp only [dop] at h ⊢
    split at h
    · rename_i n e cs h1 h2
      split at h
      · rename_i i q1 q2
        have := map_pure h
        refine ⟨this.1, fun H2 => ?_⟩
        exact this.2 H2
      · cases h
    · exact dflat_pure h
  | typeAssert x xt at_ ok =>
    simp only [dop] at h ⊢
    split at h
    · exact map_pure h
    · exact dflat_pure h
  | extract t ix =>
    simp only [dop] at h ⊢
    split at h
    · exact map_pure h
    · cases h
  | binOp op t x y yt =>
    simp only [dop] at h ⊢
    split at h
    · cases h; exact ⟨rfl, fun _ => rfl⟩
    · exact dflat_pure h
  | unOp op t x => exact dflat_pure h
  | makeInterface t x =>
    simp only [dop] at h ⊢
    split at h
    · cases h
    · cases h; exact ⟨rfl, fun _ => rfl⟩
    · cases h
  | makeFunc fn first captured =>
    simp only [dop] at h ⊢
    split at h
    · cases h; exact ⟨rfl, fun _ => rfl⟩
    · cases h
  | nilCheck x =>
    simp only [dop] at h ⊢
    split at h
    · cases h; exact ⟨rfl, fun _ => rfl⟩
    · cases h; exact ⟨rfl, fun _ => rfl⟩
    · cases h
  | build t parts =>
    simp only [dop] at h ⊢
    split at h
    · rename_i hc
      split at h
      · rename_i u hu; cases h; exact ⟨rfl, fun _ => if_pos hc⟩
      · cases h
    · cases h
  | pick c a b =>
    simp only [dop] at h ⊢
    split at h
    · cases h; exact ⟨rfl, fun _ => rfl⟩
    · cases h; exact ⟨rfl, fun _ => rfl⟩
    · cases h
  | move x => simp only [dop] at h ⊢; cases h; exact ⟨rfl, fun _ => rfl⟩
  | assign x => simp only [dop] at h ⊢; cases h; exact ⟨rfl, fun _ => rfl⟩
  | alloc _ | box _ _ | buildSlice _ _ _ | makeSlice _ _ _ | makeMap _ _ | range _ _ => simp [isPure, isAlloc] at hp
  | load _ _ | lookup _ _ _ _ | convert _ _ _ | slice _ _ _ _ _ => simp [isPure, isRead] at hp
  | store _ _ _ | mapUpdate _ _ _ _ | insert _ _ _ _ | defer _ | panic _ => simp [isPure, isEff] at hp
  | next it str => simp [isPure, isEff] at hp
  | _ => simp only [dop] at h; cases h

/-- a read that has left the count of blocks has left the heap -/
theorem dop_read (hr : isRead o = true) {v : Value} {H' : Heap} (h : dop P o ρ H = some (.val v H')) (hn : H'.next = H.next) : H' = H := by
  obtain ⟨dst, op, type, pos, after, guard⟩ := o
  cases op with
  | load t a =>
    simp only [dop] at h
    split at h
    · exact (map_pure h).1
    · cases h
  | lookup t m k ok =>
    simp only [dop] at h
    unfold dlookup at h
    simp only at h
    split at h
    · split at h
      · split at h
        · split at h
          · split at h
            · cases h; rfl
            · cases h
          · cases h
        · cases h
      · split at h
        · split at h
          · split at h
            · split at h
              · cases h; rfl
              · cases h
            · cases h
          · split at h
            · cases h; rfl
            · cases h
          · cases h
        · cases h
      · cases h
    · cases h
  | convert s d x =>
    simp only [dop] at h
    split at h
    · split at h
      · exact (map_pure h).1
      · cases h
    · cases h
    · exact (dflat_pure h).1
  | slice t x lo hi mx =>
    simp only [dop] at h
    split at h
    · exact (dflat_pure h).1
    · unfold dslice at h
      split at h
      · split at h
        · split at h
          · split at h
            · cases h; rfl
            · split at h
              · cases h; simp [Heap.new] at hn
              · split at h
                · split at h
                  · split at h
                    · cases h; rfl
                    · cases h
                  · split at h
                    · cases h; rfl
                    · cases h
                  · cases h
                · cases h
          · cases h
        · cases h
      · cases h
  | call c =>
    obtain ⟨callee, args, ats⟩ := c
    cases callee with
    | builtin b =>
      cases b <;> first | (simp [isRead] at hr; done) | skip
      rcases args with ⟨_ | ⟨x, _ | ⟨y, l⟩⟩⟩
      · simp only [dop] at h; cases h
      · simp only [dop] at h
        split at h
        · split at h
          · cases h; rfl
          · cases h
        · split at h
          · cases h; rfl
          · cases h
        · exact (dflat_pure h).1
      · simp only [dop] at h; cases h
    | _ => simp [isRead] at hr
  | _ => simp [isRead] at hr
end
end Go.Hb
