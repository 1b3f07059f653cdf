import Derived.Test.YtlmjnikipfbenaaGreatDoorM1
import Derived.OrdersIn
import Derived.RecoverIn
import Derived.RangeFuncLeaves
import Derived.LoopNIn
import Derived.Laws.IdiomRangeMap
/- Lemmas on the program's own code, towards the laws of this folder, part 2. Conditions: as each lemma says. -/
-- Alloc
section
namespace Go.Hb
open Go Go.RowKit
section
variable {P : Program} {N : Nat} {w0 : World} {τ : Nat → Value} {σ : Nat → Loc} {H : Heap} {w w' : World} {ρ ρ' : Operand → Value} {o : Oper}
def AllocR (P : Program) (N : Nat) (τ : Nat → Value) (σ : Nat → Loc) (w : World) (s : Sem Next) (B : Blk) (mk : Nat → Value) : Prop :=
  ∃ v' ob S es, s.run P w = .ok (.value v') (w.alloc ob) ∧
    ∀ σ1 i, Ext σ σ1 → σ1 i = .live w.heap.size S es → VR σ1 τ (mk i) v' ∧ BlkR P N σ1 τ (w.alloc ob) (.live w.heap.size S es) B
theorem AllocR.ofRow (hN : N ≤ w.heap.size) {s : Sem Next} {cs : List Value} {cs' : Array Value} {e : TypeId} {mk : Nat → Value} {v' : Value} (hr : LR σ τ cs cs'.toList)
    (hs : (newRow e cs').run P w = .ok ⟨w.heap.size, 0, none⟩ (w.alloc (.cells cs' e)) → s.run P w = .ok (.value v') (w.alloc (.cells cs' e)))
    (hv : ∀ σ1 i, σ1 i = .live w.heap.size cs'.size (P.cellsOf e) → VR σ1 τ (mk i) v') : AllocR P N τ σ w s (.row cs e) mk := by
  refine ⟨v', .cells cs' e, cs'.size, P.cellsOf e, hs (by simp [newRow, Sem.run_bind]), fun σ1 i he hi => ⟨hv σ1 i hi, ?_⟩⟩
  refine .row _ _ _ cs e cs' hN (by show (w.heap.push _)[w.heap.size]? = _; simp) rfl rfl ?_
  have : cs'.toList.take cs.length = cs'.toList := by rw [List.take_of_length_le]; rw [hr.1]; exact Nat.le_refl _
  unfold PR
  rw [this]
  exact hr.ext he
theorem AR_at {σ1 : Nat → Loc} {i b S es : Nat} (h : σ1 i = .live b S es) : AR σ1 ⟨i, 0, none⟩ ⟨b, 0, none⟩ := by
  unfold AR; simp only [h]; exact ⟨trivial, trivial⟩
theorem AllocR.ofPtr (hN : N ≤ w.heap.size) {s : Sem Next} {cs : List Value} {cs' : Array Value} {e : TypeId} (hr : LR σ τ cs cs'.toList)
    (hs : (newRow e cs').run P w = .ok ⟨w.heap.size, 0, none⟩ (w.alloc (.cells cs' e)) → s.run P w = .ok (.value (.pointer (some ⟨w.heap.size, 0, none⟩))) (w.alloc (.cells cs' e))) :
    AllocR P N τ σ w s (.row cs e) (fun i => .pointer (some ⟨i, 0, none⟩)) :=
  AllocR.ofRow hN hr hs fun _ _ h => .ptr _ _ (AR_at h)
theorem AllocR.ofSlice (hN : N ≤ w.heap.size) {s : Sem Next} {cs : List Value} {cs' : Array Value} {e : TypeId} {n c : Nat} (hr : LR σ τ cs cs'.toList) (hn : n ≤ c) (hc : c ≤ maxLen) (hz : cs'.size = c * P.cellsOf e)
    (hs : s.run P w = .ok (.value (.slice (some ⟨w.heap.size, 0, none⟩) n c)) (w.alloc (.cells cs' e))) :
    AllocR P N τ σ w s (.row cs e) (fun i => .slice (some ⟨i, 0, none⟩) n c) :=
  AllocR.ofRow hN hr (fun _ => hs) fun σ1 i h => .slice _ _ _ _ _ (AR_at h) hn (Nat.le_refl _) ⟨hc, fun _ b S es hb _ => by
    have := h.symm.trans hb
    injection this with e1 e2 e3
    subst e1 e2 e3
    rw [hz, Nat.zero_add]⟩
theorem get_new0 (B : Option Blk) : (Heap.new ⟨0, .nil⟩ B).get 0 = B := by rw [Heap.get_new]; simp
theorem dalloc_inv {B : Blk} {mk : Nat → Value} (h : dalloc P o ρ = some (B, mk)) :
    ∃ v H', dop P o ρ ⟨0, .nil⟩ = some (.val v H') ∧ H'.get 0 = some B ∧
      ((v = .pointer (some ⟨0, 0, none⟩) ∧ mk = fun i => .pointer (some ⟨i, 0, none⟩)) ∨ (∃ n c, v = .slice (some ⟨0, 0, none⟩) n c ∧ mk = fun i => .slice (some ⟨i, 0, none⟩) n c) ∨ (v = .map (some 0) ∧ mk = fun i => .map (some i))) := by
  unfold dalloc at h
  split at h
  case h_2 => cases h
  rename_i v H' hd
  refine ⟨v, H', hd, ?_⟩
  split at h
  · rename_i hg; cases h; exact ⟨hg, .inl ⟨rfl, rfl⟩⟩
  · rename_i hg; cases h; exact ⟨hg, .inr (.inl ⟨_, _, rfl, rfl⟩)⟩
  · rename_i hg; cases h; exact ⟨hg, .inr (.inr ⟨rfl, rfl⟩)⟩
  · cases h
theorem row_new0 {B : Blk} {X : Option Blk} (hg : (Heap.new ⟨0, .nil⟩ X).get 0 = some B) : X = some B := by rw [get_new0] at hg; exact hg
set_option maxHeartbeats 1000000 in
theorem dalloc_sound (hN : N ≤ w.heap.size) (hτ : ∀ j, (τ j).oneCell' = true) (hρ : ∀ x ∈ o.op.operands.toList, VR σ τ (ρ x) (ρ' x)) {B : Blk} {mk : Nat → Value} (hal : isAlloc o = true) (h : dalloc P o ρ = some (B, mk)) :
    AllocR P N τ σ w (execOp ρ' o) B mk := by
  obtain ⟨v, H0, h, hg, hmk⟩ := dalloc_inv h
  obtain ⟨dst, op, type, pos, after, guard⟩ := o
  cases op with
  | alloc e =>
    simp only [dop] at h
    split at h
    case h_2 => cases h
    rename_i z hz
    split at h
    case isFalse => cases h
    rename_i hc
    simp only [Bool.and_eq_true] at hc
    cases h
    cases row_new0 hg
    rcases hmk with ⟨_, rfl⟩ | ⟨n, c, hv, rfl⟩ | ⟨hv, rfl⟩
    · refine AllocR.ofPtr hN (cs' := z.cells) (flat_cells hc.1) fun hrun => ?_
      have hz' := pureRun_run _ hz w
      show Sem.run P (do pure (Next.value (← Instr.alloc e true (.tuple #[])))) w = _
      simp [Instr.alloc, Sem.run_bind, hz', newVar, hrun]
    · cases hv
    · cases hv
  | box e x =>
    simp only [dop] at h
    split at h
    case isFalse => cases h
    rename_i hc
    cases h
    cases row_new0 hg
    rcases hmk with ⟨_, rfl⟩ | ⟨n, c, hv, rfl⟩ | ⟨hv, rfl⟩
    · refine AllocR.ofPtr hN (cs' := (ρ' x).cells) ((hρ x (by simp [Op.operands])).cells hτ hc) fun hrun => ?_
      show Sem.run P (do pure (Next.value (← Instr.box e (ρ' x)))) w = _
      simp [Instr.box, Sem.run_bind, newVar, hrun]
    · cases hv
    · cases hv
  | buildSlice t len parts =>
    simp only [dop] at h
    split at h
    case h_2 => cases h
    rename_i e hu
    split at h
    case h_2 => cases h
    rename_i i hi
    split at h
    case h_2 => cases h
    rename_i z hz
    by_cases hc : len ≤ most ∧ len * i.size ≤ most ∧ flat z = true ∧ z.cells.size = i.size ∧ z.cells.toList.all one = true ∧ parts.toList.all (fun p => (ρ p.2).cells.toList.all one) = true
    case neg => rw [if_neg hc] at h; cases h
    rw [if_pos hc] at h
    obtain ⟨hlen, hmost, hzf, hzs, hz1, hp1⟩ := hc
    split at h
    case h_2 => cases h
    rename_i cells hfl
    cases h
    cases row_new0 hg
    obtain ⟨n', c', hv, rfl⟩ : ∃ n c, Value.slice (some ⟨0, 0, none⟩) len len = .slice (some ⟨0, 0, none⟩) n c ∧ mk = fun i => .slice (some ⟨i, 0, none⟩) n c := by
      rcases hmk with ⟨hv, _⟩ | hh | ⟨hv, _⟩
      · cases hv
      · exact hh
      · cases hv
    cases hv
    have hp : PtR σ τ (parts.toList.map fun p => (p.1, ρ p.2)) (parts.toList.map fun p => (p.1, ρ' p.2)) :=
      ptR_map parts.toList (fun p hp => hρ p.2 (by simp only [Op.operands]; exact List.mem_map.2 ⟨p, hp, rfl⟩)) hp1
    have hbase : RA σ τ ((Array.range (len * i.size)).map (z.cells[· % z.cells.size]!)) ((Array.range (len * i.size)).map (z.cells[· % z.cells.size]!)) := by
      unfold RA
      have : ((Array.range (len * i.size)).map (z.cells[· % z.cells.size]!)).toList = (List.range (len * i.size)).map (z.cells[· % z.cells.size]!) := madeCells_list z.cells _
      rw [this]
      exact LR.flat (made_flat hzf _)
    obtain ⟨r', hr', hrr⟩ := fill_rel hτ _ _ _ _ _ cells hp hbase hfl
    have hsz : r'.size = len * i.size := by
      have h1 : ∀ (place : Nat → Option (Nat × Nat)) (l : List (Nat × Value)) (cs r : Array Value), Instr.fill place cs l = some r → r.size = cs.size := by
        intro place l
        induction l with
        | nil => intro cs r h; simp only [Instr.fill, Option.some.injEq] at h; rw [h]
        | cons p l ih =>
          intro cs r h
          obtain ⟨k, v⟩ := p
          simp only [Instr.fill] at h
          split at h
          · cases h
          · split at h
            · cases h
            · rw [ih _ _ h]
              have : ∀ (ll : List (Value × Nat)) (off : Nat) (acc : Array Value), (ll.foldl (fun cs (c, j) => cs.setIfInBounds (off + j) c) acc).size = acc.size := by
                intro ll
                induction ll with
                | nil => intro off acc; rfl
                | cons q ll ih2 => intro off acc; simp only [List.foldl_cons]; rw [ih2]; simp
              rw [← Array.foldl_toList, this]
      rw [h1 _ _ _ _ hr']
      simp
    have hcl := cellsOf_info hi
    refine AllocR.ofSlice hN (cs' := r') hrr (Nat.le_refl _) ?_ (by rw [hsz, hcl]) ?_
    · simp only [most] at hlen; simp only [maxLen]; omega
    · have hpl : (parts.map fun (i, x) => (i, ρ' x)).toList = parts.toList.map fun p => (p.1, ρ' p.2) := by rw [Array.toList_map]
      have hnr : ∀ (cs : Array Value), (newRow e cs).run P w = .ok ⟨w.heap.size, 0, none⟩ (w.alloc (.cells cs e)) := fun cs => by simp [newRow, Sem.run_bind]
      apply run_v
      unfold Instr.buildSlice
      simp only [most] at hmost
      have hgt : ¬ (len * i.size > 2 ^ 24) := by omega
      by_cases h0 : len * i.size = 0
      · have hr0 : Instr.fill (fun k => some (k * i.size, i.size)) ((Array.range (len * i.size)).map ((#[] : Array Value)[· % (#[] : Array Value).size]!)) (parts.toList.map fun p => (p.1, ρ' p.2)) = some r' := by
          rw [← hr', h0]
          simp [Array.range_zero']
        simp only [Sem.run_bind, run_underlying hu, Result.andThen_ok, run_sizeOf hi, hcl, h0, gt_iff_lt, Nat.not_lt_zero, if_false, if_true, Sem.run_pure, hpl]
        rw [h0] at hr0
        rw [hr0]
        simp only [Sem.run_bind, hnr, Result.andThen_ok, Sem.run_pure]
      · simp only [Sem.run_bind, run_underlying hu, Result.andThen_ok, run_sizeOf hi, hcl, hgt, if_false, h0, Sem.run_pure, hpl, zeroValue, typeInfo, run_program, hi, hz]
        rw [hr']
        simp only [Sem.run_bind, hnr, Result.andThen_ok, Sem.run_pure]
  | makeMap t r =>
    cases r with
    | some r => simp only [dop] at h; cases h
    | none =>
      simp only [dop] at h
      cases h
      cases row_new0 hg
      rcases hmk with ⟨hv, rfl⟩ | ⟨n, c, hv, rfl⟩ | ⟨hv, rfl⟩
      · cases hv
      · cases hv
      refine ⟨.map (some w.heap.size), .map #[] 0, 0, 0, rfl, fun σ1 i he hi => ⟨.map _ _ ?_, .map _ _ _ [] 0 #[] hN (by show (w.heap.push _)[w.heap.size]? = _; simp) ⟨rfl, fun i e e' a b => by simp at a⟩⟩⟩
      unfold BR; rw [hi]
  | makeSlice t l c =>
    have hl := hρ l (by simp [Op.operands])
    have hc := hρ c (by simp [Op.operands])
    simp only [dop] at h
    split at h
    case h_2 => cases h
    rename_i e hu
    split at h
    case h_2 => cases h
    rename_i i cap hi hcap
    split at h
    case h_2 => cases h
    rename_i z len hz hlen
    split at h
    case isFalse => cases h
    rename_i hq
    obtain ⟨hzf, hzs, hby, hz1⟩ := hq
    cases h
    cases row_new0 hg
    obtain ⟨n', c', hv, rfl⟩ : ∃ n c, Value.slice (some ⟨0, 0, none⟩) len cap = .slice (some ⟨0, 0, none⟩) n c ∧ mk = fun i => .slice (some ⟨i, 0, none⟩) n c := by
      rcases hmk with ⟨hv, _⟩ | hh | ⟨hv, _⟩
      · cases hv
      · exact hh
      · cases hv
    cases hv
    obtain ⟨kc, ci, hcv, c0, c1, rfl⟩ := intBetween_inv hcap
    obtain ⟨kl, li, hlv, l0, l1, rfl⟩ := intBetween_inv hlen
    rw [hcv] at hc; rw [hlv] at hl
    have ec := hc.flat_eq rfl
    have el := hl.flat_eq rfl
    have hm : (most : Int) = 1048576 := rfl
    have hbytes : (i.bytes : Int) * ci ≤ 281474976710656 := by
      have h1 : (i.bytes : Int) * ci ≤ 4096 * 1048576 := Int.mul_le_mul (by omega) (by omega) c0 (by omega)
      omega
    have hrun := run_make (P := P) w t e i z hu hi hz kl kc li ci l0 (by omega) hbytes (by omega)
    have hcl := cellsOf_info hi
    refine AllocR.ofSlice hN (cs' := madeCells z.cells (ci.toNat * i.size)) ?_ (by omega) (by simp only [maxLen]; omega) (by rw [size_madeCells, hcl]) ?_
    · rw [madeCells_list]
      exact LR.flat (made_flat hzf _)
    · show Sem.run P (do pure (Next.value (← Instr.makeSlice t (ρ' l) (ρ' c)))) w = _
      rw [el, ec]
      exact run_v _ _ _ hrun
  | range t x =>
    have hx := hρ x (by simp [Op.operands])
    simp only [dop] at h
    split at h
    case h_3 => cases h
    case h_2 => simp [Heap.get, Tr.get] at h
    rename_i s hu hv
    cases h
    rw [hv] at hx
    have e1 := hx.flat_eq rfl
    cases row_new0 hg
    rcases hmk with ⟨_, rfl⟩ | ⟨n, c, hv, rfl⟩ | ⟨hv, rfl⟩
    · refine ⟨.pointer (some ⟨w.heap.size, 0, none⟩), .stringIter s 0, 0, 0, ?_, fun σ1 i he hi => ⟨.ptr _ _ (AR_at hi), .siter _ _ _ s 0 hN (by show (w.heap.push _)[w.heap.size]? = _; simp)⟩⟩
      simp [execOp, e1, Instr.range, Sem.run_bind, run_underlying hu]
    · cases hv
    · cases hv
  | _ => cases hal
def isPure (o : Oper) : Bool := !isEff o && !isRead o && !isAlloc o
theorem dflat_pure {v : Value} {H' : Heap} (h : dflat P o ρ H = some (.val v H')) : H' = H ∧ ∀ H2, dflat P o ρ H2 = some (.val v H2) := by
  unfold dflat at *
  split at h
  · rename_i u hf hp
    split at h
    · rename_i hu
      cases h
      exact ⟨rfl, fun H2 => by simp [hu]⟩
    · cases h
  · cases h
theorem map_pure {x : Option Value} {v : Value} {H' : Heap} (h : x.map (Dr.val · H) = some (.val v H')) : H' = H ∧ ∀ H2, x.map (Dr.val · H2) = some (.val v H2) := by
  cases x with
  | none => cases h
  | some u => cases h; exact ⟨rfl, fun _ => rfl⟩
set_option maxHeartbeats 1000000 in
theorem dop_pure (hp : isPure o = true) {v : Value} {H' : Heap} (h : dop P o ρ H = some (.val v H')) : H' = H ∧ ∀ H2, dop P o ρ H2 = some (.val v H2) := by
  obtain ⟨dst, op, type, pos, after, guard⟩ := o
  cases op with
  | call c =>
    obtain ⟨callee, args, ats⟩ := c
    cases callee with
    | builtin b =>
      cases b <;> first | (simp [isPure, isEff, isRead, isAlloc] at hp; done) | exact dflat_pure h
    | _ => simp [isPure, isEff] at hp
  | fieldAddr s x f =>
    simp only [dop] at h ⊢
    split at h
    · rename_i fs a h1 h2
      split at h
      · rename_i fd hfd
        split at h
        · rename_i hc; cases h; refine ⟨rfl, fun H2 => ?_⟩; simp [h1, h2, hfd, hc]
        · cases h
      · cases h
    · cases h
  | field t x f =>
    simp only [dop] at h ⊢
    split at h
    · rename_i fs cs h1 h2
      split at h
      · rename_i fd hfd
        have := map_pure h
        refine ⟨this.1, fun H2 => ?_⟩
        exact this.2 H2
      · cases h
    · cases h
  | indexAddr t x ix =>
    simp only [dop] at h ⊢
    split at h
    · rename_i e a n c h1 h2
      split at h
      · rename_i i q1 q2 q3 q4; cases h; refine ⟨rfl, fun H2 => ?_⟩; simp [h1, h2, q1, q2, q3, q4]
      · cases h
    · rename_i n e a h1 h2
      split at h
      · rename_i i q1 q2 q3 q4; cases h; refine ⟨rfl, fun H2 => ?_⟩; simp [h1, h2, q1, q2, q3, q4]
      · cases h
    · cases h
  | index t x ix =>
    simp only [dop] at h ⊢
    split at h
    · rename_i n e cs h1 h2
      split at h
      · rename_i i q1 q2
        have := map_pure h
        refine ⟨this.1, fun H2 => ?_⟩
        exact this.2 H2
      · cases h
    · exact dflat_pure h
  | typeAssert x xt at_ ok =>
    simp only [dop] at h ⊢
    split at h
    · exact map_pure h
    · exact dflat_pure h
  | extract t ix =>
    simp only [dop] at h ⊢
    split at h
    · exact map_pure h
    · cases h
  | binOp op t x y yt =>
    simp only [dop] at h ⊢
    split at h
    · cases h; exact ⟨rfl, fun _ => rfl⟩
    · exact dflat_pure h
  | unOp op t x => exact dflat_pure h
  | makeInterface t x =>
    simp only [dop] at h ⊢
    split at h
    · cases h
    · cases h; exact ⟨rfl, fun _ => rfl⟩
    · cases h
  | makeFunc fn first captured =>
    simp only [dop] at h ⊢
    split at h
    · cases h; exact ⟨rfl, fun _ => rfl⟩
    · cases h
  | nilCheck x =>
    simp only [dop] at h ⊢
    split at h
    · cases h; exact ⟨rfl, fun _ => rfl⟩
    · cases h; exact ⟨rfl, fun _ => rfl⟩
    · cases h
  | build t parts =>
    simp only [dop] at h ⊢
    split at h
    · rename_i hc
      split at h
      · rename_i u hu; cases h; exact ⟨rfl, fun _ => if_pos hc⟩
      · cases h
    · cases h
  | pick c a b =>
    simp only [dop] at h ⊢
    split at h
    · cases h; exact ⟨rfl, fun _ => rfl⟩
    · cases h; exact ⟨rfl, fun _ => rfl⟩
    · cases h
  | move x => simp only [dop] at h ⊢; cases h; exact ⟨rfl, fun _ => rfl⟩
  | assign x => simp only [dop] at h ⊢; cases h; exact ⟨rfl, fun _ => rfl⟩
  | alloc _ | box _ _ | buildSlice _ _ _ | makeSlice _ _ _ | makeMap _ _ | range _ _ => simp [isPure, isAlloc] at hp
  | load _ _ | lookup _ _ _ _ | convert _ _ _ | slice _ _ _ _ _ => simp [isPure, isRead] at hp
  | store _ _ _ | mapUpdate _ _ _ _ | insert _ _ _ _ | defer _ | panic _ => simp [isPure, isEff] at hp
  | next it str => simp [isPure, isEff] at hp
  | _ => simp only [dop] at h; cases h
theorem dop_read (hr : isRead o = true) {v : Value} {H' : Heap} (h : dop P o ρ H = some (.val v H')) (hn : H'.next = H.next) : H' = H := by
  obtain ⟨dst, op, type, pos, after, guard⟩ := o
  cases op with
  | load t a =>
    simp only [dop] at h
    split at h
    · exact (map_pure h).1
    · cases h
  | lookup t m k ok =>
    simp only [dop] at h
    unfold dlookup at h
    simp only at h
    split at h
    · split at h
      · split at h
        · split at h
          · split at h
            · cases h; rfl
            · cases h
          · cases h
        · cases h
      · split at h
        · split at h
          · split at h
            · split at h
              · cases h; rfl
              · cases h
            · cases h
          · split at h
            · cases h; rfl
            · cases h
          · cases h
        · cases h
      · cases h
    · cases h
  | convert s d x =>
    simp only [dop] at h
    split at h
    · split at h
      · exact (map_pure h).1
      · cases h
    · cases h
    · exact (dflat_pure h).1
  | slice t x lo hi mx =>
    simp only [dop] at h
    split at h
    · exact (dflat_pure h).1
    · unfold dslice at h
      split at h
      · split at h
        · split at h
          · split at h
            · cases h; rfl
            · split at h
              · cases h; rfl
              · split at h
                · split at h
                  · split at h
                    · cases h; rfl
                    · cases h
                  · split at h
                    · cases h; rfl
                    · cases h
                  · cases h
                · cases h
          · cases h
        · cases h
      · cases h
  | call c =>
    obtain ⟨callee, args, ats⟩ := c
    cases callee with
    | builtin b =>
      cases b <;> first | (simp [isRead] at hr; done) | skip
      rcases args with ⟨_ | ⟨x, _ | ⟨y, l⟩⟩⟩
      · simp only [dop] at h; cases h
      · simp only [dop] at h
        split at h
        · split at h
          · cases h; rfl
          · cases h
        · split at h
          · cases h; rfl
          · cases h
        · exact (dflat_pure h).1
      · simp only [dop] at h; cases h
    | _ => simp [isRead] at hr
  | _ => simp [isRead] at hr
end
end Go.Hb
end

-- Draw
section
namespace Go.Hb
open Go Go.RowKit
mutual
theorem veq_eq : ∀ (v u : Value), veq v u = true → v = u
  | .bool a, u, h => by cases u <;> simp [veq] at h; rw [h]
  | .int k a, u, h => by cases u <;> simp [veq] at h; rw [h.1, h.2]
  | .float k a, u, h => by cases u <;> simp [veq] at h; rw [h.1, h.2]
  | .complex _ _ _, u, h => by cases u <;> simp [veq] at h
  | .string a, u, h => by
    cases u <;> simp [veq] at h
    rename_i b
    have : a = b := by
      obtain ⟨⟨x⟩⟩ := a
      obtain ⟨⟨y⟩⟩ := b
      simp at h
      rw [h]
    rw [this]
  | .pointer a, u, h => by cases u <;> simp [veq] at h; rw [h]
  | .slice a n c, u, h => by cases u <;> simp [veq] at h; rw [h.1.1, h.1.2, h.2]
  | .map a, u, h => by cases u <;> simp [veq] at h; rw [h]
  | .chan none, u, h => by cases u <;> simp [veq] at h
  | .chan (some a), u, h => by
    cases u <;> try (simp [veq] at h; done)
    rename_i b
    cases b <;> simp [veq] at h
    rw [h]
  | .func (.func f) ⟨a⟩ ⟨b⟩, u, h => by
    cases u with
    | func g c d =>
      cases g with
      | func g =>
        obtain ⟨c⟩ := c
        obtain ⟨d⟩ := d
        simp [veq] at h
        rw [h.1.1, veqL_eq a c h.1.2, veqL_eq b d h.2]
      | _ => simp [veq] at h
    | _ => simp [veq] at h
  | .func (.method _) _ _, u, h => by simp [veq] at h
  | .func (.methodOf _ _) _ _, u, h => by simp [veq] at h
  | .func (.via _ _ _ _) _ _, u, h => by simp [veq] at h
  | .func (.yield _) _ _, u, h => by simp [veq] at h
  | .nilFunc, u, h => by cases u <;> simp [veq] at h; rfl
  | .iface t v, u, h => by
    cases u <;> simp [veq] at h
    rename_i s w
    rw [h.1, veq_eq v w h.2]
  | .nilIface, u, h => by cases u <;> simp [veq] at h; rfl
  | .agg ⟨a⟩, u, h => by
    cases u with
    | agg b => obtain ⟨b⟩ := b; simp [veq] at h; rw [veqL_eq a b h]
    | _ => simp [veq] at h
  | .tuple ⟨a⟩, u, h => by
    cases u with
    | tuple b => obtain ⟨b⟩ := b; simp [veq] at h; rw [veqL_eq a b h]
    | _ => simp [veq] at h
theorem veqL_eq : ∀ (a b : List Value), veqL a b = true → a = b
  | [], b, h => by cases b <;> simp [veqL] at h; rfl
  | v :: a, b, h => by
    cases b with
    | nil => simp [veqL] at h
    | cons w b => simp [veqL] at h; rw [veq_eq v w h.1, veqL_eq a b h.2]
end
def anc (b : Array Nat) (i j : Nat) : Prop := (b.getD i 0).testBit j = true
structure RC (ops : Array Oper) (b : Array Nat) (effs : List Nat) : Prop where
  slot : ∀ p q op oq d, ops[p]? = some op → ops[q]? = some oq → p ≠ q → op.dst = some d → oq.dst ≠ some d ∧ (Operand.tmp d ∈ oq.op.operands.toList → anc b q p ∨ anc b p q)
  edge : ∀ i o, ops[i]? = some o → ∀ j, anc b i j ↔ ∃ e ∈ o.after.toList, Region.binds .any e = true ∧ (j = e.on ∨ anc b e.on j)
  lt : ∀ i o e, ops[i]? = some o → e ∈ o.after.toList → Region.binds .any e = true → e.on < i
  out : ∀ i, ops.size ≤ i → ∀ j, ¬ anc b i j
  guard : ∀ i o j want, ops[i]? = some o → o.guard = some (j, want) → anc b i j
  hf : effs = (List.range ops.size).filter fun i => match ops[i]? with | some o => isEff o | none => false
  chain : chainOK ops b effs = true
theorem foldl_bits (b : Array Nat) (j : Nat) : ∀ (l : List Edge) (s : Nat),
    (l.foldl (fun s e => if Region.binds .any e then s ||| 2 ^ e.on ||| b.getD e.on 0 else s) s).testBit j = true ↔ s.testBit j = true ∨ ∃ e ∈ l, Region.binds .any e = true ∧ (j = e.on ∨ anc b e.on j)
  | [], s => by simp
  | e :: l, s => by
    rw [List.foldl_cons, foldl_bits b j l]
    by_cases he : Region.binds .any e = true
    · rw [if_pos he]
      simp only [Nat.testBit_or, Bool.or_eq_true, Nat.testBit_two_pow, decide_eq_true_eq, List.mem_cons]
      constructor
      · rintro (((h | h) | h) | ⟨f, hf, h⟩)
        · exact .inl h
        · exact .inr ⟨e, .inl rfl, he, .inl h.symm⟩
        · exact .inr ⟨e, .inl rfl, he, .inr h⟩
        · exact .inr ⟨f, .inr hf, h⟩
      · rintro (h | ⟨f, rfl | hf, h1, h2 | h2⟩)
        · exact .inl (.inl (.inl h))
        · exact .inl (.inl (.inr h2.symm))
        · exact .inl (.inr h2)
        · exact .inr ⟨f, hf, h1, .inl h2⟩
        · exact .inr ⟨f, hf, h1, .inr h2⟩
    · rw [if_neg he]
      constructor
      · rintro (h | ⟨f, hf, h⟩)
        · exact .inl h
        · exact .inr ⟨f, List.mem_cons_of_mem _ hf, h⟩
      · rintro (h | ⟨f, hf, h⟩)
        · exact .inl h
        · rcases List.mem_cons.1 hf with rfl | hf
          · exact absurd h.1 he
          · exact .inr ⟨f, hf, h⟩
theorem RC.of_ok {ops : Array Oper} (h : okDraw ops = true) :
    RC ops (Region.before ops) ((List.range ops.size).filter fun i => match ops[i]? with | some o => isEff o | none => false) := by
  unfold okDraw at h
  simp only [Bool.and_eq_true, List.all_eq_true] at h
  obtain ⟨⟨⟨hsz, hap⟩, hch⟩, hall⟩ := h
  have hix : ∀ i o, ops[i]? = some o → (o, i) ∈ ops.toList.zipIdx := fun i o ho => by
    rw [List.mem_zipIdx_iff_getElem?]; simpa using ho
  rw [Nat.beq_eq] at hsz
  refine ⟨fun p q op oq d hp hq hne hd => ?_, fun i o ho j => ?_, fun i o e ho he hb => ?_, fun i hi j hj => ?_, fun i o j want ho hg => ?_, rfl, hch⟩
  · unfold apartOK at hap
    simp only [List.all_eq_true] at hap
    have h1 := hap _ (hix p op hp)
    rw [hd] at h1
    simp only [List.all_eq_true] at h1
    have h2 := h1 _ (hix q oq hq)
    simp only [Bool.or_eq_true, Bool.and_eq_true, Nat.beq_eq] at h2
    rcases h2 with h2 | ⟨h2, h3⟩
    · exact absurd h2 hne
    · refine ⟨fun hq' => ?_, fun hm => ?_⟩
      · rw [hq'] at h2; simp at h2
      · rcases h3 with (h3 | h3) | h3
        · simp only [Bool.not_eq_true', List.any_eq_false] at h3
          have := h3 _ hm
          simp at this
        · exact .inl h3
        · exact .inr h3
  · have h1 := (hall _ (hix i o ho)).1.1
    rw [Nat.beq_eq] at h1
    unfold anc
    simp only at h1
    rw [h1]
    unfold ahead
    rw [foldl_bits]
    simp [anc]
  · have h1 := (hall _ (hix i o ho)).1.2 e he
    simp only [Bool.or_eq_true, Bool.not_eq_true', Nat.blt_eq, hb] at h1
    simpa using h1
  · unfold anc at hj
    rw [Array.getD_eq_getD_getElem?, Array.getElem?_eq_none (by omega)] at hj
    simp at hj
  · have h1 := (hall _ (hix i o ho)).2
    rw [hg] at h1
    exact h1
section
variable {ops : Array Oper} {b : Array Nat} {effs : List Nat}
theorem some_of_lt {i : Nat} (h : i < ops.size) : ∃ o, ops[i]? = some o := ⟨ops[i], by simp [h]⟩
theorem lt_of_some {i : Nat} {o : Oper} (h : ops[i]? = some o) : i < ops.size := (Array.getElem?_eq_some_iff.1 h).1
theorem RC.anc_some (R : RC ops b effs) {i j : Nat} (h : anc b i j) : ∃ o, ops[i]? = some o := by
  rcases Nat.lt_or_ge i ops.size with hi | hi
  · exact some_of_lt hi
  · exact absurd h (R.out i hi j)
theorem RC.anc_lt (R : RC ops b effs) : ∀ i j, anc b i j → j < i := by
  intro i
  induction i using Nat.strongRecOn with
  | _ i ih =>
    intro j h
    obtain ⟨o, ho⟩ := R.anc_some h
    obtain ⟨e, he, hb, h1⟩ := (R.edge i o ho j).1 h
    have hlt := R.lt i o e ho he hb
    rcases h1 with rfl | h1
    · exact hlt
    · have := ih _ hlt _ h1; omega
theorem RC.anc_trans (R : RC ops b effs) : ∀ i j k, anc b i j → anc b j k → anc b i k := by
  intro i
  induction i using Nat.strongRecOn with
  | _ i ih =>
    intro j k h hk
    obtain ⟨o, ho⟩ := R.anc_some h
    obtain ⟨e, he, hb, h1⟩ := (R.edge i o ho j).1 h
    have hlt := R.lt i o e ho he hb
    refine (R.edge i o ho k).2 ⟨e, he, hb, .inr ?_⟩
    rcases h1 with rfl | h1
    · exact hk
    · exact ih _ hlt _ _ h1 hk
def DS (ops : Array Oper) (b : Array Nat) (S : Nat → Prop) : Prop := ∀ i, S i → i < ops.size ∧ ∀ j, anc b i j → S j
def written (ops : Array Oper) (S : Nat → Prop) (t : Tmp) : Prop := ∃ p o, S p ∧ ops[p]? = some o ∧ o.dst = some t
open Classical in
noncomputable def rho (ops : Array Oper) (b : Array Nat) (tm0 tmF : Tr Value) (i : Nat) (x : Operand) : Value :=
  match x with
  | .tmp t => if written ops (anc b i) t then ev tmF (.tmp t) else ev tm0 (.tmp t)
  | x => ev tm0 x
def TI (ops : Array Oper) (tm0 tmF : Tr Value) (S : Nat → Prop) (tm : Tr Value) : Prop :=
  ∀ t, (written ops S t → tm.get t = tmF.get t) ∧ (¬ written ops S t → tm.get t = tm0.get t)
theorem RC.not_written (R : RC ops b effs) {S : Nat → Prop} (hS : DS ops b S) {i : Nat} {o : Oper} (ho : ops[i]? = some o) (hi : ¬ S i) {t : Tmp} (hx : Operand.tmp t ∈ o.op.operands.toList)
    (hw : ¬ written ops (anc b i) t) : ¬ written ops S t := by
  rintro ⟨q, oq, hq, hoq, hd⟩
  have hne : q ≠ i := fun e => hi (e ▸ hq)
  rcases (R.slot q i oq o t hoq ho hne hd).2 hx with h | h
  · exact hw ⟨q, oq, h, hoq, hd⟩
  · exact hi ((hS q hq).2 i h)
theorem written_mono {S T : Nat → Prop} (h : ∀ i, S i → T i) {t : Tmp} (hw : written ops S t) : written ops T t := by
  obtain ⟨p, o, hp, ho, hd⟩ := hw; exact ⟨p, o, h p hp, ho, hd⟩
theorem RC.ev_rho (R : RC ops b effs) {S : Nat → Prop} (hS : DS ops b S) {tm0 tmF tm : Tr Value} (hT : TI ops tm0 tmF S tm) {i : Nat} {o : Oper} (ho : ops[i]? = some o) (hi : ¬ S i)
    (ha : ∀ j, anc b i j → S j) : ∀ x ∈ o.op.operands.toList, ev tm x = rho ops b tm0 tmF i x := by
  intro x hx
  cases x with
  | tmp t =>
    unfold rho
    simp only
    split
    · rename_i hw
      show (tm.get t).getD junk = (tmF.get t).getD junk
      rw [(hT t).1 (written_mono ha hw)]
    · rename_i hw
      show (tm.get t).getD junk = (tm0.get t).getD junk
      rw [(hT t).2 (R.not_written hS ho hi hx hw)]
  | _ => rfl
theorem RC.wanted (R : RC ops b effs) {S : Nat → Prop} {tm0 tmF tm : Tr Value} (hT : TI ops tm0 tmF S tm) {i : Nat} {o : Oper} (ho : ops[i]? = some o)
    (ha : ∀ j, anc b i j → S j) : dwanted ops tm o = dwanted ops tmF o := by
  unfold dwanted
  cases hg : o.guard with
  | none => rfl
  | some jw =>
    obtain ⟨j, want⟩ := jw
    have hj := R.guard i o j want ho hg
    simp only
    cases hd : (ops[j]?).bind (·.dst) with
    | none => rfl
    | some d =>
      simp only
      obtain ⟨oj, hoj, hdj⟩ := Option.bind_eq_some_iff.1 hd
      rw [(hT d).1 ⟨j, oj, ha j hj, hoj, hdj⟩]
end
section
variable {P : Program} {ops : Array Oper} {b : Array Nat} {effs : List Nat}
theorem dalloc_congr {o : Oper} {ρ ρ' : Operand → Value} (hal : isAlloc o = true) (h : ∀ x ∈ o.op.operands.toList, ρ x = ρ' x) : dalloc P o ρ = dalloc P o ρ' := by
  have hd : dop P o ρ ⟨0, .nil⟩ = dop P o ρ' ⟨0, .nil⟩ := by
    obtain ⟨dst, op, type, pos, after, guard⟩ := o
    cases op with
    | alloc e => rfl
    | box e x => simp only [dop, h x (by simp [Op.operands])]
    | buildSlice t len parts =>
      have hp : ∀ p ∈ parts.toList, ρ p.2 = ρ' p.2 := fun p hp => h p.2 (by simp only [Op.operands]; exact List.mem_map.2 ⟨p, hp, rfl⟩)
      have h1 : (parts.toList.map fun p => (p.1, ρ p.2)) = parts.toList.map fun p => (p.1, ρ' p.2) := List.map_congr_left fun p hq => by rw [hp p hq]
      have h2 : parts.toList.all (fun p => (ρ p.2).cells.toList.all one) = parts.toList.all (fun p => (ρ' p.2).cells.toList.all one) := by
        rw [Bool.eq_iff_iff, List.all_eq_true, List.all_eq_true]
        exact ⟨fun k p hq => by rw [← hp p hq]; exact k p hq, fun k p hq => by rw [hp p hq]; exact k p hq⟩
      simp only [dop, h1, h2]
    | makeSlice t l c => simp only [dop, h l (by simp [Op.operands]), h c (by simp [Op.operands])]
    | makeMap t r => cases r <;> simp only [dop]
    | range t x => simp only [dop, h x (by simp [Op.operands])]
    | _ => cases hal
  unfold dalloc
  rw [hd]
def FN (P : Program) (ops : Array Oper) (b : Array Nat) (base : Nat) (tm0 tmF : Tr Value) (i : Nat) (o : Oper) (G : Heap) : Prop :=
  (dwanted ops tmF o = some false ∧ ∀ d, o.dst = some d → tmF.get d = some undef) ∨
  (dwanted ops tmF o = some true ∧ isAlloc o = true ∧ ∃ B mk, dalloc P o (rho ops b tm0 tmF i) = some (B, mk) ∧ ∀ d, o.dst = some d → tmF.get d = some (mk (base + i))) ∨
  (dwanted ops tmF o = some true ∧ isAlloc o = false ∧ ∃ ρ v, (∀ x ∈ o.op.operands.toList, ρ x = rho ops b tm0 tmF i x) ∧ dop P o ρ G = some (.val v G) ∧ ∀ d, o.dst = some d → tmF.get d = some v)
def putD (tm : Tr Value) (d : Option Tmp) (v : Value) : Tr Value := match d with | some d => tm.put d (some v) | none => tm
theorem putD_get (tm : Tr Value) (d : Option Tmp) (v : Value) (t : Tmp) : (d = some t → (putD tm d v).get t = some v) ∧ (d ≠ some t → (putD tm d v).get t = tm.get t) := by
  cases d with
  | none => exact ⟨fun h => (by cases h), fun _ => rfl⟩
  | some d =>
    constructor
    · intro h; cases h; show (tm.put t (some v)).get t = _; rw [Tr.get_put, if_pos rfl]
    · intro h; show (tm.put d (some v)).get t = _; rw [Tr.get_put, if_neg (fun e => h (by rw [e]))]
theorem dnon_cons {base : Nat} {hs : List Heap} {i : Nat} {L : List Nat} {tm : Tr Value} {H : Heap} {r : Tr Value × Heap} (h : dnon P ops b effs base hs (i :: L) tm H = some r) :
    ∃ o v H', ops[i]? = some o ∧ dnon P ops b effs base hs L (putD tm o.dst v) H' = some r ∧
      ((dwanted ops tm o = some false ∧ v = undef ∧ H' = H) ∨
       (dwanted ops tm o = some true ∧ isAlloc o = true ∧ ∃ B mk, dalloc P o (ev tm) = some (B, mk) ∧ v = mk (base + i) ∧ H' = H.put (base + i) (some B)) ∨
       (dwanted ops tm o = some true ∧ isAlloc o = false ∧ H' = H ∧ ∃ G gs G', hs = G :: gs ∧ dop P o (ev tm) G = some (.val v G') ∧
        (isRead o = false ∨ (G'.next = G.next ∧ sameOn P o (ev tm) v (gs.take (gs.length - effsIn effs (b.getD i 0))) = true)))) := by
  unfold dnon at h
  cases ho : ops[i]? with
  | none => rw [ho] at h; cases h
  | some o =>
    rw [ho] at h
    simp only at h
    cases hw : dwanted ops tm o with
    | none => rw [hw] at h; cases h
    | some wd =>
      rw [hw] at h
      cases wd with
      | false => exact ⟨o, undef, H, rfl, h, .inl ⟨hw, rfl, rfl⟩⟩
      | true =>
        simp only at h
        cases hal : isAlloc o with
        | true =>
          rw [hal] at h
          simp only at h
          cases hd : dalloc P o (ev tm) with
          | none => rw [hd] at h; cases h
          | some p =>
            obtain ⟨B, mk⟩ := p
            rw [hd] at h
            exact ⟨o, _, _, rfl, h, .inr (.inl ⟨hw, hal, B, mk, hd, rfl, rfl⟩)⟩
        | false =>
          rw [hal] at h
          simp only at h
          cases hs with
          | nil => cases h
          | cons G gs =>
            simp only at h
            split at h
            case h_2 => cases h
            rename_i v G' hd
            split at h
            case h_2 => cases h
            rename_i hc
            refine ⟨o, v, H, rfl, h, .inr (.inr ⟨hw, hal, rfl, G, gs, G', rfl, hd, ?_⟩)⟩
            simpa [Nat.beq_eq] using hc
theorem dnon_keeps {base : Nat} {hs : List Heap} {t : Tmp} : ∀ {L : List Nat} {tm : Tr Value} {H : Heap} {r : Tr Value × Heap}, dnon P ops b effs base hs L tm H = some r →
    (∀ i ∈ L, ∀ o, ops[i]? = some o → o.dst ≠ some t) → r.1.get t = tm.get t
  | [], tm, H, r, h, _ => by unfold dnon at h; cases h; rfl
  | i :: L, tm, H, r, h, hn => by
    obtain ⟨o, v, H', ho, h', _⟩ := dnon_cons h
    rw [dnon_keeps h' (fun j hj => hn j (List.mem_cons_of_mem _ hj))]
    exact (putD_get tm o.dst v t).2 (hn i (by simp) o ho)
theorem sameOn_mem {o : Oper} {ρ : Operand → Value} {v : Value} : ∀ {l : List Heap} {G : Heap}, sameOn P o ρ v l = true → G ∈ l → ∃ G', dop P o ρ G = some (.val v G') ∧ G'.next = G.next
  | H :: l, G, h, hm => by
    unfold sameOn at h
    simp only [Bool.and_eq_true] at h
    rcases List.mem_cons.1 hm with rfl | hm
    · have h1 := h.1
      split at h1
      · rename_i u H' hd
        simp only [Bool.and_eq_true, Nat.beq_eq] at h1
        rw [← veq_eq u v h1.1]
        exact ⟨H', hd, h1.2⟩
      · cases h1
    · exact sameOn_mem h.2 hm
theorem dnon_facts (R : RC ops b effs) {base : Nat} {hs : List Heap} {tm0 tmF : Tr Value} : ∀ {L : List Nat} {S : Nat → Prop} {tm : Tr Value} {H : Heap} {r : Tr Value × Heap},
    dnon P ops b effs base hs L tm H = some r → L.Pairwise (· < ·) → DS ops b S → (∀ i ∈ L, i < ops.size ∧ ¬ S i ∧ (∀ o, ops[i]? = some o → isEff o = false) ∧ ∀ j, anc b i j → S j ∨ j ∈ L) →
    (∀ t, written ops (fun i => S i ∨ i ∈ L) t → r.1.get t = tmF.get t) → (∀ t, ¬ written ops S t → tm.get t = tm0.get t) →
    (∀ i ∈ L, ∀ o, ops[i]? = some o → ∀ pre G post, hs = pre ++ G :: post → effsIn effs (b.getD i 0) ≤ post.length → FN P ops b base tm0 tmF i o G) ∧
    (∀ t, ¬ written ops (fun i => S i ∨ i ∈ L) t → r.1.get t = tm0.get t) ∧
    ∃ l : List (Nat × Blk), r.2 = l.foldl (fun H p => H.put (base + p.1) (some p.2)) H ∧ ∀ p ∈ l, p.1 ∈ L ∧ ∃ o mk, ops[p.1]? = some o ∧ isAlloc o = true ∧ dwanted ops tmF o = some true ∧ dalloc P o (rho ops b tm0 tmF p.1) = some (p.2, mk)
  | [], S, tm, H, r, h, _, hS, _, hF, h0 => by
    unfold dnon at h
    cases h
    refine ⟨fun i hi => (by cases hi), fun t ht => h0 t fun hw => ht (written_mono (fun i hi => .inl hi) hw), [], rfl, fun p hp => (by cases hp)⟩
  | i :: L, S, tm, H, r, h, hso, hS, hL, hF, h0 => by
    obtain ⟨o, v, H', ho, h', hc⟩ := dnon_cons h
    obtain ⟨hiz, hiS, hie, hia⟩ := hL i (by simp)
    rw [List.pairwise_cons] at hso
    have ha : ∀ j, anc b i j → S j := fun j hj => by
      rcases hia j hj with h1 | h1
      · exact h1
      · have hlt := R.anc_lt i j hj
        rcases List.mem_cons.1 h1 with rfl | h1
        · omega
        · have := hso.1 j h1; omega
    have hkS : ∀ t, written ops S t → tm.get t = tmF.get t := by
      intro t hw
      rw [← hF t (written_mono (fun i hi => .inl hi) hw)]
      obtain ⟨p, op, hp, hop, hd⟩ := hw
      exact (dnon_keeps h (fun j hj oj hoj => (R.slot p j op oj t hop hoj (fun e => (hL j hj).2.1 (e ▸ hp)) hd).1)).symm
    have hTI : TI ops tm0 tmF S tm := fun t => ⟨hkS t, h0 t⟩
    have hρ := R.ev_rho hS hTI ho hiS ha
    have hw := R.wanted hTI ho ha
    have hS' : DS ops b (fun j => S j ∨ j = i) := fun j hj => by
      rcases hj with hj | rfl
      · exact ⟨(hS j hj).1, fun k hk => .inl ((hS j hj).2 k hk)⟩
      · exact ⟨hiz, fun k hk => .inl (ha k hk)⟩
    have h0' : ∀ t, ¬ written ops (fun j => S j ∨ j = i) t → (putD tm o.dst v).get t = tm0.get t := fun t ht => by
      rw [(putD_get tm o.dst v t).2 (fun hd => ht ⟨i, o, .inr rfl, ho, hd⟩)]
      exact h0 t fun hw => ht (written_mono (fun i hi => .inl hi) hw)
    have heq : (fun j => (S j ∨ j = i) ∨ j ∈ L) = (fun j => S j ∨ j ∈ i :: L) := by
      funext j; simp only [List.mem_cons, or_assoc]
    have hF' : ∀ t, written ops (fun j => (S j ∨ j = i) ∨ j ∈ L) t → r.1.get t = tmF.get t := by rw [heq]; exact hF
    obtain ⟨k1, k2, l, k3, k4⟩ := dnon_facts R h' hso.2 hS' (fun j hj => by
      obtain ⟨q1, q2, q3, q4⟩ := hL j (List.mem_cons_of_mem _ hj)
      refine ⟨q1, fun hh => ?_, q3, fun k hk => ?_⟩
      · rcases hh with hh | rfl
        · exact q2 hh
        · have := hso.1 _ hj; omega
      · rcases q4 k hk with q | q
        · exact .inl (.inl q)
        · rcases List.mem_cons.1 q with rfl | q
          · exact .inl (.inr rfl)
          · exact .inr q) hF' h0'
    have hdv : ∀ d, o.dst = some d → tmF.get d = some v := fun d hd => by
      rw [← hF d ⟨i, o, .inr (by simp), ho, hd⟩, dnon_keeps h' (fun j hj oj hoj => (R.slot i j o oj d ho hoj (fun e => by have := hso.1 j hj; omega) hd).1)]
      exact (putD_get tm o.dst v d).1 hd
    refine ⟨fun j hj oj hoj pre G post hhs hle => ?_, by rw [heq] at k2; exact k2, ?_⟩
    rotate_left
    · have k4' : ∀ p ∈ l, p.1 ∈ i :: L ∧ ∃ o mk, ops[p.1]? = some o ∧ isAlloc o = true ∧ dwanted ops tmF o = some true ∧ dalloc P o (rho ops b tm0 tmF p.1) = some (p.2, mk) := fun p hp => ⟨List.mem_cons_of_mem _ (k4 p hp).1, (k4 p hp).2⟩
      rcases hc with ⟨c1, _, rfl⟩ | ⟨c1, c2, B, mk, c3, _, rfl⟩ | ⟨c1, c2, rfl, _⟩
      · exact ⟨l, k3, k4'⟩
      · refine ⟨(i, B) :: l, k3, fun p hp => ?_⟩
        rcases List.mem_cons.1 hp with rfl | hp
        · exact ⟨by simp, o, mk, ho, c2, hw ▸ c1, (dalloc_congr c2 hρ) ▸ c3⟩
        · exact k4' p hp
      · exact ⟨l, k3, k4'⟩
    rcases List.mem_cons.1 hj with rfl | hj
    · rw [ho] at hoj
      cases hoj
      rcases hc with ⟨c1, rfl, _⟩ | ⟨c1, c2, B, mk, c3, rfl, _⟩ | ⟨c1, c2, _, G0, gs, G', rfl, c4, c5⟩
      · exact .inl ⟨hw ▸ c1, hdv⟩
      · exact .inr (.inl ⟨hw ▸ c1, c2, B, mk, (dalloc_congr c2 hρ) ▸ c3, hdv⟩)
      · refine .inr (.inr ⟨hw ▸ c1, c2, ev tm, v, hρ, ?_, hdv⟩)
        cases hrd : isRead o with
        | false =>
          have hp : isPure o = true := by simp [isPure, hrd, c2, hie o ho]
          exact (dop_pure hp c4).2 G
        | true =>
          rcases c5 with c5 | ⟨c5, c6⟩
          · rw [hrd] at c5; cases c5
          · cases pre with
            | nil =>
              simp only [List.nil_append, List.cons.injEq] at hhs
              obtain ⟨rfl, rfl⟩ := hhs
              have := dop_read hrd c4 c5
              rw [this] at c4; exact c4
            | cons G1 pre =>
              simp only [List.cons_append, List.cons.injEq] at hhs
              obtain ⟨rfl, rfl⟩ := hhs
              have hmem : G ∈ ((pre ++ G :: post).take ((pre ++ G :: post).length - effsIn effs (b.getD j 0))) := by
                rw [List.mem_take_iff_getElem]
                refine ⟨pre.length, ?_, ?_⟩
                · simp only [List.length_append, List.length_cons]; omega
                · simp
              obtain ⟨G'', d1, d2⟩ := sameOn_mem c6 hmem
              have := dop_read hrd d1 d2
              rw [this] at d1; exact d1
    · exact k1 j hj oj hoj pre G post hhs hle
end
end Go.Hb
end

-- Draw2
section
namespace Go.Hb
open Go Go.RowKit
section
variable {P : Program} {ops : Array Oper} {b : Array Nat} {effs : List Nat}
def bit (m i : Nat) : Prop := m.testBit i = true
theorem bit_done1 {done e i : Nat} : bit (done ||| b.getD e 0 ||| 2 ^ e) i ↔ bit done i ∨ anc b e i ∨ i = e := by
  unfold bit anc
  simp only [Nat.testBit_or, Bool.or_eq_true, Nat.testBit_two_pow, decide_eq_true_eq, or_assoc]
  constructor
  · rintro (h | h | h)
    · exact .inl h
    · exact .inr (.inl h)
    · exact .inr (.inr h.symm)
  · rintro (h | h | h)
    · exact .inl h
    · exact .inr (.inl h)
    · exact .inr (.inr h.symm)
theorem RC.sorted (R : RC ops b effs) : effs.Pairwise (· < ·) := by
  rw [R.hf]; exact List.Pairwise.filter _ List.pairwise_lt_range
theorem RC.mem_effs (R : RC ops b effs) {i : Nat} : i ∈ effs ↔ ∃ o, ops[i]? = some o ∧ isEff o = true := by
  rw [R.hf, List.mem_filter]
  constructor
  · rintro ⟨h1, h2⟩
    obtain ⟨o, ho⟩ := some_of_lt (List.mem_range.1 h1)
    rw [ho] at h2
    exact ⟨o, ho, h2⟩
  · rintro ⟨o, ho, h⟩
    exact ⟨List.mem_range.2 (lt_of_some ho), by rw [ho]; exact h⟩
theorem chain_head {e : Nat} {es : List Nat} (h : chainOK ops b (e :: es) = true) : (∀ f ∈ es, anc b f e) ∨ ∃ f, es = [f] ∧ isSt ops e = true ∧ isSt ops f = true := by
  unfold chainOK at h
  rw [Bool.and_eq_true] at h
  have h1 := h.1
  split at h1
  · rename_i f
    rw [Bool.or_eq_true, Bool.and_eq_true] at h1
    rcases h1 with h1 | h1
    · refine .inl fun g hg => ?_
      rw [List.mem_singleton] at hg
      subst hg; exact h1
    · exact .inr ⟨f, rfl, h1.1, h1.2⟩
  · exact .inl fun f hf => List.all_eq_true.1 h1 f hf
theorem chain_tail {e : Nat} {es : List Nat} (h : chainOK ops b (e :: es) = true) : chainOK ops b es = true := by
  unfold chainOK at h
  rw [Bool.and_eq_true] at h
  exact h.2
theorem RC.topo (R : RC ops b effs) {es : List Nat} (h : es.Pairwise (· < ·)) : es.Pairwise (fun e f => e ≠ f ∧ ¬ anc b e f) :=
  h.imp fun {e f} hlt => ⟨by omega, fun ha => by have := R.anc_lt _ _ ha; omega⟩
structure DI (ops : Array Oper) (b : Array Nat) (effs : List Nat) (tm0 : Tr Value) (es : List Nat) (done : Nat) (tm : Tr Value) (k : Nat) : Prop where
  ds : DS ops b (bit done)
  sfx : ∃ pre, effs.Perm (pre ++ es) ∧ (∀ e ∈ pre, bit done e) ∧ pre.length = k
  ord : chainOK ops b es = true
  topo : es.Pairwise (fun e f => e ≠ f ∧ ¬ anc b e f)
  noe : ∀ e ∈ es, ¬ bit done e
  t0 : ∀ t, ¬ written ops (bit done) t → tm.get t = tm0.get t
theorem mem_pending {m done i : Nat} : i ∈ pending (List.range ops.size) effs m done ↔ i < ops.size ∧ bit m i ∧ ¬ bit done i ∧ i ∉ effs := by
  unfold pending bit
  simp [List.mem_filter, and_assoc]
theorem mem_rest {done i : Nat} : i ∈ ((List.range ops.size).filter fun i => !done.testBit i && !effs.contains i) ↔ i < ops.size ∧ ¬ bit done i ∧ i ∉ effs := by
  unfold bit
  simp [List.mem_filter]
theorem DI.next (R : RC ops b effs) {tm0 tm tm' : Tr Value} {e : Nat} {es : List Nat} {done k : Nat} (h : DI ops b effs tm0 (e :: es) done tm k)
    (h0 : ∀ t, ¬ written ops (bit (done ||| b.getD e 0 ||| 2 ^ e)) t → tm'.get t = tm0.get t) : DI ops b effs tm0 es (done ||| b.getD e 0 ||| 2 ^ e) tm' (k + 1) := by
  obtain ⟨pre, hp, hpd, hk⟩ := h.sfx
  have he : e ∈ effs := hp.mem_iff.2 (by simp)
  obtain ⟨o, ho, _⟩ := R.mem_effs.1 he
  have ht := List.pairwise_cons.1 h.topo
  refine ⟨fun i hi => ?_, ⟨pre ++ [e], by rw [List.append_assoc]; exact hp, fun f hf => ?_, by simp [hk]⟩, chain_tail h.ord, ht.2, fun f hf hb => ?_, h0⟩
  · rw [bit_done1] at hi
    rcases hi with hi | hi | rfl
    · exact ⟨(h.ds i hi).1, fun j hj => bit_done1.2 (.inl ((h.ds i hi).2 j hj))⟩
    · exact ⟨by have := R.anc_lt _ _ hi; have := lt_of_some ho; omega, fun j hj => bit_done1.2 (.inr (.inl (R.anc_trans _ _ _ hi hj)))⟩
    · exact ⟨lt_of_some ho, fun j hj => bit_done1.2 (.inr (.inl hj))⟩
  · rcases List.mem_append.1 hf with hf | hf
    · exact bit_done1.2 (.inl (hpd f hf))
    · simp at hf; exact bit_done1.2 (.inr (.inr hf))
  · have htf := ht.1 f hf
    rw [bit_done1] at hb
    rcases hb with hb | hb | hb
    · exact h.noe f (List.mem_cons_of_mem _ hf) hb
    · exact htf.2 hb
    · exact htf.1 hb.symm
theorem DI.list (R : RC ops b effs) {tm0 tm : Tr Value} {es : List Nat} {done k : Nat} (h : DI ops b effs tm0 es done tm k) {L : List Nat}
    (hm : ∀ i ∈ L, i < ops.size ∧ ¬ bit done i ∧ i ∉ effs) (hc : ∀ i ∈ L, ∀ j, anc b i j → ¬ bit done j → j ∉ effs → j ∈ L) (he : ∀ i ∈ L, ∀ j, anc b i j → j ∈ es → False) :
    ∀ i ∈ L, i < ops.size ∧ ¬ bit done i ∧ (∀ o, ops[i]? = some o → isEff o = false) ∧ ∀ j, anc b i j → bit done j ∨ j ∈ L := by
  intro i hi
  obtain ⟨h1, h2, h3⟩ := hm i hi
  refine ⟨h1, h2, fun o ho => ?_, fun j hj => ?_⟩
  · cases hx : isEff o with
    | false => rfl
    | true => exact absurd (R.mem_effs.2 ⟨o, ho, hx⟩) h3
  · by_cases hd : bit done j
    · exact .inl hd
    · refine .inr (hc i hi j hj hd fun hje => ?_)
      obtain ⟨pre, hp, hpd, _⟩ := h.sfx
      rw [hp.mem_iff] at hje
      rcases List.mem_append.1 hje with hje | hje
      · exact hd (hpd j hje)
      · exact he i hi j hj hje
theorem DI.pend (R : RC ops b effs) {tm0 tm : Tr Value} {e : Nat} {es : List Nat} {done k : Nat} (h : DI ops b effs tm0 (e :: es) done tm k) :
    ∀ i ∈ pending (List.range ops.size) effs (b.getD e 0) done, i < ops.size ∧ ¬ bit done i ∧ (∀ o, ops[i]? = some o → isEff o = false) ∧ ∀ j, anc b i j → bit done j ∨ j ∈ pending (List.range ops.size) effs (b.getD e 0) done := by
  refine DI.list R h (fun i hi => ?_) (fun i hi j hj hd hne => ?_) (fun i hi j hj hje => ?_)
  · rw [mem_pending] at hi; exact ⟨hi.1, hi.2.2⟩
  · rw [mem_pending] at hi ⊢
    exact ⟨by have := R.anc_lt _ _ hj; omega, R.anc_trans _ _ _ hi.2.1 hj, hd, hne⟩
  · rw [mem_pending] at hi
    have hej := R.anc_trans _ _ _ hi.2.1 hj
    rcases List.mem_cons.1 hje with rfl | hje
    · have := R.anc_lt _ _ hej; omega
    · exact ((List.pairwise_cons.1 h.topo).1 j hje).2 hej
theorem DI.last (R : RC ops b effs) {tm0 tm : Tr Value} {done k : Nat} (h : DI ops b effs tm0 [] done tm k) :
    ∀ i ∈ ((List.range ops.size).filter fun i => !done.testBit i && !effs.contains i), i < ops.size ∧ ¬ bit done i ∧ (∀ o, ops[i]? = some o → isEff o = false) ∧
      ∀ j, anc b i j → bit done j ∨ j ∈ ((List.range ops.size).filter fun i => !done.testBit i && !effs.contains i) := by
  refine DI.list R h (fun i hi => mem_rest.1 hi) (fun i hi j hj hd hne => ?_) (fun i hi j hj hje => by cases hje)
  rw [mem_rest] at hi ⊢
  exact ⟨by have := R.anc_lt _ _ hj; omega, hd, hne⟩
theorem pending_sorted {m done : Nat} : (pending (List.range ops.size) effs m done).Pairwise (· < ·) := List.Pairwise.filter _ List.pairwise_lt_range
theorem rest_sorted {done : Nat} : ((List.range ops.size).filter fun i => !done.testBit i && !effs.contains i).Pairwise (· < ·) := List.Pairwise.filter _ List.pairwise_lt_range
variable {ok : Ok} {n : Nat} {x : Ctx} {base : Nat} {G : Heap} {gs : List Heap} {ds : List Deferred} {tm0 tm : Tr Value} {st : St} {done : Nat} {es : List Nat}
theorem dstage_nil (h : dstage P ok n x ops b effs base [] done (G :: gs) tm ds = some st) :
    ∃ tm1 H1, dnon P ops b effs base (G :: gs) ((List.range ops.size).filter fun i => !done.testBit i && !effs.contains i) tm G = some (tm1, H1) ∧ st = ⟨tm1, ds, H1⟩ := by
  cases n with
  | zero => unfold dstage at h; cases h
  | succ n =>
    unfold dstage at h
    simp only at h
    split at h
    · rename_i tm1 H1 hd; cases h; exact ⟨tm1, H1, hd, rfl⟩
    · cases h
theorem dstage_cons {e : Nat} (h : dstage P ok n x ops b effs base (e :: es) done (G :: gs) tm ds = some st) :
    ∃ n' tm1 H1 o v ds1 H2, n = n' + 1 ∧ dnon P ops b effs base (G :: gs) (pending (List.range ops.size) effs (b.getD e 0) done) tm G = some (tm1, H1) ∧ ops[e]? = some o ∧
      ddraw P ok n' x ops b effs base es (done ||| b.getD e 0 ||| 2 ^ e) (H2 :: G :: gs) (putD tm1 o.dst v) ds1 = some st ∧
      ((dwanted ops tm1 o = some false ∧ v = undef ∧ ds1 = ds ∧ H2 = H1) ∨ (dwanted ops tm1 o = some true ∧ dop1 P ok n' x o (ev tm1) ds H1 = some (.val v ds1 H2))) := by
  cases n with
  | zero => unfold dstage at h; cases h
  | succ n =>
    unfold dstage at h
    simp only at h
    split at h
    · cases h
    · rename_i tm1 H1 hd
      split at h
      · cases h
      · rename_i o ho
        split at h
        · cases h
        · rename_i hw
          exact ⟨n, tm1, H1, o, undef, ds, H1, rfl, hd, ho, h, .inl ⟨hw, rfl, rfl, rfl⟩⟩
        · rename_i hw
          split at h
          · rename_i v ds1 H2 h1
            exact ⟨n, tm1, H1, o, v, ds1, H2, rfl, hd, ho, h, .inr ⟨hw, h1⟩⟩
          · cases h
theorem twin_inv {e f : Nat} (h : twin b es = some (e, f)) : es = [e, f] ∧ (b.getD f 0).testBit e = false ∧ e < f := by
  unfold twin at h
  split at h
  · split at h
    · cases h
    · rename_i hc
      cases h
      rw [Bool.or_eq_false_iff] at hc
      refine ⟨rfl, hc.1, ?_⟩
      have h2 := hc.2
      rw [← Bool.not_eq_true, Nat.ble_eq] at h2
      omega
  · cases h
theorem ddraw_stage (h : ddraw P ok n x ops b effs base es done (G :: gs) tm ds = some st) : ∃ n', n = n' + 1 ∧ dstage P ok n' x ops b effs base es done (G :: gs) tm ds = some st := by
  cases n with
  | zero => unfold ddraw at h; cases h
  | succ n =>
    unfold ddraw at h
    split at h
    · exact ⟨n, rfl, h⟩
    · rename_i e f ht
      obtain ⟨rfl, _, _⟩ := twin_inv ht
      split at h
      · rename_i st1 st2 h1 h2
        split at h
        · split at h
          · cases h; exact ⟨n, rfl, h1⟩
          · cases h
        · cases h
      · cases h
theorem ddraw_twin {e f : Nat} (hb : (b.getD f 0).testBit e = false) (hlt : e < f) (h : ddraw P ok n x ops b effs base [e, f] done (G :: gs) tm ds = some st) :
    ∃ st' p q, ddraw P ok n x ops b effs base [f, e] done (G :: gs) tm ds = some st' ∧ dtwin P ops b effs base done (G :: gs) tm e f = some (p, q) ∧ agree ops base p q st st' = true := by
  have ht : twin b [e, f] = some (e, f) := by
    have h2 : Nat.ble f e = false := by rw [← Bool.not_eq_true, Nat.ble_eq]; omega
    unfold twin
    simp only [hb, h2, Bool.or_self]
  have ht' : twin b [f, e] = none := by
    have h2 : Nat.ble e f = true := by rw [Nat.ble_eq]; omega
    unfold twin
    simp only [h2, Bool.or_true]
  cases n with
  | zero => unfold ddraw at h; cases h
  | succ n =>
    unfold ddraw at h
    rw [ht] at h
    simp only at h
    split at h
    · rename_i st1 st2 h1 h2
      split at h
      · rename_i p q hpq
        split at h
        · rename_i hag
          cases h
          refine ⟨st2, p, q, ?_, hpq, hag⟩
          unfold ddraw
          rw [ht']
          exact h2
        · cases h
      · cases h
    · cases h
theorem ddraw_nil (h : ddraw P ok n x ops b effs base [] done (G :: gs) tm ds = some st) :
    ∃ tm1 H1, dnon P ops b effs base (G :: gs) ((List.range ops.size).filter fun i => !done.testBit i && !effs.contains i) tm G = some (tm1, H1) ∧ st = ⟨tm1, ds, H1⟩ := by
  obtain ⟨n', _, h⟩ := ddraw_stage h
  exact dstage_nil h
theorem ddraw_cons {e : Nat} (h : ddraw P ok n x ops b effs base (e :: es) done (G :: gs) tm ds = some st) :
    ∃ n' tm1 H1 o v ds1 H2, n' < n ∧ dnon P ops b effs base (G :: gs) (pending (List.range ops.size) effs (b.getD e 0) done) tm G = some (tm1, H1) ∧ ops[e]? = some o ∧
      ddraw P ok n' x ops b effs base es (done ||| b.getD e 0 ||| 2 ^ e) (H2 :: G :: gs) (putD tm1 o.dst v) ds1 = some st ∧
      ((dwanted ops tm1 o = some false ∧ v = undef ∧ ds1 = ds ∧ H2 = H1) ∨ (dwanted ops tm1 o = some true ∧ dop1 P ok n' x o (ev tm1) ds H1 = some (.val v ds1 H2))) := by
  obtain ⟨m, rfl, hs⟩ := ddraw_stage h
  obtain ⟨n', tm1, H1, o, v, ds1, H2, rfl, hr⟩ := dstage_cons hs
  exact ⟨n', tm1, H1, o, v, ds1, H2, by omega, hr⟩
theorem ddraw_keeps (R : RC ops b effs) {t : Tmp} : ∀ {es : List Nat} {n done : Nat} {G : Heap} {gs : List Heap} {tm : Tr Value} {ds : List Deferred} {k : Nat},
    ddraw P ok n x ops b effs base es done (G :: gs) tm ds = some st → (∀ e ∈ es, ¬ bit done e) → es.Pairwise (fun e f => e ≠ f ∧ ¬ anc b e f) → (∀ i o, ops[i]? = some o → o.dst = some t → bit done i) → st.tm.get t = tm.get t
  | [], n, done, G, gs, tm, ds, k, h, _, _, ht => by
    obtain ⟨tm1, H1, hd, rfl⟩ := ddraw_nil h
    exact dnon_keeps hd fun i hi o ho hd => (mem_rest.1 hi).2.1 (ht i o ho hd)
  | e :: es, n, done, G, gs, tm, ds, k, h, he, hs, ht => by
    obtain ⟨n', tm1, H1, o, v, ds1, H2, _, hd, ho, h', _⟩ := ddraw_cons h
    have hs := List.pairwise_cons.1 hs
    rw [ddraw_keeps R (k := k) h' (fun f hf hb => ?_) hs.2 (fun i o ho hd => bit_done1.2 (.inl (ht i o ho hd))), (putD_get _ _ _ t).2 (fun hdst => he e (by simp) (ht e o ho hdst)),
      dnon_keeps hd fun i hi o ho hd => (mem_pending.1 hi).2.2.1 (ht i o ho hd)]
    have := hs.1 f hf
    rcases bit_done1.1 hb with hb | hb | hb
    · exact he f (List.mem_cons_of_mem _ hf) hb
    · exact this.2 hb
    · exact this.1 hb.symm
theorem stage_final (R : RC ops b effs) {e : Nat} {k : Nat} (D : DI ops b effs tm0 (e :: es) done tm k) {tm1 : Tr Value} {o : Oper} {v : Value} {n' : Nat} {H2 : Heap} {ds1 : List Deferred} (ho : ops[e]? = some o)
    (h' : ddraw P ok n' x ops b effs base es (done ||| b.getD e 0 ||| 2 ^ e) (H2 :: G :: gs) (putD tm1 o.dst v) ds1 = some st) :
    (∀ t, written ops (fun i => bit done i ∨ i ∈ pending (List.range ops.size) effs (b.getD e 0) done) t → tm1.get t = st.tm.get t) ∧ (∀ d, o.dst = some d → st.tm.get d = some v) := by
  have hs2 := List.pairwise_cons.1 D.topo
  have hno : ∀ f ∈ es, ¬ bit (done ||| b.getD e 0 ||| 2 ^ e) f := fun f hf hb => by
    have := hs2.1 f hf
    rcases bit_done1.1 hb with hb | hb | hb
    · exact D.noe f (List.mem_cons_of_mem _ hf) hb
    · exact this.2 hb
    · exact this.1 hb.symm
  have he : ¬ bit done e := D.noe e (by simp)
  constructor
  · rintro t ⟨p, op, hpp, hop, hd⟩
    have hpe : p ≠ e := by
      rintro rfl
      rcases hpp with hpp | hpp
      · exact he hpp
      · have h2 := (mem_pending.1 hpp).2.1
        have := R.anc_lt _ _ h2; omega
    rw [ddraw_keeps R (k := k) h' hno hs2.2 (fun i oi hoi hdi => ?_), (putD_get _ _ _ t).2 ((R.slot p e op o t hop ho hpe hd).1)]
    have hip : i = p := by
      by_cases h : p = i
      · exact h.symm
      · exact absurd hdi (R.slot p i op oi t hop hoi h hd).1
    subst hip
    rcases hpp with hpp | hpp
    · exact bit_done1.2 (.inl hpp)
    · exact bit_done1.2 (.inr (.inl (mem_pending.1 hpp).2.1))
  · intro d hd
    rw [ddraw_keeps R (k := k) h' hno hs2.2 (fun i oi hoi hdi => ?_), (putD_get _ _ _ d).1 hd]
    have hip : i = e := by
      by_cases h : e = i
      · exact h.symm
      · exact absurd hdi (R.slot e i o oi d ho hoi h hd).1
    exact bit_done1.2 (.inr (.inr hip))
theorem stage_t0 (R : RC ops b effs) {e : Nat} {tm1 : Tr Value} {o : Oper} {v : Value} (ho : ops[e]? = some o)
    (h0 : ∀ t, ¬ written ops (fun i => bit done i ∨ i ∈ pending (List.range ops.size) effs (b.getD e 0) done) t → tm1.get t = tm0.get t) :
    ∀ t, ¬ written ops (bit (done ||| b.getD e 0 ||| 2 ^ e)) t → (putD tm1 o.dst v).get t = tm0.get t := by
  intro t ht
  rw [(putD_get _ _ _ t).2 (fun hd => ht ⟨e, o, bit_done1.2 (.inr (.inr rfl)), ho, hd⟩)]
  refine h0 t fun hw => ht (written_mono (fun i hi => ?_) hw)
  rcases hi with hi | hi
  · exact bit_done1.2 (.inl hi)
  · exact bit_done1.2 (.inr (.inl (mem_pending.1 hi).2.1))
theorem ddraw_facts (R : RC ops b effs) : ∀ {es : List Nat} {n done : Nat} {G : Heap} {gs : List Heap} {tm : Tr Value} {ds : List Deferred} {k : Nat},
    ddraw P ok n x ops b effs base es done (G :: gs) tm ds = some st → DI ops b effs tm0 es done tm k →
    ∀ i o, ops[i]? = some o → isEff o = false → ¬ bit done i → ∀ pre G' post, G :: gs = pre ++ G' :: post → effsIn effs (b.getD i 0) ≤ post.length → FN P ops b base tm0 st.tm i o G'
  | [], n, done, G, gs, tm, ds, k, h, D, i, o, ho, hie, hid => by
    obtain ⟨tm1, H1, hd, rfl⟩ := ddraw_nil h
    have := dnon_facts R (tmF := tm1) hd rest_sorted D.ds (D.last R) (fun t _ => rfl) D.t0
    exact this.1 i (mem_rest.2 ⟨lt_of_some ho, hid, fun he => by
      obtain ⟨o', ho', he'⟩ := R.mem_effs.1 he
      rw [ho] at ho'
      cases ho'
      rw [hie] at he'
      cases he'⟩) o ho
  | e :: es, n, done, G, gs, tm, ds, k, h, D, i, o, ho, hie, hid => by
    obtain ⟨n', tm1, H1, oe, v, ds1, H2, _, hd, hoe, h', _⟩ := ddraw_cons h
    obtain ⟨f1, f2⟩ := stage_final R D hoe h'
    have hfac := dnon_facts R (tmF := st.tm) hd pending_sorted D.ds (D.pend R) f1 D.t0
    have hne : i ∉ effs := fun he => by
      obtain ⟨o', ho', he'⟩ := R.mem_effs.1 he
      rw [ho] at ho'
      cases ho'
      rw [hie] at he'
      cases he'
    by_cases hi : anc b e i
    · exact hfac.1 i (mem_pending.2 ⟨lt_of_some ho, hi, hid, hne⟩) o ho
    · intro pre G' post hhs hle
      refine ddraw_facts R h' (D.next R (stage_t0 R hoe hfac.2.1)) i o ho hie (fun hb => ?_) (H2 :: pre) G' post (by rw [hhs]; rfl) hle
      rcases bit_done1.1 hb with hb | hb | rfl
      · exact hid hb
      · exact hi hb
      · exact hne (by obtain ⟨pre, hp, _⟩ := D.sfx; exact hp.mem_iff.2 (by simp))
end
end Go.Hb
end

-- Draw3
section
namespace Go.Hb
open Go Go.RowKit
def DsR (σ : Nat → Loc) (τ : Nat → Value) : List Deferred → List Deferred → Prop
  | [], [] => True
  | d :: ds, d' :: ds' => DfR σ τ d d' ∧ DsR σ τ ds ds'
  | _, _ => False
def GR (P : Program) (σ : Nat → Loc) : Prop := ∀ g, g < P.globals.size → σ g = .dead ∨ ∃ S es, σ g = .live g S es
section
variable {P : Program} {N : Nat} {w0 : World} {τ : Nat → Value} {σ σ' : Nat → Loc} {H H' : Heap} {w w' : World}
theorem RA.ext (he : Ext σ σ') {x y : Array Value} (h : RA σ τ x y) : RA σ' τ x y := LR.ext he h
theorem DfR.ext (he : Ext σ σ') {d d' : Deferred} (h : DfR σ τ d d') : DfR σ' τ d d' := by
  refine ⟨h.1.ext he, ?_⟩
  rcases h.2 with ⟨f, c, c', h1, h2, h3⟩ | ⟨l, l', h1, h2, h3⟩
  · exact .inl ⟨f, c, c', h1, h2, h3.ext he⟩
  · exact .inr ⟨l, l', h1, h2, h3.ext he⟩
theorem DsR.ext (he : Ext σ σ') : ∀ {ds ds' : List Deferred}, DsR σ τ ds ds' → DsR σ' τ ds ds'
  | [], [], _ => trivial
  | _ :: _, _ :: _, h => ⟨h.1.ext he, DsR.ext he h.2⟩
  | [], _ :: _, h => h.elim
  | _ :: _, [], h => h.elim
theorem GR.ext (h : GR P σ) (he : Ext σ σ') : GR P σ' := by
  intro g hg
  rcases he g with h1 | h1 | ⟨_, h1⟩
  · rcases h g hg with h2 | ⟨S, es, h2⟩ <;> rw [h1] at h2 <;> cases h2
  · rw [h1]; exact h g hg
  · exact .inl h1
theorem GR.ptr (h : GR P σ) {g : Nat} (hg : g < P.globals.size) : VR σ τ (.pointer (some ⟨g, 0, none⟩)) (.pointer (some ⟨g, 0, none⟩)) := by
  refine .ptr _ _ ?_
  unfold AR
  rcases h g hg with h1 | ⟨S, es, h1⟩
  · simp only [h1]
  · simp [h1]
theorem BlkR.step {B : Blk} {i : Nat} (h : BlkR P N σ τ w (σ i) B) (hH : HR P N w0 τ σ H w) (hs : Step σ H w σ' H' w') (hg : H.get i = none) : BlkR P N σ' τ w' (σ' i) B := by
  obtain ⟨b, S, es, hl⟩ := h.live
  have hk := hs.keep i (.inr (by rw [hl]; simp)) hg
  rw [hk.1]
  refine (h.ext hs.ext).world fun c S' es' hc => ?_
  refine hs.frame c (hH.lt i c S' es' hc) fun j S2 es2 hj => ?_
  rw [hH.inj j i c S2 es2 S' es' hj hc]; exact hg
theorem HR.adopt (h : HR P N w0 τ σ H w) {i : Nat} {B : Blk} (hB : BlkR P N σ τ w (σ i) B) : HR P N w0 τ σ (H.put i (some B)) w := by
  refine ⟨h.below, h.size, h.fresh, fun j C hj => ?_, h.inj, h.lt⟩
  rw [Heap.get_put] at hj
  by_cases hji : j = i
  · rw [if_pos hji] at hj; cases hj; rw [hji]; exact hB
  · rw [if_neg hji] at hj; exact h.blk j C hj
theorem HR.extra (h : HR P N w0 τ σ H w) {i : Nat} (ob : Obj) (S es : Nat) (hi : i < H.next) (hn : σ i = .none) :
    HR P N w0 τ (upd σ i (.live w.heap.size S es)) H (w.alloc ob) := by
  have he : Ext σ (upd σ i (.live w.heap.size S es)) := fun j => by
    by_cases hj : j = i
    · rw [hj]; exact .inl hn
    · exact .inr (.inl (upd_other _ _ hj))
  have hsz : (w.alloc ob).heap.size = w.heap.size + 1 := by simp
  have hlt := h.lt
  refine ⟨h.below.trans ⟨rfl, rfl, rfl, by rw [hsz]; omega, fun k hk => Below.heap_alloc w _ k (Nat.lt_of_lt_of_le hk h.size)⟩, by have := h.size; omega, fun j hj => ?_, fun j C hj => ?_, fun j k b S1 e1 S2 e2 hj hk => ?_, fun j b S1 e1 hj => ?_⟩
  · rw [upd_other _ _ (by omega)]; exact h.fresh j hj
  · have hB := h.blk j C hj
    have hji : j ≠ i := fun e => by
      obtain ⟨b, S', es', hl⟩ := hB.live
      rw [e, hn] at hl; cases hl
    rw [upd_other _ _ hji]
    exact (hB.ext he).world fun c S' es' hc => Below.heap_alloc w _ c (hlt j c S' es' hc)
  · by_cases hj1 : j = i
    · by_cases hk1 : k = i
      · rw [hj1, hk1]
      · rw [hj1, upd_same] at hj; cases hj
        rw [upd_other _ _ hk1] at hk
        have := hlt k _ _ _ hk; omega
    · rw [upd_other _ _ hj1] at hj
      by_cases hk1 : k = i
      · rw [hk1, upd_same] at hk; cases hk
        have := hlt j _ _ _ hj; omega
      · rw [upd_other _ _ hk1] at hk
        exact h.inj j k b S1 e1 S2 e2 hj hk
  · by_cases hj1 : j = i
    · rw [hj1, upd_same] at hj; cases hj; omega
    · rw [upd_other _ _ hj1] at hj; have := hlt j b S1 e1 hj; omega
theorem Step.extra {σ0 : Nat → Loc} {H0 : Heap} {w1 : World} (h : Step σ0 H0 w1 σ H w) {i : Nat} (ob : Obj) (S es : Nat) (hi : H0.next ≤ i) (h0 : σ0 i = .none) :
    Step σ0 H0 w1 (upd σ i (.live w.heap.size S es)) H (w.alloc ob) := by
  have hsz : (w.alloc ob).heap.size = w.heap.size + 1 := by simp
  refine ⟨h.next, fun j => ?_, fun j b S1 e1 hj => ?_, fun b hb hn => ?_, by have := h.size; omega, fun j hj hg => ?_⟩
  · by_cases hji : j = i
    · rw [hji]; exact .inl h0
    · rw [upd_other _ _ hji]; exact h.ext j
  · by_cases hji : j = i
    · rw [hji, upd_same] at hj; cases hj; exact .inl h.size
    · rw [upd_other _ _ hji] at hj; exact h.new j b S1 e1 hj
  · rw [Below.heap_alloc w _ b (Nat.lt_of_lt_of_le hb h.size)]; exact h.frame b hb hn
  · have hji : j ≠ i := by
      rintro rfl
      rcases hj with hj | hj
      · omega
      · exact hj h0
    rw [upd_other _ _ hji]; exact h.keep j hj hg
theorem Step.adopt {σ0 : Nat → Loc} {H0 : Heap} {w1 : World} (h : Step σ0 H0 w1 σ H w) {i : Nat} (B : Blk) (hi : H0.next ≤ i) (h0 : σ0 i = .none) : Step σ0 H0 w1 σ (H.put i (some B)) w := by
  refine ⟨h.next, h.ext, h.new, h.frame, h.size, fun j hj hg => ?_⟩
  obtain ⟨e1, e2⟩ := h.keep j hj hg
  have hji : j ≠ i := by
    rintro rfl
    rcases hj with hj | hj
    · omega
    · exact hj h0
  exact ⟨e1, by rw [Heap.get_put, if_neg hji]; exact e2⟩
theorem adopts {σ0 : Nat → Loc} {H0 : Heap} {w1 : World} {base : Nat} (h0 : ∀ i, base ≤ i → H0.next ≤ i ∧ σ0 i = .none) : ∀ (l : List (Nat × Blk)) (H : Heap), HR P N w0 τ σ H w → Step σ0 H0 w1 σ H w →
    (∀ p ∈ l, BlkR P N σ τ w (σ (base + p.1)) p.2) →
    HR P N w0 τ σ (l.foldl (fun H p => H.put (base + p.1) (some p.2)) H) w ∧ Step σ0 H0 w1 σ (l.foldl (fun H p => H.put (base + p.1) (some p.2)) H) w ∧
    (l.foldl (fun H p => H.put (base + p.1) (some p.2)) H).next = H.next ∧
    ∀ j, (∀ p ∈ l, j ≠ base + p.1) → (l.foldl (fun H p => H.put (base + p.1) (some p.2)) H).get j = H.get j
  | [], H, hH, hs, _ => ⟨hH, hs, rfl, fun _ _ => rfl⟩
  | p :: l, H, hH, hs, hl => by
    have h1 := h0 (base + p.1) (Nat.le_add_right _ _)
    obtain ⟨k1, k2, k3, k4⟩ := adopts h0 l (H.put (base + p.1) (some p.2)) (hH.adopt (hl p (by simp))) (hs.adopt p.2 h1.1 h1.2) (fun q hq => hl q (List.mem_cons_of_mem _ hq))
    refine ⟨k1, k2, k3, fun j hj => ?_⟩
    rw [List.foldl_cons, k4 j (fun q hq => hj q (List.mem_cons_of_mem _ hq)), Heap.get_put, if_neg (hj p (by simp))]
theorem wanted_of {ops : Array Oper} {o : Oper} {tm : Tr Value} {a : Array Value} {bb : Bool}
    (hT : ∀ j want oj d v, o.guard = some (j, want) → ops[j]? = some oj → oj.dst = some d → tm.get d = some v → VR σ τ v (a.getD d undef)) (h : dwanted ops tm o = some bb) :
    Region.wanted o (yielded ops a) = bb := by
  unfold dwanted at h
  unfold Region.wanted
  cases hg : o.guard with
  | none => rw [hg] at h; simp only [Option.some.injEq] at h; exact h
  | some jw =>
    obtain ⟨j, want⟩ := jw
    rw [hg] at h
    simp only at h ⊢
    cases hd : (ops[j]?).bind (·.dst) with
    | none =>
      rw [hd] at h
      simp only [Option.some.injEq] at h
      subst h
      simp [yielded, hd]
    | some d =>
      rw [hd] at h
      obtain ⟨oj, hoj, hdj⟩ := Option.bind_eq_some_iff.1 hd
      simp only at h
      have hv := hT j want oj d
      cases hq : tm.get d with
      | none => rw [hq] at h; cases h
      | some v =>
        have hvr := hv v hg hoj hdj hq
        rw [hq] at h
        have hin : ∀ u : Value, a.getD d undef = u → u ≠ undef → a[d]? = some u := by
          intro u hu hne
          rw [Array.getD_eq_getD_getElem?] at hu
          cases hx : a[d]? with
          | none => rw [hx] at hu; exact absurd hu.symm hne
          | some z => rw [hx] at hu; simp at hu; rw [hu]
        split at h
        · rename_i x c hx
          cases hx
          simp only [Option.some.injEq] at h
          subst h
          have := hin _ (hvr.flat_eq rfl) (by simp [undef])
          simp [yielded, hd, this]
        · rename_i x c hx
          cases hx
          cases h
          obtain ⟨x', e1, _⟩ := hvr.tuple_inv
          have hy : yielded ops a j = none := by
            unfold yielded
            rw [hd]
            simp only [Option.bind_some]
            rw [Array.getD_eq_getD_getElem?] at e1
            cases hx : a[d]? with
            | none => rfl
            | some z => rw [hx] at e1; simp at e1; rw [e1]
          simp [hy]
        · cases h
end
structure SI (P : Program) (N : Nat) (w0 : World) (τ : Nat → Value) (ops : Array Oper) (b : Array Nat) (base m : Nat) (tm0 tmF : Tr Value) (σ0 : Nat → Loc) (H0 : Heap) (w1 : World)
    (S : Nat → Prop) (done : Nat) (G : Heap) (ds : List Deferred) (σ : Nat → Loc) (a : Act) (w : World) : Prop where
  hH : HR P N w0 τ σ G w
  ta : ∀ t v, (written ops S t → tmF.get t = some v → VR σ τ v (a.tmps.getD t undef)) ∧ (¬ written ops S t → tm0.get t = some v → VR σ τ v (a.tmps.getD t undef))
  dsr : DsR σ τ ds a.defers
  sz : m ≤ a.tmps.size
  ex : ∀ p o B mk, S p → ¬ bit done p → ops[p]? = some o → isAlloc o = true → dwanted ops tmF o = some true → dalloc P o (rho ops b tm0 tmF p) = some (B, mk) → BlkR P N σ τ w (σ (base + p)) B
  non : ∀ p, p < ops.size → ¬ S p → σ (base + p) = .none
  nob : ∀ p, p < ops.size → ¬ bit done p → G.get (base + p) = none
  nx : base + ops.size ≤ G.next
  stp : Step σ0 H0 w1 σ G w
def DrawPost (P : Program) (N : Nat) (w0 : World) (τ : Nat → Value) (m : Nat) (σ0 : Nat → Loc) (H0 : Heap) (w1 : World) (st : St) (Q : Exit → Act → World → Prop) : Prop :=
  ∀ σ a w, HR P N w0 τ σ st.H w → TmR σ τ st.tm a.tmps → DsR σ τ st.ds a.defers → m ≤ a.tmps.size → Step σ0 H0 w1 σ st.H w → Q .normal a w
structure Seen (P : Program) (N : Nat) (w0 : World) (τ : Nat → Value) (ops : Array Oper) (m : Nat) (tm0 : Tr Value) (σ0 : Nat → Loc) (H0 : Heap) (w1 : World) (σ : Nat → Loc) (H : Heap) (a : Act) (w : World) : Prop where
  tm : ∀ t v, (∀ (i : Nat) (o : Oper), ops[i]? = some o → o.dst ≠ some t) → tm0.get t = some v → VR σ τ v (a.tmps.getD t undef)
  sz : m ≤ a.tmps.size
  stp : Step σ0 H0 w1 σ H w
def EffLaw (F : Fence) (P : Program) (N : Nat) (w0 : World) (τ : Nat → Value) (ok : Ok) (n : Nat) (x : Ctx) (ops : Array Oper) (m : Nat) (tm0 : Tr Value) (σ0 : Nat → Loc) (H0 : Heap) (w1 : World) (Q : Exit → Act → World → Prop) (Z : Prop) (B : Oper → (Operand → Value) → List Deferred → Heap → Prop) : Prop :=
  ∀ n', n' < n → ∀ o ρ ds H v ds1 H1, o ∈ ops → Z ∨ B o ρ ds H → dop1 P ok n' x o ρ ds H = some (.val v ds1 H1) →
    ∀ (a : Act) (w : World) (σ : Nat → Loc) (K : Act → World → Prop), (∀ y ∈ o.op.operands.toList, VR σ τ (ρ y) (a.eval y)) → HR P N w0 τ σ H w → DsR σ τ ds a.defers → GR P σ → Seen P N w0 τ ops m tm0 σ0 H0 w1 σ H a w →
      (Z → ∀ σ' v' w' dfs', VR σ' τ v v' → HR P N w0 τ σ' H1 w' → DsR σ' τ ds1 dfs' → Step σ H w σ' H1 w' → K (({ a with defers := dfs' } : Act).put o.dst v') w') → o.wpIn F 0 P a w K Q
section
variable {P : Program} {N : Nat} {w0 : World} {τ : Nat → Value} {ops : Array Oper} {b : Array Nat} {effs : List Nat} {F : Fence} {ok : Ok} {n : Nat} {x : Ctx} {base m : Nat} {tm0 tmF : Tr Value} {σ0 : Nat → Loc} {H0 : Heap} {w1 : World}
theorem act_put_tmps (a : Act) (d : Option Tmp) (v : Value) (t : Tmp) : ((a.put d v).tmps.getD t undef = if d = some t ∧ t < a.tmps.size then v else a.tmps.getD t undef) := by
  cases d with
  | none => simp [Act.put]
  | some d =>
    simp only [Act.put, Array.getD_eq_getD_getElem?, Array.getElem?_setIfInBounds]
    by_cases h : d = t
    · subst h
      by_cases h2 : d < a.tmps.size
      · simp [h2]
      · simp [h2]
    · simp [h]
theorem act_put_size (a : Act) (d : Option Tmp) (v : Value) : (a.put d v).tmps.size = a.tmps.size := by cases d <;> simp [Act.put]
theorem act_put_defers (a : Act) (d : Option Tmp) (v : Value) : (a.put d v).defers = a.defers := by cases d <;> rfl
theorem SI.opnd {S : Nat → Prop} {done : Nat} {G : Heap} {ds : List Deferred} {σ : Nat → Loc} {a : Act} {w : World} (R : RC ops b effs)
    (h : SI P N w0 τ ops b base m tm0 tmF σ0 H0 w1 S done G ds σ a w) (hS : DS ops b S) (hg : GR P σ) {i : Nat} {o : Oper} (ho : ops[i]? = some o) (hi : ¬ S i) (ha : ∀ j, anc b i j → S j)
    (hok : o.op.operands.toList.all (okOpnd P.globals.size) = true) : ∀ y ∈ o.op.operands.toList, VR σ τ (rho ops b tm0 tmF i y) (a.eval y) := by
  intro y hy
  cases y with
  | tmp t =>
    unfold rho
    simp only
    show VR σ τ _ (a.tmps.getD t undef)
    split
    · rename_i hw
      show VR σ τ ((tmF.get t).getD junk) _
      cases hq : tmF.get t with
      | none => exact .junk _
      | some v => exact (h.ta t v).1 (written_mono ha hw) hq
    · rename_i hw
      show VR σ τ ((tm0.get t).getD junk) _
      cases hq : tm0.get t with
      | none => exact .junk _
      | some v => exact (h.ta t v).2 (R.not_written hS ho hi hy hw) hq
  | const v => exact .flat _ (List.all_eq_true.1 hok _ hy)
  | global g => exact hg.ptr (by simpa [okOpnd, Nat.blt_eq] using List.all_eq_true.1 hok _ hy)
  | func f => exact .flat _ rfl
theorem SI.slots {S : Nat → Prop} {done : Nat} {G : Heap} {ds : List Deferred} {σ σ' : Nat → Loc} {a a' : Act} {w : World} (R : RC ops b effs)
    (h : SI P N w0 τ ops b base m tm0 tmF σ0 H0 w1 S done G ds σ a w) (he : Ext σ σ') {i : Nat} {o : Oper} (ho : ops[i]? = some o) (hi : ¬ S i) {v' : Value}
    (hd : ∀ d, o.dst = some d → d < m) (hv : ∀ d v, o.dst = some d → tmF.get d = some v → VR σ' τ v v') (ha : a'.tmps = a.tmps) :
    ∀ t v, (written ops (fun j => S j ∨ j = i) t → tmF.get t = some v → VR σ' τ v ((a'.put o.dst v').tmps.getD t undef)) ∧
      (¬ written ops (fun j => S j ∨ j = i) t → tm0.get t = some v → VR σ' τ v ((a'.put o.dst v').tmps.getD t undef)) := by
  intro t v
  rw [act_put_tmps, ha]
  by_cases hdt : o.dst = some t
  · have hlt : t < a.tmps.size := Nat.lt_of_lt_of_le (hd t hdt) h.sz
    rw [if_pos ⟨hdt, hlt⟩]
    exact ⟨fun _ hq => hv t v hdt hq, fun hn => absurd ⟨i, o, .inr rfl, ho, hdt⟩ hn⟩
  · rw [if_neg (fun h => hdt h.1)]
    constructor
    · rintro ⟨p, op, hp, hop, hpd⟩ hq
      rcases hp with hp | rfl
      · exact ((h.ta t v).1 ⟨p, op, hp, hop, hpd⟩ hq).ext he
      · rw [ho] at hop; cases hop; exact absurd hpd hdt
    · intro hn hq
      exact ((h.ta t v).2 (fun hw => hn (written_mono (fun i hi => .inl hi) hw)) hq).ext he
theorem filter_lt {p q : Nat → Bool} : ∀ {l : List Nat} {i : Nat}, (∀ j, q j = true → p j = true) → i ∈ l → p i = true → q i = false → (l.filter q).length < (l.filter p).length
  | a :: l, i, hpq, hm, hp, hq => by
    have hle : (l.filter q).length ≤ (l.filter p).length := by
      rw [← List.countP_eq_length_filter, ← List.countP_eq_length_filter]
      exact List.countP_mono_left fun j _ hj => hpq j hj
    by_cases hai : a = i
    · subst hai
      rw [List.filter_cons_of_pos hp, List.filter_cons_of_neg (by simp [hq]), List.length_cons]; omega
    · have ih := filter_lt hpq ((List.mem_cons.1 hm).resolve_left (fun e => hai e.symm)) hp hq
      by_cases hqa : q a = true
      · rw [List.filter_cons_of_pos hqa, List.filter_cons_of_pos (hpq a hqa), List.length_cons, List.length_cons]; omega
      · rw [List.filter_cons_of_neg hqa]
        by_cases hpa : p a = true
        · rw [List.filter_cons_of_pos hpa, List.length_cons]; omega
        · rw [List.filter_cons_of_neg hpa]; exact ih
def lst (listed : Array Bool) (i : Nat) : Prop := listed.getD i false = true
theorem lst_set {listed : Array Bool} {i j : Nat} (hi : i < listed.size) : lst (listed.setIfInBounds i true) j ↔ lst listed j ∨ j = i := by
  unfold lst
  simp only [Array.getD_eq_getD_getElem?, Array.getElem?_setIfInBounds]
  by_cases h : i = j
  · subst h; simp [hi]
  · simp only [if_neg h]
    constructor
    · exact .inl
    · rintro (h1 | h1)
      · exact h1
      · exact absurd h1.symm h
theorem mem_ready {listed : Array Bool} {i : Nat} (R : RC ops b effs) (hl : listed.size = ops.size) (hS : DS ops b (lst listed)) :
    i ∈ Region.ready .any ops listed ↔ i < ops.size ∧ ¬ lst listed i ∧ ∀ j, anc b i j → lst listed j := by
  unfold Region.ready
  rw [List.mem_filter, List.mem_range]
  constructor
  · rintro ⟨h1, h2⟩
    obtain ⟨o, ho⟩ := some_of_lt h1
    simp only [Bool.and_eq_true, Bool.not_eq_true', ho, Option.map_some, Option.getD_some] at h2
    refine ⟨h1, fun hl' => ?_, fun j hj => ?_⟩
    · unfold lst at hl'
      have h3 := h2.1
      rw [Array.getD_eq_getD_getElem?] at hl' h3
      cases hx : listed[i]? with
      | none => rw [hx] at hl'; cases hl'
      | some v => rw [hx] at hl' h3; simp at hl' h3; rw [hl'] at h3; cases h3
    · obtain ⟨e, he, hb, h3⟩ := (R.edge i o ho j).1 hj
      have h4 := h2.2
      rw [Array.all_eq_true'] at h4
      have h5 := h4 e (Array.mem_toList_iff.1 he)
      rw [hb] at h5
      simp only [Bool.not_true, Bool.false_or] at h5
      rcases h3 with rfl | h3
      · exact h5
      · exact (hS _ h5).2 j h3
  · rintro ⟨h1, h2, h3⟩
    obtain ⟨o, ho⟩ := some_of_lt h1
    refine ⟨h1, ?_⟩
    simp only [Bool.and_eq_true, Bool.not_eq_true', ho, Option.map_some, Option.getD_some]
    constructor
    · unfold lst at h2
      rw [Array.getD_eq_getD_getElem?] at h2 ⊢
      cases hx : listed[i]? with
      | none => rw [Array.getElem?_eq_none_iff] at hx; omega
      | some v => rw [hx] at h2; simpa using h2
    · rw [Array.all_eq_true']
      intro e he
      cases hb : Region.binds .any e with
      | false => rfl
      | true =>
        simp only [Bool.not_true, Bool.false_or]
        exact h3 _ ((R.edge i o ho e.on).2 ⟨e, Array.mem_toList_iff.2 he, hb, .inl rfl⟩)
theorem all_listed {listed : Array Bool} (R : RC ops b effs) (hl : listed.size = ops.size) (hS : DS ops b (lst listed)) (h : Region.ready .any ops listed = []) : ∀ i, i < ops.size → lst listed i := by
  intro i
  induction i using Nat.strongRecOn with
  | _ i ih =>
    intro hi
    by_cases hx : lst listed i
    · exact hx
    · have : i ∈ Region.ready .any ops listed := (mem_ready R hl hS).2 ⟨hi, hx, fun j hj => ih j (R.anc_lt _ _ hj) (by have := R.anc_lt _ _ hj; omega)⟩
      rw [h] at this; cases this
end
end Go.Hb
end

-- Draw5
section
namespace Go.Hb
open Go Go.RowKit
theorem cellEq_eq {v u : Value} (h : cellEq v u = true) : v = u := by
  unfold cellEq at h
  rw [Bool.or_eq_true] at h
  rcases h with h | h
  · exact veq_eq v u h
  · split at h
    · rfl
    · cases h
theorem cellsEq_eq : ∀ {a b : List Value}, cellsEq a b = true → a = b
  | [], [], _ => rfl
  | v :: a, u :: b, h => by
    unfold cellsEq at h
    rw [Bool.and_eq_true] at h
    rw [cellEq_eq h.1, cellsEq_eq h.2]
  | [], _ :: _, h => by unfold cellsEq at h; cases h
  | _ :: _, [], h => by unfold cellsEq at h; cases h
theorem blkEq_eq {a b : Option Blk} (h : blkEq a b = true) : a = b := by
  unfold blkEq at h
  split at h
  · rfl
  · rw [Bool.and_eq_true, Nat.beq_eq] at h; rw [h.1, cellsEq_eq h.2]
  · rw [Bool.and_eq_true, Nat.beq_eq] at h; rw [h.1, cellsEq_eq h.2]
  · rw [Nat.beq_eq] at h; rw [h]
  · cases h
theorem slotEq_eq {a b : Option Value} (h : slotEq a b = true) : a = b := by
  unfold slotEq at h
  split at h
  · rfl
  · rw [cellEq_eq h]
  · cases h
section
variable {P : Program} {ops : Array Oper} {b : Array Nat} {effs : List Nat} {ok : Ok} {n : Nat} {x : Ctx} {base : Nat}
theorem agree_inv {p q : Nat} {st st' : St} (h : agree ops base p q st st' = true) :
    (∀ (i : Nat) (o : Oper) (d : Tmp), ops[i]? = some o → o.dst = some d → st.tm.get d = st'.tm.get d) ∧ st.H.get p = st'.H.get p ∧ st.H.get q = st'.H.get q ∧ ∀ i, i < ops.size → st.H.get (base + i) = st'.H.get (base + i) := by
  unfold agree at h
  simp only [Bool.and_eq_true, List.all_eq_true] at h
  obtain ⟨⟨⟨h1, h2⟩, h3⟩, h4⟩ := h
  refine ⟨fun i o d ho hd => ?_, blkEq_eq h2, blkEq_eq h3, fun i hi => blkEq_eq (h4 i (List.mem_range.2 hi))⟩
  have hm : o ∈ ops.toList := by
    obtain ⟨k1, k2⟩ := Array.getElem?_eq_some_iff.1 ho
    rw [← k2]; exact Array.getElem_mem_toList k1
  have := h1 o hm
  rw [hd] at this
  exact slotEq_eq this
theorem isSt_inv {e : Nat} {o : Oper} (h : isSt ops e = true) (ho : ops[e]? = some o) : o.dst = none ∧ o.guard = none ∧ ∃ t a v, o.op = .store t a v := by
  unfold isSt at h
  rw [ho] at h
  simp only [Bool.and_eq_true, Option.isNone_iff_eq_none] at h
  refine ⟨h.1.1, h.1.2, ?_⟩
  have := h.2
  split at this
  · rename_i t a v hop; exact ⟨t, a, v, hop⟩
  · cases this
theorem foldl_puts : ∀ (l : List (Nat × Blk)) (H : Heap), (l.foldl (fun H p => H.put (base + p.1) (some p.2)) H).next = H.next ∧
    ∀ j, (∀ p ∈ l, j ≠ base + p.1) → (l.foldl (fun H p => H.put (base + p.1) (some p.2)) H).get j = H.get j
  | [], H => ⟨rfl, fun _ _ => rfl⟩
  | p :: l, H => by
    obtain ⟨h1, h2⟩ := foldl_puts l (H.put (base + p.1) (some p.2))
    refine ⟨h1, fun j hj => ?_⟩
    rw [List.foldl_cons, h2 j (fun q hq => hj q (List.mem_cons_of_mem _ hq)), Heap.get_put, if_neg (hj p (by simp))]
theorem store_frame {o : Oper} {ρ : Operand → Value} {ds ds1 : List Deferred} {H H' : Heap} {v : Value} {t : TypeId} {a y : Operand} (hop : o.op = .store t a y) (h : dop1 P ok n x o ρ ds H = some (.val v ds1 H')) :
    ds1 = ds ∧ H'.next = H.next ∧ ∀ j, stBlk o ρ ≠ some j → H'.get j = H.get j := by
  cases n with
  | zero => unfold dop1 at h; cases h
  | succ n =>
    unfold dop1 at h
    have hd : ∀ r, dop P o ρ H = some r → ∃ H2, r = .val undef H2 ∧ H2.next = H.next ∧ ∀ j, stBlk o ρ ≠ some j → H2.get j = H.get j := by
      intro r hr
      unfold dop at hr
      rw [hop] at hr
      simp only at hr
      split at hr
      · rename_i ad hρ
        split at hr
        · obtain ⟨H2, h2, rfl⟩ := Option.map_eq_some_iff.1 hr
          refine ⟨H2, rfl, ?_⟩
          unfold Heap.store at h2
          split at h2
          · split at h2
            · cases h2
              refine ⟨rfl, fun j hj => ?_⟩
              rw [Heap.get_put, if_neg]
              rintro rfl
              refine hj ?_
              unfold stBlk
              rw [hop]
              simp only [hρ]
            · cases h2
          · cases h2
        · cases hr
      · cases hr
    split at h
    · rename_i v' H2 hd2
      cases h
      obtain ⟨H3, e, h1, h2⟩ := hd _ hd2
      cases e
      exact ⟨rfl, h1, h2⟩
    all_goals first
      | (rename_i hd2; obtain ⟨_, e, _⟩ := hd _ hd2; cases e; done)
      | cases h
      | skip
theorem stBlk_congr {o : Oper} {ρ ρ' : Operand → Value} (h : ∀ y ∈ o.op.operands.toList, ρ y = ρ' y) : stBlk o ρ = stBlk o ρ' := by
  unfold stBlk
  cases hop : o.op with
  | store t a v =>
    simp only
    rw [h a (by rw [hop]; simp [Op.operands])]
  | _ => rfl
theorem ddraw_frame (R : RC ops b effs) {tm0 : Tr Value} {st : St} : ∀ {es : List Nat} {n done : Nat} {G : Heap} {gs : List Heap} {tm : Tr Value} {ds : List Deferred} {k : Nat},
    ddraw P ok n x ops b effs base es done (G :: gs) tm ds = some st → DI ops b effs tm0 es done tm k → (∀ e ∈ es, isSt ops e = true) →
    st.H.next = G.next ∧ st.ds = ds ∧ ∀ j, (∀ i, i < ops.size → j ≠ base + i) → (∀ e ∈ es, ∀ o, ops[e]? = some o → stBlk o (rho ops b tm0 st.tm e) ≠ some j) → st.H.get j = G.get j
  | [], n, done, G, gs, tm, ds, k, h, D, _ => by
    obtain ⟨tm1, H1, hd, rfl⟩ := ddraw_nil h
    obtain ⟨_, _, l, hl1, hl2⟩ := dnon_facts R (tmF := tm1) hd rest_sorted D.ds (D.last R) (fun t _ => rfl) D.t0
    simp only at hl1
    subst hl1
    obtain ⟨f1, f2⟩ := foldl_puts (base := base) l G
    exact ⟨f1, rfl, fun j hj _ => f2 j fun p hp => hj p.1 (mem_rest.1 (hl2 p hp).1).1⟩
  | e :: es, n, done, G, gs, tm, ds, k, h, D, hst => by
    obtain ⟨n', tm1, H1, o, v, ds1, H2, _, hdn, ho, h', hc⟩ := ddraw_cons h
    obtain ⟨f1, f2⟩ := stage_final R D ho h'
    obtain ⟨_, ht0, l, hl1, hl2⟩ := dnon_facts R (tmF := st.tm) hdn pending_sorted D.ds (D.pend R) f1 D.t0
    simp only at hl1
    subst hl1
    obtain ⟨g1, g2⟩ := foldl_puts (base := base) l G
    obtain ⟨e1, e2, t, a, y, e3⟩ := isSt_inv (hst e (by simp)) ho
    obtain ⟨k1, k2, k3⟩ := ddraw_frame R h' (D.next R (stage_t0 R ho ht0)) (fun f hf => hst f (List.mem_cons_of_mem _ hf))
    rcases hc with ⟨c1, _⟩ | ⟨c1, c2⟩
    · rw [wanted_none' e2] at c1; cases c1
    · obtain ⟨s1, s2, s3⟩ := store_frame e3 c2
      refine ⟨by rw [k1, s2, g1], by rw [k2, s1], fun j hj hno => ?_⟩
      rw [k3 j hj (fun f hf of hof => hno f (List.mem_cons_of_mem _ hf) of hof), s3 j ?_, g2 j fun p hp => hj p.1 (mem_pending.1 (hl2 p hp).1).1]
      have hrho := pend_rho R D ho ht0 f1
      rw [stBlk_congr hrho]
      exact hno e (by simp) o ho
where
  wanted_none' {tm : Tr Value} {o : Oper} (h : o.guard = none) : dwanted ops tm o = some true := by unfold dwanted; rw [h]
  pend_rho (R : RC ops b effs) {tm0 : Tr Value} {st : St} {es : List Nat} {done : Nat} {tm tm1 : Tr Value} {k e : Nat} {o : Oper} (D : DI ops b effs tm0 (e :: es) done tm k) (ho : ops[e]? = some o)
      (ht0 : ∀ t, ¬ written ops (fun i => bit done i ∨ i ∈ pending (List.range ops.size) effs (b.getD e 0) done) t → tm1.get t = tm0.get t)
      (f1 : ∀ t, written ops (fun i => bit done i ∨ i ∈ pending (List.range ops.size) effs (b.getD e 0) done) t → tm1.get t = st.tm.get t) :
      ∀ y ∈ o.op.operands.toList, ev tm1 y = rho ops b tm0 st.tm e y := by
    have hTI : TI ops tm0 st.tm (fun j => bit done j ∨ j ∈ pending (List.range ops.size) effs (b.getD e 0) done) tm1 := fun t => ⟨f1 t, ht0 t⟩
    have hdsL : DS ops b (fun j => bit done j ∨ j ∈ pending (List.range ops.size) effs (b.getD e 0) done) := fun j hj => by
      rcases hj with hj | hj
      · exact ⟨(D.ds j hj).1, fun k hk => .inl ((D.ds j hj).2 k hk)⟩
      · exact ⟨((D.pend R) j hj).1, ((D.pend R) j hj).2.2.2⟩
    refine R.ev_rho hdsL hTI ho ?_ ?_
    · rintro (h | h)
      · exact D.noe e (by simp) h
      · have := R.anc_lt _ _ (mem_pending.1 h).2.1; omega
    · intro j hj
      by_cases hb : bit done j
      · exact .inl hb
      · refine .inr (mem_pending.2 ⟨by have := R.anc_lt _ _ hj; have := lt_of_some ho; omega, hj, hb, fun hje => ?_⟩)
        obtain ⟨pre, hp, hpd, _⟩ := D.sfx
        rw [hp.mem_iff] at hje
        rcases List.mem_append.1 hje with hje | hje
        · exact hb (hpd j hje)
        · rcases List.mem_cons.1 hje with rfl | hje
          · have := R.anc_lt _ _ hj; omega
          · exact ((List.pairwise_cons.1 D.topo).1 j hje).2 hj
theorem DI.swap {tm0 tm : Tr Value} {e f done k : Nat} (D : DI ops b effs tm0 [e, f] done tm k) (hb : ¬ anc b f e) (h1 : isSt ops e = true) (h2 : isSt ops f = true) : DI ops b effs tm0 [f, e] done tm k := by
  obtain ⟨pre, hp, hpd, hk⟩ := D.sfx
  have ht := (List.pairwise_cons.1 D.topo).1 f (by simp)
  refine ⟨D.ds, ⟨pre, hp.trans (List.Perm.append_left _ (List.Perm.swap f e [])), hpd, hk⟩, ?_, ?_, fun g hg => D.noe g (by simp at hg ⊢; exact hg.symm), D.t0⟩
  · simp [chainOK, h1, h2]
  · simp only [List.pairwise_cons, List.mem_singleton, List.not_mem_nil, false_implies, implies_true, List.Pairwise.nil, and_true, forall_eq]
    exact ⟨fun h => ht.1 h.symm, hb⟩
theorem twin_same (R : RC ops b effs) {tm0 : Tr Value} {st st' : St} {e f p q done k : Nat} {G : Heap} {gs : List Heap} {tm : Tr Value} {ds : List Deferred}
    (h : ddraw P ok n x ops b effs base [e, f] done (G :: gs) tm ds = some st) (h' : ddraw P ok n x ops b effs base [f, e] done (G :: gs) tm ds = some st') (D : DI ops b effs tm0 [e, f] done tm k)
    (hb : ¬ anc b f e) (h1 : isSt ops e = true) (h2 : isSt ops f = true) (hpq : dtwin P ops b effs base done (G :: gs) tm e f = some (p, q)) (hag : agree ops base p q st st' = true) :
    (∀ t, st'.tm.get t = st.tm.get t) ∧ (∀ j, st'.H.get j = st.H.get j) ∧ st'.H.next = st.H.next ∧ st'.ds = st.ds := by
  have D' := D.swap hb h1 h2
  obtain ⟨a1, a2, a3, a4⟩ := agree_inv hag
  have htm : ∀ t, st'.tm.get t = st.tm.get t := by
    intro t
    by_cases hw : ∃ (i : Nat) (o : Oper), ops[i]? = some o ∧ o.dst = some t
    · obtain ⟨i, o, ho, hd⟩ := hw
      exact (a1 i o t ho hd).symm
    · rw [ddraw_keeps R (k := k) h D.noe D.topo (fun i o ho hd => absurd ⟨i, o, ho, hd⟩ hw), ddraw_keeps R (k := k) h' D'.noe D'.topo (fun i o ho hd => absurd ⟨i, o, ho, hd⟩ hw)]
  have hst : ∀ g ∈ [e, f], isSt ops g = true := fun g hg => by
    rcases List.mem_cons.1 hg with rfl | hg
    · exact h1
    · rw [List.mem_singleton] at hg; subst hg; exact h2
  have hst' : ∀ g ∈ [f, e], isSt ops g = true := fun g hg => hst g (by simp at hg ⊢; exact hg.symm)
  obtain ⟨s1, s2, s3⟩ := ddraw_frame R h D hst
  obtain ⟨s1', s2', s3'⟩ := ddraw_frame R h' D' hst'
  have hrho : ∀ i, rho ops b tm0 st'.tm i = rho ops b tm0 st.tm i := fun i => by
    funext y
    unfold rho
    cases y with
    | tmp t => simp only [ev, htm]
    | _ => rfl
  have hp : ∀ o, ops[e]? = some o → stBlk o (rho ops b tm0 st.tm e) = some p := by
    intro o ho
    obtain ⟨n', tm1, H1, o', v, ds1, H2, _, hdn, ho', hr, hc⟩ := ddraw_cons h
    rw [ho] at ho'; cases ho'
    obtain ⟨f1, f2⟩ := stage_final R D ho hr
    obtain ⟨_, ht0, _⟩ := dnon_facts R (tmF := st.tm) hdn pending_sorted D.ds (D.pend R) f1 D.t0
    rw [← stBlk_congr (ddraw_frame.pend_rho R D ho ht0 f1)]
    unfold dtwin at hpq
    simp only at hpq
    rw [hdn, ho] at hpq
    split at hpq
    · rename_i t1 _ t2 _ o1 o2 q1 q2 q3 q4
      cases q1; cases q3
      split at hpq
      · rename_i p' q' r1 r2
        cases hpq; exact r1
      · cases hpq
    · cases hpq
  have hq : ∀ o, ops[f]? = some o → stBlk o (rho ops b tm0 st.tm f) = some q := by
    intro o ho
    obtain ⟨n', tm1, H1, o', v, ds1, H2, _, hdn, ho', hr, hc⟩ := ddraw_cons h'
    rw [ho] at ho'; cases ho'
    obtain ⟨f1, f2⟩ := stage_final R D' ho hr
    obtain ⟨_, ht0, _⟩ := dnon_facts R (tmF := st'.tm) hdn pending_sorted D'.ds (D'.pend R) f1 D'.t0
    rw [← hrho, ← stBlk_congr (ddraw_frame.pend_rho R D' ho ht0 f1)]
    unfold dtwin at hpq
    simp only at hpq
    rw [hdn, ho] at hpq
    split at hpq
    · rename_i t1 _ t2 _ o1 o2 q1 q2 q3 q4
      cases q2; cases q4
      split at hpq
      · rename_i p' q' r1 r2
        cases hpq; exact r2
      · cases hpq
    · cases hpq
  refine ⟨htm, fun j => ?_, by rw [s1, s1'], by rw [s2, s2']⟩
  by_cases hjp : j = p
  · rw [hjp]; exact a2.symm
  · by_cases hjq : j = q
    · rw [hjq]; exact a3.symm
    · by_cases hjb : ∃ i, i < ops.size ∧ j = base + i
      · obtain ⟨i, hi, rfl⟩ := hjb
        exact (a4 i hi).symm
      · have hj0 : ∀ i, i < ops.size → j ≠ base + i := fun i hi hij => hjb ⟨i, hi, hij⟩
        have hno : ∀ g, (g = e ∨ g = f) → ∀ o, ops[g]? = some o → stBlk o (rho ops b tm0 st.tm g) ≠ some j := by
          rintro g (rfl | rfl) o ho hh
          · rw [hp o ho] at hh; cases hh; exact hjp rfl
          · rw [hq o ho] at hh; cases hh; exact hjq rfl
        rw [s3 j hj0 (fun g hg o ho => hno g (by simpa using hg) o ho), s3' j hj0 (fun g hg o ho => by rw [hrho]; exact hno g (by simp at hg; exact hg.symm) o ho)]
theorem HR.like {N : Nat} {w0 w : World} {τ : Nat → Value} {σ : Nat → Loc} {H H' : Heap} (h : HR P N w0 τ σ H' w) (hg : ∀ j, H'.get j = H.get j) (hn : H'.next = H.next) : HR P N w0 τ σ H w :=
  ⟨h.below, h.size, fun i hi => h.fresh i (by rw [hn]; exact hi), fun i B hB => h.blk i B (by rw [hg]; exact hB), h.inj, h.lt⟩
theorem Step.like {σ σ' : Nat → Loc} {w w' : World} {H0 H H' : Heap} (h : Step σ H0 w σ' H' w') (hg : ∀ j, H'.get j = H.get j) (hn : H'.next = H.next) : Step σ H0 w σ' H w' :=
  ⟨by rw [← hn]; exact h.next, h.ext, h.new, h.frame, h.size, fun i hi h0 => ⟨(h.keep i hi h0).1, by rw [← hg]; exact (h.keep i hi h0).2⟩⟩
theorem DrawPost.like {N : Nat} {w0 w1 : World} {τ : Nat → Value} {m : Nat} {σ0 : Nat → Loc} {H0 : Heap} {st st' : St} {Q : Exit → Act → World → Prop} (hQ : DrawPost P N w0 τ m σ0 H0 w1 st Q)
    (ht : ∀ t, st'.tm.get t = st.tm.get t) (hg : ∀ j, st'.H.get j = st.H.get j) (hn : st'.H.next = st.H.next) (hd : st'.ds = st.ds) : DrawPost P N w0 τ m σ0 H0 w1 st' Q :=
  fun σ a w hH htm hds hsz hst => hQ σ a w (hH.like hg hn) (fun t v hv => htm t v (by rw [ht]; exact hv)) (by rw [← hd]; exact hds) hsz (hst.like hg hn)
theorem SI.like {N : Nat} {w0 w1 w : World} {τ : Nat → Value} {m : Nat} {tm0 tmF tmF' : Tr Value} {σ0 σ : Nat → Loc} {H0 G : Heap} {S : Nat → Prop} {done : Nat} {ds : List Deferred} {a : Act}
    (I : SI P N w0 τ ops b base m tm0 tmF σ0 H0 w1 S done G ds σ a w) (ht : ∀ t, tmF'.get t = tmF.get t) : SI P N w0 τ ops b base m tm0 tmF' σ0 H0 w1 S done G ds σ a w := by
  have hrho : ∀ i, rho ops b tm0 tmF' i = rho ops b tm0 tmF i := fun i => by
    funext y
    unfold rho
    cases y with
    | tmp t => simp only [ev, ht]
    | _ => rfl
  have hw : ∀ o, dwanted ops tmF' o = dwanted ops tmF o := fun o => by
    unfold dwanted
    simp only [ht]
  exact ⟨I.hH, fun t v => by rw [ht]; exact I.ta t v, I.dsr, I.sz, fun p o B mk h1 h2 h3 h4 h5 h6 => I.ex p o B mk h1 h2 h3 h4 (by rw [← hw]; exact h5) (by rw [← hrho]; exact h6), I.non, I.nob, I.nx, I.stp⟩
end
end Go.Hb
end

-- Draw4
section
namespace Go.Hb
open Go Go.RowKit
theorem wpIn_of_run {F : Fence} {n : Nat} {P : Program} {o : Oper} {a : Act} {w w' : World} {K : Act → World → Prop} {Q : Exit → Act → World → Prop} {nx : Next} {v' : Value} (hF : ∀ f, F.fn f) (hnd : ∀ c, o.op ≠ .defer c)
    (hr : (execOp a.eval o).run P w = .ok nx w') (hx : nx = .value v' ∨ (nx = .skip ∧ v' = undef)) (hK : K (a.put o.dst v') w') : o.wpIn F n P a w K Q := by
  refine ⟨fun f _ => hF f, ?_⟩
  rw [Oper.semAt_eq _ _ _ hnd, hr]
  rcases hx with rfl | ⟨rfl, rfl⟩
  · rw [Oper.uponIn_value]; exact hK
  · rw [Oper.uponIn_skip]; exact hK
theorem not_defer {o : Oper} (h : isEff o = false) : ∀ c, o.op ≠ .defer c := by
  intro c hc
  unfold isEff at h
  rw [hc] at h
  cases h
def HZ (Z : Prop) (B : Oper → (Operand → Value) → List Deferred → Heap → Prop) (P : Program) (ops : Array Oper) (b : Array Nat) (effs : List Nat) (base : Nat) (es : List Nat) (done : Nat) (G : Heap) (gs : List Heap) (tm : Tr Value) (ds : List Deferred) : Prop :=
  Z ∨ ∃ e r tm1 H1 o, es = e :: r ∧ isSt ops e = false ∧ ops[e]? = some o ∧ dnon P ops b effs base (G :: gs) (pending (List.range ops.size) effs (b.getD e 0) done) tm G = some (tm1, H1) ∧ dwanted ops tm1 o = some true ∧ B o (ev tm1) ds H1
section
variable {P : Program} {N : Nat} {w0 : World} {τ : Nat → Value} {ops : Array Oper} {b : Array Nat} {effs : List Nat} {F : Fence} {ok : Ok} {n : Nat} {x : Ctx} {base m : Nat} {tm0 : Tr Value} {σ0 : Nat → Loc} {H0 : Heap} {w1 : World} {Q : Exit → Act → World → Prop}
theorem left_lt {listed : Array Bool} {i fuel : Nat} (hl : listed.size = ops.size) (hi : i < ops.size) (hn : ¬ lst listed i)
    (h : ((List.range ops.size).filter fun j => !listed.getD j false).length ≤ fuel + 1) : ((List.range ops.size).filter fun j => !(listed.setIfInBounds i true).getD j false).length ≤ fuel := by
  have := filter_lt (p := fun j => !listed.getD j false) (q := fun j => !(listed.setIfInBounds i true).getD j false) (l := List.range ops.size) (i := i) (fun j hj => by
    have h1 : ¬ lst (listed.setIfInBounds i true) j := by unfold lst; simpa using hj
    rw [lst_set (by omega)] at h1
    have h2 : ¬ lst listed j := fun h => h1 (.inl h)
    unfold lst at h2
    simpa using h2) (List.mem_range.2 hi) (by unfold lst at hn; simpa using hn) (by
    have h1 : lst (listed.setIfInBounds i true) i := (lst_set (by omega)).2 (.inr rfl)
    unfold lst at h1
    simp [h1])
  omega
set_option maxHeartbeats 1000000 in
theorem draw_sim (R : RC ops b effs) (hF : ∀ f, F.fn f) (hτ : ∀ j, (τ j).oneCell' = true) (hok : ops.toList.all (okOper P.globals.size m) = true) {Z : Prop} {B : Oper → (Operand → Value) → List Deferred → Heap → Prop} (hE : EffLaw F P N w0 τ ok n x ops m tm0 σ0 H0 w1 Q Z B)
    (hg0 : GR P σ0) (hb0 : ∀ i, base ≤ i → H0.next ≤ i ∧ σ0 i = .none) :
    ∀ (fuel : Nat) (listed : Array Bool) (n' : Nat) (es : List Nat) (done : Nat) (G : Heap) (gs : List Heap) (tm : Tr Value) (ds : List Deferred) (σ : Nat → Loc) (a : Act) (w : World) (st : St), n' ≤ n →
    (Z → DrawPost P N w0 τ m σ0 H0 w1 st Q) → HZ Z B P ops b effs base es done G gs tm ds → es.Pairwise (· < ·) →
    ddraw P ok n' x ops b effs base es done (G :: gs) tm ds = some st → DI ops b effs tm0 es done tm gs.length → listed.size = ops.size → DS ops b (lst listed) → (∀ i, bit done i → lst listed i) → (∀ e ∈ es, ¬ lst listed e) →
    SI P N w0 τ ops b base m tm0 st.tm σ0 H0 w1 (lst listed) done G ds σ a w → ((List.range ops.size).filter fun i => !listed.getD i false).length ≤ fuel →
    wpAnyIn F 0 P .any ops Q fuel listed a w := by
  have fin : ∀ (listed : Array Bool) (n' : Nat) (es : List Nat) (done : Nat) (G : Heap) (gs : List Heap) (tm : Tr Value) (ds : List Deferred) (σ : Nat → Loc) (a : Act) (w : World) (st : St),
      (Z → DrawPost P N w0 τ m σ0 H0 w1 st Q) → HZ Z B P ops b effs base es done G gs tm ds → ddraw P ok n' x ops b effs base es done (G :: gs) tm ds = some st → DI ops b effs tm0 es done tm gs.length → (∀ i, i < ops.size → lst listed i) → DS ops b (lst listed) → (∀ e ∈ es, ¬ lst listed e) →
      SI P N w0 τ ops b base m tm0 st.tm σ0 H0 w1 (lst listed) done G ds σ a w → Q .normal a w := by
    intro listed n' es done G gs tm ds σ a w st hQz hZ hd D hall hS hes I
    have hnil : es = [] := by
      cases es with
      | nil => rfl
      | cons e es =>
        obtain ⟨pre, hp, _⟩ := D.sfx
        obtain ⟨o, ho, _⟩ := R.mem_effs.1 (show e ∈ effs from hp.mem_iff.2 (by simp))
        exact absurd (hall e (lt_of_some ho)) (hes e (by simp))
    subst hnil
    have hQ := hQz (hZ.resolve_right fun ⟨_, _, _, _, _, h, _⟩ => by cases h)
    obtain ⟨tm1, H1, hdn, hst⟩ := ddraw_nil hd
    have hfac := dnon_facts R (tmF := tm1) hdn rest_sorted D.ds (D.last R) (fun t _ => rfl) D.t0
    obtain ⟨_, ht0, l, hl1, hl2⟩ := hfac
    have htm : st.tm = tm1 := by rw [hst]
    have hH1 : st.H = H1 := by rw [hst]
    have hds : st.ds = ds := by rw [hst]
    simp only at hl1
    obtain ⟨k1, k2, _, _⟩ := adopts (P := P) (N := N) (w0 := w0) (τ := τ) (base := base) hb0 l G I.hH I.stp (fun p hp => by
      obtain ⟨q1, o, mk, q2, q3, q4, q5⟩ := hl2 p hp
      exact I.ex p.1 o p.2 mk (hall _ (lt_of_some q2)) (mem_rest.1 q1).2.1 q2 q3 (by rw [htm]; exact q4) (by rw [htm]; exact q5))
    rw [← hl1] at k1 k2
    refine hQ σ a w (by rw [hH1]; exact k1) (fun t v hv => ?_) (by rw [hds]; exact I.dsr) I.sz (by rw [hH1]; exact k2)
    by_cases hw : written ops (lst listed) t
    · exact (I.ta t v).1 hw hv
    · refine (I.ta t v).2 hw ?_
      rw [htm, ht0 t (fun hw' => hw (written_mono (fun i hi => ?_) hw'))] at hv
      · exact hv
      · rcases hi with hi | hi
        · exact hall i (D.ds i hi).1
        · exact hall i (mem_rest.1 hi).1
  intro fuel
  induction fuel with
  | zero =>
    intro listed n' es done G gs tm ds σ a w st hn hQ hZ hso hd D hl hS hdS hes I hle
    have hall : ∀ i, i < ops.size → lst listed i := fun i hi => by
      have hnil : ((List.range ops.size).filter fun i => !listed.getD i false) = [] := List.eq_nil_of_length_eq_zero (by omega)
      have := (List.filter_eq_nil_iff.1 hnil) i (List.mem_range.2 hi)
      unfold lst; simpa using this
    refine ⟨?_, fin listed n' es done G gs tm ds σ a w st hQ hZ hd D hall hS hes I⟩
    refine List.eq_nil_iff_forall_not_mem.2 fun i hi => ?_
    have := (mem_ready R hl hS).1 hi
    exact this.2.1 (hall i this.1)
  | succ fuel ih =>
    intro listed n' es0 done G gs tm ds σ a w st0 hn hQ0 hZ0 hso0 hd0 D0 hl hS hdS hes0 I0 hle
    refine ⟨fun hr => fin listed n' es0 done G gs tm ds σ a w st0 hQ0 hZ0 hd0 D0 (all_listed R hl hS hr) hS hes0 I0, fun i hi => ?_⟩
    obtain ⟨hiz, hil, hia⟩ := (mem_ready R hl hS).1 hi
    have adapt : ∃ (st : St) (es : List Nat), (Z → DrawPost P N w0 τ m σ0 H0 w1 st Q) ∧ HZ Z B P ops b effs base es done G gs tm ds ∧ ddraw P ok n' x ops b effs base es done (G :: gs) tm ds = some st ∧ DI ops b effs tm0 es done tm gs.length ∧ (∀ e ∈ es, ¬ lst listed e) ∧
        SI P N w0 τ ops b base m tm0 st.tm σ0 H0 w1 (lst listed) done G ds σ a w ∧ (∀ r, es = i :: r → r.Pairwise (· < ·)) ∧ (i ∈ es → ∃ r, es = i :: r) ∧ (i ∉ es → es.Pairwise (· < ·)) := by
      have hrs : ∀ r, es0 = i :: r → r.Pairwise (· < ·) := fun r hr => by rw [hr] at hso0; exact (List.pairwise_cons.1 hso0).2
      by_cases hie : i ∈ es0
      · cases es0 with
        | nil => cases hie
        | cons e r =>
          by_cases hei : i = e
          · exact ⟨st0, e :: r, hQ0, hZ0, hd0, D0, hes0, I0, hrs, fun _ => ⟨r, by rw [hei]⟩, fun _ => hso0⟩
          · have hir : i ∈ r := (List.mem_cons.1 hie).resolve_left hei
            rcases chain_head D0.ord with h | ⟨f, rfl, h1, h2⟩
            · exact absurd (hia e (h i hir)) (hes0 e (by simp))
            · rw [List.mem_singleton] at hir
              subst hir
              have hb : ¬ anc b i e := fun h => hes0 e (by simp) (hia e h)
              have hlt : e < i := (List.pairwise_cons.1 hso0).1 i (by simp)
              obtain ⟨st', p, q, t1, t2, t3⟩ := ddraw_twin (by unfold anc at hb; simpa using hb) hlt hd0
              obtain ⟨s1, s2, s3, s4⟩ := twin_same R hd0 t1 D0 hb h1 h2 t2 t3
              have hz : Z := hZ0.resolve_right fun ⟨e', _, _, _, _, he', hn, _⟩ => by cases he'; rw [h1] at hn; cases hn
              refine ⟨st', [i, e], fun z => (hQ0 z).like s1 s2 s3 s4, .inl hz, t1, D0.swap hb h1 h2, fun g hg => hes0 g (by simp at hg ⊢; exact hg.symm), I0.like s1, fun r hr => ?_, fun _ => ⟨[e], rfl⟩, fun h => absurd (by simp) h⟩
              cases hr
              exact List.pairwise_singleton _ _
      · exact ⟨st0, es0, hQ0, hZ0, hd0, D0, hes0, I0, hrs, fun h => absurd h hie, fun _ => hso0⟩
    obtain ⟨st, es, hQ, hZ, hd, D, hes, I, hso1, hhead, hso2⟩ := adapt
    obtain ⟨o, ho⟩ := some_of_lt hiz
    have hg : GR P σ := hg0.ext I.stp.ext
    have hoko : okOper P.globals.size m o = true := List.all_eq_true.1 hok o (by have := Array.getElem?_eq_some_iff.1 ho; obtain ⟨h1, h2⟩ := this; rw [← h2]; exact Array.getElem_mem_toList h1)
    unfold okOper at hoko
    rw [Bool.and_eq_true] at hoko
    have hdm : ∀ d, o.dst = some d → d < m := fun d hd => by have := hoko.1; rw [hd] at this; simpa [Nat.blt_eq] using this
    have hop := I.opnd R hS hg ho hil hia hoko.2
    have hl' : (listed.setIfInBounds i true).size = ops.size := by simpa using hl
    have hset : ∀ j, lst (listed.setIfInBounds i true) j ↔ lst listed j ∨ j = i := fun j => lst_set (by omega)
    have hSeq : lst (listed.setIfInBounds i true) = fun j => lst listed j ∨ j = i := funext fun j => propext (hset j)
    have hS' : DS ops b (lst (listed.setIfInBounds i true)) := fun j hj => by
      rw [hset] at hj
      rcases hj with hj | rfl
      · exact ⟨(hS j hj).1, fun k hk => (hset k).2 (.inl ((hS j hj).2 k hk))⟩
      · exact ⟨hiz, fun k hk => (hset k).2 (.inl (hia k hk))⟩
    have hle' := left_lt (ops := ops) hl hiz hil hle
    have hwant : ∀ bb, dwanted ops st.tm o = some bb → Region.wanted o (yielded ops a.tmps) = bb := fun bb hw => by
      refine wanted_of (σ := σ) (τ := τ) (fun j want oj d v hgd hoj hdj hv => ?_) hw
      exact (I.ta d v).1 ⟨j, oj, hia j (R.guard i o j want ho hgd), hoj, hdj⟩ hv
    unfold wpOpIn
    rw [ho]
    simp only
    by_cases hie : i ∈ es
    ·
      cases es with
      | nil => cases hie
      | cons e es =>
        obtain ⟨pre, hp, hpd, hk⟩ := D.sfx
        obtain ⟨r, hr⟩ := hhead hie
        have hso := hso1 r hr
        cases hr
        obtain ⟨n'', tm1, H1, o', v, ds1, H2, hlt', hdn, ho', hrest, hcase⟩ := ddraw_cons hd
        rw [ho] at ho'
        cases ho'
        obtain ⟨f1, f2⟩ := stage_final R D ho hrest
        obtain ⟨_, ht0, l, hl1, hl2⟩ := dnon_facts R (tmF := st.tm) hdn pending_sorted D.ds (D.pend R) f1 D.t0
        simp only at hl1
        have hlS : ∀ p ∈ l, lst listed p.1 ∧ ¬ bit done p.1 ∧ anc b i p.1 := fun p hp => by
          have := mem_pending.1 (hl2 p hp).1
          exact ⟨hia _ this.2.1, this.2.2.1, this.2.1⟩
        obtain ⟨k1, k2, k3, k4⟩ := adopts (P := P) (N := N) (w0 := w0) (τ := τ) (base := base) hb0 l G I.hH I.stp (fun p hp => by
          obtain ⟨q1, o2, mk, q2, q3, q4, q5⟩ := hl2 p hp
          exact I.ex p.1 o2 p.2 mk (hlS p hp).1 (hlS p hp).2.1 q2 q3 q4 q5)
        rw [← hl1] at k1 k2 k3 k4
        have hget1 : ∀ p, p < ops.size → ¬ bit (done ||| b.getD i 0 ||| 2 ^ i) p → H1.get (base + p) = none := fun p hp hb => by
          rw [k4 _ (fun q hq e => hb (by rw [bit_done1]; have : p = q.1 := by omega
                                         rw [this]; exact .inr (.inl (hlS q hq).2.2)))]
          exact I.nob p hp (fun h => hb (bit_done1.2 (.inl h)))
        have hdS' : ∀ j, bit (done ||| b.getD i 0 ||| 2 ^ i) j → lst (listed.setIfInBounds i true) j := fun j hj => by
          rw [hset]
          rcases bit_done1.1 hj with h | h | h
          · exact .inl (hdS j h)
          · exact .inl (hia j h)
          · exact .inr h
        have hes' : ∀ f ∈ es, ¬ lst (listed.setIfInBounds i true) f := fun f hf h => by
          rcases (hset f).1 h with h | rfl
          · exact hes f (List.mem_cons_of_mem _ hf) h
          · exact ((List.pairwise_cons.1 D.topo).1 f hf).1 rfl
        have D' := D.next R (stage_t0 R ho ht0 (v := v))
        have hTI : TI ops tm0 st.tm (fun j => bit done j ∨ j ∈ pending (List.range ops.size) effs (b.getD i 0) done) tm1 := fun t => ⟨f1 t, ht0 t⟩
        have hdsL : DS ops b (fun j => bit done j ∨ j ∈ pending (List.range ops.size) effs (b.getD i 0) done) := fun j hj => by
          rcases hj with hj | hj
          · exact ⟨(D.ds j hj).1, fun k hk => .inl ((D.ds j hj).2 k hk)⟩
          · exact ⟨((D.pend R) j hj).1, ((D.pend R) j hj).2.2.2⟩
        have hanc : ∀ j, anc b i j → bit done j ∨ j ∈ pending (List.range ops.size) effs (b.getD i 0) done := fun j hj => by
          by_cases hb : bit done j
          · exact .inl hb
          · refine .inr (mem_pending.2 ⟨by have := R.anc_lt _ _ hj; omega, hj, hb, fun hje => ?_⟩)
            rw [hp.mem_iff] at hje
            rcases List.mem_append.1 hje with hje | hje
            · exact hb (hpd j hje)
            · exact hes j hje (hia j hj)
        have hni : ¬ (bit done i ∨ i ∈ pending (List.range ops.size) effs (b.getD i 0) done) := by
          rintro (h | h)
          · exact hil (hdS i h)
          · have := R.anc_lt _ _ (mem_pending.1 h).2.1; omega
        have hwt : dwanted ops tm1 o = dwanted ops st.tm o := R.wanted hTI ho hanc
        have hρ := R.ev_rho hdsL hTI ho hni hanc
        have next : Z → ∀ (σ' : Nat → Loc) (a' : Act) (v' : Value) (w' : World), a'.tmps = a.tmps → VR σ' τ v v' → HR P N w0 τ σ' H2 w' → DsR σ' τ ds1 a'.defers → Step σ H1 w σ' H2 w' →
            wpAnyIn F 0 P .any ops Q fuel (listed.setIfInBounds i true) (a'.put o.dst v') w' := by
          intro hz σ' a' v' w' hta hvr hH' hdr hst'
          refine ih _ n'' es _ H2 (G :: gs) _ ds1 σ' _ w' st (by omega) hQ (.inl hz) hso hrest D' hl' hS' hdS' hes' ?_ hle'
          refine ⟨hH', ?_, by rw [act_put_defers]; exact hdr, by rw [act_put_size, hta]; exact I.sz, fun p op B mk hpS hpd' hop' hal hwp hdal => ?_, fun p hp hpS => ?_, fun p hp hpd' => ?_, by have := hst'.next; have := I.nx; omega, k2.trans hst'⟩
          · rw [hSeq]
            exact I.slots R hst'.ext ho hil hdm (fun d v2 hd hv2 => by rw [f2 d hd] at hv2; cases hv2; exact hvr) hta
          · have hpi : p ≠ i := fun e => hpd' (bit_done1.2 (.inr (.inr e)))
            have hpS0 : lst listed p := ((hset p).1 hpS).resolve_right hpi
            have hnd : ¬ bit done p := fun h => hpd' (bit_done1.2 (.inl h))
            exact (I.ex p op B mk hpS0 hnd hop' hal hwp hdal).step k1 hst' (hget1 p (lt_of_some hop') hpd')
          · have hpS0 : ¬ lst listed p := fun h => hpS ((hset p).2 (.inl h))
            have hpb : ¬ bit (done ||| b.getD i 0 ||| 2 ^ i) p := fun h => hpS (hdS' p h)
            rw [(hst'.keep (base + p) (.inl (by have := I.nx; omega)) (hget1 p hp hpb)).1]
            exact I.non p hp hpS0
          · exact (hst'.keep (base + p) (.inl (by have := I.nx; omega)) (hget1 p hp hpd')).2
        have hzb : Z ∨ (dwanted ops tm1 o = some true ∧ B o (ev tm1) ds H1) := hZ.imp_right fun ⟨e', _, _, _, _, he', _, ho', hd', hw', hb'⟩ => by
          cases he'
          rw [ho] at ho'; cases ho'
          rw [hdn] at hd'; cases hd'
          exact ⟨hw', hb'⟩
        rcases hcase with ⟨c1, rfl, rfl, rfl⟩ | ⟨c1, c2⟩
        · rw [hwant false (hwt ▸ c1)]
          simp only [Bool.false_eq_true, if_false]
          have hz : Z := hzb.resolve_right fun h => by rw [c1] at h; cases h.1
          exact ⟨fun f _ => hF f, next hz σ a undef w rfl (.flat _ rfl) k1 I.dsr (Step.refl _ _ _)⟩
        · rw [hwant true (hwt ▸ c1)]
          simp only [if_true]
          refine hE n'' (by omega) o (ev tm1) ds H1 v ds1 H2 (by have := Array.getElem?_eq_some_iff.1 ho; obtain ⟨h1, h2⟩ := this; rw [← h2]; exact Array.getElem_mem h1) (hzb.imp_right fun h => h.2) c2 a w σ _ (fun y hy => by rw [hρ y hy]; exact hop y hy) k1 I.dsr hg ⟨fun t v hno hv => (I.ta t v).2 (fun ⟨p, op, _, hp, hd⟩ => hno p op hp hd) hv, I.sz, k2⟩ (fun hz σ' v' w' dfs' hv hH' hdr hst' => ?_)
          exact next hz σ' { a with defers := dfs' } v' w' rfl hv hH' hdr hst'
    ·
      obtain ⟨pre, hp, hpd, hk⟩ := D.sfx
      have hne : isEff o = false := by
        cases hx : isEff o with
        | false => rfl
        | true =>
          have := R.mem_effs.2 ⟨o, ho, hx⟩
          rw [hp.mem_iff] at this
          rcases List.mem_append.1 this with h | h
          · exact absurd (hdS i (hpd i h)) hil
          · exact absurd h hie
      have hso := hso2 hie
      have hnd : ¬ bit done i := fun h => hil (hdS i h)
      have hcnt : effsIn effs (b.getD i 0) ≤ gs.length := by
        unfold effsIn
        rw [(hp.filter _).length_eq, List.filter_append, List.length_append, ← hk]
        have : (es.filter fun e => (b.getD i 0).testBit e) = [] := List.filter_eq_nil_iff.2 fun e he hb => hes e he (hia e hb)
        rw [this]
        have := List.length_filter_le (fun e => (b.getD i 0).testBit e) pre
        simpa using this
      have hFN := ddraw_facts R hd D i o ho hne hnd [] G gs rfl hcnt
      have hdS' : ∀ j, bit done j → lst (listed.setIfInBounds i true) j := fun j hj => (hset j).2 (.inl (hdS j hj))
      have hes' : ∀ f ∈ es, ¬ lst (listed.setIfInBounds i true) f := fun f hf h => by
        rcases (hset f).1 h with h | rfl
        · exact hes f hf h
        · exact hie hf
      rcases hFN with ⟨c1, c2⟩ | ⟨c1, c2, B, mk, c3, c4⟩ | ⟨c1, c2, ρ, v, c3, c4, c5⟩
      ·
        rw [hwant false c1]
        simp only [Bool.false_eq_true, if_false]
        refine ⟨fun f _ => hF f, ih _ n' es done G gs tm ds σ _ w st hn hQ hZ hso hd D hl' hS' hdS' hes' ?_ hle'⟩
        refine ⟨I.hH, ?_, by rw [act_put_defers]; exact I.dsr, by rw [act_put_size]; exact I.sz, fun p op B mk hpS hpd' hop' hal hwp hdal => ?_, fun p hp hpS => I.non p hp (fun h => hpS ((hset p).2 (.inl h))), I.nob, I.nx, I.stp⟩
        · rw [hSeq]
          exact I.slots R (Ext.refl σ) ho hil hdm (fun d v2 hd hv2 => by rw [c2 d hd] at hv2; cases hv2; exact .flat _ rfl) rfl
        · rcases (hset p).1 hpS with h | rfl
          · exact I.ex p op B mk h hpd' hop' hal hwp hdal
          · rw [ho] at hop'; cases hop'; rw [c1] at hwp; cases hwp
      ·
        rw [hwant true c1]
        simp only [if_true]
        obtain ⟨v', ob, Sz, es1, hrun, hall⟩ := dalloc_sound (w := w) I.hH.size hτ hop c2 c3
        have hnn := I.non i hiz hil
        have hlt : base + i < G.next := by have := I.nx; omega
        have hH' := I.hH.extra ob Sz es1 hlt hnn
        have hb := hb0 (base + i) (Nat.le_add_right _ _)
        have he : Ext σ (upd σ (base + i) (.live w.heap.size Sz es1)) := fun j => by
          by_cases hj : j = base + i
          · rw [hj]; exact .inl hnn
          · exact .inr (.inl (upd_other _ _ hj))
        obtain ⟨hvr, hbr⟩ := hall _ (base + i) he (upd_same _ _ _)
        refine wpIn_of_run hF (not_defer hne) hrun (.inl rfl) (ih _ n' es done G gs tm ds (upd σ (base + i) (.live w.heap.size Sz es1)) _ _ st hn hQ hZ hso hd D hl' hS' hdS' hes' ?_ hle')
        refine ⟨hH', ?_, by rw [act_put_defers]; exact I.dsr.ext he, by rw [act_put_size]; exact I.sz, fun p op B2 mk2 hpS hpd' hop' hal hwp hdal => ?_, fun p hp hpS => ?_, I.nob, I.nx, I.stp.extra ob Sz es1 hb.1 hb.2⟩
        · rw [hSeq]
          exact I.slots R he ho hil hdm (fun d v2 hd hv2 => by rw [c4 d hd] at hv2; cases hv2; exact hvr) rfl
        · rcases (hset p).1 hpS with h | rfl
          · have hpi : p ≠ i := fun e => hil (e ▸ h)
            have hB := I.ex p op B2 mk2 h hpd' hop' hal hwp hdal
            rw [upd_other _ _ (by omega)]
            have hlt2 := I.hH.lt
            exact (hB.ext he).world fun c S' es' hc => Below.heap_alloc w _ c (hlt2 (base + p) c S' es' hc)
          · rw [ho] at hop'
            cases hop'
            rw [c3] at hdal
            cases hdal
            rw [upd_same]; exact hbr
        · rw [hset] at hpS
          have hpi : p ≠ i := fun e => hpS (.inr e)
          rw [upd_other _ _ (by omega)]
          exact I.non p hp fun h => hpS (.inl h)
      ·
        rw [hwant true c1]
        simp only [if_true]
        obtain ⟨nx, w', σ', v', hrun, hnx, hvr, hH', hst'⟩ := dop_sound I.hH hτ (fun y hy => by rw [c3 y hy]; exact hop y hy) c4
        refine wpIn_of_run hF (not_defer hne) hrun hnx (ih _ n' es done G gs tm ds σ' _ w' st hn hQ hZ hso hd D hl' hS' hdS' hes' ?_ hle')
        have hlow : ∀ p, p < ops.size → ¬ bit done p → (base + p < G.next ∨ σ (base + p) ≠ .none) := fun p hp _ => .inl (by have := I.nx; omega)
        refine ⟨hH', ?_, by rw [act_put_defers]; exact I.dsr.ext hst'.ext, by rw [act_put_size]; exact I.sz, fun p op B2 mk2 hpS hpd' hop' hal hwp hdal => ?_, fun p hp hpS => ?_, I.nob, I.nx, I.stp.trans hst'⟩
        · rw [hSeq]
          exact I.slots R hst'.ext ho hil hdm (fun d v2 hd hv2 => by rw [c5 d hd] at hv2; cases hv2; exact hvr) rfl
        · rcases (hset p).1 hpS with h | rfl
          · exact (I.ex p op B2 mk2 h hpd' hop' hal hwp hdal).step I.hH hst' (I.nob p (lt_of_some hop') hpd')
          · rw [ho] at hop'; cases hop'; rw [c2] at hal; cases hal
        · rw [hset] at hpS
          have hpS0 : ¬ lst listed p := fun h => hpS (.inl h)
          rw [(hst'.keep (base + p) (hlow p hp (fun h => hpS0 (hdS p h))) (I.nob p hp (fun h => hpS0 (hdS p h)))).1]
          exact I.non p hp hpS0
end
end Go.Hb
end

-- Snd1
section
namespace Go.Hb
open Go Go.RowKit
section
variable {P : Program} {b : Frame} {a : Act} {k : List Item} {cs : List Frame} {w : World} {F : Fence} {n : Nat} {Q : Exit → Act → World → Prop}
theorem stepR_scope {c : Code} : step P (lone (b.atR a (.code (.scope c) :: k)) cs w) = .next (lone (b.atR a (.code c :: .inScope c :: k)) cs w) :=
  step_lone_go (by simp [stepG, stepG.exec, Frame.atR])
theorem stepR_inScope {c : Code} : step P (lone (b.atR a (.inScope c :: k)) cs w) = .next (lone (b.atR a k) cs w) :=
  step_lone_go (by simp [stepG, stepG.exec, Frame.atR])
def noGoto (Q : Exit → Act → World → Prop) : Exit → Act → World → Prop
  | .goto _, _, _ => False
  | e, a, w => Q e a w
theorem wpIn_scope {c : Code} (h : c.wpIn F n P (noGoto Q) a w) : (Code.scope c).wpIn F n P Q a w := by
  intro b k cs hro hb hr
  have h0 : (lone (b.atR a (.code (.scope c) :: k)) cs w).fenced P F := fenced_calm hb hr rfl
  obtain ⟨e, a₁, w₁, hq, harr⟩ := h b (.inScope c :: k) cs hro hb hr
  cases e with
  | normal => exact ⟨.normal, a₁, w₁, hq, .head h0 stepR_scope (StepsIn.trans harr (.one (fenced_calm hb hr rfl) stepR_inScope))⟩
  | exit id =>
    have hx : exitTo id (.inScope c :: k) = exitTo id k := by simp [exitTo]
    exact ⟨.exit id, a₁, w₁, hq, fun k' hk => .head h0 stepR_scope (harr.1 k' (by rw [hx]; exact hk)),
      fun hr' hk => let ⟨k₁, h1, h2⟩ := harr.2 hr' (by rw [hx]; exact hk); ⟨k₁, h1, .head h0 stepR_scope h2⟩⟩
  | goto l => exact hq.elim
  | ret => exact ⟨_, a₁, w₁, hq, .of_steps (.one h0 stepR_scope) harr⟩
  | panic ch => exact ⟨_, a₁, w₁, hq, .of_steps (.one h0 stepR_scope) harr⟩
  | outgrown => exact ⟨_, a₁, w₁, hq, .of_steps (.one h0 stepR_scope) harr⟩
def seqS (F : Fence) (n : Nat) (P : Program) (Q : Exit → Act → List Frame → World → Prop) : List Code → Act → List Frame → World → Prop
  | [] => Q .normal
  | c :: rs => c.wpSIn F n P (Exit.thenS (seqS F n P Q rs) Q)
theorem thenS_same (Q : Exit → Act → List Frame → World → Prop) : Exit.thenS (Q .normal) Q = Q := by
  funext e a cs w; cases e <;> rfl
theorem seqS_append (Q : Exit → Act → List Frame → World → Prop) (c : Code) : ∀ rs : List Code, seqS F n P Q (rs ++ [c]) = seqS F n P (Exit.thenS (c.wpSIn F n P Q) Q) rs
  | [] => by show c.wpSIn F n P (Exit.thenS (Q .normal) Q) = _; rw [thenS_same]; rfl
  | d :: rs => by
    show d.wpSIn F n P (Exit.thenS (seqS F n P Q (rs ++ [c])) Q) = d.wpSIn F n P (Exit.thenS (seqS F n P (Exit.thenS (c.wpSIn F n P Q) Q) rs) (Exit.thenS (c.wpSIn F n P Q) Q))
    rw [seqS_append Q c rs]
    congr 1
    funext e a cs w
    cases e <;> rfl
theorem head_wpS : ∀ {c : Code} {ops : Array Oper} {rs : List Code} {Q : Exit → Act → List Frame → World → Prop} {a : Act} {cs : List Frame} {w : World}, headRegion c = some (ops, rs) →
    wpOpsSIn F n P ops (Exit.thenS (seqS F n P Q rs) Q) (List.range ops.size) a cs w → c.wpSIn F n P Q a cs w := by
  intro c
  induction c with
  | region id ops dr =>
    intro ops' rs Q a cs w h hw
    cases dr with
    | true => cases h
    | false =>
      simp only [headRegion, Option.some.injEq, Prod.mk.injEq] at h
      obtain ⟨rfl, rfl⟩ := h
      refine wpSIn_region ?_
      have : Exit.thenS (seqS F n P Q []) Q = Q := thenS_same Q
      rw [this] at hw; exact hw
  | seq x y ihx _ =>
    intro ops' rs Q a cs w h hw
    simp only [headRegion] at h
    cases hx : headRegion x with
    | none => rw [hx] at h; cases h
    | some p =>
      obtain ⟨ops1, rs1⟩ := p
      rw [hx] at h
      simp only [Option.some.injEq, Prod.mk.injEq] at h
      obtain ⟨rfl, rfl⟩ := h
      refine wpSIn_seq (ihx hx ?_)
      rw [seqS_append] at hw
      have : Exit.thenS (seqS F n P (Exit.thenS (y.wpSIn F n P Q) Q) rs1) (Exit.thenS (y.wpSIn F n P Q) Q) = Exit.thenS (seqS F n P (Exit.thenS (y.wpSIn F n P Q) Q) rs1) Q := by
        funext e a cs w; cases e <;> rfl
      rw [this]; exact hw
  | _ => intro ops' rs Q a cs w h; cases h
end
section
variable {P : Program} {N : Nat} {w0 : World} {τ : Nat → Value} {σ σ' : Nat → Loc} {H : Heap} {w w' : World}
theorem HR.drop (h : HR P N w0 τ σ H w) {i : Nat} {b S es : Nat} (hgi : H.get i ≠ none) (hi : i < H.next) (hl : σ i = .live b S es) (hb : N ≤ b)
    (hos : w'.os = w.os) (ht : w'.tape = w.tape) (ho : w'.output = w.output) (hs : w'.heap.size = w.heap.size) (hw : ∀ k, k ≠ b → w'.heap[k]? = w.heap[k]?) :
    HR P N w0 τ (upd σ i .dead) (H.put i none) w' ∧ Step σ H w (upd σ i .dead) (H.put i none) w' := by
  obtain ⟨h1, s1⟩ := h.kill i hi (by rw [hl]; simp) hgi
  have hlive : ∀ j c S' es', upd σ i .dead j = .live c S' es' → c ≠ b := fun j c S' es' hj hc => by
    by_cases hji : j = i
    · rw [hji, upd_same] at hj; cases hj
    · rw [upd_other _ _ hji] at hj; subst hc; exact hji (h.inj j i c S' es' S es hj hl)
  refine ⟨⟨h1.below.trans ⟨hos, ht, ho, by have := h.size; omega, fun k hk => hw k (by omega)⟩, by rw [hs]; exact h.size, h1.fresh, fun j C hj => ?_, h1.inj, fun j c S' es' hj => by rw [hs]; exact h1.lt j c S' es' hj⟩,
    ⟨s1.next, s1.ext, s1.new, fun k hk hn => ?_, by omega, s1.keep⟩⟩
  · exact (h1.blk j C hj).world fun c S' es' hc => hw c (hlive j c S' es' hc)
  · exact hw k fun e => hgi (hn i S es (e ▸ hl))
theorem initTm_get : ∀ (l : List Value) (i : Nat) (t : Tr Value) (j : Nat), (initTm i l t).get j = if i ≤ j ∧ j < i + l.length then l[j - i]? else t.get j
  | [], i, t, j => by
    have : ¬ (i ≤ j ∧ j < i + ([] : List Value).length) := by simp
    rw [if_neg this]; rfl
  | v :: l, i, t, j => by
    rw [initTm, initTm_get l (i + 1) _ j]
    by_cases h1 : i + 1 ≤ j ∧ j < i + 1 + l.length
    · rw [if_pos h1, if_pos (by simp; omega)]
      obtain ⟨k, hk⟩ : ∃ k, j - i = k + 1 := ⟨j - i - 1, by omega⟩
      rw [hk, List.getElem?_cons_succ]
      congr 1; omega
    · rw [if_neg h1, Tr.get_put]
      by_cases h2 : j = i
      · subst h2; rw [if_pos rfl, if_pos (by simp)]; simp
      · rw [if_neg h2, if_neg (by simp; omega)]
theorem TmR.init {args : List Value} {args' : Array Value} (h : LR σ τ args args'.toList) (nt : Nat) : TmR σ τ (initTm 0 args .nil) (args' ++ Array.replicate (nt - args'.size) undef) := by
  intro j v hv
  rw [initTm_get] at hv
  split at hv
  · rename_i hj
    obtain ⟨v', hv', hr⟩ := h.get hv
    simp only [Nat.sub_zero, Array.getElem?_toList] at hv'
    have hlt : j < args'.size := (Array.getElem?_eq_some_iff.1 hv').1
    rw [Array.getD_eq_getD_getElem?, Array.getElem?_append_left hlt, hv']
    exact hr
  · cases hv
theorem TmR.put {tm : Tr Value} {a : Act} (h : TmR σ τ tm a.tmps) (he : Ext σ σ') {d : Option Tmp} {v v' : Value} (hd : ∀ t, d = some t → t < a.tmps.size) (hv : VR σ' τ v v') :
    TmR σ' τ (putD tm d v) (a.put d v').tmps := by
  intro t u hu
  rw [act_put_tmps]
  by_cases hdt : d = some t
  · rw [if_pos ⟨hdt, hd t hdt⟩]
    rw [(putD_get tm d v t).1 hdt] at hu
    cases hu; exact hv
  · rw [if_neg (fun h => hdt h.1)]
    rw [(putD_get tm d v t).2 hdt] at hu
    exact (h t u hu).ext he
theorem opnd {tm : Tr Value} {a : Act} (h : TmR σ τ tm a.tmps) (hg : GR P σ) {y : Operand} (hy : okOpnd P.globals.size y = true) : VR σ τ (ev tm y) (a.eval y) := by
  cases y with
  | tmp t =>
    show VR σ τ ((tm.get t).getD junk) (a.tmps.getD t undef)
    cases hq : tm.get t with
    | none => exact .junk _
    | some v => exact h t v hq
  | const v => exact .flat _ hy
  | global g => exact hg.ptr (by simpa [okOpnd, Nat.blt_eq] using hy)
  | func f => exact .flat _ rfl
def res1 (a : Array Value) : ResultVar → Sem Value
  | .tmp t => pure (a.getD t undef)
  | .cell b t => do loadVar t (← asAddr (a.getD b undef))
theorem dres1_sound (hH : HR P N w0 τ σ H w) {tm : Tr Value} {a : Array Value} (h : TmR σ τ tm a) {r : ResultVar} {v : Value} (hd : dres1 P tm H r = some v) :
    ∃ v', (res1 a r).run P w = .ok v' w ∧ VR σ τ v v' := by
  cases r with
  | tmp t =>
    simp only [dres1, Option.some.injEq] at hd
    subst hd
    refine ⟨_, rfl, ?_⟩
    cases hq : tm.get t with
    | none => exact .junk _
    | some v => exact h t v hq
  | cell b t =>
    simp only [dres1] at hd
    split at hd
    · rename_i ad hq
      have := h b _ hq
      obtain ⟨a', e1, hA⟩ := this.ptr_inv
      obtain ⟨v', hv', hr⟩ := dload_sound hH hd hA
      refine ⟨v', ?_, hr⟩
      simp [res1, e1, asAddr, Sem.run_bind, hv']
    · cases hd
theorem dresL_sound (hH : HR P N w0 τ σ H w) {tm : Tr Value} {a : Array Value} (h : TmR σ τ tm a) : ∀ {rs : List ResultVar} {vs : List Value}, dresL P tm H rs = some vs →
    ∃ vs', (rs.mapM (res1 a)).run P w = .ok vs' w ∧ LR σ τ vs vs'
  | [], vs, hd => by simp only [dresL, Option.some.injEq] at hd; subst hd; exact ⟨[], rfl, LR.nil⟩
  | r :: rs, vs, hd => by
    simp only [dresL] at hd
    split at hd
    · rename_i v vs1 h1 h2
      cases hd
      obtain ⟨v', e1, r1⟩ := dres1_sound hH h h1
      obtain ⟨vs', e2, r2⟩ := dresL_sound hH h h2
      refine ⟨v' :: vs', ?_, LR.cons r1 r2⟩
      rw [List.mapM_cons, Sem.run_bind, e1, Result.andThen_ok, Sem.run_bind, e2]
      rfl
    · cases hd
theorem dres_sound (hH : HR P N w0 τ σ H w) {fn : Func} {tm : Tr Value} {a : Array Value} (h : TmR σ τ tm a) {v : Value} (hd : dres P fn tm H = some v) :
    ∃ v', (results fn a).run P w = .ok v' w ∧ VR σ τ v v' := by
  unfold dres at hd
  cases hl : dresL P tm H fn.results.toList with
  | none => rw [hl] at hd; cases hd
  | some vs =>
    rw [hl] at hd
    obtain ⟨vs', e1, r1⟩ := dresL_sound hH h hl
    have hrun : (results fn a).run P w = (do let vs ← fn.results.toList.mapM (res1 a); pure (if h : vs.toArray.size = 1 then vs.toArray[0] else Value.tuple vs.toArray) : Sem Value).run P w := by
      have hf : (fun r : ResultVar => (match r with
        | ResultVar.tmp t => (pure (a.getD t undef) : Sem Value)
        | ResultVar.cell b t => (do loadVar t (← asAddr (a.getD b undef)) : Sem Value))) = res1 a := by
        funext r; cases r <;> rfl
      show Sem.run P (do let vs ← fn.results.mapM (fun r : ResultVar => (match r with
        | ResultVar.tmp t => (pure (a.getD t undef) : Sem Value)
        | ResultVar.cell b t => (do loadVar t (← asAddr (a.getD b undef)) : Sem Value))); pure (if h : vs.size = 1 then vs[0] else Value.tuple vs)) w = _
      rw [hf, Array.mapM_eq_mapM_toList]
      simp only [map_eq_pure_bind, bind_assoc, pure_bind]
    rw [hrun, Sem.run_bind, e1, Result.andThen_ok]
    have hl1 := r1.1
    match vs, hd, r1 with
    | [u], hd, r1 =>
      cases hd
      obtain ⟨v', r', rfl, hv, hr⟩ := r1.cons_inv
      have := hr.nil_inv
      subst this
      exact ⟨v', rfl, hv⟩
    | [], hd, r1 =>
      cases hd
      have := r1.nil_inv
      subst this
      exact ⟨_, rfl, .flat _ rfl⟩
    | u1 :: u2 :: vs, hd, r1 =>
      cases hd
      obtain ⟨v1, r', rfl, hv, hr⟩ := r1.cons_inv
      obtain ⟨v2, r'', rfl, hv2, hr2⟩ := hr.cons_inv
      refine ⟨.tuple (v1 :: v2 :: r'').toArray, ?_, RA.mk_tuple r1⟩
      simp
end
end Go.Hb
end

-- Snd2
section
namespace Go.Hb
open Go Go.RowKit
def ChR (σ : Nat → Loc) (τ : Nat → Value) : List PanicEntry → List PanicEntry → Prop
  | [], [] => True
  | e :: l, e' :: l' => VR σ τ e.v e'.v ∧ e'.recovered = e.recovered ∧ e'.goexit = e.goexit ∧ ChR σ τ l l'
  | _, _ => False
def ExR (σ : Nat → Loc) (τ : Nat → Value) : Ex → Exit → Prop
  | .normal, .normal => True
  | .exit i, .exit j => i = j
  | .ret, .ret => True
  | .panic ch, .panic ch' => ChR σ τ ch ch'
  | _, _ => False
def EnR (σ : Nat → Loc) (τ : Nat → Value) : En → Ending → Prop
  | .ret v, .returned v' => VR σ τ v v'
  | .panic ch, .panicked ch' => ChR σ τ ch ch'
  | _, _ => False
def MdR (σ : Nat → Loc) (τ : Nat → Value) : Option (List PanicEntry) → FrameMode → Prop
  | none, .returning => True
  | some ch, .panicking ch' => ChR σ τ ch ch'
  | _, _ => False
structure SR (P : Program) (N : Nat) (w0 : World) (τ : Nat → Value) (σ : Nat → Loc) (st : St) (m : Nat) (a : Act) (w : World) : Prop where
  hH : HR P N w0 τ σ st.H w
  tm : TmR σ τ st.tm a.tmps
  ds : DsR σ τ st.ds a.defers
  sz : m ≤ a.tmps.size
  gr : GR P σ
def FRel (x : Ctx) (F : Fence) : Prop := (x.round = none ∧ F = Fence.wide) ∨ (x.round ≠ none ∧ ∃ l, F = Fence.wide.inRound l)
section
variable {P : Program} {N : Nat} {w0 : World} {τ : Nat → Value} {σ σ' : Nat → Loc} {H : Heap} {w w' : World}
theorem ChR.ext (he : Ext σ σ') : ∀ {l l' : List PanicEntry}, ChR σ τ l l' → ChR σ' τ l l'
  | [], [], _ => trivial
  | _ :: _, _ :: _, h => ⟨h.1.ext he, h.2.1, h.2.2.1, ChR.ext he h.2.2.2⟩
  | [], _ :: _, h => h.elim
  | _ :: _, [], h => h.elim
theorem MdR.ext (he : Ext σ σ') : ∀ {m : Option (List PanicEntry)} {u : FrameMode}, MdR σ τ m u → MdR σ' τ m u
  | none, .returning, _ => trivial
  | some _, .panicking _, h => ChR.ext he h
  | none, .run, h => h.elim
  | none, .panicking _, h => h.elim
  | some _, .run, h => h.elim
  | some _, .returning, h => h.elim
theorem MdR.ne_run {m : Option (List PanicEntry)} {u : FrameMode} (h : MdR σ τ m u) : u ≠ .run := by
  rintro rfl; cases m <;> exact h
theorem ChR.dropWhile : ∀ {l l' : List PanicEntry}, ChR σ τ l l' → ChR σ τ (l.dropWhile (!·.goexit)) (l'.dropWhile (!·.goexit))
  | [], [], _ => trivial
  | e :: l, e' :: l', h => by
    simp only [List.dropWhile_cons]
    rw [h.2.2.1]
    split
    · exact ChR.dropWhile h.2.2.2
    · exact h
  | [], _ :: _, h => h.elim
  | _ :: _, [], h => h.elim
theorem MdR.settle : ∀ {m : Option (List PanicEntry)} {u : FrameMode}, MdR σ τ m u → MdR σ τ (dsettle m) (settle u)
  | none, .returning, _ => trivial
  | some [], .panicking [], _ => trivial
  | some (⟨v, r, g⟩ :: l), .panicking (⟨v', r', g'⟩ :: l'), h => by
    have hr : r' = r := h.2.1
    subst hr
    cases r' with
    | false => exact h
    | true =>
      have hd := h.2.2.2.dropWhile
      unfold dsettle Go.settle
      simp only [if_true]
      revert hd
      generalize l.dropWhile (!·.goexit) = x
      generalize l'.dropWhile (!·.goexit) = y
      intro hd
      match x, y, hd with
      | [], [], _ => trivial
      | _ :: _, _ :: _, hd => exact hd
      | [], _ :: _, hd => exact hd.elim
      | _ :: _, [], hd => exact hd.elim
  | none, .run, h => h.elim
  | none, .panicking _, h => h.elim
  | some _, .run, h => h.elim
  | some _, .returning, h => h.elim
  | some [], .panicking (_ :: _), h => h.elim
  | some (_ :: _), .panicking [], h => h.elim
theorem recov_sound {m : Option (List PanicEntry)} {c₀ : Frame} {cs : List Frame} (h : MdR σ τ m c₀.mode) :
    ∃ v' u', (match recoverD (c₀ :: cs) with | some (v, cs') => (v, cs') | none => (.nilIface, c₀ :: cs)) = (v', { c₀ with mode := u' } :: cs) ∧ VR σ τ (drecov m).1 v' ∧ MdR σ τ (drecov m).2 u' := by
  obtain ⟨f1, f2, f3, f4, mode, f6, f7⟩ := c₀
  simp only at h
  match m, mode, h with
  | none, .returning, _ => exact ⟨.nilIface, .returning, rfl, .flat _ rfl, trivial⟩
  | some [], .panicking [], _ => exact ⟨.nilIface, .panicking [], rfl, .flat _ rfl, trivial⟩
  | some (⟨v, r, g⟩ :: l), .panicking (⟨v', r', g'⟩ :: l'), h =>
    have hr : r' = r := h.2.1
    have hg : g' = g := h.2.2.1
    subst hr hg
    cases r' with
    | true => exact ⟨.nilIface, .panicking (⟨v', true, g'⟩ :: l'), rfl, .flat _ rfl, h⟩
    | false =>
      cases g' with
      | true => exact ⟨.nilIface, .panicking (⟨v', false, true⟩ :: l'), rfl, .flat _ rfl, h⟩
      | false => exact ⟨v', .panicking (⟨v', true, false⟩ :: l'), rfl, h.1, ⟨h.1, rfl, rfl, h.2.2.2⟩⟩
theorem HR.loopAt (hH : HR P N w0 τ σ H w) {l : Nat} {s : LoopState} {pend : Option Code} {fn : FuncId} {tm : Tr Value} {ps : List Tmp} {as bo : Code} {k : Nat} (hg : H.get l = some (.loop s pend fn tm ps as bo k)) :
    ∃ b S es m L, σ l = .live b S es ∧ N ≤ b ∧ w.heap[b]? = some (.loop L) ∧ L.state = s ∧ L.pending = pend ∧ L.params.toList = ps ∧ L.assign = as ∧ L.body = bo ∧ TmR σ τ tm L.tmps ∧ m ≤ L.tmps.size ∧
      okCode P.globals.size m as = true ∧ okCode P.globals.size m bo = true ∧ (∀ t ∈ ps, t < m) ∧ (pend = none ∨ pend = some .ret ∨ ∃ id, pend = some (.exit id)) := by
  have hB := hH.blk l _ hg
  generalize hσ : σ l = loc at hB
  cases hB with
  | loop b S es _ _ _ _ _ _ _ _ m L h1 h2 h3 h4 h5 h6 h7 h8 h9 h10 h11 h12 h13 => exact ⟨b, S, es, m, L, rfl, h1, h2, h3, h4, h5, h6, h7, h8, h9, h10, h11, h12, h13⟩
theorem BR.at' {l l' b S es : Nat} (h : BR σ l l') (hl : σ l = .live b S es) : l' = b := by
  unfold BR at h; rw [hl] at h; exact h
theorem run_getLoop {b : Nat} {L : Loop} (h : w.heap[b]? = some (.loop L)) : (Instr.getLoop b).run P w = .ok L w := by
  have hg : (getObj b).run P w = .ok (.loop L) w := by simp [getObj, Sem.run, h]
  simp [Instr.getLoop, Sem.run_bind, hg]
theorem run_setLoop {b : Nat} {o : Obj} {L : Loop} (h : w.heap[b]? = some (.loop L)) : (setObj b o).run P w = .ok () { w with heap := w.heap.setIfInBounds b o } := by
  simp [setObj, Sem.run, h]
theorem run_setDfr {b : Nat} {o : Obj} {l : Option (List Deferred)} (h : w.heap[b]? = some (.deferred l)) : (setObj b o).run P w = .ok () { w with heap := w.heap.setIfInBounds b o } := by
  simp [setObj, Sem.run, h]
theorem HR.setLoop (hH : HR P N w0 τ σ H w) {l : Nat} {s s' : LoopState} {pend pend' : Option Code} {fn : FuncId} {tm : Tr Value} {ps : List Tmp} {as bo : Code} {k b S es m : Nat} {L : Loop} (hg : H.get l = some (.loop s pend fn tm ps as bo k))
    (hσ : σ l = .live b S es) (hN : N ≤ b) (hb : w.heap[b]? = some (.loop L)) (h5 : L.params.toList = ps) (h6 : L.assign = as) (h7 : L.body = bo) (h8 : TmR σ τ tm L.tmps) (h9 : m ≤ L.tmps.size)
    (h10 : okCode P.globals.size m as = true) (h11 : okCode P.globals.size m bo = true) (h12 : ∀ t ∈ ps, t < m) (h13 : pend' = none ∨ pend' = some .ret ∨ ∃ id, pend' = some (.exit id)) :
    HR P N w0 τ σ (H.put l (some (.loop s' pend' fn tm ps as bo k))) { w with heap := w.heap.setIfInBounds b (.loop { L with state := s', pending := pend' }) } ∧
    Step σ H w σ (H.put l (some (.loop s' pend' fn tm ps as bo k))) { w with heap := w.heap.setIfInBounds b (.loop { L with state := s', pending := pend' }) } := by
  have hbl := (Array.getElem?_eq_some_iff.1 hb).1
  exact hH.write (by rw [hg]; simp) hσ hN rfl rfl rfl (by simp) (fun j hj => set_at _ hj)
    (.loop b S es s' pend' fn tm ps as bo k m { L with state := s', pending := pend' } hN (set_same _ hbl) rfl rfl h5 h6 h7 h8 h9 h10 h11 h12 h13)
theorem zip_rel {m : Nat} : ∀ {ps : List Tmp} {args args' : List Value} {tm : Tr Value} {a : Array Value}, LR σ τ args args' → TmR σ τ tm a → m ≤ a.size → (∀ t ∈ ps, t < m) →
    TmR σ τ ((ps.zip args).foldl (fun t p => t.put p.1 (some p.2)) tm) ((ps.zip args').foldl (fun tmps p => tmps.setIfInBounds p.1 p.2) a) ∧ ((ps.zip args').foldl (fun tmps p => tmps.setIfInBounds p.1 p.2) a).size = a.size
  | [], args, args', tm, a, _, ht, _, _ => by simpa using ht
  | p :: ps, [], args', tm, a, hl, ht, _, _ => by rw [hl.nil_inv]; simpa using ht
  | p :: ps, v :: args, args', tm, a, hl, ht, hm, hp => by
    obtain ⟨v', r', rfl, hv, hr⟩ := hl.cons_inv
    simp only [List.zip_cons_cons, List.foldl_cons]
    have hlt : p < a.size := Nat.lt_of_lt_of_le (hp p (by simp)) hm
    have h1 : TmR σ τ (tm.put p (some v)) (a.setIfInBounds p v') := fun t u hu => by
      rw [Tr.get_put] at hu
      rw [Array.getD_eq_getD_getElem?, Array.getElem?_setIfInBounds]
      by_cases h : t = p
      · rw [if_pos h] at hu; cases hu
        rw [if_pos h.symm, if_pos hlt]; exact hv
      · rw [if_neg h] at hu
        rw [if_neg (fun e => h e.symm)]
        have := ht t u hu
        rw [Array.getD_eq_getD_getElem?] at this; exact this
    obtain ⟨k1, k2⟩ := zip_rel hr h1 (by simpa using hm) (fun t ht => hp t (List.mem_cons_of_mem _ ht))
    exact ⟨k1, by rw [k2]; simp⟩
end
end Go.Hb
end

-- Snd3
section
namespace Go.Hb
open Go Go.RowKit
section
variable (P : Program) (N : Nat) (w0 : World) (τ : Nat → Value) (ok : Ok)
def seqW (F : Fence) (P : Program) (Q : Exit → Act → World → Prop) : List Code → Act → World → Prop
  | [] => Q .normal
  | c :: rs => c.wpIn F 0 P (Exit.then (seqW F P Q rs) Q)
def Cont (σ : Nat → Loc) (H : Heap) (w : World) (ex : Ex) (st' : St) (m : Nat) (Q : Exit → Act → World → Prop) : Prop :=
  ∀ e a' w' σ', ExR σ' τ ex e → SR P N w0 τ σ' st' m a' w' → Step σ H w σ' st'.H w' → Q e a' w'
structure All (n : Nat) : Prop where
  code : ∀ {x c st ex st' m a w σ F} (Q : Exit → Act → World → Prop), dcode P ok n x c st = some (ex, st') → okCode P.globals.size m c = true → SR P N w0 τ σ st m a w → FRel x F →
    Cont P N w0 τ σ st.H w ex st' m Q → c.wpIn F 0 P Q a w
  loop : ∀ {x c st ex st' m a w σ F} (Q : Exit → Act → World → Prop), dcode P ok n x (.loop c) st = some (ex, st') → okCode P.globals.size m c = true → SR P N w0 τ σ st m a w → FRel x F →
    Cont P N w0 τ σ st.H w ex st' m Q → Code.roundsIn F 0 P c Q n a w
  seq : ∀ {x rs st ex st' m a w σ F} (Q : Exit → Act → World → Prop), dseq P ok n x rs st = some (ex, st') → (∀ c ∈ rs, okCode P.globals.size m c = true) → SR P N w0 τ σ st m a w → FRel x F →
    Cont P N w0 τ σ st.H w ex st' m Q → seqW F P Q rs a w
  ops : ∀ {x ops l st ex st' m a w σ F} (Q : Exit → Act → World → Prop), dops P ok n x ops l st = some (ex, st') → ops.toList.all (okOper P.globals.size m) = true → SR P N w0 τ σ st m a w → FRel x F →
    Cont P N w0 τ σ st.H w ex st' m Q → wpOpsIn F 0 P ops Q l a w
  op1 : ∀ {x o ρ ds H r a w σ F} (K : Act → World → Prop) (Q : Exit → Act → World → Prop), dop1 P ok n x o ρ ds H = some r → (∀ y ∈ o.op.operands.toList, VR σ τ (ρ y) (a.eval y)) → HR P N w0 τ σ H w → DsR σ τ ds a.defers → GR P σ → FRel x F →
    (match (generalizing := false) r with
     | .val v ds1 H1 => ∀ σ' v' w' dfs', VR σ' τ v v' → HR P N w0 τ σ' H1 w' → DsR σ' τ ds1 dfs' → Step σ H w σ' H1 w' → K (({ a with defers := dfs' } : Act).put o.dst v') w'
     | .panic ch H1 => ∀ σ' ch' w', ChR σ' τ ch ch' → HR P N w0 τ σ' H1 w' → Step σ H w σ' H1 w' → Q (.panic ch') a w') → o.wpIn F 0 P a w K Q
  call : ∀ {f args args' H en H' w σ}, dcall P ok n f args H = some (en, H') → LR σ τ args args'.toList → HR P N w0 τ σ H w → GR P σ →
    CallsIn Fence.wide 0 P f args' w fun e w' => ∃ σ', EnR σ' τ en e ∧ HR P N w0 τ σ' H' w' ∧ Step σ H w σ' H' w'
  leave : ∀ {fn tm ds md H en H' tmps ds' u w σ} (R : Ending → World → Prop), dleave P ok n fn tm ds md H = some (en, H') → TmR σ τ tm tmps → DsR σ τ ds ds' → MdR σ τ md u → HR P N w0 τ σ H w → GR P σ →
    (∀ e w' σ', EnR σ' τ en e → HR P N w0 τ σ' H' w' → Step σ H w σ' H' w' → R e w') → LeavesInM Fence.wide 0 P fn tmps R ds' u w
  round : ∀ {l l' args args' H v H' w σ}, dround P ok n l args H = some (v, H') → BR σ l l' → LR σ τ args args'.toList → HR P N w0 τ σ H w → GR P σ →
    ∃ f tmps as bo, (Instr.yield l' args').run P w = .ok (.round l' f tmps as bo) w ∧
      ∀ (F : Fence), (F = Fence.wide ∨ ∃ l2, F = Fence.wide.inRound l2) → RoundIn F 0 P l' f tmps as bo w fun e w' => ∃ v' σ', e = .returned v' ∧ VR σ' τ v v' ∧ HR P N w0 τ σ' H' w' ∧ Step σ H w σ' H' w'
end
end Go.Hb
end

-- Snd4
section
namespace Go.Hb
open Go Go.RowKit
section
variable {P : Program} {N : Nat} {w0 : World} {τ : Nat → Value} {ok : Ok} {n : Nat}
theorem FRel.fn {x : Ctx} {F : Fence} (h : FRel x F) : ∀ f, F.fn f := by
  intro f
  rcases h with ⟨_, rfl⟩ | ⟨_, l, rfl⟩ <;> trivial
theorem FRel.depth {x : Ctx} {F : Fence} (h : FRel x F) : F.depth.isSome = true → 1 ≤ 0 := by
  intro hd
  rcases h with ⟨_, rfl⟩ | ⟨_, l, rfl⟩ <;> cases hd
theorem FRel.calls {x : Ctx} {F : Fence} (h : FRel x F) {f : FuncId} {args : Array Value} {w : World} {R : Ending → World → Prop} (hc : CallsIn Fence.wide 0 P f args w R) : CallsIn F 0 P f args w R := by
  rcases h with ⟨_, rfl⟩ | ⟨_, l, rfl⟩
  · exact hc
  · exact hc
theorem FRel.any {x : Ctx} {F : Fence} (h : FRel x F) : F = Fence.wide ∨ ∃ l2, F = Fence.wide.inRound l2 := by
  rcases h with ⟨_, h⟩ | ⟨_, h⟩
  · exact .inl h
  · exact .inr h
theorem dop_defer {o : Oper} {ρ : Operand → Value} {H : Heap} {r : Dr} {c : Call} (ho : o.op = .defer c) (h : dop P o ρ H = some r) : ∃ d, r = .dfr d := by
  unfold dop at h
  rw [ho] at h
  simp only at h
  split at h
  · split at h
    · cases h; exact ⟨_, rfl⟩
    · cases h
  · cases h
theorem op1_step (hτ : ∀ j, (τ j).oneCell' = true) (A : All P N w0 τ ok n) {x o ρ ds H r a w σ F} (K : Act → World → Prop) (Q : Exit → Act → World → Prop) (h : dop1 P ok (n + 1) x o ρ ds H = some r)
    (hρ : ∀ y ∈ o.op.operands.toList, VR σ τ (ρ y) (a.eval y)) (hH : HR P N w0 τ σ H w) (hds : DsR σ τ ds a.defers) (hg : GR P σ) (hF : FRel x F)
    (hK : match (generalizing := false) r with
     | .val v ds1 H1 => ∀ σ' v' w' dfs', VR σ' τ v v' → HR P N w0 τ σ' H1 w' → DsR σ' τ ds1 dfs' → Step σ H w σ' H1 w' → K (({ a with defers := dfs' } : Act).put o.dst v') w'
     | .panic ch H1 => ∀ σ' ch' w', ChR σ' τ ch ch' → HR P N w0 τ σ' H1 w' → Step σ H w σ' H1 w' → Q (.panic ch') a w') : o.wpIn F 0 P a w K Q := by
  unfold dop1 at h
  have hnd : ∀ dr, dop P o ρ H = some dr → (∀ d, dr ≠ .dfr d) → ∀ c, o.op ≠ .defer c := fun dr hd hne c hc => by
    obtain ⟨d, hd'⟩ := dop_defer hc hd
    exact hne d hd'
  split at h
  ·
    rename_i v H' hd
    cases h
    obtain ⟨nx, w', σ', v', hrun, hnx, hv, hH', hst⟩ := dop_sound hH hτ hρ hd
    exact wpIn_of_run hF.fn (hnd _ hd (by simp)) hrun hnx (hK σ' v' w' a.defers hv hH' (hds.ext hst.ext) hst)
  ·
    rename_i f args hd
    obtain ⟨args', hrun, hl⟩ := dop_sound hH hτ hρ hd
    refine ⟨fun f _ => hF.fn f, ?_⟩
    rw [Oper.semAt_eq _ _ _ (hnd _ hd (by simp)), hrun, Oper.uponIn_enter]
    refine ⟨hF.depth, ?_⟩
    cases hc : dcall P ok n f args H with
    | none => rw [hc] at h; cases h
    | some p =>
      obtain ⟨en, H'⟩ := p
      rw [hc] at h
      refine hF.calls (CallsIn.mono (A.call hc hl hH hg) fun e w' he => ?_)
      obtain ⟨σ', hen, hH', hst⟩ := he
      cases en with
      | ret v =>
        cases h
        cases e with
        | returned v' => exact hK σ' v' w' a.defers hen hH' (hds.ext hst.ext) hst
        | panicked _ => exact hen.elim
        | outgrown => exact hen.elim
      | panic ch =>
        cases h
        cases e with
        | returned v' => exact hen.elim
        | panicked ch' => exact hK σ' ch' w' hen hH' hst
        | outgrown => exact hen.elim
  ·
    rename_i l args hd
    obtain ⟨l', args', hrun, hbr, hl⟩ := dop_sound hH hτ hρ hd
    cases hc : dround P ok n l args H with
    | none => rw [hc] at h; cases h
    | some p =>
      obtain ⟨v, H'⟩ := p
      rw [hc] at h
      cases h
      obtain ⟨f, tmps, as, bo, hy, hr⟩ := A.round hc hbr hl hH hg
      refine ⟨fun f _ => hF.fn f, ?_⟩
      rw [Oper.semAt_eq _ _ _ (hnd _ hd (by simp)), hrun, hy, Oper.uponIn_round]
      refine ⟨hF.depth, RoundIn.mono (hr F hF.any) fun e w' he => ?_⟩
      obtain ⟨v', σ', rfl, hv, hH', hst⟩ := he
      exact hK σ' v' w' a.defers hv hH' (hds.ext hst.ext) hst
  ·
    rename_i d hd
    obtain ⟨d', hrun, hdr⟩ := dop_sound hH hτ hρ hd
    cases hx : x.round with
    | some _ => rw [hx] at h; cases h
    | none =>
      rw [hx] at h
      cases h
      refine ⟨fun f _ => hF.fn f, ?_⟩
      have hFw : F = Fence.wide := by
        rcases hF with ⟨_, h⟩ | ⟨h, _⟩
        · exact h
        · exact absurd hx h
      subst hFw
      show o.uponIn Fence.wide 0 P a K Q ((execOp a.eval o).run P w)
      rw [hrun, Oper.uponIn_defer]
      exact hK σ undef w (d' :: a.defers) (.flat _ rfl) hH ⟨hdr, hds⟩ (Step.refl _ _ _)
  ·
    rename_i v hd
    cases h
    obtain ⟨v', hrun, hv⟩ := dop_sound hH hτ hρ hd
    refine ⟨fun f _ => hF.fn f, ?_⟩
    rw [Oper.semAt_eq _ _ _ (hnd _ hd (by simp)), hrun, Oper.uponIn_panic]
    exact hK σ _ w ⟨hv, rfl, rfl, trivial⟩ hH (Step.refl _ _ _)
  · cases h
theorem ops_step (A : All P N w0 τ ok n) {x ops l st ex st' m a w σ F} (Q : Exit → Act → World → Prop) (h : dops P ok (n + 1) x ops l st = some (ex, st')) (hok : ops.toList.all (okOper P.globals.size m) = true) (hs : SR P N w0 τ σ st m a w)
    (hF : FRel x F) (hQ : Cont P N w0 τ σ st.H w ex st' m Q) : wpOpsIn F 0 P ops Q l a w := by
  cases l with
  | nil =>
    unfold dops at h
    cases h
    exact hQ .normal a w σ trivial hs (Step.refl _ _ _)
  | cons i rest =>
    unfold dops at h
    unfold wpOpsIn
    cases ho : ops[i]? with
    | none => rw [ho] at h; cases h
    | some o =>
      rw [ho] at h
      simp only at h ⊢
      have hmem : o ∈ ops.toList := by
        obtain ⟨h1, h2⟩ := Array.getElem?_eq_some_iff.1 ho
        rw [← h2]; exact Array.getElem_mem_toList h1
      have hoko := List.all_eq_true.1 hok o hmem
      unfold okOper at hoko
      rw [Bool.and_eq_true] at hoko
      have hdm : ∀ d, o.dst = some d → d < m := fun d hd => by have := hoko.1; rw [hd] at this; simpa [Nat.blt_eq] using this
      have hput : ∀ {σ' : Nat → Loc} {v v' : Value} {ds : List Deferred} {dfs : List Deferred} {H' : Heap} {w' : World}, Ext σ σ' → VR σ' τ v v' → HR P N w0 τ σ' H' w' → DsR σ' τ ds dfs →
          SR P N w0 τ σ' (St.put ⟨st.tm, ds, st.H⟩ o.dst v H') m (({ a with defers := dfs } : Act).put o.dst v') w' := by
        intro σ' v v' ds dfs H' w' he hv hH' hd
        have htm := TmR.put (a := { a with defers := dfs }) hs.tm he (d := o.dst) (fun t ht => Nat.lt_of_lt_of_le (hdm t ht) hs.sz) hv
        have hst : St.put ⟨st.tm, ds, st.H⟩ o.dst v H' = ⟨putD st.tm o.dst v, ds, H'⟩ := by cases o.dst <;> rfl
        rw [hst]
        exact ⟨hH', htm, by rw [act_put_defers]; exact hd, by rw [act_put_size]; exact hs.sz, hs.gr.ext he⟩
      cases hw : dwanted ops st.tm o with
      | none => rw [hw] at h; cases h
      | some bb =>
        rw [hw] at h
        have hwant := wanted_of (σ := σ) (τ := τ) (a := a.tmps) (fun j want oj d v _ _ _ hv => hs.tm d v hv) hw
        rw [hwant]
        cases bb with
        | false =>
          simp only [Bool.false_eq_true, if_false] at h ⊢
          refine ⟨fun f _ => hF.fn f, A.ops Q h hok (hput (Ext.refl σ) (.flat _ rfl) hs.hH hs.ds) hF ?_⟩
          intro e a' w' σ' he hs' hst
          refine hQ e a' w' σ' he hs' ?_
          have : (st.put o.dst undef st.H).H = st.H := by cases o.dst <;> rfl
          rw [this] at hst; exact hst
        | true =>
          simp only [if_true] at h ⊢
          cases h1 : dop1 P ok n x o (ev st.tm) st.ds st.H with
          | none => rw [h1] at h; cases h
          | some r =>
            rw [h1] at h
            refine A.op1 _ Q h1 (fun y hy => opnd hs.tm hs.gr (List.all_eq_true.1 hoko.2 y hy)) hs.hH hs.ds hs.gr hF ?_
            cases r with
            | val v ds1 H1 =>
              intro σ' v' w' dfs' hv hH' hd' hst
              refine A.ops Q h hok (hput hst.ext hv hH' hd') hF ?_
              intro e a' w'' σ'' he hs' hst'
              refine hQ e a' w'' σ'' he hs' ?_
              have : (St.put ⟨st.tm, ds1, st.H⟩ o.dst v H1).H = H1 := by cases o.dst <;> rfl
              rw [this] at hst'
              exact hst.trans hst'
            | panic ch H1 =>
              intro σ' ch' w' hch hH' hst
              cases h
              exact hQ (.panic ch') a w' σ' hch ⟨hH', fun t v hv => (hs.tm t v hv).ext hst.ext, hs.ds.ext hst.ext, hs.sz, hs.gr.ext hst.ext⟩ hst
theorem seq_step (A : All P N w0 τ ok n) {x rs st ex st' m a w σ F} (Q : Exit → Act → World → Prop) (h : dseq P ok (n + 1) x rs st = some (ex, st')) (hok : ∀ c ∈ rs, okCode P.globals.size m c = true) (hs : SR P N w0 τ σ st m a w)
    (hF : FRel x F) (hQ : Cont P N w0 τ σ st.H w ex st' m Q) : seqW F P Q rs a w := by
  cases rs with
  | nil => unfold dseq at h; cases h; exact hQ .normal a w σ trivial hs (Step.refl _ _ _)
  | cons c rs =>
    unfold dseq at h
    cases hc : dcode P ok n x c st with
    | none => rw [hc] at h; cases h
    | some p =>
      obtain ⟨ex1, st1⟩ := p
      rw [hc] at h
      refine A.code _ hc (hok c (by simp)) hs hF ?_
      intro e a' w' σ' he hs' hst
      cases ex1 with
      | normal =>
        cases e <;> try exact he.elim
        exact A.seq Q h (fun d hd => hok d (List.mem_cons_of_mem _ hd)) hs' hF fun e2 a2 w2 σ2 he2 hs2 hst2 => hQ e2 a2 w2 σ2 he2 hs2 (hst.trans hst2)
      | exit i => cases h; cases e <;> try exact he.elim
                  exact hQ _ a' w' σ' he hs' hst
      | ret => cases h; cases e <;> try exact he.elim
               exact hQ _ a' w' σ' he hs' hst
      | panic ch => cases h; cases e <;> try exact he.elim
                    exact hQ _ a' w' σ' he hs' hst
theorem loop_step (A : All P N w0 τ ok n) {x c st ex st' m a w σ F} (Q : Exit → Act → World → Prop) (hm : mapShape c = none) (h : dcode P ok (n + 1) x (.loop c) st = some (ex, st')) (hok : okCode P.globals.size m c = true) (hs : SR P N w0 τ σ st m a w)
    (hF : FRel x F) (hQ : Cont P N w0 τ σ st.H w ex st' m Q) : Code.roundsIn F 0 P c Q (n + 1) a w := by
  unfold dcode at h
  simp only at h
  rw [hm] at h
  simp only at h
  rw [roundsIn_succ]
  cases hc : dcode P ok n x c st with
  | none => rw [hc] at h; cases h
  | some p =>
    obtain ⟨ex1, st1⟩ := p
    rw [hc] at h
    refine A.code _ hc hok hs hF ?_
    intro e a' w' σ' he hs' hst
    cases ex1 with
    | normal =>
      cases e <;> try exact he.elim
      exact A.loop Q h hok hs' hF fun e2 a2 w2 σ2 he2 hs2 hst2 => hQ e2 a2 w2 σ2 he2 hs2 (hst.trans hst2)
    | exit i => cases h; cases e <;> try exact he.elim
                exact hQ _ a' w' σ' he hs' hst
    | ret => cases h; cases e <;> try exact he.elim
             exact hQ _ a' w' σ' he hs' hst
    | panic ch => cases h; cases e <;> try exact he.elim
                  exact hQ _ a' w' σ' he hs' hst
end
end Go.Hb
end

-- SndM1
section
namespace Go.Hb
open Go Go.RowKit
section
variable {τ : Nat → Value} {σ0 σ' σ2 : Nat → Loc}
theorem AR.cut (hc : ∀ i, σ0 i ≠ .none → σ2 i = σ' i) {a a' a0 : Addr} (h : AR σ' a a') (h0 : AR σ0 a a0) : AR σ2 a a' := by
  unfold AR at *
  cases hsp : a.spot with
  | some _ => trivial
  | none =>
    rw [hsp] at h h0
    simp only at h h0 ⊢
    have hne : σ0 a.block ≠ .none := fun e => by rw [e] at h0; exact h0
    rw [hc _ hne]; exact h
theorem BR.cut (hc : ∀ i, σ0 i ≠ .none → σ2 i = σ' i) {a a' a0 : Nat} (h : BR σ' a a') (h0 : BR σ0 a a0) : BR σ2 a a' := by
  unfold BR at *
  have hne : σ0 a ≠ .none := fun e => by rw [e] at h0; exact h0
  rw [hc _ hne]; exact h
theorem VR.cut (hc : ∀ i, σ0 i ≠ .none → σ2 i = σ' i) {v v' v0 : Value} (h : VR σ' τ v v') (h0 : VR σ0 τ v v0) : VR σ2 τ v v' := by
  have ra : ∀ {x x' x0 : Array Value}, x.size = x'.size → (∀ (i : Nat) v v', x[i]? = some v → x'[i]? = some v' → ∀ v0, VR σ0 τ v v0 → VR σ2 τ v v') → RA σ0 τ x x0 → ∀ (i : Nat) v v', x[i]? = some v → x'[i]? = some v' → VR σ2 τ v v' := by
    intro x x' x0 hs ih k i v v' hv hv'
    obtain ⟨u, hu, hr⟩ := LR.get k (i := i) (v := v) (by simpa using hv)
    exact ih i v v' hv hv' u hr
  induction h generalizing v0 with
  | junk v' => exact .junk v'
  | tok j => exact .tok j
  | flat v h => exact .flat v h
  | ptr a a' h => obtain ⟨a0, rfl, h1⟩ := h0.ptr_inv; exact .ptr a a' (h.cut hc h1)
  | slice a a' n c c' h h1 h2 h3 =>
    obtain ⟨a0, c0, rfl, k1, -⟩ := h0.slice_inv
    refine .slice a a' n c c' (h.cut hc k1) h1 h2 ⟨h3.1, fun hsp b S es hb => ?_⟩
    have hne : σ0 a.block ≠ .none := fun e => by unfold AR at k1; rw [hsp] at k1; simp only [e] at k1
    rw [hc _ hne] at hb
    exact h3.2 hsp b S es hb
  | map r r' h => obtain ⟨r0, rfl, h1⟩ := h0.map_inv; exact .map r r' (h.cut hc h1)
  | func f x y x' y' h1 h2 h3 h4 i1 i2 =>
    obtain ⟨x0, y0, rfl, k1, k2⟩ := h0.func_inv
    exact .func f x y x' y' h1 (ra h1 (fun i v v' a b u hu => i1 i v v' a b hu) k1) h3 (ra h3 (fun i v v' a b u hu => i2 i v v' a b hu) k2)
  | yield l l' h => obtain ⟨l0, rfl, h1, -, -⟩ := h0.yield_inv; exact .yield l l' (h.cut hc h1)
  | iface t v v' h ih => obtain ⟨u0, rfl, h1⟩ := h0.iface_inv; exact .iface t v v' (ih h1)
  | agg x x' h1 h2 ih =>
    obtain ⟨x0, rfl, k⟩ := h0.agg_inv
    exact .agg x x' h1 (ra h1 (fun i v v' a b u hu => ih i v v' a b hu) k)
  | tuple x x' h1 h2 ih =>
    obtain ⟨x0, rfl, k⟩ := h0.tuple_inv
    exact .tuple x x' h1 (ra h1 (fun i v v' a b u hu => ih i v v' a b hu) k)
theorem LR.cut (hc : ∀ i, σ0 i ≠ .none → σ2 i = σ' i) {l l' l0 : List Value} (h : LR σ' τ l l') (h0 : LR σ0 τ l l0) : LR σ2 τ l l' :=
  ⟨h.1, fun i v v' a b => by obtain ⟨u, hu, hr⟩ := h0.get a; exact (h.2 i v v' a b).cut hc hr⟩
theorem TmR.cut (hc : ∀ i, σ0 i ≠ .none → σ2 i = σ' i) {tm : Tr Value} {a a0 : Array Value} (h : TmR σ' τ tm a) (h0 : TmR σ0 τ tm a0) : TmR σ2 τ tm a := fun i v hv => (h i v hv).cut hc (h0 i v hv)
variable {P : Program} {N : Nat} {w0 : World} {H0 H' : Heap} {w w' : World}
theorem BlkR.cut (hc : ∀ i, σ0 i ≠ .none → σ2 i = σ' i) {l l0 : Loc} {B : Blk} (h : BlkR P N σ' τ w' l B) (h0 : BlkR P N σ0 τ w l0 B) : BlkR P N σ2 τ w' l B := by
  cases h with
  | ro b S cs e cur fr h1 h2 h3 => cases h0 with | ro _ _ _ _ cur0 _ _ _ k3 => exact .ro b S cs e cur fr h1 h2 (LR.cut hc h3 k3)
  | row b S es cs e cur h1 h2 h3 h4 h5 => cases h0 with | row _ _ _ _ _ cur0 _ _ _ _ k5 => exact .row b S es cs e cur h1 h2 h3 h4 (LR.cut hc h5 k5)
  | map b S es xs clock xs' h1 h2 h3 =>
    cases h0 with
    | map _ _ _ _ _ xs0 _ _ k3 =>
      refine .map b S es xs clock xs' h1 h2 ⟨h3.1, fun i e e' a b' => ?_⟩
      obtain ⟨x, y, z, u⟩ := h3.2 i e e' a b'
      have hi : i < xs.length := (List.getElem?_eq_some_iff.1 a).1
      have hi0 : i < xs0.size := by rw [← k3.1]; exact hi
      exact ⟨x, y, z, u.cut hc (k3.2 i e xs0[i] a (Array.getElem?_eq_getElem hi0)).2.2.2⟩
  | siter b S es s pos h1 h2 => exact .siter b S es s pos h1 h2
  | mit b S es m m' since h1 h2 h3 => cases h0 with | mit _ _ _ _ m0 _ _ _ k3 => exact .mit b S es m m' since h1 h2 (h3.cut hc k3)
  | loop b S es st pend fn tm ps as bo k m L h1 h2 h3 h4 h5 h6 h7 h8 h9 h10 h11 h12 h13 =>
    cases h0 with
    | loop _ _ _ _ _ _ _ _ _ _ _ _ L0 _ _ _ _ _ _ _ k8 => exact .loop b S es st pend fn tm ps as bo k m L h1 h2 h3 h4 h5 h6 h7 (h8.cut hc k8) h9 h10 h11 h12 h13
  | dfr b S es h1 h2 => exact .dfr b S es h1 h2
theorem HR.back (h0 : HR P N w0 τ σ0 H0 w) (h1 : HR P N w0 τ σ' H' w') (hs : Step σ0 H0 w σ' H' w') (hk : ∀ i, i < H0.next → H'.get i = H0.get i) :
    ∃ σ2, HR P N w0 τ σ2 H0 w' ∧ Step σ0 H0 w σ2 H0 w' ∧ (∀ i, σ0 i ≠ .none → σ2 i = σ' i) ∧ (∀ i, σ2 i = σ' i ∨ σ2 i = .none) := by
  have hlt : ∀ i, σ0 i ≠ .none → i < H0.next := fun i hi => by
    rcases Nat.lt_or_ge i H0.next with h | h
    · exact h
    · exact absurd (h0.fresh i h) hi
  have hc : ∀ i, σ0 i ≠ .none → (fun i => if i < H0.next then σ' i else Loc.none) i = σ' i := fun i hi => if_pos (hlt i hi)
  have hp : ∀ i b S es, (fun i => if i < H0.next then σ' i else Loc.none) i = .live b S es → σ' i = .live b S es := fun i b S es h => by
    simp only at h
    split at h
    · exact h
    · cases h
  refine ⟨fun i => if i < H0.next then σ' i else .none, ⟨h1.below, h1.size, fun i hi => if_neg (by omega), fun i B hB => ?_, fun i j b S es S' es' hi hj => h1.inj i j b S es S' es' (hp _ _ _ _ hi) (hp _ _ _ _ hj), fun i b S es hi => h1.lt i b S es (hp _ _ _ _ hi)⟩, ⟨Nat.le_refl _, fun i => ?_, fun i b S es hi => hs.new i b S es (hp _ _ _ _ hi), hs.frame, hs.size, fun i hi hg => ?_⟩, hc, fun i => ?_⟩
  · have hi := h0.get_lt hB
    have k0 := h0.blk i B hB
    have k1 := h1.blk i B (by rw [hk i hi]; exact hB)
    have e : (if i < H0.next then σ' i else Loc.none) = σ' i := if_pos hi
    rw [e]
    exact k1.cut hc k0
  · by_cases hi : i < H0.next
    · simp only [if_pos hi]; exact hs.ext i
    · exact .inl (h0.fresh i (by omega))
  · obtain ⟨e1, -⟩ := hs.keep i hi hg
    by_cases hl : i < H0.next
    · simp only [if_pos hl]; exact ⟨e1, hg⟩
    · simp only [if_neg hl]; exact ⟨(h0.fresh i (by omega)).symm, hg⟩
  · by_cases hl : i < H0.next
    · exact .inl (if_pos hl)
    · exact .inr (if_neg hl)
end
section
variable {P : Program}
theorem run_next_at {w : World} {b m since last : Nat} {seen : Array Nat} {es : Array MapEntry} {clock : Nat} {ty : TypeId} (hi : w.heap[b]? = some (.mapIter (some m) since seen last)) (hm : w.heap[m]? = some (.map es clock)) (hold : ∀ x ∈ es.toList, x.born < since) (hsl : since ≤ last) :
    ((leftOf es seen).size = 0 ∧ (Instr.next (.pointer (some ⟨b, 0, none⟩)) false ty).run P w = .ok (.tuple #[.bool false]) w) ∨
    ∃ e ∈ (leftOf es seen).toList, ∃ w1 : World, (w1 = w ∨ w1 = w.drew) ∧ (Instr.next (.pointer (some ⟨b, 0, none⟩)) false ty).run P w = .ok (.tuple #[.bool true, e.key, e.val]) { w1 with heap := w1.heap.setIfInBounds b (.mapIter (some m) since (seen.push e.born) clock) } := by
  simp only [Instr.next, getObj, Sem.run_bind, Sem.run, hi, hm, Result.andThen, next_test_false seen es since last hold hsl, Bool.false_eq_true, if_false]
  unfold leftOf
  have hmem : ∀ x ∈ (Array.filter (fun e => !seen.contains e.born) es).toList, x.born < since := fun x hx => hold x (by simp at hx ⊢; exact hx.1)
  generalize Array.filter (fun e => !seen.contains e.born) es = L at hmem ⊢
  have e1 : L.filter (fun x => decide (x.born < since)) = L := Array.filter_eq_self.2 (fun x hx => by simpa using hmem x (by simpa using hx))
  have e2 : L.filter (fun x => decide (x.born ≥ since)) = #[] := by
    rw [Array.filter_eq_empty_iff]
    intro x hx
    have := hmem x (by simpa using hx)
    simp
    omega
  simp only [e1, e2, Array.append_empty]
  by_cases h0 : L.size = 0
  · left
    have : L = #[] := Array.eq_empty_of_size_eq_zero h0
    subst this
    refine ⟨rfl, ?_⟩
    simp [choose, Sem.run, Question.forced]
  · right
    have hne : L.isEmpty = false := by simp [Array.isEmpty, h0]
    simp only [hne, Bool.false_eq_true, if_false, Array.empty_append, Array.size_map]
    have hch : ∃ (j : Nat) (w1 : World), j < L.size ∧ (w1 = w ∨ w1 = w.drew) ∧ (choose (Question.mapNext L.size)).run P w = .ok j w1 := by
      by_cases hf : L.size ≤ 1
      · exact ⟨0, w, by omega, .inl rfl, by simp [choose, Sem.run, Question.forced, hf]⟩
      · exact ⟨_, w.drew, Nat.mod_lt _ (by omega), .inr rfl, by
          simp only [choose, Sem.run, Question.forced, decide_eq_true_eq, hf, if_false, Question.cut]
          rfl⟩
    obtain ⟨j, w1, hj, hal, hrun⟩ := hch
    refine ⟨L[j], by simp, w1, hal, ?_⟩
    have hi1 : w1.heap[b]? = some (.mapIter (some m) since seen last) := by rcases hal with rfl | rfl <;> exact hi
    have hset : ∀ o : Obj, (setObj b o).run P w1 = .ok () { w1 with heap := w1.heap.setIfInBounds b o } := fun o => by simp [setObj, Sem.run, hi1]
    simp only [hrun, Array.getElem?_map, Array.getElem?_eq_getElem hj, Option.map_some, Sem.run_bind, hset, Result.andThen]
    rfl
theorem run_entry_at {w : World} {b m since : Nat} {seen : Array Nat} {es : Array MapEntry} {clock : Nat} {e : MapEntry} (hi : w.heap[b]? = some (.mapIter (some m) since (seen.push e.born) clock)) (hm : w.heap[m]? = some (.map es clock)) (he : e ∈ es.toList) (hn : (es.toList.map (·.born)).Nodup) :
    (Instr.entry (.pointer (some ⟨b, 0, none⟩))).run P w = .ok (.tuple #[e.key, e.val]) w := by
  have hf : es.find? (·.born == e.born) = some e := by rw [← Array.find?_toList]; exact find_born e es.toList hn he
  simp only [Instr.entry, getObj, Sem.run_bind, Sem.run, hi, hm, Result.andThen, Array.back?_push, bne_self_eq_false, Bool.false_eq_true, if_false, hf]
  rfl
end
section
variable {F : Fence} {P : Program}
theorem then_same (Q : Exit → Act → World → Prop) : Exit.then (Q .normal) Q = Q := by
  funext e a w; cases e <;> rfl
theorem seqW_append (Q : Exit → Act → World → Prop) (c : Code) : ∀ rs : List Code, seqW F P Q (rs ++ [c]) = seqW F P (Exit.then (c.wpIn F 0 P Q) Q) rs
  | [] => by show c.wpIn F 0 P (Exit.then (Q .normal) Q) = _; rw [then_same]; rfl
  | d :: rs => by
    show d.wpIn F 0 P (Exit.then (seqW F P Q (rs ++ [c])) Q) = d.wpIn F 0 P (Exit.then (seqW F P (Exit.then (c.wpIn F 0 P Q) Q) rs) (Exit.then (c.wpIn F 0 P Q) Q))
    rw [seqW_append Q c rs]
    congr 1
    funext e a w
    cases e <;> rfl
theorem head_wp : ∀ {c : Code} {ops : Array Oper} {rs : List Code} {Q : Exit → Act → World → Prop} {a : Act} {w : World}, headRegion c = some (ops, rs) →
    wpOpsIn F 0 P ops (Exit.then (seqW F P Q rs) Q) (List.range ops.size) a w → c.wpIn F 0 P Q a w := by
  intro c
  induction c with
  | region id ops dr =>
    intro ops' rs Q a w h hw
    cases dr with
    | true => cases h
    | false =>
      simp only [headRegion, Option.some.injEq, Prod.mk.injEq] at h
      obtain ⟨rfl, rfl⟩ := h
      refine wpIn_region ?_
      have : Exit.then (seqW F P Q []) Q = Q := then_same Q
      rw [this] at hw; exact hw
  | seq x y ihx _ =>
    intro ops' rs Q a w h hw
    simp only [headRegion] at h
    cases hx : headRegion x with
    | none => rw [hx] at h; cases h
    | some p =>
      obtain ⟨ops1, rs1⟩ := p
      rw [hx] at h
      simp only [Option.some.injEq, Prod.mk.injEq] at h
      obtain ⟨rfl, rfl⟩ := h
      refine wpIn_seq (ihx hx ?_)
      rw [seqW_append] at hw
      have : Exit.then (seqW F P (Exit.then (y.wpIn F 0 P Q) Q) rs1) (Exit.then (y.wpIn F 0 P Q) Q) = Exit.then (seqW F P (Exit.then (y.wpIn F 0 P Q) Q) rs1) Q := by
        funext e a w; cases e <;> rfl
      rw [this]; exact hw
  | _ => intro ops' rs Q a w h; cases h
end
theorem entsSame_eq : ∀ {a b : List MapEntry}, entsSame a b = true → a = b
  | [], [], _ => rfl
  | e :: a, f :: b, h => by
    unfold entsSame at h
    simp only [Bool.and_eq_true, Nat.beq_eq] at h
    obtain ⟨⟨⟨h1, h2⟩, h3⟩, h4⟩ := h
    obtain ⟨k, v, n⟩ := e
    obtain ⟨k', v', n'⟩ := f
    rw [entsSame_eq h4]
    have e1 := veq_eq _ _ h1
    have e2 := veq_eq _ _ h2
    simp only at e1 e2 h3
    rw [e1, e2, h3]
  | [], _ :: _, h => by unfold entsSame at h; cases h
  | _ :: _, [], h => by unfold entsSame at h; cases h
theorem blkSame_eq {a b : Option Blk} (h : blkSame a b = true) : a = b := by
  unfold blkSame at h
  split at h
  · rfl
  · rw [Bool.and_eq_true, Nat.beq_eq] at h; rw [h.1, cellsEq_eq h.2]
  · rw [Bool.and_eq_true, Nat.beq_eq] at h; rw [h.1, cellsEq_eq h.2]
  · rw [Bool.and_eq_true, Nat.beq_eq] at h; rw [h.1, entsSame_eq h.2]
  · rw [Bool.and_eq_true, Nat.beq_eq, Nat.beq_eq] at h; rw [h.1, h.2]
  · rename_i s p s' p'
    rw [Bool.and_eq_true, Nat.beq_eq] at h
    have : s = s' := by
      have h1 := h.1
      obtain ⟨⟨x⟩⟩ := s
      obtain ⟨⟨y⟩⟩ := s'
      simp at h1
      rw [h1]
    rw [this, h.2]
  · rfl
  · cases h
theorem trSub_get : ∀ {t u : Tr Value}, trSub t u = true → ∀ i v, t.get i = some v → u.get i = some v
  | .nil, _, _, i, v, hv => by simp [Tr.get] at hv
  | .node l x r, u, h, i, v, hv => by
    unfold trSub at h
    simp only [Bool.and_eq_true] at h
    obtain ⟨⟨h1, h2⟩, h3⟩ := h
    rw [Tr.get_parts] at hv ⊢
    by_cases hi : i = 0
    · rw [if_pos hi] at hv ⊢
      have hx : x = some v := hv
      rw [hx] at h1
      simp only at h1
      cases hu : u.val with
      | none => rw [hu] at h1; cases h1
      | some y => rw [hu] at h1; rw [cellEq_eq h1]
    · rw [if_neg hi] at hv ⊢
      by_cases hm : i % 2 = 1
      · rw [if_pos hm] at hv ⊢; exact trSub_get h2 _ _ hv
      · rw [if_neg hm] at hv ⊢; exact trSub_get h3 _ _ hv
theorem calmB_calm {s0 s1 : St} (h : calmB s0 s1 = true) : Calm s0 s1 := by
  unfold calmB at h
  simp only [Bool.and_eq_true, List.all_eq_true, List.mem_range, List.isEmpty_iff] at h
  obtain ⟨⟨h1, h2⟩, h3⟩ := h
  exact ⟨fun i hi => (blkSame_eq (h1 i hi)).symm, trSub_get h2, h3⟩
theorem mapOnly_spec {s0 : St} {r : Ex × St} : ∀ {rs : List (Ex × St)}, mapEnd.mapOnly s0 r rs = true → ∀ q ∈ rs, (q.1 = .normal ∧ Calm s0 q.2) ∨ q = r
  | [], _, q, hq => by cases hq
  | (e, s1) :: rs, h, q, hq => by
    have key : ((e = .normal ∧ Calm s0 s1) ∨ (e, s1) = r) ∧ mapEnd.mapOnly s0 r rs = true := by
      by_cases hn : e = .normal
      · subst hn
        rw [mapEnd.mapOnly] at h
        split at h
        · rename_i hc; exact ⟨.inl ⟨rfl, calmB_calm hc⟩, h⟩
        · split at h
          · rename_i hc; exact ⟨.inl ⟨rfl, hc⟩, h⟩
          · cases h
      · by_cases hr : (e, s1) = r
        · rw [mapEnd.mapOnly, if_pos hr] at h
          · exact ⟨.inr hr, h⟩
          · intro s hs; exact hn (Prod.mk.inj hs).1
        · rw [mapEnd.mapOnly, if_neg hr] at h
          · cases h
          · intro s hs; exact hn (Prod.mk.inj hs).1
    rcases List.mem_cons.1 hq with rfl | hq
    · exact key.1
    · exact mapOnly_spec key.2 q hq
theorem mapEnd_spec {s0 : St} {done res : Ex × St} : ∀ {rs : List (Ex × St)}, mapEnd s0 done rs = some res → (∀ q ∈ rs, (q.1 = .normal ∧ Calm s0 q.2) ∨ (q = res ∧ q.1 ≠ .normal)) ∧ ((∀ q ∈ rs, q.1 = .normal) → res = done)
  | [], h => ⟨fun q hq => (by cases hq), fun _ => by unfold mapEnd at h; exact (Option.some.inj h).symm⟩
  | (e, s1) :: rs, h => by
    by_cases hn : e = .normal
    · subst hn
      have key : Calm s0 s1 ∧ mapEnd s0 done rs = some res := by
        unfold mapEnd at h
        split at h
        · rename_i hc; exact ⟨calmB_calm hc, h⟩
        · split at h
          · rename_i hc; exact ⟨hc, h⟩
          · cases h
      obtain ⟨h1, h2⟩ := mapEnd_spec key.2
      refine ⟨fun q hq => ?_, fun hall => h2 fun q hq => hall q (List.mem_cons_of_mem _ hq)⟩
      rcases List.mem_cons.1 hq with rfl | hq
      · exact .inl ⟨rfl, key.1⟩
      · exact h1 q hq
    · have key : (e, s1) = res ∧ mapEnd.mapOnly s0 (e, s1) rs = true := by
        cases e with
        | normal => exact absurd rfl hn
        | _ =>
          unfold mapEnd at h
          split at h
          · rename_i hm; exact ⟨Option.some.inj h, hm⟩
          · cases h
      refine ⟨fun q hq => ?_, fun hall => absurd (hall (e, s1) (by simp)) hn⟩
      rcases List.mem_cons.1 hq with rfl | hq
      · exact .inr ⟨key.1, hn⟩
      · rcases mapOnly_spec key.2 q hq with k | k
        · exact .inl k
        · rw [k]; exact .inr ⟨key.1, hn⟩
theorem allSome_mem {α : Type} : ∀ {l : List (Option α)} {rs : List α}, allSome l = some rs → ∀ x ∈ l, ∃ r, x = some r ∧ r ∈ rs
  | [], _, _, x, hx => by cases hx
  | some a :: l, rs, h, x, hx => by
    unfold allSome at h
    rw [Option.map_eq_some_iff] at h
    obtain ⟨rs', h1, rfl⟩ := h
    rcases List.mem_cons.1 hx with rfl | hx
    · exact ⟨a, rfl, by simp⟩
    · obtain ⟨r, e, hr⟩ := allSome_mem h1 x hx; exact ⟨r, e, List.mem_cons_of_mem _ hr⟩
  | none :: l, _, h, _, _ => by unfold allSome at h; cases h
theorem allSome_back {α : Type} : ∀ {l : List (Option α)} {rs : List α}, allSome l = some rs → ∀ r ∈ rs, some r ∈ l
  | [], rs, h, r, hr => by unfold allSome at h; rw [← Option.some.inj h] at hr; cases hr
  | some a :: l, rs, h, r, hr => by
    unfold allSome at h
    rw [Option.map_eq_some_iff] at h
    obtain ⟨rs', h1, rfl⟩ := h
    rcases List.mem_cons.1 hr with rfl | hr
    · simp
    · exact List.mem_cons_of_mem _ (allSome_back h1 r hr)
  | none :: l, _, h, _, _ => by unfold allSome at h; cases h
theorem nodupB_nodup : ∀ {l : List Nat}, nodupB l = true → l.Nodup
  | [], _ => List.nodup_nil
  | a :: l, h => by
    unfold nodupB at h
    rw [Bool.and_eq_true, Bool.not_eq_true', List.any_eq_false] at h
    exact List.nodup_cons.2 ⟨fun hm => by have := h.1 a hm; simp at this, nodupB_nodup h.2⟩
end Go.Hb
end

-- SndM2
section
namespace Go.Hb
open Go Go.RowKit
theorem mapHead_inv {ops : List Oper} {it d1 d2 : Tmp} (h : mapHead ops = some (it, d1, d2)) : ∃ o1 o2, ops = [o1, o2] ∧ o1.guard = none ∧ o1.op = .next (.tmp it) false ∧ o1.dst = some d1 ∧ o2.guard = none ∧ o2.op = .extract (.tmp d1) 0 ∧ o2.dst = some d2 ∧ d1 ≠ d2 ∧ it ≠ d1 ∧ it ≠ d2 := by
  unfold mapHead at h
  split at h
  case h_2 => cases h
  rename_i o1 o2
  split at h
  case h_2 => cases h
  rename_i i e1 d e2 e3 e4 g1 g2 g3 g4 g5 g6
  split at h
  case isFalse => cases h
  rename_i hc
  simp only [Bool.and_eq_true, Bool.not_eq_true', Nat.beq_eq] at hc
  simp only [Option.some.injEq, Prod.mk.injEq] at h
  obtain ⟨rfl, rfl, rfl⟩ := h
  have nb : ∀ {a b : Nat}, Nat.beq a b = false → a ≠ b := fun h e => by rw [e, Nat.beq_refl] at h; cases h
  obtain ⟨⟨⟨c1, c2⟩, c3⟩, c4⟩ := hc
  subst c1
  exact ⟨o1, o2, rfl, by assumption, by assumption, by assumption, by assumption, by assumption, by assumption, nb c2, nb c3, nb c4⟩
theorem mapShape_inv {c : Code} {q : MapParts} (h : mapShape c = some q) : ∃ i1 o1 o2 b o, c = .seq (.region i1 #[o1, o2] false) (.seq (.cond (.tmp q.d2) .skip (.exit q.j)) (.block q.k b)) ∧
    o1.guard = none ∧ o1.op = .next (.tmp q.it) false ∧ o1.dst = some q.d1 ∧ o2.guard = none ∧ o2.op = .extract (.tmp q.d1) 0 ∧ o2.dst = some q.d2 ∧ q.d1 ≠ q.d2 ∧ q.it ≠ q.d1 ∧ q.it ≠ q.d2 ∧
    headRegion b = some (q.ops, q.rest) ∧ q.ops[0]? = some o ∧ o.guard = none ∧ o.op = .entry (.tmp q.it) ∧ o.dst = q.dst := by
  unfold mapShape at h
  split at h
  case h_2 => cases h
  rename_i i1 ops t j k b
  split at h
  case h_2 => cases h
  rename_i it d1 d2 hm
  obtain ⟨o1, o2, e, k1, k2, k3, k4, k5, k6, k7, k8, k9⟩ := mapHead_inv hm
  obtain rfl : ops = #[o1, o2] := by cases ops; simp only at e; rw [e]
  split at h
  case isFalse => cases h
  rename_i ht
  rw [Nat.beq_eq] at ht
  subst ht
  unfold mapTail at h
  split at h
  case h_2 => cases h
  rename_i ops5 rest hh
  split at h
  case h_2 => cases h
  rename_i o ho
  split at h
  case h_2 => cases h
  rename_i i hg hop
  split at h
  case isFalse => cases h
  rename_i hi
  rw [Nat.beq_eq] at hi
  subst hi
  cases h
  exact ⟨i1, o1, o2, b, o, rfl, k1, k2, k3, k4, k5, k6, k7, k8, k9, hh, ho, hg, hop, rfl⟩
theorem okHead2 : ∀ {c : Code} {ops : Array Oper} {rs : List Code} {g m : Nat}, headRegion c = some (ops, rs) → okCode g m c = true → ops.toList.all (okOper g m) = true ∧ ∀ d ∈ rs, okCode g m d = true := by
  intro c
  induction c with
  | region id ops dr =>
    intro ops' rs g m h hok
    cases dr with
    | true => cases h
    | false =>
      simp only [headRegion, Option.some.injEq, Prod.mk.injEq] at h
      obtain ⟨rfl, rfl⟩ := h
      unfold okCode at hok
      rw [Bool.and_eq_true] at hok
      exact ⟨hok.1, fun d hd => (by cases hd)⟩
  | seq x y ihx _ =>
    intro ops' rs g m h hok
    simp only [headRegion] at h
    unfold okCode at hok
    rw [Bool.and_eq_true] at hok
    cases hx : headRegion x with
    | none => rw [hx] at h; cases h
    | some p =>
      obtain ⟨ops1, rs1⟩ := p
      rw [hx] at h
      simp only [Option.some.injEq, Prod.mk.injEq] at h
      obtain ⟨rfl, rfl⟩ := h
      obtain ⟨k1, k2⟩ := ihx hx hok.1
      refine ⟨k1, fun d hd => ?_⟩
      rcases List.mem_append.1 hd with hd | hd
      · exact k2 d hd
      · simp at hd; rw [hd]; exact hok.2
  | _ => intro ops' rs g m h; cases h
theorem filt_le {α : Type} {p q : α → Bool} (hpq : ∀ x, q x = true → p x = true) : ∀ l : List α, (l.filter q).length ≤ (l.filter p).length
  | [] => Nat.le_refl _
  | y :: l => by
    have := filt_le hpq l
    rw [List.filter_cons, List.filter_cons]
    by_cases hy : q y = true
    · rw [if_pos hy, if_pos (hpq y hy), List.length_cons, List.length_cons]; omega
    · rw [if_neg hy]
      split
      · rw [List.length_cons]; omega
      · exact this
theorem filt_lt {α : Type} {p q : α → Bool} (hpq : ∀ x, q x = true → p x = true) {e : α} (hp : p e = true) (hq : q e = false) : ∀ {l : List α}, e ∈ l → (l.filter q).length < (l.filter p).length
  | y :: l, he => by
    have hle := filt_le hpq l
    rw [List.filter_cons, List.filter_cons]
    rcases List.mem_cons.1 he with rfl | he
    · rw [if_pos hp, if_neg (by rw [hq]; simp), List.length_cons]; omega
    · have := filt_lt hpq hp hq he
      by_cases hy : q y = true
      · rw [if_pos hy, if_pos (hpq y hy), List.length_cons, List.length_cons]; omega
      · rw [if_neg hy]
        split
        · rw [List.length_cons]; omega
        · exact this
theorem range_head {k : Nat} (h : 0 < k) : List.range k = 0 :: (List.range k).drop 1 := by
  cases k with
  | zero => omega
  | succ k => rw [List.range_succ_eq_map]; rfl
theorem foldl_get {tm : Tr Value} : ∀ (l : List ResultVar) (t : Tr Value), (∀ i v, t.get i = some v → tm.get i = some v) → ∀ i v, (l.foldl (fun t v => t.put (resTmp v) (tm.get (resTmp v))) t).get i = some v → tm.get i = some v
  | [], t, h, i, v, hv => h i v hv
  | r :: l, t, h, i, v, hv => by
    refine foldl_get l _ (fun j u hu => ?_) i v hv
    rw [Tr.get_put] at hu
    by_cases hj : j = resTmp r
    · rw [if_pos hj] at hu; rw [hj]; exact hu
    · rw [if_neg hj] at hu; exact h j u hu
section
variable {P : Program} {ρ : Operand → Value} {w w' : World} {d : Option Tmp} {ty : TypeId} {pos : String} {af : Array Edge} {g : Option (Nat × Bool)}
theorem exec_next {it : Operand} {u v : Value} (hu : ρ it = u) (h : (Instr.next u false ty).run P w = .ok v w') : (execOp ρ ⟨d, .next it false, ty, pos, af, g⟩).run P w = .ok (.value v) w' := by
  simp only [execOp, hu, Sem.run_bind, h, Result.andThen_ok]; rfl
theorem exec_entry {it : Operand} {u v : Value} (hu : ρ it = u) (h : (Instr.entry u).run P w = .ok v w') : (execOp ρ ⟨d, .entry it, ty, pos, af, g⟩).run P w = .ok (.value v) w' := by
  simp only [execOp, hu, Sem.run_bind, h, Result.andThen_ok]; rfl
theorem exec_first {t : Operand} {v : Value} {l : List Value} (hu : ρ t = .tuple ⟨v :: l⟩) : (execOp ρ ⟨d, .extract t 0, ty, pos, af, g⟩).run P w = .ok (.value v) w := by
  simp only [execOp, hu, Instr.extract]; rfl
end
section
variable {P : Program} {N : Nat} {w0 : World} {τ : Nat → Value} {ok : Ok} {n : Nat} {σ σ1 : Nat → Loc} {H : Heap} {w w1 : World}
theorem onlyRes_sound {x : Ctx} {r : Ex × St} {m : Nat} {a : Act} (h : SR P N w0 τ σ r.2 m a w) : (onlyRes P x r).1 = r.1 ∧ (onlyRes P x r).2.H = r.2.H ∧ SR P N w0 τ σ (onlyRes P x r).2 m a w := by
  unfold onlyRes
  split
  · rename_i fn h1 h2 h3
    refine ⟨h1.symm, rfl, h.hH, fun i v hv => h.tm i v ?_, h.ds, h.sz, h.gr⟩
    exact foldl_get (tm := r.2.tm) fn.results.toList .nil (fun i v hv => by simp [Tr.get] at hv) i v hv
  · exact ⟨rfl, rfl, h⟩
theorem HR.hide (h : HR P N w0 τ σ H w) (i : Nat) : HR P N w0 τ σ (H.put i none) w ∧ Step σ H w σ (H.put i none) w := by
  refine ⟨⟨h.below, h.size, h.fresh, fun j C hj => ?_, h.inj, h.lt⟩, ⟨Nat.le_refl _, Ext.refl σ, fun j c S es hj => .inr (.inl ⟨S, es, hj⟩), fun _ _ _ => rfl, Nat.le_refl _, fun j _ hj => ⟨rfl, ?_⟩⟩⟩
  · rw [Heap.get_put] at hj
    by_cases hji : j = i
    · rw [if_pos hji] at hj; cases hj
    · rw [if_neg hji] at hj; exact h.blk j C hj
  · rw [Heap.get_put]
    split
    · rfl
    · exact hj
theorem HR.poke (h : HR P N w0 τ σ H w) {i b S es : Nat} {o : Obj} (hg : H.get i = none) (hl : σ i = .live b S es) (hb : N ≤ b) : HR P N w0 τ σ H { w with heap := w.heap.setIfInBounds b o } := by
  refine ⟨h.below.trans ⟨rfl, rfl, rfl, by simp, fun k hk => set_at _ (by omega)⟩, by simpa using h.size, h.fresh, fun j C hj => ?_, h.inj, fun j c S es hj => by simpa using h.lt j c S es hj⟩
  have hji : j ≠ i := fun e => by rw [e, hg] at hj; cases hj
  exact (h.blk j C hj).world fun c S' es' hc => set_at _ (fun e => hji (h.inj j i c S' es' S es hc (e ▸ hl)))
theorem Step.poke {σ0 : Nat → Loc} {H0 H1 : Heap} (h : Step σ0 H0 w σ1 H1 w1) {i b S es : Nat} {o : Obj} (hg : H0.get i ≠ none) (hl : σ0 i = .live b S es) : Step σ0 H0 w σ1 H1 { w1 with heap := w1.heap.setIfInBounds b o } :=
  ⟨h.next, h.ext, h.new, fun k hk hn => by
    have hkb : k ≠ b := fun e => hg (hn i S es (e ▸ hl))
    exact (set_at _ hkb).trans (h.frame k hk hn), by simpa using h.size, h.keep⟩
theorem Step.drew {σ0 : Nat → Loc} {H0 H1 : Heap} (h : Step σ0 H0 w σ1 H1 w1) : Step σ0 H0 w σ1 H1 w1.drew := ⟨h.next, h.ext, h.new, h.frame, h.size, h.keep⟩
theorem put_tmps {a : Act} {d : Tmp} {v : Value} (hd : d < a.tmps.size) : (a.put (some d) v).tmps.getD d undef = v := by rw [act_put_tmps, if_pos ⟨rfl, hd⟩]
theorem put_other {a : Act} {d t : Tmp} {v : Value} (h : d ≠ t) : (a.put (some d) v).tmps.getD t undef = a.tmps.getD t undef := by rw [act_put_tmps, if_neg (fun k => h (Option.some.inj k.1))]
theorem map_step (A : All P N w0 τ ok n) {x c st ex st' m a F} {q : MapParts} (Q : Exit → Act → World → Prop) (hq : mapShape c = some q) (h : dcode P ok (n + 1) x (.loop c) st = some (ex, st')) (hok : okCode P.globals.size m c = true) (hs : SR P N w0 τ σ st m a w)
    (hF : FRel x F) (hQ : Cont P N w0 τ σ st.H w ex st' m Q) : Code.roundsIn F 0 P c Q (n + 1) a w := by
  unfold dcode at h
  simp only at h
  rw [hq] at h
  simp only at h
  split at h
  case h_2 => cases h
  rename_i r hit
  split at h
  case h_2 => cases h
  rename_i mm since hgr hds
  split at h
  case h_2 => cases h
  rename_i es clk hgm
  split at h
  case isFalse => cases h
  rename_i hcond
  obtain ⟨hsc, hlen, hborn, hnod, hmr, hd1, hd2⟩ := hcond
  split at h
  case h_2 => cases h
  rename_i rs hrs
  obtain ⟨hall, hdone⟩ := mapEnd_spec h
  obtain ⟨i1, o1, o2, b2, o, rfl, hg1, hop1, hdst1, hg2, hop2, hdst2, hne12, hne1, hne2, hhead, ho, hgo, hopo, hdsto⟩ := mapShape_inv hq
  obtain ⟨od1, oo1, ot1, opo1, oa1, og1⟩ := o1
  obtain ⟨od2, oo2, ot2, opo2, oa2, og2⟩ := o2
  obtain ⟨od3, oo3, ot3, opo3, oa3, og3⟩ := o
  simp only at hg1 hop1 hdst1 hg2 hop2 hdst2 hgo hopo hdsto
  subst hg1 hop1 hdst1 hg2 hop2 hdst2 hgo hopo hdsto
  have hsc : since ≤ clk := by simpa using hsc
  have hnod := nodupB_nodup hnod
  have hborn : ∀ e ∈ es, e.born < since := fun e he => by have := List.all_eq_true.1 hborn e he; simpa [Nat.blt_eq] using this
  have hd1 : st.tm.get q.d1 = none := Option.isNone_iff_eq_none.1 hd1
  have hd2 : st.tm.get q.d2 = none := Option.isNone_iff_eq_none.1 hd2
  have hok0 := hok
  unfold okCode at hok
  rw [Bool.and_eq_true] at hok
  obtain ⟨hokR, hokB⟩ := hok
  unfold okCode at hokR hokB
  rw [Bool.and_eq_true] at hokR hokB
  replace hokB := hokB.2
  unfold okCode at hokB
  have hok1 := List.all_eq_true.1 hokR.1 ⟨some q.d1, .next (.tmp q.it) false, ot1, opo1, oa1, none⟩ (by simp)
  have hok2 := List.all_eq_true.1 hokR.1 ⟨some q.d2, .extract (.tmp q.d1) 0, ot2, opo2, oa2, none⟩ (by simp)
  unfold okOper at hok1 hok2
  rw [Bool.and_eq_true] at hok1 hok2
  have hl1 : q.d1 < m := by simpa [Nat.blt_eq] using hok1.1
  have hl2 : q.d2 < m := by simpa [Nat.blt_eq] using hok2.1
  obtain ⟨hokO, hokS⟩ := okHead2 hhead hokB
  have hoko := List.all_eq_true.1 hokO ⟨q.dst, .entry (.tmp q.it), ot3, opo3, oa3, none⟩ (by
    obtain ⟨h1, h2⟩ := Array.getElem?_eq_some_iff.1 ho
    rw [← h2]; exact Array.getElem_mem_toList h1)
  unfold okOper at hoko
  rw [Bool.and_eq_true] at hoko
  have hlo : ∀ d, q.dst = some d → d < m := fun d hd => by have := hoko.1; rw [hd] at this; simpa [Nat.blt_eq] using this
  have hops0 : 0 < q.ops.size := (Array.getElem?_eq_some_iff.1 ho).1
  have hrl := hs.hH.get_lt hgr
  have hB := hs.hH.blk r _ hgr
  generalize hσr : σ r = loc at hB
  cases hB with
  | mit b S es0 _ m' _ hNb hbi hbm =>
  obtain ⟨hH0, hst0⟩ := hs.hH.hide r
  have hgm0 : (st.H.put r none).get mm = some (.map es clk) := by rw [Heap.get_put, if_neg hmr]; exact hgm
  have hgr0 : (st.H.put r none).get r = none := by rw [Heap.get_put, if_pos rfl]
  have hgrn : st.H.get r ≠ none := by rw [hgr]; simp
  generalize hH0e : st.H.put r none = H0 at *
  have hnx : H0.next = st.H.next := by rw [← hH0e]; rfl
  have key : ∀ (k budget : Nat) (seen : Array Nat) (last : Nat) (a1 : Act) (w1 : World) (σ1 : Nat → Loc), (es.filter fun e => !seen.contains e.born).length ≤ k → k + 1 ≤ budget → since ≤ last → HR P N w0 τ σ1 H0 w1 → Step σ st.H w σ1 H0 w1 → σ1 r = .live b S es0 → BR σ1 mm m' →
      TmR σ1 τ st.tm a1.tmps → a1.defers = [] → m ≤ a1.tmps.size → GR P σ1 → w1.heap[b]? = some (.mapIter (some m') since seen last) →
      (∀ e ∈ es, seen.contains e.born = true → ∃ r ∈ rs, mapRound P x q.k (dops P ok n x q.ops ((List.range q.ops.size).drop 1) (St.put ⟨st.tm, [], H0⟩ q.dst (.tuple #[e.key, e.val]) H0)) (fun st1 => dseq P ok n x q.rest st1) = some r ∧ r.1 = .normal) →
      Code.roundsIn F 0 P (.seq (.region i1 #[⟨some q.d1, .next (.tmp q.it) false, ot1, opo1, oa1, none⟩, ⟨some q.d2, .extract (.tmp q.d1) 0, ot2, opo2, oa2, none⟩] false) (.seq (.cond (.tmp q.d2) .skip (.exit q.j)) (.block q.k b2))) Q budget a1 w1 := by
    intro k
    induction k using Nat.strongRecOn with
    | _ k ih =>
    intro budget seen last a1 w1 σ1 hcnt hbud hsl hH1 hst1 hσ1r hbm1 htm1 hdf1 hsz1 hgr1 hit1 hseen
    obtain ⟨bud, rfl⟩ : ∃ bud, budget = bud + 1 := ⟨budget - 1, by omega⟩
    rw [roundsIn_succ]
    have hBm := hH1.blk mm _ hgm0
    generalize hσm : σ1 mm = locm at hBm
    cases hBm with
    | map bm Sm esm _ _ xs' hNm hwm hent =>
    have ebm : m' = bm := by unfold BR at hbm1; rw [hσm] at hbm1; exact hbm1
    subst ebm
    have hbs : xs'.toList.map (·.born) = es.map (·.born) := by
      apply List.ext_getElem?
      intro i
      rw [List.getElem?_map, List.getElem?_map]
      cases he : es[i]? with
      | none =>
        have : xs'.toList[i]? = none := by
          rw [List.getElem?_eq_none_iff] at he ⊢
          have := hent.1
          simp only [Array.length_toList]; omega
        rw [this]
      | some e =>
        have hi := (List.getElem?_eq_some_iff.1 he).1
        have hi' : i < xs'.size := by rw [← hent.1]; exact hi
        have e2 := hent.2 i e xs'[i] he (Array.getElem?_eq_getElem hi')
        have : xs'.toList[i]? = some xs'[i] := by rw [Array.getElem?_toList]; exact Array.getElem?_eq_getElem hi'
        rw [this]
        simp only [Option.map_some]
        rw [e2.2.2.1]
    have hnod' : (xs'.toList.map (·.born)).Nodup := by rw [hbs]; exact hnod
    have hold : ∀ x ∈ xs'.toList, x.born < since := fun x hx => by
      have : x.born ∈ es.map (·.born) := by rw [← hbs]; exact List.mem_map_of_mem hx
      obtain ⟨e, he, e2⟩ := List.mem_map.1 this
      rw [← e2]; exact hborn e he
    have hptr : a1.tmps.getD q.it undef = .pointer (some ⟨b, 0, none⟩) := by
      have hv := htm1 q.it _ hit
      obtain ⟨a', e1, hA⟩ := hv.ptr_inv
      rw [e1]
      unfold AR at hA
      simp only [hσ1r] at hA
      rw [hA.2]
    refine wpIn_seq (wpIn_region ?_)
    show wpOpsIn F 0 P _ _ [0, 1] a1 w1
    unfold wpOpsIn
    show (if Region.wanted _ _ = true then _ else _)
    rw [if_pos (by unfold Region.wanted; rfl)]
    have hlt1 : q.d1 < a1.tmps.size := Nat.lt_of_lt_of_le hl1 hsz1
    have hlt2 : q.d2 < a1.tmps.size := Nat.lt_of_lt_of_le hl2 hsz1
    have hbl : b < w1.heap.size := (Array.getElem?_eq_some_iff.1 hit1).1
    rcases run_next_at (P := P) (ty := ot1) hit1 hwm hold hsl with ⟨hz, hnext⟩ | ⟨e', he', w2, hw2, hnext⟩
    ·
      refine wpIn_of_run hF.fn (fun c => by simp) (nx := .value (.tuple #[.bool false])) (w' := w1) (v' := .tuple #[.bool false]) ?_ (.inl rfl) ?_
      · exact exec_next (d := some q.d1) (it := .tmp q.it) (pos := opo1) (af := oa1) (g := none) hptr hnext
      unfold wpOpsIn
      show (if Region.wanted _ _ = true then _ else _)
      rw [if_pos (by unfold Region.wanted; rfl)]
      refine wpIn_of_run hF.fn (fun c => by simp) (nx := .value (.bool false)) (w' := w1) (v' := .bool false) ?_ (.inl rfl) ?_
      · exact exec_first (d := some q.d2) (t := .tmp q.d1) (ty := ot2) (pos := opo2) (af := oa2) (g := none) (put_tmps hlt1)
      unfold wpOpsIn
      show (Code.seq (Code.cond (.tmp q.d2) .skip (.exit q.j)) (.block q.k b2)).wpIn F 0 P _ _ _
      refine wpIn_seq (wpIn_cond_false (put_tmps (by rw [act_put_size]; exact hlt2)) (wpIn_exit ?_))
      have hres : (ex, st') = (Ex.exit q.j, (⟨st.tm, [], H0⟩ : St)) := hdone fun r hr => by
        obtain ⟨e, he, e2⟩ := List.mem_map.1 (allSome_back hrs r hr)
        have hin : seen.contains e.born = true := by
          have hb : e.born ∈ xs'.toList.map (·.born) := by rw [hbs]; exact List.mem_map_of_mem he
          obtain ⟨e', he', e3⟩ := List.mem_map.1 hb
          unfold leftOf at hz
          have h0 : Array.filter (fun e => !seen.contains e.born) xs' = #[] := Array.eq_empty_of_size_eq_zero hz
          rw [Array.filter_eq_empty_iff] at h0
          have := h0 e' (by simpa using he')
          rw [e3] at this
          simpa using this
        obtain ⟨r', hr', e4, e5⟩ := hseen e he hin
        rw [e2] at e4
        rw [Option.some.inj e4]; exact e5
      obtain ⟨rfl, rfl⟩ := Prod.mk.inj hres
      refine hQ (.exit q.j) ((a1.put (some q.d1) (.tuple #[.bool false])).put (some q.d2) (.bool false)) w1 σ1 rfl ⟨hH1, fun i v hv => ?_, ?_, ?_, hgr1⟩ hst1
      · show VR σ1 τ v (((a1.put (some q.d1) (.tuple #[.bool false])).put (some q.d2) (.bool false)).tmps.getD i undef)
        have n1 : q.d1 ≠ i := fun e => by rw [← e, hd1] at hv; cases hv
        have n2 : q.d2 ≠ i := fun e => by rw [← e, hd2] at hv; cases hv
        rw [put_other n2, put_other n1]
        exact htm1 i v hv
      · rw [act_put_defers, act_put_defers, hdf1]; trivial
      · rw [act_put_size, act_put_size]; exact hsz1
    ·
      have hmem' : e' ∈ xs'.toList := by unfold leftOf at he'; simp at he'; simpa using he'.1
      have hnew : seen.contains e'.born = false := by unfold leftOf at he'; simp at he' ⊢; exact he'.2
      obtain ⟨i, hi'⟩ := List.getElem?_of_mem hmem'
      rw [Array.getElem?_toList] at hi'
      have hil : i < es.length := by rw [hent.1]; exact (Array.getElem?_eq_some_iff.1 hi').1
      have hei := List.getElem?_eq_getElem hil
      have hem := List.getElem_mem hil
      generalize es[i] = e at hei hem
      obtain ⟨hkey, hfl, hbo, hval⟩ := hent.2 i e e' hei hi'
      have hmne : m' ≠ b := fun hh => hmr (hH1.inj mm r b Sm esm S es0 (hh ▸ hσm) hσ1r)
      have hH3 : HR P N w0 τ σ1 H0 { w2 with heap := w2.heap.setIfInBounds b (.mapIter (some m') since (seen.push e'.born) clk) } := by
        rcases hw2 with rfl | rfl
        · exact hH1.poke hgr0 hσ1r hNb
        · exact hH1.drew.poke hgr0 hσ1r hNb
      have hst3 : Step σ st.H w σ1 H0 { w2 with heap := w2.heap.setIfInBounds b (.mapIter (some m') since (seen.push e'.born) clk) } := by
        rcases hw2 with rfl | rfl
        · exact hst1.poke hgrn hσr
        · exact hst1.drew.poke hgrn hσr
      have hhp : w2.heap = w1.heap := by rcases hw2 with rfl | rfl <;> rfl
      have hit3 : ({ w2 with heap := w2.heap.setIfInBounds b (.mapIter (some m') since (seen.push e'.born) clk) } : World).heap[b]? = some (.mapIter (some m') since (seen.push e'.born) clk) := set_same _ (by rw [hhp]; exact hbl)
      have hwm3 : ({ w2 with heap := w2.heap.setIfInBounds b (.mapIter (some m') since (seen.push e'.born) clk) } : World).heap[m']? = some (.map xs' clk) := by
        rw [set_at _ hmne, hhp]; exact hwm
      refine wpIn_of_run hF.fn (fun c => by simp) (nx := .value (.tuple #[.bool true, e'.key, e'.val])) (v' := .tuple #[.bool true, e'.key, e'.val]) (w' := { w2 with heap := w2.heap.setIfInBounds b (.mapIter (some m') since (seen.push e'.born) clk) }) ?_ (.inl rfl) ?_
      · exact exec_next (d := some q.d1) (it := .tmp q.it) (pos := opo1) (af := oa1) (g := none) hptr hnext
      generalize ({ w2 with heap := w2.heap.setIfInBounds b (.mapIter (some m') since (seen.push e'.born) clk) } : World) = w3 at hH3 hst3 hit3 hwm3 ⊢
      unfold wpOpsIn
      show (if Region.wanted _ _ = true then _ else _)
      rw [if_pos (by unfold Region.wanted; rfl)]
      refine wpIn_of_run hF.fn (fun c => by simp) (nx := .value (.bool true)) (w' := w3) (v' := .bool true) ?_ (.inl rfl) ?_
      · exact exec_first (d := some q.d2) (t := .tmp q.d1) (ty := ot2) (pos := opo2) (af := oa2) (g := none) (put_tmps hlt1)
      unfold wpOpsIn
      show (Code.seq (Code.cond (.tmp q.d2) .skip (.exit q.j)) (.block q.k b2)).wpIn F 0 P _ _ _
      refine wpIn_seq (wpIn_cond_true (put_tmps (by rw [act_put_size]; exact hlt2)) (wpIn_skip ?_))
      show (Code.block q.k b2).wpIn F 0 P _ ((a1.put (some q.d1) (.tuple #[.bool true, e'.key, e'.val])).put (some q.d2) (.bool true)) w3
      have hdf2 : ((a1.put (some q.d1) (.tuple #[.bool true, e'.key, e'.val])).put (some q.d2) (.bool true)).defers = [] := by rw [act_put_defers, act_put_defers]; exact hdf1
      have hsz2 : m ≤ ((a1.put (some q.d1) (.tuple #[.bool true, e'.key, e'.val])).put (some q.d2) (.bool true)).tmps.size := by rw [act_put_size, act_put_size]; exact hsz1
      have htm2 : TmR σ1 τ st.tm ((a1.put (some q.d1) (.tuple #[.bool true, e'.key, e'.val])).put (some q.d2) (.bool true)).tmps := fun i v hv => by
        have n1 : q.d1 ≠ i := fun e => by rw [← e, hd1] at hv; cases hv
        have n2 : q.d2 ≠ i := fun e => by rw [← e, hd2] at hv; cases hv
        rw [put_other n2, put_other n1]
        exact htm1 i v hv
      have hptr2 : ((a1.put (some q.d1) (.tuple #[.bool true, e'.key, e'.val])).put (some q.d2) (.bool true)).eval (.tmp q.it) = .pointer (some ⟨b, 0, none⟩) := by
        show ((a1.put (some q.d1) _).put (some q.d2) _).tmps.getD q.it undef = _
        rw [put_other (Ne.symm hne2), put_other (Ne.symm hne1)]; exact hptr
      generalize ((a1.put (some q.d1) (.tuple #[.bool true, e'.key, e'.val])).put (some q.d2) (.bool true)) = a2 at hdf2 hsz2 htm2 hptr2 ⊢
      refine wpIn_block (head_wp hhead ?_)
      rw [range_head hops0]
      unfold wpOpsIn
      rw [ho]
      show (if Region.wanted _ _ = true then _ else _)
      rw [if_pos (by unfold Region.wanted; rfl)]
      refine wpIn_of_run hF.fn (fun c => by simp) (nx := .value (.tuple #[e'.key, e'.val])) (w' := w3) (v' := .tuple #[e'.key, e'.val]) ?_ (.inl rfl) ?_
      · exact exec_entry (d := q.dst) (it := .tmp q.it) (ty := ot3) (pos := opo3) (af := oa3) (g := none) hptr2 (run_entry_at hit3 hwm3 hmem' hnod')
      obtain ⟨rr, hrr, hrm⟩ := allSome_mem hrs _ (List.mem_map_of_mem hem)
      have hvt : VR σ1 τ (.tuple #[e.key, e.val]) (.tuple #[e'.key, e'.val]) := RA.mk_tuple (LR.cons (by rw [hkey]; exact .flat _ hfl) (LR.cons hval LR.nil))
      have hput : (St.put ⟨st.tm, [], H0⟩ q.dst (.tuple #[e.key, e.val]) H0) = ⟨putD st.tm q.dst (.tuple #[e.key, e.val]), [], H0⟩ := by cases q.dst <;> rfl
      have hsr : SR P N w0 τ σ1 (St.put ⟨st.tm, [], H0⟩ q.dst (.tuple #[e.key, e.val]) H0) m (a2.put q.dst (.tuple #[e'.key, e'.val])) w3 := by
        rw [hput]
        exact ⟨hH3, htm2.put (Ext.refl σ1) (fun t ht => Nat.lt_of_lt_of_le (hlo t ht) hsz2) hvt, by rw [act_put_defers, hdf2]; trivial, by rw [act_put_size]; exact hsz2, hgr1⟩
      have hHs : (St.put ⟨st.tm, [], H0⟩ q.dst (.tuple #[e.key, e.val]) H0).H = H0 := by rw [hput]
      cases hdo : dops P ok n x q.ops ((List.range q.ops.size).drop 1) (St.put ⟨st.tm, [], H0⟩ q.dst (.tuple #[e.key, e.val]) H0) with
      | none => rw [hdo] at hrr; cases hrr
      | some p =>
      obtain ⟨ex4, st4⟩ := p
      rw [hdo] at hrr
      refine A.ops _ hdo hokO hsr hF ?_
      intro e4 a4 w4 σ4 he4 hs4 hst4
      rw [hHs] at hst4
      have leave : ∀ {ex5 : Ex} {st5 : St} {e5 : Exit} {a5 : Act} {w5 : World} {σ5 : Nat → Loc}, rr = onlyRes P x (ex5, st5) → ex5 ≠ .normal → ExR σ5 τ ex5 e5 → SR P N w0 τ σ5 st5 m a5 w5 → Step σ1 H0 w3 σ5 st5.H w5 → Q e5 a5 w5 := by
        intro ex5 st5 e5 a5 w5 σ5 hr5 hn5 he5 hs5 hst5
        obtain ⟨f1, f2, f3⟩ := onlyRes_sound (x := x) (r := (ex5, st5)) hs5
        rcases hall rr hrm with ⟨k1, -⟩ | ⟨k1, -⟩
        · rw [hr5, f1] at k1; exact absurd k1 hn5
        · rw [hr5] at k1
          rw [k1] at f1 f2 f3
          simp only at f1 f2 f3
          subst f1
          refine hQ e5 a5 w5 σ5 he5 f3 ?_
          rw [f2]; exact hst3.trans hst5
      have calm : ∀ {st5 : St} {a5 : Act} {w5 : World} {σ5 : Nat → Loc}, rr = (.normal, st5) → SR P N w0 τ σ5 st5 m a5 w5 → Step σ1 H0 w3 σ5 st5.H w5 →
          Code.roundsIn F 0 P (.seq (.region i1 #[⟨some q.d1, .next (.tmp q.it) false, ot1, opo1, oa1, none⟩, ⟨some q.d2, .extract (.tmp q.d1) 0, ot2, opo2, oa2, none⟩] false) (.seq (.cond (.tmp q.d2) .skip (.exit q.j)) (.block q.k b2))) Q bud a5 w5 := by
        intro st5 a5 w5 σ5 hr5 hs5 hst5
        have hcm : Calm ⟨st.tm, [], H0⟩ st5 := by
          rcases hall rr hrm with ⟨-, k1⟩ | ⟨-, k1⟩
          · rw [hr5] at k1; exact k1
          · rw [hr5] at k1; exact absurd rfl k1
        obtain ⟨σ6, hH6, hst6, hc6, hor6⟩ := hH3.back hs5.hH hst5 hcm.1
        have hr6 : σ6 r = .live b S es0 := by
          rw [hc6 r (by rw [hσ1r]; simp), (hst5.keep r (.inl (by rw [hnx]; exact hrl)) hgr0).1]; exact hσ1r
        have hit5 : w5.heap[b]? = some (.mapIter (some m') since (seen.push e'.born) clk) := by
          rw [hst6.frame b ((Array.getElem?_eq_some_iff.1 hit3).1) fun i S' es' hi => ?_]
          · exact hit3
          · rw [hH3.inj i r b S' es' S es0 hi hσ1r]; exact hgr0
        have hnow : (seen.push e'.born).contains e.born = true := by rw [hbo]; simp
        have hcnt2 : (es.filter fun e => !(seen.push e'.born).contains e.born).length < (es.filter fun e => !seen.contains e.born).length := by
          refine filt_lt (fun y hy => ?_) (e := e) ?_ ?_ hem
          · cases hs : seen.contains y.born with
            | false => rfl
            | true =>
              have : (seen.push e'.born).contains y.born = true := by simp at hs ⊢; exact .inl hs
              rw [this] at hy; cases hy
          · rw [← hbo, hnew]; rfl
          · rw [hnow]; rfl
        refine ih _ (Nat.lt_of_lt_of_le hcnt2 hcnt) bud (seen.push e'.born) clk a5 w5 σ6 (Nat.le_refl _) (by omega) hsc hH6 (hst3.trans hst6) hr6 (hbm1.ext hst6.ext) ?_ ?_ hs5.sz (hgr1.ext hst6.ext) hit5 ?_
        · exact TmR.cut hc6 (fun i v hv => hs5.tm i v (hcm.2.1 i v hv)) htm1
        · have := hs5.ds
          rw [hcm.2.2] at this
          cases hd : a5.defers with
          | nil => rfl
          | cons d l => rw [hd] at this; exact this.elim
        · intro e2 he2 hin
          by_cases hb2 : seen.contains e2.born = true
          · exact hseen e2 he2 hb2
          · have hbb : e2.born = e.born := by
              rw [← hbo]
              simp only [Array.contains_push, Bool.or_eq_true] at hin
              rcases hin with hin | hin
              · first | exact absurd hin hb2 | simpa using hin
              · first | exact absurd hin hb2 | simpa using hin
            have e3 : e2 = e := by
              have h1 := find_born e2 es hnod he2
              have h2 := find_born e es hnod hem
              rw [hbb] at h1
              rw [h1] at h2; exact Option.some.inj h2
            subst e3
            exact ⟨rr, hrm, by rw [hdo]; exact hrr, by rw [hr5]⟩
      cases ex4 with
      | normal =>
        cases e4 <;> try exact he4.elim
        show seqW F P _ q.rest a4 w4
        cases hds5 : dseq P ok n x q.rest st4 with
        | none => simp only [mapRound, hds5] at hrr; cases hrr
        | some p5 =>
        obtain ⟨ex5, st5⟩ := p5
        refine A.seq _ hds5 hokS hs4 hF ?_
        intro e5 a5 w5 σ5 he5 hs5 hst5
        have hst45 := hst4.trans hst5
        cases ex5 with
        | normal =>
          cases e5 <;> try exact he5.elim
          have : rr = (.normal, st5) := by simp only [mapRound, hds5, onlyRes, Option.some.injEq] at hrr; exact hrr.symm
          exact calm this hs5 hst45
        | exit i =>
          cases e5 <;> try exact he5.elim
          rename_i i'
          have hii : i = i' := he5
          subst hii
          by_cases hik : i = q.k
          · have : rr = (.normal, st5) := by
              simp only [mapRound, hds5, hik, Nat.beq_refl, if_true, Option.some.injEq] at hrr; exact hrr.symm
            have hc := calm this hs5 hst45
            show (if i = q.k then _ else _)
            rw [if_pos hik]; exact hc
          · have hb : Nat.beq i q.k = false := by rw [← Bool.not_eq_true, Nat.beq_eq]; exact hik
            have : rr = onlyRes P x (.exit i, st5) := by
              simp only [mapRound, hds5, hb, Bool.false_eq_true, if_false, Option.some.injEq] at hrr; exact hrr.symm
            have hc := leave this (by simp) he5 hs5 hst45
            show (if i = q.k then _ else _)
            rw [if_neg hik]; exact hc
        | ret =>
          cases e5 <;> try exact he5.elim
          have : rr = onlyRes P x (.ret, st5) := by simp only [mapRound, hds5, Option.some.injEq] at hrr; exact hrr.symm
          exact leave this (by simp) he5 hs5 hst45
        | panic ch =>
          cases e5 <;> try exact he5.elim
          have : rr = onlyRes P x (.panic ch, st5) := by simp only [mapRound, hds5, Option.some.injEq] at hrr; exact hrr.symm
          exact leave this (by simp) he5 hs5 hst45
      | panic ch =>
        cases e4 <;> try exact he4.elim
        have : rr = onlyRes P x (.panic ch, st4) := by simp only [mapRound, Option.some.injEq] at hrr; exact hrr.symm
        exact leave this (by simp) he4 hs4 hst4
      | exit i => simp only [mapRound] at hrr; cases hrr
      | ret => simp only [mapRound] at hrr; cases hrr
  refine key es.length (n + 1) #[] since a w σ (List.length_filter_le _ _) (by omega) (Nat.le_refl _) hH0 hst0 hσr hbm hs.tm ?_ hs.sz hs.gr hbi (fun e _ he => by simp at he)
  have := hs.ds
  rw [hds] at this
  cases hd : a.defers with
  | nil => rfl
  | cons d l => rw [hd] at this; exact this.elim
theorem loop_step' (A : All P N w0 τ ok n) {x c st ex st' m a F} (Q : Exit → Act → World → Prop) (h : dcode P ok (n + 1) x (.loop c) st = some (ex, st')) (hok : okCode P.globals.size m c = true) (hs : SR P N w0 τ σ st m a w)
    (hF : FRel x F) (hQ : Cont P N w0 τ σ st.H w ex st' m Q) : Code.roundsIn F 0 P c Q (n + 1) a w := by
  cases hms : mapShape c with
  | none => exact loop_step A Q hms h hok hs hF hQ
  | some q => exact map_step A Q hms h hok hs hF hQ
end
end Go.Hb
end
