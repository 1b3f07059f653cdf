/- The abstract heap of a whole world: every block of cells, to be read; where a run over it begins, and what it says of the call. -/
import Derived.Test.YtgcbbaeokigbdaaDoorHbEv
namespace Go.Hb
open Go Go.RowKit

/-- a number above all blocks, of which nothing is known -/
def deadAt (P : Program) (W : World) : Nat := max P.globals.size W.heap.size

/-- a cell, as it is read: addresses out of form are forgotten -/
def ab (P : Program) (W : World) : Value → Value
  | .pointer (some a) => if a.spot = none ∧ a.block < W.heap.size then .pointer (some a) else .pointer (some ⟨deadAt P W, 0, none⟩)
  | .slice (some a) n c => if n ≤ c ∧ c ≤ maxLen then (if a.spot = none ∧ a.block < W.heap.size then .slice (some a) n c else .slice (some ⟨deadAt P W, 0, none⟩) n c) else junk
  | .map (some _) => .map (some (deadAt P W))
  | v => if flat v then v else junk

def abV (P : Program) (W : World) : Value → Value
  | .agg ⟨cs⟩ => .agg ⟨cs.map (ab P W)⟩
  | v => ab P W v

def mkTr (f : Nat → Option Blk) : Nat → Tr Blk
  | 0 => .nil
  | n + 1 => (mkTr f n).put n (f n)

theorem mkTr_get (f : Nat → Option Blk) : ∀ n i, (mkTr f n).get i = if i < n then f i else none
  | 0, i => by simp [mkTr, Tr.get]
  | n + 1, i => by
    rw [mkTr, Tr.get_put, mkTr_get f n i]
    by_cases h : i = n
    · rw [if_pos h, if_pos (by omega), h]
    · rw [if_neg h]
      by_cases h2 : i < n
      · rw [if_pos h2, if_pos (by omega)]
      · rw [if_neg h2, if_neg (by omega)]

def blkW (P : Program) (W : World) (i : Nat) : Option Blk :=
  match W.heap[i]? with
  | some (.cells cs t _) => some (.ro (cs.toList.map (ab P W)) t)
  | _ => none

def heapW (P : Program) (W : World) : Heap := ⟨deadAt P W + 1, mkTr (blkW P W) W.heap.size⟩
def sigW (P : Program) (W : World) : Nat → Loc := fun i => if i < W.heap.size then .live i 0 0 else if i < deadAt P W + 1 then .dead else .none
def tauW : Nat → Value := fun _ => .bool true

section
variable {P : Program} {W : World}

theorem heapW_get (i : Nat) : (heapW P W).get i = if i < W.heap.size then blkW P W i else none := mkTr_get _ _ _

theorem sigW_dead : sigW P W (deadAt P W) = .dead := by
  unfold sigW
  rw [if_neg (by unfold deadAt; omega), if_pos (by omega)]
theorem sigW_lt {b : Nat} (h : b < W.heap.size) : sigW P W b = .live b 0 0 := by unfold sigW; rw [if_pos h]

theorem ab_rel (v : Value) : VR (sigW P W) tauW (ab P W v) v := by
  have dead : ∀ a : Addr, AR (sigW P W) ⟨deadAt P W, 0, none⟩ a := fun a => by unfold AR; rw [sigW_dead]; trivial
  have live : ∀ a : Addr, a.spot = none ∧ a.block < W.heap.size → AR (sigW P W) a a := fun a h => by
    unfold AR; rw [sigW_lt h.2]
    obtain ⟨b, o, s⟩ := a
    obtain rfl : s = none := h.1
    exact ⟨rfl, rfl⟩
  have rest : ∀ v : Value, VR (sigW P W) tauW (if flat v then v else junk) v := fun v => by
    split
    · rename_i h; exact .flat _ h
    · exact .junk _
  unfold ab
  split
  · split
    · rename_i h; exact .ptr _ _ (live _ h)
    · exact .ptr _ _ (dead _)
  · split
    · rename_i h
      split
      · rename_i h2
        refine .slice _ _ _ _ _ (live _ h2) h.1 (Nat.le_refl _) ⟨h.2, fun b S es hb => ?_⟩
        rw [sigW_lt h2.2] at hb
        cases hb
        exact fun e => absurd rfl e
      · refine .slice _ _ _ _ _ (dead _) h.1 (Nat.le_refl _) ⟨h.2, fun b S es hb => ?_⟩
        simp only [sigW_dead] at hb
        cases hb
    · exact .junk _
  · refine .map _ _ ?_
    unfold BR; rw [sigW_dead]; trivial
  · exact rest _

theorem abL_rel (l : List Value) : LR (sigW P W) tauW (l.map (ab P W)) l :=
  ⟨by simp, fun i v v' h h' => by
    rw [List.getElem?_map, h'] at h
    simp only [Option.map_some, Option.some.injEq] at h
    subst h; exact ab_rel v'⟩

theorem abV_rel (v : Value) : VR (sigW P W) tauW (abV P W v) v := by
  unfold abV
  split
  · rename_i cs
    exact RA.mk_agg (x := ⟨cs.map (ab P W)⟩) (x' := ⟨cs⟩) (abL_rel cs)
  · exact ab_rel _

theorem abVL_rel (l : List Value) : LR (sigW P W) tauW (l.map (abV P W)) l :=
  ⟨by simp, fun i v v' h h' => by
    rw [List.getElem?_map, h'] at h
    simp only [Option.map_some, Option.some.injEq] at h
    subst h; exact abV_rel v'⟩

/-- the world, as its own abstraction -/
theorem HR.world : HR P W.heap.size W tauW (sigW P W) (heapW P W) W := by
  refine ⟨Below.refl _ _, Nat.le_refl _, fun i hi => ?_, fun i B hB => ?_, fun i j b S es S' es' hi hj => ?_, fun i b S es hi => ?_⟩
  · have hi' : deadAt P W + 1 ≤ i := hi
    unfold sigW
    have : W.heap.size ≤ deadAt P W := by unfold deadAt; omega
    rw [if_neg (by omega), if_neg (by omega)]
  · rw [heapW_get] at hB
    split at hB
    · rename_i hlt
      unfold blkW at hB
      split at hB
      · rename_i cs t fr hw
        cases hB
        rw [sigW_lt hlt]
        refine .ro i 0 _ t cs fr hlt hw ?_
        unfold PR
        rw [List.length_map, List.take_length]
        exact abL_rel _
      · cases hB
    · cases hB
  · unfold sigW at hi hj
    split at hi
    · split at hj
      · cases hi; cases hj; rfl
      · split at hj <;> cases hj
    · split at hi <;> cases hi
  · unfold sigW at hi
    split at hi
    · cases hi; assumption
    · split at hi <;> cases hi

theorem GR.world : GR P (sigW P W) := fun g hg => by
  by_cases h : g < W.heap.size
  · exact .inr ⟨0, 0, sigW_lt h⟩
  · refine .inl ?_
    unfold sigW
    rw [if_neg h, if_pos (by unfold deadAt; omega)]

/-- cells, as they are read -/
theorem load_world {b o n : Nat} {l : List Value} (hn : 0 < n) (hl : l.length = n) (h : ∀ j v, l[j]? = some v → W.cell? ⟨b, o + j, none⟩ = some v) : (heapW P W).load ⟨b, o, none⟩ n = some (l.map (ab P W)) := by
  have hcell : ∀ j (hj : j < n), ∃ cs t fr, W.heap[b]? = some (.cells cs t fr) ∧ cs[o + j]? = l[j]? := fun j hj => by
    have h0 := h j l[j] (List.getElem?_eq_getElem (by omega))
    unfold World.cell? at h0
    simp only at h0
    split at h0
    · rename_i cs t fr hw
      refine ⟨cs, t, fr, hw, ?_⟩
      rw [List.getElem?_eq_getElem (by omega)]
      simpa using h0
    · cases h0
  obtain ⟨cs, t, fr, hw, _⟩ := hcell 0 hn
  have hlt : b < W.heap.size := (Array.getElem?_eq_some_iff.1 hw).1
  have hcells : (heapW P W).cells b = some (cs.toList.map (ab P W)) := by
    unfold Heap.cells
    rw [heapW_get, if_pos hlt]
    unfold blkW
    rw [hw]
  have hget : ∀ j, j < n → cs[o + j]? = l[j]? := fun j hj => by
    obtain ⟨cs', t', fr', hw', he⟩ := hcell j hj
    rw [hw] at hw'; cases hw'; exact he
  have hlist : ((cs.toList.map (ab P W)).drop o).take n = l.map (ab P W) := by
    apply List.ext_getElem?
    intro j
    rw [List.getElem?_take]
    by_cases hj : j < n
    · rw [if_pos hj, List.getElem?_drop, List.getElem?_map, List.getElem?_map]
      have := hget j hj
      simp only [Array.getElem?_toList]
      rw [this]
    · rw [if_neg hj, List.getElem?_eq_none (by simp; omega)]
  unfold Heap.load
  rw [hcells]
  simp only [hlist]
  rw [if_pos (by rw [Nat.beq_eq]; simp [hl])]

/-- THE LAW: a run over the world's abstraction that returns true. -/
theorem calls_of_ev {ok : Ok} {f : FuncId} {args : Array Value} (hm : P.follows .mixedOrders = true) (hOK : OkFns P W.heap.size W ok)
    (h : EvF P ok f (args.toList.map (abV P W)) (heapW P W) fun v _ => v = .bool true) : Calls P f args W fun e W' => e = .returned (.bool true) ∧ Below W.heap.size W W' := by
  obtain ⟨N, ⟨en, H'⟩, hr, v, he, hv⟩ := h
  simp only at he
  subst he hv
  refine (calls_of_run (τ := tauW) (fun _ => rfl) hm hOK (hr N (Nat.le_refl _)) (abVL_rel args.toList) HR.world GR.world).mono fun e w' he => ?_
  obtain ⟨σ', hen, hH, _⟩ := he
  cases e with
  | returned v' => exact ⟨by rw [show v' = .bool true from VR.flat_eq hen rfl], hH.below⟩
  | panicked _ => exact hen.elim
  | outgrown => exact hen.elim

/-- what is known of a call that returns true and turns nothing that was there -/
theorem know_true {N : Nat} {w0 : World} {τ : Nat → Value} {σ : Nat → Loc} {H : Heap} {w : World} {f : FuncId} {args : Array Value}
    (h : ∀ w, Calls P f args w fun e w' => e = .returned (.bool true) ∧ Below w.heap.size w w') (hH : HR P N w0 τ σ H w) :
    Calls P f args w fun e w' => ∃ σ', EnR σ' τ (.ret (.bool true)) e ∧ HR P N w0 τ σ' H w' ∧ Step σ H w σ' H w' := by
  refine (h w).mono fun e w' ⟨he, hB⟩ => ?_
  subst he
  have hlt := hH.lt
  refine ⟨σ, .flat _ rfl, ⟨hH.below.trans (hB.mono hH.size), Nat.le_trans hH.size hB.size, hH.fresh, fun i B hi => (hH.blk i B hi).world fun b S es hb => hB.block b (hlt i b S es hb), hH.inj,
    fun i b S es hi => Nat.lt_of_lt_of_le (hlt i b S es hi) hB.size⟩, Nat.le_refl _, Ext.refl σ, fun i b S es hi => .inr (.inl ⟨S, es, hi⟩), fun b hb _ => hB.block b hb, hB.size, fun _ _ hg => ⟨rfl, hg⟩⟩
end
end Go.Hb
