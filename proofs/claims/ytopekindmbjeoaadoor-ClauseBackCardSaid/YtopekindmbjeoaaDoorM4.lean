import Derived.Test.YtopekindmbjeoaaDoorM3
import Derived.Test.YtopekindmbjeoaaDoorProg
import Derived.KernelRfl
import Derived.Lib.ValidLaws
/- Lemmas on the program's own code, towards the laws of this folder, part 4. Conditions: as each lemma says. -/
section
namespace Go.Proofs.hq
open Go Go.RowKit Go.Hb
variable {ok : Ok}
set_option maxRecDepth 10000
attribute [local irreducible] LX LG EL STG SOP SGO SGD SAL SRD SEF SEG SLK SCK ES
theorem z7p {B m : Nat} {L : List Nat} (hz : ∀ x ∈ L.drop m, x = 0) : valB B (L.take m) = valB B L := zi9 hz
theorem zd7 {L : List Nat} {m x : Nat} (hL : ∀ y ∈ L, y < 4294967296) (hm : m ≤ L.length) (hz : ∀ y ∈ L.drop m, y = 0) (h0 : m ≠ 0) (hx : L[m - 1]? = some x) (hx0 : x ≠ 0) :
  nbits (valB 4294967296 L) = 32 * (m - 1) + nbits x := by
 rw [← z7p hz]
 have e : L.take m = L.take (m - 1) ++ [x] := by
  have h1 : m = (m - 1) + 1 := by omega
  rw [h1, List.take_add_one]
  simp only [Nat.add_sub_cancel, hx, Option.toList_some]
 rw [e]
 have := zbm (l := L.take (m - 1)) (x := x) (e := 32) (fun y hy => hL y (List.mem_of_mem_take hy)) hx0
 rw [List.length_take, Nat.min_eq_left (by omega)] at this
 exact this
theorem zid {L : List Nat} {a : Option Addr} {c : Nat} {H : Heap} (r : RdS H (L.map u32V) a c) (hL : ∀ y ∈ L, y < 4294967296) (hlen : L.length ≤ 1048576) :
  EvF Tryd.prog okT 90 [.slice a L.length c] H fun v H' => v = .int .i64 (nbits (valB 4294967296 L) : Nat) ∧ H' = H := by
 have hLc : L.length ≤ c := by simpa using r.len
 have hc : c ≤ 9223372036854775807 := r.cap
 refine EvF.enter rfl Tryd.func90 (by decide) rfl ?_
 repeat' (first | refine EvC.seq ?_ | refine EvC.scope ?_ | refine EvC.block ?_ | (refine EvC.skip ?_) | (refine EvC.exit ?_) | (refine EvC.ret ?_; try simp only [z01, z00]) | (refine EvC.reg ?_; simp (disch := first | omega | rfl) only [sB, initTm, Nat.reduceEqDiff, reduceCtorEq, cl94]))
 refine (z9y (fun _ _ => rfl) (by decide) r).mono ?_
 rintro v H' ⟨m, rfl, hm, hz, hn0, rfl⟩
 by_cases h0 : m = 0
 ·subst h0
  repeat' (first | refine EvC.seq ?_ | refine EvC.scope ?_ | refine EvC.block ?_ | (refine EvC.skip ?_) | (refine EvC.exit ?_) | (refine EvC.ret ?_; try simp only [z01, z00]) | (refine EvC.reg ?_; simp (disch := first | omega | rfl) only [sB, Nat.reduceEqDiff, reduceCtorEq, z5e, z0r]) | (refine EvC.condT ?_ ?_; simp (disch := first | omega | rfl) only [sB, Nat.reduceEqDiff, reduceCtorEq]; refine z04 ?_))
  refine z06 rfl (by simp only [sB, Nat.reduceEqDiff, reduceCtorEq] <;> rfl) ⟨?_, rfl⟩
  rw [z61 _ L (by simpa using hz)]; rfl
 ·have hx : L[m - 1]? = some L[m - 1] := List.getElem?_eq_getElem (by omega)
  have hx0 := hn0 h0
  have hxl := hL L[m - 1] (List.getElem_mem _)
  generalize L[m - 1] = x at hx hxl
  rw [hx] at hx0
  have hx0' : x ≠ 0 := fun h => hx0 (by rw [h])
  have hnb := zd7 hL hm hz h0 hx hx0'
  have hle := z5g (n := x) (by omega)
  obtain ⟨b, o, rfl, hl⟩ := r.get (m - 1) (u32V x) (by simp [hx])
  unfold u32V at hl
  have e1 : ((m : Int) - 1) = ((m - 1 : Nat) : Int) := by omega
  repeat' (first | refine EvC.seq ?_ | refine EvC.scope ?_ | refine EvC.block ?_ | (refine EvC.skip ?_; try simp only [z02]) | (refine EvC.exit ?_) | (refine EvC.ret ?_; try simp only [z01, z00]) | (refine EvC.reg ?_; simp (disch := first | omega | rfl) only [sB, Nat.reduceEqDiff, reduceCtorEq, z5e, zge, zi5, zp8, z0t, z0c, e1, hl]) | (refine EvC.condT ?_ ?_; simp (disch := first | omega | rfl) only [sB, Nat.reduceEqDiff, reduceCtorEq]; refine z04 ?_) | (refine EvC.condF ?_ ?_; simp (disch := first | omega | rfl) only [sB, Nat.reduceEqDiff, reduceCtorEq]; refine z04 ?_))
  refine (zkm (fun _ _ => rfl) (by decide) (show x < 4294967296 from hxl)).mono ?_
  rintro v H' ⟨rfl, rfl⟩
  repeat' (first | refine EvC.seq ?_ | refine EvC.scope ?_ | refine EvC.block ?_ | (refine EvC.skip ?_) | (refine EvC.exit ?_) | (refine EvC.ret ?_; try simp only [z01, z00]) | (refine z0q ?_; simp (disch := first | omega | rfl) only [sB, Nat.reduceEqDiff, reduceCtorEq, z0c]))
  refine z06 rfl (by simp only [sB, Nat.reduceEqDiff, reduceCtorEq] <;> rfl) ⟨?_, rfl⟩
  simp only [Value.int.injEq, true_and]
  omega
theorem zn5 {L : List Nat} {neg : Bool} {a : Option Addr} {b c : Nat} {H : Heap} (r : RdS H (L.map u32V) a c) (hL : ∀ y ∈ L, y < 4294967296) (hlen : L.length ≤ 1048576) (hw : H.wf) (hb : b < H.next)
  (hl : H.load ⟨b, 0, none⟩ 2 = some [.bool neg, .slice a L.length c]) :
  EvF Tryd.prog okT 92 [.slice (some ⟨b, 0, none⟩) 1 1] H fun v H' => v = .bool (decide (4096 < nbits (valB 4294967296 L))) ∧ HX H H' := by
 refine EvF.enter rfl Tryd.func92 (by decide) rfl ?_
 repeat' (first | refine EvC.seq ?_ | refine EvC.scope ?_ | refine EvC.block ?_ | (refine EvC.skip ?_) | (refine EvC.exit ?_) | (refine EvC.ret ?_; try simp only [z01, z00]) | (refine EvC.reg ?_; simp (disch := first | omega | rfl) only [sB, initTm, Nat.reduceEqDiff, reduceCtorEq, zp9]))
 refine EvC.loop (fun k st => ∃ tm H', st = ⟨tm, [], H'⟩ ∧ HX H H' ∧ tm.get 5 = some (.slice (some ⟨b, 0, none⟩) 1 1) ∧ tm.get 6 = some (.int .i64 1) ∧ ((k = 1 ∧ tm.get 7 = some (.int .i64 0)) ∨ (k = 0 ∧ tm.get 7 = some (.int .i64 1) ∧ ¬ 4096 < nbits (valB 4294967296 L)))) ?_ 1 _ ?_
 ·rintro k st ⟨tm, H', rfl, hx, g5, g6, ⟨rfl, g7⟩ | ⟨rfl, g7, hn⟩⟩
  ·have hl' := hx.load hw hl
   have hx2 := ((hx.new (some (Blk.row [.bool false, .slice none 0 0] 120))).put (i := H'.next) hx.next (Nat.lt_succ_self _) (some (.row [.bool neg, .slice a L.length c] 120)))
   repeat' (first | refine EvC.seq ?_ | refine EvC.scope ?_ | refine EvC.block ?_ | (refine EvC.skip ?_; try simp only [z02]) | (refine EvC.exit ?_) | (refine EvC.ret ?_; try simp only [z01, z00]) | (refine EvC.reg ?_; simp (disch := first | omega | rfl) only [sB, dAlloc, Nat.reduceEqDiff, Nat.reduceAdd, one, cutC, Int.reduceToNat, z8h, zi4, z8g, zi6, zob, cl90, g5, g6, g7, hl', decide_eq_true, zpa, Nat.zero_mul]) | (refine EvC.condT ?_ ?_; simp (disch := first | omega | rfl) only [sB]; refine z04 ?_))
   refine (zid (r.keep hx2 hw) hL hlen).mono ?_
   rintro v H2 ⟨rfl, rfl⟩
   by_cases hbig : 4096 < nbits (valB 4294967296 L)
   ·repeat' (first | refine EvC.seq ?_ | refine EvC.scope ?_ | refine EvC.block ?_ | (refine EvC.skip ?_) | (refine EvC.exit ?_) | (refine EvC.ret ?_; try simp only [z01, z00]) | (refine EvC.reg ?_; simp (disch := first | omega | rfl) only [sA]) | (refine z0q ?_; simp (disch := first | omega | rfl) only [sA, decide_eq_true]) | (refine EvC.condT ?_ ?_; simp (disch := first | omega | rfl) only [sB, Nat.reduceEqDiff]; refine z04 ?_))
    exact z06 rfl (by simp only [sG, Nat.reduceEqDiff] <;> rfl) ⟨rfl, hx2⟩
   ·repeat' (first | refine EvC.seq ?_ | refine EvC.scope ?_ | refine EvC.block ?_ | (refine EvC.skip ?_; try simp only [sA]) | (refine EvC.exit ?_) | (refine EvC.ret ?_; try simp only [z01, z00]) | (refine EvC.reg ?_; simp (disch := first | omega | rfl) only [sB, Nat.reduceEqDiff, g7, z0c]) | (refine z0q ?_; simp (disch := first | omega | rfl) only [sA, decide_eq_false]) | (refine EvC.condT ?_ ?_; simp (disch := first | omega | rfl) only [sB, Nat.reduceEqDiff]; refine z04 ?_) | (refine EvC.condF ?_ ?_; simp (disch := first | omega | rfl) only [sB, Nat.reduceEqDiff]; refine z04 ?_))
    exact ⟨0, by omega, _, _, rfl, hx2, (by simp only [sG, Nat.reduceEqDiff, g5] <;> rfl), (by simp only [sG, Nat.reduceEqDiff, g6] <;> rfl), .inr ⟨rfl, (by simp only [sB, Nat.reduceEqDiff] <;> rfl), hbig⟩⟩
  ·repeat' (first | refine EvC.seq ?_ | refine EvC.scope ?_ | refine EvC.block ?_ | (refine EvC.skip ?_) | (refine EvC.exit ?_; try simp only [sB]) | (refine EvC.ret ?_; try simp only [z01, z00]) | (refine EvC.reg ?_; simp (disch := first | omega | rfl) only [sA, g6, g7, decide_eq_false]) | (refine EvC.condT ?_ ?_; simp (disch := first | omega | rfl) only [sB]; refine z04 ?_) | (refine EvC.condF ?_ ?_; simp (disch := first | omega | rfl) only [sB]; refine z04 ?_))
   exact z06 rfl (by simp only [sG, Nat.reduceEqDiff] <;> rfl) ⟨rfl, hx⟩
 ·exact ⟨_, _, rfl, HX.refl hw, (by simp only [sG, Nat.reduceEqDiff, reduceCtorEq] <;> rfl), (by simp only [sB, Nat.reduceEqDiff, reduceCtorEq] <;> rfl), .inl ⟨rfl, (by simp only [sG, Nat.reduceEqDiff, reduceCtorEq] <;> rfl)⟩⟩
theorem zoh {L : List Nat} {a : Option Addr} {c : Nat} {H : Heap} (r : RdS H (L.map u32V) a c) (hlen : L.length ≤ 1048576) (hw : H.wf) :
  EvF Tryd.prog okT 93 [.slice a L.length c] H fun v H' => ∃ b c', OwnS H' 132 1 H.next (L.map fun x => [u32V x]) b c' ∧ v = .slice (some ⟨b, 0, none⟩) L.length c' ∧ HX H H' := by
 have hmost : L.length ≤ most := hlen
 have hm0 : 0 ≤ most := Nat.zero_le _
 have hmax : L.length ≤ maxLen := Nat.le_trans hlen (by simp [maxLen])
 refine EvF.enter rfl Tryd.func93 (by decide) rfl ?_
 by_cases h0 : L.length = 0
 ·have hL0 : L = [] := List.length_eq_zero_iff.1 h0
  subst hL0
  repeat' (first | refine EvC.seq ?_ | refine EvC.scope ?_ | refine EvC.block ?_ | (refine EvC.skip ?_) | (refine EvC.exit ?_) | (refine EvC.ret ?_; try simp only [z01, z00]) | (refine EvC.reg ?_; simp (disch := first | omega | rfl) only [sB, initTm, Nat.reduceEqDiff, reduceCtorEq, z5e, z60 zod hm0, zef, List.replicate_zero, zkh zn2]))
  refine z06 rfl (by simp only [sG, Nat.reduceEqDiff, reduceCtorEq] <;> rfl) ⟨H.next, 0, ?_, rfl, (HX.refl hw).new _⟩
  exact OwnS.ones (vs := []) z0p (Nat.le_refl _) (Nat.lt_succ_self _) (Nat.le_refl _) (Nat.zero_le _) rfl
 ·have hx := (HX.refl hw).new (some (.row (List.replicate L.length (Value.int .u32 0)) 132))
  obtain ⟨b, o, rfl, hl⟩ := (r.keep hx hw).all (by simpa using h0)
  rw [List.length_map] at hl
  have hone : (L.map u32V).all one = true := by simp [u32V, one]
  have hcp := zmx (c := L.length) (c' := c) (o := 0) (b := H.next) zn2 (Nat.pos_of_ne_zero h0) (by rw [Nat.mul_one]; exact hl) hone z0p (by simp)
  have hsp : Hb.splice (List.replicate L.length (Value.int .u32 0)) 0 (L.map u32V) = L.map u32V := by rw [z3i]; simp
  rw [hsp] at hcp
  repeat' (first | refine EvC.seq ?_ | refine EvC.scope ?_ | refine EvC.block ?_ | (refine EvC.skip ?_) | (refine EvC.exit ?_) | (refine EvC.ret ?_; try simp only [z01, z00]) | (refine EvC.reg ?_; simp (disch := first | omega | rfl) only [sB, initTm, Nat.reduceEqDiff, reduceCtorEq, z5e, z60 zod hmost, zef, hcp]))
  refine z06 rfl (by simp only [sG, Nat.reduceEqDiff, reduceCtorEq] <;> rfl) ⟨H.next, L.length, ?_, rfl, hx.put (Nat.le_refl _) (Nat.lt_succ_self _) _⟩
  have := OwnS.ones (H := (H.new (some (.row (List.replicate L.length (Value.int .u32 0)) 132))).put H.next (some (.row (L.map u32V) 132))) (base := H.next) (c := L.length) z7b (Nat.le_refl _) (Nat.lt_succ_self _) (by simp) hmax hone
  rw [List.map_map] at this
  exact this
theorem zn6 {L : List Nat} {neg : Bool} {a : Option Addr} {c : Nat} {H : Heap} (r : RdS H (L.map u32V) a c) (hw : H.wf) :
  EvF Tryd.prog okT 91 [.bool neg, .slice a L.length c] H fun v H' => ∃ m, v = .agg ⟨[.bool (neg && decide (0 < m)), .slice a m c]⟩ ∧ m ≤ L.length ∧ (∀ x ∈ L.drop m, x = 0) ∧ (m ≠ 0 → L[m - 1]? ≠ some 0) ∧ HX H H' := by
 refine EvF.enter rfl Tryd.func91 (by decide) rfl ?_
 repeat' (first | refine EvC.seq ?_ | refine EvC.scope ?_ | refine EvC.block ?_ | (refine EvC.skip ?_) | (refine EvC.exit ?_) | (refine EvC.ret ?_; try simp only [z01, z00]) | (refine EvC.reg ?_; simp (disch := first | omega | rfl) only [sB, initTm, dAlloc, Nat.reduceEqDiff, reduceCtorEq, zi4, cl94]))
 have hx := (HX.refl hw).new (some (.row [.bool false, .slice none 0 0] 120))
 refine (z9y (fun _ _ => rfl) (by decide) (r.keep hx hw)).mono ?_
 rintro v H' ⟨m, rfl, hm, hz, hn0, rfl⟩
 cases neg with
 | false =>
  repeat' (first | refine EvC.seq ?_ | refine EvC.scope ?_ | refine EvC.block ?_ | (refine EvC.skip ?_) | (refine EvC.exit ?_) | (refine EvC.ret ?_; try simp only [z01, z00]) | (refine EvC.reg ?_; simp (disch := first | omega | rfl) only [sB, Nat.reduceEqDiff, Nat.reduceAdd, Value.cells, one, reduceCtorEq, Nat.reduceLeDiff, layC, zgd, z8g]))
  exact z0a rfl (by simp only [sB, Nat.reduceEqDiff, reduceCtorEq] <;> rfl) (by simp only [sB, Nat.reduceAdd, cutC, z8h] <;> rfl) ⟨m, rfl, hm, hz, hn0, hx.put (Nat.le_refl _) (Nat.lt_succ_self _) _⟩
 | true =>
  by_cases h0 : 0 < m
  ·repeat' (first | refine EvC.seq ?_ | refine EvC.scope ?_ | refine EvC.block ?_ | (refine EvC.skip ?_) | (refine EvC.exit ?_) | (refine EvC.ret ?_; try simp only [z01, z00]) | (refine EvC.reg ?_; simp (disch := first | omega | rfl) only [sB, Nat.reduceEqDiff, Nat.reduceAdd, Value.cells, one, reduceCtorEq, Nat.reduceLeDiff, layC, z5e, zgd, z8g, decide_eq_true]))
   exact z0a rfl (by simp only [sB, Nat.reduceEqDiff, reduceCtorEq] <;> rfl) (by simp only [sB, Nat.reduceAdd, cutC, z8h] <;> rfl) ⟨m, by first | rfl | simp [h0], hm, hz, hn0, hx.put (Nat.le_refl _) (Nat.lt_succ_self _) _⟩
  ·repeat' (first | refine EvC.seq ?_ | refine EvC.scope ?_ | refine EvC.block ?_ | (refine EvC.skip ?_) | (refine EvC.exit ?_) | (refine EvC.ret ?_; try simp only [z01, z00]) | (refine EvC.reg ?_; simp (disch := first | omega | rfl) only [sB, Nat.reduceEqDiff, Nat.reduceAdd, Value.cells, one, reduceCtorEq, Nat.reduceLeDiff, layC, z5e, zgd, z8g, decide_eq_false]))
   exact z0a rfl (by simp only [sB, Nat.reduceEqDiff, reduceCtorEq] <;> rfl) (by simp only [sB, Nat.reduceAdd, cutC, z8h] <;> rfl) ⟨m, by first | rfl | simp [h0], hm, hz, hn0, hx.put (Nat.le_refl _) (Nat.lt_succ_self _) _⟩
def bl (s : ByteArray) : List Nat := s.data.toList.map UInt8.toNat
theorem z5h (s : ByteArray) : (bl s).length = s.size := by simp [bl]
theorem zie (s : ByteArray) {i : Nat} (h : i < s.size) : (bl s)[i]? = some (byteAt s i) := by
 have h' : i < s.data.toList.length := by simpa using h
 unfold bl byteAt
 rw [List.getElem?_map, List.getElem?_eq_getElem h', List.getD_eq_getElem?_getD, List.getElem?_eq_getElem h']
 rfl
theorem zgg (s : ByteArray) (l m : Nat) : bl (s.extract l m) = ((bl s).take m).drop l := by
 unfold bl
 rw [ByteArray.data_extract, Array.toList_extract, List.extract_eq_take_drop, List.map_take, List.map_drop, ← List.drop_take]
def negS (l : List Nat) : Bool := l.head? == some 45
def bodyS (l : List Nat) : List Nat := if negS l then l.tail else l
def parseD (l : List Nat) : Option Nat := if bodyS l = [] then none else if (bodyS l).any (fun x => 10 ≤ digV x) then none else numD ((bodyS l).map digV) 0
def limbsOK (L : List Nat) : Prop := (∀ y ∈ L, y < 4294967296) ∧ L.getLast? ≠ some 0
theorem zbn {L : List Nat} (h : limbsOK L) (hb : ¬ 4096 < nbits (valB 4294967296 L)) : L.length ≤ 128 := by
 rcases List.eq_nil_or_concat L with rfl | ⟨l, x, rfl⟩
 ·simp
 ·rw [List.concat_eq_append] at *
  have hx : x ≠ 0 := by have := h.2; simpa using this
  have := zbm (l := l) (x := x) (e := 32) (fun y hy => h.1 y (by simp [hy])) hx
  have h0 : 1 ≤ nbits x := by unfold nbits; rw [if_neg hx]; omega
  rw [show (2 : Nat) ^ 32 = 4294967296 from rfl] at this
  rw [this] at hb
  simp
  omega
def ParseT (H' : Heap) (V : Nat → Value) (B : Nat) (l : List Nat) (v : Value) : Prop :=
 (parseD l = none ∧ ∃ e : Int, e ≠ 0 ∧ v = .tuple ⟨[.agg ⟨[.bool false, .slice none 0 0]⟩, .int .i64 e]⟩) ∨
 ∃ n L a c, parseD l = some n ∧ v = .tuple ⟨[.agg ⟨[.bool (negS l && decide (0 < L.length)), .slice a L.length c]⟩, .int .i64 0]⟩ ∧ RdS H' (L.map V) a c ∧ (∀ y ∈ L, y < B) ∧ valB B L = n ∧ L.getLast? ≠ some 0 ∧ L.length ≤ 4096
set_option maxHeartbeats 2000000 in
theorem zko {s : ByteArray} (hs : s.size ≤ 9223372036854775807) {H : Heap} (hw : H.wf) :
  EvF Tryd.prog okT 84 [.string s, .int .i64 10] H fun v H' => ParseT H' u32V 4294967296 (bl s) v ∧ HX H H' := by
 refine EvF.enter rfl Tryd.func84 (by decide) rfl ?_
 (repeat refine EvC.seq ?_); refine EvC.reg ?_; simp (disch := first | omega | rfl) only [sA, initTm, dAlloc, zi4]
 have hx0 := (HX.refl hw).new (some (.row [.bool false, .slice none 0 0] 120))
 obtain ⟨H1, hH1⟩ : ∃ H1, H1 = H.new (some (.row [.bool false, .slice none 0 0] 120)) := ⟨_, rfl⟩
 have hn1 : H1.next = H.next + 1 := by rw [hH1]; rfl
 have hg1 : H1.get H.next = some (.row [.bool false, .slice none 0 0] 120) := by rw [hH1]; exact z0p
 rw [← hH1] at hx0 ⊢
 (repeat refine EvC.seq ?_); refine EvC.reg ?_; simp (disch := first | omega | rfl) only [sB, Nat.reduceEqDiff, reduceCtorEq, decide_eq_false, Bool.false_eq_true]
 (repeat refine EvC.seq ?_); refine EvC.condF (by simp (disch := first | omega | rfl) only [sB, Nat.reduceEqDiff, reduceCtorEq]) ?_; (try refine EvC.skip ?_); (try simp only [z02, z03])
 (repeat refine EvC.seq ?_)
 refine EvC.join (fun st => ∃ tm, st = ⟨tm, [], H1⟩ ∧ tm.get 0 = some (.string s) ∧ tm.get 1 = some (.int .i64 10) ∧ tm.get 4 = some (.pointer (some ⟨H.next, 0, none⟩)) ∧ tm.get 6 = some (.bool (negS (bl s)))) ?_ ?_
 ·by_cases h0 : s.size = 0
  ·have hb : negS (bl s) = false := by
    have : bl s = [] := List.length_eq_zero_iff.1 (by rw [z5h]; exact h0)
    rw [this]; rfl
   rw [hb]
   (repeat refine EvC.seq ?_); refine EvC.reg ?_; simp (disch := first | omega | rfl) only [sB, Nat.reduceEqDiff, reduceCtorEq, ln9, decide_eq_false, Bool.false_eq_true]
   exact ⟨_, rfl, (by simp only [sG, reduceCtorEq] <;> rfl), (by simp only [sG, Nat.reduceEqDiff, reduceCtorEq] <;> rfl), (by simp only [sG, Nat.reduceEqDiff, reduceCtorEq] <;> rfl), (by simp only [sG, Nat.reduceEqDiff, reduceCtorEq] <;> rfl)⟩
  ·have hb : negS (bl s) = (byteAt s 0 == 45) := by
    have := zie s (i := 0) (by omega)
    unfold negS
    rw [List.head?_eq_getElem?, this]; simp
   rw [hb]
   by_cases h45 : byteAt s 0 = 45
   ·(repeat refine EvC.seq ?_); refine EvC.reg ?_; simp (disch := first | omega | rfl) only [sB, Nat.reduceEqDiff, reduceCtorEq, Int.reduceToNat, ln9, decide_eq_true, iy9, z0r]
    exact ⟨_, rfl, (by simp only [sG, reduceCtorEq] <;> rfl), (by simp only [sG, Nat.reduceEqDiff, reduceCtorEq] <;> rfl), (by simp only [sG, Nat.reduceEqDiff, reduceCtorEq] <;> rfl), by simp only [sB, Nat.reduceEqDiff, reduceCtorEq]; first | rfl | simp [h45]⟩
   ·(repeat refine EvC.seq ?_); refine EvC.reg ?_; simp (disch := first | omega | rfl) only [sB, Nat.reduceEqDiff, reduceCtorEq, Int.reduceToNat, ln9, decide_eq_true, iy9, z0t]
    exact ⟨_, rfl, (by simp only [sG, reduceCtorEq] <;> rfl), (by simp only [sG, Nat.reduceEqDiff, reduceCtorEq] <;> rfl), (by simp only [sG, Nat.reduceEqDiff, reduceCtorEq] <;> rfl), by simp only [sB, Nat.reduceEqDiff, reduceCtorEq]; first | rfl | simp [h45]⟩
 rintro st ⟨tm, rfl, g0, g1, g4, g6⟩
 try simp (disch := first | omega | rfl) only [z02]
 (repeat refine EvC.seq ?_); refine EvC.reg ?_; simp (disch := first | omega | rfl) only [sA, g6]
 (repeat refine EvC.seq ?_)
 have hbody : bodyS (bl s) = if negS (bl s) then (bl s).tail else bl s := rfl
 refine EvC.join (fun st => ∃ tm s', st = ⟨tm, [], H1⟩ ∧ bl s' = bodyS (bl s) ∧ s'.size ≤ 9223372036854775807 ∧ tm.get 0 = some (.string s') ∧ tm.get 1 = some (.int .i64 10) ∧ tm.get 4 = some (.pointer (some ⟨H.next, 0, none⟩)) ∧ tm.get 6 = some (.bool (negS (bl s)))) ?_ ?_
 ·cases hneg : negS (bl s) with
  | true =>
   have h1 : 1 ≤ s.size := by
    rw [← z5h]
    cases hb : bl s with
    | nil => rw [hb] at hneg; simp [negS] at hneg
    | cons x l => simp
   have hsl : dSl Tryd.prog 9 (.string s) (some (.int .i64 1)) none none H1 = some (.val (.string (s.extract 1 s.size)) H1) := zg8 (l := 1) us9 h1
   rw [hneg] at g6 hbody
   refine EvC.condT (by simp only [sB] <;> rfl) ?_
   (repeat refine EvC.seq ?_); refine EvC.reg ?_; simp (disch := first | omega | rfl) only [sB, Nat.reduceEqDiff, reduceCtorEq, g0, hsl]
   refine ⟨_, s.extract 1 s.size, rfl, ?_, ?_, (by simp only [sG, reduceCtorEq] <;> rfl), (by simp only [sG, Nat.reduceEqDiff, reduceCtorEq, g1] <;> rfl), (by simp only [sG, Nat.reduceEqDiff, reduceCtorEq, g4] <;> rfl), (by simp only [sG, Nat.reduceEqDiff, reduceCtorEq, g6] <;> rfl)⟩
   ·rw [zgg, hbody, List.take_of_length_le (by rw [z5h]; exact Nat.le_refl _)]
    simp
   ·have : (s.extract 1 s.size).size ≤ s.size := by rw [ByteArray.size_extract]; omega
    omega
  | false =>
   rw [hneg] at g6 hbody
   refine EvC.condF (by simp only [sB] <;> rfl) (EvC.skip ?_)
   try simp (disch := first | omega | rfl) only [z02]
   exact ⟨_, s, rfl, by rw [hbody]; rfl, hs, (by simp only [sG, reduceCtorEq, g0] <;> rfl), (by simp only [sG, Nat.reduceEqDiff, g1] <;> rfl), (by simp only [sG, Nat.reduceEqDiff, g4] <;> rfl), (by simp only [sG, Nat.reduceEqDiff, g6] <;> rfl)⟩
 clear g0 g1 g4 g6
 rintro st ⟨tm1, s', rfl, hbl, hs', g0, g1, g4, g6⟩
 clear tm
 generalize hneg : negS (bl s) = neg at g6
 try simp (disch := first | omega | rfl) only [z02]
 (repeat refine EvC.seq ?_); refine EvC.reg ?_; simp (disch := first | omega | rfl) only [sB, ln9, g0]
 (repeat refine EvC.seq ?_)
 refine EvC.join (fun st => ∃ tm, st = ⟨tm, [], H1⟩ ∧ (bodyS (bl s)).any (fun x => 10 ≤ digV x) = false ∧ tm.get 0 = some (.string s') ∧ tm.get 1 = some (.int .i64 10) ∧ tm.get 4 = some (.pointer (some ⟨H.next, 0, none⟩)) ∧ tm.get 6 = some (.bool neg)) ?_ ?_
 ·refine EvC.block (EvC.loop (fun k st => ∃ tm i, st = ⟨tm, [], H1⟩ ∧ k = s'.size - i ∧ i ≤ s'.size ∧ (∀ x ∈ (bl s').take i, digV x < 10) ∧ tm.get 0 = some (.string s') ∧ tm.get 1 = some (.int .i64 10) ∧ tm.get 4 = some (.pointer (some ⟨H.next, 0, none⟩)) ∧ tm.get 6 = some (.bool neg) ∧ tm.get 32 = some (.int .i64 s'.size) ∧ tm.get 33 = some (.int .i64 (i : Nat))) ?_ s'.size _ ?_)
  ·rintro k st ⟨tm, i, rfl, hk, hi, hall, f0, f1, f4, f6, f32, f33⟩
   by_cases hlt : i < s'.size
   ·have hgi := zie s' hlt
    repeat' (first | refine EvC.seq ?_ | refine EvC.scope ?_ | refine EvC.block ?_ | (refine EvC.skip ?_; try simp only [z02]) | (refine EvC.exit ?_) | (refine EvC.ret ?_; try simp only [z01, z00]) | (refine EvC.reg ?_; simp (disch := first | omega | rfl) only [sB, Nat.reduceEqDiff, reduceCtorEq, ix9, cl89, f0, f1, f32, f33, decide_eq_true]) | (refine EvC.condT ?_ ?_; simp (disch := first | omega | rfl) only [sB]; refine z04 ?_))
    refine (zev (fun _ _ => rfl) (by decide) _ (zb7 s' i) H1).mono ?_
    rintro v H' ⟨rfl, rfl⟩
    by_cases hd : 10 ≤ digV (byteAt s' i)
    ·repeat' (first | refine EvC.seq ?_ | refine EvC.scope ?_ | refine EvC.block ?_ | (refine EvC.skip ?_) | (refine EvC.exit ?_) | (refine EvC.ret ?_; try simp only [z01, z00]) | (refine EvC.reg ?_; simp (disch := first | omega | rfl) only [sB, Nat.reduceEqDiff, Nat.reduceAdd, Value.cells, one, layC, zgd, z8g, f4, hg1]) | (refine z0q ?_; simp (disch := first | omega | rfl) only [sA, decide_eq_true]) | (refine EvC.condT ?_ ?_; simp (disch := first | omega | rfl) only [sB, Nat.reduceEqDiff]; refine z04 ?_))
     refine z0f rfl (by simp only [sB, Nat.reduceEqDiff, f4] <;> rfl) (by simp only [sB, Nat.reduceAdd, cutC, z8h] <;> rfl) (by simp only [sG, Nat.reduceEqDiff] <;> rfl) ⟨.inl ⟨?_, 12, by omega, rfl⟩, ?_⟩
     ·have hm : byteAt s' i ∈ bodyS (bl s) := by rw [← hbl]; exact List.mem_of_getElem? hgi
      unfold parseD
      rw [if_neg (fun h => by rw [h] at hm; cases hm), if_pos (List.any_eq_true.2 ⟨_, hm, decide_eq_true hd⟩)]
     ·exact hx0.put (Nat.le_refl _) (by omega) _
    ·repeat' (first | refine EvC.seq ?_ | refine EvC.scope ?_ | refine EvC.block ?_ | (refine EvC.skip ?_; try simp only [sA]) | (refine EvC.exit ?_) | (refine EvC.ret ?_; try simp only [z01, z00]) | (refine EvC.reg ?_; simp (disch := first | omega | rfl) only [sB, Nat.reduceEqDiff, f33, z0c]) | (refine z0q ?_; simp (disch := first | omega | rfl) only [sA, decide_eq_false]) | (refine EvC.condT ?_ ?_; simp (disch := first | omega | rfl) only [sB, Nat.reduceEqDiff]; refine z04 ?_) | (refine EvC.condF ?_ ?_; simp (disch := first | omega | rfl) only [sB, Nat.reduceEqDiff]; refine z04 ?_))
     refine ⟨s'.size - (i + 1), by omega, _, i + 1, rfl, rfl, by omega, fun x hx => ?_, (by simp only [sG, reduceCtorEq, f0] <;> rfl), (by simp only [sG, Nat.reduceEqDiff, f1] <;> rfl), (by simp only [sG, Nat.reduceEqDiff, f4] <;> rfl), (by simp only [sG, Nat.reduceEqDiff, f6] <;> rfl), (by simp only [sG, Nat.reduceEqDiff, f32] <;> rfl), (by simp only [sB, Nat.reduceEqDiff] <;> rfl)⟩
     rw [List.take_add_one, hgi] at hx
     rcases List.mem_append.1 hx with h | h
     ·exact hall x h
     ·simp at h; rw [h]; omega
   ·repeat' (first | refine EvC.seq ?_ | refine EvC.scope ?_ | refine EvC.block ?_ | (refine EvC.skip ?_) | (refine EvC.exit ?_; try simp only [sB]) | (refine EvC.ret ?_; try simp only [z01, z00]) | (refine EvC.reg ?_; simp (disch := first | omega | rfl) only [sA, f32, f33, decide_eq_false]) | (refine EvC.condT ?_ ?_; simp (disch := first | omega | rfl) only [sB]; refine z04 ?_) | (refine EvC.condF ?_ ?_; simp (disch := first | omega | rfl) only [sB]; refine z04 ?_))
    refine ⟨_, rfl, ?_, (by simp only [sG, reduceCtorEq, f0] <;> rfl), (by simp only [sG, Nat.reduceEqDiff, f1] <;> rfl), (by simp only [sG, Nat.reduceEqDiff, f4] <;> rfl), (by simp only [sG, Nat.reduceEqDiff, f6] <;> rfl)⟩
    rw [List.any_eq_false]
    intro x hx
    rw [← hbl] at hx
    have := hall x (by rw [List.take_of_length_le (by rw [z5h]; omega)]; exact hx)
    simp; omega
  ·exact ⟨_, 0, rfl, by omega, by omega, by simp, (by simp only [sG, reduceCtorEq, g0] <;> rfl), (by simp only [sG, Nat.reduceEqDiff, g1] <;> rfl), (by simp only [sG, Nat.reduceEqDiff, g4] <;> rfl), (by simp only [sG, Nat.reduceEqDiff, g6] <;> rfl), (by simp only [sG, Nat.reduceEqDiff] <;> rfl), (by simp only [sB, Nat.reduceEqDiff] <;> rfl)⟩
 clear g0 g1 g4 g6 tm1
 rintro st ⟨tm, rfl, hany, g0, g1, g4, g6⟩
 by_cases hsz : s'.size = 0
 ·repeat' (first | refine EvC.seq ?_ | refine EvC.scope ?_ | refine EvC.block ?_ | (refine EvC.skip ?_) | (refine EvC.exit ?_) | (refine EvC.ret ?_; try simp only [z01, z00]) | (refine EvC.reg ?_; simp (disch := first | omega | rfl) only [sB, Nat.reduceEqDiff, Nat.reduceAdd, Value.cells, one, layC, zgd, z8g, g0, g4, zej, decide_eq_true, hg1]) | (refine EvC.condT ?_ ?_; simp (disch := first | omega | rfl) only [sB, Nat.reduceEqDiff]; refine z04 ?_))
  refine z0f rfl (by simp only [sB, Nat.reduceEqDiff, g4] <;> rfl) (by simp only [sB, Nat.reduceAdd, cutC, z8h] <;> rfl) (by simp only [sG, Nat.reduceEqDiff] <;> rfl) ⟨.inl ⟨?_, 12, by omega, rfl⟩, hx0.put (Nat.le_refl _) (by omega) _⟩
  have : bodyS (bl s) = [] := by rw [← hbl]; exact List.length_eq_zero_iff.1 (by rw [z5h]; exact hsz)
  unfold parseD
  rw [if_pos this]
 have hpd : parseD (bl s) = numD ((bl s').map digV) 0 := by
  have : bodyS (bl s) ≠ [] := by rw [← hbl]; intro h; have := congrArg List.length h; rw [z5h] at this; exact hsz this
  unfold parseD
  rw [if_neg this, if_neg (by rw [hany]; simp), hbl]
 repeat' (first | refine EvC.seq ?_ | refine EvC.scope ?_ | refine EvC.block ?_ | (refine EvC.skip ?_; try simp only [z02]) | (refine EvC.exit ?_) | (refine EvC.ret ?_; try simp only [z01, z00]) | (refine EvC.reg ?_; simp (disch := first | omega | rfl) only [sB, Nat.reduceEqDiff, reduceCtorEq, ln9, g0, zej, decide_eq_false]) | (refine EvC.condT ?_ ?_; simp (disch := first | omega | rfl) only [sB, Nat.reduceEqDiff]; refine z04 ?_) | (refine EvC.condF ?_ ?_; simp (disch := first | omega | rfl) only [sB, Nat.reduceEqDiff]; refine z04 ?_))
 have hdl : ∀ x ∈ bl s', digV x < 10 := by
  rw [← hbl, List.any_eq_false] at hany
  intro x hx
  have := hany x hx
  simp at this; omega
 refine EvC.loop (fun k st => ∃ tm i n L v Hc, st = ⟨tm, [], Hc⟩ ∧ k = s'.size - i ∧ i ≤ s'.size ∧ numD (((bl s').map digV).drop i) n = numD ((bl s').map digV) 0 ∧ n < big ∧ valB 4294967296 L = n ∧ limbsOK L ∧ HX H1 Hc ∧
  RepO Hc 132 1 H1.next (L.map fun x => [u32V x]) v ∧ tm.get 0 = some (.string s') ∧ tm.get 1 = some (.int .i64 10) ∧ tm.get 4 = some (.pointer (some ⟨H.next, 0, none⟩)) ∧ tm.get 6 = some (.bool neg) ∧ tm.get 8 = some v ∧
  tm.get 48 = some (.int .i64 s'.size) ∧ tm.get 49 = some (.int .i64 (i : Nat))) ?_ s'.size _ ?_
 ·clear g0 g1 g4 g6 tm
  rintro k st ⟨tm, i, n, L, v, Hc, rfl, hk, hi, hnum, hnb, hval, hL, hxc, hrep, g0, g1, g4, g6, g8, g48, g49⟩
  by_cases hlt : i < s'.size
  ·have hgi := zie s' hlt
   have hdi : digV (byteAt s' i) < 10 := hdl _ (List.mem_of_getElem? hgi)
   repeat' (first | refine EvC.seq ?_ | refine EvC.scope ?_ | refine EvC.block ?_ | (refine EvC.skip ?_; try simp only [z02]) | (refine EvC.exit ?_) | (refine EvC.ret ?_; try simp only [z01, z00]) | (refine EvC.reg ?_; simp (disch := first | omega | rfl) only [sB, Nat.reduceEqDiff, reduceCtorEq, ix9, cl89, g0, g48, g49, decide_eq_true]) | (refine EvC.condT ?_ ?_; simp (disch := first | omega | rfl) only [sB]; refine z04 ?_))
   refine (zev (fun _ _ => rfl) (by decide) _ (zb7 s' i) Hc).mono ?_
   rintro v' H' ⟨rfl, rfl⟩
   obtain ⟨a, c, rfl, hLc, hcm⟩ := hrep.slice
   rw [List.length_map] at hLc g8 hrep
   have hcm' : c ≤ 9223372036854775807 := hcm
   repeat' (first | refine EvC.seq ?_ | refine EvC.scope ?_ | refine EvC.block ?_ | (refine EvC.skip ?_) | (refine EvC.exit ?_) | (refine EvC.ret ?_; try simp only [z01, z00]) | (refine EvC.reg ?_; simp (disch := first | omega | rfl) only [sB, Nat.reduceEqDiff, z5e, g8]) | (refine z0q ?_; simp (disch := first | omega | rfl) only [sB, Nat.reduceEqDiff, zm7, z4a]))
   refine EvC.loop (fun k' st => ∃ tm k d cy Hd, st = ⟨tm, [], Hd⟩ ∧ k' = L.length - k ∧ k ≤ L.length ∧ d.length = k ∧ (∀ y ∈ d, y < 4294967296) ∧ cy < 10 ∧
    valB 4294967296 d + 4294967296 ^ k * (10 * valB 4294967296 (L.drop k) + cy) = 10 * valB 4294967296 L + digV (byteAt s' i) ∧ (k ≠ 0 → L[k - 1]? ≠ some 0 → cy ≠ 0 ∨ d.getLast? ≠ some 0) ∧ (k = 0 → cy = digV (byteAt s' i)) ∧ HX H1 Hd ∧
    RepO Hd 132 1 H1.next ((d ++ L.drop k).map fun x => [u32V x]) (.slice a L.length c) ∧ tm.get 0 = some (.string s') ∧ tm.get 1 = some (.int .i64 10) ∧ tm.get 4 = some (.pointer (some ⟨H.next, 0, none⟩)) ∧ tm.get 6 = some (.bool neg) ∧
    tm.get 8 = some (.slice a L.length c) ∧ tm.get 10 = some (.int .u64 (cy : Nat)) ∧ tm.get 48 = some (.int .i64 s'.size) ∧ tm.get 49 = some (.int .i64 (i : Nat)) ∧ tm.get 58 = some (.int .i64 L.length) ∧ tm.get 59 = some (.int .i64 (k : Nat))) ?_ L.length _ ?_
   ·clear hxc hrep g0 g1 g4 g6 g8 g48 g49 tm H'
    rintro k2 st ⟨tm, k, d, cy, Hd, rfl, hk2, hkl, hdk, hdb, hcy, hinv, hlast, hz0, hxc, hrep, g0, g1, g4, g6, g8, g10, g48, g49, g58, g59⟩
    by_cases hkl2 : k < L.length
    ·have hx : L[k]? = some L[k] := List.getElem?_eq_getElem hkl2
     have hdrop : L.drop k = L[k] :: L.drop (k + 1) := List.drop_eq_getElem_cons hkl2
     have hxb : L[k] < 4294967296 := hL.1 _ (List.getElem_mem _)
     generalize L[k] = x at hx hdrop hxb
     rw [hdrop] at hrep hinv
     obtain ⟨b, c2, ho, hv⟩ := hrep.own (by simp)
     have hlm : ((d ++ x :: L.drop (k + 1)).map fun x => [u32V x]).length = L.length := by simp; omega
     rw [hlm] at hv
     cases hv
     have hld := ho.load (i := k) (x := [u32V x]) (by rw [List.getElem?_map, List.getElem?_append_right (by omega), hdk]; simp)
     rw [Nat.mul_one] at hld
     unfold u32V at hld
     obtain ⟨cs, hgb, hle, _⟩ := ho.row
     rw [hlm, Nat.mul_one] at hle
     have hk1 : k + 1 ≤ cs.length := by omega
     have e1 : ((x : Int) * 10 + (cy : Int)) = ((x * 10 + cy : Nat) : Int) := by omega
     repeat' (first | refine EvC.seq ?_ | refine EvC.scope ?_ | refine EvC.block ?_ | (refine EvC.skip ?_; try simp only [z02]) | (refine EvC.exit ?_) | (refine EvC.ret ?_; try simp only [z01, z00]) | (refine EvC.reg ?_; simp (disch := first | omega | rfl) only [sB, Nat.reduceEqDiff, one, zm7, zge, zi5, z9u, z9v, zoa, g1, g8, g10, g58, g59, hld, hgb, hk1, e1, z4a, zb9, zd3, z0c, decide_eq_true]) | (refine EvC.condT ?_ ?_; simp (disch := first | omega | rfl) only [sB]; refine z04 ?_))
     have hset := ho.set hgb (i := k) (y := [u32V ((x * 10 + cy) % 4294967296)]) (by rw [hlm]; exact hkl2) rfl rfl
     rw [Nat.mul_one] at hset
     have hset2 : ((d ++ x :: L.drop (k + 1)).map fun x => [u32V x]).set k [u32V ((x * 10 + cy) % 4294967296)] = ((d ++ [(x * 10 + cy) % 4294967296]) ++ L.drop (k + 1)).map fun x => [u32V x] := by
      rw [List.map_append, List.set_append_right _ _ (by simp; omega)]
      simp [hdk]
     rw [hset2] at hset
     have hlm2 : (((d ++ [(x * 10 + cy) % 4294967296]) ++ L.drop (k + 1)).map fun x => [u32V x]).length = L.length := by simp; omega
     have hcq := zia (B := 4294967296) (x := x) (c := cy) (by omega) hxb hcy
     refine ⟨L.length - (k + 1), by omega, _, k + 1, d ++ [(x * 10 + cy) % 4294967296], (x * 10 + cy) / 4294967296, _, rfl, rfl, by omega, by simp [hdk], ?_, hcq, ?_, ?_, by omega, hxc.put ho.lo ho.hi _, .inr ⟨_, _, hset, by rw [hlm2]⟩,
      (by simp only [sG, reduceCtorEq, g0] <;> rfl), (by simp only [sG, Nat.reduceEqDiff, g1] <;> rfl), (by simp only [sG, Nat.reduceEqDiff, g4] <;> rfl), (by simp only [sG, Nat.reduceEqDiff, g6] <;> rfl), (by simp only [sG, Nat.reduceEqDiff, g8] <;> rfl), (by simp only [sG, Nat.reduceEqDiff] <;> rfl), (by simp only [sG, Nat.reduceEqDiff, g48] <;> rfl), (by simp only [sG, Nat.reduceEqDiff, g49] <;> rfl), (by simp only [sG, Nat.reduceEqDiff, g58] <;> rfl), (by simp only [sB, Nat.reduceEqDiff] <;> rfl)⟩
     ·intro y hy
      rcases List.mem_append.1 hy with h | h
      ·exact hdb y h
      ·simp at h; omega
     ·have := zn3 (B := 4294967296) (c := cy) (x := x) (d := d) (rest := L.drop (k + 1))
      rw [hdk] at this
      rw [this]; exact hinv
     ·intro _ hl0
      rw [show k + 1 - 1 = k by omega, hx] at hl0
      have hx0 : x ≠ 0 := fun h => hl0 (by rw [h])
      by_cases hq : (x * 10 + cy) / 4294967296 = 0
      ·refine .inr ?_
       simp
       omega
      ·exact .inl hq
    ·have hkL : k = L.length := by omega
     have hdr : L.drop k = [] := List.drop_of_length_le (by omega)
     rw [hdr] at hinv hrep
     rw [List.append_nil] at hrep
     simp only [valB, Nat.mul_zero, Nat.zero_add] at hinv
     have hfew := zbn hL (by rw [z3w, hval]; omega)
     have hlastL : k ≠ 0 → L[k - 1]? ≠ some 0 := fun h0 => by
      have := hL.2
      rw [List.getLast?_eq_getElem?] at this
      rw [hkL]; exact this
     have hlm : (d.map fun x => [u32V x]).length = L.length := by simp; omega
     repeat' (first | refine EvC.seq ?_ | refine EvC.scope ?_ | refine EvC.block ?_ | (refine EvC.skip ?_) | (refine EvC.exit ?_; try simp only [sB, Nat.reduceEqDiff]) | (refine EvC.ret ?_; try simp only [z01, z00]) | (refine EvC.reg ?_; simp (disch := first | omega | rfl) only [sB, Nat.reduceEqDiff, g58, g59, g10, decide_eq_false]) | (refine EvC.condT ?_ ?_; simp (disch := first | omega | rfl) only [sB, Nat.reduceEqDiff]; refine z04 ?_) | (refine EvC.condF ?_ ?_; simp (disch := first | omega | rfl) only [sB, Nat.reduceEqDiff]; refine z04 ?_))
     have hnn : n * 10 + digV (byteAt s' i) = valB 4294967296 d + 4294967296 ^ k * cy := by rw [hval] at hinv; omega
     have hnumi : numD ((bl s').map digV) 0 = if big ≤ n * 10 + digV (byteAt s' i) then none else numD (((bl s').map digV).drop (i + 1)) (n * 10 + digV (byteAt s' i)) := by
      rw [← hnum, List.drop_eq_getElem_cons (by simp [z5h]; omega), numD]
      have : ((bl s').map digV)[i]'(by simp [z5h]; omega) = digV (byteAt s' i) := by
       apply Option.some.inj
       rw [← List.getElem?_eq_getElem, List.getElem?_map, hgi]; rfl
      rw [this]
     generalize n * 10 + digV (byteAt s' i) = n' at hnn hnumi
     refine EvC.join (fun st => ∃ tm L' v' Hc', st = ⟨tm, [], Hc'⟩ ∧ valB 4294967296 L' = n' ∧ limbsOK L' ∧ L'.length ≤ 129 ∧ HX H1 Hc' ∧ RepO Hc' 132 1 H1.next (L'.map fun x => [u32V x]) v' ∧
      tm.get 0 = some (.string s') ∧ tm.get 1 = some (.int .i64 10) ∧ tm.get 4 = some (.pointer (some ⟨H.next, 0, none⟩)) ∧ tm.get 6 = some (.bool neg) ∧ tm.get 8 = some v' ∧ tm.get 48 = some (.int .i64 s'.size) ∧ tm.get 49 = some (.int .i64 (i : Nat))) ?_ ?_
     ·by_cases hc0 : cy = 0
      ·repeat' (first | refine EvC.seq ?_ | refine EvC.scope ?_ | refine EvC.block ?_ | (refine EvC.skip ?_; try simp only [z02]) | (refine EvC.exit ?_) | (refine EvC.ret ?_; try simp only [z01, z00]) | (refine EvC.condT ?_ ?_; simp (disch := first | omega | rfl) only [sB, Nat.reduceEqDiff, decide_eq_false]; refine z04 ?_) | (refine EvC.condF ?_ ?_; simp (disch := first | omega | rfl) only [sB, Nat.reduceEqDiff, decide_eq_false]; refine z04 ?_))
       refine ⟨_, d, _, _, rfl, by rw [hnn, hc0]; omega, ⟨hdb, ?_⟩, by omega, hxc, hrep, (by simp only [sG, reduceCtorEq, g0] <;> rfl), (by simp only [sG, Nat.reduceEqDiff, g1] <;> rfl), (by simp only [sG, Nat.reduceEqDiff, g4] <;> rfl), (by simp only [sG, Nat.reduceEqDiff, g6] <;> rfl), (by simp only [sG, Nat.reduceEqDiff, g8] <;> rfl), (by simp only [sG, Nat.reduceEqDiff, g48] <;> rfl), (by simp only [sG, Nat.reduceEqDiff, g49] <;> rfl)⟩
       by_cases hk0 : k = 0
       ·have : d = [] := List.length_eq_zero_iff.1 (by omega)
        rw [this]; simp
       ·rcases hlast hk0 (hlastL hk0) with h | h
        ·exact absurd hc0 h
        ·exact h
      ·obtain ⟨H2, v2, hap, hrep2, _, hx2, _⟩ := hrep.push zp5 (y := [u32V cy]) rfl rfl (by simp [most]; omega) hxc.next
       unfold u32V at hap
       repeat' (first | refine EvC.seq ?_ | refine EvC.scope ?_ | refine EvC.block ?_ | (refine EvC.skip ?_) | (refine EvC.exit ?_) | (refine EvC.ret ?_; try simp only [z01, z00]) | (refine EvC.reg ?_; simp (disch := first | omega | rfl) only [sB, Nat.reduceEqDiff, Value.cells, one, layC, z9v, zmy, g8, g10, decide_eq_true, wrap_u32, hap]) | (refine EvC.condT ?_ ?_; simp (disch := first | omega | rfl) only [sB, Nat.reduceEqDiff, decide_eq_true]; refine z04 ?_))
       have hk2' : ((d ++ [cy]).map fun x => [u32V x]) = (d.map fun x => [u32V x]) ++ [[u32V cy]] := by simp
       refine ⟨_, d ++ [cy], _, _, rfl, ?_, ⟨?_, by simp; exact hc0⟩, by simp; omega, hx2 _ hxc (Nat.le_refl _), by rw [hk2']; exact hrep2, (by simp only [sG, reduceCtorEq, g0] <;> rfl), (by simp only [sG, Nat.reduceEqDiff, g1] <;> rfl), (by simp only [sG, Nat.reduceEqDiff, g4] <;> rfl), (by simp only [sG, Nat.reduceEqDiff, g6] <;> rfl), (by simp only [sG, Nat.reduceEqDiff] <;> rfl), (by simp only [sG, Nat.reduceEqDiff, g48] <;> rfl), (by simp only [sG, Nat.reduceEqDiff, g49] <;> rfl)⟩
       ·rw [z1n, z5f, hdk, hnn]
       ·intro y hy
        rcases List.mem_append.1 hy with h | h
        ·exact hdb y h
        ·simp at h; omega
     clear g0 g1 g4 g6 g8 g10 g48 g49 g58 g59 tm hrep hxc
     rintro st ⟨tm, L', v', Hc', rfl, hval', hL', hfew', hxc, hrep, g0, g1, g4, g6, g8, g48, g49⟩
     obtain ⟨a', c'', rfl, hr⟩ := RepO.rds (vs := L'.map u32V) (by rw [List.map_map]; exact hrep)
     rw [List.length_map] at g8 hrep
     repeat' (first | refine EvC.seq ?_ | refine EvC.scope ?_ | refine EvC.block ?_ | (refine EvC.skip ?_) | (refine EvC.exit ?_) | (refine EvC.ret ?_; try simp only [z01, z00]) | (refine EvC.reg ?_; simp (disch := first | omega | rfl) only [sB, Nat.reduceEqDiff, cl90, g8]))
     refine (zid hr hL'.1 (by omega)).mono ?_
     rintro v H2 ⟨rfl, rfl⟩
     rw [hval']
     have hg2 : H2.get H.next = some (.row [.bool false, .slice none 0 0] 120) := by rw [hxc.keep _ (by omega)]; exact hg1
     by_cases hbig : 4096 < nbits n'
     ·repeat' (first | refine EvC.seq ?_ | refine EvC.scope ?_ | refine EvC.block ?_ | (refine EvC.skip ?_) | (refine EvC.exit ?_) | (refine EvC.ret ?_; try simp only [z01, z00]) | (refine EvC.reg ?_; simp (disch := first | omega | rfl) only [sB, Nat.reduceEqDiff, Nat.reduceAdd, Value.cells, one, layC, zgd, z8g, g4, hg2]) | (refine z0q ?_; simp (disch := first | omega | rfl) only [sA, decide_eq_true]) | (refine EvC.condT ?_ ?_; simp (disch := first | omega | rfl) only [sB, Nat.reduceEqDiff]; refine z04 ?_))
      refine z0f rfl (by simp only [sB, Nat.reduceEqDiff, g4] <;> rfl) (by simp only [sB, Nat.reduceAdd, cutC, z8h] <;> rfl) (by simp only [sG, Nat.reduceEqDiff] <;> rfl) ⟨.inl ⟨?_, 10, by omega, rfl⟩, (hx0.trans hxc).put (Nat.le_refl _) (by have := hxc.next; omega) _⟩
      rw [hpd, hnumi, if_pos (z3w.1 hbig)]
     ·repeat' (first | refine EvC.seq ?_ | refine EvC.scope ?_ | refine EvC.block ?_ | (refine EvC.skip ?_; try simp only [sA]) | (refine EvC.exit ?_) | (refine EvC.ret ?_; try simp only [z01, z00]) | (refine EvC.reg ?_; simp (disch := first | omega | rfl) only [sB, Nat.reduceEqDiff, g49, z0c]) | (refine z0q ?_; simp (disch := first | omega | rfl) only [sA, decide_eq_false]) | (refine EvC.condT ?_ ?_; simp (disch := first | omega | rfl) only [sB, Nat.reduceEqDiff]; refine z04 ?_) | (refine EvC.condF ?_ ?_; simp (disch := first | omega | rfl) only [sB, Nat.reduceEqDiff]; refine z04 ?_))
      have hnb' : ¬ big ≤ n' := fun h => hbig (z3w.2 h)
      exact ⟨s'.size - (i + 1), by omega, _, i + 1, n', L', _, _, rfl, rfl, by omega, by rw [hnumi, if_neg hnb'], Nat.lt_of_not_le hnb', hval', hL', hxc, hrep, (by simp only [sG, reduceCtorEq, g0] <;> rfl), (by simp only [sG, Nat.reduceEqDiff, g1] <;> rfl), (by simp only [sG, Nat.reduceEqDiff, g4] <;> rfl), (by simp only [sG, Nat.reduceEqDiff, g6] <;> rfl), (by simp only [sG, Nat.reduceEqDiff, g8] <;> rfl), (by simp only [sG, Nat.reduceEqDiff, g48] <;> rfl), (by simp only [sB, Nat.reduceEqDiff] <;> rfl)⟩
   ·refine ⟨_, 0, [], digV (byteAt s' i), _, rfl, by omega, by omega, rfl, by simp, hdi, by simp [valB], by simp, fun _ => rfl, hxc, by simpa using hrep, (by simp only [sG, reduceCtorEq, g0] <;> rfl), (by simp only [sG, Nat.reduceEqDiff, g1] <;> rfl), (by simp only [sG, Nat.reduceEqDiff, g4] <;> rfl), (by simp only [sG, Nat.reduceEqDiff, g6] <;> rfl), (by simp only [sG, Nat.reduceEqDiff, g8] <;> rfl), (by simp only [sG, Nat.reduceEqDiff] <;> rfl), (by simp only [sG, Nat.reduceEqDiff, g48] <;> rfl), (by simp only [sG, Nat.reduceEqDiff, g49] <;> rfl), (by simp only [sG, Nat.reduceEqDiff] <;> rfl), (by simp only [sB, Nat.reduceEqDiff] <;> rfl)⟩
  ·have hi' : i = s'.size := by omega
   have hnn : numD ((bl s').map digV) 0 = some n := by
    rw [← hnum, List.drop_of_length_le (by simp [z5h]; omega), numD]
   obtain ⟨a', c'', rfl, hr⟩ := RepO.rds (vs := L.map u32V) (by rw [List.map_map]; exact hrep)
   rw [List.length_map] at g8
   repeat' (first | refine EvC.seq ?_ | refine EvC.scope ?_ | refine EvC.block ?_ | (refine EvC.skip ?_) | (refine EvC.exit ?_; try simp only [sB]) | (refine EvC.ret ?_; try simp only [z01, z00]) | (refine EvC.reg ?_; simp (disch := first | omega | rfl) only [sB, Nat.reduceEqDiff, cl91, g48, g49, g6, g8, decide_eq_false]) | (refine EvC.condT ?_ ?_; simp (disch := first | omega | rfl) only [sB]; refine z04 ?_) | (refine EvC.condF ?_ ?_; simp (disch := first | omega | rfl) only [sB]; refine z04 ?_))
   refine (zn6 hr hxc.wf).mono ?_
   rintro v H2 ⟨m, rfl, hm, hz, hn0, hx2⟩
   have hg2 : H2.get H.next = some (.row [.bool false, .slice none 0 0] 120) := by rw [(hxc.trans hx2).keep _ (by omega)]; exact hg1
   repeat' (first | refine EvC.seq ?_ | refine EvC.scope ?_ | refine EvC.block ?_ | (refine EvC.skip ?_) | (refine EvC.exit ?_) | (refine EvC.ret ?_; try simp only [z01, z00]) | (refine z0q ?_; simp (disch := first | omega | rfl) only [sB, Nat.reduceAdd, one, z8g, g4, hg2]))
   have hx3 := hxc.trans hx2
   have hm' : m = L.length := by
    rcases Nat.lt_or_ge m L.length with h | h
    ·have := hz (L[L.length - 1]'(by omega)) (List.mem_drop_iff_getElem.2 ⟨L.length - 1 - m, by omega, by congr 1; omega⟩)
     have h2 := hL.2
     rw [List.getLast?_eq_getElem?, List.getElem?_eq_getElem (by omega), this] at h2
     exact absurd rfl h2
    ·omega
   subst hm'
   refine z0f rfl (by simp only [sB, Nat.reduceEqDiff, g4] <;> rfl) (by simp only [sB, Nat.reduceAdd, cutC, z8h] <;> rfl) (by simp only [sB, Nat.reduceEqDiff] <;> rfl) ⟨.inr ⟨n, L, a', c'', by rw [hpd, hnn], by rw [hneg], ?_, hL.1, hval, hL.2, ?_⟩, (hx0.trans hx3).put (Nat.le_refl _) (by have := hx3.next; omega) _⟩
   ·rw [List.length_map] at hrep
    have h3 := (hrep.keep hx2).putlo (i := H.next) (by omega) (some (.row [.bool (neg && decide (0 < L.length)), .slice a' L.length c''] 120))
    exact (RepO.rds' (vs := L.map u32V) (by rw [List.map_map]; exact h3)).2
   ·have := zbn hL (by rw [z3w, hval]; omega)
    omega
 ·exact ⟨_, 0, 0, [], _, _, rfl, by omega, by omega, by simp, by rw [zbl]; exact Nat.two_pow_pos _, rfl, ⟨by simp, by simp⟩, HX.refl hx0.wf, RepO.empty, (by simp only [sG, reduceCtorEq, g0] <;> rfl), (by simp only [sG, Nat.reduceEqDiff, g1] <;> rfl), (by simp only [sG, Nat.reduceEqDiff, g4] <;> rfl), (by simp only [sG, Nat.reduceEqDiff, g6] <;> rfl), (by simp only [sG, Nat.reduceEqDiff] <;> rfl), (by simp only [sG, Nat.reduceEqDiff] <;> rfl), (by simp only [sB, Nat.reduceEqDiff] <;> rfl)⟩
def u8V (n : Nat) : Value := .int .u8 (n : Int)
theorem zn7 {s : ByteArray} (h : ∀ i : Fin 10, byteAt s i = 48 + i) {y : Nat} (hy : y < 10) : byteAt s y = 48 + y := h ⟨y, hy⟩
theorem zex {B : Nat} (hB : 0 < B) {M : List Nat} (h0 : M ≠ []) (h : M.getLast? ≠ some 0) : valB B M ≠ 0 := by
 rcases List.eq_nil_or_concat M with rfl | ⟨l, x, rfl⟩
 ·exact absurd rfl h0
 ·rw [List.concat_eq_append] at *
  have hx : x ≠ 0 := by simpa using h
  rw [z1n, z5f]
  have : 0 < B ^ l.length * x := Nat.mul_pos (Nat.pow_pos hB) (by omega)
  omega
set_option maxHeartbeats 4000000 in
theorem zn8 {L : List Nat} {neg : Bool} {a : Option Addr} {c n : Nat} {H : Heap} (hw : H.wf) (r : RdS H (L.map u32V) a c) (hL : ∀ y ∈ L, y < 4294967296) (hlen : L.length ≤ 4096) (hval : valB 4294967296 L = n) (hn : n < big) :
  EvF Tryd.prog okT 85 [.agg ⟨[.bool neg, .slice a L.length c]⟩, .int .i64 10] H fun v H' => (∃ t : ByteArray, v = .tuple ⟨[.string t, .int .i64 0]⟩ ∧ bl t = textD neg n) ∧ HX H H' := by
 refine EvF.enter rfl Tryd.func85 (by decide) rfl ?_
 (repeat refine EvC.seq ?_); refine EvC.reg ?_; simp (disch := first | omega | rfl) only [sB, initTm, dBox, Value.cells, one, reduceCtorEq]
 have hx0 := (HX.refl hw).new (some (.row [.bool neg, .slice a L.length c] 120))
 obtain ⟨H1, hH1⟩ : ∃ H1, H1 = H.new (some (.row [.bool neg, .slice a L.length c] 120)) := ⟨_, rfl⟩
 have hn1 : H1.next = H.next + 1 := by rw [hH1]; rfl
 have hg1 : H1.get H.next = some (.row [.bool neg, .slice a L.length c] 120) := by rw [hH1]; exact z0p
 have hl1 : H1.load ⟨H.next, 0, none⟩ 2 = some [.bool neg, .slice a L.length c] := by rw [hH1]; exact z3u
 have hlb : H1.load ⟨H.next, 0, none⟩ 1 = some [.bool neg] := by rw [hH1]; exact z3u
 have hls : H1.load ⟨H.next, 1, none⟩ 1 = some [.slice a L.length c] := by rw [hH1]; exact z3u
 rw [← hH1] at hx0 ⊢
 have hw1 := hx0.wf
 have hx2 := (HX.refl hw1).new (some (.row [.bool neg, .slice a L.length c] 120))
 repeat' (first | refine EvC.seq ?_ | refine EvC.scope ?_ | refine EvC.block ?_ | (refine EvC.skip ?_) | (refine EvC.exit ?_) | (refine EvC.ret ?_; try simp only [z01, z00]) | (refine EvC.reg ?_; simp (disch := first | omega | rfl) only [sB, Nat.reduceEqDiff, Nat.reduceAdd, Value.cells, one, reduceCtorEq, layC, z8h, zmz, cl92, hl1]))
 refine (zn5 ((r.keep hx0 hw).keep hx2 hw1) hL (by omega) hx2.wf (Nat.lt_succ_self _) z3u).mono ?_
 rintro v H2 ⟨rfl, hx3⟩
 have hx13 := hx2.trans hx3
 have hl2 := hx13.load hw1 hls
 have hlb2 := hx13.load hw1 hlb
 have hng : ¬ 4096 < nbits (valB 4294967296 L) := by rw [z3w, hval]; omega
 rw [decide_eq_false hng]
 repeat' (first | refine EvC.seq ?_ | refine EvC.scope ?_ | refine EvC.block ?_ | (refine EvC.skip ?_; try simp only [z02]) | (refine EvC.exit ?_) | (refine EvC.ret ?_; try simp only [z01, z00]) | (refine EvC.reg ?_; simp (disch := first | omega | rfl) only [sB, Nat.reduceEqDiff, reduceCtorEq, zi6, zob, cl94, cl93, hl2, decide_eq_false, Bool.false_eq_true]) | (refine EvC.condT ?_ ?_; simp (disch := first | omega | rfl) only [sB, Nat.reduceEqDiff, reduceCtorEq]; refine z04 ?_) | (refine EvC.condF ?_ ?_; simp (disch := first | omega | rfl) only [sB, Nat.reduceEqDiff, reduceCtorEq]; refine z04 ?_))
 have r2 := (r.keep hx0 hw).keep hx13 hw1
 refine (z9y (fun _ _ => rfl) (by decide) r2).mono ?_
 rintro v H3 ⟨m, rfl, hm, hz, hn0, rfl⟩
 have hvm : valB 4294967296 (L.take m) = n := by rw [z7p hz, hval]
 have hlm : (L.take m).length = m := by rw [List.length_take]; omega
 have hLm : ∀ y ∈ L.take m, y < 4294967296 := fun y hy => hL y (List.mem_of_mem_take hy)
 have hlast : (L.take m).getLast? ≠ some 0 := by
  rw [List.getLast?_eq_getElem?, hlm]
  by_cases h0 : m = 0
  ·subst h0; simp
  ·rw [List.getElem?_take, if_pos (by omega)]; exact hn0 h0
 have r3 : RdS H3 ((L.take m).map u32V) a c := by rw [List.map_take]; exact r2.take m
 generalize L.take m = M0 at hvm hlm hLm hlast r3
 subst hlm
 repeat' (first | refine EvC.seq ?_ | refine EvC.scope ?_ | refine EvC.block ?_ | (refine EvC.skip ?_) | (refine EvC.exit ?_) | (refine EvC.ret ?_; try simp only [z01, z00]))
 refine (zoh r3 (by omega) hx13.wf).mono ?_
 rintro v H4 ⟨b, c2, ho, rfl, hx4⟩
 have hx14 := hx13.trans hx4
 by_cases h0 : M0.length = 0
 ·have hM : M0 = [] := List.length_eq_zero_iff.1 h0
  subst hM
  repeat' (first | refine EvC.seq ?_ | refine EvC.scope ?_ | refine EvC.block ?_ | (refine EvC.skip ?_) | (refine EvC.exit ?_) | (refine EvC.ret ?_; try simp only [z01, z00]) | (refine EvC.reg ?_; simp (disch := first | omega | rfl) only [sB, Nat.reduceEqDiff, reduceCtorEq, z5e, z0r]) | (refine EvC.condT ?_ ?_; simp (disch := first | omega | rfl) only [sB, Nat.reduceEqDiff, reduceCtorEq]; refine z04 ?_))
  refine z2p rfl (by simp only [sB, Nat.reduceEqDiff, reduceCtorEq] <;> rfl) (by simp only [sG, Nat.reduceEqDiff, reduceCtorEq] <;> rfl) ⟨⟨_, rfl, ?_⟩, hx0.trans hx14⟩
  rw [← hvm]; rfl
 ·have hnz := zex (B := 4294967296) (by omega) (fun h => h0 (by rw [h]; rfl)) hlast
  rw [hvm] at hnz
  repeat' (first | refine EvC.seq ?_ | refine EvC.scope ?_ | refine EvC.block ?_ | (refine EvC.skip ?_; try simp only [z02]) | (refine EvC.exit ?_) | (refine EvC.ret ?_; try simp only [z01, z00]) | (refine EvC.reg ?_; simp (disch := first | omega | rfl) only [sB, Nat.reduceEqDiff, reduceCtorEq, z5e, z0t]) | (refine EvC.condT ?_ ?_; simp (disch := first | omega | rfl) only [sB, Nat.reduceEqDiff, reduceCtorEq]; refine z04 ?_) | (refine EvC.condF ?_ ?_; simp (disch := first | omega | rfl) only [sB, Nat.reduceEqDiff, reduceCtorEq]; refine z04 ?_))
  refine EvC.loop (fun k st => ∃ tm M od v6 v7 Hc, st = ⟨tm, [], Hc⟩ ∧ k = valB 4294967296 M ∧ (∀ y ∈ M, y < 4294967296) ∧ M.length ≤ 4096 ∧ M.getLast? ≠ some 0 ∧ decR n = od ++ decR (valB 4294967296 M) ∧ (M ≠ [] → valB 4294967296 M * 10 ^ od.length ≤ n) ∧ od.length ≤ 4096 ∧
    (∀ y ∈ od, y < 10) ∧ HX H3 Hc ∧ RepO Hc 132 1 H3.next (M.map fun x => [u32V x]) v6 ∧ RepO Hc 5 1 H3.next (od.map fun x => [u8V (48 + x)]) v7 ∧ tm.get 1 = some (.int .i64 10) ∧ tm.get 2 = some (.pointer (some ⟨H.next, 0, none⟩)) ∧ tm.get 6 = some v6 ∧ tm.get 7 = some v7) ?_ (valB 4294967296 M0) _ ?_
  ·rintro k st ⟨tm, M, od, v6, v7, Hc, rfl, rfl, hMb, hMl, hMn, hdec, hle, hol, hod, hxc, hr6, hr7, g1, g2, g6, g7⟩
   by_cases hM0 : M = []
   ·subst hM0
    obtain ⟨a6, c6, rfl, -, -⟩ := hr6.slice
    rw [List.length_map] at g6
    have hlbc := hxc.load hx13.wf hlb2
    have hdec' : decR n = od := by rw [hdec]; simp [valB, zib]
    repeat' (first | refine EvC.seq ?_ | refine EvC.scope ?_ | refine EvC.block ?_ | (refine EvC.skip ?_) | (refine EvC.exit ?_; try simp only [sB]) | (refine EvC.ret ?_; try simp only [z01, z00]) | (refine EvC.reg ?_; simp (disch := first | omega | rfl) only [sB, Nat.reduceEqDiff, z5e, zn1, ld4, g2, g6, hlbc, decide_eq_false]) | (refine EvC.condT ?_ ?_; simp (disch := first | omega | rfl) only [sB, Nat.reduceEqDiff]; refine z04 ?_) | (refine EvC.condF ?_ ?_; simp (disch := first | omega | rfl) only [sB, Nat.reduceEqDiff]; refine z04 ?_))
    refine EvC.join (fun st => ∃ tm o v Hd, st = ⟨tm, [], Hd⟩ ∧ o = (od.map fun x => 48 + x) ++ (if neg then [45] else []) ∧ HX H3 Hd ∧ RepO Hd 5 1 H3.next (o.map fun x => [u8V x]) v ∧ tm.get 7 = some v) ?_ ?_
    ·cases neg with
     | true =>
      obtain ⟨H5, v5, hap, hr7b, -, hx5, -⟩ := hr7.push zoc (y := [u8V 45]) rfl rfl (by simp [most]; omega) hxc.next
      have h45 : u8V 45 = .int .u8 45 := rfl
      rw [h45] at hap
      refine EvC.condT (by simp only [sB, Nat.reduceEqDiff] <;> rfl) ?_
      repeat' (first | refine EvC.seq ?_ | refine EvC.scope ?_ | refine EvC.block ?_ | (refine EvC.skip ?_) | (refine EvC.exit ?_) | (refine EvC.ret ?_; try simp only [z01, z00]) | (refine EvC.reg ?_; simp (disch := first | omega | rfl) only [sB, Nat.reduceEqDiff, Value.cells, one, layC, zi7, g7, hap]))
      refine ⟨_, _, _, _, rfl, rfl, hx5 _ hxc (Nat.le_refl _), ?_, (by simp only [sB, Nat.reduceEqDiff] <;> rfl)⟩
      first | (rw [List.map_append, List.map_map]; exact hr7b) | (simp only [if_true, List.map_append, List.map_map]; exact hr7b)
     | false =>
      refine EvC.condF (by simp only [sB, Nat.reduceEqDiff] <;> rfl) ?_
      repeat' (first | refine EvC.seq ?_ | refine EvC.scope ?_ | refine EvC.block ?_ | (refine EvC.skip ?_; try simp only [sB, reduceCtorEq]) | (refine EvC.exit ?_) | (refine EvC.ret ?_; try simp only [z01, z00]))
      exact ⟨_, _, _, _, rfl, rfl, hxc, by first | (rw [List.append_nil, List.map_map]; exact hr7) | (simp only [Bool.false_eq_true, if_false, List.append_nil, List.map_map]; exact hr7), (by simp only [sG, Nat.reduceEqDiff, g7] <;> rfl)⟩
    clear g1 g2 g6 g7 hr7 hr6 hxc hlbc tm
    rintro st ⟨tm, o, v, Hd, rfl, ho', hxc, hr7, g7⟩
    have hob : ∀ y ∈ o, y < 256 := by
     intro y hy
     rw [ho'] at hy
     rcases List.mem_append.1 hy with h | h
     ·obtain ⟨x, hx, rfl⟩ := List.mem_map.1 h
      have := hod x hx; omega
     ·cases neg <;> simp at h
      omega
    have hon : 0 < o.length := by
     have : od ≠ [] := by rw [← hdec', zeu hnz]; simp
     rw [ho', List.length_append, List.length_map]
     have := List.length_pos_iff.2 this
     omega
    have hol2 : o.length ≤ 4097 := by
     rw [ho', List.length_append, List.length_map]
     cases neg <;> simp <;> omega
    have htx : textD neg n = o.reverse := by
     unfold textD
     rw [if_neg hnz, hdec', ho']
    obtain ⟨b7, c7, ho7, rfl⟩ := hr7.own (by intro h; rw [List.map_eq_nil_iff] at h; rw [h] at hon; simp at hon)
    rw [List.length_map] at g7
    repeat' (first | refine EvC.seq ?_ | refine EvC.scope ?_ | refine EvC.block ?_ | (refine EvC.skip ?_) | (refine EvC.exit ?_) | (refine EvC.ret ?_; try simp only [z01, z00]) | (refine EvC.reg ?_; simp (disch := first | omega | rfl) only [sB, Nat.reduceEqDiff, zp6, g7, z0c]))
    refine EvC.loop (fun k st => ∃ (tm : Tr Value) (S : List Nat) (i : Nat) (He : Heap), st = ⟨tm, [], He⟩ ∧ k = o.length - i ∧ 2 * i ≤ o.length ∧ S.length = o.length ∧ (∀ j, j < o.length → S[j]? = if j < i ∨ o.length - i ≤ j then o[o.length - 1 - j]? else o[j]?) ∧ HX H3 He ∧
     OwnS He 5 1 H3.next (S.map fun x => [u8V x]) b7 c7 ∧ tm.get 7 = some (.slice (some ⟨b7, 0, none⟩) o.length c7) ∧ tm.get 10 = some (.int .i64 (i : Nat)) ∧ tm.get 11 = some (.int .i64 ((o.length : Int) - 1 - (i : Int)))) ?_ o.length _ ?_
    ·clear g7 ho7 hr7 hxc tm
     rintro k0 st ⟨tm, S, i, He, rfl, hk0, hi2, hSl, hS, hxc, ho7, g7, g10, g11⟩
     by_cases hlt : 2 * i + 1 < o.length
     ·obtain ⟨k, hk⟩ : ∃ k, k = o.length - 1 - i := ⟨_, rfl⟩
      have e1 : ((o.length : Int) - 1 - (i : Int)) = (k : Int) := by omega
      rw [e1] at g11
      have hxi : S[i]? = some S[i] := List.getElem?_eq_getElem (by omega)
      have hxk : S[k]? = some S[k] := List.getElem?_eq_getElem (by omega)
      generalize S[i] = x at hxi
      generalize S[k] = y at hxk
      have hldi := ho7.load (i := i) (x := [u8V x]) (by rw [List.getElem?_map, hxi]; rfl)
      have hldk := ho7.load (i := k) (x := [u8V y]) (by rw [List.getElem?_map, hxk]; rfl)
      rw [Nat.mul_one] at hldi hldk
      unfold u8V at hldi hldk
      obtain ⟨cs, hgb, hcl, _⟩ := ho7.row
      rw [List.length_map, hSl, Nat.mul_one] at hcl
      have hk1 : i + 1 ≤ cs.length := by omega
      have hk2 : k + 1 ≤ (Hb.splice cs i [Value.int .u8 (y : Int)]).length := by rw [z1r (by simp; omega)]; omega
      repeat' (first | refine EvC.seq ?_ | refine EvC.scope ?_ | refine EvC.block ?_ | (refine EvC.skip ?_; try simp only [z02]) | (refine EvC.exit ?_) | (refine EvC.ret ?_; try simp only [z01, z00]) | (refine EvC.reg ?_; simp (disch := first | omega | rfl) only [sB, Nat.reduceEqDiff, g10, g11, decide_eq_true, z0c]) | (refine EvC.drw [([(0, 0), (1, 0), (4, 0), (5, 0), (6, 0), (7, 0), (8, 0), (9, 0), (10, 0), (11, 0), (12, 0)], some 13), ([(2, 0), (3, 0), (14, 1)], some 15), ([], none)] ?_ ?_; kernel_rfl; simp (disch := first | omega | rfl) only [sD, sB, Nat.reduceEqDiff, Nat.reduceAdd, one, reduceCtorEq, zp7, ld5, st5, g7, g10, g11, hldi, hldk, hgb, hk1, hk2, isAlloc, isRead, reduceCtorEq]) | (refine EvC.condT ?_ ?_; simp (disch := first | omega | rfl) only [sB, Nat.reduceEqDiff]; refine z04 ?_))
      have hb1 : OwnS (⟨He.next + 16, He.t⟩ : Heap) 5 1 H3.next (S.map fun x => [u8V x]) b7 c7 := ho7.heap rfl (Nat.le_add_right _ _)
      have hb2 := hb1.set (cs := cs) hgb (i := i) (y := [u8V y]) (by simp; omega) rfl rfl
      have hb3 := hb2.set z7b (i := k) (y := [u8V x]) (by simp; omega) rfl rfl
      rw [Nat.mul_one, Nat.mul_one] at hb3
      have hoi : o[i]? = some x := by rw [← hxi, hS i (by omega), if_neg (by omega)]
      have hok : o[k]? = some y := by rw [← hxk, hS k (by omega), if_neg (by omega)]
      have hmap : (((S.map fun x => [u8V x]).set i [u8V y]).set k [u8V x]) = ((S.set i y).set k x).map fun x => [u8V x] := by simp [List.map_set]
      rw [hmap] at hb3
      refine ⟨o.length - (i + 1), by omega, _, (S.set i y).set k x, i + 1, _, rfl, rfl, by omega, by simp [hSl], fun j hj => ?_, ((hxc.bump 16).put (i := b7) ho7.lo (Nat.lt_of_lt_of_le ho7.hi (Nat.le_add_right _ _)) _).put (i := b7) ho7.lo (Nat.lt_of_lt_of_le ho7.hi (Nat.le_add_right _ _)) _, hb3, (by simp only [sG, Nat.reduceEqDiff, g7] <;> rfl), (by simp only [sB, Nat.reduceEqDiff] <;> rfl), by simp only [sB, Nat.reduceEqDiff]; first | done | (congr 1; omega)⟩
      by_cases hjk : j = k
      ·rw [hjk, List.getElem?_set_self (by simp; omega), if_pos (by omega), ← hoi]
       first | done | (congr 1; done) | (congr 1; omega)
      ·rw [List.getElem?_set_ne (by omega)]
       by_cases hji : j = i
       ·rw [hji, List.getElem?_set_self (by omega), if_pos (by omega), ← hok]
        first | done | (congr 1; done) | (congr 1; omega)
       ·rw [List.getElem?_set_ne (by omega), hS j hj]
        by_cases hc : j < i ∨ o.length - i ≤ j
        ·rw [if_pos hc, if_pos (by omega)]
        ·rw [if_neg hc, if_neg (by omega)]
     ·have hrev : S = o.reverse := by
       apply List.ext_getElem?
       intro j
       by_cases hj : j < o.length
       ·rw [hS j hj, List.getElem?_reverse hj]
        split
        ·rfl
        ·congr 1; omega
       ·rw [List.getElem?_eq_none (by omega), List.getElem?_eq_none (by simp; omega)]
      have hrd : RdS He (S.map u8V) (some ⟨b7, 0, none⟩) c7 := OwnS.rds (by rw [List.map_map]; exact ho7)
      obtain ⟨b8, o8, h8, hload⟩ := hrd.all (by intro h; rw [List.map_eq_nil_iff] at h; rw [h] at hSl; simp at hSl; omega)
      cases h8
      rw [List.length_map, hSl] at hload
      obtain ⟨t, hdb, ht⟩ := zgc (c := c7) (l := S) hload (by omega)
      have hcon := zgb (P := Tryd.prog) (src := 137) (dst := 9) (e := 5) (by kernel_rfl) (by kernel_rfl) (by kernel_rfl) hdb
      repeat' (first | refine EvC.seq ?_ | refine EvC.scope ?_ | refine EvC.block ?_ | (refine EvC.skip ?_) | (refine EvC.exit ?_; try simp only [sB]) | (refine EvC.ret ?_; try simp only [z01, z00]) | (refine EvC.reg ?_; simp (disch := first | omega | rfl) only [sB, Nat.reduceEqDiff, g7, g10, g11, hcon, decide_eq_false]) | (refine EvC.condT ?_ ?_; simp (disch := first | omega | rfl) only [sB, Nat.reduceEqDiff]; refine z04 ?_) | (refine EvC.condF ?_ ?_; simp (disch := first | omega | rfl) only [sB, Nat.reduceEqDiff]; refine z04 ?_))
      refine z2p rfl (by simp only [sG, Nat.reduceEqDiff] <;> rfl) (by simp only [sG, Nat.reduceEqDiff] <;> rfl) ⟨⟨t, rfl, ?_⟩, (hx0.trans hx13).trans hxc⟩
      unfold bl
      rw [ht, List.map_map, htx, ← hrev]
      have : ∀ l : List Nat, (∀ y ∈ l, y < 256) → l.map (UInt8.toNat ∘ UInt8.ofNat) = l := by
       intro l hl
       conv => rhs; rw [← List.map_id l]
       apply List.map_congr_left
       intro y hy
       have := hl y hy
       simp [UInt8.toNat_ofNat]
       omega
      exact this S fun y hy => hob y (by rw [hrev] at hy; exact List.mem_reverse.1 hy)
    ·refine ⟨_, o, 0, _, rfl, rfl, by omega, rfl, fun j hj => ?_, hxc, ho7, (by simp only [sG, Nat.reduceEqDiff, g7] <;> rfl), (by simp only [sB, Nat.reduceEqDiff] <;> rfl), by simp only [sB, Nat.reduceEqDiff]; congr 1; omega⟩
     rw [if_neg (by omega)]
   ·have hM1 : 0 < M.length := List.length_pos_iff.2 hM0
    have hvM := zex (B := 4294967296) (by omega) hM0 hMn
    obtain ⟨b6, c6, ho6, rfl⟩ := hr6.own (by simpa using hM0)
    rw [List.length_map] at g6
    repeat' (first | refine EvC.seq ?_ | refine EvC.scope ?_ | refine EvC.block ?_ | (refine EvC.skip ?_; try simp only [z02]) | (refine EvC.exit ?_) | (refine EvC.ret ?_; try simp only [z01, z00]) | (refine EvC.reg ?_; simp (disch := first | omega | rfl) only [sB, Nat.reduceEqDiff, z5e, g6, decide_eq_true, z0c]) | (refine EvC.condT ?_ ?_; simp (disch := first | omega | rfl) only [sB, Nat.reduceEqDiff]; refine z04 ?_))
    refine EvC.loop (fun k st => ∃ tm q r Hd, st = ⟨tm, [], Hd⟩ ∧ k ≤ M.length ∧ q.length = M.length - k ∧ (∀ y ∈ q, y < 4294967296) ∧ r < 10 ∧ valB 4294967296 (M.take k) + 4294967296 ^ k * (10 * valB 4294967296 q + r) = valB 4294967296 M ∧ HX H3 Hd ∧
     OwnS Hd 132 1 H3.next ((M.take k ++ q).map fun x => [u32V x]) b6 c6 ∧ RepO Hd 5 1 H3.next (od.map fun x => [u8V (48 + x)]) v7 ∧ tm.get 1 = some (.int .i64 10) ∧ tm.get 2 = some (.pointer (some ⟨H.next, 0, none⟩)) ∧
     tm.get 6 = some (.slice (some ⟨b6, 0, none⟩) M.length c6) ∧ tm.get 7 = some v7 ∧ tm.get 8 = some (.int .u32 (r : Nat)) ∧ tm.get 9 = some (.int .i64 ((k : Int) - 1))) ?_ M.length _ ?_
    ·clear g1 g2 g6 g7 hxc hr6 hr7 ho6 tm
     rintro k st ⟨tm, q, r, Hd, rfl, hk, hq, hqb, hr, hinv, hxc, ho6, hr7, g1, g2, g6, g7, g8, g9⟩
     cases k with
     | zero =>
      rw [List.take_zero, List.nil_append] at ho6
      simp only [List.take_zero, valB, Nat.pow_zero, Nat.one_mul, Nat.zero_add] at hinv
      have hqM : q.length = M.length := by omega
      repeat' (first | refine EvC.seq ?_ | refine EvC.scope ?_ | refine EvC.block ?_ | (refine EvC.skip ?_) | (refine EvC.exit ?_; try simp only [sB, Nat.reduceEqDiff, reduceCtorEq]) | (refine EvC.ret ?_; try simp only [z01, z00]) | (refine EvC.reg ?_; simp (disch := first | omega | rfl) only [sB, Nat.reduceEqDiff, cl94, g6, g9, decide_eq_false]) | (refine EvC.condT ?_ ?_; simp (disch := first | omega | rfl) only [sB, Nat.reduceEqDiff]; refine z04 ?_) | (refine EvC.condF ?_ ?_; simp (disch := first | omega | rfl) only [sB, Nat.reduceEqDiff]; refine z04 ?_))
      have hrq : RdS Hd (q.map u32V) (some ⟨b6, 0, none⟩) c6 := OwnS.rds (by rw [List.map_map]; exact ho6)
      rw [← hqM]
      refine (z9y (fun _ _ => rfl) (by decide) hrq).mono ?_
      rintro v H' ⟨m, rfl, hm, hz, hn0, rfl⟩
      have hmost : od.length + 1 ≤ most := by
       have := z8z (e := mostBits) hvM (hle hM0) (by rw [← zbl]; exact hn)
       simp [mostBits] at this
       simp [most]; omega
      obtain ⟨H5, v5, hap, hr7b, hn5, hx5, hk5⟩ := hr7.push zoc (y := [u8V (48 + r)]) rfl rfl (by simpa using hmost) hxc.next
      unfold u8V at hap
      repeat' (first | refine EvC.seq ?_ | refine EvC.scope ?_ | refine EvC.block ?_ | (refine EvC.skip ?_) | (refine EvC.exit ?_) | (refine EvC.ret ?_; try simp only [z01, z00]) | (refine EvC.reg ?_; simp (disch := first | omega | rfl) only [sB, Nat.reduceEqDiff, g7, g8]))
      rw [z2r us9 (show r < _ from by show _ < 36; omega), zn7 (by decide) hr]
      repeat' (first | refine EvC.seq ?_ | refine EvC.scope ?_ | refine EvC.block ?_ | (refine EvC.skip ?_) | (refine EvC.exit ?_) | (refine EvC.ret ?_; try simp only [z01, z00]) | (refine z0q ?_; simp (disch := first | omega | rfl) only [sB, Nat.reduceEqDiff, Value.cells, one, layC, zi7, hap]))
      have hvq : valB 4294967296 (q.take m) = valB 4294967296 q := z7p hz
      have hq10 : valB 4294967296 q = valB 4294967296 M / 10 := by omega
      have hr10 : r = valB 4294967296 M % 10 := by omega
      have hod2 : ((od ++ [r]).map fun x => [u8V (48 + x)]) = (od.map fun x => [u8V (48 + x)]) ++ [[u8V (48 + r)]] := by simp
      have ho7 : RepO H5 132 1 H3.next ((q.take m).map fun x => [u32V x]) (.slice (some ⟨b6, 0, none⟩) m c6) := by
       have h1 := RepO.takeO ho6 m (by simpa using hm)
       rw [← List.map_take] at h1
       exact h1.beside hk5 (by omega) (by decide)
      refine ⟨valB 4294967296 (q.take m), by rw [hvq]; omega, _, q.take m, od ++ [r], _, _, _, rfl, rfl, fun y hy => hqb y (List.mem_of_mem_take hy), by rw [List.length_take]; omega, ?_, ?_, ?_, ?_, ?_, hx5 _ hxc (Nat.le_refl _), ho7, by rw [hod2]; exact hr7b, (by simp only [sG, Nat.reduceEqDiff, g1] <;> rfl), (by simp only [sG, Nat.reduceEqDiff, g2] <;> rfl), (by simp only [sG, Nat.reduceEqDiff] <;> rfl), (by simp only [sG, Nat.reduceEqDiff] <;> rfl)⟩
      ·rw [List.getLast?_eq_getElem?, List.length_take, Nat.min_eq_left hm]
       by_cases h0 : m = 0
       ·subst h0; simp
       ·rw [List.getElem?_take, if_pos (by omega)]; exact hn0 h0
      ·rw [hdec, zeu hvM, hvq, hq10, ← hr10]; simp
      ·intro _
       rw [hvq, List.length_append, List.length_singleton, Nat.pow_succ]
       have h1 := hle hM0
       have h2 : valB 4294967296 q * (10 ^ od.length * 10) = (valB 4294967296 q * 10) * 10 ^ od.length := by rw [Nat.mul_comm (10 ^ od.length) 10, Nat.mul_assoc]
       rw [h2]
       exact Nat.le_trans (Nat.mul_le_mul_right _ (by omega)) h1
      ·have := z8z (e := mostBits) hvM (hle hM0) (by rw [← zbl]; exact hn)
       simp [mostBits] at this
       simp; omega
      ·intro y hy
       rcases List.mem_append.1 hy with h | h
       ·exact hod y h
       ·simp at h; omega
     | succ j =>
      have e0 : (((j + 1 : Nat) : Int) - 1) = (j : Int) := by omega
      rw [e0] at g9
      have hx : M[j]? = some M[j] := List.getElem?_eq_getElem (by omega)
      have hxb : M[j] < 4294967296 := hMb _ (List.getElem_mem _)
      have htk : M.take (j + 1) = M.take j ++ [M[j]] := by rw [List.take_add_one, hx]; rfl
      generalize M[j] = x at hx hxb htk
      rw [htk] at hinv ho6
      have hlj : (M.take j).length = j := by rw [List.length_take]; omega
      have hlm : (((M.take j ++ [x]) ++ q).map fun x => [u32V x]).length = M.length := by simp; omega
      have hld := ho6.load (i := j) (x := [u32V x]) (by rw [List.append_assoc, List.getElem?_map, List.getElem?_append_right (by omega), hlj]; simp)
      rw [Nat.mul_one] at hld
      unfold u32V at hld
      repeat' (first | refine EvC.seq ?_ | refine EvC.scope ?_ | refine EvC.block ?_ | (refine EvC.skip ?_; try simp only [z02]) | (refine EvC.exit ?_) | (refine EvC.ret ?_; try simp only [z01, z00]) | (refine EvC.reg ?_; simp (disch := first | omega | rfl) only [sB, Nat.reduceEqDiff, zge, zi5, zn0, cl95, g1, g6, g8, g9, hld, decide_eq_true, wrap_u32]) | (refine EvC.condT ?_ ?_; simp (disch := first | omega | rfl) only [sB, Nat.reduceEqDiff]; refine z04 ?_))
      refine (zkn (fun _ _ => rfl) (by decide) hr hxb hxc.wf).mono ?_
      rintro v H' ⟨rfl, hxd⟩
      have ho6' := ho6.keep hxd
      have hr7' := hr7.keep hxd
      obtain ⟨cs, hgb, hcl, _⟩ := ho6'.row
      rw [hlm, Nat.mul_one] at hcl
      have hk1 : j + 1 ≤ cs.length := by omega
      repeat' (first | refine EvC.seq ?_ | refine EvC.scope ?_ | refine EvC.block ?_ | (refine EvC.skip ?_) | (refine EvC.exit ?_) | (refine EvC.ret ?_; try simp only [z01, z00]) | (refine EvC.reg ?_; simp (disch := first | omega | rfl) only [sB, Nat.reduceEqDiff, g9, z0c]) | (refine z0q ?_; simp (disch := first | omega | rfl) only [sB, Nat.reduceEqDiff, one, zge, zoa, hgb, hk1]))
      have hset := ho6'.set hgb (i := j) (y := [u32V ((r * 4294967296 + x) / 10)]) (by rw [hlm]; omega) rfl rfl
      rw [Nat.mul_one] at hset
      have hset2 : (((M.take j ++ [x]) ++ q).map fun x => [u32V x]).set j [u32V ((r * 4294967296 + x) / 10)] = (M.take j ++ ((r * 4294967296 + x) / 10 :: q)).map fun x => [u32V x] := by
       rw [List.append_assoc, List.map_append, List.set_append_right _ _ (by rw [List.length_map, hlj]; exact Nat.le_refl _), List.length_map, hlj, Nat.sub_self]
       simp
      rw [hset2] at hset
      have hinv2 := zn4 (B := 4294967296) (x := x) (r := r) (low := M.take j) (q := q)
      rw [hlj] at hinv2
      refine ⟨j, by omega, _, (r * 4294967296 + x) / 10 :: q, (r * 4294967296 + x) % 10, _, rfl, by omega, by simp; omega, ?_, by omega, by rw [← hinv2]; exact hinv, (hxc.trans hxd).put ho6'.lo ho6'.hi _, hset, hr7'.other hgb (by decide) _, (by simp only [sG, Nat.reduceEqDiff, g1] <;> rfl), (by simp only [sG, Nat.reduceEqDiff, g2] <;> rfl), (by simp only [sG, Nat.reduceEqDiff, g6] <;> rfl), (by simp only [sG, Nat.reduceEqDiff, g7] <;> rfl), (by simp only [sG, Nat.reduceEqDiff] <;> rfl), (by simp only [sG, Nat.reduceEqDiff] <;> rfl)⟩
      intro y hy
      rcases List.mem_cons.1 hy with h | h
      ·rw [h]; exact zkk hxb hr
      ·exact hqb y h
    ·exact ⟨_, [], 0, _, rfl, Nat.le_refl _, by simp, by simp, by omega, by simp [valB], hxc, by simpa using ho6, hr7, (by simp only [sG, Nat.reduceEqDiff, g1] <;> rfl), (by simp only [sG, Nat.reduceEqDiff, g2] <;> rfl), (by simp only [sG, Nat.reduceEqDiff, g6] <;> rfl), (by simp only [sG, Nat.reduceEqDiff, g7] <;> rfl), (by simp only [sB, Nat.reduceEqDiff] <;> rfl), (by simp only [sG, Nat.reduceEqDiff] <;> rfl)⟩
  ·exact ⟨_, M0, [], .slice (some ⟨b, 0, none⟩) M0.length c2, _, _, rfl, rfl, hLm, by omega, hlast, by rw [hvm]; rfl, fun _ => by rw [hvm]; simp, by simp, by simp, hx4, .inr ⟨b, c2, ho, by simp⟩, RepO.empty, (by simp only [sG, Nat.reduceEqDiff, reduceCtorEq] <;> rfl), (by simp only [sG, Nat.reduceEqDiff, reduceCtorEq] <;> rfl), (by simp only [sG, Nat.reduceEqDiff, reduceCtorEq] <;> rfl), (by simp only [sG, Nat.reduceEqDiff, reduceCtorEq] <;> rfl)⟩
def bitsOK (L : List Nat) : Prop := (∀ y ∈ L, y < 2) ∧ L.getLast? ≠ some 0
end Go.Proofs.hq
end

section
namespace Go.Proofs.hq
open Go Go.RowKit Go.Hb
theorem zm8 : callable Tryd.prog 51 = true := by kernel_rfl
theorem z9z : isAgg? Tryd.prog 25 = some true := by kernel_rfl
theorem zkp : isAgg? Tryd.prog 23 = some false := by kernel_rfl
theorem z3k : Tryd.prog.cellsOf 25 = 6 := by kernel_rfl
theorem zey : (Tryd.prog.info? 25).isSome = true := by kernel_rfl
theorem z7q : fldOf Tryd.prog 25 5 = some (5, 23) := by kernel_rfl
theorem zif : Nat.beq (Tryd.prog.cellsOf 23) 0 = false := by kernel_rfl
theorem zm9 : zerosOf Tryd.prog 25 = some [.int .i64 0, .string ByteArray.empty, .string ByteArray.empty, .int .u64 0, .int .i64 0, .slice none 0 0] := by kernel_rfl
mutual
def cnt : Tm → Nat → Nat
 | .mk _ _ _ _ _ l, n => cntL l (n + 1)
def cntL : List Tm → Nat → Nat
 | [], n => n
 | t :: l, n => if 4000 < n then n else cntL l (cnt t n)
end
theorem zez {t : Tm} {k : Int} {s u : ByteArray} {b v : Int} {l : List Tm} (h : t ∈ l) : SizeOf.sizeOf t < SizeOf.sizeOf (Tm.mk k s u b v l) := by
 have := List.sizeOf_lt_of_mem h
 simp; omega
theorem z1v {t u : Tm} {i : Nat} (h : t.args[i]? = some u) : SizeOf.sizeOf u < SizeOf.sizeOf t := by
 obtain ⟨k, s, w, b, v, l⟩ := t
 exact zez (List.mem_of_getElem? h)
theorem z4c (t : Tm) (n : Nat) : cnt t n = cntL t.args (n + 1) := by
 obtain ⟨k, s, w, b, v, l⟩ := t
 rw [cnt]; rfl
theorem zig : ∀ (l : List Tm), (∀ t ∈ l, ∀ n, n ≤ 4000 → cnt t n ≤ 4001) → ∀ n, n ≤ 4001 → cntL l n ≤ 4001
 | [], _, n, h => by rw [cntL]; exact h
 | t :: l, ht, n, h => by
  rw [cntL]
  split
  ·exact h
  ·exact zig l (fun u hu => ht u (List.mem_cons_of_mem _ hu)) _ (ht t (by simp) n (by omega))
theorem zf0 : ∀ (m : Nat) (t : Tm), SizeOf.sizeOf t < m → ∀ n, n ≤ 4000 → cnt t n ≤ 4001
 | 0, t, h, _, _ => by omega
 | m + 1, t, h, n, hn => by
  rw [z4c]
  refine zig _ (fun u hu k hk => zf0 m u ?_ k hk) _ (by omega)
  obtain ⟨i, hi, e⟩ := List.getElem_of_mem hu
  have := z1v (t := t) (u := u) (i := i) (by rw [List.getElem?_eq_getElem hi, e])
  omega
theorem zih {l : List Tm} {i : Nat} {t : Tm} (h : l[i]? = some t) (n : Nat) (hn : n ≤ 4000) : cntL (l.drop i) n = cntL (l.drop (i + 1)) (cnt t n) := by
 have hlt := (List.getElem?_eq_some_iff.1 h).1
 have he : l[i] = t := (List.getElem?_eq_some_iff.1 h).2
 rw [List.drop_eq_getElem_cons hlt, cntL, if_neg (by omega), he]
theorem zii {l : List Tm} {n : Nat} (hn : 4000 < n) : cntL l n = n := by
 cases l with
 | nil => rw [cntL]
 | cons t l => rw [cntL, if_pos hn]
variable {ok : Ok}
set_option maxRecDepth 10000 in
theorem zkq (hk : ∀ args H, ok.K 51 args H = none) (hm : ok.testBit 51 = true) : ∀ (m : Nat) {t : Tm} {cs : List Value} {H : Heap}, SizeOf.sizeOf t < m → RepT H t cs → H.wf → ∀ n : Nat, n ≤ 4000 →
  EvF Tryd.prog ok 51 [.agg ⟨cs⟩, .int .i64 n] H fun v H' => v = .int .i64 (cnt t n) ∧ HX H H' := by
 intro m
 induction m with
 | zero => intro t cs H h; omega
 | succ m ih =>
 intro t cs H hsz r hw n hn
 obtain ⟨a, c, cells, rfl, b1, b2, b3, b4, b5, rl⟩ := r.inv
 refine EvF.enter (hk _ _) Tryd.func51 hm rfl ?_
 refine EvC.seq (EvC.reg ?_)
 simp (disch := omega) only [sB, initTm, dBox, Value.cells, one, reduceCtorEq]
 refine EvC.seq (EvC.reg ?_)
 simp (disch := omega) only [sB, Nat.reduceEqDiff, reduceCtorEq, z0c]
 refine EvC.seq (EvC.seq (EvC.reg ?_))
 simp (disch := omega) only [sB, Nat.reduceEqDiff, reduceCtorEq, cutC, z05 z7q zif, z09 zkp, z1a Tryd.underlying23]
 refine EvC.block (EvC.loop (fun k st => ∃ tm H' i n', st = ⟨tm, [], H'⟩ ∧ k = t.args.length - i ∧ i ≤ t.args.length ∧ n' ≤ 4001 ∧ cntL (t.args.drop i) n' = cnt t n ∧ tm.get 1 = some (.int .i64 (n' : Nat)) ∧
  tm.get 10 = some (.slice a t.args.length c) ∧ tm.get 11 = some (.int .i64 t.args.length) ∧ tm.get 12 = some (.int .i64 (i : Nat)) ∧ HX H H') ?_ t.args.length _ ?_)
 ·rintro k st ⟨tm, H', i, n', rfl, hk', hi, hn', hc, g1, g10, g11, g12, hx⟩
  refine EvC.seq (EvC.reg ?_)
  simp (disch := omega) only [sA, g11, g12]
  refine EvC.seq ?_
  by_cases hlt : i < t.args.length
  ·refine EvC.condT (by simp only [sB]; exact congrArg _ (decide_eq_true (by omega))) (EvC.skip ?_)
   obtain ⟨b, o, rfl, hload, hrep⟩ := rl.at (i := i) (List.getElem?_eq_getElem hlt)
   obtain ⟨a', c', cells', hcell, -⟩ := hrep.inv
   have hld := hx.load hw hload
   rw [hcell] at hld hrep
   refine EvC.seq (EvC.block (EvC.seq (EvC.reg ?_)))
   simp (disch := omega) only [sB, dAlloc, Nat.reduceEqDiff, Nat.reduceAdd, one, g10, g12, z2f Tryd.underlying23 zey hlt, z1i z9z, z3k, hld, zm9, z5w zey]
   refine EvC.seq (EvC.seq (EvC.reg ?_))
   simp (disch := omega) only [sB, Nat.reduceEqDiff, g1]
   have hx2 := (hx.new (some (Blk.row [Value.int IntKind.i64 0, Value.string ByteArray.empty, Value.string ByteArray.empty, Value.int IntKind.u64 0, Value.int IntKind.i64 0, Value.slice none 0 0] 25))).put (i := H'.next) hx.next (Nat.lt_succ_self _)
    (some (.row [Value.int IntKind.i64 t.args[i].kind, Value.string t.args[i].name, Value.string t.args[i].num, Value.int IntKind.u64 t.args[i].bits, Value.int IntKind.i64 t.args[i].var, Value.slice a' t.args[i].args.length c'] 25))
   by_cases hov : 4000 < n'
   ·refine EvC.condT (by simp only [sB, Nat.reduceEqDiff]; exact congrArg _ (decide_eq_true (by omega))) (EvC.exit ?_)
    simp only [z47, z2u, reduceIte, Nat.reduceEqDiff, z02]
    refine EvC.seq (EvC.reg ?_)
    simp (disch := omega) only [sB, Nat.reduceEqDiff, g1]
    refine EvC.ret (z06 rfl (by simp only [sG, Nat.reduceEqDiff]; rfl) ⟨?_, hx2⟩)
    rw [← hc, zii hov]
   ·refine EvC.condF (by simp only [sB, Nat.reduceEqDiff]; exact congrArg _ (decide_eq_false (by omega))) (EvC.skip ?_)
    simp only [z02]
    refine EvC.reg ?_
    simp (disch := omega) only [sB, Nat.reduceEqDiff, Nat.reduceAdd, cutC, g1, z1i z9z, z3k, z08 zm8]
    have ht : t.args[i]? = some t.args[i] := List.getElem?_eq_getElem hlt
    have hs := z1v ht
    have hx1 : HX H H' := hx
    refine (ih (t := t.args[i]) (by omega) (hrep.mono hx2 hw) hx2.wf n' (by omega)).mono ?_
    rintro v H2 ⟨rfl, hx3⟩
    have hL : t.args.length ≤ 9223372036854775807 := Nat.le_trans rl.len rl.cap
    refine EvC.reg ?_
    simp (disch := omega) only [sB, Nat.reduceEqDiff, g12, z0c]
    refine ⟨t.args.length - (i + 1), by omega, _, _, i + 1, cnt t.args[i] n', rfl, rfl, by omega, zf0 _ _ (Nat.lt_succ_self _) _ (by omega), by rw [← hc, zih ht _ (by omega)], by simp only [sG, Nat.reduceEqDiff], by simp only [sG, Nat.reduceEqDiff]; exact g10, by simp only [sG, Nat.reduceEqDiff]; exact g11, by simp only [sG, Nat.reduceEqDiff]; rfl, hx2.trans hx3⟩
  ·refine EvC.condF (by simp only [sB]; exact congrArg _ (decide_eq_false (by omega))) (EvC.exit ?_)
   simp only [z47, z2u, reduceIte, Nat.reduceEqDiff, z02]
   refine EvC.seq (EvC.reg ?_)
   simp (disch := omega) only [sB, Nat.reduceEqDiff, g1]
   refine EvC.ret (z06 rfl (by simp only [sG, Nat.reduceEqDiff]; rfl) ⟨?_, hx⟩)
   rw [← hc, List.drop_of_length_le (by omega), cntL]
 ·exact ⟨_, _, 0, n + 1, rfl, rfl, by omega, by omega, by rw [z4c]; rfl, by simp only [sG, Nat.reduceEqDiff, reduceCtorEq]; rfl, by simp only [sG, Nat.reduceEqDiff, reduceCtorEq], by simp only [sG, Nat.reduceEqDiff, reduceCtorEq], by simp only [sG, Nat.reduceEqDiff, reduceCtorEq]; rfl, (HX.refl hw).new _⟩
end Go.Proofs.hq
end

section
namespace Go.Proofs.hq
open Go Go.RowKit Go.Hb
theorem zoi : callable Tryd.prog 28 = true := by kernel_rfl
variable {ok : Ok}
theorem zkr (hk : ∀ f args H, (f = 51 ∨ f = 28) → ok.K f args H = none) (hm : ok.testBit 51 = true) (hm2 : ok.testBit 28 = true) {t : Tm} {cs : List Value} {H : Heap} (r : RepT H t cs) (hw : H.wf) :
  EvF Tryd.prog ok 28 [.agg ⟨cs⟩] H fun v H' => v = .int .i64 (cnt t 0) ∧ HX H H' := by
 obtain ⟨a, c, cells, rfl, b1, b2, b3, b4, b5, rl⟩ := r.inv
 refine EvF.enter (hk _ _ _ (.inr rfl)) Tryd.func28 hm2 rfl ?_
 (repeat refine EvC.seq ?_); refine EvC.reg ?_
 simp (disch := omega) only [sB, initTm, dBox, Value.cells, one]
 (repeat refine EvC.seq ?_); refine EvC.reg ?_
 simp (disch := omega) only [sB, Nat.reduceEqDiff, Nat.reduceAdd, reduceCtorEq, cutC, z1i z9z, z3k, z08 zm8]
 have hx := (HX.refl hw).new (some (Blk.row [Value.int IntKind.i64 t.kind, Value.string t.name, Value.string t.num, Value.int IntKind.u64 t.bits, Value.int IntKind.i64 t.var, Value.slice a t.args.length c] 25))
 refine (zkq (hk 51 · · (.inl rfl)) hm _ (Nat.lt_succ_self _) (r.mono hx hw) hx.wf 0 (by omega)).mono ?_
 rintro v H2 ⟨rfl, hx3⟩
 have hle := zf0 _ t (Nat.lt_succ_self _) 0 (by omega)
 have hif : (if (4001 : Int) < (cnt t 0 : Int) then (4001 : Int) else (cnt t 0 : Int)) = (cnt t 0 : Int) := if_neg (by omega)
 simp (disch := omega) only [sB, Nat.reduceEqDiff, reduceCtorEq, zmv, zmw, hif]
 exact EvC.ret (z06 rfl (by simp only [sG, Nat.reduceEqDiff, reduceCtorEq]) ⟨rfl, hx.trans hx3⟩)
end Go.Proofs.hq
end

section
namespace Go.Proofs.hq
open Go Go.RowKit Go.Hb
theorem z2y : fldOf Tryd.prog 25 0 = some (0, 3) := by kernel_rfl
theorem z2z : fldOf Tryd.prog 25 1 = some (1, 9) := by kernel_rfl
theorem z62 : fldOf Tryd.prog 25 2 = some (2, 9) := by kernel_rfl
theorem z4w : fldOf Tryd.prog 25 3 = some (3, 22) := by kernel_rfl
theorem z7r : fldOf Tryd.prog 25 4 = some (4, 3) := by kernel_rfl
theorem one3 : Nat.beq (Tryd.prog.cellsOf 3) 0 = false := by kernel_rfl
theorem one9 : Nat.beq (Tryd.prog.cellsOf 9) 0 = false := by kernel_rfl
theorem zd8 : Nat.beq (Tryd.prog.cellsOf 22) 0 = false := by kernel_rfl
theorem zbo : Tryd.prog.cellsOf 3 = 1 := by kernel_rfl
theorem zf1 : Tryd.prog.cellsOf 9 = 1 := by kernel_rfl
theorem zn9 : Tryd.prog.cellsOf 22 = 1 := by kernel_rfl
theorem zna : Tryd.prog.cellsOf 23 = 1 := by kernel_rfl
theorem agg3 : isAgg? Tryd.prog 3 = some false := by kernel_rfl
theorem agg9 : isAgg? Tryd.prog 9 = some false := by kernel_rfl
theorem zgh : isAgg? Tryd.prog 22 = some false := by kernel_rfl
theorem zpb : (Tryd.prog.info? 3).isSome = true := by kernel_rfl
theorem znb : (Tryd.prog.info? 9).isSome = true := by kernel_rfl
theorem zoj : (Tryd.prog.info? 22).isSome = true := by kernel_rfl
theorem zok : (Tryd.prog.info? 23).isSome = true := by kernel_rfl
theorem z1c : ByteArray.toList { data := #[] } = [] := by
 rw [ByteArray.toList, ByteArray.toList.loop]; rfl
def isE (s : ByteArray) : Bool := s.toList == []
def blankB (t : Tm) : Bool :=
 (t.kind == 2 || t.kind == 5 || isE t.name) && (t.kind == 3 || isE t.num) && (t.kind == 4 || t.bits == 0) && (t.kind == 1 || t.var == 0) && (t.kind == 5 || (t.args.length : Int) == 0)
variable {ok : Ok}
set_option maxRecDepth 10000 in
set_option maxHeartbeats 2000000 in
theorem zks (hk : ∀ args H, ok.K 74 args H = none) (hm : ok.testBit 74 = true) {t : Tm} {cs : List Value} {H : Heap} (r : RepT H t cs) (hw : H.wf) :
  EvF Tryd.prog ok 74 [.agg ⟨cs⟩] H fun v H' => v = .bool (blankB t) ∧ HX H H' := by
 obtain ⟨a, c, cells, rfl, b1, b2, b3, b4, b5, rl⟩ := r.inv
 refine EvF.enter (hk _ _) Tryd.func74 hm rfl ?_
 (repeat refine EvC.seq ?_); refine EvC.reg ?_
 simp (disch := omega) only [sB, initTm, dBox, Value.cells, one]
 (repeat refine EvC.seq ?_); refine EvC.reg ?_
 simp (disch := omega) only [sB, Nat.reduceEqDiff, reduceCtorEq, cutC, z05 z2y one3, z09 agg3]
 refine EvC.meet (fun st => ∃ tm H' nm nu b v a n c, st = ⟨tm, [], H'⟩ ∧ tm.get 1 = some (.pointer (some ⟨H.next, 0, none⟩)) ∧ H'.get H.next = some (.row [.int .i64 t.kind, .string nm, .string nu, .int .u64 b, .int .i64 v, .slice a n c] 25) ∧
  HX H H' ∧ (isE nm && isE nu && b == 0 && v == 0 && (n : Int) == 0) = blankB t) ?_ ?_
 ·refine EvC.block ?_
  have hx0 := (HX.refl hw).new (some (Blk.row [Value.int IntKind.i64 t.kind, Value.string t.name, Value.string t.num, Value.int IntKind.u64 t.bits, Value.int IntKind.i64 t.var, Value.slice a t.args.length c] 25))
  have hxp : ∀ B, HX H ((H.new (some (Blk.row [Value.int IntKind.i64 t.kind, Value.string t.name, Value.string t.num, Value.int IntKind.u64 t.bits, Value.int IntKind.i64 t.var, Value.slice a t.args.length c] 25))).put H.next B) := fun B => hx0.put (Nat.le_refl _) (Nat.lt_succ_self _) B
  (repeat refine EvC.seq ?_); refine EvC.reg ?_
  simp (disch := omega) only [sB, Nat.reduceEqDiff, reduceCtorEq]
  by_cases k1 : t.kind = 1
  ·refine EvC.condT (by simp only [sB, Nat.reduceEqDiff, reduceCtorEq]; rw [k1]; rfl) ?_
   (repeat refine EvC.seq ?_); refine EvC.reg ?_
   simp (disch := omega) only [sB, Nat.reduceEqDiff, Nat.reduceAdd, one, reduceCtorEq, Nat.reduceLeDiff, z05 z7r one3, z36 zpb zbo]
   exact ⟨_, _, t.name, t.num, t.bits, 0, a, t.args.length, c, rfl, by simp only [sG, Nat.reduceEqDiff, reduceCtorEq], by simp only [sB], hxp _, by simp [blankB, k1]⟩
  refine EvC.condF (by simp only [sB, Nat.reduceEqDiff, reduceCtorEq]; rw [show (t.kind == 1) = false by simpa using k1]) ?_
  (repeat refine EvC.seq ?_); refine EvC.reg ?_
  simp (disch := omega) only [sB, Nat.reduceEqDiff, reduceCtorEq]
  by_cases k2 : t.kind = 2
  ·refine EvC.condT (by simp only [sB, Nat.reduceEqDiff, reduceCtorEq]; rw [k2]; rfl) ?_
   (repeat refine EvC.seq ?_); refine EvC.reg ?_
   simp (disch := omega) only [sB, Nat.reduceEqDiff, Nat.reduceAdd, one, reduceCtorEq, Nat.reduceLeDiff, z05 z2z one9, z3h znb zf1]
   exact ⟨_, _, ByteArray.empty, t.num, t.bits, t.var, a, t.args.length, c, rfl, by simp only [sG, Nat.reduceEqDiff, reduceCtorEq], by simp only [sB]; rfl, hxp _, by simp [blankB, k2, isE]⟩
  refine EvC.condF (by simp only [sB, Nat.reduceEqDiff, reduceCtorEq]; rw [show (t.kind == 2) = false by simpa using k2]) ?_
  (repeat refine EvC.seq ?_); refine EvC.reg ?_
  simp (disch := omega) only [sB, Nat.reduceEqDiff, reduceCtorEq]
  by_cases k3 : t.kind = 3
  ·refine EvC.condT (by simp only [sB, Nat.reduceEqDiff, reduceCtorEq]; rw [k3]; rfl) ?_
   (repeat refine EvC.seq ?_); refine EvC.reg ?_
   simp (disch := omega) only [sB, Nat.reduceEqDiff, Nat.reduceAdd, one, reduceCtorEq, Nat.reduceLeDiff, z05 z62 one9, z3h znb zf1]
   exact ⟨_, _, t.name, ByteArray.empty, t.bits, t.var, a, t.args.length, c, rfl, by simp only [sG, Nat.reduceEqDiff, reduceCtorEq], by simp only [sB]; rfl, hxp _, by simp [blankB, k3, isE]⟩
  refine EvC.condF (by simp only [sB, Nat.reduceEqDiff, reduceCtorEq]; rw [show (t.kind == 3) = false by simpa using k3]) ?_
  (repeat refine EvC.seq ?_); refine EvC.reg ?_
  simp (disch := omega) only [sB, Nat.reduceEqDiff, reduceCtorEq]
  by_cases k4 : t.kind = 4
  ·refine EvC.condT (by simp only [sB, Nat.reduceEqDiff, reduceCtorEq]; rw [k4]; rfl) ?_
   (repeat refine EvC.seq ?_); refine EvC.reg ?_
   simp (disch := omega) only [sB, Nat.reduceEqDiff, Nat.reduceAdd, one, reduceCtorEq, Nat.reduceLeDiff, z05 z4w zd8, z36 zoj zn9]
   exact ⟨_, _, t.name, t.num, 0, t.var, a, t.args.length, c, rfl, by simp only [sG, Nat.reduceEqDiff, reduceCtorEq], by simp only [sB], hxp _, by simp [blankB, k4]⟩
  refine EvC.condF (by simp only [sB, Nat.reduceEqDiff, reduceCtorEq]; rw [show (t.kind == 4) = false by simpa using k4]) ?_
  (repeat refine EvC.seq ?_); refine EvC.reg ?_
  simp (disch := omega) only [sB, Nat.reduceEqDiff, reduceCtorEq]
  by_cases k5 : t.kind = 5
  ·refine EvC.condT (by simp only [sB, Nat.reduceEqDiff, reduceCtorEq]; rw [k5]; rfl) ?_
   (repeat refine EvC.seq ?_); refine EvC.reg ?_
   simp (disch := omega) only [sB, Nat.reduceEqDiff, Nat.reduceAdd, one, reduceCtorEq, Nat.reduceLeDiff, z05 z2z one9, z05 z7q zif, z3h znb zf1, z2v zok zna]
   exact ⟨_, _, ByteArray.empty, t.num, t.bits, t.var, none, 0, 0, rfl, by simp only [sG, Nat.reduceEqDiff, reduceCtorEq], by simp only [sB]; rfl, (hxp _).put (Nat.le_refl _) (Nat.lt_succ_self _) _, by simp [blankB, k5, isE]⟩
  refine EvC.condF (by simp only [sB, Nat.reduceEqDiff, reduceCtorEq]; rw [show (t.kind == 5) = false by simpa using k5]) (EvC.skip ?_)
  exact ⟨rfl, _, _, t.name, t.num, t.bits, t.var, a, t.args.length, c, rfl, by simp only [sG, Nat.reduceEqDiff, reduceCtorEq], by simp only [if_true, get_new], hx0, by simp [blankB, show (t.kind == 1) = false by simpa using k1, show (t.kind == 2) = false by simpa using k2, show (t.kind == 3) = false by simpa using k3, show (t.kind == 4) = false by simpa using k4, show (t.kind == 5) = false by simpa using k5]⟩
 ·rintro st ⟨tm, H', nm, nu, b, v, a, n, c, rfl, g1, hrow, hx, hres⟩
  simp only [z02]
  have l1 : H'.load ⟨H.next, 1, none⟩ 1 = some [.string nm] := by simp only [Heap.load, Heap.cells, hrow]; rfl
  have l2 : H'.load ⟨H.next, 2, none⟩ 1 = some [.string nu] := by simp only [Heap.load, Heap.cells, hrow]; rfl
  have l3 : H'.load ⟨H.next, 3, none⟩ 1 = some [.int .u64 b] := by simp only [Heap.load, Heap.cells, hrow]; rfl
  have l4 : H'.load ⟨H.next, 4, none⟩ 1 = some [.int .i64 v] := by simp only [Heap.load, Heap.cells, hrow]; rfl
  have l5 : H'.load ⟨H.next, 5, none⟩ 1 = some [.slice a n c] := by simp only [Heap.load, Heap.cells, hrow]; rfl
  (repeat refine EvC.seq ?_); refine EvC.reg ?_
  unfold isE at hres
  cases h1 : (nm.toList == []) with
  | false =>
   simp (disch := omega) only [sB, Nat.reduceEqDiff, z1j, g1, z05 z2z one9, z09 agg9, l1, z1c, h1, Bool.false_eq_true]
   exact EvC.ret (z06 rfl (by simp only [sG, Nat.reduceEqDiff]; rfl) ⟨by rw [← hres, h1]; rfl, hx⟩)
  | true =>
  cases h2 : (nu.toList == []) with
  | false =>
   simp (disch := omega) only [sB, Nat.reduceEqDiff, z1j, g1, z05 z2z one9, z05 z62 one9, z09 agg9, l1, l2, z1c, Bool.false_eq_true, h1, h2]
   exact EvC.ret (z06 rfl (by simp only [sG, Nat.reduceEqDiff]; rfl) ⟨by rw [← hres, h1, h2]; rfl, hx⟩)
  | true =>
  cases h3 : (b == 0) with
  | false =>
   simp (disch := omega) only [sB, Nat.reduceEqDiff, z1j, g1, z05 z2z one9, z05 z62 one9, z05 z4w zd8, z09 agg9, z09 zgh, l1, l2, l3, z1c, Bool.false_eq_true, h1, h2, h3]
   exact EvC.ret (z06 rfl (by simp only [sG, Nat.reduceEqDiff]; rfl) ⟨by rw [← hres, h1, h2, h3]; rfl, hx⟩)
  | true =>
  cases h4 : (v == 0) with
  | false =>
   simp (disch := omega) only [sB, Nat.reduceEqDiff, z1j, g1, z05 z2z one9, z05 z62 one9, z05 z4w zd8, z05 z7r one3, z09 agg9, z09 agg3, z09 zgh, l1, l2, l3, l4, z1c, Bool.false_eq_true, h1, h2, h3, h4]
   exact EvC.ret (z06 rfl (by simp only [sG, Nat.reduceEqDiff]; rfl) ⟨by rw [← hres, h1, h2, h3, h4]; rfl, hx⟩)
  | true =>
   simp (disch := omega) only [sB, Nat.reduceEqDiff, z1j, g1, z05 z2z one9, z05 z62 one9, z05 z4w zd8, z05 z7r one3, z05 z7q zif, z09 agg9, z09 agg3, z09 zgh, z09 zkp, l1, l2, l3, l4, l5, z1c, z1a Tryd.underlying23, h1, h2, h3, h4]
   exact EvC.ret (z06 rfl (by simp only [sG, Nat.reduceEqDiff]; rfl) ⟨by rw [← hres, h1, h2, h3, h4]; rfl, hx⟩)
end Go.Proofs.hq
end

section
namespace Go.Proofs.hq
open Go Go.RowKit Go.Hb
def nodeE (utf num : ByteArray → Bool) (flt : Int → Bool) (t : Tm) : Int :=
 if t.kind < 1 ∨ 5 < t.kind then 20 else if blankB t = false then 20 else if t.var < 0 then 20 else if t.kind = 5 ∧ (t.args.length = 0 ∨ 64 < t.args.length) then 20
 else if utf t.name = false then 21 else if 1000 < t.name.size then 21 else if t.kind = 3 ∧ num t.num = false then 22 else if t.kind = 4 ∧ flt t.bits = false then 23 else 0
def bndB (t : Tm) : Bool := decide (t.var < 0) || (t.kind == 5 && ((t.args.length : Int) == 0 || decide ((t.args.length : Int) > 64)))
theorem zbp {utf num : ByteArray → Bool} {flt : Int → Bool} {t : Tm} (h1 : ¬ (t.kind < 1 ∨ 5 < t.kind)) (h2 : blankB t = true) (h3 : bndB t = true) : nodeE utf num flt t = 20 := by
 rw [nodeE, if_neg h1, if_neg (by rw [h2]; simp)]
 unfold bndB at h3
 simp only [Bool.or_eq_true, Bool.and_eq_true, beq_iff_eq, decide_eq_true_eq] at h3
 by_cases hv : t.var < 0
 ·rw [if_pos hv]
 ·rw [if_neg hv, if_pos]
  rcases h3 with h | ⟨h, h' | h'⟩
  ·exact absurd h hv
  ·exact ⟨h, .inl (by omega)⟩
  ·exact ⟨h, .inr (by omega)⟩
theorem zgi {utf num : ByteArray → Bool} {flt : Int → Bool} {t : Tm} (h1 : ¬ (t.kind < 1 ∨ 5 < t.kind)) (h2 : blankB t = true) (h3 : bndB t = false) :
  nodeE utf num flt t = if utf t.name = false then 21 else if 1000 < t.name.size then 21 else if t.kind = 3 ∧ num t.num = false then 22 else if t.kind = 4 ∧ flt t.bits = false then 23 else 0 := by
 rw [nodeE, if_neg h1, if_neg (by rw [h2]; simp)]
 unfold bndB at h3
 simp only [Bool.or_eq_false_iff, Bool.and_eq_false_iff, beq_eq_false_iff_ne, decide_eq_false_iff_not] at h3
 rw [if_neg h3.1, if_neg (fun h => by rcases h3.2 with h' | h' <;> first | exact h' h.1 | (have := h.2; omega))]
theorem znc : callable Tryd.prog 74 = true := by kernel_rfl
theorem znd : callable Tryd.prog 75 = true := by kernel_rfl
theorem zne : callable Tryd.prog 76 = true := by kernel_rfl
def TellsS (ok : Ok) (f : FuncId) (g : ByteArray → Bool) : Prop := ∀ (s : ByteArray) (H : Heap), s.size ≤ maxLen → H.wf → EvF Tryd.prog ok f [.string s] H fun v H' => v = .bool (g s) ∧ HX H H'
def TellsU (ok : Ok) (f : FuncId) (g : Int → Bool) : Prop := ∀ (n : Int) (H : Heap), u64 n → H.wf → EvF Tryd.prog ok f [.int .u64 n] H fun v H' => v = .bool (g n) ∧ HX H H'
variable {ok : Ok}
end Go.Proofs.hq
end

section
namespace Go.Proofs.hq
open Go Go.RowKit Go.Hb
def rho0 (n : Int) : Operand → Value
 | .func f => .func (.func f) #[] #[]
 | _ => .int .u64 n
theorem zbq (n : Int) (d : Option Tmp) (k : Tmp) (ats : Array TypeId) (ty : TypeId) (pos : String) (af : Array Edge) (g : Option (Nat × Bool)) :
  pureRun Tryd.prog (execOp (rho0 n) ⟨d, .call ⟨.value (.func 77), #[.tmp k], ats⟩, ty, pos, af, g⟩) = some (.value (.float .f64 n.toNat)) := by kernel_rfl
theorem zkt (l : List Value) : dcall1 Tryd.prog 77 l = none := by
 unfold dcall1
 rw [Tryd.func77]
 rfl
theorem z6g {d : Option Tmp} {k : Tmp} {ats : Array TypeId} {ty : TypeId} {pos : String} {af : Array Edge} {g : Option (Nat × Bool)} {tm : Tr Value} {H : Heap} {n : Int} (hv : tm.get k = some (.int .u64 n)) :
  dop Tryd.prog ⟨d, .call ⟨.value (.func 77), #[.tmp k], ats⟩, ty, pos, af, g⟩ (ev tm) H = some (.val (.float .f64 n.toNat) H) := by
 have hρ : ∀ y ∈ (⟨d, .call ⟨.value (.func 77), #[.tmp k], ats⟩, ty, pos, af, g⟩ : Oper).op.operands, ev tm y = rho0 n y := by
  intro y hy
  simp [Op.operands, Call.operands] at hy
  rcases hy with rfl | rfl
  ·rfl
  ·show (tm.get k).getD junk = _
   rw [hv]; rfl
 have e : dop Tryd.prog ⟨d, .call ⟨.value (.func 77), #[.tmp k], ats⟩, ty, pos, af, g⟩ (ev tm) H = dflat Tryd.prog ⟨d, .call ⟨.value (.func 77), #[.tmp k], ats⟩, ty, pos, af, g⟩ (ev tm) H := by
  simp only [dop, ev, zkt]
 have hf : allFlat (ev tm) (⟨d, .call ⟨.value (.func 77), #[.tmp k], ats⟩, ty, pos, af, g⟩ : Oper) = true := by
  unfold allFlat
  rw [List.all_eq_true]
  intro y hy
  rw [hρ y (Array.mem_toList_iff.1 hy)]
  simp [Op.operands, Call.operands] at hy
  rcases hy with rfl | rfl <;> rfl
 rw [e]
 unfold dflat
 rw [hf, execOp_congr _ (by intro cs b h; cases h) hρ, zbq]
 rfl
end Go.Proofs.hq
end

section
namespace Go.Proofs.hq
open Go Go.RowKit Go.Hb
def TellsN (ok : Ok) (f g h : FuncId) (fn fi : Int → Bool) : Prop := ∀ (n : Int) (H : Heap) , u64 n → H.wf → EvF Tryd.prog ok g [.float .f64 n.toNat] H (fun v H' => v = .bool (fn n) ∧ HX H H') ∧ EvF Tryd.prog ok h [.float .f64 n.toNat, .int .i64 0] H (fun v H' => v = .bool (fi n) ∧ HX H H')
theorem znf : callable Tryd.prog 78 = true := by kernel_rfl
theorem zng : callable Tryd.prog 79 = true := by kernel_rfl
variable {ok : Ok}
set_option maxRecDepth 10000 in
set_option maxHeartbeats 8000000 in
theorem znh {utf num : ByteArray → Bool} {fn fi : Int → Bool} (hk : ∀ args H, ok.K 66 args H = none) (hm : ok.testBit 66 = true) (hk2 : ∀ args H, ok.K 74 args H = none) (hm2 : ok.testBit 74 = true)
  (hU : TellsS ok 75 utf) (hN : TellsS ok 76 num) (hF : TellsN ok 77 78 79 fn fi)
  {t : Tm} {cs : List Value} {H : Heap} (r : RepT H t cs) (hw : H.wf) : EvF Tryd.prog ok 66 [.agg ⟨cs⟩] H fun v H' => v = .int .i64 (nodeE utf num (fun n => !(fn n || fi n || n == 9223372036854775808)) t) ∧ HX H H' := by
 have rr := r
 obtain ⟨a, c, cells, rfl, b1, b2, b3, b4, b5, rl⟩ := r.inv
 have hx := (HX.refl hw).new (some (Blk.row [Value.int IntKind.i64 t.kind, Value.string t.name, Value.string t.num, Value.int IntKind.u64 t.bits, Value.int IntKind.i64 t.var, Value.slice a t.args.length c] 25))
 refine EvF.enter (hk _ _) Tryd.func66 hm rfl ?_
 (repeat refine EvC.seq ?_); refine EvC.reg ?_; simp (disch := first | omega | rfl) only [sB, initTm, dBox, Value.cells, one]
 (repeat refine EvC.seq ?_); refine EvC.block ?_
 refine EvC.seq (EvC.reg ?_)
 by_cases hno : t.kind < 1 ∨ 5 < t.kind
 ·have hlt : decide (t.kind < 1) = true ∨ (decide (t.kind < 1) = false ∧ decide (t.kind > 5) = true) := by
   by_cases h : t.kind < 1
   ·exact .inl (by simp [h])
   ·exact .inr ⟨by simp [h], by simp; omega⟩
  rcases hlt with h | ⟨h, h'⟩
  ·try simp (disch := first | omega | rfl) only [sB, Nat.reduceEqDiff, reduceCtorEq, cutC, h, z05 z2y one3, z09 agg3]
   refine EvC.condT (by simp only [sB, Nat.reduceEqDiff, reduceCtorEq]) ?_
   (repeat refine EvC.seq ?_); refine EvC.reg ?_; simp (disch := first | omega | rfl) only [sA]
   refine EvC.ret ?_
   try simp (disch := first | omega | rfl) only [sA]
   exact z06 rfl (by simp only [sG, Nat.reduceEqDiff, reduceCtorEq]; rfl) ⟨by rw [nodeE, if_pos hno], hx⟩
  ·try simp (disch := first | omega | rfl) only [sB, Nat.reduceEqDiff, reduceCtorEq, cutC, h, h', z05 z2y one3, z09 agg3, Bool.false_eq_true]
   refine EvC.condT (by simp only [sB, Nat.reduceEqDiff, reduceCtorEq]) ?_
   (repeat refine EvC.seq ?_); refine EvC.reg ?_; simp (disch := first | omega | rfl) only [sA]
   refine EvC.ret ?_
   try simp (disch := first | omega | rfl) only [sA]
   exact z06 rfl (by simp only [sG, Nat.reduceEqDiff, reduceCtorEq]; rfl) ⟨by rw [nodeE, if_pos hno], hx⟩
 have q1 : decide (t.kind < 1) = false := by simp; omega
 have q2 : decide (t.kind > 5) = false := by simp; omega
 try simp (disch := first | omega | rfl) only [sB, Nat.reduceEqDiff, Nat.reduceAdd, reduceCtorEq, cutC, q1, q2, z05 z2y one3, z09 agg3, Bool.false_eq_true, z1i z9z, z3k, z08 znc]
 refine (zks hk2 hm2 (rr.mono hx hw) hx.wf).mono ?_
 rintro v H2 ⟨rfl, hx2⟩
 have hxx := hx.trans hx2
 have hb2 : H2.get H.next = some (Blk.row [Value.int IntKind.i64 t.kind, Value.string t.name, Value.string t.num, Value.int IntKind.u64 t.bits, Value.int IntKind.i64 t.var, Value.slice a t.args.length c] 25) := by rw [hx2.keep _ (Nat.lt_succ_self _), Heap.get_new, if_pos rfl]
 have l0 : H2.load ⟨H.next, 0, none⟩ 1 = some [.int .i64 t.kind] := by simp only [Heap.load, Heap.cells, hb2]; rfl
 have l1 : H2.load ⟨H.next, 1, none⟩ 1 = some [.string t.name] := by simp only [Heap.load, Heap.cells, hb2]; rfl
 have l2 : H2.load ⟨H.next, 2, none⟩ 1 = some [.string t.num] := by simp only [Heap.load, Heap.cells, hb2]; rfl
 have l3 : H2.load ⟨H.next, 3, none⟩ 1 = some [.int .u64 t.bits] := by simp only [Heap.load, Heap.cells, hb2]; rfl
 have l4 : H2.load ⟨H.next, 4, none⟩ 1 = some [.int .i64 t.var] := by simp only [Heap.load, Heap.cells, hb2]; rfl
 have l5 : H2.load ⟨H.next, 5, none⟩ 1 = some [.slice a t.args.length c] := by simp only [Heap.load, Heap.cells, hb2]; rfl
 cases hbl : blankB t with
 | false =>
  try simp (disch := first | omega | rfl) only [sB, Nat.reduceEqDiff, reduceCtorEq, Bool.not_false, Bool.false_eq_true]
  refine EvC.condT (by simp only [sB, Nat.reduceEqDiff, reduceCtorEq]) ?_
  (repeat refine EvC.seq ?_); refine EvC.reg ?_; simp (disch := first | omega | rfl) only [sA]
  refine EvC.ret ?_
  try simp (disch := first | omega | rfl) only [sA]
  exact z06 rfl (by simp only [sG, Nat.reduceEqDiff, reduceCtorEq]; rfl) ⟨by rw [nodeE, if_neg hno, if_pos hbl], hxx⟩
 | true =>
 by_cases hv : t.var < 0
 ·have hd : decide (t.var < 0) = true := decide_eq_true hv
  try simp (disch := first | omega | rfl) only [sB, Nat.reduceEqDiff, reduceCtorEq, l4, hd, z05 z7r one3, z09 agg3, Bool.not_true, Bool.false_eq_true]
  refine EvC.condT (by simp only [sB, Nat.reduceEqDiff, reduceCtorEq]) ?_
  (repeat refine EvC.seq ?_); refine EvC.reg ?_; simp (disch := first | omega | rfl) only [sA]
  refine EvC.ret ?_
  try simp (disch := first | omega | rfl) only [sA]
  exact z06 rfl (by simp only [sG, Nat.reduceEqDiff, reduceCtorEq]; rfl) ⟨by rw [zbp hno hbl (by unfold bndB; rw [hd]; rfl)], hxx⟩
 have hd : decide (t.var < 0) = false := decide_eq_false hv
 try simp (disch := first | omega | rfl) only [sB, Nat.reduceEqDiff, reduceCtorEq, l4, hd, z05 z7r one3, z09 agg3, Bool.not_true, Bool.false_eq_true]
 refine EvC.condF (by simp only [sB, Nat.reduceEqDiff, reduceCtorEq]) ?_
 refine EvC.frame (fun tm => tm.get 1 = some (.pointer (some ⟨H.next, 0, none⟩))) (by simp only [sG, Nat.reduceEqDiff, reduceCtorEq]) ?_
 rintro tm g1
 refine EvC.seq ?_
 refine EvC.join (fun st => ∃ tm, st = ⟨tm, [], H2⟩ ∧ tm.get 1 = some (.pointer (some ⟨H.next, 0, none⟩)) ∧ tm.get 23 = some (.bool (t.kind == 5 && ((t.args.length : Int) == 0 || decide ((t.args.length : Int) > 64))))) ?_ ?_
 ·refine EvC.reg ?_
  cases h2 : (t.kind == 5) <;> cases h3 : ((t.args.length : Int) == 0) <;> cases h4 : decide ((t.args.length : Int) > 64)
  all_goals
   try simp (disch := first | omega | rfl) only [sB, Nat.reduceEqDiff, g1, l0, l5, h2, h3, h4, z05 z2y one3, z05 z7q zif, z09 agg3, z09 zkp, z1a Tryd.underlying23, Bool.false_eq_true]
   exact ⟨_, rfl, by simp only [sG, Nat.reduceEqDiff]; exact g1, by simp only [sG, Nat.reduceEqDiff]; rfl⟩
 clear g1 tm
 rintro st ⟨tm, rfl, g1, g23⟩
 try simp (disch := first | omega | rfl) only [z02]
 cases hbad : (t.kind == 5 && ((t.args.length : Int) == 0 || decide ((t.args.length : Int) > 64))) with
 | true =>
  rw [hbad] at g23
  refine EvC.condT (by simp only [sA, g23]) ?_
  (repeat refine EvC.seq ?_); refine EvC.reg ?_; simp (disch := first | omega | rfl) only [sA]
  refine EvC.ret ?_
  try simp (disch := first | omega | rfl) only [sA]
  exact z06 rfl (by simp only [sG]; rfl) ⟨by rw [zbp hno hbl (by unfold bndB; rw [hd, hbad]; rfl)], hxx⟩
 | false =>
 rw [hbad] at g23
 have hne := zgi (utf := utf) (num := num) (flt := fun n => !(fn n || fi n || n == 9223372036854775808)) hno hbl (by unfold bndB; rw [hd, hbad]; rfl)
 refine EvC.condF (by simp only [sA, g23]) ?_
 (repeat refine EvC.seq ?_); refine EvC.reg ?_; simp (disch := first | omega | rfl) only [sB, Nat.reduceEqDiff, g1, l1, z05 z2z one9, z09 agg9, z08 znd]
 refine (hU t.name _ b2 hx2.wf).mono ?_
 rintro v H3 ⟨rfl, hx3⟩
 have hxx3 := hxx.trans hx3
 have hlt2 : H.next < H2.next := Nat.lt_of_lt_of_le (Nat.lt_succ_self _) hx2.next
 have hb3 : H3.get H.next = some (Blk.row [Value.int IntKind.i64 t.kind, Value.string t.name, Value.string t.num, Value.int IntKind.u64 t.bits, Value.int IntKind.i64 t.var, Value.slice a t.args.length c] 25) := by rw [hx3.keep _ hlt2]; exact hb2
 have m0 : H3.load ⟨H.next, 0, none⟩ 1 = some [.int .i64 t.kind] := by simp only [Heap.load, Heap.cells, hb3]; rfl
 have m1 : H3.load ⟨H.next, 1, none⟩ 1 = some [.string t.name] := by simp only [Heap.load, Heap.cells, hb3]; rfl
 have m2 : H3.load ⟨H.next, 2, none⟩ 1 = some [.string t.num] := by simp only [Heap.load, Heap.cells, hb3]; rfl
 have m3 : H3.load ⟨H.next, 3, none⟩ 1 = some [.int .u64 t.bits] := by simp only [Heap.load, Heap.cells, hb3]; rfl
 cases hu : utf t.name with
 | false =>
  try simp (disch := first | omega | rfl) only [sB, Nat.reduceEqDiff, Bool.not_false]
  refine EvC.condT (by simp only [sB, Nat.reduceEqDiff]) ?_
  (repeat refine EvC.seq ?_); refine EvC.reg ?_; simp (disch := first | omega | rfl) only [sA]
  refine EvC.ret ?_
  try simp (disch := first | omega | rfl) only [sA]
  exact z06 rfl (by simp only [sG, Nat.reduceEqDiff]; rfl) ⟨by rw [hne, if_pos hu], hxx3⟩
 | true =>
 rw [if_neg (by rw [hu]; simp)] at hne
 by_cases hlen : 1000 < t.name.size
 ·have hd : decide ((t.name.size : Int) > 1000) = true := decide_eq_true (by omega)
  try simp (disch := first | omega | rfl) only [sB, Nat.reduceEqDiff, g1, m1, hd, z05 z2z one9, z09 agg9, z5x Tryd.underlying9, Bool.not_true, Bool.false_eq_true]
  refine EvC.condT (by simp only [sB, Nat.reduceEqDiff]) ?_
  (repeat refine EvC.seq ?_); refine EvC.reg ?_; simp (disch := first | omega | rfl) only [sA]
  refine EvC.ret ?_
  try simp (disch := first | omega | rfl) only [sA]
  exact z06 rfl (by simp only [sG, Nat.reduceEqDiff]; rfl) ⟨by rw [hne, if_pos hlen], hxx3⟩
 rw [if_neg hlen] at hne
 have hd2 : decide ((t.name.size : Int) > 1000) = false := decide_eq_false (by omega)
 try simp (disch := first | omega | rfl) only [sB, Nat.reduceEqDiff, g1, m1, hd2, z05 z2z one9, z09 agg9, z5x Tryd.underlying9, Bool.not_true, Bool.false_eq_true]
 refine EvC.condF (by simp only [sB, Nat.reduceEqDiff]) ?_
 refine EvC.frame (fun tm => tm.get 1 = some (.pointer (some ⟨H.next, 0, none⟩))) (by simp only [sG, Nat.reduceEqDiff]; exact g1) ?_
 clear g1 g23 tm
 rintro tm g1
 refine EvC.seq (EvC.reg ?_)
 by_cases k3 : t.kind = 3
 ·have q3 : (t.kind == 3) = true := by simp [k3]
  have q4 : (t.kind == 4) = false := by simp [k3]
  try simp (disch := first | omega | rfl) only [sB, Nat.reduceEqDiff, g1, m0, m2, q3, z05 z2y one3, z05 z62 one9, z09 agg9, z09 agg3, z08 zne]
  refine (hN t.num _ b3 hx3.wf).mono ?_
  rintro v H4 ⟨rfl, hx4⟩
  have hb4 : H4.get H.next = some (Blk.row [Value.int IntKind.i64 t.kind, Value.string t.name, Value.string t.num, Value.int IntKind.u64 t.bits, Value.int IntKind.i64 t.var, Value.slice a t.args.length c] 25) := by rw [hx4.keep _ (Nat.lt_of_lt_of_le hlt2 hx3.next)]; exact hb3
  have n0 : H4.load ⟨H.next, 0, none⟩ 1 = some [.int .i64 t.kind] := by simp only [Heap.load, Heap.cells, hb4]; rfl
  cases hn : num t.num with
  | false =>
   try simp (disch := first | omega | rfl) only [sB, Nat.reduceEqDiff, Bool.not_false]
   refine EvC.condT (by simp only [sB, Nat.reduceEqDiff]) ?_
   (repeat refine EvC.seq ?_); refine EvC.reg ?_; simp (disch := first | omega | rfl) only [sA]
   refine EvC.ret ?_
   try simp (disch := first | omega | rfl) only [sA]
   exact z06 rfl (by simp only [sG, Nat.reduceEqDiff]; rfl) ⟨by rw [hne, if_pos ⟨k3, hn⟩], hxx3.trans hx4⟩
  | true =>
   try simp (disch := first | omega | rfl) only [sB, Nat.reduceEqDiff, Bool.not_true]
   refine EvC.condF (by simp only [sB, Nat.reduceEqDiff]) (EvC.skip ?_)
   try simp (disch := first | omega | rfl) only [sA]
   (repeat refine EvC.seq ?_); refine EvC.reg ?_; simp (disch := first | omega | rfl) only [sB, Nat.reduceEqDiff, g1, n0, q4, z05 z2y one3, z09 agg3]
   refine EvC.condF (by simp only [sB, Nat.reduceEqDiff]) (EvC.skip ?_)
   try simp (disch := first | omega | rfl) only [z02]
   (repeat refine EvC.seq ?_); refine EvC.reg ?_; simp (disch := first | omega | rfl) only [sA]
   refine EvC.ret ?_
   try simp (disch := first | omega | rfl) only []
   exact z06 rfl (by simp only [sG, Nat.reduceEqDiff]; rfl) ⟨by rw [hne, if_neg (by rw [hn]; simp), if_neg (by rw [k3]; simp)], hxx3.trans hx4⟩
 have q3 : (t.kind == 3) = false := by simp [k3]
 rw [if_neg (fun h => k3 h.1)] at hne
 try simp (disch := first | omega | rfl) only [sB, Nat.reduceEqDiff, g1, m0, q3, z05 z2y one3, z09 agg3, Bool.false_eq_true]
 refine EvC.condF (by simp only [sB, Nat.reduceEqDiff]) (EvC.skip ?_)
 try simp (disch := first | omega | rfl) only [sA]
 by_cases k4 : t.kind = 4
 ·have q4 : (t.kind == 4) = true := by simp [k4]
  (repeat refine EvC.seq ?_); refine EvC.reg ?_; simp (disch := first | omega | rfl) only [sB, Nat.reduceEqDiff, g1, m0, q4, z05 z2y one3, z09 agg3]
  refine EvC.condT (by simp only [sB, Nat.reduceEqDiff]) ?_
  (repeat refine EvC.seq ?_); refine EvC.reg ?_; simp (disch := first | omega | rfl) only [sB, Nat.reduceEqDiff, g1, m3, z05 z4w zd8, z09 zgh]
  rw [z6g (n := t.bits) (by simp only [sG, Nat.reduceEqDiff])]
  try simp (disch := first | omega | rfl) only [sB, Nat.reduceEqDiff]
  refine EvC.frame (fun tm => tm.get 1 = some (.pointer (some ⟨H.next, 0, none⟩)) ∧ tm.get 3 = some (.float .f64 t.bits.toNat)) ⟨by simp only [sG, Nat.reduceEqDiff]; exact g1, by simp only [sG, Nat.reduceEqDiff]⟩ ?_
  clear g1 tm
  rintro tm ⟨g1, g3⟩
  (repeat refine EvC.seq ?_); refine EvC.reg ?_; simp (disch := first | omega | rfl) only [sB, Nat.reduceEqDiff, g3, z08 znf]
  refine (hF t.bits _ b4 hx3.wf).1.mono ?_
  rintro v H4 ⟨rfl, hx4⟩
  have hb4 : H4.get H.next = some (Blk.row [Value.int IntKind.i64 t.kind, Value.string t.name, Value.string t.num, Value.int IntKind.u64 t.bits, Value.int IntKind.i64 t.var, Value.slice a t.args.length c] 25) := by rw [hx4.keep _ (Nat.lt_of_lt_of_le hlt2 hx3.next)]; exact hb3
  cases hn : fn t.bits with
  | true =>
   try simp (disch := first | omega | rfl) only [sB, Nat.reduceEqDiff]
   refine EvC.condT (by simp only [sB, Nat.reduceEqDiff]) ?_
   (repeat refine EvC.seq ?_); refine EvC.reg ?_; simp (disch := first | omega | rfl) only [sA]
   refine EvC.ret ?_
   try simp (disch := first | omega | rfl) only [z01]
   exact z06 rfl (by simp only [sG, Nat.reduceEqDiff]; rfl) ⟨by rw [hne, if_pos ⟨k4, by rw [hn]; rfl⟩], hxx3.trans hx4⟩
  | false =>
  try simp (disch := first | omega | rfl) only [sB, Nat.reduceEqDiff, g3, Bool.false_eq_true, z08 zng]
  refine (hF t.bits _ b4 hx4.wf).2.mono ?_
  rintro v H5 ⟨rfl, hx5⟩
  have hb5 : H5.get H.next = some (Blk.row [Value.int IntKind.i64 t.kind, Value.string t.name, Value.string t.num, Value.int IntKind.u64 t.bits, Value.int IntKind.i64 t.var, Value.slice a t.args.length c] 25) := by rw [hx5.keep _ (Nat.lt_of_lt_of_le (Nat.lt_of_lt_of_le hlt2 hx3.next) hx4.next)]; exact hb4
  have n3 : H5.load ⟨H.next, 3, none⟩ 1 = some [.int .u64 t.bits] := by simp only [Heap.load, Heap.cells, hb5]; rfl
  cases hi : fi t.bits with
  | true =>
   try simp (disch := first | omega | rfl) only [sB, Nat.reduceEqDiff]
   refine EvC.condT (by simp only [sB, Nat.reduceEqDiff]) ?_
   (repeat refine EvC.seq ?_); refine EvC.reg ?_; simp (disch := first | omega | rfl) only [sA]
   refine EvC.ret ?_
   try simp (disch := first | omega | rfl) only [z01]
   exact z06 rfl (by simp only [sG, Nat.reduceEqDiff]; rfl) ⟨by rw [hne, if_pos ⟨k4, by rw [hn, hi]; rfl⟩], (hxx3.trans hx4).trans hx5⟩
  | false =>
  cases hz : (t.bits == 9223372036854775808) with
  | true =>
   try simp (disch := first | omega | rfl) only [sB, Nat.reduceEqDiff, g1, n3, hz, z05 z4w zd8, z09 zgh, Bool.false_eq_true]
   refine EvC.condT (by simp only [sB, Nat.reduceEqDiff]) ?_
   (repeat refine EvC.seq ?_); refine EvC.reg ?_; simp (disch := first | omega | rfl) only [sA]
   refine EvC.ret ?_
   try simp (disch := first | omega | rfl) only [z01]
   exact z06 rfl (by simp only [sG, Nat.reduceEqDiff]; rfl) ⟨by rw [hne, if_pos ⟨k4, by rw [hn, hi, hz]; rfl⟩], (hxx3.trans hx4).trans hx5⟩
  | false =>
   try simp (disch := first | omega | rfl) only [sB, Nat.reduceEqDiff, g1, n3, hz, z05 z4w zd8, z09 zgh, Bool.false_eq_true]
   refine EvC.condF (by simp only [sB, Nat.reduceEqDiff]) (EvC.skip ?_)
   try simp (disch := first | omega | rfl) only [z02]
   (repeat refine EvC.seq ?_); refine EvC.reg ?_; simp (disch := first | omega | rfl) only [sA]
   refine EvC.ret ?_
   try simp (disch := first | omega | rfl) only []
   exact z06 rfl (by simp only [sG, Nat.reduceEqDiff]; rfl) ⟨by rw [hne, if_neg (by rw [hn, hi, hz]; simp)], (hxx3.trans hx4).trans hx5⟩
 have q4 : (t.kind == 4) = false := by simp [k4]
 (repeat refine EvC.seq ?_); refine EvC.reg ?_; simp (disch := first | omega | rfl) only [sB, Nat.reduceEqDiff, g1, m0, q4, z05 z2y one3, z09 agg3]
 refine EvC.condF (by simp only [sB, Nat.reduceEqDiff]) (EvC.skip ?_)
 try simp (disch := first | omega | rfl) only [z02]
 (repeat refine EvC.seq ?_); refine EvC.reg ?_; simp (disch := first | omega | rfl) only [sA]
 refine EvC.ret ?_
 try simp (disch := first | omega | rfl) only []
 exact z06 rfl (by simp only [sG, Nat.reduceEqDiff]; rfl) ⟨by rw [hne, if_neg (fun h => k4 h.1)], hxx3⟩
end Go.Proofs.hq
end

section
namespace Go.Proofs.hq
open Go Go.RowKit Go.Hb
theorem zma : callable Tryd.prog 47 = true := by kernel_rfl
theorem zol : callable Tryd.prog 66 = true := by kernel_rfl
mutual
def allE (E : Tm → Int) : Tm → Int
 | .mk k s u b v l => if E (.mk k s u b v l) = 0 then allL E l else E (.mk k s u b v l)
def allL (E : Tm → Int) : List Tm → Int
 | [] => 0
 | t :: l => if allE E t = 0 then allL E l else allE E t
end
theorem z4x (E : Tm → Int) (t : Tm) : allE E t = if E t = 0 then allL E t.args else E t := by
 obtain ⟨k, s, u, b, v, l⟩ := t
 rw [allE]; rfl
theorem zij {E : Tm → Int} {l : List Tm} {i : Nat} {t : Tm} (h : l[i]? = some t) : allL E (l.drop i) = if allE E t = 0 then allL E (l.drop (i + 1)) else allE E t := by
 have hlt := (List.getElem?_eq_some_iff.1 h).1
 have he : l[i] = t := (List.getElem?_eq_some_iff.1 h).2
 rw [List.drop_eq_getElem_cons hlt, allL, he]
def checkE (E : Tm → Int) (t : Tm) : Int := if 4000 < cnt t 0 then 24 else allE E t
def TellsT (ok : Ok) (f : FuncId) (E : Tm → Int) : Prop := ∀ (t : Tm) (cs : List Value) (H : Heap), RepT H t cs → H.wf → EvF Tryd.prog ok f [.agg ⟨cs⟩] H fun v H' => v = .int .i64 (E t) ∧ HX H H'
theorem zmb {n : Int} (h : n ≠ 0) : (n != 0) = true := by simp [h]
theorem zmc {n : Int} (h : n = 0) : (n != 0) = false := by simp [h]
variable {ok : Ok}
set_option maxRecDepth 10000 in
set_option maxHeartbeats 2000000 in
theorem zbr {E : Tm → Int} (hE : TellsT ok 66 E) (hk : ∀ args H, ok.K 47 args H = none) (hm : ok.testBit 47 = true) : TellsT ok 47 (allE E) := by
 have main : ∀ (m : Nat) {t : Tm} {cs : List Value} {H : Heap}, SizeOf.sizeOf t < m → RepT H t cs → H.wf → EvF Tryd.prog ok 47 [.agg ⟨cs⟩] H fun v H' => v = .int .i64 (allE E t) ∧ HX H H' := by
  intro m
  induction m with
  | zero => intro t cs H h; omega
  | succ m ih =>
  intro t cs H hsz r hw
  have rr := r
  obtain ⟨a, c, cells, rfl, b1, b2, b3, b4, b5, rl⟩ := r.inv
  have hx := (HX.refl hw).new (some (Blk.row [Value.int IntKind.i64 t.kind, Value.string t.name, Value.string t.num, Value.int IntKind.u64 t.bits, Value.int IntKind.i64 t.var, Value.slice a t.args.length c] 25))
  refine EvF.enter (hk _ _) Tryd.func47 hm rfl ?_
  (repeat refine EvC.seq ?_); refine EvC.reg ?_; simp (disch := first | omega | rfl) only [sB, initTm, dBox, Value.cells, one]
  (repeat refine EvC.seq ?_); refine EvC.reg ?_; simp (disch := first | omega | rfl) only [sB, Nat.reduceEqDiff, Nat.reduceAdd, reduceCtorEq, cutC, z1i z9z, z3k, z08 zol]
  refine (hE t _ _ (rr.mono hx hw) hx.wf).mono ?_
  rintro v H2 ⟨rfl, hx2⟩
  have hxx := hx.trans hx2
  have hb2 : H2.get H.next = some (Blk.row [Value.int IntKind.i64 t.kind, Value.string t.name, Value.string t.num, Value.int IntKind.u64 t.bits, Value.int IntKind.i64 t.var, Value.slice a t.args.length c] 25) := by rw [hx2.keep _ (Nat.lt_succ_self _), Heap.get_new, if_pos rfl]
  have l5 : H2.load ⟨H.next, 5, none⟩ 1 = some [.slice a t.args.length c] := by simp only [Heap.load, Heap.cells, hb2]; rfl
  try simp (disch := first | omega | rfl) only []
  by_cases he : E t = 0
  ·(repeat refine EvC.seq ?_); refine EvC.reg ?_; simp (disch := first | omega | rfl) only [sB, Nat.reduceEqDiff, reduceCtorEq, zmc he]
   refine EvC.condF (by simp only [sB, Nat.reduceEqDiff, reduceCtorEq]) (EvC.skip ?_)
   try simp (disch := first | omega | rfl) only [z02]
   (repeat refine EvC.seq ?_); refine EvC.reg ?_; simp (disch := first | omega | rfl) only [sB, Nat.reduceEqDiff, reduceCtorEq, z05 z7q zif, z09 zkp, l5, z1a Tryd.underlying23]
   (repeat refine EvC.seq ?_); refine EvC.block (EvC.loop (fun k st => ∃ tm H' i, st = ⟨tm, [], H'⟩ ∧ k = t.args.length - i ∧ i ≤ t.args.length ∧ allL E (t.args.drop i) = allE E t ∧
    tm.get 13 = some (.slice a t.args.length c) ∧ tm.get 14 = some (.int .i64 t.args.length) ∧ tm.get 15 = some (.int .i64 (i : Nat)) ∧ HX H H') ?_ t.args.length _ ?_)
   ·rintro k st ⟨tm, H', i, rfl, hk', hi, hc, g13, g14, g15, hx'⟩
    (repeat refine EvC.seq ?_); refine EvC.reg ?_; simp (disch := first | omega | rfl) only [sA, g14, g15]
    by_cases hlt : i < t.args.length
    ·(repeat refine EvC.seq ?_); refine EvC.condT (by simp only [sB]; exact congrArg _ (decide_eq_true (by omega))) (EvC.skip ?_)
     obtain ⟨b, o, rfl, hload, hrep⟩ := rl.at (i := i) (List.getElem?_eq_getElem hlt)
     obtain ⟨a', c', cells', hcell, -⟩ := hrep.inv
     have hld := hx'.load hw hload
     rw [hcell] at hld hrep
     try simp (disch := first | omega | rfl) only [z02]
     (repeat refine EvC.seq ?_); refine EvC.block ?_
     (repeat refine EvC.seq ?_); refine EvC.reg ?_; simp (disch := first | omega | rfl) only [sB, dAlloc, Nat.reduceEqDiff, Nat.reduceAdd, one, g13, g15, z2f Tryd.underlying23 zey hlt, z1i z9z, z3k, hld, zm9, z5w zey]
     (repeat refine EvC.seq ?_); refine EvC.reg ?_; simp (disch := first | omega | rfl) only [sB, Nat.reduceEqDiff, Nat.reduceAdd, cutC, z1i z9z, z3k, z08 zma]
     have hx3 := (hx'.new (some (Blk.row [Value.int IntKind.i64 0, Value.string ByteArray.empty, Value.string ByteArray.empty, Value.int IntKind.u64 0, Value.int IntKind.i64 0, Value.slice none 0 0] 25))).put (i := H'.next) hx'.next (Nat.lt_succ_self _)
      (some (.row [Value.int IntKind.i64 t.args[i].kind, Value.string t.args[i].name, Value.string t.args[i].num, Value.int IntKind.u64 t.args[i].bits, Value.int IntKind.i64 t.args[i].var, Value.slice a' t.args[i].args.length c'] 25))
     have ht : t.args[i]? = some t.args[i] := List.getElem?_eq_getElem hlt
     have hs := z1v ht
     refine (ih (t := t.args[i]) (by omega) (hrep.mono hx3 hw) hx3.wf).mono ?_
     rintro v H4 ⟨rfl, hx4⟩
     have hL : t.args.length ≤ 9223372036854775807 := Nat.le_trans rl.len rl.cap
     have hd := zij (E := E) ht
     try simp (disch := first | omega | rfl) only []
     by_cases hz : allE E t.args[i] = 0
     ·(repeat refine EvC.seq ?_); refine EvC.reg ?_; simp (disch := first | omega | rfl) only [sB, Nat.reduceEqDiff, zmc hz]
      refine EvC.condF (by simp only [sB, Nat.reduceEqDiff]) (EvC.skip ?_)
      try simp (disch := first | omega | rfl) only [sA]
      (repeat refine EvC.seq ?_); refine EvC.reg ?_; simp (disch := first | omega | rfl) only [sB, Nat.reduceEqDiff, g15, z0c]
      exact ⟨t.args.length - (i + 1), by omega, _, _, i + 1, rfl, rfl, by omega, by rw [← hc, hd, if_pos hz], by simp only [sG, Nat.reduceEqDiff]; exact g13, by simp only [sG, Nat.reduceEqDiff]; exact g14, by simp only [sG, Nat.reduceEqDiff]; rfl, hx3.trans hx4⟩
     ·(repeat refine EvC.seq ?_); refine EvC.reg ?_; simp (disch := first | omega | rfl) only [sB, Nat.reduceEqDiff, zmb hz]
      refine EvC.condT (by simp only [sB, Nat.reduceEqDiff]) ?_
      (repeat refine EvC.seq ?_); refine EvC.reg ?_; simp (disch := first | omega | rfl) only [sB, Nat.reduceEqDiff]
      refine EvC.ret ?_
      try simp (disch := first | omega | rfl) only [sA]
      exact z06 rfl (by simp only [sG, Nat.reduceEqDiff]; rfl) ⟨by rw [← hc, hd, if_neg hz], hx3.trans hx4⟩
    ·(repeat refine EvC.seq ?_); refine EvC.condF (by simp only [sB]; exact congrArg _ (decide_eq_false (by omega))) (EvC.exit ?_)
     try simp (disch := first | omega | rfl) only [sB]
     (repeat refine EvC.seq ?_); refine EvC.reg ?_; simp (disch := first | omega | rfl) only [sA]
     refine EvC.ret (z06 rfl (by simp only [sG, Nat.reduceEqDiff]; rfl) ⟨?_, hx'⟩)
     rw [← hc, List.drop_of_length_le (by omega), allL]
   ·exact ⟨_, _, 0, rfl, rfl, by omega, by rw [z4x, if_pos he]; rfl, by simp only [sG, Nat.reduceEqDiff, reduceCtorEq], by simp only [sG, Nat.reduceEqDiff, reduceCtorEq], by simp only [sG, Nat.reduceEqDiff, reduceCtorEq]; rfl, hxx⟩
  ·(repeat refine EvC.seq ?_); refine EvC.reg ?_; simp (disch := first | omega | rfl) only [sB, Nat.reduceEqDiff, reduceCtorEq, zmb he]
   refine EvC.condT (by simp only [sB, Nat.reduceEqDiff, reduceCtorEq]) ?_
   (repeat refine EvC.seq ?_); refine EvC.reg ?_; simp (disch := first | omega | rfl) only [sB, Nat.reduceEqDiff, reduceCtorEq]
   refine EvC.ret ?_
   try simp (disch := first | omega | rfl) only [z01]
   exact z06 rfl (by simp only [sG, Nat.reduceEqDiff, reduceCtorEq]; rfl) ⟨by rw [z4x, if_neg he], hxx⟩
 exact fun t cs H r hw => main _ (Nat.lt_succ_self _) r hw
end Go.Proofs.hq
end

section
namespace Go.Proofs.hq
open Go Go.RowKit Go.Hb
variable {ok : Ok}
set_option maxRecDepth 10000 in
theorem zku {E : Tm → Int} (hN : TellsT ok 28 fun t => cnt t 0) (hE : TellsT ok 47 (allE E)) (hk : ∀ args H, ok.K 24 args H = none) (hm : ok.testBit 24 = true) : TellsT ok 24 (checkE E) := by
 intro t cs H r hw
 have rr := r
 obtain ⟨a, c, cells, rfl, b1, b2, b3, b4, b5, rl⟩ := r.inv
 have hx := (HX.refl hw).new (some (Blk.row [Value.int IntKind.i64 t.kind, Value.string t.name, Value.string t.num, Value.int IntKind.u64 t.bits, Value.int IntKind.i64 t.var, Value.slice a t.args.length c] 25))
 refine EvF.enter (hk _ _) Tryd.func24 hm rfl ?_
 (repeat refine EvC.seq ?_); refine EvC.reg ?_; simp (disch := first | omega | rfl) only [sB, initTm, dBox, Value.cells, one]
 (repeat refine EvC.seq ?_); refine EvC.reg ?_; simp (disch := first | omega | rfl) only [sB, Nat.reduceEqDiff, Nat.reduceAdd, reduceCtorEq, cutC, z1i z9z, z3k, z08 zoi]
 refine (hN t _ _ (rr.mono hx hw) hx.wf).mono ?_
 rintro v H2 ⟨rfl, hx2⟩
 have hxx := hx.trans hx2
 have hb2 : H2.get H.next = some (Blk.row [Value.int IntKind.i64 t.kind, Value.string t.name, Value.string t.num, Value.int IntKind.u64 t.bits, Value.int IntKind.i64 t.var, Value.slice a t.args.length c] 25) := by rw [hx2.keep _ (Nat.lt_succ_self _), Heap.get_new, if_pos rfl]
 have l6 : H2.load ⟨H.next, 0, none⟩ 6 = some [Value.int IntKind.i64 t.kind, Value.string t.name, Value.string t.num, Value.int IntKind.u64 t.bits, Value.int IntKind.i64 t.var, Value.slice a t.args.length c] := by simp only [Heap.load, Heap.cells, hb2]; rfl
 by_cases hov : 4000 < cnt t 0
 ·(repeat refine EvC.seq ?_); refine EvC.condT (by simp only [sB, Nat.reduceEqDiff, reduceCtorEq]; exact congrArg _ (decide_eq_true (by omega))) ?_
  (repeat refine EvC.seq ?_); refine EvC.reg ?_; simp (disch := first | omega | rfl) only [sA]
  refine EvC.ret ?_
  try simp (disch := first | omega | rfl) only [z01]
  exact z06 rfl (by simp only [sG, Nat.reduceEqDiff, reduceCtorEq]; rfl) ⟨by rw [checkE, if_pos hov], hxx⟩
 ·(repeat refine EvC.seq ?_); refine EvC.condF (by simp only [sB, Nat.reduceEqDiff, reduceCtorEq]; exact congrArg _ (decide_eq_false (by omega))) (EvC.skip ?_)
  try simp (disch := first | omega | rfl) only [sA]
  (repeat refine EvC.seq ?_); refine EvC.reg ?_; simp (disch := first | omega | rfl) only [sB, Nat.reduceEqDiff, reduceCtorEq, z1i z9z, z3k, l6, z08 zma]
  refine (hE t _ _ (rr.mono hxx hw) hx2.wf).mono ?_
  rintro v H3 ⟨rfl, hx3⟩
  try simp (disch := first | omega | rfl) only []
  refine EvC.ret ?_
  try simp (disch := first | omega | rfl) only []
  exact z06 rfl (by simp only [sG, Nat.reduceEqDiff, reduceCtorEq]; rfl) ⟨by rw [checkE, if_neg hov], hxx.trans hx3⟩
end Go.Proofs.hq
end

section
namespace Go.Proofs.hq
open Go Go.RowKit Go.Hb
section
variable {P : Program} {H : Heap}
theorem zik {t : TypeId} {x y : Operand} {k : FloatKind} {a b : Nat} : dBin P .neq t x y (.float k a) (.float k b) H = some (.val (.bool (k.format.order a b != some .eq)) H) := by
 simp [dBin, dnil, flat, eqGuard, binOp, Op.floatCmp, Sem.bind]; rfl
theorem zil {t : TypeId} {x y : Operand} {k : FloatKind} {a b : Nat} : dBin P .gtr t x y (.float k a) (.float k b) H = some (.val (.bool (k.format.order a b == some .gt)) H) := by
 simp [dBin, dnil, flat, eqGuard, binOp, Op.floatCmp, Sem.bind]; rfl
def iAndNot (k : IntKind) (a b : Int) : Int := k.wrap (BitVec.ofInt k.bits a &&& ~~~BitVec.ofInt k.bits b).toNat
def iAnd (k : IntKind) (a b : Int) : Int := k.wrap (BitVec.ofInt k.bits a &&& BitVec.ofInt k.bits b).toNat
theorem zd9 {t : TypeId} {x y : Operand} {k : IntKind} {a b : Int} : dBin P .andNot t x y (.int k a) (.int k b) H = some (.val (.int k (iAndNot k a b)) H) := by
 simp [dBin, dnil, flat, eqGuard, binOp, Op.intBits, Sem.bind, -BitVec.toNat_and, -BitVec.toNat_not, -BitVec.toNat_ofInt]; rfl
end
def rhoF (n : Nat) : Operand → Value
 | .func f => .func (.func f) #[] #[]
 | _ => .float .f64 n
theorem zkv (n : Nat) (d : Option Tmp) (k : Tmp) (ats : Array TypeId) (ty : TypeId) (pos : String) (af : Array Edge) (g : Option (Nat × Bool)) :
  pureRun Tryd.prog (execOp (rhoF n) ⟨d, .call ⟨.value (.func 96), #[.tmp k], ats⟩, ty, pos, af, g⟩) = some (.value (.int .u64 n)) := by kernel_rfl
theorem zim (l : List Value) : dcall1 Tryd.prog 96 l = none := by
 unfold dcall1
 rw [Tryd.func96]
 rfl
theorem zkw {d : Option Tmp} {k : Tmp} {ats : Array TypeId} {ty : TypeId} {pos : String} {af : Array Edge} {g : Option (Nat × Bool)} {tm : Tr Value} {H : Heap} {n : Nat} (hv : tm.get k = some (.float .f64 n)) :
  dop Tryd.prog ⟨d, .call ⟨.value (.func 96), #[.tmp k], ats⟩, ty, pos, af, g⟩ (ev tm) H = some (.val (.int .u64 n) H) := by
 have hρ : ∀ y ∈ (⟨d, .call ⟨.value (.func 96), #[.tmp k], ats⟩, ty, pos, af, g⟩ : Oper).op.operands, ev tm y = rhoF n y := by
  intro y hy
  simp [Op.operands, Call.operands] at hy
  rcases hy with rfl | rfl
  ·rfl
  ·show (tm.get k).getD junk = _
   rw [hv]; rfl
 have e : dop Tryd.prog ⟨d, .call ⟨.value (.func 96), #[.tmp k], ats⟩, ty, pos, af, g⟩ (ev tm) H = dflat Tryd.prog ⟨d, .call ⟨.value (.func 96), #[.tmp k], ats⟩, ty, pos, af, g⟩ (ev tm) H := by
  simp only [dop, ev, zim]
 have hf : allFlat (ev tm) (⟨d, .call ⟨.value (.func 96), #[.tmp k], ats⟩, ty, pos, af, g⟩ : Oper) = true := by
  unfold allFlat
  rw [List.all_eq_true]
  intro y hy
  rw [hρ y (Array.mem_toList_iff.1 hy)]
  simp [Op.operands, Call.operands] at hy
  rcases hy with rfl | rfl <;> rfl
 rw [e]
 unfold dflat
 rw [hf, execOp_congr _ (by intro cs b h; cases h) hρ, zkv]
 rfl
theorem zni : callable Tryd.prog 86 = true := by kernel_rfl
def fnB (n : Int) : Bool := FloatKind.f64.format.order n.toNat n.toNat != some .eq
def absN (m : Nat) : Nat := (iAndNot .u64 m 9223372036854775808).toNat
def fiB (n : Int) : Bool := FloatKind.f64.format.order (absN n.toNat) 9218868437227405311 == some .gt
variable {ok : Ok}
set_option maxRecDepth 10000
theorem zom (hk : ∀ args H, ok.K 86 args H = none) (hm : ok.testBit 86 = true) (m : Nat) (H : Heap) (hw : H.wf) : EvF Tryd.prog ok 86 [.float .f64 m] H fun v H' => v = .float .f64 (absN m) ∧ HX H H' := by
 refine EvF.enter (hk _ _) Tryd.func86 hm rfl ?_
 (repeat refine EvC.seq ?_); refine EvC.reg ?_; simp (disch := first | omega | rfl) only [sA, initTm]
 (repeat refine EvC.seq ?_); refine EvC.reg ?_; simp (disch := first | omega | rfl) only [sB, reduceCtorEq]
 rw [zkw (n := m) (by simp only [sG, Nat.reduceEqDiff, reduceCtorEq])]
 try simp (disch := first | omega | rfl) only [sB, Nat.reduceEqDiff, reduceCtorEq, zd9]
 rw [z6g (n := iAndNot .u64 m 9223372036854775808) (by simp only [sG, Nat.reduceEqDiff, reduceCtorEq])]
 try simp (disch := first | omega | rfl) only [sB, Nat.reduceEqDiff, reduceCtorEq]
 refine EvC.ret ?_
 exact z06 rfl (by simp only [sG, Nat.reduceEqDiff, reduceCtorEq]; rfl) ⟨rfl, HX.refl hw⟩
theorem zkx (hk : ∀ args H, ok.K 78 args H = none) (hm : ok.testBit 78 = true) (n : Int) (H : Heap) (hw : H.wf) : EvF Tryd.prog ok 78 [.float .f64 n.toNat] H fun v H' => v = .bool (fnB n) ∧ HX H H' := by
 refine EvF.enter (hk _ _) Tryd.func78 hm rfl ?_
 (repeat refine EvC.seq ?_); refine EvC.reg ?_; simp (disch := first | omega | rfl) only [sA, initTm]
 (repeat refine EvC.seq ?_); refine EvC.reg ?_; simp (disch := first | omega | rfl) only [sB, Nat.reduceEqDiff, reduceCtorEq, zik]
 refine EvC.ret ?_
 exact z06 rfl (by simp only [sG, Nat.reduceEqDiff, reduceCtorEq]; rfl) ⟨rfl, HX.refl hw⟩
theorem zky (hk : ∀ f args H, (f = 79 ∨ f = 86) → ok.K f args H = none) (hm : ok.testBit 79 = true) (hm2 : ok.testBit 86 = true) (n : Int) (H : Heap) (hw : H.wf) :
  EvF Tryd.prog ok 79 [.float .f64 n.toNat, .int .i64 0] H fun v H' => v = .bool (fiB n) ∧ HX H H' := by
 refine EvF.enter (hk _ _ _ (.inl rfl)) Tryd.func79 hm rfl ?_
 (repeat refine EvC.seq ?_); refine EvC.reg ?_; simp (disch := first | omega | rfl) only [sA, initTm]
 (repeat refine EvC.seq ?_); refine EvC.reg ?_; simp (disch := first | omega | rfl) only [sB, Nat.reduceEqDiff, reduceCtorEq]
 (repeat refine EvC.seq ?_); refine EvC.condT (by simp only [sB, Nat.reduceEqDiff, reduceCtorEq]; rfl) ?_
 (repeat refine EvC.seq ?_); refine EvC.reg ?_; simp (disch := first | omega | rfl) only [sB, Nat.reduceEqDiff, reduceCtorEq, z08 zni]
 refine (zom (hk 86 · · (.inr rfl)) hm2 n.toNat H hw).mono ?_
 rintro v H2 ⟨rfl, hx⟩
 try simp (disch := first | omega | rfl) only []
 (repeat refine EvC.seq ?_); refine EvC.reg ?_; simp (disch := first | omega | rfl) only [sB, Nat.reduceEqDiff, reduceCtorEq, zil]
 refine EvC.ret ?_
 exact z06 rfl (by simp only [sG, Nat.reduceEqDiff, reduceCtorEq]; rfl) ⟨rfl, hx⟩
def flB (n : Int) : Bool := !(iAnd .u64 (n.fdiv (2 ^ (min (Int.toNat 52) IntKind.u64.bits))) 2047 == 2047) && !(n == 9223372036854775808)
end Go.Proofs.hq
end

section
namespace Go.Proofs.hq
open Go Go.RowKit Go.Hb
end Go.Proofs.hq
end

section
namespace Go.Proofs.hq
end Go.Proofs.hq
end

section
namespace Go.Hb
open Go.Lib
def contR : Nat → List UInt8 → Nat → Option Nat
 | 0, _, c => some c
 | _ + 1, [], _ => none
 | n + 1, b :: l, c => if b.toNat < 128 ∨ 192 ≤ b.toNat then none else contR n l (c * 64 + b.toNat - 128)
def leadR (b : Nat) : Option (Nat × Nat × Nat) :=
 if 192 ≤ b ∧ b < 224 then some (1, 128, b - 192) else if 224 ≤ b ∧ b < 240 then some (2, 2048, b - 224) else if 240 ≤ b ∧ b < 248 then some (3, 65536, b - 240) else none
abbrev badR (lo c : Nat) : Prop := c < lo ∨ 1114111 < c ∨ (55296 ≤ c ∧ c < 57344)
def stepR (l : List UInt8) : Option Nat :=
 match l with
 | [] => none
 | b :: l => match leadR b.toNat with
  | none => none
  | some (n, lo, c) => match contR n l c with
   | none => none
   | some c => if badR lo c then none else some (n + 1)
def utfR : Nat → List UInt8 → Bool
 | 0, _ => true
 | _ + 1, [] => true
 | k + 1, b :: l => if b.toNat < 128 then utfR k l else match stepR (b :: l) with
  | none => false
  | some n => utfR k ((b :: l).drop n)
def stepN (n m b1 b2 b3 : Nat) : Option Nat :=
 if 192 ≤ m ∧ m < 224 then (if n < 2 ∨ b1 < 128 ∨ 192 ≤ b1 then none else if badR 128 ((m - 192) * 64 + b1 - 128) then none else some 2)
 else if 224 ≤ m ∧ m < 240 then (if n < 3 ∨ b1 < 128 ∨ 192 ≤ b1 ∨ b2 < 128 ∨ 192 ≤ b2 then none else if badR 2048 (((m - 224) * 64 + b1 - 128) * 64 + b2 - 128) then none else some 3)
 else if 240 ≤ m ∧ m < 248 then (if n < 4 ∨ b1 < 128 ∨ 192 ≤ b1 ∨ b2 < 128 ∨ 192 ≤ b2 ∨ b3 < 128 ∨ 192 ≤ b3 then none else if badR 65536 ((((m - 240) * 64 + b1 - 128) * 64 + b2 - 128) * 64 + b3 - 128) then none else some 4)
 else none
end Go.Hb
end

section
namespace Go.Proofs.hq
open Go Go.RowKit Go.Hb
variable {ok : Ok}
set_option maxRecDepth 10000
end Go.Proofs.hq
end

section
namespace Go.Proofs.hq
open Go Go.RowKit Go.Hb
variable {ok : Ok}
set_option maxRecDepth 10000
attribute [local irreducible] LX LG EL STG SOP SGO SGD SAL SRD SEF SEG SLK SCK ES
def canonS (s : ByteArray) : Bool := match parseD (bl s) with | none => false | some n => textD (negS (bl s)) n == bl s
theorem zin {l : List Nat} {n : Nat} (h : parseD l = some n) : n < big := by
 unfold parseD at h
 split at h
 ·cases h
 ·split at h
  ·cases h
  ·exact zic _ 0 n (by rw [zbl]; exact Nat.two_pow_pos _) h
theorem toNat_inj : ∀ {a b : List UInt8}, a.map UInt8.toNat = b.map UInt8.toNat → a = b
 | [], [], _ => rfl
 | x :: a, y :: b, h => by
  simp only [List.map_cons, List.cons.injEq] at h
  rw [UInt8.toNat_inj.1 h.1, toNat_inj h.2]
 | [], _ :: _, h => by simp at h
 | _ :: _, [], h => by simp at h
theorem zkz (t s : ByteArray) : (t.data.toList == s.data.toList) = (bl t == bl s) := by
 by_cases h : t.data.toList = s.data.toList
 ·rw [beq_iff_eq.2 h, beq_iff_eq.2 (show bl t = bl s by unfold bl; rw [h])]
 ·have h2 : bl t ≠ bl s := fun h3 => h (toNat_inj h3)
  rw [beq_eq_false_iff_ne.2 h, beq_eq_false_iff_ne.2 h2]
theorem zgj : TellsS okT 76 canonS := by
 intro s H hs hw
 refine EvF.enter rfl Tryd.func76 (by decide) rfl ?_
 repeat' (first | refine EvC.seq ?_ | refine EvC.scope ?_ | refine EvC.block ?_ | (refine EvC.skip ?_) | (refine EvC.exit ?_) | (refine EvC.ret ?_; try simp only [z01, z00]) | (refine EvC.reg ?_; simp (disch := first | omega | rfl) only [sB, initTm, Nat.reduceEqDiff, reduceCtorEq, cl84]))
 refine (zko hs hw).mono ?_
 rintro v H1 ⟨hP, hx1⟩
 rcases hP with ⟨hnone, e, he, rfl⟩ | ⟨n, L, a, c, hsome, rfl, hr, hLb, hval, hlast, hlen⟩
 ·have hx2 := (hx1.new (some (.row [.bool false, .slice none 0 0] 120))).put (i := H1.next) hx1.next (Nat.lt_succ_self _) (some (.row [.bool false, .slice none 0 0] 120))
  repeat' (first | refine EvC.seq ?_ | refine EvC.scope ?_ | refine EvC.block ?_ | (refine EvC.skip ?_) | (refine EvC.exit ?_) | (refine EvC.ret ?_; try simp only [z01, z00]) | (refine EvC.reg ?_; simp (disch := first | omega | rfl) only [sB, Nat.reduceEqDiff, reduceCtorEq, z4k]) | (refine z0q ?_; simp (disch := first | omega | rfl) only [sB, dAlloc, Nat.reduceEqDiff, Nat.reduceAdd, one, reduceCtorEq, zi4, z8g]) | (refine EvC.condT ?_ ?_; simp (disch := first | omega | rfl) only [sB, Nat.reduceEqDiff, reduceCtorEq]; refine z04 ?_))
  exact z06 rfl (by simp only [sB, Nat.reduceEqDiff, reduceCtorEq] <;> rfl) ⟨by unfold canonS; rw [hnone], hx2⟩
 ·have hn : n < big := zin hsome
  have hx2 := ((HX.refl hx1.wf).new (some (.row [.bool false, .slice none 0 0] 120))).put (i := H1.next) (Nat.le_refl _) (Nat.lt_succ_self _) (some (.row [.bool (negS (bl s) && decide (0 < L.length)), .slice a L.length c] 120))
  repeat' (first | refine EvC.seq ?_ | refine EvC.scope ?_ | refine EvC.block ?_ | (refine EvC.skip ?_; try simp only [z02]) | (refine EvC.exit ?_) | (refine EvC.ret ?_; try simp only [z01, z00]) | (refine EvC.reg ?_; simp (disch := first | omega | rfl) only [sB, Nat.reduceEqDiff, Nat.reduceAdd, reduceCtorEq, cutC, z8h, cl85, z1m]) | (refine z0q ?_; simp (disch := first | omega | rfl) only [sB, dAlloc, Nat.reduceEqDiff, Nat.reduceAdd, one, reduceCtorEq, zi4, z8g]) | (refine EvC.condT ?_ ?_; simp (disch := first | omega | rfl) only [sB, Nat.reduceEqDiff, reduceCtorEq]; refine z04 ?_) | (refine EvC.condF ?_ ?_; simp (disch := first | omega | rfl) only [sB, Nat.reduceEqDiff, reduceCtorEq]; refine z04 ?_))
  refine (zn8 hx2.wf (hr.keep hx2 hx1.wf) hLb hlen hval hn).mono ?_
  rintro v H2 ⟨⟨t, rfl, ht⟩, hx3⟩
  have htx : textD (negS (bl s) && decide (0 < L.length)) n = textD (negS (bl s)) n := by
   by_cases h0 : 0 < L.length
   ·simp [h0]
   ·have : L = [] := List.length_eq_zero_iff.1 (by omega)
    subst this
    have : n = 0 := by rw [← hval]; rfl
    subst this; rfl
  rw [htx] at ht
  have heq : (t.data.toList == s.data.toList) = canonS s := by
   rw [zkz, ht]
   unfold canonS; rw [hsome]
  repeat' (first | refine EvC.seq ?_ | refine EvC.scope ?_ | refine EvC.block ?_ | (refine EvC.skip ?_) | (refine EvC.exit ?_) | (refine EvC.ret ?_; try simp only [z01, z00]) | (refine EvC.reg ?_; simp (disch := first | omega | rfl) only [sB, Nat.reduceEqDiff, reduceCtorEq, z0r, z2d, heq]) | (refine z0q ?_; simp (disch := first | omega | rfl) only [sB, Nat.reduceEqDiff, reduceCtorEq]))
  exact z06 rfl (by simp only [sG, Nat.reduceEqDiff, reduceCtorEq] <;> rfl) ⟨rfl, (hx1.trans hx2).trans hx3⟩
def utfS (s : ByteArray) : Bool := Lib.validD s.data.toList
def fltS (n : Int) : Bool := !(fnB n || fiB n || n == 9223372036854775808)
def nodeS : Tm → Int := nodeE utfS canonS fltS
theorem zda : TellsS okT 75 utfS := fun _ _ hs hw => zkj (by decide) hw hs
theorem zio : TellsN okT 77 78 79 fnB fiB := fun n H hn hw => ⟨zkx (fun _ _ => rfl) (by decide) n H hw, zky (fun f _ _ h => by rcases h with rfl | rfl <;> rfl) (by decide) (by decide) n H hw⟩
theorem zgk : TellsT okT 66 nodeS := fun t cs H r hw => znh (fun _ _ => rfl) (by decide) (fun _ _ => rfl) (by decide) zda zgj zio r hw
theorem z15 : TellsT okT 28 fun t => cnt t 0 := fun t cs H r hw => zkr (fun f _ _ h => by rcases h with rfl | rfl <;> rfl) (by decide) (by decide) r hw
def checkS : Tm → Int := checkE nodeS
theorem z25 : TellsT okT 24 checkS := zku z15 (zbr zgk (fun _ _ => rfl) (by decide)) (fun _ _ => rfl) (by decide)
end Go.Proofs.hq
end

section
namespace Go.Proofs.hq
open Go Go.RowKit Go.Hb
def orZ (a b : Int) : Int := if a = 0 then b else a
theorem zdb (x y : Int) : orZ (-x) (-y) = -(orZ x y) := by
 unfold orZ
 by_cases h : x = 0
 ·subst h; simp
 ·rw [if_neg h, if_neg (by omega)]
theorem z6o {x y : Int} : orZ x y = 0 ↔ x = 0 ∧ y = 0 := by
 unfold orZ
 by_cases h : x = 0
 ·rw [if_pos h]; simp [h]
 ·rw [if_neg h]; simp [h]
theorem z4d {a b : ByteArray} (h : a.toList = b.toList) : a = b := by
 rw [z1b, z1b] at h
 obtain ⟨⟨a⟩⟩ := a; obtain ⟨⟨b⟩⟩ := b
 simp at h; rw [h]
def Fine (t : Tm) : Prop := allE nodeS t = 0
theorem zf2 {E : Tm → Int} : ∀ {l : List Tm}, allL E l = 0 → ∀ u ∈ l, allE E u = 0
 | [], _, u, hu => by simp at hu
 | t :: l, h, u, hu => by
  rw [allL] at h
  split at h
  ·rename_i h0
   rcases List.mem_cons.1 hu with rfl | hu
   ·exact h0
   ·exact zf2 h u hu
  ·rename_i h0; exact absurd h h0
theorem Fine.node {t : Tm} (h : Fine t) : nodeS t = 0 := by
 unfold Fine at h
 rw [z4x] at h
 split at h
 ·assumption
 ·rename_i h0; exact absurd h h0
theorem Fine.args {t : Tm} (h : Fine t) : ∀ u ∈ t.args, Fine u := by
 have h1 := h.node
 unfold Fine at h
 rw [z4x, if_pos h1] at h
 exact zf2 h
theorem z1w {t : Tm} (h : nodeS t = 0) : 1 ≤ t.kind ∧ t.kind ≤ 5 ∧ blankB t = true ∧ 0 ≤ t.var ∧ (t.kind = 5 → 1 ≤ t.args.length ∧ t.args.length ≤ 64) ∧ (t.kind = 3 → canonS t.num = true) ∧ (t.kind = 4 → fltS t.bits = true) ∧ utfS t.name = true ∧ t.name.size ≤ 1000 := by
 unfold nodeS nodeE at h
 split at h
 ·omega
 split at h
 ·omega
 split at h
 ·omega
 split at h
 ·omega
 split at h
 ·omega
 split at h
 ·omega
 split at h
 ·omega
 split at h
 ·omega
 rename_i h1 h2 h3 h4 h5 h6 h7 h8
 refine ⟨by omega, by omega, by simpa using h2, by omega, fun h => ?_, fun h => ?_, fun h => ?_, by simpa using h5, by omega⟩
 ·have := fun q => h4 ⟨h, q⟩; omega
 ·cases hh : canonS t.num with
  | true => rfl
  | false => exact absurd ⟨h, hh⟩ h7
 ·cases hh : fltS t.bits with
  | true => rfl
  | false => exact absurd ⟨h, hh⟩ h8
theorem zmd {s : ByteArray} (h : isE s = true) : s = ByteArray.empty := by
 unfold isE at h
 have h1 : s.toList = [] := by simpa using h
 apply z4d
 rw [h1]
 exact z1c.symm
theorem z0d {t u : Tm} (h : u ∈ t.args) : SizeOf.sizeOf u < SizeOf.sizeOf t := by
 obtain ⟨k, s, w, b, v, l⟩ := t
 exact zez h
theorem z1s {t : Tm} (h : blankB t = true) : (t.kind ≠ 2 → t.kind ≠ 5 → t.name = ByteArray.empty) ∧ (t.kind ≠ 3 → t.num = ByteArray.empty) ∧ (t.kind ≠ 4 → t.bits = 0) ∧ (t.kind ≠ 1 → t.var = 0) ∧ (t.kind ≠ 5 → t.args = []) := by
 unfold blankB at h
 simp only [Bool.and_eq_true, Bool.or_eq_true, beq_iff_eq] at h
 obtain ⟨⟨⟨⟨h1, h2⟩, h3⟩, h4⟩, h5⟩ := h
 refine ⟨fun a b => ?_, fun a => ?_, fun a => ?_, fun a => ?_, fun a => ?_⟩
 ·rcases h1 with (h | h) | h
  ·exact absurd h a
  ·exact absurd h b
  ·exact zmd h
 ·rcases h2 with h | h
  ·exact absurd h a
  ·exact zmd h
 ·rcases h3 with h | h
  ·exact absurd h a
  ·exact h
 ·rcases h4 with h | h
  ·exact absurd h a
  ·exact h
 ·rcases h5 with h | h
  ·exact absurd h a
  ·exact List.length_eq_zero_iff.1 (by omega)
theorem zon {t t' : Tm} (h1 : t.kind = t'.kind) (h2 : t.name = t'.name) (h3 : t.num = t'.num) (h4 : t.bits = t'.bits) (h5 : t.var = t'.var) (h6 : t.args = t'.args) : t = t' := by
 obtain ⟨k, s, u, b, v, l⟩ := t
 obtain ⟨k', s', u', b', v', l'⟩ := t'
 simp only [Tm.kind, Tm.name, Tm.num, Tm.bits, Tm.var, Tm.args] at *
 subst h1 h2 h3 h4 h5 h6; rfl
theorem z0e {t : Tm} : checkS t = 0 ↔ cnt t 0 ≤ 4000 ∧ Fine t := by
 unfold checkS checkE Fine
 by_cases h : 4000 < cnt t 0
 ·rw [if_pos h]; constructor
  ·intro h; omega
  ·intro h; omega
 ·rw [if_neg h]; constructor
  ·intro h'; exact ⟨by omega, h'⟩
  ·intro h'; exact h'.2
end Go.Proofs.hq
end

section
namespace Go.Hb
open Go Go.RowKit
theorem zbs {cs vs : List Value} {o k : Nat} (h : o + vs.length ≤ cs.length) : (splice cs o vs)[k]? = if o ≤ k ∧ k < o + vs.length then vs[k - o]? else cs[k]? := by
 rw [z18 _ _ _ (by omega)]
 simp only [List.getElem?_append, List.getElem?_take, List.getElem?_drop, List.length_take, List.length_append]
 grind
theorem z26 {cs vs : List Value} {o s : Nat} (h : o + s ≤ cs.length) (hv : vs.length = s) : ((splice cs o vs).drop o).take s = vs := by
 apply List.ext_getElem?
 intro k
 rw [List.getElem?_take, List.getElem?_drop, zbs (by omega)]
 by_cases hk : k < s
 ·rw [if_pos hk, if_pos (by omega), show o + k - o = k by omega]
 ·rw [if_neg hk, List.getElem?_eq_none (by omega)]
theorem z1t {cs vs : List Value} {o j s : Nat} (h : o + s ≤ cs.length) (hv : vs.length = s) (hd : j + s ≤ o ∨ o + s ≤ j) : ((splice cs o vs).drop j).take s = (cs.drop j).take s := by
 apply List.ext_getElem?
 intro k
 rw [List.getElem?_take, List.getElem?_drop, zbs (by omega), List.getElem?_take, List.getElem?_drop]
 by_cases hk : k < s
 ·rw [if_pos hk, if_neg (by omega), if_pos hk]
 ·rw [if_neg hk, if_neg hk]
theorem mul6 {i j : Nat} (h : i < j) : i * 6 + 6 ≤ j * 6 := by omega
theorem HX.pt {A H : Heap} (h : HX A H) {i : Nat} {B0 : Blk} (hi : A.next ≤ i) (hg : H.get i = some B0) (B : Option Blk) : HX A (H.put i B) := h.put hi (h.wf i _ hg) B
theorem z0l {H : Heap} (hw : H.wf) (A B : Blk) : ∃ H2, (H.new (some A)).put H.next (some B) = H2 ∧ HX H H2 ∧ H2.get H.next = some B ∧ H2.next = H.next + 1 ∧ H2.wf := by
 have hx := ((HX.refl hw).new (some A)).put (i := H.next) (Nat.le_refl _) (Nat.lt_succ_self _) (some B)
 exact ⟨_, rfl, hx, by rw [get_put, if_pos rfl], rfl, hx.wf⟩
end Go.Hb
namespace Go.Proofs.hq
open Go Go.RowKit Go.Hb
variable {ok : Ok}
set_option maxRecDepth 10000
attribute [local irreducible] LX LG EL STG SOP SGO SGD SAL SRD SEF SEG SLK SCK ES
theorem z4e {t : Tm} (h : Fine t) : t.args.length ≤ 64 := by
 have k := z1w h.node
 by_cases h5 : t.kind = 5
 ·exact (k.2.2.2.2.1 h5).2
 ·rw [(z1s k.2.2.1).2.2.2.2 h5]; exact Nat.zero_le _
abbrev zero6 : List Value := [.int .i64 0, .string ByteArray.empty, .string ByteArray.empty, .int .u64 0, .int .i64 0, .slice none 0 0]
set_option maxHeartbeats 4000000 in
theorem ziq {m : Nat} : ∀ {t : Tm} {cs : List Value} {H : Heap}, SizeOf.sizeOf t < m → RepT H t cs → Fine t → H.wf →
  EvF Tryd.prog okT 73 [.agg ⟨cs⟩] H fun v H' => ∃ cs', v = .agg ⟨cs'⟩ ∧ RepF H' 25 (Rg H.next H'.next) t cs' ∧ HX H H' := by
 induction m with
 | zero => intro t cs H h; omega
 | succ m ih =>
 intro t cs H hsz r hf hw
 have hbd := r.bd
 have hfew := z4e hf
 obtain ⟨a, c, cells, rfl, -, -, -, -, -, rl⟩ := r.six
 refine EvF.enter rfl Tryd.func73 (by decide) rfl ?_
 (repeat refine EvC.seq ?_); refine EvC.reg ?_; simp (disch := first | omega | rfl) only [sB, initTm, dBox, dAlloc, Value.cells, one, zr25]
 obtain ⟨H2, e2, hx2, gp, gq, hn2, hw2⟩ := new2 hw (.row (six t a c) 25) (.row zero6 25)
 simp only [e2]
 have q1 := row6 gp
 clear e2
 have hmost : t.args.length ≤ most := by unfold most; omega
 have ne1 : (H.next + 1 = H.next) = False := by simp
 have ne2 : (H.next = H.next + 1) = False := by simp
 by_cases h0 : t.args.length = 0
 ·have h0' : (t.args.length : Int) = 0 := by omega
  have he : t.args = [] := List.length_eq_zero_iff.1 h0
  repeat' (first | refine EvC.seq ?_ | refine EvC.scope ?_ | refine EvC.block ?_ | (refine EvC.skip ?_) | (refine EvC.exit ?_) | (refine EvC.ret ?_; try simp only [z01, z00]) | (refine EvC.reg ?_; simp (disch := first | omega | rfl) only [sB, Nat.reduceEqDiff, Nat.reduceAdd, one, reduceCtorEq, cutC, z0v, ld23, ln23, st23, ld25, st25, q1, gp, gq, z0r h0', ne1]) | (refine EvC.condT ?_ ?_; simp (disch := first | omega | rfl) only [sB, Nat.reduceEqDiff, reduceCtorEq]; refine z04 ?_))
  have hx3 := (hx2.pt (Nat.le_refl _) gp (some (.row [.int .i64 t.kind, .string t.name, .string t.num, .int .u64 t.bits, .int .i64 t.var, .slice none 0 0] 25))).pt (i := H.next + 1) (Nat.le_succ _) (by rw [get_put, if_neg (by omega)]; exact gq)
   (some (.row [.int .i64 t.kind, .string t.name, .string t.num, .int .u64 t.bits, .int .i64 t.var, .slice none 0 0] 25))
  refine z0a rfl (by simp only [sB, Nat.reduceEqDiff, reduceCtorEq] <;> rfl) (by simp only [sB, Nat.reduceAdd, cutC, ld25]; rfl) ⟨_, rfl, ⟨none, 0, ?_, hbd, ?_⟩, hx3⟩
  ·simp only [six, h0]
  ·rw [he]; exact .nil _
 ·have h0' : (t.args.length : Int) ≠ 0 := by omega
  have ne3 : (H.next = H2.next) = False := by simp; omega
  repeat' (first | refine EvC.seq ?_ | refine EvC.scope ?_ | refine EvC.block ?_ | (refine EvC.skip ?_; try simp only [z02]) | (refine EvC.exit ?_) | (refine EvC.ret ?_; try simp only [z01, z00]) | (refine EvC.reg ?_; simp (disch := first | omega | rfl) only [sB, Nat.reduceEqDiff, reduceCtorEq, cutC, z0v, ld23, ln23, q1, z0t h0', z60 mk23, ne3]) | (refine EvC.condT ?_ ?_; simp (disch := first | omega | rfl) only [sB, Nat.reduceEqDiff, reduceCtorEq]; refine z04 ?_) | (refine EvC.condF ?_ ?_; simp (disch := first | omega | rfl) only [sB, Nat.reduceEqDiff, reduceCtorEq]; refine z04 ?_))
  obtain ⟨H3, e3, hx3, gr, hn3, hw3⟩ := new1 hw2 (.row (repL t.args.length zero6) 25)
  simp only [e3]
  clear e3
  have gp3 := hx3.get hw2 gp
  have gq3 := hx3.get hw2 gq
  have hx23 := hx2.trans hx3
  have hmax := rl.max
  rw [hn2] at gr hn3
  refine EvC.loop (fun k st => ∃ tm H' i cells' Si ai ci, st = ⟨tm, [], H'⟩ ∧ k = t.args.length - i ∧ i ≤ t.args.length ∧
   tm.get 1 = some (.pointer (some ⟨H.next, 0, none⟩)) ∧ tm.get 2 = some (.pointer (some ⟨H.next + 1, 0, none⟩)) ∧ tm.get 3 = some (.slice (some ⟨H.next + 2, 0, none⟩) t.args.length t.args.length) ∧
   tm.get 17 = some (.slice a t.args.length c) ∧ tm.get 18 = some (.int .i64 t.args.length) ∧ tm.get 19 = some (.int .i64 (i : Nat)) ∧
   H'.get H.next = some (.row (six t a c) 25) ∧ H'.get (H.next + 1) = some (.row zero6 25) ∧ H'.get (H.next + 2) = some (.row cells' 25) ∧ cells'.length = t.args.length * 6 ∧
   FLs H' 25 (Rg (H.next + 3) H'.next) (t.args.take i) cells' Si ai ci ∧ HX H H') ?_ t.args.length _ ?_
  ·rintro k st ⟨tm, H', i, cells', Si, ai, ci, rfl, rfl, hi, t1, t2, t3, t17, t18, t19, gp', gq', gr', hlen, hfl, hx'⟩
   have q1 := row6 gp'
   by_cases hlt : i < t.args.length
   ·obtain ⟨b, o, a1, c1, rfl, hld, hr1⟩ := rl.el hlt
    have hld1 := hx'.load hw hld
    repeat' (first | refine EvC.seq ?_ | refine EvC.scope ?_ | refine EvC.block ?_ | (refine EvC.skip ?_; try simp only [z02]) | (refine EvC.exit ?_) | (refine EvC.ret ?_; try simp only [z01, z00]) | (refine EvC.reg ?_; simp (disch := first | omega | rfl) only [sB, dAlloc, Nat.reduceEqDiff, Nat.reduceAdd, one, cutC, zr25, ld25, st25, ia23, cl73, t3, t17, t18, t19, decl hlt, hld1]) | (refine EvC.condT ?_ ?_; simp (disch := first | omega | rfl) only [sB]; refine z04 ?_))
    obtain ⟨H4, e4, hx4, g4, hn4, hw4⟩ := z0l hx'.wf (.row zero6 25) (.row (six t.args[i] a1 c1) 25)
    simp only [e4]
    clear e4
    have hs := z1v (List.getElem?_eq_getElem hlt)
    refine (ih (t := t.args[i]) (by omega) (hr1.mono (hx'.trans hx4) hw) (hf.args _ (List.getElem_mem _)) hw4).mono ?_
    rintro v H5 ⟨cs', rfl, ⟨a2, c2, rfl, hb2, hf2⟩, hx5⟩
    have hx45 := hx4.trans hx5
    have gr5 := hx45.get hx'.wf gr'
    have gp5 := hx45.get hx'.wf gp'
    have gq5 := hx45.get hx'.wf gq'
    have hle : i * 6 + 6 ≤ cells'.length := by rw [hlen]; exact mul6 hlt
    have hln := hx45.next
    have hln2 := hx5.next
    have hlt3 := hx'.wf _ _ gq'
    have hlt4 := hx'.wf _ _ gr'
    repeat' (first | refine EvC.seq ?_ | refine EvC.scope ?_ | refine EvC.block ?_ | (refine EvC.skip ?_) | (refine EvC.exit ?_) | (refine EvC.ret ?_; try simp only [z01, z00]) | (refine EvC.reg ?_; simp (disch := first | omega | rfl) only [sB, Nat.reduceEqDiff, t19, z0c]) | (refine z0q ?_; simp (disch := first | omega | rfl) only [sB, Nat.reduceAdd, one, st25, gr5, hle]))
    have hx6 := (hx'.trans hx45).pt (i := H.next + 2) (by omega) gr5 (some (.row (Hb.splice cells' (i * 6) (six t.args[i] a2 c2)) 25))
    have et : t.args.take (i + 1) = t.args.take i ++ [t.args[i]] := (List.take_append_getElem hlt).symm
    have etl : (t.args.take i).length = i := by rw [List.length_take]; omega
    obtain ⟨Si', ai', ci', hsn⟩ : ∃ Si ai ci, FLs (H5.put (H.next + 2) (some (.row (Hb.splice cells' (i * 6) (six t.args[i] a2 c2)) 25))) 25 (Rg (H.next + 3) H5.next) (t.args.take (i + 1)) (Hb.splice cells' (i * 6) (six t.args[i] a2 c2)) Si ai ci := by
     rw [et]
     refine ⟨_, _, _, hfl.snoc (S' := Rg (H.next + 3) H5.next) (N := Rg H4.next H5.next) (fun n hn hl => ?_) hx'.wf (hf2.heap (fun n hn hl => ?_) hx5.wf) hb2 (fun n hn hs => ?_) (fun n hn => ?_) (fun n hn => ?_) (fun j hj => ?_) ?_⟩
     ·have := hn.1
      rw [get_put, if_neg (by omega)]; exact hx45.keep n hl
     ·have := hn.1
      rw [get_put, if_neg (by omega)]
     ·have := hn.1; have := hs.2; omega
     ·exact ⟨hn.1, by have := hn.2; omega⟩
     ·exact ⟨by have := hn.1; omega, hn.2⟩
     ·rw [etl] at hj
      exact z1t hle rfl (.inl (mul6 hj))
     ·rw [etl]
      exact z26 hle rfl
    exact ⟨t.args.length - (i + 1), by omega, _, _, i + 1, Hb.splice cells' (i * 6) (six t.args[i] a2 c2), Si', ai', ci', rfl, rfl, by omega, (by simp only [sG, Nat.reduceEqDiff, t1] <;> rfl), (by simp only [sG, Nat.reduceEqDiff, t2] <;> rfl), (by simp only [sG, Nat.reduceEqDiff, t3] <;> rfl), (by simp only [sG, Nat.reduceEqDiff, t17] <;> rfl), (by simp only [sG, Nat.reduceEqDiff, t18] <;> rfl), (by simp only [sB, Nat.reduceEqDiff] <;> rfl),
     by rw [get_put, if_neg (by omega)]; exact gp5, by rw [get_put, if_neg (by omega)]; exact gq5, by rw [get_put, if_pos rfl], by rw [z1r hle]; exact hlen, hsn, hx6⟩
   ·repeat' (first | refine EvC.seq ?_ | refine EvC.scope ?_ | refine EvC.block ?_ | (refine EvC.skip ?_) | (refine EvC.exit ?_; try simp only [sB]) | (refine EvC.ret ?_; try simp only [z01, z00]) | (refine EvC.reg ?_; simp (disch := first | omega | rfl) only [sB, Nat.reduceEqDiff, Nat.reduceAdd, one, cutC, z0v, st23, ld25, st25, t1, t2, t3, t18, t19, q1, gp', gq', decn hlt, ne1]) | (refine EvC.condT ?_ ?_; simp (disch := first | omega | rfl) only [sB]; refine z04 ?_) | (refine EvC.condF ?_ ?_; simp (disch := first | omega | rfl) only [sB]; refine z04 ?_))
    have hi' : i = t.args.length := by omega
    have hlt3 := hx'.wf _ _ gr'
    have hx7 := (hx'.pt (Nat.le_refl _) gp' (some (.row (six t (some ⟨H.next + 2, 0, none⟩) t.args.length) 25))).pt (i := H.next + 1) (Nat.le_succ _) (by rw [get_put, if_neg (by omega)]; exact gq')
     (some (.row (six t (some ⟨H.next + 2, 0, none⟩) t.args.length) 25))
    refine z0a rfl (by simp only [sB, Nat.reduceEqDiff, t2] <;> rfl) (by simp only [sB, Nat.reduceAdd, cutC, ld25] <;> rfl) ⟨_, rfl, ⟨some ⟨H.next + 2, 0, none⟩, t.args.length, rfl, hbd, ?_⟩, hx7⟩
    rw [hi', List.take_of_length_le (Nat.le_refl _)] at hfl
    refine (hfl.heap (fun n hn _ => ?_) hx'.wf).row (Nat.le_refl _) (Nat.le_trans hfew (by simp [maxLen])) (cells := cells') ?_ (by omega) ⟨by omega, hlt3⟩ (fun h => ?_) (fun n hn => ⟨by have := hn.1; omega, hn.2⟩)
    ·have := hn.1
     rw [get_put, if_neg (by omega), get_put, if_neg (by omega)]
    ·rw [get_put, if_neg (by omega), get_put, if_neg (by omega)]; exact gr'
    ·have := h.1; omega
  ·refine ⟨_, _, 0, repL t.args.length zero6, fun _ _ => False, fun _ => none, fun _ => 0, rfl, rfl, by omega, (by simp only [sG, Nat.reduceEqDiff, reduceCtorEq] <;> rfl), (by simp only [sG, Nat.reduceEqDiff, reduceCtorEq] <;> rfl), by rw [hn2]; first | (simp only [sG, Nat.reduceEqDiff, reduceCtorEq]; rfl) | simp only [sG, Nat.reduceEqDiff, reduceCtorEq], (by simp only [sG, Nat.reduceEqDiff, reduceCtorEq] <;> rfl), (by simp only [sG, Nat.reduceEqDiff, reduceCtorEq] <;> rfl), (by simp only [sB, Nat.reduceEqDiff, reduceCtorEq] <;> rfl), gp3, gq3, gr, by rw [z3j]; rfl, FLs.nil, hx23⟩
end Go.Proofs.hq
end

section
namespace Go.Hb
open Go Go.RowKit
theorem six_ones {t : Tm} {a : Option Addr} {c : Nat} : (six t a c).all one = true := rfl
theorem z4y {cells : List Value} : ∀ n, n * 6 ≤ cells.length → (∀ i, i < n → ((cells.drop (i * 6)).take 6).all one = true) → (cells.take (n * 6)).all one = true
 | 0, _, _ => by simp
 | n + 1, h, hc => by
  rw [Nat.succ_mul, List.take_add, List.all_append, z4y n (by omega) fun i hi => hc i (by omega), hc n (by omega)]; rfl
theorem zgl {cells : List Value} {i n : Nat} (h : i < n) (vs : List Value) (hn : n * 6 ≤ cells.length) : ((cells.take (n * 6) ++ vs).drop (i * 6)).take 6 = (cells.drop (i * 6)).take 6 := by
 have h1 : (cells.take (n * 6)).length = n * 6 := by rw [List.length_take]; omega
 rw [List.drop_append_of_le_length (by omega), List.take_append_of_le_length (by rw [List.length_drop]; omega), List.drop_take, List.take_take]
 congr 1; omega
theorem FL.push {P : Program} {T t : TypeId} (hp : apOk P t T 6) {H : Heap} {S N S2 : Nat → Prop} {l : List Tm} {u : Tm} {a a' : Option Addr} {c c' c1 : Nat} {ad : Addr} (h : FL H T S l a c) (hw : H.wf)
  (hl : H.load ad (1 * 6) = some (six u a' c')) (hu : FL H T N u.args a' c') (hb : Bd u) (hN : ∀ n, N n → ¬ S n) (hS : ∀ n, S n → n < H.next) (hNl : ∀ n, N n → n < H.next) (hm : l.length + 1 ≤ most) (h2 : ∀ n, S n ∨ N n ∨ n = H.next → S2 n) :
  ∃ H2, dAp P #[t, t] (.slice a l.length c) (.slice (some ad) 1 c1) H = some (.val (.slice (some ⟨H.next, 0, none⟩) (l.length + 1) (l.length + 1)) H2) ∧ FL H2 T S2 (l ++ [u]) (some ⟨H.next, 0, none⟩) (l.length + 1) ∧ HK S H H2 ∧ H2.next = H.next + 1 := by
 have hmax : l.length + 1 ≤ maxLen := Nat.le_trans hm (by simp [most, maxLen])
 cases h with
 | nil =>
  have hx := (HX.refl hw).new (some (.row (six u a' c') T))
  refine ⟨_, z5y hp (by omega) hm hl six_ones, ?_, hx.hk _, rfl⟩
  refine .row S2 [u] H.next 1 (six u a' c') (fun _ => N) (fun _ => a') (fun _ => c') (Nat.le_refl _) hmax z0p (Nat.le_refl _) ?_ ?_ (h2 _ (.inr (.inr rfl))) ?_ ?_ ?_ ?_
  ·intro i v hv
   match i, hv with
   | 0, hv => cases hv; rfl
  ·intro i v hv
   match i, hv with
   | 0, hv => cases hv; exact hb
  ·intro i _ hn; have := hNl _ hn; omega
  ·intro i n _ hn; exact h2 n (.inr (.inl hn))
  ·intro i j n hi hj _ _
   simp at hi hj; omega
  ·intro i v hv
   match i, hv with
   | 0, hv => cases hv; exact hu.keep hx hw
 | row _ _ b c cells Si ai ci h1 h2' h3 h4 h5 h6 h7 h8 h9 h10 h11 =>
  have hcells : (cells.take (l.length * 6)).all one = true := z4y _ h4 fun i hi => by rw [h5 i l[i] (List.getElem?_eq_getElem hi)]; exact six_ones
  have hbn : b < H.next := hw _ _ h3
  have hk : HK S H ((H.put b none).new (some (.row (cells.take (l.length * 6) ++ six u a' c') T))) := ((HK.refl hw).put (.inl h7) hbn none).new _
  have hkeep : ∀ n, n < H.next → n ≠ b → ((H.put b none).new (some (.row (cells.take (l.length * 6) ++ six u a' c') T))).get n = H.get n := fun n hn hne => by
   rw [z1u (by rw [z07]; exact hn), z37 hne]
  refine ⟨_, z5z hp (by omega) hm hl six_ones h3 h4 hcells, ?_, hk, rfl⟩
  have hfs : FLs H T (fun n => ∃ i, i < l.length ∧ Si i n) l cells Si ai ci := ⟨h5, h6, fun i n hi hn => ⟨i, hi, hn⟩, h10, h11⟩
  have hSb : ¬ ∃ i, i < l.length ∧ Si i b := fun ⟨i, hi, hn⟩ => h8 i hi hn
  have hsub : ∀ n, (∃ i, i < l.length ∧ Si i n) → S n := fun n ⟨i, hi, hn⟩ => h9 i n hi hn
  have hlen : (cells.take (l.length * 6)).length = l.length * 6 := by rw [List.length_take]; omega
  have hs := hfs.snoc (H' := (H.put b none).new (some (.row (cells.take (l.length * 6) ++ six u a' c') T))) (S' := fun n => (∃ i, i < l.length ∧ Si i n) ∨ N n) (N := N) (cells' := cells.take (l.length * 6) ++ six u a' c') (t := u) (a := a') (c := c')
   (fun n hn hl => hkeep n hl (fun e => hSb (e ▸ hn))) hw (hu.heap (fun n hn hl => hkeep n hl fun e => hN n hn (e ▸ h7)) hw) hb (fun n hn hq => hN n hn (hsub n hq)) (fun n hn => .inl hn) (fun n hn => .inr hn)
   (fun i hi => zgl hi _ h4) (by
    rw [List.drop_append_of_le_length (by omega), List.drop_eq_nil_of_le (by omega)]; rfl)
  refine hs.row (S' := S2) (by simp) hmax z0p (by simp; omega) (h2 _ (.inr (.inr rfl))) (fun hq => ?_) (fun n hn => ?_)
  ·rcases hq with hq | hq
   ·have := hS _ (hsub _ hq); simp at this
   ·have := hNl _ hq; simp at this
  ·rcases hn with hn | hn
   ·exact h2 n (.inl (hsub n hn))
   ·exact h2 n (.inr (.inl hn))
end Go.Hb
namespace Go.Proofs.hq
open Go Go.RowKit Go.Hb
variable {ok : Ok}
set_option maxRecDepth 10000
attribute [local irreducible] LX LG EL STG SOP SGO SGD SAL SRD SEF SEG SLK SCK ES
inductive Few (n : Nat) : Tm → Prop
 | mk {t : Tm} : t.args.length ≤ n → (∀ u ∈ t.args, Few n u) → Few n t
theorem Few.len {n : Nat} {t : Tm} (h : Few n t) : t.args.length ≤ n := by cases h; assumption
theorem Few.args {n : Nat} {t : Tm} (h : Few n t) : ∀ u ∈ t.args, Few n u := by cases h; assumption
theorem Few.up {n m : Nat} {t : Tm} (f : Few n t) (h : n ≤ m) : Few m t := by
 induction f with
 | mk h1 _ ih => exact .mk (Nat.le_trans h1 h) ih
theorem Fine.few : ∀ (m : Nat) {t : Tm}, SizeOf.sizeOf t < m → Fine t → Few 64 t
 | 0, _, h, _ => by omega
 | m + 1, t, h, f => .mk (z4e f) fun u hu => Fine.few m (by have := z0d hu; omega) (f.args u hu)
end Go.Proofs.hq
end

section
namespace Go.Hb
open Go Go.RowKit
theorem FL.inv {H : Heap} {T : TypeId} {S : Nat → Prop} {l : List Tm} {a : Option Addr} {c : Nat} (h : FL H T S l a c) : (l = [] ∧ a = none ∧ c = 0) ∨ ∃ b cells Si ai ci, a = some ⟨b, 0, none⟩ ∧ l.length ≤ c ∧ c ≤ maxLen ∧
  H.get b = some (.row cells T) ∧ l.length * 6 ≤ cells.length ∧ S b ∧ (∀ i, i < l.length → ¬ Si i b) ∧ FLs H T S l cells Si ai ci := by
 cases h with
 | nil => exact .inl ⟨rfl, rfl, rfl⟩
 | row _ _ b c cells Si ai ci h1 h2 h3 h4 h5 h6 h7 h8 h9 h10 h11 => exact .inr ⟨b, cells, Si, ai, ci, rfl, h1, h2, h3, h4, h7, h8, ⟨h5, h6, h9, h10, h11⟩⟩
end Go.Hb
namespace Go.Proofs.hq
open Go Go.RowKit Go.Hb
variable {ok : Ok}
set_option maxRecDepth 10000
attribute [local irreducible] LX LG EL STG SOP SGO SGD SAL SRD SEF SEG SLK SCK ES
abbrev mark6 (k : Int) (s : ByteArray) : List Value := [.int .i64 k, .string s, .string ByteArray.empty, .int .u64 0, .int .i64 0, .slice none 0 0]
end Go.Proofs.hq
end

section
namespace Go.Proofs.hq
open Go Go.RowKit Go.Hb
variable {ok : Ok}
set_option maxRecDepth 10000
attribute [local irreducible] LX LG EL STG SOP SGO SGD SAL SRD SEF SEG SLK SCK ES
noncomputable def eqT (t t' : Tm) : Bool := @decide (t = t') (Classical.propDecidable _)
theorem zl0 {t t' : Tm} (h : t = t') : eqT t t' = true := by unfold eqT; exact @decide_eq_true _ (Classical.propDecidable _) h
theorem zbt {t t' : Tm} (h : t ≠ t') : eqT t t' = false := by unfold eqT; exact @decide_eq_false _ (Classical.propDecidable _) h
theorem z39 {a b : ByteArray} (h : a = b) : (a.toList == b.toList) = true := by rw [h]; exact beq_self_eq_true _
theorem zir {a b : ByteArray} (h : a ≠ b) : (a.toList == b.toList) = false := by
 rw [beq_eq_false_iff_ne]; exact fun q => h (z4d q)
set_option maxHeartbeats 4000000 in
theorem znj {m : Nat} : ∀ {t t' : Tm} {cs cs' : List Value} {H : Heap}, SizeOf.sizeOf t < m → RepT H t cs → RepT H t' cs' → H.wf →
  EvF Tryd.prog okT 12 [.agg ⟨cs⟩, .agg ⟨cs'⟩] H fun v H' => v = .bool (eqT t t') ∧ HX H H' := by
 induction m with
 | zero => intro t t' cs cs' H h; omega
 | succ m ih =>
 intro t t' cs cs' H hsz r r' hw
 obtain ⟨a, c, cells, rfl, b1, b2, b3, b4, b5, rl⟩ := r.six
 obtain ⟨a', c', cells', rfl, b1', b2', b3', b4', b5', rl'⟩ := r'.six
 refine EvF.enter rfl Tryd.func12 (by decide) rfl ?_
 (repeat refine EvC.seq ?_); refine EvC.reg ?_; simp (config := { maxSteps := 2000000 }) (disch := first | omega | rfl) only [sB, initTm, dBox, Nat.reduceEqDiff, Value.cells, one, reduceCtorEq]
 obtain ⟨H2, e2, hx2, gp, gq, hnx, hw2⟩ := new2 hw (.row (six t a c) 25) (.row (six t' a' c') 25)
 simp only [e2]
 have q1 := row6 gp
 have q2 := row6 gq
 clear e2
 by_cases k1 : t.kind = t'.kind
 rotate_left
 ·repeat' (first | refine EvC.seq ?_ | refine EvC.scope ?_ | refine EvC.block ?_ | (refine EvC.skip ?_) | (refine EvC.exit ?_) | (refine EvC.ret ?_; try simp only [z01, z00]) | (refine EvC.reg ?_; simp (config := { maxSteps := 2000000 }) (disch := first | omega | rfl) only [sB, Nat.reduceEqDiff, reduceCtorEq, z0m, ld3, z4k k1, q1, q2]) | (refine EvC.condT ?_ ?_; simp (config := { maxSteps := 2000000 }) (disch := first | omega | rfl) only [sB, Nat.reduceEqDiff, reduceCtorEq]; refine z04 ?_))
  exact z06 rfl (by simp only [sB, Nat.reduceEqDiff, reduceCtorEq] <;> rfl) ⟨by rw [zbt (fun h => k1 (by rw [h]))], hx2⟩
 by_cases k2 : t.name = t'.name
 rotate_left
 ·repeat' (first | refine EvC.seq ?_ | refine EvC.scope ?_ | refine EvC.block ?_ | (refine EvC.skip ?_) | (refine EvC.exit ?_) | (refine EvC.ret ?_; try simp only [z01, z00]) | (refine EvC.reg ?_; simp (config := { maxSteps := 2000000 }) (disch := first | omega | rfl) only [sB, Nat.reduceEqDiff, reduceCtorEq, z0m, ld3, z2e, ld9, z1m k1, q1, q2, z2c, zir k2, Bool.not_false, Bool.false_eq_true]) | (refine EvC.condT ?_ ?_; simp (config := { maxSteps := 2000000 }) (disch := first | omega | rfl) only [sB, Nat.reduceEqDiff, reduceCtorEq]; refine z04 ?_))
  exact z06 rfl (by simp only [sB, Nat.reduceEqDiff, reduceCtorEq] <;> rfl) ⟨by rw [zbt (fun h => k2 (by rw [h]))], hx2⟩
 by_cases k3 : t.num = t'.num
 rotate_left
 ·repeat' (first | refine EvC.seq ?_ | refine EvC.scope ?_ | refine EvC.block ?_ | (refine EvC.skip ?_) | (refine EvC.exit ?_) | (refine EvC.ret ?_; try simp only [z01, z00]) | (refine EvC.reg ?_; simp (config := { maxSteps := 2000000 }) (disch := first | omega | rfl) only [sB, Nat.reduceEqDiff, reduceCtorEq, z0m, ld3, z2e, ld9, z8w, z1m k1, q1, q2, z2c, z39 k2, zir k3, Bool.not_false, Bool.not_true, Bool.false_eq_true]) | (refine EvC.condT ?_ ?_; simp (config := { maxSteps := 2000000 }) (disch := first | omega | rfl) only [sB, Nat.reduceEqDiff, reduceCtorEq]; refine z04 ?_))
  exact z06 rfl (by simp only [sB, Nat.reduceEqDiff, reduceCtorEq] <;> rfl) ⟨by rw [zbt (fun h => k3 (by rw [h]))], hx2⟩
 by_cases k4 : t.bits = t'.bits
 rotate_left
 ·repeat' (first | refine EvC.seq ?_ | refine EvC.scope ?_ | refine EvC.block ?_ | (refine EvC.skip ?_) | (refine EvC.exit ?_) | (refine EvC.ret ?_; try simp only [z01, z00]) | (refine EvC.reg ?_; simp (config := { maxSteps := 2000000 }) (disch := first | omega | rfl) only [sB, Nat.reduceEqDiff, reduceCtorEq, z0m, ld3, z2e, ld9, z8w, zbk, ld22, z1m k1, q1, q2, z2c, z39 k2, z39 k3, z4k k4, Bool.not_true, Bool.false_eq_true]) | (refine EvC.condT ?_ ?_; simp (config := { maxSteps := 2000000 }) (disch := first | omega | rfl) only [sB, Nat.reduceEqDiff, reduceCtorEq]; refine z04 ?_))
  exact z06 rfl (by simp only [sB, Nat.reduceEqDiff, reduceCtorEq] <;> rfl) ⟨by rw [zbt (fun h => k4 (by rw [h]))], hx2⟩
 by_cases k5 : t.var = t'.var
 rotate_left
 ·repeat' (first | refine EvC.seq ?_ | refine EvC.scope ?_ | refine EvC.block ?_ | (refine EvC.skip ?_) | (refine EvC.exit ?_) | (refine EvC.ret ?_; try simp only [z01, z00]) | (refine EvC.reg ?_; simp (config := { maxSteps := 2000000 }) (disch := first | omega | rfl) only [sB, Nat.reduceEqDiff, reduceCtorEq, z0m, ld3, z2e, ld9, z8w, zbk, ld22, z7m, z1m k1, q1, q2, z2c, z39 k2, z39 k3, z1m k4, z4k k5, Bool.not_true, Bool.false_eq_true]) | (refine EvC.condT ?_ ?_; simp (config := { maxSteps := 2000000 }) (disch := first | omega | rfl) only [sB, Nat.reduceEqDiff, reduceCtorEq]; refine z04 ?_))
  exact z06 rfl (by simp only [sB, Nat.reduceEqDiff, reduceCtorEq] <;> rfl) ⟨by rw [zbt (fun h => k5 (by rw [h]))], hx2⟩
 by_cases k6 : (t.args.length : Int) = t'.args.length
 rotate_left
 ·repeat' (first | refine EvC.seq ?_ | refine EvC.scope ?_ | refine EvC.block ?_ | (refine EvC.skip ?_) | (refine EvC.exit ?_) | (refine EvC.ret ?_; try simp only [z01, z00]) | (refine EvC.reg ?_; simp (config := { maxSteps := 2000000 }) (disch := first | omega | rfl) only [sB, Nat.reduceEqDiff, reduceCtorEq, z0m, ld3, z2e, ld9, z8w, zbk, ld22, z7m, z0v, ld23, ln23, z1m k1, q1, q2, z2c, z39 k2, z39 k3, z1m k4, z1m k5, z4k k6, Bool.not_true, Bool.false_eq_true]) | (refine EvC.condT ?_ ?_; simp (config := { maxSteps := 2000000 }) (disch := first | omega | rfl) only [sB, Nat.reduceEqDiff, reduceCtorEq]; refine z04 ?_))
  exact z06 rfl (by simp only [sB, Nat.reduceEqDiff, reduceCtorEq] <;> rfl) ⟨by rw [zbt (fun h => k6 (by rw [h]))], hx2⟩
 repeat' (first | refine EvC.seq ?_ | refine EvC.scope ?_ | refine EvC.block ?_ | (refine EvC.skip ?_; try simp only [z02]) | (refine EvC.exit ?_) | (refine EvC.ret ?_; try simp only [z01, z00]) | (refine EvC.reg ?_; simp (config := { maxSteps := 2000000 }) (disch := first | omega | rfl) only [sB, Nat.reduceEqDiff, reduceCtorEq, z0m, ld3, z2e, ld9, z8w, zbk, ld22, z7m, z0v, ld23, ln23, z1m k1, q1, q2, z2c, z39 k2, z39 k3, z1m k4, z1m k5, z1m k6, Bool.not_true, Bool.false_eq_true]) | (refine EvC.condT ?_ ?_; simp (config := { maxSteps := 2000000 }) (disch := first | omega | rfl) only [sB, Nat.reduceEqDiff, reduceCtorEq]; refine z04 ?_) | (refine EvC.condF ?_ ?_; simp (config := { maxSteps := 2000000 }) (disch := first | omega | rfl) only [sB, Nat.reduceEqDiff, reduceCtorEq]; refine z04 ?_))
 have hlen : t.args.length = t'.args.length := by omega
 have hm := rl.max
 refine EvC.loop (fun k st => ∃ tm H' i, st = ⟨tm, [], H'⟩ ∧ k = t.args.length - i ∧ i ≤ t.args.length ∧ (∀ j, j < i → t.args[j]? = t'.args[j]?) ∧
   tm.get 2 = some (.pointer (some ⟨H.next, 0, none⟩)) ∧ tm.get 3 = some (.pointer (some ⟨H.next + 1, 0, none⟩)) ∧ tm.get 5 = some (.int .i64 (i : Nat)) ∧
   H'.get H.next = some (.row (six t a c) 25) ∧ H'.get (H.next + 1) = some (.row (six t' a' c') 25) ∧ HX H H') ?_ t.args.length _ ?_
 ·rintro k st ⟨tm, H', i, rfl, rfl, hi, hc, t2, t3, t5, gp', gq', hx'⟩
  have q1 := row6 gp'
  have q2 := row6 gq'
  by_cases hlt : i < t.args.length
  ·have hlt' : i < t'.args.length := by omega
   obtain ⟨b, o, a1, c1, rfl, hld, hr1⟩ := rl.el hlt
   obtain ⟨b', o', a2, c2, rfl, hld', hr2⟩ := rl'.el hlt'
   have hld1 := hx'.load hw hld
   have hld2 := hx'.load hw hld'
   repeat' (first | refine EvC.seq ?_ | refine EvC.scope ?_ | refine EvC.block ?_ | (refine EvC.skip ?_; try simp only [z02]) | (refine EvC.exit ?_) | (refine EvC.ret ?_; try simp only [z01, z00]) | (refine EvC.reg ?_; simp (config := { maxSteps := 2000000 }) (disch := first | omega | rfl) only [sB, Nat.reduceEqDiff, z0v, ld23, ln23, t2, t5, q1, decl hlt]) | (refine EvC.drw [([(0, 0), (1, 0), (2, 0), (3, 0), (4, 0), (5, 0), (6, 0), (7, 0), (8, 0), (9, 0)], some 10), ([(11, 1)], none)] ?_ ?_; kernel_rfl; simp (config := { maxSteps := 2000000 }) (disch := first | omega | rfl) only [sD, sB, Nat.reduceEqDiff, Nat.reduceAdd, reduceCtorEq, z0v, ld23, ia23, ld25, cl12, t2, t3, t5, q1, q2, hld1, hld2, isAlloc, isRead, reduceCtorEq]) | (refine EvC.condT ?_ ?_; simp (config := { maxSteps := 2000000 }) (disch := first | omega | rfl) only [sB, Nat.reduceEqDiff]; refine z04 ?_))
   have hb := hx'.bump 12
   have hs := z1v (List.getElem?_eq_getElem hlt)
   refine (ih (t := t.args[i]) (t' := t'.args[i]) (by omega) (hr1.mono hb hw) (hr2.mono hb hw) hb.wf).mono ?_
   rintro v H4 ⟨rfl, hx4⟩
   have hx5 := hb.trans hx4
   by_cases he : t.args[i] = t'.args[i]
   ·repeat' (first | refine EvC.seq ?_ | refine EvC.scope ?_ | refine EvC.block ?_ | (refine EvC.skip ?_; try simp only [sA]) | (refine EvC.exit ?_) | (refine EvC.ret ?_; try simp only [z01, z00]) | (refine EvC.reg ?_; simp (config := { maxSteps := 2000000 }) (disch := first | omega | rfl) only [sB, Nat.reduceEqDiff, Bool.not_true, t5, z0c]) | (refine z0u ?_; simp (config := { maxSteps := 2000000 }) (disch := first | omega | rfl) only [sD, sB, Nat.reduceEqDiff, zl0 he, isAlloc, isRead]) | (refine EvC.condT ?_ ?_; simp (config := { maxSteps := 2000000 }) (disch := first | omega | rfl) only [sB, Nat.reduceEqDiff]; refine z04 ?_) | (refine EvC.condF ?_ ?_; simp (config := { maxSteps := 2000000 }) (disch := first | omega | rfl) only [sB, Nat.reduceEqDiff]; refine z04 ?_))
    refine ⟨t.args.length - (i + 1), by omega, _, _, i + 1, rfl, rfl, by omega, fun j hj => ?_, (by simp only [sG, Nat.reduceEqDiff, t2] <;> rfl), (by simp only [sG, Nat.reduceEqDiff, t3] <;> rfl), (by simp only [sB, Nat.reduceEqDiff] <;> rfl), hx4.get hb.wf gp', hx4.get hb.wf gq', hx5⟩
    by_cases hji : j = i
    ·subst hji; rw [List.getElem?_eq_getElem hlt, List.getElem?_eq_getElem hlt', he]
    ·exact hc j (by omega)
   ·repeat' (first | refine EvC.seq ?_ | refine EvC.scope ?_ | refine EvC.block ?_ | (refine EvC.skip ?_) | (refine EvC.exit ?_) | (refine EvC.ret ?_; try simp only [z01, z00]) | (refine EvC.reg ?_; simp (config := { maxSteps := 2000000 }) (disch := first | omega | rfl) only [sB, Nat.reduceEqDiff, Bool.not_false]) | (refine z0u ?_; simp (config := { maxSteps := 2000000 }) (disch := first | omega | rfl) only [sD, sB, Nat.reduceEqDiff, zbt he, isAlloc, isRead]) | (refine EvC.condT ?_ ?_; simp (config := { maxSteps := 2000000 }) (disch := first | omega | rfl) only [sB, Nat.reduceEqDiff]; refine z04 ?_))
    refine z06 rfl (by simp only [sB, Nat.reduceEqDiff] <;> rfl) ⟨?_, hx5⟩
    rw [zbt]
    rintro rfl
    exact he rfl
  ·repeat' (first | refine EvC.seq ?_ | refine EvC.scope ?_ | refine EvC.block ?_ | (refine EvC.skip ?_) | (refine EvC.exit ?_; try simp only [sB]) | (refine EvC.ret ?_; try simp only [z01, z00]) | (refine EvC.reg ?_; simp (config := { maxSteps := 2000000 }) (disch := first | omega | rfl) only [sB, Nat.reduceEqDiff, z0v, ld23, ln23, t2, t5, q1, decn hlt]) | (refine EvC.condT ?_ ?_; simp (config := { maxSteps := 2000000 }) (disch := first | omega | rfl) only [sB, Nat.reduceEqDiff]; refine z04 ?_) | (refine EvC.condF ?_ ?_; simp (config := { maxSteps := 2000000 }) (disch := first | omega | rfl) only [sB, Nat.reduceEqDiff]; refine z04 ?_))
   refine z06 rfl (by simp only [sB, Nat.reduceEqDiff] <;> rfl) ⟨?_, hx'⟩
   rw [zl0]
   refine zon k1 k2 k3 k4 k5 (List.ext_getElem? fun j => ?_)
   by_cases hj : j < i
   ·exact hc j hj
   ·rw [List.getElem?_eq_none (by omega), List.getElem?_eq_none (by omega)]
 ·exact ⟨_, _, 0, rfl, rfl, by omega, by omega, (by simp only [sG, Nat.reduceEqDiff, reduceCtorEq] <;> rfl), (by simp only [sG, Nat.reduceEqDiff, reduceCtorEq] <;> rfl), (by simp only [sB, Nat.reduceEqDiff, reduceCtorEq] <;> rfl), gp, gq, hx2⟩
theorem z90 {t t' : Tm} {cs cs' : List Value} {H : Heap} (r : RepT H t cs) (r' : RepT H t' cs') (hw : H.wf) :
  EvF Tryd.prog okT 12 [.agg ⟨cs⟩, .agg ⟨cs'⟩] H fun v H' => v = .bool (eqT t t') ∧ HX H H' := znj (Nat.lt_succ_self _) r r' hw
end Go.Proofs.hq
end

section
namespace Go.Hb
open Go Go.RowKit
def ApV (S : Nat → Prop) (H0 H : Heap) (T : TypeId) (v : Value) (n : Nat) : Prop :=
 (n = 0 ∧ v = .slice none 0 0) ∨ ∃ b cells c, v = .slice (some ⟨b, 0, none⟩) n c ∧ H.get b = some (.row cells T) ∧ n * 6 ≤ cells.length ∧ (cells.take (n * 6)).all one = true ∧ (S b ∨ H0.next ≤ b)
theorem ApV.push {P : Program} {T t : TypeId} (hp : apOk P t T 6) {S : Nat → Prop} {H0 H : Heap} {v : Value} {n c1 : Nat} {ad : Addr} {cs : List Value} (h : ApV S H0 H T v n) (hk : HK S H0 H) (hl : H.load ad (1 * 6) = some cs) (hc : cs.all one = true) (hlc : cs.length = 6) (hm : n + 1 ≤ most) :
  ∃ H2 v2, dAp P #[t, t] v (.slice (some ad) 1 c1) H = some (.val v2 H2) ∧ ApV S H0 H2 T v2 (n + 1) ∧ HK S H0 H2 := by
 rcases h with ⟨rfl, rfl⟩ | ⟨b, cells, c, rfl, hg, hn, ho, hb⟩
 ·refine ⟨_, _, z5y hp (by omega) hm hl hc, .inr ⟨H.next, cs, 1, rfl, z0p, by omega, ?_, .inr hk.next⟩, hk.new _⟩
  rw [List.take_of_length_le (by omega)]; exact hc
 ·refine ⟨_, _, z5z hp (by omega) hm hl hc hg hn ho, .inr ⟨H.next, _, _, rfl, z0p, ?_, ?_, .inr hk.next⟩, (hk.put hb (hk.wf _ _ hg) none).new _⟩
  ·simp; omega
  ·rw [List.take_of_length_le (by simp; omega), List.all_append, ho, hc]; rfl
end Go.Hb
namespace Go.Proofs.hq
open Go Go.RowKit Go.Hb
variable {ok : Ok}
set_option maxRecDepth 10000
attribute [local irreducible] LX LG EL STG SOP SGO SGD SAL SRD SEF SEG SLK SCK ES
noncomputable def eqL (l l' : List Tm) : Bool := @decide (l = l') (Classical.propDecidable _)
end Go.Proofs.hq
end

section
namespace Go.Hb
open Go Go.RowKit
section
variable {P : Program} {ok : Ok} {x : Ctx}
theorem EvR.go {l : Nat} {args : List Value} {H : Heap} {K : Value → Heap → Prop} {fn : FuncId} {tm : Tr Value} {ps : List Tmp} {aa bo : Code} {dd : Nat} (hg : H.get l = some (.loop .ready none fn tm ps aa bo dd)) (hl : args.length = ps.length)
  (h : EvC P ok ⟨fn, some l⟩ aa ⟨(ps.zip args).foldl (fun t p => t.put p.1 (some p.2)) tm, [], H⟩ fun e st1 => e = .normal ∧ st1.H.get l = some (.loop .ready none fn tm ps aa bo dd) ∧
   EvC P ok ⟨fn, some l⟩ bo ⟨st1.tm, st1.ds, st1.H.put l (some (.loop .busy none fn tm ps aa bo dd))⟩ fun e st2 => e = .normal ∧ st2.H.get l = some (.loop .busy none fn tm ps aa bo dd) ∧
    K (.bool true) (st2.H.put l (some (.loop .ready none fn tm ps aa bo dd)))) : EvR P ok l args H K := by
 obtain ⟨N, ⟨e, st1⟩, h1, he, hg1, N2, ⟨e2, st2⟩, h2, he2, hg2, hk⟩ := h
 simp only at he he2
 subst he he2
 refine ⟨max N N2 + 1, (.bool true, st2.H.put l (some (.loop .ready none fn tm ps aa bo dd))), fun n hn => ?_, hk⟩
 obtain ⟨m, rfl⟩ : ∃ m, n = m + 1 := ⟨n - 1, by omega⟩
 have c1 := h1 m (by omega)
 have c2 := h2 m (by omega)
 have hb : Nat.beq args.length ps.length = true := by rw [Nat.beq_eq]; exact hl
 simp only at hg1 hg2 c2
 show dround P ok (m + 1) l args H = _
 rw [dround]
 simp only [hg, hb, if_true, c1, hg1, c2, dendRound, hg2]
theorem EvR.mono {l : Nat} {args : List Value} {H : Heap} {K L : Value → Heap → Prop} (h : EvR P ok l args H K) (k : ∀ v H', K v H' → L v H') : EvR P ok l args H L := Upon.mono h fun _ hq => k _ _ hq
end
end Go.Hb
end

section
namespace Go.Proofs.hq
open Go Go.RowKit Go.Hb
variable {ok : Ok}
set_option maxRecDepth 10000
attribute [local irreducible] LX LG EL STG SOP SGO SGD SAL SRD SEF SEG SLK SCK ES
def chkL : List Tm → Int
 | [] => 0
 | t :: l => if checkS t = 0 then chkL l else checkS t
theorem zbu {l : List Tm} {i : Nat} (h : i < l.length) : chkL (l.drop i) = if checkS l[i] = 0 then chkL (l.drop (i + 1)) else checkS l[i] := by
 rw [List.drop_eq_getElem_cons h, chkL]
theorem z7s : ∀ {l : List Tm}, chkL l = 0 → ∀ t ∈ l, checkS t = 0
 | [], _, t, h => by simp at h
 | u :: l, h, t, ht => by
  rw [chkL] at h
  split at h
  ·rename_i h0
   rcases List.mem_cons.1 ht with rfl | ht
   ·exact h0
   ·exact z7s h t ht
  ·rename_i h0; exact absurd h h0
theorem zbv {l : List Tm} {a : Option Addr} {c : Nat} {cells : Nat → List Value} {H : Heap} (rl : RepL H l a c cells) (hw : H.wf) :
  EvF Tryd.prog okT 62 [.slice a l.length c] H fun v H' => v = .int .i64 (chkL l) ∧ HX H H' := by
 have hm := rl.max
 refine EvF.enter rfl Tryd.func62 (by decide) rfl ?_
 repeat' (first | refine EvC.seq ?_ | refine EvC.scope ?_ | refine EvC.block ?_ | (refine EvC.skip ?_) | (refine EvC.exit ?_) | (refine EvC.ret ?_; try simp only [z01, z00]) | (refine EvC.reg ?_; simp (config := { maxSteps := 2000000 }) (disch := first | omega | rfl) only [sB, initTm, Nat.reduceEqDiff, reduceCtorEq, ln23]))
 refine EvC.loop (fun k st => ∃ tm H' i, st = ⟨tm, [], H'⟩ ∧ k = l.length - i ∧ i ≤ l.length ∧ chkL (l.drop i) = chkL l ∧ tm.get 6 = some (.slice a l.length c) ∧ tm.get 7 = some (.int .i64 l.length) ∧ tm.get 8 = some (.int .i64 (i : Nat)) ∧ HX H H') ?_ l.length _ ?_
 ·rintro k st ⟨tm, H', i, rfl, rfl, hi, hc, g6, g7, g8, hx⟩
  by_cases hlt : i < l.length
  ·obtain ⟨b, o, a1, c1, rfl, hld, hr⟩ := rl.el hlt
   have hld1 := hx.load hw hld
   repeat' (first | refine EvC.seq ?_ | refine EvC.scope ?_ | refine EvC.block ?_ | (refine EvC.skip ?_; try simp only [z02]) | (refine EvC.exit ?_) | (refine EvC.ret ?_; try simp only [z01, z00]) | (refine EvC.reg ?_; simp (config := { maxSteps := 2000000 }) (disch := first | omega | rfl) only [sB, dAlloc, Nat.reduceEqDiff, Nat.reduceAdd, one, cutC, ia23, ld25, zr25, st25, cl24, g6, g7, g8, decl hlt, hld1]) | (refine EvC.condT ?_ ?_; simp (config := { maxSteps := 2000000 }) (disch := first | omega | rfl) only [sB]; refine z04 ?_))
   have hx2 := (hx.new (some (.row [.int .i64 0, .string ByteArray.empty, .string ByteArray.empty, .int .u64 0, .int .i64 0, .slice none 0 0] 25))).put (i := H'.next) hx.next (Nat.lt_succ_self _) (some (.row (six l[i] a1 c1) 25))
   refine (z25 _ _ _ (hr.mono hx2 hw) hx2.wf).mono ?_
   rintro v H3 ⟨rfl, hx3⟩
   by_cases h0 : checkS l[i] = 0
   ·repeat' (first | refine EvC.seq ?_ | refine EvC.scope ?_ | refine EvC.block ?_ | (refine EvC.skip ?_; try simp only [sA]) | (refine EvC.exit ?_) | (refine EvC.ret ?_; try simp only [z01, z00]) | (refine EvC.reg ?_; simp (config := { maxSteps := 2000000 }) (disch := first | omega | rfl) only [sB, Nat.reduceEqDiff, g8, z1m h0, z0c]) | (refine EvC.condT ?_ ?_; simp (config := { maxSteps := 2000000 }) (disch := first | omega | rfl) only [sB, Nat.reduceEqDiff]; refine z04 ?_) | (refine EvC.condF ?_ ?_; simp (config := { maxSteps := 2000000 }) (disch := first | omega | rfl) only [sB, Nat.reduceEqDiff]; refine z04 ?_))
    exact ⟨l.length - (i + 1), by omega, _, _, i + 1, rfl, rfl, by omega, by rw [← hc, zbu hlt, if_pos h0], (by simp only [sG, Nat.reduceEqDiff, g6] <;> rfl), (by simp only [sG, Nat.reduceEqDiff, g7] <;> rfl), (by simp only [sB, Nat.reduceEqDiff] <;> rfl), hx2.trans hx3⟩
   ·repeat' (first | refine EvC.seq ?_ | refine EvC.scope ?_ | refine EvC.block ?_ | (refine EvC.skip ?_) | (refine EvC.exit ?_) | (refine EvC.ret ?_; try simp only [z01, z00]) | (refine EvC.reg ?_; simp (config := { maxSteps := 2000000 }) (disch := first | omega | rfl) only [sB, Nat.reduceEqDiff, z4k h0]) | (refine EvC.condT ?_ ?_; simp (config := { maxSteps := 2000000 }) (disch := first | omega | rfl) only [sB, Nat.reduceEqDiff]; refine z04 ?_))
    exact z06 rfl (by simp only [sB, Nat.reduceEqDiff] <;> rfl) ⟨by rw [← hc, zbu hlt, if_neg h0], hx2.trans hx3⟩
  ·repeat' (first | refine EvC.seq ?_ | refine EvC.scope ?_ | refine EvC.block ?_ | (refine EvC.skip ?_) | (refine EvC.exit ?_; try simp only [sB]) | (refine EvC.ret ?_; try simp only [z01, z00]) | (refine EvC.reg ?_; simp (config := { maxSteps := 2000000 }) (disch := first | omega | rfl) only [sA, g7, g8, decn hlt]) | (refine EvC.condT ?_ ?_; simp (config := { maxSteps := 2000000 }) (disch := first | omega | rfl) only [sB]; refine z04 ?_) | (refine EvC.condF ?_ ?_; simp (config := { maxSteps := 2000000 }) (disch := first | omega | rfl) only [sB]; refine z04 ?_))
   exact z06 rfl (by simp only [sB, Nat.reduceEqDiff] <;> rfl) ⟨by rw [← hc, List.drop_of_length_le (by omega), chkL], hx⟩
 ·exact ⟨_, _, 0, rfl, rfl, by omega, rfl, (by simp only [sG, Nat.reduceEqDiff, reduceCtorEq] <;> rfl), (by simp only [sG, Nat.reduceEqDiff, reduceCtorEq] <;> rfl), (by simp only [sB, Nat.reduceEqDiff, reduceCtorEq] <;> rfl), HX.refl hw⟩
abbrev dot : ByteArray := ⟨#[46]⟩
def zeroT : Tm := .mk 0 ByteArray.empty ByteArray.empty 0 0 []
def listed (l : List Tm) (e : Tm) : Tm := l.foldr (fun t u => .mk 5 dot ByteArray.empty 0 0 [t, u]) e
def totN : List Tm → Nat → Nat
 | [], n => n
 | t :: l, n => if 4000 < n then n else totN l (n + (1 + cnt t 0))
def listE (l : List Tm) (e : Tm) : Int := if orZ (chkL l) (checkS e) = 0 then (if 4000 < totN l (cnt e 0) then 24 else 0) else orZ (chkL l) (checkS e)
def listT (l : List Tm) (e : Tm) : Tm := if listE l e = 0 then listed l e else zeroT
theorem znk (t : Tm) : 1 ≤ cnt t 0 := by
 have mono : ∀ (l : List Tm), (∀ t ∈ l, ∀ n, n ≤ cnt t n) → ∀ n, n ≤ cntL l n := by
  intro l
  induction l with
  | nil => intro _ n; rw [cntL]; exact Nat.le_refl _
  | cons t l ih =>
   intro h n
   rw [cntL]
   split
   ·exact Nat.le_refl _
   ·exact Nat.le_trans (h t (by simp) n) (ih (fun u hu => h u (List.mem_cons_of_mem _ hu)) _)
 have key : ∀ (m : Nat) (t : Tm), SizeOf.sizeOf t < m → ∀ n, n + 1 ≤ cnt t n := by
  intro m
  induction m with
  | zero => intro t h; omega
  | succ m ih =>
   intro t h n
   rw [z4c]
   exact mono _ (fun u hu k => by have := ih u (by have := z0d hu; omega) k; omega) _
 exact key _ t (Nat.lt_succ_self _) 0
theorem z7t (t : Tm) : cnt t 0 ≤ 4001 := zf0 _ t (Nat.lt_succ_self _) 0 (by omega)
end Go.Proofs.hq
end

section
namespace Go.Hb
open Go Go.RowKit
theorem zpc {H : Heap} (hw : H.wf) (A B C : Blk) : ∃ H2, ((H.new (some A)).new (some B)).new (some C) = H2 ∧ HX H H2 ∧ H2.get H.next = some A ∧ H2.get (H.next + 1) = some B ∧ H2.get (H.next + 2) = some C ∧ H2.next = H.next + 3 ∧ H2.wf := by
 obtain ⟨H2, e2, hx, g1, g2, hn, hw2⟩ := new2 hw A B
 obtain ⟨H3, e3, hx3, g3, hn3, hw3⟩ := new1 hw2 C
 rw [hn] at g3 hn3
 exact ⟨H3, by rw [e2, e3], hx.trans hx3, hx3.get hw2 g1, hx3.get hw2 g2, g3, hn3, hw3⟩
end Go.Hb
namespace Go.Proofs.hq
open Go Go.RowKit Go.Hb
variable {ok : Ok}
set_option maxRecDepth 10000
attribute [local irreducible] LX LG EL STG SOP SGO SGD SAL SRD SEF SEG SLK SCK ES
end Go.Proofs.hq
end

section
namespace Go.Proofs.hq
open Go Go.RowKit Go.Hb
def nd : Tm → Nat
 | .mk _ _ _ _ _ l => 1 + ndL l
where ndL : List Tm → Nat
 | [] => 0
 | t :: l => nd t + ndL l
theorem z1x (t : Tm) : nd t = 1 + nd.ndL t.args := by obtain ⟨k, s, u, b, v, l⟩ := t; rw [nd]; rfl
theorem z7u : ∀ (l : List Tm), (∀ t ∈ l, ∀ n, n ≤ cnt t n) → ∀ n, n ≤ cntL l n
 | [], _, n => by rw [cntL]; exact Nat.le_refl _
 | t :: l, h, n => by
  rw [cntL]
  split
  ·exact Nat.le_refl _
  ·exact Nat.le_trans (h t (by simp) n) (z7u l (fun u hu => h u (List.mem_cons_of_mem _ hu)) _)
theorem zf3 : ∀ (m : Nat) (t : Tm), SizeOf.sizeOf t < m → ∀ n, n + 1 ≤ cnt t n
 | 0, _, h, _ => by omega
 | m + 1, t, h, n => by
  rw [z4c]
  exact z7u _ (fun u hu k => by have := zf3 m u (by have := z0d hu; omega) k; omega) _
theorem zis : ∀ (l : List Tm), (∀ t ∈ l, ∀ n, cnt t n ≤ 4000 → cnt t n = n + nd t) → ∀ n, cntL l n ≤ 4000 → cntL l n = n + nd.ndL l
 | [], _, n, _ => by rw [cntL, nd.ndL]; rfl
 | t :: l, h, n, hn => by
  rw [cntL] at hn ⊢
  split at hn
  ·omega
  ·rename_i h4
   rw [if_neg h4]
   have hm : cnt t n ≤ cntL l (cnt t n) := z7u l (fun u _ k => by have := zf3 _ u (Nat.lt_succ_self _) k; omega) _
   rw [zis l (fun u hu => h u (List.mem_cons_of_mem _ hu)) _ hn, h t (by simp) n (by omega), nd.ndL]
   omega
theorem z91 : ∀ (m : Nat) (t : Tm), SizeOf.sizeOf t < m → ∀ n, cnt t n ≤ 4000 → cnt t n = n + nd t
 | 0, _, h, _, _ => by omega
 | m + 1, t, h, n, hn => by
  rw [z4c] at hn ⊢
  rw [zis _ (fun u hu k => z91 m u (by have := z0d hu; omega) k) _ hn, z1x]; omega
end Go.Proofs.hq
end

section
namespace Go.Hb
open Go Go.RowKit
section
variable {P : Program} {ok : Ok} {fn : Func} {tm : Tr Value} {H : Heap} {K : Value → Heap → Prop}
theorem z3x {a q p : Tmp} {t : TypeId} {ad : Addr} {v u y : Value} (h : fn.results.toList = [.tmp q, .cell a t, .tmp p]) (hu : tm.get q = some u) (hv : tm.get a = some (.pointer (some ad))) (hd : dLoad P t (.pointer (some ad)) H = some (.val v H)) (hy : tm.get p = some y)
  (hk : K (.tuple ⟨[u, v, y]⟩) H) : Ex.leave P ok fn K .ret ⟨tm, [], H⟩ := by
 refine EvV.now (v := .tuple ⟨[u, v, y]⟩) ?_ hk
 have hl : dload P t ad H = some v := by
  unfold dLoad at hd
  simp only at hd
  cases h1 : dload P t ad H with
  | none => rw [h1] at hd; simp at hd
  | some w => rw [h1] at hd; simp at hd; rw [hd]
 simp [dres, h, dresL, dres1, hv, hl, hu, hy]
end
end Go.Hb
namespace Go.Proofs.hq
open Go Go.RowKit Go.Hb
variable {ok : Ok}
set_option maxRecDepth 10000
attribute [local irreducible] LX LG EL STG SOP SGO SGD SAL SRD SEF SEG SLK SCK ES
def elL : Tm → List Tm
 | .mk k s _ _ _ [x, y] => if k = 5 ∧ s = dot then x :: elL y else []
 | _ => []
def elR : Tm → Tm
 | .mk k s u b v [x, y] => if k = 5 ∧ s = dot then elR y else .mk k s u b v [x, y]
 | t => t
def isCons (t : Tm) : Prop := t.kind = 5 ∧ t.name = dot ∧ t.args.length = 2
theorem za0 {t u : Tm} {a a' : Option Addr} {c c' : Nat} (h : six t a c = six u a' c') : t.kind = u.kind ∧ t.name = u.name ∧ t.num = u.num ∧ t.bits = u.bits ∧ t.var = u.var ∧ a = a' ∧ c = c' := by
 simp only [six, List.cons.injEq, Value.int.injEq, Value.string.injEq, Value.slice.injEq, true_and, and_true] at h
 exact ⟨h.1, h.2.1, h.2.2.1, h.2.2.2.1, h.2.2.2.2.1, h.2.2.2.2.2.1, h.2.2.2.2.2.2.2⟩
end Go.Proofs.hq
end

section
namespace Go.Hb
open Go Go.RowKit
def MapR (H : Heap) (r : Nat) (M : List (Int × Value)) : Prop := ∃ es clock, H.get r = some (.map es clock) ∧ es.map (fun e => (e.key, e.val)) = M.map fun p => (Value.int .i64 p.1, p.2)
section
variable {P : Program} {H : Heap}
theorem z7v : ∀ (es : List MapEntry) (M : List (Int × Value)) (n : Int) (i : Nat), es.map (fun e => (e.key, e.val)) = M.map (fun p => (Value.int .i64 p.1, p.2)) →
  Instr.findNow (.int .i64) (.int .i64 n) (keysOf es) i = some ((M.findIdx? fun p => p.1 == n).map fun j => (i + j, .bool false))
 | [], [], _, _, _ => rfl
 | [], _ :: _, _, _, h => by simp at h
 | _ :: _, [], _, _, h => by simp at h
 | e :: es, p :: M, n, i, h => by
  simp only [List.map_cons, List.cons.injEq, Prod.mk.injEq] at h
  have hk : e.key = .int .i64 p.1 := h.1.1
  have ih := z7v es M n (i + 1) h.2
  unfold keysOf at ih ⊢
  rw [List.map_cons]
  unfold Instr.findNow
  simp only [hk, Instr.sameNow, if_true, List.findIdx?_cons]
  by_cases he : p.1 = n
  ·subst he; simp
  ·have h1 : (n == p.1) = false := by simp; omega
   have h2 : (p.1 == n) = false := by simp; omega
   simp only [h1, h2]
   rw [ih]
   cases M.findIdx? fun p => p.1 == n with
   | none => rfl
   | some j => simp only [Option.map_some, Option.some.injEq, Prod.mk.injEq, and_true, Bool.false_eq_true, if_false]; omega
theorem z7w {kt : TypeId} {emp : Bool} {es : List MapEntry} {M : List (Int × Value)} {n : Int} (hk : P.underlying kt = some (.int .i64)) (h : es.map (fun e => (e.key, e.val)) = M.map fun p => (Value.int .i64 p.1, p.2)) :
  dfind P emp kt (.int .i64 n) es = some (M.findIdx? fun p => p.1 == n) := by
 have hu : pureRun P (underlying kt) = some (.int .i64) := z0j hk
 have h1 : pureRun P (Instr.checkKey emp 10000 kt (.int .i64 n)) = some () := by
  unfold Instr.checkKey
  rw [z0g, hu, Option.bind_some]
  rfl
 have h2 : pureRun P (Instr.findKey kt (.int .i64 n) (keysOf es)) = some ((M.findIdx? fun p => p.1 == n).map fun j => (j, .bool false)) := by
  unfold Instr.findKey
  rw [z0g, hu, Option.bind_some, z7v es M n 0 h]
  simp only [Nat.zero_add]
  rfl
 unfold dfind
 rw [h1, h2]
 simp only [flat]
 cases M.findIdx? fun p => p.1 == n <;> rfl
def mGet (M : List (Int × Value)) (n : Int) : Option Value := (M.find? fun p => p.1 == n).map (·.2)
theorem za1 {M : List (Int × Value)} {n : Int} : (M.findIdx? fun p => p.1 == n) = none ∧ mGet M n = none ∨ ∃ i v, (M.findIdx? fun p => p.1 == n) = some i ∧ M[i]? = some (n, v) ∧ mGet M n = some v := by
 unfold mGet
 induction M with
 | nil => left; exact ⟨rfl, rfl⟩
 | cons p M ih =>
  by_cases hp : p.1 = n
  ·right
   have hb : (p.1 == n) = true := by simp [hp]
   refine ⟨0, p.2, by simp [List.findIdx?_cons, hb], by rw [← hp]; rfl, by simp [List.find?_cons, hb]⟩
  ·have hb : (p.1 == n) = false := by simp [hp]
   rcases ih with ⟨h1, h2⟩ | ⟨i, v, h1, h2, h3⟩
   ·left; exact ⟨by simp [List.findIdx?_cons, hb]; simpa using h1, by simpa [List.find?_cons, hb] using h2⟩
   ·right; refine ⟨i + 1, v, by simp [List.findIdx?_cons, hb, h1], by simpa using h2, by simpa [List.find?_cons, hb] using h3⟩
def dLk (P : Program) (t : TypeId) (m k : Value) (ok : Bool) (H : Heap) : Option Dr := dlookup P t m k ok H
def dUp (P : Program) (t : TypeId) (m k v : Value) (H : Heap) : Option Dr := dupdate P t m k v H
def mpOk (P : Program) (t kt et : TypeId) (z : Value) : Prop := P.underlying t = some (.map kt et) ∧ P.underlying kt = some (.int .i64) ∧ pureRun P (zeroValue et) = some z ∧ flat z = true
theorem z1e {d : Option Tmp} {t : TypeId} {m k : Operand} {ok : Bool} {ty : TypeId} {pos : String} {af : Array Edge} {g : Option (Nat × Bool)} {ρ : Operand → Value} : dop P ⟨d, .lookup t m k ok, ty, pos, af, g⟩ ρ H = dLk P t (ρ m) (ρ k) ok H := _root_.id rfl
theorem z3l {d : Option Tmp} {t : TypeId} {m k v : Operand} {ty : TypeId} {pos : String} {af : Array Edge} {g : Option (Nat × Bool)} {ρ : Operand → Value} : dop P ⟨d, .mapUpdate t m k v, ty, pos, af, g⟩ ρ H = dUp P t (ρ m) (ρ k) (ρ v) H := _root_.id rfl
theorem z4z {d : Option Tmp} {t : TypeId} {ty : TypeId} {pos : String} {af : Array Edge} {g : Option (Nat × Bool)} {ρ : Operand → Value} : dop P ⟨d, .makeMap t none, ty, pos, af, g⟩ ρ H = some (.val (.map (some H.next)) (H.new (some (.map [] 0)))) := _root_.id rfl
theorem MapR.new : MapR (H.new (some (.map [] 0))) H.next [] := ⟨[], 0, by rw [Heap.get_new, if_pos rfl], rfl⟩
theorem MapR.heap {H' : Heap} {r : Nat} {M : List (Int × Value)} (h : MapR H r M) (hk : H'.get r = H.get r) : MapR H' r M := by
 obtain ⟨es, clock, hg, he⟩ := h; exact ⟨es, clock, hk.trans hg, he⟩
theorem MapR.lt {r : Nat} {M : List (Int × Value)} (h : MapR H r M) (hw : H.wf) : r < H.next := by obtain ⟨es, clock, hg, he⟩ := h; exact hw _ _ hg
theorem z5i {t kt et : TypeId} {z v : Value} {r : Nat} {M : List (Int × Value)} {n : Int} {ok : Bool} (h : mpOk P t kt et z) (hm : MapR H r M) (hv : mGet M n = some v) :
  dLk P t (.map (some r)) (.int .i64 n) ok H = some (.val (if ok then .tuple #[v, .bool true] else v) H) := by
 obtain ⟨h1, h2, h3, h4⟩ := h
 obtain ⟨es, clock, hg, he⟩ := hm
 rcases za1 (M := M) (n := n) with ⟨_, h5⟩ | ⟨i, u, h5, h6, h7⟩
 ·rw [h5] at hv; cases hv
 ·rw [h7] at hv; cases hv
  have hi : ∃ e, es[i]? = some e ∧ e.val = v := by
   have := congrArg (·[i]?) he
   simp only [List.getElem?_map, h6, Option.map_some, Option.map_eq_some_iff, Prod.mk.injEq] at this
   obtain ⟨e, h8, -, h9⟩ := this
   exact ⟨e, h8, h9⟩
  obtain ⟨e, h8, h9⟩ := hi
  simp only [dLk, dlookup, h1, hg, z7w h2 he, h5, h8, h9]
theorem z5j {t kt et : TypeId} {z : Value} {r : Nat} {M : List (Int × Value)} {n : Int} {ok : Bool} (h : mpOk P t kt et z) (hm : MapR H r M) (hv : mGet M n = none) :
  dLk P t (.map (some r)) (.int .i64 n) ok H = some (.val (if ok then .tuple #[z, .bool false] else z) H) := by
 obtain ⟨h1, h2, h3, h4⟩ := h
 obtain ⟨es, clock, hg, he⟩ := hm
 rcases za1 (M := M) (n := n) with ⟨h5, _⟩ | ⟨i, u, h5, h6, h7⟩
 ·simp only [dLk, dlookup, h1, hg, z7w h2 he, h5, h3, h4, if_true]
 ·rw [h7] at hv; cases hv
theorem zdc {t kt et : TypeId} {z v : Value} {r : Nat} {M : List (Int × Value)} {n : Int} (h : mpOk P t kt et z) (hm : MapR H r M) (hv : mGet M n = none) :
  ∃ B, dUp P t (.map (some r)) (.int .i64 n) v H = some (.val undef (H.put r (some B))) ∧ MapR (H.put r (some B)) r (M ++ [(n, v)]) := by
 obtain ⟨h1, h2, h3, h4⟩ := h
 obtain ⟨es, clock, hg, he⟩ := hm
 rcases za1 (M := M) (n := n) with ⟨h5, _⟩ | ⟨i, u, h5, h6, h7⟩
 ·refine ⟨.map (es ++ [{ key := .int .i64 n, val := v, born := clock }]) (clock + 1), by simp only [dUp, dupdate, h1, hg, z7w h2 he, h5], _, _, by rw [Heap.get_put, if_pos rfl], ?_⟩
  rw [List.map_append, List.map_append, he]; rfl
 ·rw [h7] at hv; cases hv
theorem z7x {M : List (Int × Value)} {n m : Int} {v : Value} (h : mGet M n = none) : mGet (M ++ [(n, v)]) m = if m = n then some v else mGet M m := by
 unfold mGet at *
 rw [List.find?_append]
 by_cases hm : m = n
 ·subst hm
  have : M.find? (fun p => p.1 == m) = none := by simpa using h
  rw [if_pos rfl, this]; simp
 ·rw [if_neg hm]
  have : ((n == m) : Bool) = false := by simp; omega
  simp [List.find?_cons, this]
end
end Go.Hb
end

section
namespace Go.Hb
open Go Go.RowKit
theorem HK.step {S S' : Nat → Prop} {A B C : Heap} (h : HK S A B) (k : HK S' B C) (hs : ∀ n, n < A.next → S' n → S n) : HK S A C :=
 ⟨Nat.le_trans h.next k.next, fun i hi hn => by rw [k.keep i (Nat.lt_of_lt_of_le hi h.next) (fun q => hn (hs i hi q)), h.keep i hi hn], k.wf⟩
end Go.Hb
namespace Go.Proofs.hq
open Go Go.RowKit Go.Hb
variable {ok : Ok}
set_option maxRecDepth 10000
attribute [local irreducible] LX LG EL STG SOP SGO SGD SAL SRD SEF SEG SLK SCK ES
mutual
def occ : Tm → List Int
 | .mk k _ _ _ v l => (if k = 1 then [v] else []) ++ occL l
def occL : List Tm → List Int
 | [] => []
 | t :: l => occ t ++ occL l
end
theorem z2s (t : Tm) : occ t = (if t.kind = 1 then [t.var] else []) ++ occL t.args := by obtain ⟨k, s, u, b, v, l⟩ := t; rw [occ]; rfl
theorem z7y {l : List Tm} {i : Nat} (h : i < l.length) : occL (l.take (i + 1)) = occL (l.take i) ++ occ l[i] := by
 have app : ∀ (a b : List Tm), occL (a ++ b) = occL a ++ occL b := fun a b => by
  induction a with
  | nil => rw [occL]; rfl
  | cons t a ih => rw [List.cons_append, occL, occL, ih, List.append_assoc]
 rw [← List.take_append_getElem h, app, occL, occL, List.append_nil]
theorem zl1 (a b : List Tm) : occL (a ++ b) = occL a ++ occL b := by
 induction a with
 | nil => rw [occL]; rfl
 | cons t a ih => rw [List.cons_append, occL, occL, ih, List.append_assoc]
theorem zf4 (l : List Tm) (i : Nat) : occL (l.take i) <+: occL l := by
 have := zl1 (l.take i) (l.drop i)
 rw [List.take_append_drop] at this
 rw [this]; exact List.prefix_append _ _
structure Each (g : FuncId) (cap : Array Value) (H0 : Heap) (tot : List Int) (J : (Nat → Prop) → List Int → Heap → Prop) : Prop where
 base : ∀ S pre H, J S pre H → HX H0 H
 low : ∀ S pre H, J S pre H → ∀ n, S n → n < H.next
 step : ∀ S pre n H, J S pre H → (pre ++ [n]) <+: tot → EvF Tryd.prog okT g ([.int .i64 n] ++ cap.toList) H fun _ H' => ∃ S', J S' (pre ++ [n]) H' ∧ HK S H H' ∧ ∀ n, S' n → S n ∨ H.next ≤ n
 stay : ∀ S pre H H', J S pre H → HX H H' → J S pre H'
set_option maxHeartbeats 4000000 in
theorem zit {g : FuncId} {cap : Array Value} {J : (Nat → Prop) → List Int → Heap → Prop} {H0 : Heap} {tot : List Int} (hw0 : H0.wf) (hg : callable Tryd.prog g = true) (E : Each g cap H0 tot J) :
  ∀ (m : Nat) {t : Tm} {cs : List Value} {H : Heap} {S : Nat → Prop} {pre : List Int}, SizeOf.sizeOf t < m → RepT H0 t cs → J S pre H → (pre ++ occ t) <+: tot →
  EvF Tryd.prog okT 69 [.agg ⟨cs⟩, .func (.func g) #[] cap] H fun _ H' => ∃ S', J S' (pre ++ occ t) H' ∧ HK S H H' ∧ ∀ n, S' n → S n ∨ H.next ≤ n := by
 intro m
 induction m with
 | zero => intro t cs H S pre h; omega
 | succ m ih =>
 intro t cs H S pre hsz r hj htot
 have hw := (E.base _ _ _ hj).wf
 have hlow := E.low _ _ _ hj
 obtain ⟨a, c, cells, rfl, -, -, -, -, -, rl⟩ := r.six
 have hm := rl.max
 refine EvF.enter rfl Tryd.func69 (by decide) rfl ?_
 (repeat refine EvC.seq ?_); refine EvC.reg ?_; simp (disch := first | omega | rfl) only [sB, initTm, dBox, Value.cells, one, reduceCtorEq]
 obtain ⟨H2, e2, hx2, gp, hn2, hw2⟩ := new1 hw (.row (six t a c) 25)
 simp only [e2]
 clear e2
 have q1 := row6 gp
 have hj2 := E.stay _ _ _ _ hj hx2
 (repeat refine EvC.seq ?_); refine EvC.reg ?_; simp (disch := first | omega | rfl) only [sB, Nat.reduceEqDiff, reduceCtorEq, z0m, ld3, q1]
 refine EvC.join (fun st => ∃ tm H' S', st = ⟨tm, [], H'⟩ ∧ tm.get 1 = some (.func (.func g) #[] cap) ∧ tm.get 2 = some (.pointer (some ⟨H.next, 0, none⟩)) ∧ H'.get H.next = some (.row (six t a c) 25) ∧
   J S' (pre ++ (if t.kind = 1 then [t.var] else [])) H' ∧ HK S H H' ∧ (∀ n, S' n → S n ∨ H.next < n)) ?_ ?_
 ·by_cases k1 : t.kind = 1
  ·repeat' (first | refine EvC.seq ?_ | refine EvC.scope ?_ | refine EvC.block ?_ | (refine EvC.skip ?_) | (refine EvC.exit ?_) | (refine EvC.ret ?_; try simp only [z01, z00]) | (refine EvC.reg ?_; simp (disch := first | omega | rfl) only [sB, Nat.reduceEqDiff, reduceCtorEq, ld3, z7m, z0r k1, q1, z7f, z4v hg]) | (refine EvC.condT ?_ ?_; simp (disch := first | omega | rfl) only [sB, Nat.reduceEqDiff, reduceCtorEq, z0r k1]; refine z04 ?_))
   refine (E.step S pre t.var H2 hj2 (by refine List.IsPrefix.trans ?_ htot; rw [z2s, if_pos k1, ← List.append_assoc]; exact List.prefix_append _ _)).mono ?_
   rintro v H3 ⟨S', hj3, hk3, hS3⟩
   repeat' (first | refine EvC.seq ?_ | refine EvC.scope ?_ | refine EvC.block ?_ | (refine EvC.skip ?_) | (refine EvC.exit ?_) | (refine EvC.ret ?_; try simp only [z01, z00]))
   exact ⟨_, _, S', rfl, (by simp only [sG, Nat.reduceEqDiff, reduceCtorEq] <;> rfl), (by simp only [sG, Nat.reduceEqDiff, reduceCtorEq] <;> rfl), hk3.get hw2 gp (fun hs => by have := hlow _ hs; omega), by rw [if_pos k1]; exact hj3, (hx2.hk S).trans hk3, fun n hn => by rcases hS3 n hn with h | h; exact .inl h; exact .inr (by omega)⟩
  ·repeat' (first | refine EvC.seq ?_ | refine EvC.scope ?_ | refine EvC.block ?_ | (refine EvC.skip ?_; try simp only [z02, z0t k1]) | (refine EvC.exit ?_) | (refine EvC.ret ?_; try simp only [z01, z00]) | (refine EvC.condT ?_ ?_; simp (disch := first | omega | rfl) only [sB, Nat.reduceEqDiff, reduceCtorEq, z0t k1]; refine z04 ?_) | (refine EvC.condF ?_ ?_; simp (disch := first | omega | rfl) only [sB, Nat.reduceEqDiff, reduceCtorEq, z0t k1]; refine z04 ?_))
   exact ⟨_, _, S, rfl, (by simp only [sG, Nat.reduceEqDiff, reduceCtorEq] <;> rfl), (by simp only [sG, Nat.reduceEqDiff, reduceCtorEq] <;> rfl), gp, by rw [if_neg k1, List.append_nil]; exact hj2, hx2.hk S, fun n hn => .inl hn⟩
 rintro st ⟨tm, H3, S3, rfl, t1, t2, gp3, hj3, hk3, hS3⟩
 have q1 := row6 gp3
 repeat' (first | refine EvC.seq ?_ | refine EvC.scope ?_ | refine EvC.block ?_ | (refine EvC.skip ?_) | (refine EvC.exit ?_) | (refine EvC.ret ?_; try simp only [z01, z00]) | (refine EvC.reg ?_; simp (disch := first | omega | rfl) only [sB, Nat.reduceEqDiff, z0v, ld23, ln23, t2, q1]))
 refine EvC.loop (fun k st => ∃ tm H' i S', st = ⟨tm, [], H'⟩ ∧ k = t.args.length - i ∧ i ≤ t.args.length ∧ tm.get 1 = some (.func (.func g) #[] cap) ∧ tm.get 14 = some (.slice a t.args.length c) ∧ tm.get 15 = some (.int .i64 t.args.length) ∧ tm.get 16 = some (.int .i64 (i : Nat)) ∧
   J S' (pre ++ (if t.kind = 1 then [t.var] else []) ++ occL (t.args.take i)) H' ∧ HK S H H' ∧ (∀ n, S' n → S n ∨ H.next < n)) ?_ t.args.length _ ?_
 ·rintro k st ⟨tm, H', i, S', rfl, rfl, hi, t1, t14, t15, t16, hj', hk', hS'⟩
  have hx' := E.base _ _ _ hj'
  by_cases hlt : i < t.args.length
  ·obtain ⟨b, o, a1, c1, rfl, hld, hr1⟩ := rl.el hlt
   have hld1 := hx'.load hw0 hld
   repeat' (first | refine EvC.seq ?_ | refine EvC.scope ?_ | refine EvC.block ?_ | (refine EvC.skip ?_; try simp only [z02]) | (refine EvC.exit ?_) | (refine EvC.ret ?_; try simp only [z01, z00]) | (refine EvC.reg ?_; simp (disch := first | omega | rfl) only [sB, dAlloc, Nat.reduceEqDiff, Nat.reduceAdd, one, cutC, ia23, ld25, zr25, st25, cl69, t1, t14, t15, t16, decl hlt, hld1]) | (refine EvC.condT ?_ ?_; simp (disch := first | omega | rfl) only [sB]; refine z04 ?_))
   obtain ⟨H4, e4, hx4, g4, hn4, hw4⟩ := z0l hx'.wf (.row zero6 25) (.row (six t.args[i] a1 c1) 25)
   simp only [e4]
   have hs := z1v (List.getElem?_eq_getElem hlt)
   refine (ih (by omega) hr1 (E.stay _ _ _ _ hj' hx4) (by refine List.IsPrefix.trans ?_ htot; rw [List.append_assoc, ← z7y hlt, List.append_assoc, z2s]; exact (List.prefix_append_right_inj _).2 ((List.prefix_append_right_inj _).2 (zf4 _ _)))).mono ?_
   rintro v H5 ⟨S5, hj5, hk5, hS5⟩
   repeat' (first | refine EvC.seq ?_ | refine EvC.scope ?_ | refine EvC.block ?_ | (refine EvC.skip ?_) | (refine EvC.exit ?_) | (refine EvC.ret ?_; try simp only [z01, z00]) | (refine EvC.reg ?_; simp (disch := first | omega | rfl) only [sB, Nat.reduceEqDiff, t16, z0c]))
   have hk45 : HK S H H5 := (hk'.trans (hx4.hk S)).step hk5 fun n hn hq => by rcases hS' n hq with h | h; exact h; omega
   refine ⟨t.args.length - (i + 1), by omega, _, _, i + 1, S5, rfl, rfl, by omega, (by simp only [sG, Nat.reduceEqDiff, t1] <;> rfl), (by simp only [sG, Nat.reduceEqDiff, t14] <;> rfl), (by simp only [sG, Nat.reduceEqDiff, t15] <;> rfl), (by simp only [sB, Nat.reduceEqDiff] <;> rfl), ?_, hk45, ?_⟩
   ·rw [z7y hlt, ← List.append_assoc]; exact hj5
   ·intro n hn
    have h1 := hk'.next
    rcases hS5 n hn with h | h
    ·exact hS' n h
    ·exact .inr (by omega)
  ·repeat' (first | refine EvC.seq ?_ | refine EvC.scope ?_ | refine EvC.block ?_ | (refine EvC.skip ?_) | (refine EvC.exit ?_; try simp only [sB]) | (refine EvC.ret ?_; try simp only [z01, z00]) | (refine EvC.reg ?_; simp (disch := first | omega | rfl) only [sA, t15, t16, decn hlt]) | (refine EvC.condT ?_ ?_; simp (disch := first | omega | rfl) only [sB]; refine z04 ?_) | (refine EvC.condF ?_ ?_; simp (disch := first | omega | rfl) only [sB]; refine z04 ?_))
   refine z24 rfl ⟨S', ?_, hk', fun n hn => by rcases hS' n hn with h | h; exact .inl h; exact .inr (by omega)⟩
   rw [List.take_of_length_le (by omega), List.append_assoc, ← z2s] at hj'
   exact hj'
 ·exact ⟨_, _, 0, S3, rfl, rfl, by omega, (by simp only [sG, Nat.reduceEqDiff, t1] <;> rfl), (by simp only [sG, Nat.reduceEqDiff] <;> rfl), (by simp only [sG, Nat.reduceEqDiff] <;> rfl), (by simp only [sB, Nat.reduceEqDiff] <;> rfl), by rw [List.take_zero, occL, List.append_nil]; exact hj3, hk3, hS3⟩
def IntL (H : Heap) (T : TypeId) (S : Nat → Prop) (L : List Int) (v : Value) : Prop :=
 (L = [] ∧ v = .slice none 0 0) ∨ ∃ b c, v = .slice (some ⟨b, 0, none⟩) L.length c ∧ L.length ≤ c ∧ c ≤ maxLen ∧ H.get b = some (.row (L.map fun n => Value.int .i64 n) T) ∧ S b
theorem ziu (L : List Int) : (L.map fun n => Value.int .i64 n).all one = true := by
 rw [List.all_eq_true]; intro v hv; obtain ⟨n, -, rfl⟩ := List.mem_map.1 hv; rfl
theorem IntL.push {P : Program} {T t : TypeId} (hp : apOk P t T 1) {H : Heap} {S S2 : Nat → Prop} {L : List Int} {n : Int} {v : Value} {ad : Addr} {c1 : Nat} (h : IntL H T S L v) (hw : H.wf) (hl : H.load ad (1 * 1) = some [.int .i64 n]) (hm : L.length + 1 ≤ most)
  (h2 : S2 H.next) : ∃ H2 v2, dAp P #[t, t] v (.slice (some ad) 1 c1) H = some (.val v2 H2) ∧ IntL H2 T S2 (L ++ [n]) v2 ∧ HK S H H2 ∧ H2.next = H.next + 1 := by
 have hmax : L.length + 1 ≤ maxLen := Nat.le_trans hm (by simp [most, maxLen])
 rcases h with ⟨rfl, rfl⟩ | ⟨b, c, rfl, hlc, hcm, hg, hs⟩
 ·exact ⟨_, _, z5y hp (by omega) hm hl rfl, .inr ⟨H.next, 1, rfl, Nat.le_refl _, hmax, z0p, h2⟩, ((HX.refl hw).new _).hk _, rfl⟩
 ·refine ⟨_, _, z5z hp (by omega) hm hl rfl hg (by simp) (by rw [List.take_of_length_le (by simp)]; exact ziu L), .inr ⟨H.next, L.length + 1, by simp, by simp, hmax, ?_, h2⟩, ((HK.refl hw).put (.inl hs) (hw _ _ hg) none).new _, rfl⟩
  show ((H.put b none).new _).get (H.put b none).next = _
  rw [z0p, List.take_of_length_le (by simp), List.map_append]; rfl
theorem IntL.heap {H H' : Heap} {T : TypeId} {S : Nat → Prop} {L : List Int} {v : Value} (h : IntL H T S L v) (hk : ∀ n, S n → n < H.next → H'.get n = H.get n) (hw : H.wf) : IntL H' T S L v := by
 rcases h with h | ⟨b, c, h1, h2, h3, h4, h5⟩
 ·exact .inl h
 ·exact .inr ⟨b, c, h1, h2, h3, (hk b h5 (hw _ _ h4)).trans h4, h5⟩
theorem IntL.slice {H : Heap} {T : TypeId} {S : Nat → Prop} {L : List Int} {v : Value} (h : IntL H T S L v) : ∃ a c, v = .slice a L.length c ∧ L.length ≤ c ∧ c ≤ maxLen := by
 rcases h with ⟨rfl, rfl⟩ | ⟨b, c, rfl, h2, h3, -⟩
 ·exact ⟨none, 0, rfl, Nat.le_refl _, Nat.zero_le _⟩
 ·exact ⟨_, c, rfl, h2, h3⟩
def addU (L : List Int) (n : Int) : List Int := if n ∈ L then L else L ++ [n]
def uniq (l : List Int) : List Int := l.foldl addU []
theorem z5k (l : List Int) (n : Int) : uniq (l ++ [n]) = addU (uniq l) n := by simp [uniq]
theorem zl2 (L : List Int) (n : Int) : (addU L n).length ≤ L.length + 1 := by unfold addU; split <;> simp
theorem za2 (l : List Int) : (uniq l).length ≤ l.length := by
 have h : ∀ (l L : List Int), (l.foldl addU L).length ≤ L.length + l.length := by
  intro l
  induction l with
  | nil => intro L; simp
  | cons n l ih => intro L; rw [List.foldl_cons]; have := ih (addU L n); have := zl2 L n; rw [List.length_cons]; omega
 have := h l []
 simpa [uniq] using this
theorem zgm (l : List Int) : (uniq l).Nodup := by
 have h : ∀ (l L : List Int), L.Nodup → (l.foldl addU L).Nodup := by
  intro l
  induction l with
  | nil => intro L h; exact h
  | cons n l ih =>
   intro L h
   refine ih _ ?_
   unfold addU
   split
   ·exact h
   ·rename_i hn
    rw [List.nodup_append]
    exact ⟨h, by simp, fun a ha b hb => by simp at hb; subst hb; exact fun e => hn (e ▸ ha)⟩
 exact h l [] List.nodup_nil
theorem IntL.at {H : Heap} {T : TypeId} {S : Nat → Prop} {L : List Int} {a : Option Addr} {n c : Nat} (h : IntL H T S L (.slice a n c)) {i : Nat} (hi : i < L.length) : ∃ b, a = some ⟨b, 0, none⟩ ∧ n = L.length ∧ H.load ⟨b, i, none⟩ 1 = some [.int .i64 L[i]] ∧ S b := by
 rcases h with ⟨rfl, -⟩ | ⟨b, c', h1, -, -, h2, h3⟩
 ·simp at hi
 ·cases h1
  refine ⟨b, rfl, rfl, ?_, h3⟩
  unfold Heap.load Heap.cells
  simp only [h2]
  have : (List.drop i (L.map fun n => Value.int .i64 n)).take 1 = [.int .i64 L[i]] := by
   rw [List.drop_eq_getElem_cons (by simpa using hi)]; simp
  rw [this]; rfl
end Go.Proofs.hq
end
