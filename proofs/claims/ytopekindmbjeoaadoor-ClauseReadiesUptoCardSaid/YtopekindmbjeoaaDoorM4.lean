import Derived.Test.YtopekindmbjeoaaDoorM3
import Derived.Test.YtopekindmbjeoaaDoorProg
import Derived.KernelRfl
/- Lemmas on the program's own code, towards the laws of this folder, part 4. Conditions: as each lemma says. -/
section
namespace Go.Proofs.hq
open Go Go.RowKit Go.Hb
variable {ok : Ok}
set_option maxRecDepth 10000
attribute [local irreducible] LX LG EL STG SOP SGO SGD SAL SRD SEF SEG SLK SCK ES
theorem zeb {s : ByteArray} (h : ∀ i : Fin 256, byteAt s i = nbits i) {y : Nat} (hy : y < 256) : byteAt s y = nbits y := h ⟨y, hy⟩
theorem zjh (hk : ∀ args H, ok.K 101 args H = none) (hm : ok.testBit 101 = true) {x : Nat} (hx : x < 4294967296) {H : Heap} :
  EvF Tryd.prog ok 101 [.int .u32 (x : Int)] H fun v H' => v = .int .i64 (nbits x : Int) ∧ H' = H := by
 refine EvF.enter (hk _ _) Tryd.func101 hm rfl ?_
 by_cases h1 : 65536 ≤ x
 ·have e1 : nbits x = nbits (x / 65536) + 16 := z9g (e := 16) h1
  by_cases h2 : 16777216 ≤ x
  ·have e2 : nbits (x / 65536) = nbits (x / 65536 / 256) + 8 := z9g (e := 8) (by omega)
   repeat' (first | refine EvC.seq ?_ | refine EvC.scope ?_ | refine EvC.block ?_ | (refine EvC.skip ?_) | (refine EvC.exit ?_) | (refine EvC.ret ?_; try simp only [z01, z00]) | (refine EvC.reg ?_; simp (disch := first | omega | rfl) only [sB, initTm, Nat.reduceEqDiff, reduceCtorEq, z9f, decide_eq_true, z79, z8c, z0c, z5q]) | (refine EvC.condT ?_ ?_; simp (disch := first | omega | rfl) only [sB, Nat.reduceEqDiff, reduceCtorEq]; refine z06 ?_))
   rw [z13 Tryd.underlying9 (show x / 65536 / 256 < _ from by show _ < 256; omega)]
   generalize hB : byteAt _ (x / 65536 / 256) = B
   have hB' : B = nbits (x / 65536 / 256) := by rw [← hB]; exact zeb (by decide +kernel) (by omega)
   have hl := z5c (n := x / 65536 / 256) (by omega)
   repeat' (first | refine EvC.seq ?_ | refine EvC.scope ?_ | refine EvC.block ?_ | (refine EvC.skip ?_) | (refine EvC.exit ?_) | (refine EvC.ret ?_; try simp only [z01, z00]) | (refine z0i ?_; simp (disch := first | omega | rfl) only [sB, Nat.reduceEqDiff, reduceCtorEq, zfe, z0c]))
   exact z05 rfl (by simp only [sB, Nat.reduceEqDiff, reduceCtorEq] <;> rfl) ⟨by simp only [Value.int.injEq, true_and]; omega, rfl⟩
  ·repeat' (first | refine EvC.seq ?_ | refine EvC.scope ?_ | refine EvC.block ?_ | (refine EvC.skip ?_; try simp only [z02]) | (refine EvC.exit ?_) | (refine EvC.ret ?_; try simp only [z01, z00]) | (refine EvC.reg ?_; simp (disch := first | omega | rfl) only [sB, initTm, Nat.reduceEqDiff, reduceCtorEq, z9f, decide_eq_true, decide_eq_false, z79, z5q]) | (refine EvC.condT ?_ ?_; simp (disch := first | omega | rfl) only [sB, Nat.reduceEqDiff, reduceCtorEq]; refine z06 ?_) | (refine EvC.condF ?_ ?_; simp (disch := first | omega | rfl) only [sB, Nat.reduceEqDiff, reduceCtorEq]; refine z06 ?_))
   rw [z13 Tryd.underlying9 (show x / 65536 < _ from by show _ < 256; omega)]
   generalize hB : byteAt _ (x / 65536) = B
   have hB' : B = nbits (x / 65536) := by rw [← hB]; exact zeb (by decide +kernel) (by omega)
   have hl := z5c (n := x / 65536) (by omega)
   repeat' (first | refine EvC.seq ?_ | refine EvC.scope ?_ | refine EvC.block ?_ | (refine EvC.skip ?_) | (refine EvC.exit ?_) | (refine EvC.ret ?_; try simp only [z01, z00]) | (refine z0i ?_; simp (disch := first | omega | rfl) only [sB, Nat.reduceEqDiff, reduceCtorEq, zfe, z0c]))
   exact z05 rfl (by simp only [sB, Nat.reduceEqDiff, reduceCtorEq] <;> rfl) ⟨by simp only [Value.int.injEq, true_and]; omega, rfl⟩
 ·by_cases h2 : 256 ≤ x
  ·have e2 : nbits x = nbits (x / 256) + 8 := z9g (e := 8) h2
   repeat' (first | refine EvC.seq ?_ | refine EvC.scope ?_ | refine EvC.block ?_ | (refine EvC.skip ?_; try simp only [z02]) | (refine EvC.exit ?_) | (refine EvC.ret ?_; try simp only [z01, z00]) | (refine EvC.reg ?_; simp (disch := first | omega | rfl) only [sB, initTm, Nat.reduceEqDiff, reduceCtorEq, z9f, decide_eq_true, decide_eq_false, z8c, z0c, z5q]) | (refine EvC.condT ?_ ?_; simp (disch := first | omega | rfl) only [sB, Nat.reduceEqDiff, reduceCtorEq]; refine z06 ?_) | (refine EvC.condF ?_ ?_; simp (disch := first | omega | rfl) only [sB, Nat.reduceEqDiff, reduceCtorEq]; refine z06 ?_))
   rw [z13 Tryd.underlying9 (show x / 256 < _ from by show _ < 256; omega)]
   generalize hB : byteAt _ (x / 256) = B
   have hB' : B = nbits (x / 256) := by rw [← hB]; exact zeb (by decide +kernel) (by omega)
   have hl := z5c (n := x / 256) (by omega)
   repeat' (first | refine EvC.seq ?_ | refine EvC.scope ?_ | refine EvC.block ?_ | (refine EvC.skip ?_) | (refine EvC.exit ?_) | (refine EvC.ret ?_; try simp only [z01, z00]) | (refine z0i ?_; simp (disch := first | omega | rfl) only [sB, Nat.reduceEqDiff, reduceCtorEq, zfe, z0c]))
   exact z05 rfl (by simp only [sB, Nat.reduceEqDiff, reduceCtorEq] <;> rfl) ⟨by simp only [Value.int.injEq, true_and]; omega, rfl⟩
  ·repeat' (first | refine EvC.seq ?_ | refine EvC.scope ?_ | refine EvC.block ?_ | (refine EvC.skip ?_; try simp only [z02]) | (refine EvC.exit ?_) | (refine EvC.ret ?_; try simp only [z01, z00]) | (refine EvC.reg ?_; simp (disch := first | omega | rfl) only [sB, initTm, Nat.reduceEqDiff, reduceCtorEq, z9f, decide_eq_false, z5q]) | (refine EvC.condT ?_ ?_; simp (disch := first | omega | rfl) only [sB, Nat.reduceEqDiff, reduceCtorEq]; refine z06 ?_) | (refine EvC.condF ?_ ?_; simp (disch := first | omega | rfl) only [sB, Nat.reduceEqDiff, reduceCtorEq]; refine z06 ?_))
   rw [z13 Tryd.underlying9 (show x < _ from by show _ < 256; omega)]
   generalize hB : byteAt _ (x) = B
   have hB' : B = nbits (x) := by rw [← hB]; exact zeb (by decide +kernel) (by omega)
   have hl := z5c (n := x) (by omega)
   repeat' (first | refine EvC.seq ?_ | refine EvC.scope ?_ | refine EvC.block ?_ | (refine EvC.skip ?_) | (refine EvC.exit ?_) | (refine EvC.ret ?_; try simp only [z01, z00]) | (refine z0i ?_; simp (disch := first | omega | rfl) only [sB, Nat.reduceEqDiff, reduceCtorEq, zfe, z0c]))
   exact z05 rfl (by simp only [sB, Nat.reduceEqDiff, reduceCtorEq] <;> rfl) ⟨by simp only [Value.int.injEq, true_and]; omega, rfl⟩
theorem znn (a : Nat) : (a : Int).tdiv 10 = ((a / 10 : Nat) : Int) := rfl
theorem zno (a : Nat) : (a : Int).tmod 10 = ((a % 10 : Nat) : Int) := rfl
theorem znp {r x : Nat} (hr : r < 10) (hx : x < 4294967296) : kOr .u64 (IntKind.u64.wrap ((r : Int) * 2 ^ (min 32 IntKind.u64.bits))) (x : Int) = ((r * 4294967296 + x : Nat) : Int) := by
 have e1 : ((r : Int) * 2 ^ (min 32 IntKind.u64.bits)) = ((r * 4294967296 : Nat) : Int) := by
  show (r : Int) * 2 ^ 32 = _
  omega
 rw [e1, wrap_u64 (by omega) (by omega)]
 unfold kOr
 show IntKind.u64.wrap ((BitVec.ofInt 64 ((r * 4294967296 : Nat) : Int) ||| BitVec.ofInt 64 (x : Int)).toNat : Int) = _
 rw [BitVec.ofInt_natCast, BitVec.ofInt_natCast, BitVec.toNat_or, BitVec.toNat_ofNat, BitVec.toNat_ofNat, Nat.mod_eq_of_lt (by omega), Nat.mod_eq_of_lt (by omega)]
 have e2 : r * 4294967296 ||| x = r * 4294967296 + x := by
  have := Nat.two_pow_add_eq_or_of_lt (i := 32) (b := x) hx r
  rw [Nat.mul_comm] at this
  exact this.symm
 rw [e2, wrap_u64 (by omega) (by omega)]
theorem zji (hk : ∀ args H, ok.K 95 args H = none) (hm : ok.testBit 95 = true) {r x : Nat} (hr : r < 10) (hx : x < 4294967296) {H : Heap} (hw : H.wf) :
  EvF Tryd.prog ok 95 [.int .u32 (r : Int), .int .u32 (x : Int), .int .u32 10] H fun v H' => v = .tuple ⟨[.int .u32 ((r * 4294967296 + x) / 10 : Nat), .int .u32 ((r * 4294967296 + x) % 10 : Nat)]⟩ ∧ HX H H' := by
 refine EvF.enter (hk _ _) Tryd.func95 hm rfl ?_
 repeat' (first | refine EvC.seq ?_ | refine EvC.scope ?_ | refine EvC.block ?_ | (refine EvC.skip ?_; try simp only [z02]) | (refine EvC.exit ?_) | (refine EvC.ret ?_; try simp only [z01, z00]) | (refine EvC.reg ?_; simp (disch := first | omega | rfl) only [sB, initTm, Nat.reduceEqDiff, Nat.reduceAdd, reduceCtorEq, Int.reduceToNat, z9d, decide_eq_false, z3o, bShl, bOr, wrap_u64, znp hr hx]) | (refine EvC.drw [([(0, 0), (1, 0), (2, 0), (3, 0), (4, 0), (5, 0), (6, 0), (7, 0), (8, 0), (9, 0), (10, 0), (11, 0)], none)] ?_ ?_; kernel_rfl; simp (disch := first | omega | rfl) only [sD, sB, Nat.reduceEqDiff, Nat.reduceAdd, reduceCtorEq, z9d, z9e, wrap_u64, bQuo, bRem, wrap_u32, znn, zno, isAlloc, isRead, reduceCtorEq]) | (refine EvC.condT ?_ ?_; simp (disch := first | omega | rfl) only [sB, Nat.reduceEqDiff, reduceCtorEq]; refine z06 ?_) | (refine EvC.condF ?_ ?_; simp (disch := first | omega | rfl) only [sB, Nat.reduceEqDiff, reduceCtorEq]; refine z06 ?_))
 exact z71 rfl (by simp only [sG, Nat.reduceEqDiff, reduceCtorEq] <;> rfl) (by simp only [sG, Nat.reduceEqDiff, reduceCtorEq] <;> rfl) ⟨rfl, (HX.refl hw).bump _⟩
end Go.Proofs.hq
end

section
namespace Go.Proofs.hq
open Go Go.RowKit Go.Hb
def okT : Ok := okLaw (2 ^ 135 - 1) 5 75
end Go.Proofs.hq
end

section
namespace Go.Proofs.hq
open Go Go.RowKit Go.Hb
variable {ok : Ok}
set_option maxRecDepth 10000
attribute [local irreducible] LX LG EL STG SOP SGO SGD SAL SRD SEF SEG SLK SCK ES
theorem z3t {B m : Nat} {L : List Nat} (hz : ∀ x ∈ L.drop m, x = 0) : valB B (L.take m) = valB B L := zh9 hz
theorem zco {L : List Nat} {m x : Nat} (hL : ∀ y ∈ L, y < 4294967296) (hm : m ≤ L.length) (hz : ∀ y ∈ L.drop m, y = 0) (h0 : m ≠ 0) (hx : L[m - 1]? = some x) (hx0 : x ≠ 0) :
  nbits (valB 4294967296 L) = 32 * (m - 1) + nbits x := by
 rw [← z3t hz]
 have e : L.take m = L.take (m - 1) ++ [x] := by
  have h1 : m = (m - 1) + 1 := by omega
  rw [h1, List.take_add_one]
  simp only [Nat.add_sub_cancel, hx, Option.toList_some]
 rw [e]
 have := z7f (l := L.take (m - 1)) (x := x) (e := 32) (fun y hy => hL y (List.mem_of_mem_take hy)) hx0
 rw [List.length_take, Nat.min_eq_left (by omega)] at this
 exact this
theorem zhf {L : List Nat} {a : Option Addr} {c : Nat} {H : Heap} (r : RdS H (L.map u32V) a c) (hL : ∀ y ∈ L, y < 4294967296) (hlen : L.length ≤ 1048576) :
  EvF Tryd.prog okT 90 [.slice a L.length c] H fun v H' => v = .int .i64 (nbits (valB 4294967296 L) : Nat) ∧ H' = H := by
 have hLc : L.length ≤ c := by simpa using r.len
 have hc : c ≤ 9223372036854775807 := r.cap
 refine EvF.enter rfl Tryd.func90 (by decide) rfl ?_
 repeat' (first | refine EvC.seq ?_ | refine EvC.scope ?_ | refine EvC.block ?_ | (refine EvC.skip ?_) | (refine EvC.exit ?_) | (refine EvC.ret ?_; try simp only [z01, z00]) | (refine EvC.reg ?_; simp (disch := first | omega | rfl) only [sB, initTm, Nat.reduceEqDiff, reduceCtorEq, cl94]))
 refine (z9h (fun _ _ => rfl) (by decide) r).mono ?_
 rintro v H' ⟨m, rfl, hm, hz, hn0, rfl⟩
 by_cases h0 : m = 0
 ·subst h0
  repeat' (first | refine EvC.seq ?_ | refine EvC.scope ?_ | refine EvC.block ?_ | (refine EvC.skip ?_) | (refine EvC.exit ?_) | (refine EvC.ret ?_; try simp only [z01, z00]) | (refine EvC.reg ?_; simp (disch := first | omega | rfl) only [sB, Nat.reduceEqDiff, reduceCtorEq, z5a, z0j]) | (refine EvC.condT ?_ ?_; simp (disch := first | omega | rfl) only [sB, Nat.reduceEqDiff, reduceCtorEq]; refine z06 ?_))
  refine z05 rfl (by simp only [sB, Nat.reduceEqDiff, reduceCtorEq] <;> rfl) ⟨?_, rfl⟩
  rw [z5r _ L (by simpa using hz)]; rfl
 ·have hx : L[m - 1]? = some L[m - 1] := List.getElem?_eq_getElem (by omega)
  have hx0 := hn0 h0
  have hxl := hL L[m - 1] (List.getElem_mem _)
  generalize L[m - 1] = x at hx hxl
  rw [hx] at hx0
  have hx0' : x ≠ 0 := fun h => hx0 (by rw [h])
  have hnb := zco hL hm hz h0 hx hx0'
  have hle := z5c (n := x) (by omega)
  obtain ⟨b, o, rfl, hl⟩ := r.get (m - 1) (u32V x) (by simp [hx])
  unfold u32V at hl
  have e1 : ((m : Int) - 1) = ((m - 1 : Nat) : Int) := by omega
  repeat' (first | refine EvC.seq ?_ | refine EvC.scope ?_ | refine EvC.block ?_ | (refine EvC.skip ?_; try simp only [z02]) | (refine EvC.exit ?_) | (refine EvC.ret ?_; try simp only [z01, z00]) | (refine EvC.reg ?_; simp (disch := first | omega | rfl) only [sB, Nat.reduceEqDiff, reduceCtorEq, z5a, zfg, zh4, zoo, z0l, z0c, e1, hl]) | (refine EvC.condT ?_ ?_; simp (disch := first | omega | rfl) only [sB, Nat.reduceEqDiff, reduceCtorEq]; refine z06 ?_) | (refine EvC.condF ?_ ?_; simp (disch := first | omega | rfl) only [sB, Nat.reduceEqDiff, reduceCtorEq]; refine z06 ?_))
  refine (zjh (fun _ _ => rfl) (by decide) (show x < 4294967296 from hxl)).mono ?_
  rintro v H' ⟨rfl, rfl⟩
  repeat' (first | refine EvC.seq ?_ | refine EvC.scope ?_ | refine EvC.block ?_ | (refine EvC.skip ?_) | (refine EvC.exit ?_) | (refine EvC.ret ?_; try simp only [z01, z00]) | (refine z0i ?_; simp (disch := first | omega | rfl) only [sB, Nat.reduceEqDiff, reduceCtorEq, z0c]))
  refine z05 rfl (by simp only [sB, Nat.reduceEqDiff, reduceCtorEq] <;> rfl) ⟨?_, rfl⟩
  simp only [Value.int.injEq, true_and]
  omega
theorem zm2 {L : List Nat} {neg : Bool} {a : Option Addr} {b c : Nat} {H : Heap} (r : RdS H (L.map u32V) a c) (hL : ∀ y ∈ L, y < 4294967296) (hlen : L.length ≤ 1048576) (hw : H.wf) (hb : b < H.next)
  (hl : H.load ⟨b, 0, none⟩ 2 = some [.bool neg, .slice a L.length c]) :
  EvF Tryd.prog okT 92 [.slice (some ⟨b, 0, none⟩) 1 1] H fun v H' => v = .bool (decide (4096 < nbits (valB 4294967296 L))) ∧ HX H H' := by
 refine EvF.enter rfl Tryd.func92 (by decide) rfl ?_
 repeat' (first | refine EvC.seq ?_ | refine EvC.scope ?_ | refine EvC.block ?_ | (refine EvC.skip ?_) | (refine EvC.exit ?_) | (refine EvC.ret ?_; try simp only [z01, z00]) | (refine EvC.reg ?_; simp (disch := first | omega | rfl) only [sB, initTm, Nat.reduceEqDiff, reduceCtorEq, zop]))
 refine EvC.loop (fun k st => ∃ tm H', st = ⟨tm, [], H'⟩ ∧ HX H H' ∧ tm.get 5 = some (.slice (some ⟨b, 0, none⟩) 1 1) ∧ tm.get 6 = some (.int .i64 1) ∧ ((k = 1 ∧ tm.get 7 = some (.int .i64 0)) ∨ (k = 0 ∧ tm.get 7 = some (.int .i64 1) ∧ ¬ 4096 < nbits (valB 4294967296 L)))) ?_ 1 _ ?_
 ·rintro k st ⟨tm, H', rfl, hx, g5, g6, ⟨rfl, g7⟩ | ⟨rfl, g7, hn⟩⟩
  ·have hl' := hx.load hw hl
   have hx2 := ((hx.new (some (Blk.row [.bool false, .slice none 0 0] 120))).put (i := H'.next) hx.next (Nat.lt_succ_self _) (some (.row [.bool neg, .slice a L.length c] 120)))
   repeat' (first | refine EvC.seq ?_ | refine EvC.scope ?_ | refine EvC.block ?_ | (refine EvC.skip ?_; try simp only [z02]) | (refine EvC.exit ?_) | (refine EvC.ret ?_; try simp only [z01, z00]) | (refine EvC.reg ?_; simp (disch := first | omega | rfl) only [sB, dAlloc, Nat.reduceEqDiff, Nat.reduceAdd, one, cutC, Int.reduceToNat, z7x, zh3, z7w, zh5, zni, cl90, g5, g6, g7, hl', decide_eq_true, zoq, Nat.zero_mul]) | (refine EvC.condT ?_ ?_; simp (disch := first | omega | rfl) only [sB]; refine z06 ?_))
   refine (zhf (r.keep hx2 hw) hL hlen).mono ?_
   rintro v H2 ⟨rfl, rfl⟩
   by_cases hbig : 4096 < nbits (valB 4294967296 L)
   ·repeat' (first | refine EvC.seq ?_ | refine EvC.scope ?_ | refine EvC.block ?_ | (refine EvC.skip ?_) | (refine EvC.exit ?_) | (refine EvC.ret ?_; try simp only [z01, z00]) | (refine EvC.reg ?_; simp (disch := first | omega | rfl) only [sA]) | (refine z0i ?_; simp (disch := first | omega | rfl) only [sA, decide_eq_true]) | (refine EvC.condT ?_ ?_; simp (disch := first | omega | rfl) only [sB, Nat.reduceEqDiff]; refine z06 ?_))
    exact z05 rfl (by simp only [sG, Nat.reduceEqDiff] <;> rfl) ⟨rfl, hx2⟩
   ·repeat' (first | refine EvC.seq ?_ | refine EvC.scope ?_ | refine EvC.block ?_ | (refine EvC.skip ?_; try simp only [sA]) | (refine EvC.exit ?_) | (refine EvC.ret ?_; try simp only [z01, z00]) | (refine EvC.reg ?_; simp (disch := first | omega | rfl) only [sB, Nat.reduceEqDiff, g7, z0c]) | (refine z0i ?_; simp (disch := first | omega | rfl) only [sA, decide_eq_false]) | (refine EvC.condT ?_ ?_; simp (disch := first | omega | rfl) only [sB, Nat.reduceEqDiff]; refine z06 ?_) | (refine EvC.condF ?_ ?_; simp (disch := first | omega | rfl) only [sB, Nat.reduceEqDiff]; refine z06 ?_))
    exact ⟨0, by omega, _, _, rfl, hx2, (by simp only [sG, Nat.reduceEqDiff, g5] <;> rfl), (by simp only [sG, Nat.reduceEqDiff, g6] <;> rfl), .inr ⟨rfl, (by simp only [sB, Nat.reduceEqDiff] <;> rfl), hbig⟩⟩
  ·repeat' (first | refine EvC.seq ?_ | refine EvC.scope ?_ | refine EvC.block ?_ | (refine EvC.skip ?_) | (refine EvC.exit ?_; try simp only [sB]) | (refine EvC.ret ?_; try simp only [z01, z00]) | (refine EvC.reg ?_; simp (disch := first | omega | rfl) only [sA, g6, g7, decide_eq_false]) | (refine EvC.condT ?_ ?_; simp (disch := first | omega | rfl) only [sB]; refine z06 ?_) | (refine EvC.condF ?_ ?_; simp (disch := first | omega | rfl) only [sB]; refine z06 ?_))
   exact z05 rfl (by simp only [sG, Nat.reduceEqDiff] <;> rfl) ⟨rfl, hx⟩
 ·exact ⟨_, _, rfl, HX.refl hw, (by simp only [sG, Nat.reduceEqDiff, reduceCtorEq] <;> rfl), (by simp only [sB, Nat.reduceEqDiff, reduceCtorEq] <;> rfl), .inl ⟨rfl, (by simp only [sG, Nat.reduceEqDiff, reduceCtorEq] <;> rfl)⟩⟩
theorem znq {L : List Nat} {a : Option Addr} {c : Nat} {H : Heap} (r : RdS H (L.map u32V) a c) (hlen : L.length ≤ 1048576) (hw : H.wf) :
  EvF Tryd.prog okT 93 [.slice a L.length c] H fun v H' => ∃ b c', OwnS H' 132 1 H.next (L.map fun x => [u32V x]) b c' ∧ v = .slice (some ⟨b, 0, none⟩) L.length c' ∧ HX H H' := by
 have hmost : L.length ≤ most := hlen
 have hm0 : 0 ≤ most := Nat.zero_le _
 have hmax : L.length ≤ maxLen := Nat.le_trans hlen (by simp [maxLen])
 refine EvF.enter rfl Tryd.func93 (by decide) rfl ?_
 by_cases h0 : L.length = 0
 ·have hL0 : L = [] := List.length_eq_zero_iff.1 h0
  subst hL0
  repeat' (first | refine EvC.seq ?_ | refine EvC.scope ?_ | refine EvC.block ?_ | (refine EvC.skip ?_) | (refine EvC.exit ?_) | (refine EvC.ret ?_; try simp only [z01, z00]) | (refine EvC.reg ?_; simp (disch := first | omega | rfl) only [sB, initTm, Nat.reduceEqDiff, reduceCtorEq, z5a, z75 znl hm0, z9a, List.replicate_zero, zjb zm1]))
  refine z05 rfl (by simp only [sG, Nat.reduceEqDiff, reduceCtorEq] <;> rfl) ⟨H.next, 0, ?_, rfl, (HX.refl hw).new _⟩
  exact OwnS.ones (vs := []) z0n (Nat.le_refl _) (Nat.lt_succ_self _) (Nat.le_refl _) (Nat.zero_le _) rfl
 ·have hx := (HX.refl hw).new (some (.row (List.replicate L.length (Value.int .u32 0)) 132))
  obtain ⟨b, o, rfl, hl⟩ := (r.keep hx hw).all (by simpa using h0)
  rw [List.length_map] at hl
  have hone : (L.map u32V).all one = true := by simp [u32V, one]
  have hcp := zlv (c := L.length) (c' := c) (o := 0) (b := H.next) zm1 (Nat.pos_of_ne_zero h0) (by rw [Nat.mul_one]; exact hl) hone z0n (by simp)
  have hsp : Hb.splice (List.replicate L.length (Value.int .u32 0)) 0 (L.map u32V) = L.map u32V := by rw [z3g]; simp
  rw [hsp] at hcp
  repeat' (first | refine EvC.seq ?_ | refine EvC.scope ?_ | refine EvC.block ?_ | (refine EvC.skip ?_) | (refine EvC.exit ?_) | (refine EvC.ret ?_; try simp only [z01, z00]) | (refine EvC.reg ?_; simp (disch := first | omega | rfl) only [sB, initTm, Nat.reduceEqDiff, reduceCtorEq, z5a, z75 znl hmost, z9a, hcp]))
  refine z05 rfl (by simp only [sG, Nat.reduceEqDiff, reduceCtorEq] <;> rfl) ⟨H.next, L.length, ?_, rfl, hx.put (Nat.le_refl _) (Nat.lt_succ_self _) _⟩
  have := OwnS.ones (H := (H.new (some (.row (List.replicate L.length (Value.int .u32 0)) 132))).put H.next (some (.row (L.map u32V) 132))) (base := H.next) (c := L.length) z72 (Nat.le_refl _) (Nat.lt_succ_self _) (by simp) hmax hone
  rw [List.map_map] at this
  exact this
theorem zm3 {L : List Nat} {neg : Bool} {a : Option Addr} {c : Nat} {H : Heap} (r : RdS H (L.map u32V) a c) (hw : H.wf) :
  EvF Tryd.prog okT 91 [.bool neg, .slice a L.length c] H fun v H' => ∃ m, v = .agg ⟨[.bool (neg && decide (0 < m)), .slice a m c]⟩ ∧ m ≤ L.length ∧ (∀ x ∈ L.drop m, x = 0) ∧ (m ≠ 0 → L[m - 1]? ≠ some 0) ∧ HX H H' := by
 refine EvF.enter rfl Tryd.func91 (by decide) rfl ?_
 repeat' (first | refine EvC.seq ?_ | refine EvC.scope ?_ | refine EvC.block ?_ | (refine EvC.skip ?_) | (refine EvC.exit ?_) | (refine EvC.ret ?_; try simp only [z01, z00]) | (refine EvC.reg ?_; simp (disch := first | omega | rfl) only [sB, initTm, dAlloc, Nat.reduceEqDiff, reduceCtorEq, zh3, cl94]))
 have hx := (HX.refl hw).new (some (.row [.bool false, .slice none 0 0] 120))
 refine (z9h (fun _ _ => rfl) (by decide) (r.keep hx hw)).mono ?_
 rintro v H' ⟨m, rfl, hm, hz, hn0, rfl⟩
 cases neg with
 | false =>
  repeat' (first | refine EvC.seq ?_ | refine EvC.scope ?_ | refine EvC.block ?_ | (refine EvC.skip ?_) | (refine EvC.exit ?_) | (refine EvC.ret ?_; try simp only [z01, z00]) | (refine EvC.reg ?_; simp (disch := first | omega | rfl) only [sB, Nat.reduceEqDiff, Nat.reduceAdd, Value.cells, one, reduceCtorEq, Nat.reduceLeDiff, layC, zff, z7w]))
  exact z0a rfl (by simp only [sB, Nat.reduceEqDiff, reduceCtorEq] <;> rfl) (by simp only [sB, Nat.reduceAdd, cutC, z7x] <;> rfl) ⟨m, rfl, hm, hz, hn0, hx.put (Nat.le_refl _) (Nat.lt_succ_self _) _⟩
 | true =>
  by_cases h0 : 0 < m
  ·repeat' (first | refine EvC.seq ?_ | refine EvC.scope ?_ | refine EvC.block ?_ | (refine EvC.skip ?_) | (refine EvC.exit ?_) | (refine EvC.ret ?_; try simp only [z01, z00]) | (refine EvC.reg ?_; simp (disch := first | omega | rfl) only [sB, Nat.reduceEqDiff, Nat.reduceAdd, Value.cells, one, reduceCtorEq, Nat.reduceLeDiff, layC, z5a, zff, z7w, decide_eq_true]))
   exact z0a rfl (by simp only [sB, Nat.reduceEqDiff, reduceCtorEq] <;> rfl) (by simp only [sB, Nat.reduceAdd, cutC, z7x] <;> rfl) ⟨m, by first | rfl | simp [h0], hm, hz, hn0, hx.put (Nat.le_refl _) (Nat.lt_succ_self _) _⟩
  ·repeat' (first | refine EvC.seq ?_ | refine EvC.scope ?_ | refine EvC.block ?_ | (refine EvC.skip ?_) | (refine EvC.exit ?_) | (refine EvC.ret ?_; try simp only [z01, z00]) | (refine EvC.reg ?_; simp (disch := first | omega | rfl) only [sB, Nat.reduceEqDiff, Nat.reduceAdd, Value.cells, one, reduceCtorEq, Nat.reduceLeDiff, layC, z5a, zff, z7w, decide_eq_false]))
   exact z0a rfl (by simp only [sB, Nat.reduceEqDiff, reduceCtorEq] <;> rfl) (by simp only [sB, Nat.reduceAdd, cutC, z7x] <;> rfl) ⟨m, by first | rfl | simp [h0], hm, hz, hn0, hx.put (Nat.le_refl _) (Nat.lt_succ_self _) _⟩
theorem zjj {L : List Nat} {neg : Bool} {a : Option Addr} {c : Nat} {H : Heap} (r : RdS H (L.map i64V) a c) (hw : H.wf) :
  EvF Tryd.prog okT 100 [.bool neg, .slice a L.length c] H fun v H' => ∃ m, v = .agg ⟨[.bool (neg && decide (0 < m)), .slice a m c]⟩ ∧ m ≤ L.length ∧ (∀ x ∈ L.drop m, x = 0) ∧ (m ≠ 0 → L[m - 1]? ≠ some 0) ∧ HX H H' := by
 refine EvF.enter rfl Tryd.func100 (by decide) rfl ?_
 repeat' (first | refine EvC.seq ?_ | refine EvC.scope ?_ | refine EvC.block ?_ | (refine EvC.skip ?_) | (refine EvC.exit ?_) | (refine EvC.ret ?_; try simp only [z01, z00]) | (refine EvC.reg ?_; simp (disch := first | omega | rfl) only [sB, initTm, dAlloc, Nat.reduceEqDiff, reduceCtorEq, zje, cl99]))
 have hx := (HX.refl hw).new (some (.row [.bool false, .slice none 0 0] 127))
 refine (zhe (fun _ _ => rfl) (by decide) (r.keep hx hw)).mono ?_
 rintro v H' ⟨m, rfl, hm, hz, hn0, rfl⟩
 cases neg with
 | false =>
  repeat' (first | refine EvC.seq ?_ | refine EvC.scope ?_ | refine EvC.block ?_ | (refine EvC.skip ?_) | (refine EvC.exit ?_) | (refine EvC.ret ?_; try simp only [z01, z00]) | (refine EvC.reg ?_; simp (disch := first | omega | rfl) only [sB, Nat.reduceEqDiff, Nat.reduceAdd, Value.cells, one, reduceCtorEq, Nat.reduceLeDiff, layC, zfh, z9c]))
  exact z0a rfl (by simp only [sB, Nat.reduceEqDiff, reduceCtorEq] <;> rfl) (by simp only [sB, Nat.reduceAdd, cutC, zb1] <;> rfl) ⟨m, rfl, hm, hz, hn0, hx.put (Nat.le_refl _) (Nat.lt_succ_self _) _⟩
 | true =>
  by_cases h0 : 0 < m
  ·repeat' (first | refine EvC.seq ?_ | refine EvC.scope ?_ | refine EvC.block ?_ | (refine EvC.skip ?_) | (refine EvC.exit ?_) | (refine EvC.ret ?_; try simp only [z01, z00]) | (refine EvC.reg ?_; simp (disch := first | omega | rfl) only [sB, Nat.reduceEqDiff, Nat.reduceAdd, Value.cells, one, reduceCtorEq, Nat.reduceLeDiff, layC, ln84, zfh, z9c, decide_eq_true]))
   exact z0a rfl (by simp only [sB, Nat.reduceEqDiff, reduceCtorEq] <;> rfl) (by simp only [sB, Nat.reduceAdd, cutC, zb1] <;> rfl) ⟨m, by first | rfl | simp [h0], hm, hz, hn0, hx.put (Nat.le_refl _) (Nat.lt_succ_self _) _⟩
  ·repeat' (first | refine EvC.seq ?_ | refine EvC.scope ?_ | refine EvC.block ?_ | (refine EvC.skip ?_) | (refine EvC.exit ?_) | (refine EvC.ret ?_; try simp only [z01, z00]) | (refine EvC.reg ?_; simp (disch := first | omega | rfl) only [sB, Nat.reduceEqDiff, Nat.reduceAdd, Value.cells, one, reduceCtorEq, Nat.reduceLeDiff, layC, ln84, zfh, z9c, decide_eq_false]))
   exact z0a rfl (by simp only [sB, Nat.reduceEqDiff, reduceCtorEq] <;> rfl) (by simp only [sB, Nat.reduceAdd, cutC, zb1] <;> rfl) ⟨m, by first | rfl | simp [h0], hm, hz, hn0, hx.put (Nat.le_refl _) (Nat.lt_succ_self _) _⟩
def bl (s : ByteArray) : List Nat := s.data.toList.map UInt8.toNat
theorem z1z (s : ByteArray) : (bl s).length = s.size := by simp [bl]
theorem z8g (s : ByteArray) {i : Nat} (h : i < s.size) : (bl s)[i]? = some (byteAt s i) := by
 have h' : i < s.data.toList.length := by simpa using h
 unfold bl byteAt
 rw [List.getElem?_map, List.getElem?_eq_getElem h', List.getD_eq_getElem?_getD, List.getElem?_eq_getElem h']
 rfl
theorem z8h (s : ByteArray) (l m : Nat) : bl (s.extract l m) = ((bl s).take m).drop l := by
 unfold bl
 rw [ByteArray.data_extract, Array.toList_extract, List.extract_eq_take_drop, List.map_take, List.map_drop, ← List.drop_take]
def negS (l : List Nat) : Bool := l.head? == some 45
def bodyS (l : List Nat) : List Nat := if negS l then l.tail else l
def parseD (l : List Nat) : Option Nat := if bodyS l = [] then none else if (bodyS l).any (fun x => 10 ≤ digV x) then none else numD ((bodyS l).map digV) 0
def limbsOK (L : List Nat) : Prop := (∀ y ∈ L, y < 4294967296) ∧ L.getLast? ≠ some 0
theorem zb3 {L : List Nat} (h : limbsOK L) (hb : ¬ 4096 < nbits (valB 4294967296 L)) : L.length ≤ 128 := by
 rcases List.eq_nil_or_concat L with rfl | ⟨l, x, rfl⟩
 ·simp
 ·rw [List.concat_eq_append] at *
  have hx : x ≠ 0 := by have := h.2; simpa using this
  have := z7f (l := l) (x := x) (e := 32) (fun y hy => h.1 y (by simp [hy])) hx
  have h0 : 1 ≤ nbits x := by unfold nbits; rw [if_neg hx]; omega
  rw [show (2 : Nat) ^ 32 = 4294967296 from rfl] at this
  rw [this] at hb
  simp
  omega
def ParseT (H' : Heap) (V : Nat → Value) (B : Nat) (l : List Nat) (v : Value) : Prop :=
 (parseD l = none ∧ ∃ e : Int, e ≠ 0 ∧ v = .tuple ⟨[.agg ⟨[.bool false, .slice none 0 0]⟩, .int .i64 e]⟩) ∨
 ∃ n L a c, parseD l = some n ∧ v = .tuple ⟨[.agg ⟨[.bool (negS l && decide (0 < L.length)), .slice a L.length c]⟩, .int .i64 0]⟩ ∧ RdS H' (L.map V) a c ∧ (∀ y ∈ L, y < B) ∧ valB B L = n ∧ L.getLast? ≠ some 0 ∧ L.length ≤ 4096
set_option maxHeartbeats 2000000 in
theorem zjk {s : ByteArray} (hs : s.size ≤ 9223372036854775807) {H : Heap} (hw : H.wf) :
  EvF Tryd.prog okT 84 [.string s, .int .i64 10] H fun v H' => ParseT H' u32V 4294967296 (bl s) v ∧ HX H H' := by
 refine EvF.enter rfl Tryd.func84 (by decide) rfl ?_
 (repeat refine EvC.seq ?_); refine EvC.reg ?_; simp (disch := first | omega | rfl) only [sA, initTm, dAlloc, zh3]
 have hx0 := (HX.refl hw).new (some (.row [.bool false, .slice none 0 0] 120))
 obtain ⟨H1, hH1⟩ : ∃ H1, H1 = H.new (some (.row [.bool false, .slice none 0 0] 120)) := ⟨_, rfl⟩
 have hn1 : H1.next = H.next + 1 := by rw [hH1]; rfl
 have hg1 : H1.get H.next = some (.row [.bool false, .slice none 0 0] 120) := by rw [hH1]; exact z0n
 rw [← hH1] at hx0 ⊢
 (repeat refine EvC.seq ?_); refine EvC.reg ?_; simp (disch := first | omega | rfl) only [sB, Nat.reduceEqDiff, reduceCtorEq, decide_eq_false, Bool.false_eq_true]
 (repeat refine EvC.seq ?_); refine EvC.condF (by simp (disch := first | omega | rfl) only [sB, Nat.reduceEqDiff, reduceCtorEq]) ?_; (try refine EvC.skip ?_); (try simp only [z02, z03])
 (repeat refine EvC.seq ?_)
 refine EvC.join (fun st => ∃ tm, st = ⟨tm, [], H1⟩ ∧ tm.get 0 = some (.string s) ∧ tm.get 1 = some (.int .i64 10) ∧ tm.get 4 = some (.pointer (some ⟨H.next, 0, none⟩)) ∧ tm.get 6 = some (.bool (negS (bl s)))) ?_ ?_
 ·by_cases h0 : s.size = 0
  ·have hb : negS (bl s) = false := by
    have : bl s = [] := List.length_eq_zero_iff.1 (by rw [z1z]; exact h0)
    rw [this]; rfl
   rw [hb]
   (repeat refine EvC.seq ?_); refine EvC.reg ?_; simp (disch := first | omega | rfl) only [sB, Nat.reduceEqDiff, reduceCtorEq, ln9, decide_eq_false, Bool.false_eq_true]
   exact ⟨_, rfl, (by simp only [sG, reduceCtorEq] <;> rfl), (by simp only [sG, Nat.reduceEqDiff, reduceCtorEq] <;> rfl), (by simp only [sG, Nat.reduceEqDiff, reduceCtorEq] <;> rfl), (by simp only [sG, Nat.reduceEqDiff, reduceCtorEq] <;> rfl)⟩
  ·have hb : negS (bl s) = (byteAt s 0 == 45) := by
    have := z8g s (i := 0) (by omega)
    unfold negS
    rw [List.head?_eq_getElem?, this]; simp
   rw [hb]
   by_cases h45 : byteAt s 0 = 45
   ·(repeat refine EvC.seq ?_); refine EvC.reg ?_; simp (disch := first | omega | rfl) only [sB, Nat.reduceEqDiff, reduceCtorEq, Int.reduceToNat, ln9, decide_eq_true, iy9, z0j]
    exact ⟨_, rfl, (by simp only [sG, reduceCtorEq] <;> rfl), (by simp only [sG, Nat.reduceEqDiff, reduceCtorEq] <;> rfl), (by simp only [sG, Nat.reduceEqDiff, reduceCtorEq] <;> rfl), by simp only [sB, Nat.reduceEqDiff, reduceCtorEq]; first | rfl | simp [h45]⟩
   ·(repeat refine EvC.seq ?_); refine EvC.reg ?_; simp (disch := first | omega | rfl) only [sB, Nat.reduceEqDiff, reduceCtorEq, Int.reduceToNat, ln9, decide_eq_true, iy9, z0l]
    exact ⟨_, rfl, (by simp only [sG, reduceCtorEq] <;> rfl), (by simp only [sG, Nat.reduceEqDiff, reduceCtorEq] <;> rfl), (by simp only [sG, Nat.reduceEqDiff, reduceCtorEq] <;> rfl), by simp only [sB, Nat.reduceEqDiff, reduceCtorEq]; first | rfl | simp [h45]⟩
 rintro st ⟨tm, rfl, g0, g1, g4, g6⟩
 try simp (disch := first | omega | rfl) only [z02]
 (repeat refine EvC.seq ?_); refine EvC.reg ?_; simp (disch := first | omega | rfl) only [sA, g6]
 (repeat refine EvC.seq ?_)
 have hbody : bodyS (bl s) = if negS (bl s) then (bl s).tail else bl s := rfl
 refine EvC.join (fun st => ∃ tm s', st = ⟨tm, [], H1⟩ ∧ bl s' = bodyS (bl s) ∧ s'.size ≤ 9223372036854775807 ∧ tm.get 0 = some (.string s') ∧ tm.get 1 = some (.int .i64 10) ∧ tm.get 4 = some (.pointer (some ⟨H.next, 0, none⟩)) ∧ tm.get 6 = some (.bool (negS (bl s)))) ?_ ?_
 ·cases hneg : negS (bl s) with
  | true =>
   have h1 : 1 ≤ s.size := by
    rw [← z1z]
    cases hb : bl s with
    | nil => rw [hb] at hneg; simp [negS] at hneg
    | cons x l => simp
   have hsl : dSl Tryd.prog 9 (.string s) (some (.int .i64 1)) none none H1 = some (.val (.string (s.extract 1 s.size)) H1) := z89 (l := 1) us9 h1
   rw [hneg] at g6 hbody
   refine EvC.condT (by simp only [sB] <;> rfl) ?_
   (repeat refine EvC.seq ?_); refine EvC.reg ?_; simp (disch := first | omega | rfl) only [sB, Nat.reduceEqDiff, reduceCtorEq, g0, hsl]
   refine ⟨_, s.extract 1 s.size, rfl, ?_, ?_, (by simp only [sG, reduceCtorEq] <;> rfl), (by simp only [sG, Nat.reduceEqDiff, reduceCtorEq, g1] <;> rfl), (by simp only [sG, Nat.reduceEqDiff, reduceCtorEq, g4] <;> rfl), (by simp only [sG, Nat.reduceEqDiff, reduceCtorEq, g6] <;> rfl)⟩
   ·rw [z8h, hbody, List.take_of_length_le (by rw [z1z]; exact Nat.le_refl _)]
    simp
   ·have : (s.extract 1 s.size).size ≤ s.size := by rw [ByteArray.size_extract]; omega
    omega
  | false =>
   rw [hneg] at g6 hbody
   refine EvC.condF (by simp only [sB] <;> rfl) (EvC.skip ?_)
   try simp (disch := first | omega | rfl) only [z02]
   exact ⟨_, s, rfl, by rw [hbody]; rfl, hs, (by simp only [sG, reduceCtorEq, g0] <;> rfl), (by simp only [sG, Nat.reduceEqDiff, g1] <;> rfl), (by simp only [sG, Nat.reduceEqDiff, g4] <;> rfl), (by simp only [sG, Nat.reduceEqDiff, g6] <;> rfl)⟩
 clear g0 g1 g4 g6
 rintro st ⟨tm1, s', rfl, hbl, hs', g0, g1, g4, g6⟩
 clear tm
 generalize hneg : negS (bl s) = neg at g6
 try simp (disch := first | omega | rfl) only [z02]
 (repeat refine EvC.seq ?_); refine EvC.reg ?_; simp (disch := first | omega | rfl) only [sB, ln9, g0]
 (repeat refine EvC.seq ?_)
 refine EvC.join (fun st => ∃ tm, st = ⟨tm, [], H1⟩ ∧ (bodyS (bl s)).any (fun x => 10 ≤ digV x) = false ∧ tm.get 0 = some (.string s') ∧ tm.get 1 = some (.int .i64 10) ∧ tm.get 4 = some (.pointer (some ⟨H.next, 0, none⟩)) ∧ tm.get 6 = some (.bool neg)) ?_ ?_
 ·refine EvC.block (EvC.loop (fun k st => ∃ tm i, st = ⟨tm, [], H1⟩ ∧ k = s'.size - i ∧ i ≤ s'.size ∧ (∀ x ∈ (bl s').take i, digV x < 10) ∧ tm.get 0 = some (.string s') ∧ tm.get 1 = some (.int .i64 10) ∧ tm.get 4 = some (.pointer (some ⟨H.next, 0, none⟩)) ∧ tm.get 6 = some (.bool neg) ∧ tm.get 32 = some (.int .i64 s'.size) ∧ tm.get 33 = some (.int .i64 (i : Nat))) ?_ s'.size _ ?_)
  ·rintro k st ⟨tm, i, rfl, hk, hi, hall, f0, f1, f4, f6, f32, f33⟩
   by_cases hlt : i < s'.size
   ·have hgi := z8g s' hlt
    repeat' (first | refine EvC.seq ?_ | refine EvC.scope ?_ | refine EvC.block ?_ | (refine EvC.skip ?_; try simp only [z02]) | (refine EvC.exit ?_) | (refine EvC.ret ?_; try simp only [z01, z00]) | (refine EvC.reg ?_; simp (disch := first | omega | rfl) only [sB, Nat.reduceEqDiff, reduceCtorEq, ix9, cl89, f0, f1, f32, f33, decide_eq_true]) | (refine EvC.condT ?_ ?_; simp (disch := first | omega | rfl) only [sB]; refine z06 ?_))
    refine (ze9 (fun _ _ => rfl) (by decide) _ (z58 s' i) H1).mono ?_
    rintro v H' ⟨rfl, rfl⟩
    by_cases hd : 10 ≤ digV (byteAt s' i)
    ·repeat' (first | refine EvC.seq ?_ | refine EvC.scope ?_ | refine EvC.block ?_ | (refine EvC.skip ?_) | (refine EvC.exit ?_) | (refine EvC.ret ?_; try simp only [z01, z00]) | (refine EvC.reg ?_; simp (disch := first | omega | rfl) only [sB, Nat.reduceEqDiff, Nat.reduceAdd, Value.cells, one, layC, zff, z7w, f4, hg1]) | (refine z0i ?_; simp (disch := first | omega | rfl) only [sA, decide_eq_true]) | (refine EvC.condT ?_ ?_; simp (disch := first | omega | rfl) only [sB, Nat.reduceEqDiff]; refine z06 ?_))
     refine z0b rfl (by simp only [sB, Nat.reduceEqDiff, f4] <;> rfl) (by simp only [sB, Nat.reduceAdd, cutC, z7x] <;> rfl) (by simp only [sG, Nat.reduceEqDiff] <;> rfl) ⟨.inl ⟨?_, 12, by omega, rfl⟩, ?_⟩
     ·have hm : byteAt s' i ∈ bodyS (bl s) := by rw [← hbl]; exact List.mem_of_getElem? hgi
      unfold parseD
      rw [if_neg (fun h => by rw [h] at hm; cases hm), if_pos (List.any_eq_true.2 ⟨_, hm, decide_eq_true hd⟩)]
     ·exact hx0.put (Nat.le_refl _) (by omega) _
    ·repeat' (first | refine EvC.seq ?_ | refine EvC.scope ?_ | refine EvC.block ?_ | (refine EvC.skip ?_; try simp only [sA]) | (refine EvC.exit ?_) | (refine EvC.ret ?_; try simp only [z01, z00]) | (refine EvC.reg ?_; simp (disch := first | omega | rfl) only [sB, Nat.reduceEqDiff, f33, z0c]) | (refine z0i ?_; simp (disch := first | omega | rfl) only [sA, decide_eq_false]) | (refine EvC.condT ?_ ?_; simp (disch := first | omega | rfl) only [sB, Nat.reduceEqDiff]; refine z06 ?_) | (refine EvC.condF ?_ ?_; simp (disch := first | omega | rfl) only [sB, Nat.reduceEqDiff]; refine z06 ?_))
     refine ⟨s'.size - (i + 1), by omega, _, i + 1, rfl, rfl, by omega, fun x hx => ?_, (by simp only [sG, reduceCtorEq, f0] <;> rfl), (by simp only [sG, Nat.reduceEqDiff, f1] <;> rfl), (by simp only [sG, Nat.reduceEqDiff, f4] <;> rfl), (by simp only [sG, Nat.reduceEqDiff, f6] <;> rfl), (by simp only [sG, Nat.reduceEqDiff, f32] <;> rfl), (by simp only [sB, Nat.reduceEqDiff] <;> rfl)⟩
     rw [List.take_add_one, hgi] at hx
     rcases List.mem_append.1 hx with h | h
     ·exact hall x h
     ·simp at h; rw [h]; omega
   ·repeat' (first | refine EvC.seq ?_ | refine EvC.scope ?_ | refine EvC.block ?_ | (refine EvC.skip ?_) | (refine EvC.exit ?_; try simp only [sB]) | (refine EvC.ret ?_; try simp only [z01, z00]) | (refine EvC.reg ?_; simp (disch := first | omega | rfl) only [sA, f32, f33, decide_eq_false]) | (refine EvC.condT ?_ ?_; simp (disch := first | omega | rfl) only [sB]; refine z06 ?_) | (refine EvC.condF ?_ ?_; simp (disch := first | omega | rfl) only [sB]; refine z06 ?_))
    refine ⟨_, rfl, ?_, (by simp only [sG, reduceCtorEq, f0] <;> rfl), (by simp only [sG, Nat.reduceEqDiff, f1] <;> rfl), (by simp only [sG, Nat.reduceEqDiff, f4] <;> rfl), (by simp only [sG, Nat.reduceEqDiff, f6] <;> rfl)⟩
    rw [List.any_eq_false]
    intro x hx
    rw [← hbl] at hx
    have := hall x (by rw [List.take_of_length_le (by rw [z1z]; omega)]; exact hx)
    simp; omega
  ·exact ⟨_, 0, rfl, by omega, by omega, by simp, (by simp only [sG, reduceCtorEq, g0] <;> rfl), (by simp only [sG, Nat.reduceEqDiff, g1] <;> rfl), (by simp only [sG, Nat.reduceEqDiff, g4] <;> rfl), (by simp only [sG, Nat.reduceEqDiff, g6] <;> rfl), (by simp only [sG, Nat.reduceEqDiff] <;> rfl), (by simp only [sB, Nat.reduceEqDiff] <;> rfl)⟩
 clear g0 g1 g4 g6 tm1
 rintro st ⟨tm, rfl, hany, g0, g1, g4, g6⟩
 by_cases hsz : s'.size = 0
 ·repeat' (first | refine EvC.seq ?_ | refine EvC.scope ?_ | refine EvC.block ?_ | (refine EvC.skip ?_) | (refine EvC.exit ?_) | (refine EvC.ret ?_; try simp only [z01, z00]) | (refine EvC.reg ?_; simp (disch := first | omega | rfl) only [sB, Nat.reduceEqDiff, Nat.reduceAdd, Value.cells, one, layC, zff, z7w, g0, g4, z6c, decide_eq_true, hg1]) | (refine EvC.condT ?_ ?_; simp (disch := first | omega | rfl) only [sB, Nat.reduceEqDiff]; refine z06 ?_))
  refine z0b rfl (by simp only [sB, Nat.reduceEqDiff, g4] <;> rfl) (by simp only [sB, Nat.reduceAdd, cutC, z7x] <;> rfl) (by simp only [sG, Nat.reduceEqDiff] <;> rfl) ⟨.inl ⟨?_, 12, by omega, rfl⟩, hx0.put (Nat.le_refl _) (by omega) _⟩
  have : bodyS (bl s) = [] := by rw [← hbl]; exact List.length_eq_zero_iff.1 (by rw [z1z]; exact hsz)
  unfold parseD
  rw [if_pos this]
 have hpd : parseD (bl s) = numD ((bl s').map digV) 0 := by
  have : bodyS (bl s) ≠ [] := by rw [← hbl]; intro h; have := congrArg List.length h; rw [z1z] at this; exact hsz this
  unfold parseD
  rw [if_neg this, if_neg (by rw [hany]; simp), hbl]
 repeat' (first | refine EvC.seq ?_ | refine EvC.scope ?_ | refine EvC.block ?_ | (refine EvC.skip ?_; try simp only [z02]) | (refine EvC.exit ?_) | (refine EvC.ret ?_; try simp only [z01, z00]) | (refine EvC.reg ?_; simp (disch := first | omega | rfl) only [sB, Nat.reduceEqDiff, reduceCtorEq, ln9, g0, z6c, decide_eq_false]) | (refine EvC.condT ?_ ?_; simp (disch := first | omega | rfl) only [sB, Nat.reduceEqDiff]; refine z06 ?_) | (refine EvC.condF ?_ ?_; simp (disch := first | omega | rfl) only [sB, Nat.reduceEqDiff]; refine z06 ?_))
 have hdl : ∀ x ∈ bl s', digV x < 10 := by
  rw [← hbl, List.any_eq_false] at hany
  intro x hx
  have := hany x hx
  simp at this; omega
 refine EvC.loop (fun k st => ∃ tm i n L v Hc, st = ⟨tm, [], Hc⟩ ∧ k = s'.size - i ∧ i ≤ s'.size ∧ numD (((bl s').map digV).drop i) n = numD ((bl s').map digV) 0 ∧ n < big ∧ valB 4294967296 L = n ∧ limbsOK L ∧ HX H1 Hc ∧
  RepO Hc 132 1 H1.next (L.map fun x => [u32V x]) v ∧ tm.get 0 = some (.string s') ∧ tm.get 1 = some (.int .i64 10) ∧ tm.get 4 = some (.pointer (some ⟨H.next, 0, none⟩)) ∧ tm.get 6 = some (.bool neg) ∧ tm.get 8 = some v ∧
  tm.get 48 = some (.int .i64 s'.size) ∧ tm.get 49 = some (.int .i64 (i : Nat))) ?_ s'.size _ ?_
 ·clear g0 g1 g4 g6 tm
  rintro k st ⟨tm, i, n, L, v, Hc, rfl, hk, hi, hnum, hnb, hval, hL, hxc, hrep, g0, g1, g4, g6, g8, g48, g49⟩
  by_cases hlt : i < s'.size
  ·have hgi := z8g s' hlt
   have hdi : digV (byteAt s' i) < 10 := hdl _ (List.mem_of_getElem? hgi)
   repeat' (first | refine EvC.seq ?_ | refine EvC.scope ?_ | refine EvC.block ?_ | (refine EvC.skip ?_; try simp only [z02]) | (refine EvC.exit ?_) | (refine EvC.ret ?_; try simp only [z01, z00]) | (refine EvC.reg ?_; simp (disch := first | omega | rfl) only [sB, Nat.reduceEqDiff, reduceCtorEq, ix9, cl89, g0, g48, g49, decide_eq_true]) | (refine EvC.condT ?_ ?_; simp (disch := first | omega | rfl) only [sB]; refine z06 ?_))
   refine (ze9 (fun _ _ => rfl) (by decide) _ (z58 s' i) Hc).mono ?_
   rintro v' H' ⟨rfl, rfl⟩
   obtain ⟨a, c, rfl, hLc, hcm⟩ := hrep.slice
   rw [List.length_map] at hLc g8 hrep
   have hcm' : c ≤ 9223372036854775807 := hcm
   repeat' (first | refine EvC.seq ?_ | refine EvC.scope ?_ | refine EvC.block ?_ | (refine EvC.skip ?_) | (refine EvC.exit ?_) | (refine EvC.ret ?_; try simp only [z01, z00]) | (refine EvC.reg ?_; simp (disch := first | omega | rfl) only [sB, Nat.reduceEqDiff, z5a, g8]) | (refine z0i ?_; simp (disch := first | omega | rfl) only [sB, Nat.reduceEqDiff, zl4, wrap_u64]))
   refine EvC.loop (fun k' st => ∃ tm k d cy Hd, st = ⟨tm, [], Hd⟩ ∧ k' = L.length - k ∧ k ≤ L.length ∧ d.length = k ∧ (∀ y ∈ d, y < 4294967296) ∧ cy < 10 ∧
    valB 4294967296 d + 4294967296 ^ k * (10 * valB 4294967296 (L.drop k) + cy) = 10 * valB 4294967296 L + digV (byteAt s' i) ∧ (k ≠ 0 → L[k - 1]? ≠ some 0 → cy ≠ 0 ∨ d.getLast? ≠ some 0) ∧ (k = 0 → cy = digV (byteAt s' i)) ∧ HX H1 Hd ∧
    RepO Hd 132 1 H1.next ((d ++ L.drop k).map fun x => [u32V x]) (.slice a L.length c) ∧ tm.get 0 = some (.string s') ∧ tm.get 1 = some (.int .i64 10) ∧ tm.get 4 = some (.pointer (some ⟨H.next, 0, none⟩)) ∧ tm.get 6 = some (.bool neg) ∧
    tm.get 8 = some (.slice a L.length c) ∧ tm.get 10 = some (.int .u64 (cy : Nat)) ∧ tm.get 48 = some (.int .i64 s'.size) ∧ tm.get 49 = some (.int .i64 (i : Nat)) ∧ tm.get 58 = some (.int .i64 L.length) ∧ tm.get 59 = some (.int .i64 (k : Nat))) ?_ L.length _ ?_
   ·clear hxc hrep g0 g1 g4 g6 g8 g48 g49 tm H'
    rintro k2 st ⟨tm, k, d, cy, Hd, rfl, hk2, hkl, hdk, hdb, hcy, hinv, hlast, hz0, hxc, hrep, g0, g1, g4, g6, g8, g10, g48, g49, g58, g59⟩
    by_cases hkl2 : k < L.length
    ·have hx : L[k]? = some L[k] := List.getElem?_eq_getElem hkl2
     have hdrop : L.drop k = L[k] :: L.drop (k + 1) := List.drop_eq_getElem_cons hkl2
     have hxb : L[k] < 4294967296 := hL.1 _ (List.getElem_mem _)
     generalize L[k] = x at hx hdrop hxb
     rw [hdrop] at hrep hinv
     obtain ⟨b, c2, ho, hv⟩ := hrep.own (by simp)
     have hlm : ((d ++ x :: L.drop (k + 1)).map fun x => [u32V x]).length = L.length := by simp; omega
     rw [hlm] at hv
     cases hv
     have hld := ho.load (i := k) (x := [u32V x]) (by rw [List.getElem?_map, List.getElem?_append_right (by omega), hdk]; simp)
     rw [Nat.mul_one] at hld
     unfold u32V at hld
     obtain ⟨cs, hgb, hle, _⟩ := ho.row
     rw [hlm, Nat.mul_one] at hle
     have hk1 : k + 1 ≤ cs.length := by omega
     have e1 : ((x : Int) * 10 + (cy : Int)) = ((x * 10 + cy : Nat) : Int) := by omega
     repeat' (first | refine EvC.seq ?_ | refine EvC.scope ?_ | refine EvC.block ?_ | (refine EvC.skip ?_; try simp only [z02]) | (refine EvC.exit ?_) | (refine EvC.ret ?_; try simp only [z01, z00]) | (refine EvC.reg ?_; simp (disch := first | omega | rfl) only [sB, Nat.reduceEqDiff, one, zl4, zfg, zh4, z9d, z9e, znh, g1, g8, g10, g58, g59, hld, hgb, hk1, e1, wrap_u64, zam, zck, z0c, decide_eq_true]) | (refine EvC.condT ?_ ?_; simp (disch := first | omega | rfl) only [sB]; refine z06 ?_))
     have hset := ho.set hgb (i := k) (y := [u32V ((x * 10 + cy) % 4294967296)]) (by rw [hlm]; exact hkl2) rfl rfl
     rw [Nat.mul_one] at hset
     have hset2 : ((d ++ x :: L.drop (k + 1)).map fun x => [u32V x]).set k [u32V ((x * 10 + cy) % 4294967296)] = ((d ++ [(x * 10 + cy) % 4294967296]) ++ L.drop (k + 1)).map fun x => [u32V x] := by
      rw [List.map_append, List.set_append_right _ _ (by simp; omega)]
      simp [hdk]
     rw [hset2] at hset
     have hlm2 : (((d ++ [(x * 10 + cy) % 4294967296]) ++ L.drop (k + 1)).map fun x => [u32V x]).length = L.length := by simp; omega
     have hcq := zhb (B := 4294967296) (x := x) (c := cy) (by omega) hxb hcy
     refine ⟨L.length - (k + 1), by omega, _, k + 1, d ++ [(x * 10 + cy) % 4294967296], (x * 10 + cy) / 4294967296, _, rfl, rfl, by omega, by simp [hdk], ?_, hcq, ?_, ?_, by omega, hxc.put ho.lo ho.hi _, .inr ⟨_, _, hset, by rw [hlm2]⟩,
      (by simp only [sG, reduceCtorEq, g0] <;> rfl), (by simp only [sG, Nat.reduceEqDiff, g1] <;> rfl), (by simp only [sG, Nat.reduceEqDiff, g4] <;> rfl), (by simp only [sG, Nat.reduceEqDiff, g6] <;> rfl), (by simp only [sG, Nat.reduceEqDiff, g8] <;> rfl), (by simp only [sG, Nat.reduceEqDiff] <;> rfl), (by simp only [sG, Nat.reduceEqDiff, g48] <;> rfl), (by simp only [sG, Nat.reduceEqDiff, g49] <;> rfl), (by simp only [sG, Nat.reduceEqDiff, g58] <;> rfl), (by simp only [sB, Nat.reduceEqDiff] <;> rfl)⟩
     ·intro y hy
      rcases List.mem_append.1 hy with h | h
      ·exact hdb y h
      ·simp at h; omega
     ·have := zha (B := 4294967296) (c := cy) (x := x) (d := d) (rest := L.drop (k + 1))
      rw [hdk] at this
      rw [this]; exact hinv
     ·intro _ hl0
      rw [show k + 1 - 1 = k by omega, hx] at hl0
      have hx0 : x ≠ 0 := fun h => hl0 (by rw [h])
      by_cases hq : (x * 10 + cy) / 4294967296 = 0
      ·refine .inr ?_
       simp
       omega
      ·exact .inl hq
    ·have hkL : k = L.length := by omega
     have hdr : L.drop k = [] := List.drop_of_length_le (by omega)
     rw [hdr] at hinv hrep
     rw [List.append_nil] at hrep
     simp only [valB, Nat.mul_zero, Nat.zero_add] at hinv
     have hfew := zb3 hL (by rw [z2d, hval]; omega)
     have hlastL : k ≠ 0 → L[k - 1]? ≠ some 0 := fun h0 => by
      have := hL.2
      rw [List.getLast?_eq_getElem?] at this
      rw [hkL]; exact this
     have hlm : (d.map fun x => [u32V x]).length = L.length := by simp; omega
     repeat' (first | refine EvC.seq ?_ | refine EvC.scope ?_ | refine EvC.block ?_ | (refine EvC.skip ?_) | (refine EvC.exit ?_; try simp only [sB, Nat.reduceEqDiff]) | (refine EvC.ret ?_; try simp only [z01, z00]) | (refine EvC.reg ?_; simp (disch := first | omega | rfl) only [sB, Nat.reduceEqDiff, g58, g59, g10, decide_eq_false]) | (refine EvC.condT ?_ ?_; simp (disch := first | omega | rfl) only [sB, Nat.reduceEqDiff]; refine z06 ?_) | (refine EvC.condF ?_ ?_; simp (disch := first | omega | rfl) only [sB, Nat.reduceEqDiff]; refine z06 ?_))
     have hnn : n * 10 + digV (byteAt s' i) = valB 4294967296 d + 4294967296 ^ k * cy := by rw [hval] at hinv; omega
     have hnumi : numD ((bl s').map digV) 0 = if big ≤ n * 10 + digV (byteAt s' i) then none else numD (((bl s').map digV).drop (i + 1)) (n * 10 + digV (byteAt s' i)) := by
      rw [← hnum, List.drop_eq_getElem_cons (by simp [z1z]; omega), numD]
      have : ((bl s').map digV)[i]'(by simp [z1z]; omega) = digV (byteAt s' i) := by
       apply Option.some.inj
       rw [← List.getElem?_eq_getElem, List.getElem?_map, hgi]; rfl
      rw [this]
     generalize n * 10 + digV (byteAt s' i) = n' at hnn hnumi
     refine EvC.join (fun st => ∃ tm L' v' Hc', st = ⟨tm, [], Hc'⟩ ∧ valB 4294967296 L' = n' ∧ limbsOK L' ∧ L'.length ≤ 129 ∧ HX H1 Hc' ∧ RepO Hc' 132 1 H1.next (L'.map fun x => [u32V x]) v' ∧
      tm.get 0 = some (.string s') ∧ tm.get 1 = some (.int .i64 10) ∧ tm.get 4 = some (.pointer (some ⟨H.next, 0, none⟩)) ∧ tm.get 6 = some (.bool neg) ∧ tm.get 8 = some v' ∧ tm.get 48 = some (.int .i64 s'.size) ∧ tm.get 49 = some (.int .i64 (i : Nat))) ?_ ?_
     ·by_cases hc0 : cy = 0
      ·repeat' (first | refine EvC.seq ?_ | refine EvC.scope ?_ | refine EvC.block ?_ | (refine EvC.skip ?_; try simp only [z02]) | (refine EvC.exit ?_) | (refine EvC.ret ?_; try simp only [z01, z00]) | (refine EvC.condT ?_ ?_; simp (disch := first | omega | rfl) only [sB, Nat.reduceEqDiff, decide_eq_false]; refine z06 ?_) | (refine EvC.condF ?_ ?_; simp (disch := first | omega | rfl) only [sB, Nat.reduceEqDiff, decide_eq_false]; refine z06 ?_))
       refine ⟨_, d, _, _, rfl, by rw [hnn, hc0]; omega, ⟨hdb, ?_⟩, by omega, hxc, hrep, (by simp only [sG, reduceCtorEq, g0] <;> rfl), (by simp only [sG, Nat.reduceEqDiff, g1] <;> rfl), (by simp only [sG, Nat.reduceEqDiff, g4] <;> rfl), (by simp only [sG, Nat.reduceEqDiff, g6] <;> rfl), (by simp only [sG, Nat.reduceEqDiff, g8] <;> rfl), (by simp only [sG, Nat.reduceEqDiff, g48] <;> rfl), (by simp only [sG, Nat.reduceEqDiff, g49] <;> rfl)⟩
       by_cases hk0 : k = 0
       ·have : d = [] := List.length_eq_zero_iff.1 (by omega)
        rw [this]; simp
       ·rcases hlast hk0 (hlastL hk0) with h | h
        ·exact absurd hc0 h
        ·exact h
      ·obtain ⟨H2, v2, hap, hrep2, _, hx2, _⟩ := hrep.push zom (y := [u32V cy]) rfl rfl (by simp [most]; omega) hxc.next
       unfold u32V at hap
       repeat' (first | refine EvC.seq ?_ | refine EvC.scope ?_ | refine EvC.block ?_ | (refine EvC.skip ?_) | (refine EvC.exit ?_) | (refine EvC.ret ?_; try simp only [z01, z00]) | (refine EvC.reg ?_; simp (disch := first | omega | rfl) only [sB, Nat.reduceEqDiff, Value.cells, one, layC, z9e, zlw, g8, g10, decide_eq_true, wrap_u32, hap]) | (refine EvC.condT ?_ ?_; simp (disch := first | omega | rfl) only [sB, Nat.reduceEqDiff, decide_eq_true]; refine z06 ?_))
       have hk2' : ((d ++ [cy]).map fun x => [u32V x]) = (d.map fun x => [u32V x]) ++ [[u32V cy]] := by simp
       refine ⟨_, d ++ [cy], _, _, rfl, ?_, ⟨?_, by simp; exact hc0⟩, by simp; omega, hx2 _ hxc (Nat.le_refl _), by rw [hk2']; exact hrep2, (by simp only [sG, reduceCtorEq, g0] <;> rfl), (by simp only [sG, Nat.reduceEqDiff, g1] <;> rfl), (by simp only [sG, Nat.reduceEqDiff, g4] <;> rfl), (by simp only [sG, Nat.reduceEqDiff, g6] <;> rfl), (by simp only [sG, Nat.reduceEqDiff] <;> rfl), (by simp only [sG, Nat.reduceEqDiff, g48] <;> rfl), (by simp only [sG, Nat.reduceEqDiff, g49] <;> rfl)⟩
       ·rw [z1o, z5b, hdk, hnn]
       ·intro y hy
        rcases List.mem_append.1 hy with h | h
        ·exact hdb y h
        ·simp at h; omega
     clear g0 g1 g4 g6 g8 g10 g48 g49 g58 g59 tm hrep hxc
     rintro st ⟨tm, L', v', Hc', rfl, hval', hL', hfew', hxc, hrep, g0, g1, g4, g6, g8, g48, g49⟩
     obtain ⟨a', c'', rfl, hr⟩ := RepO.rds (vs := L'.map u32V) (by rw [List.map_map]; exact hrep)
     rw [List.length_map] at g8 hrep
     repeat' (first | refine EvC.seq ?_ | refine EvC.scope ?_ | refine EvC.block ?_ | (refine EvC.skip ?_) | (refine EvC.exit ?_) | (refine EvC.ret ?_; try simp only [z01, z00]) | (refine EvC.reg ?_; simp (disch := first | omega | rfl) only [sB, Nat.reduceEqDiff, cl90, g8]))
     refine (zhf hr hL'.1 (by omega)).mono ?_
     rintro v H2 ⟨rfl, rfl⟩
     rw [hval']
     have hg2 : H2.get H.next = some (.row [.bool false, .slice none 0 0] 120) := by rw [hxc.keep _ (by omega)]; exact hg1
     by_cases hbig : 4096 < nbits n'
     ·repeat' (first | refine EvC.seq ?_ | refine EvC.scope ?_ | refine EvC.block ?_ | (refine EvC.skip ?_) | (refine EvC.exit ?_) | (refine EvC.ret ?_; try simp only [z01, z00]) | (refine EvC.reg ?_; simp (disch := first | omega | rfl) only [sB, Nat.reduceEqDiff, Nat.reduceAdd, Value.cells, one, layC, zff, z7w, g4, hg2]) | (refine z0i ?_; simp (disch := first | omega | rfl) only [sA, decide_eq_true]) | (refine EvC.condT ?_ ?_; simp (disch := first | omega | rfl) only [sB, Nat.reduceEqDiff]; refine z06 ?_))
      refine z0b rfl (by simp only [sB, Nat.reduceEqDiff, g4] <;> rfl) (by simp only [sB, Nat.reduceAdd, cutC, z7x] <;> rfl) (by simp only [sG, Nat.reduceEqDiff] <;> rfl) ⟨.inl ⟨?_, 10, by omega, rfl⟩, (hx0.trans hxc).put (Nat.le_refl _) (by have := hxc.next; omega) _⟩
      rw [hpd, hnumi, if_pos (z2d.1 hbig)]
     ·repeat' (first | refine EvC.seq ?_ | refine EvC.scope ?_ | refine EvC.block ?_ | (refine EvC.skip ?_; try simp only [sA]) | (refine EvC.exit ?_) | (refine EvC.ret ?_; try simp only [z01, z00]) | (refine EvC.reg ?_; simp (disch := first | omega | rfl) only [sB, Nat.reduceEqDiff, g49, z0c]) | (refine z0i ?_; simp (disch := first | omega | rfl) only [sA, decide_eq_false]) | (refine EvC.condT ?_ ?_; simp (disch := first | omega | rfl) only [sB, Nat.reduceEqDiff]; refine z06 ?_) | (refine EvC.condF ?_ ?_; simp (disch := first | omega | rfl) only [sB, Nat.reduceEqDiff]; refine z06 ?_))
      have hnb' : ¬ big ≤ n' := fun h => hbig (z2d.2 h)
      exact ⟨s'.size - (i + 1), by omega, _, i + 1, n', L', _, _, rfl, rfl, by omega, by rw [hnumi, if_neg hnb'], Nat.lt_of_not_le hnb', hval', hL', hxc, hrep, (by simp only [sG, reduceCtorEq, g0] <;> rfl), (by simp only [sG, Nat.reduceEqDiff, g1] <;> rfl), (by simp only [sG, Nat.reduceEqDiff, g4] <;> rfl), (by simp only [sG, Nat.reduceEqDiff, g6] <;> rfl), (by simp only [sG, Nat.reduceEqDiff, g8] <;> rfl), (by simp only [sG, Nat.reduceEqDiff, g48] <;> rfl), (by simp only [sB, Nat.reduceEqDiff] <;> rfl)⟩
   ·refine ⟨_, 0, [], digV (byteAt s' i), _, rfl, by omega, by omega, rfl, by simp, hdi, by simp [valB], by simp, fun _ => rfl, hxc, by simpa using hrep, (by simp only [sG, reduceCtorEq, g0] <;> rfl), (by simp only [sG, Nat.reduceEqDiff, g1] <;> rfl), (by simp only [sG, Nat.reduceEqDiff, g4] <;> rfl), (by simp only [sG, Nat.reduceEqDiff, g6] <;> rfl), (by simp only [sG, Nat.reduceEqDiff, g8] <;> rfl), (by simp only [sG, Nat.reduceEqDiff] <;> rfl), (by simp only [sG, Nat.reduceEqDiff, g48] <;> rfl), (by simp only [sG, Nat.reduceEqDiff, g49] <;> rfl), (by simp only [sG, Nat.reduceEqDiff] <;> rfl), (by simp only [sB, Nat.reduceEqDiff] <;> rfl)⟩
  ·have hi' : i = s'.size := by omega
   have hnn : numD ((bl s').map digV) 0 = some n := by
    rw [← hnum, List.drop_of_length_le (by simp [z1z]; omega), numD]
   obtain ⟨a', c'', rfl, hr⟩ := RepO.rds (vs := L.map u32V) (by rw [List.map_map]; exact hrep)
   rw [List.length_map] at g8
   repeat' (first | refine EvC.seq ?_ | refine EvC.scope ?_ | refine EvC.block ?_ | (refine EvC.skip ?_) | (refine EvC.exit ?_; try simp only [sB]) | (refine EvC.ret ?_; try simp only [z01, z00]) | (refine EvC.reg ?_; simp (disch := first | omega | rfl) only [sB, Nat.reduceEqDiff, cl91, g48, g49, g6, g8, decide_eq_false]) | (refine EvC.condT ?_ ?_; simp (disch := first | omega | rfl) only [sB]; refine z06 ?_) | (refine EvC.condF ?_ ?_; simp (disch := first | omega | rfl) only [sB]; refine z06 ?_))
   refine (zm3 hr hxc.wf).mono ?_
   rintro v H2 ⟨m, rfl, hm, hz, hn0, hx2⟩
   have hg2 : H2.get H.next = some (.row [.bool false, .slice none 0 0] 120) := by rw [(hxc.trans hx2).keep _ (by omega)]; exact hg1
   repeat' (first | refine EvC.seq ?_ | refine EvC.scope ?_ | refine EvC.block ?_ | (refine EvC.skip ?_) | (refine EvC.exit ?_) | (refine EvC.ret ?_; try simp only [z01, z00]) | (refine z0i ?_; simp (disch := first | omega | rfl) only [sB, Nat.reduceAdd, one, z7w, g4, hg2]))
   have hx3 := hxc.trans hx2
   have hm' : m = L.length := by
    rcases Nat.lt_or_ge m L.length with h | h
    ·have := hz (L[L.length - 1]'(by omega)) (List.mem_drop_iff_getElem.2 ⟨L.length - 1 - m, by omega, by congr 1; omega⟩)
     have h2 := hL.2
     rw [List.getLast?_eq_getElem?, List.getElem?_eq_getElem (by omega), this] at h2
     exact absurd rfl h2
    ·omega
   subst hm'
   refine z0b rfl (by simp only [sB, Nat.reduceEqDiff, g4] <;> rfl) (by simp only [sB, Nat.reduceAdd, cutC, z7x] <;> rfl) (by simp only [sB, Nat.reduceEqDiff] <;> rfl) ⟨.inr ⟨n, L, a', c'', by rw [hpd, hnn], by rw [hneg], ?_, hL.1, hval, hL.2, ?_⟩, (hx0.trans hx3).put (Nat.le_refl _) (by have := hx3.next; omega) _⟩
   ·rw [List.length_map] at hrep
    have h3 := (hrep.keep hx2).putlo (i := H.next) (by omega) (some (.row [.bool (neg && decide (0 < L.length)), .slice a' L.length c''] 120))
    exact (RepO.rds' (vs := L.map u32V) (by rw [List.map_map]; exact h3)).2
   ·have := zb3 hL (by rw [z2d, hval]; omega)
    omega
 ·exact ⟨_, 0, 0, [], _, _, rfl, by omega, by omega, by simp, by rw [z63]; exact Nat.two_pow_pos _, rfl, ⟨by simp, by simp⟩, HX.refl hx0.wf, RepO.empty, (by simp only [sG, reduceCtorEq, g0] <;> rfl), (by simp only [sG, Nat.reduceEqDiff, g1] <;> rfl), (by simp only [sG, Nat.reduceEqDiff, g4] <;> rfl), (by simp only [sG, Nat.reduceEqDiff, g6] <;> rfl), (by simp only [sG, Nat.reduceEqDiff] <;> rfl), (by simp only [sG, Nat.reduceEqDiff] <;> rfl), (by simp only [sB, Nat.reduceEqDiff] <;> rfl)⟩
def u8V (n : Nat) : Value := .int .u8 (n : Int)
theorem zhg {s : ByteArray} (h : ∀ i : Fin 10, byteAt s i = 48 + i) {y : Nat} (hy : y < 10) : byteAt s y = 48 + y := h ⟨y, hy⟩
theorem z6e {B : Nat} (hB : 0 < B) {M : List Nat} (h0 : M ≠ []) (h : M.getLast? ≠ some 0) : valB B M ≠ 0 := by
 rcases List.eq_nil_or_concat M with rfl | ⟨l, x, rfl⟩
 ·exact absurd rfl h0
 ·rw [List.concat_eq_append] at *
  have hx : x ≠ 0 := by simpa using h
  rw [z1o, z5b]
  have : 0 < B ^ l.length * x := Nat.mul_pos (Nat.pow_pos hB) (by omega)
  omega
set_option maxHeartbeats 4000000 in
theorem zm4 {L : List Nat} {neg : Bool} {a : Option Addr} {c n : Nat} {H : Heap} (hw : H.wf) (r : RdS H (L.map u32V) a c) (hL : ∀ y ∈ L, y < 4294967296) (hlen : L.length ≤ 4096) (hval : valB 4294967296 L = n) (hn : n < big) :
  EvF Tryd.prog okT 85 [.agg ⟨[.bool neg, .slice a L.length c]⟩, .int .i64 10] H fun v H' => (∃ t : ByteArray, v = .tuple ⟨[.string t, .int .i64 0]⟩ ∧ bl t = textD neg n) ∧ HX H H' := by
 refine EvF.enter rfl Tryd.func85 (by decide) rfl ?_
 (repeat refine EvC.seq ?_); refine EvC.reg ?_; simp (disch := first | omega | rfl) only [sB, initTm, dBox, Value.cells, one, reduceCtorEq]
 have hx0 := (HX.refl hw).new (some (.row [.bool neg, .slice a L.length c] 120))
 obtain ⟨H1, hH1⟩ : ∃ H1, H1 = H.new (some (.row [.bool neg, .slice a L.length c] 120)) := ⟨_, rfl⟩
 have hn1 : H1.next = H.next + 1 := by rw [hH1]; rfl
 have hg1 : H1.get H.next = some (.row [.bool neg, .slice a L.length c] 120) := by rw [hH1]; exact z0n
 have hl1 : H1.load ⟨H.next, 0, none⟩ 2 = some [.bool neg, .slice a L.length c] := by rw [hH1]; exact z2t
 have hlb : H1.load ⟨H.next, 0, none⟩ 1 = some [.bool neg] := by rw [hH1]; exact z2t
 have hls : H1.load ⟨H.next, 1, none⟩ 1 = some [.slice a L.length c] := by rw [hH1]; exact z2t
 rw [← hH1] at hx0 ⊢
 have hw1 := hx0.wf
 have hx2 := (HX.refl hw1).new (some (.row [.bool neg, .slice a L.length c] 120))
 repeat' (first | refine EvC.seq ?_ | refine EvC.scope ?_ | refine EvC.block ?_ | (refine EvC.skip ?_) | (refine EvC.exit ?_) | (refine EvC.ret ?_; try simp only [z01, z00]) | (refine EvC.reg ?_; simp (disch := first | omega | rfl) only [sB, Nat.reduceEqDiff, Nat.reduceAdd, Value.cells, one, reduceCtorEq, layC, z7x, zlx, cl92, hl1]))
 refine (zm2 ((r.keep hx0 hw).keep hx2 hw1) hL (by omega) hx2.wf (Nat.lt_succ_self _) z2t).mono ?_
 rintro v H2 ⟨rfl, hx3⟩
 have hx13 := hx2.trans hx3
 have hl2 := hx13.load hw1 hls
 have hlb2 := hx13.load hw1 hlb
 have hng : ¬ 4096 < nbits (valB 4294967296 L) := by rw [z2d, hval]; omega
 rw [decide_eq_false hng]
 repeat' (first | refine EvC.seq ?_ | refine EvC.scope ?_ | refine EvC.block ?_ | (refine EvC.skip ?_; try simp only [z02]) | (refine EvC.exit ?_) | (refine EvC.ret ?_; try simp only [z01, z00]) | (refine EvC.reg ?_; simp (disch := first | omega | rfl) only [sB, Nat.reduceEqDiff, reduceCtorEq, zh5, zni, cl94, cl93, hl2, decide_eq_false, Bool.false_eq_true]) | (refine EvC.condT ?_ ?_; simp (disch := first | omega | rfl) only [sB, Nat.reduceEqDiff, reduceCtorEq]; refine z06 ?_) | (refine EvC.condF ?_ ?_; simp (disch := first | omega | rfl) only [sB, Nat.reduceEqDiff, reduceCtorEq]; refine z06 ?_))
 have r2 := (r.keep hx0 hw).keep hx13 hw1
 refine (z9h (fun _ _ => rfl) (by decide) r2).mono ?_
 rintro v H3 ⟨m, rfl, hm, hz, hn0, rfl⟩
 have hvm : valB 4294967296 (L.take m) = n := by rw [z3t hz, hval]
 have hlm : (L.take m).length = m := by rw [List.length_take]; omega
 have hLm : ∀ y ∈ L.take m, y < 4294967296 := fun y hy => hL y (List.mem_of_mem_take hy)
 have hlast : (L.take m).getLast? ≠ some 0 := by
  rw [List.getLast?_eq_getElem?, hlm]
  by_cases h0 : m = 0
  ·subst h0; simp
  ·rw [List.getElem?_take, if_pos (by omega)]; exact hn0 h0
 have r3 : RdS H3 ((L.take m).map u32V) a c := by rw [List.map_take]; exact r2.take m
 generalize L.take m = M0 at hvm hlm hLm hlast r3
 subst hlm
 repeat' (first | refine EvC.seq ?_ | refine EvC.scope ?_ | refine EvC.block ?_ | (refine EvC.skip ?_) | (refine EvC.exit ?_) | (refine EvC.ret ?_; try simp only [z01, z00]))
 refine (znq r3 (by omega) hx13.wf).mono ?_
 rintro v H4 ⟨b, c2, ho, rfl, hx4⟩
 have hx14 := hx13.trans hx4
 by_cases h0 : M0.length = 0
 ·have hM : M0 = [] := List.length_eq_zero_iff.1 h0
  subst hM
  repeat' (first | refine EvC.seq ?_ | refine EvC.scope ?_ | refine EvC.block ?_ | (refine EvC.skip ?_) | (refine EvC.exit ?_) | (refine EvC.ret ?_; try simp only [z01, z00]) | (refine EvC.reg ?_; simp (disch := first | omega | rfl) only [sB, Nat.reduceEqDiff, reduceCtorEq, z5a, z0j]) | (refine EvC.condT ?_ ?_; simp (disch := first | omega | rfl) only [sB, Nat.reduceEqDiff, reduceCtorEq]; refine z06 ?_))
  refine z71 rfl (by simp only [sB, Nat.reduceEqDiff, reduceCtorEq] <;> rfl) (by simp only [sG, Nat.reduceEqDiff, reduceCtorEq] <;> rfl) ⟨⟨_, rfl, ?_⟩, hx0.trans hx14⟩
  rw [← hvm]; rfl
 ·have hnz := z6e (B := 4294967296) (by omega) (fun h => h0 (by rw [h]; rfl)) hlast
  rw [hvm] at hnz
  repeat' (first | refine EvC.seq ?_ | refine EvC.scope ?_ | refine EvC.block ?_ | (refine EvC.skip ?_; try simp only [z02]) | (refine EvC.exit ?_) | (refine EvC.ret ?_; try simp only [z01, z00]) | (refine EvC.reg ?_; simp (disch := first | omega | rfl) only [sB, Nat.reduceEqDiff, reduceCtorEq, z5a, z0l]) | (refine EvC.condT ?_ ?_; simp (disch := first | omega | rfl) only [sB, Nat.reduceEqDiff, reduceCtorEq]; refine z06 ?_) | (refine EvC.condF ?_ ?_; simp (disch := first | omega | rfl) only [sB, Nat.reduceEqDiff, reduceCtorEq]; refine z06 ?_))
  refine EvC.loop (fun k st => ∃ tm M od v6 v7 Hc, st = ⟨tm, [], Hc⟩ ∧ k = valB 4294967296 M ∧ (∀ y ∈ M, y < 4294967296) ∧ M.length ≤ 4096 ∧ M.getLast? ≠ some 0 ∧ decR n = od ++ decR (valB 4294967296 M) ∧ (M ≠ [] → valB 4294967296 M * 10 ^ od.length ≤ n) ∧ od.length ≤ 4096 ∧
    (∀ y ∈ od, y < 10) ∧ HX H3 Hc ∧ RepO Hc 132 1 H3.next (M.map fun x => [u32V x]) v6 ∧ RepO Hc 5 1 H3.next (od.map fun x => [u8V (48 + x)]) v7 ∧ tm.get 1 = some (.int .i64 10) ∧ tm.get 2 = some (.pointer (some ⟨H.next, 0, none⟩)) ∧ tm.get 6 = some v6 ∧ tm.get 7 = some v7) ?_ (valB 4294967296 M0) _ ?_
  ·rintro k st ⟨tm, M, od, v6, v7, Hc, rfl, rfl, hMb, hMl, hMn, hdec, hle, hol, hod, hxc, hr6, hr7, g1, g2, g6, g7⟩
   by_cases hM0 : M = []
   ·subst hM0
    obtain ⟨a6, c6, rfl, -, -⟩ := hr6.slice
    rw [List.length_map] at g6
    have hlbc := hxc.load hx13.wf hlb2
    have hdec' : decR n = od := by rw [hdec]; simp [valB, zb2]
    repeat' (first | refine EvC.seq ?_ | refine EvC.scope ?_ | refine EvC.block ?_ | (refine EvC.skip ?_) | (refine EvC.exit ?_; try simp only [sB]) | (refine EvC.ret ?_; try simp only [z01, z00]) | (refine EvC.reg ?_; simp (disch := first | omega | rfl) only [sB, Nat.reduceEqDiff, z5a, zlz, ld4, g2, g6, hlbc, decide_eq_false]) | (refine EvC.condT ?_ ?_; simp (disch := first | omega | rfl) only [sB, Nat.reduceEqDiff]; refine z06 ?_) | (refine EvC.condF ?_ ?_; simp (disch := first | omega | rfl) only [sB, Nat.reduceEqDiff]; refine z06 ?_))
    refine EvC.join (fun st => ∃ tm o v Hd, st = ⟨tm, [], Hd⟩ ∧ o = (od.map fun x => 48 + x) ++ (if neg then [45] else []) ∧ HX H3 Hd ∧ RepO Hd 5 1 H3.next (o.map fun x => [u8V x]) v ∧ tm.get 7 = some v) ?_ ?_
    ·cases neg with
     | true =>
      obtain ⟨H5, v5, hap, hr7b, -, hx5, -⟩ := hr7.push zh6 (y := [u8V 45]) rfl rfl (by simp [most]; omega) hxc.next
      have h45 : u8V 45 = .int .u8 45 := rfl
      rw [h45] at hap
      refine EvC.condT (by simp only [sB, Nat.reduceEqDiff] <;> rfl) ?_
      repeat' (first | refine EvC.seq ?_ | refine EvC.scope ?_ | refine EvC.block ?_ | (refine EvC.skip ?_) | (refine EvC.exit ?_) | (refine EvC.ret ?_; try simp only [z01, z00]) | (refine EvC.reg ?_; simp (disch := first | omega | rfl) only [sB, Nat.reduceEqDiff, Value.cells, one, layC, z7e, g7, hap]))
      refine ⟨_, _, _, _, rfl, rfl, hx5 _ hxc (Nat.le_refl _), ?_, (by simp only [sB, Nat.reduceEqDiff] <;> rfl)⟩
      first | (rw [List.map_append, List.map_map]; exact hr7b) | (simp only [if_true, List.map_append, List.map_map]; exact hr7b)
     | false =>
      refine EvC.condF (by simp only [sB, Nat.reduceEqDiff] <;> rfl) ?_
      repeat' (first | refine EvC.seq ?_ | refine EvC.scope ?_ | refine EvC.block ?_ | (refine EvC.skip ?_; try simp only [sB, reduceCtorEq]) | (refine EvC.exit ?_) | (refine EvC.ret ?_; try simp only [z01, z00]))
      exact ⟨_, _, _, _, rfl, rfl, hxc, by first | (rw [List.append_nil, List.map_map]; exact hr7) | (simp only [Bool.false_eq_true, if_false, List.append_nil, List.map_map]; exact hr7), (by simp only [sG, Nat.reduceEqDiff, g7] <;> rfl)⟩
    clear g1 g2 g6 g7 hr7 hr6 hxc hlbc tm
    rintro st ⟨tm, o, v, Hd, rfl, ho', hxc, hr7, g7⟩
    have hob : ∀ y ∈ o, y < 256 := by
     intro y hy
     rw [ho'] at hy
     rcases List.mem_append.1 hy with h | h
     ·obtain ⟨x, hx, rfl⟩ := List.mem_map.1 h
      have := hod x hx; omega
     ·cases neg <;> simp at h
      omega
    have hon : 0 < o.length := by
     have : od ≠ [] := by rw [← hdec', z6d hnz]; simp
     rw [ho', List.length_append, List.length_map]
     have := List.length_pos_iff.2 this
     omega
    have hol2 : o.length ≤ 4097 := by
     rw [ho', List.length_append, List.length_map]
     cases neg <;> simp <;> omega
    have htx : textD neg n = o.reverse := by
     unfold textD
     rw [if_neg hnz, hdec', ho']
    obtain ⟨b7, c7, ho7, rfl⟩ := hr7.own (by intro h; rw [List.map_eq_nil_iff] at h; rw [h] at hon; simp at hon)
    rw [List.length_map] at g7
    repeat' (first | refine EvC.seq ?_ | refine EvC.scope ?_ | refine EvC.block ?_ | (refine EvC.skip ?_) | (refine EvC.exit ?_) | (refine EvC.ret ?_; try simp only [z01, z00]) | (refine EvC.reg ?_; simp (disch := first | omega | rfl) only [sB, Nat.reduceEqDiff, znj, g7, z0c]))
    refine EvC.loop (fun k st => ∃ (tm : Tr Value) (S : List Nat) (i : Nat) (He : Heap), st = ⟨tm, [], He⟩ ∧ k = o.length - i ∧ 2 * i ≤ o.length ∧ S.length = o.length ∧ (∀ j, j < o.length → S[j]? = if j < i ∨ o.length - i ≤ j then o[o.length - 1 - j]? else o[j]?) ∧ HX H3 He ∧
     OwnS He 5 1 H3.next (S.map fun x => [u8V x]) b7 c7 ∧ tm.get 7 = some (.slice (some ⟨b7, 0, none⟩) o.length c7) ∧ tm.get 10 = some (.int .i64 (i : Nat)) ∧ tm.get 11 = some (.int .i64 ((o.length : Int) - 1 - (i : Int)))) ?_ o.length _ ?_
    ·clear g7 ho7 hr7 hxc tm
     rintro k0 st ⟨tm, S, i, He, rfl, hk0, hi2, hSl, hS, hxc, ho7, g7, g10, g11⟩
     by_cases hlt : 2 * i + 1 < o.length
     ·obtain ⟨k, hk⟩ : ∃ k, k = o.length - 1 - i := ⟨_, rfl⟩
      have e1 : ((o.length : Int) - 1 - (i : Int)) = (k : Int) := by omega
      rw [e1] at g11
      have hxi : S[i]? = some S[i] := List.getElem?_eq_getElem (by omega)
      have hxk : S[k]? = some S[k] := List.getElem?_eq_getElem (by omega)
      generalize S[i] = x at hxi
      generalize S[k] = y at hxk
      have hldi := ho7.load (i := i) (x := [u8V x]) (by rw [List.getElem?_map, hxi]; rfl)
      have hldk := ho7.load (i := k) (x := [u8V y]) (by rw [List.getElem?_map, hxk]; rfl)
      rw [Nat.mul_one] at hldi hldk
      unfold u8V at hldi hldk
      obtain ⟨cs, hgb, hcl, _⟩ := ho7.row
      rw [List.length_map, hSl, Nat.mul_one] at hcl
      have hk1 : i + 1 ≤ cs.length := by omega
      have hk2 : k + 1 ≤ (Hb.splice cs i [Value.int .u8 (y : Int)]).length := by rw [z1u (by simp; omega)]; omega
      repeat' (first | refine EvC.seq ?_ | refine EvC.scope ?_ | refine EvC.block ?_ | (refine EvC.skip ?_; try simp only [z02]) | (refine EvC.exit ?_) | (refine EvC.ret ?_; try simp only [z01, z00]) | (refine EvC.reg ?_; simp (disch := first | omega | rfl) only [sB, Nat.reduceEqDiff, g10, g11, decide_eq_true, z0c]) | (refine EvC.drw [([(0, 0), (1, 0), (4, 0), (5, 0), (6, 0), (7, 0), (8, 0), (9, 0), (10, 0), (11, 0), (12, 0)], some 13), ([(2, 0), (3, 0), (14, 1)], some 15), ([], none)] ?_ ?_; kernel_rfl; simp (disch := first | omega | rfl) only [sD, sB, Nat.reduceEqDiff, Nat.reduceAdd, one, reduceCtorEq, znk, ld5, st5, g7, g10, g11, hldi, hldk, hgb, hk1, hk2, isAlloc, isRead, reduceCtorEq]) | (refine EvC.condT ?_ ?_; simp (disch := first | omega | rfl) only [sB, Nat.reduceEqDiff]; refine z06 ?_))
      have hb1 : OwnS (⟨He.next + 16, He.t⟩ : Heap) 5 1 H3.next (S.map fun x => [u8V x]) b7 c7 := ho7.heap rfl (Nat.le_add_right _ _)
      have hb2 := hb1.set (cs := cs) hgb (i := i) (y := [u8V y]) (by simp; omega) rfl rfl
      have hb3 := hb2.set z72 (i := k) (y := [u8V x]) (by simp; omega) rfl rfl
      rw [Nat.mul_one, Nat.mul_one] at hb3
      have hoi : o[i]? = some x := by rw [← hxi, hS i (by omega), if_neg (by omega)]
      have hok : o[k]? = some y := by rw [← hxk, hS k (by omega), if_neg (by omega)]
      have hmap : (((S.map fun x => [u8V x]).set i [u8V y]).set k [u8V x]) = ((S.set i y).set k x).map fun x => [u8V x] := by simp [List.map_set]
      rw [hmap] at hb3
      refine ⟨o.length - (i + 1), by omega, _, (S.set i y).set k x, i + 1, _, rfl, rfl, by omega, by simp [hSl], fun j hj => ?_, ((hxc.bump 16).put (i := b7) ho7.lo (Nat.lt_of_lt_of_le ho7.hi (Nat.le_add_right _ _)) _).put (i := b7) ho7.lo (Nat.lt_of_lt_of_le ho7.hi (Nat.le_add_right _ _)) _, hb3, (by simp only [sG, Nat.reduceEqDiff, g7] <;> rfl), (by simp only [sB, Nat.reduceEqDiff] <;> rfl), by simp only [sB, Nat.reduceEqDiff]; first | done | (congr 1; omega)⟩
      by_cases hjk : j = k
      ·rw [hjk, List.getElem?_set_self (by simp; omega), if_pos (by omega), ← hoi]
       first | done | (congr 1; done) | (congr 1; omega)
      ·rw [List.getElem?_set_ne (by omega)]
       by_cases hji : j = i
       ·rw [hji, List.getElem?_set_self (by omega), if_pos (by omega), ← hok]
        first | done | (congr 1; done) | (congr 1; omega)
       ·rw [List.getElem?_set_ne (by omega), hS j hj]
        by_cases hc : j < i ∨ o.length - i ≤ j
        ·rw [if_pos hc, if_pos (by omega)]
        ·rw [if_neg hc, if_neg (by omega)]
     ·have hrev : S = o.reverse := by
       apply List.ext_getElem?
       intro j
       by_cases hj : j < o.length
       ·rw [hS j hj, List.getElem?_reverse hj]
        split
        ·rfl
        ·congr 1; omega
       ·rw [List.getElem?_eq_none (by omega), List.getElem?_eq_none (by simp; omega)]
      have hrd : RdS He (S.map u8V) (some ⟨b7, 0, none⟩) c7 := OwnS.rds (by rw [List.map_map]; exact ho7)
      obtain ⟨b8, o8, h8, hload⟩ := hrd.all (by intro h; rw [List.map_eq_nil_iff] at h; rw [h] at hSl; simp at hSl; omega)
      cases h8
      rw [List.length_map, hSl] at hload
      obtain ⟨t, hdb, ht⟩ := z8d (c := c7) (l := S) hload (by omega)
      have hcon := z8b (P := Tryd.prog) (src := 137) (dst := 9) (e := 5) (by kernel_rfl) (by kernel_rfl) (by kernel_rfl) hdb
      repeat' (first | refine EvC.seq ?_ | refine EvC.scope ?_ | refine EvC.block ?_ | (refine EvC.skip ?_) | (refine EvC.exit ?_; try simp only [sB]) | (refine EvC.ret ?_; try simp only [z01, z00]) | (refine EvC.reg ?_; simp (disch := first | omega | rfl) only [sB, Nat.reduceEqDiff, g7, g10, g11, hcon, decide_eq_false]) | (refine EvC.condT ?_ ?_; simp (disch := first | omega | rfl) only [sB, Nat.reduceEqDiff]; refine z06 ?_) | (refine EvC.condF ?_ ?_; simp (disch := first | omega | rfl) only [sB, Nat.reduceEqDiff]; refine z06 ?_))
      refine z71 rfl (by simp only [sG, Nat.reduceEqDiff] <;> rfl) (by simp only [sG, Nat.reduceEqDiff] <;> rfl) ⟨⟨t, rfl, ?_⟩, (hx0.trans hx13).trans hxc⟩
      unfold bl
      rw [ht, List.map_map, htx, ← hrev]
      have : ∀ l : List Nat, (∀ y ∈ l, y < 256) → l.map (UInt8.toNat ∘ UInt8.ofNat) = l := by
       intro l hl
       conv => rhs; rw [← List.map_id l]
       apply List.map_congr_left
       intro y hy
       have := hl y hy
       simp [UInt8.toNat_ofNat]
       omega
      exact this S fun y hy => hob y (by rw [hrev] at hy; exact List.mem_reverse.1 hy)
    ·refine ⟨_, o, 0, _, rfl, rfl, by omega, rfl, fun j hj => ?_, hxc, ho7, (by simp only [sG, Nat.reduceEqDiff, g7] <;> rfl), (by simp only [sB, Nat.reduceEqDiff] <;> rfl), by simp only [sB, Nat.reduceEqDiff]; congr 1; omega⟩
     rw [if_neg (by omega)]
   ·have hM1 : 0 < M.length := List.length_pos_iff.2 hM0
    have hvM := z6e (B := 4294967296) (by omega) hM0 hMn
    obtain ⟨b6, c6, ho6, rfl⟩ := hr6.own (by simpa using hM0)
    rw [List.length_map] at g6
    repeat' (first | refine EvC.seq ?_ | refine EvC.scope ?_ | refine EvC.block ?_ | (refine EvC.skip ?_; try simp only [z02]) | (refine EvC.exit ?_) | (refine EvC.ret ?_; try simp only [z01, z00]) | (refine EvC.reg ?_; simp (disch := first | omega | rfl) only [sB, Nat.reduceEqDiff, z5a, g6, decide_eq_true, z0c]) | (refine EvC.condT ?_ ?_; simp (disch := first | omega | rfl) only [sB, Nat.reduceEqDiff]; refine z06 ?_))
    refine EvC.loop (fun k st => ∃ tm q r Hd, st = ⟨tm, [], Hd⟩ ∧ k ≤ M.length ∧ q.length = M.length - k ∧ (∀ y ∈ q, y < 4294967296) ∧ r < 10 ∧ valB 4294967296 (M.take k) + 4294967296 ^ k * (10 * valB 4294967296 q + r) = valB 4294967296 M ∧ HX H3 Hd ∧
     OwnS Hd 132 1 H3.next ((M.take k ++ q).map fun x => [u32V x]) b6 c6 ∧ RepO Hd 5 1 H3.next (od.map fun x => [u8V (48 + x)]) v7 ∧ tm.get 1 = some (.int .i64 10) ∧ tm.get 2 = some (.pointer (some ⟨H.next, 0, none⟩)) ∧
     tm.get 6 = some (.slice (some ⟨b6, 0, none⟩) M.length c6) ∧ tm.get 7 = some v7 ∧ tm.get 8 = some (.int .u32 (r : Nat)) ∧ tm.get 9 = some (.int .i64 ((k : Int) - 1))) ?_ M.length _ ?_
    ·clear g1 g2 g6 g7 hxc hr6 hr7 ho6 tm
     rintro k st ⟨tm, q, r, Hd, rfl, hk, hq, hqb, hr, hinv, hxc, ho6, hr7, g1, g2, g6, g7, g8, g9⟩
     cases k with
     | zero =>
      rw [List.take_zero, List.nil_append] at ho6
      simp only [List.take_zero, valB, Nat.pow_zero, Nat.one_mul, Nat.zero_add] at hinv
      have hqM : q.length = M.length := by omega
      repeat' (first | refine EvC.seq ?_ | refine EvC.scope ?_ | refine EvC.block ?_ | (refine EvC.skip ?_) | (refine EvC.exit ?_; try simp only [sB, Nat.reduceEqDiff, reduceCtorEq]) | (refine EvC.ret ?_; try simp only [z01, z00]) | (refine EvC.reg ?_; simp (disch := first | omega | rfl) only [sB, Nat.reduceEqDiff, cl94, g6, g9, decide_eq_false]) | (refine EvC.condT ?_ ?_; simp (disch := first | omega | rfl) only [sB, Nat.reduceEqDiff]; refine z06 ?_) | (refine EvC.condF ?_ ?_; simp (disch := first | omega | rfl) only [sB, Nat.reduceEqDiff]; refine z06 ?_))
      have hrq : RdS Hd (q.map u32V) (some ⟨b6, 0, none⟩) c6 := OwnS.rds (by rw [List.map_map]; exact ho6)
      rw [← hqM]
      refine (z9h (fun _ _ => rfl) (by decide) hrq).mono ?_
      rintro v H' ⟨m, rfl, hm, hz, hn0, rfl⟩
      have hmost : od.length + 1 ≤ most := by
       have := z43 (e := mostBits) hvM (hle hM0) (by rw [← z63]; exact hn)
       simp [mostBits] at this
       simp [most]; omega
      obtain ⟨H5, v5, hap, hr7b, hn5, hx5, hk5⟩ := hr7.push zh6 (y := [u8V (48 + r)]) rfl rfl (by simpa using hmost) hxc.next
      unfold u8V at hap
      repeat' (first | refine EvC.seq ?_ | refine EvC.scope ?_ | refine EvC.block ?_ | (refine EvC.skip ?_) | (refine EvC.exit ?_) | (refine EvC.ret ?_; try simp only [z01, z00]) | (refine EvC.reg ?_; simp (disch := first | omega | rfl) only [sB, Nat.reduceEqDiff, g7, g8]))
      rw [z13 us9 (show r < _ from by show _ < 36; omega), zhg (by decide) hr]
      repeat' (first | refine EvC.seq ?_ | refine EvC.scope ?_ | refine EvC.block ?_ | (refine EvC.skip ?_) | (refine EvC.exit ?_) | (refine EvC.ret ?_; try simp only [z01, z00]) | (refine z0i ?_; simp (disch := first | omega | rfl) only [sB, Nat.reduceEqDiff, Value.cells, one, layC, z7e, hap]))
      have hvq : valB 4294967296 (q.take m) = valB 4294967296 q := z3t hz
      have hq10 : valB 4294967296 q = valB 4294967296 M / 10 := by omega
      have hr10 : r = valB 4294967296 M % 10 := by omega
      have hod2 : ((od ++ [r]).map fun x => [u8V (48 + x)]) = (od.map fun x => [u8V (48 + x)]) ++ [[u8V (48 + r)]] := by simp
      have ho7 : RepO H5 132 1 H3.next ((q.take m).map fun x => [u32V x]) (.slice (some ⟨b6, 0, none⟩) m c6) := by
       have h1 := RepO.takeO ho6 m (by simpa using hm)
       rw [← List.map_take] at h1
       exact h1.beside hk5 (by omega) (by decide)
      refine ⟨valB 4294967296 (q.take m), by rw [hvq]; omega, _, q.take m, od ++ [r], _, _, _, rfl, rfl, fun y hy => hqb y (List.mem_of_mem_take hy), by rw [List.length_take]; omega, ?_, ?_, ?_, ?_, ?_, hx5 _ hxc (Nat.le_refl _), ho7, by rw [hod2]; exact hr7b, (by simp only [sG, Nat.reduceEqDiff, g1] <;> rfl), (by simp only [sG, Nat.reduceEqDiff, g2] <;> rfl), (by simp only [sG, Nat.reduceEqDiff] <;> rfl), (by simp only [sG, Nat.reduceEqDiff] <;> rfl)⟩
      ·rw [List.getLast?_eq_getElem?, List.length_take, Nat.min_eq_left hm]
       by_cases h0 : m = 0
       ·subst h0; simp
       ·rw [List.getElem?_take, if_pos (by omega)]; exact hn0 h0
      ·rw [hdec, z6d hvM, hvq, hq10, ← hr10]; simp
      ·intro _
       rw [hvq, List.length_append, List.length_singleton, Nat.pow_succ]
       have h1 := hle hM0
       have h2 : valB 4294967296 q * (10 ^ od.length * 10) = (valB 4294967296 q * 10) * 10 ^ od.length := by rw [Nat.mul_comm (10 ^ od.length) 10, Nat.mul_assoc]
       rw [h2]
       exact Nat.le_trans (Nat.mul_le_mul_right _ (by omega)) h1
      ·have := z43 (e := mostBits) hvM (hle hM0) (by rw [← z63]; exact hn)
       simp [mostBits] at this
       simp; omega
      ·intro y hy
       rcases List.mem_append.1 hy with h | h
       ·exact hod y h
       ·simp at h; omega
     | succ j =>
      have e0 : (((j + 1 : Nat) : Int) - 1) = (j : Int) := by omega
      rw [e0] at g9
      have hx : M[j]? = some M[j] := List.getElem?_eq_getElem (by omega)
      have hxb : M[j] < 4294967296 := hMb _ (List.getElem_mem _)
      have htk : M.take (j + 1) = M.take j ++ [M[j]] := by rw [List.take_add_one, hx]; rfl
      generalize M[j] = x at hx hxb htk
      rw [htk] at hinv ho6
      have hlj : (M.take j).length = j := by rw [List.length_take]; omega
      have hlm : (((M.take j ++ [x]) ++ q).map fun x => [u32V x]).length = M.length := by simp; omega
      have hld := ho6.load (i := j) (x := [u32V x]) (by rw [List.append_assoc, List.getElem?_map, List.getElem?_append_right (by omega), hlj]; simp)
      rw [Nat.mul_one] at hld
      unfold u32V at hld
      repeat' (first | refine EvC.seq ?_ | refine EvC.scope ?_ | refine EvC.block ?_ | (refine EvC.skip ?_; try simp only [z02]) | (refine EvC.exit ?_) | (refine EvC.ret ?_; try simp only [z01, z00]) | (refine EvC.reg ?_; simp (disch := first | omega | rfl) only [sB, Nat.reduceEqDiff, zfg, zh4, zly, cl95, g1, g6, g8, g9, hld, decide_eq_true, wrap_u32]) | (refine EvC.condT ?_ ?_; simp (disch := first | omega | rfl) only [sB, Nat.reduceEqDiff]; refine z06 ?_))
      refine (zji (fun _ _ => rfl) (by decide) hr hxb hxc.wf).mono ?_
      rintro v H' ⟨rfl, hxd⟩
      have ho6' := ho6.keep hxd
      have hr7' := hr7.keep hxd
      obtain ⟨cs, hgb, hcl, _⟩ := ho6'.row
      rw [hlm, Nat.mul_one] at hcl
      have hk1 : j + 1 ≤ cs.length := by omega
      repeat' (first | refine EvC.seq ?_ | refine EvC.scope ?_ | refine EvC.block ?_ | (refine EvC.skip ?_) | (refine EvC.exit ?_) | (refine EvC.ret ?_; try simp only [z01, z00]) | (refine EvC.reg ?_; simp (disch := first | omega | rfl) only [sB, Nat.reduceEqDiff, g9, z0c]) | (refine z0i ?_; simp (disch := first | omega | rfl) only [sB, Nat.reduceEqDiff, one, zfg, znh, hgb, hk1]))
      have hset := ho6'.set hgb (i := j) (y := [u32V ((r * 4294967296 + x) / 10)]) (by rw [hlm]; omega) rfl rfl
      rw [Nat.mul_one] at hset
      have hset2 : (((M.take j ++ [x]) ++ q).map fun x => [u32V x]).set j [u32V ((r * 4294967296 + x) / 10)] = (M.take j ++ ((r * 4294967296 + x) / 10 :: q)).map fun x => [u32V x] := by
       rw [List.append_assoc, List.map_append, List.set_append_right _ _ (by rw [List.length_map, hlj]; exact Nat.le_refl _), List.length_map, hlj, Nat.sub_self]
       simp
      rw [hset2] at hset
      have hinv2 := zhc (B := 4294967296) (x := x) (r := r) (low := M.take j) (q := q)
      rw [hlj] at hinv2
      refine ⟨j, by omega, _, (r * 4294967296 + x) / 10 :: q, (r * 4294967296 + x) % 10, _, rfl, by omega, by simp; omega, ?_, by omega, by rw [← hinv2]; exact hinv, (hxc.trans hxd).put ho6'.lo ho6'.hi _, hset, hr7'.other hgb (by decide) _, (by simp only [sG, Nat.reduceEqDiff, g1] <;> rfl), (by simp only [sG, Nat.reduceEqDiff, g2] <;> rfl), (by simp only [sG, Nat.reduceEqDiff, g6] <;> rfl), (by simp only [sG, Nat.reduceEqDiff, g7] <;> rfl), (by simp only [sG, Nat.reduceEqDiff] <;> rfl), (by simp only [sG, Nat.reduceEqDiff] <;> rfl)⟩
      intro y hy
      rcases List.mem_cons.1 hy with h | h
      ·rw [h]; exact zjf hxb hr
      ·exact hqb y h
    ·exact ⟨_, [], 0, _, rfl, Nat.le_refl _, by simp, by simp, by omega, by simp [valB], hxc, by simpa using ho6, hr7, (by simp only [sG, Nat.reduceEqDiff, g1] <;> rfl), (by simp only [sG, Nat.reduceEqDiff, g2] <;> rfl), (by simp only [sG, Nat.reduceEqDiff, g6] <;> rfl), (by simp only [sG, Nat.reduceEqDiff, g7] <;> rfl), (by simp only [sB, Nat.reduceEqDiff] <;> rfl), (by simp only [sG, Nat.reduceEqDiff] <;> rfl)⟩
  ·exact ⟨_, M0, [], .slice (some ⟨b, 0, none⟩) M0.length c2, _, _, rfl, rfl, hLm, by omega, hlast, by rw [hvm]; rfl, fun _ => by rw [hvm]; simp, by simp, by simp, hx4, .inr ⟨b, c2, ho, by simp⟩, RepO.empty, (by simp only [sG, Nat.reduceEqDiff, reduceCtorEq] <;> rfl), (by simp only [sG, Nat.reduceEqDiff, reduceCtorEq] <;> rfl), (by simp only [sG, Nat.reduceEqDiff, reduceCtorEq] <;> rfl), (by simp only [sG, Nat.reduceEqDiff, reduceCtorEq] <;> rfl)⟩
theorem zor (a : Nat) : (a : Int).tmod 2 = ((a % 2 : Nat) : Int) := rfl
theorem zos (a : Nat) : (a : Int).tdiv 2 = ((a / 2 : Nat) : Int) := rfl
def bitsOK (L : List Nat) : Prop := (∀ y ∈ L, y < 2) ∧ L.getLast? ≠ some 0
theorem zjl {L : List Nat} (h : bitsOK L) : nbits (valB 2 L) = L.length := by
  rcases List.eq_nil_or_concat L with rfl | ⟨l, x, rfl⟩
  · rfl
  · rw [List.concat_eq_append] at *
    have hx : x ≠ 0 := by have := h.2; simpa using this
    have hx2 : x < 2 := h.1 x (by simp)
    have hx1 : x = 1 := by omega
    subst hx1
    have := z7f (l := l) (x := 1) (e := 1) (fun y hy => h.1 y (by simp [hy])) (by omega)
    rw [show (2 : Nat) ^ 1 = 2 from rfl] at this
    rw [this]
    have h1 : nbits 1 = 1 := by decide
    rw [h1]; simp
set_option maxHeartbeats 2000000 in
theorem zhh {s : ByteArray} (hs : s.size ≤ 9223372036854775807) {H : Heap} (hw : H.wf) :
    EvF Tryd.prog okT 87 [.string s, .int .i64 10] H fun v H' => ParseT H' i64V 2 (bl s) v ∧ HX H H' := by
  refine EvF.enter rfl Tryd.func87 (by decide) rfl ?_
  (repeat refine EvC.seq ?_); refine EvC.reg ?_; simp (disch := first | omega | rfl) only [sA, initTm, dAlloc, zje]
  have hx0 := (HX.refl hw).new (some (.row [.bool false, .slice none 0 0] 127))
  obtain ⟨H1, hH1⟩ : ∃ H1, H1 = H.new (some (.row [.bool false, .slice none 0 0] 127)) := ⟨_, rfl⟩
  have hn1 : H1.next = H.next + 1 := by rw [hH1]; rfl
  have hg1 : H1.get H.next = some (.row [.bool false, .slice none 0 0] 127) := by rw [hH1]; exact z0n
  rw [← hH1] at hx0 ⊢
  (repeat refine EvC.seq ?_); refine EvC.reg ?_; simp (disch := first | omega | rfl) only [sB, Nat.reduceEqDiff, reduceCtorEq, decide_eq_false, Bool.false_eq_true]
  (repeat refine EvC.seq ?_); refine EvC.condF (by simp (disch := first | omega | rfl) only [sB, Nat.reduceEqDiff, reduceCtorEq]) ?_; (try refine EvC.skip ?_); (try simp only [z02, z03])
  (repeat refine EvC.seq ?_)
  refine EvC.join (fun st => ∃ tm, st = ⟨tm, [], H1⟩ ∧ tm.get 0 = some (.string s) ∧ tm.get 1 = some (.int .i64 10) ∧ tm.get 4 = some (.pointer (some ⟨H.next, 0, none⟩)) ∧ tm.get 6 = some (.bool (negS (bl s)))) ?_ ?_
  · by_cases h0 : s.size = 0
    · have hb : negS (bl s) = false := by
        have : bl s = [] := List.length_eq_zero_iff.1 (by rw [z1z]; exact h0)
        rw [this]; rfl
      rw [hb]
      (repeat refine EvC.seq ?_); refine EvC.reg ?_; simp (disch := first | omega | rfl) only [sB, Nat.reduceEqDiff, reduceCtorEq, ln9, decide_eq_false, Bool.false_eq_true]
      exact ⟨_, rfl, (by simp only [sG, reduceCtorEq] <;> rfl), (by simp only [sG, Nat.reduceEqDiff, reduceCtorEq] <;> rfl), (by simp only [sG, Nat.reduceEqDiff, reduceCtorEq] <;> rfl), (by simp only [sG, Nat.reduceEqDiff, reduceCtorEq] <;> rfl)⟩
    · have hb : negS (bl s) = (byteAt s 0 == 45) := by
        have := z8g s (i := 0) (by omega)
        unfold negS
        rw [List.head?_eq_getElem?, this]; simp
      rw [hb]
      by_cases h45 : byteAt s 0 = 45
      · (repeat refine EvC.seq ?_); refine EvC.reg ?_; simp (disch := first | omega | rfl) only [sB, Nat.reduceEqDiff, reduceCtorEq, Int.reduceToNat, ln9, decide_eq_true, iy9, z0j]
        exact ⟨_, rfl, (by simp only [sG, reduceCtorEq] <;> rfl), (by simp only [sG, Nat.reduceEqDiff, reduceCtorEq] <;> rfl), (by simp only [sG, Nat.reduceEqDiff, reduceCtorEq] <;> rfl), by simp only [sB, Nat.reduceEqDiff, reduceCtorEq]; first | rfl | simp [h45]⟩
      · (repeat refine EvC.seq ?_); refine EvC.reg ?_; simp (disch := first | omega | rfl) only [sB, Nat.reduceEqDiff, reduceCtorEq, Int.reduceToNat, ln9, decide_eq_true, iy9, z0l]
        exact ⟨_, rfl, (by simp only [sG, reduceCtorEq] <;> rfl), (by simp only [sG, Nat.reduceEqDiff, reduceCtorEq] <;> rfl), (by simp only [sG, Nat.reduceEqDiff, reduceCtorEq] <;> rfl), by simp only [sB, Nat.reduceEqDiff, reduceCtorEq]; first | rfl | simp [h45]⟩
  rintro st ⟨tm, rfl, g0, g1, g4, g6⟩
  try simp (disch := first | omega | rfl) only [z02]
  (repeat refine EvC.seq ?_); refine EvC.reg ?_; simp (disch := first | omega | rfl) only [sA, g6]
  (repeat refine EvC.seq ?_)
  have hbody : bodyS (bl s) = if negS (bl s) then (bl s).tail else bl s := rfl
  refine EvC.join (fun st => ∃ tm s', st = ⟨tm, [], H1⟩ ∧ bl s' = bodyS (bl s) ∧ s'.size ≤ 9223372036854775807 ∧ tm.get 0 = some (.string s') ∧ tm.get 1 = some (.int .i64 10) ∧ tm.get 4 = some (.pointer (some ⟨H.next, 0, none⟩)) ∧ tm.get 6 = some (.bool (negS (bl s)))) ?_ ?_
  · cases hneg : negS (bl s) with
    | true =>
      have h1 : 1 ≤ s.size := by
        rw [← z1z]
        cases hb : bl s with
        | nil => rw [hb] at hneg; simp [negS] at hneg
        | cons x l => simp
      have hsl : dSl Tryd.prog 9 (.string s) (some (.int .i64 1)) none none H1 = some (.val (.string (s.extract 1 s.size)) H1) := z89 (l := 1) us9 h1
      rw [hneg] at g6 hbody
      refine EvC.condT (by simp only [sB] <;> rfl) ?_
      (repeat refine EvC.seq ?_); refine EvC.reg ?_; simp (disch := first | omega | rfl) only [sB, Nat.reduceEqDiff, reduceCtorEq, g0, hsl]
      refine ⟨_, s.extract 1 s.size, rfl, ?_, ?_, (by simp only [sG, reduceCtorEq] <;> rfl), (by simp only [sG, Nat.reduceEqDiff, reduceCtorEq, g1] <;> rfl), (by simp only [sG, Nat.reduceEqDiff, reduceCtorEq, g4] <;> rfl), (by simp only [sG, Nat.reduceEqDiff, reduceCtorEq, g6] <;> rfl)⟩
      · rw [z8h, hbody, List.take_of_length_le (by rw [z1z]; exact Nat.le_refl _)]
        simp
      · have : (s.extract 1 s.size).size ≤ s.size := by rw [ByteArray.size_extract]; omega
        omega
    | false =>
      rw [hneg] at g6 hbody
      refine EvC.condF (by simp only [sB] <;> rfl) (EvC.skip ?_)
      try simp (disch := first | omega | rfl) only [z02]
      exact ⟨_, s, rfl, by rw [hbody]; rfl, hs, (by simp only [sG, reduceCtorEq, g0] <;> rfl), (by simp only [sG, Nat.reduceEqDiff, g1] <;> rfl), (by simp only [sG, Nat.reduceEqDiff, g4] <;> rfl), (by simp only [sG, Nat.reduceEqDiff, g6] <;> rfl)⟩
  clear g0 g1 g4 g6
  rintro st ⟨tm1, s', rfl, hbl, hs', g0, g1, g4, g6⟩
  clear tm
  generalize hneg : negS (bl s) = neg at g6
  by_cases hsz : s'.size = 0
  · repeat' (first | refine EvC.seq ?_ | refine EvC.scope ?_ | refine EvC.block ?_ | (refine EvC.skip ?_) | (refine EvC.exit ?_) | (refine EvC.ret ?_; try simp only [z01, z00]) | (refine EvC.reg ?_; simp (disch := first | omega | rfl) only [sB, Nat.reduceEqDiff, Nat.reduceAdd, Value.cells, one, layC, zfh, z9c, g0, g4, z6c, decide_eq_true, hg1]) | (refine EvC.condT ?_ ?_; simp (disch := first | omega | rfl) only [sB, Nat.reduceEqDiff]; refine z06 ?_))
    refine z0b rfl (by simp only [sB, Nat.reduceEqDiff, g4] <;> rfl) (by simp only [sB, Nat.reduceAdd, cutC, zb1] <;> rfl) (by simp only [sG, Nat.reduceEqDiff] <;> rfl) ⟨.inl ⟨?_, 12, by omega, rfl⟩, hx0.put (Nat.le_refl _) (by omega) _⟩
    have : bodyS (bl s) = [] := by rw [← hbl]; exact List.length_eq_zero_iff.1 (by rw [z1z]; exact hsz)
    unfold parseD
    rw [if_pos this]
  try simp (disch := first | omega | rfl) only [z02]
  (repeat refine EvC.seq ?_); refine EvC.reg ?_; simp (disch := first | omega | rfl) only [sB, g0, z6c, decide_eq_false]
  (repeat refine EvC.seq ?_); refine EvC.condF (by simp (disch := first | omega | rfl) only [sB, Nat.reduceEqDiff]) ?_; (try refine EvC.skip ?_); (try simp only [z02, z03])
  (repeat refine EvC.seq ?_); refine EvC.reg ?_; simp (disch := first | omega | rfl) only [sA]
  (repeat refine EvC.seq ?_)
  refine EvC.join (fun st => ∃ tm, st = ⟨tm, [], H1⟩ ∧ (bodyS (bl s)).any (fun x => 10 ≤ digV x) = false ∧ tm.get 0 = some (.string s') ∧ tm.get 1 = some (.int .i64 10) ∧ tm.get 4 = some (.pointer (some ⟨H.next, 0, none⟩)) ∧ tm.get 6 = some (.bool neg)) ?_ ?_
  · refine EvC.block (EvC.loop (fun k st => ∃ tm i, st = ⟨tm, [], H1⟩ ∧ k = s'.size - i ∧ i ≤ s'.size ∧ (∀ x ∈ (bl s').take i, digV x < 10) ∧ tm.get 0 = some (.string s') ∧ tm.get 1 = some (.int .i64 10) ∧ tm.get 4 = some (.pointer (some ⟨H.next, 0, none⟩)) ∧ tm.get 6 = some (.bool neg) ∧ tm.get 7 = some (.int .i64 (i : Nat))) ?_ s'.size _ ?_)
    · rintro k st ⟨tm, i, rfl, hk, hi, hall, f0, f1, f4, f6, f7⟩
      by_cases hlt : i < s'.size
      · have hgi := z8g s' hlt
        repeat' (first | refine EvC.seq ?_ | refine EvC.scope ?_ | refine EvC.block ?_ | (refine EvC.skip ?_; try simp only [z02]) | (refine EvC.exit ?_) | (refine EvC.ret ?_; try simp only [z01, z00]) | (refine EvC.reg ?_; simp (disch := first | omega | rfl) only [sB, Nat.reduceEqDiff, reduceCtorEq, ln9, ix9, cl97, f0, f1, f7, decide_eq_true]) | (refine EvC.condT ?_ ?_; simp (disch := first | omega | rfl) only [sB, Nat.reduceEqDiff]; refine z06 ?_))
        refine (zea (fun _ _ => rfl) (by decide) _ (z58 s' i) H1).mono ?_
        rintro v H' ⟨rfl, rfl⟩
        by_cases hd : 10 ≤ digV (byteAt s' i)
        · repeat' (first | refine EvC.seq ?_ | refine EvC.scope ?_ | refine EvC.block ?_ | (refine EvC.skip ?_) | (refine EvC.exit ?_) | (refine EvC.ret ?_; try simp only [z01, z00]) | (refine EvC.reg ?_; simp (disch := first | omega | rfl) only [sB, Nat.reduceEqDiff, Nat.reduceAdd, Value.cells, one, layC, zfh, z9c, f4, hg1]) | (refine z0i ?_; simp (disch := first | omega | rfl) only [sA, decide_eq_true]) | (refine EvC.condT ?_ ?_; simp (disch := first | omega | rfl) only [sB, Nat.reduceEqDiff]; refine z06 ?_))
          refine z0b rfl (by simp only [sB, Nat.reduceEqDiff, f4] <;> rfl) (by simp only [sB, Nat.reduceAdd, cutC, zb1] <;> rfl) (by simp only [sG, Nat.reduceEqDiff] <;> rfl) ⟨.inl ⟨?_, 12, by omega, rfl⟩, ?_⟩
          · have hm : byteAt s' i ∈ bodyS (bl s) := by rw [← hbl]; exact List.mem_of_getElem? hgi
            unfold parseD
            rw [if_neg (fun h => by rw [h] at hm; cases hm), if_pos (List.any_eq_true.2 ⟨_, hm, decide_eq_true hd⟩)]
          · exact hx0.put (Nat.le_refl _) (by omega) _
        · repeat' (first | refine EvC.seq ?_ | refine EvC.scope ?_ | refine EvC.block ?_ | (refine EvC.skip ?_; try simp only [sA]) | (refine EvC.exit ?_) | (refine EvC.ret ?_; try simp only [z01, z00]) | (refine EvC.reg ?_; simp (disch := first | omega | rfl) only [sB, Nat.reduceEqDiff, f7, z0c]) | (refine z0i ?_; simp (disch := first | omega | rfl) only [sA, decide_eq_false]) | (refine EvC.condT ?_ ?_; simp (disch := first | omega | rfl) only [sB, Nat.reduceEqDiff]; refine z06 ?_) | (refine EvC.condF ?_ ?_; simp (disch := first | omega | rfl) only [sB, Nat.reduceEqDiff]; refine z06 ?_))
          refine ⟨s'.size - (i + 1), by omega, _, i + 1, rfl, rfl, by omega, fun x hx => ?_, (by simp only [sG, reduceCtorEq, f0] <;> rfl), (by simp only [sG, Nat.reduceEqDiff, f1] <;> rfl), (by simp only [sG, Nat.reduceEqDiff, f4] <;> rfl), (by simp only [sG, Nat.reduceEqDiff, f6] <;> rfl), (by simp only [sB, Nat.reduceEqDiff] <;> rfl)⟩
          rw [List.take_add_one, hgi] at hx
          rcases List.mem_append.1 hx with h | h
          · exact hall x h
          · simp at h; rw [h]; omega
      · repeat' (first | refine EvC.seq ?_ | refine EvC.scope ?_ | refine EvC.block ?_ | (refine EvC.skip ?_) | (refine EvC.exit ?_; try simp only [sB]) | (refine EvC.ret ?_; try simp only [z01, z00]) | (refine EvC.reg ?_; simp (disch := first | omega | rfl) only [sB, Nat.reduceEqDiff, reduceCtorEq, ln9, f0, f7, decide_eq_false]) | (refine EvC.condT ?_ ?_; simp (disch := first | omega | rfl) only [sB, Nat.reduceEqDiff]; refine z06 ?_) | (refine EvC.condF ?_ ?_; simp (disch := first | omega | rfl) only [sB, Nat.reduceEqDiff]; refine z06 ?_))
        refine ⟨_, rfl, ?_, (by simp only [sG, reduceCtorEq, f0] <;> rfl), (by simp only [sG, Nat.reduceEqDiff, f1] <;> rfl), (by simp only [sG, Nat.reduceEqDiff, f4] <;> rfl), (by simp only [sG, Nat.reduceEqDiff, f6] <;> rfl)⟩
        rw [List.any_eq_false]
        intro x hx
        rw [← hbl] at hx
        have := hall x (by rw [List.take_of_length_le (by rw [z1z]; omega)]; exact hx)
        simp; omega
    · exact ⟨_, 0, rfl, by omega, by omega, by simp, (by simp only [sG, reduceCtorEq, g0] <;> rfl), (by simp only [sG, Nat.reduceEqDiff, g1] <;> rfl), (by simp only [sG, Nat.reduceEqDiff, g4] <;> rfl), (by simp only [sG, Nat.reduceEqDiff, g6] <;> rfl), (by simp only [sB, Nat.reduceEqDiff] <;> rfl)⟩
  clear g0 g1 g4 g6 tm1
  rintro st ⟨tm, rfl, hany, g0, g1, g4, g6⟩
  have hpd : parseD (bl s) = numD ((bl s').map digV) 0 := by
    have : bodyS (bl s) ≠ [] := by rw [← hbl]; intro h; have := congrArg List.length h; rw [z1z] at this; exact hsz this
    unfold parseD
    rw [if_neg this, if_neg (by rw [hany]; simp), hbl]
  have hdl : ∀ x ∈ bl s', digV x < 10 := by
    rw [← hbl, List.any_eq_false] at hany
    intro x hx
    have := hany x hx
    simp at this; omega
  repeat' (first | refine EvC.seq ?_ | refine EvC.scope ?_ | refine EvC.block ?_ | (refine EvC.skip ?_) | (refine EvC.exit ?_) | (refine EvC.ret ?_; try simp only [z01, z00]) | (refine EvC.reg ?_; simp (disch := first | omega | rfl) only [sA]))
  refine EvC.loop (fun k st => ∃ tm i n L v Hc, st = ⟨tm, [], Hc⟩ ∧ k = s'.size - i ∧ i ≤ s'.size ∧ ((n < big ∧ numD (((bl s').map digV).drop i) n = numD ((bl s').map digV) 0) ∨ (big ≤ n ∧ numD ((bl s').map digV) 0 = none)) ∧ valB 2 L = n ∧ bitsOK L ∧ L.length ≤ 4106 ∧ HX H1 Hc ∧
    RepO Hc 3 1 H1.next (L.map fun x => [i64V x]) v ∧ tm.get 0 = some (.string s') ∧ tm.get 1 = some (.int .i64 10) ∧ tm.get 4 = some (.pointer (some ⟨H.next, 0, none⟩)) ∧ tm.get 6 = some (.bool neg) ∧ tm.get 8 = some v ∧
    tm.get 9 = some (.int .i64 (i : Nat))) ?_ s'.size _ ?_
  · clear g0 g1 g4 g6 tm
    rintro k st ⟨tm, i, n, L, v, Hc, rfl, hk, hi, hnum, hval, hL, hLl, hxc, hrep, g0, g1, g4, g6, g8, g9⟩
    have hbits := zjl hL
    obtain ⟨a, c, rfl, hLc, hcm⟩ := hrep.slice
    rw [List.length_map] at hLc g8 hrep
    have hcm' : c ≤ 9223372036854775807 := hcm
    by_cases hlt : i < s'.size ∧ L.length ≤ 4096
    · obtain ⟨hlt, hl4⟩ := hlt
      have hgi := z8g s' hlt
      have hdi : digV (byteAt s' i) < 10 := hdl _ (List.mem_of_getElem? hgi)
      repeat' (first | refine EvC.seq ?_ | refine EvC.scope ?_ | refine EvC.block ?_ | (refine EvC.skip ?_; try simp only [z02]) | (refine EvC.exit ?_) | (refine EvC.ret ?_; try simp only [z01, z00]) | (refine EvC.reg ?_; simp (disch := first | omega | rfl) only [sB, Nat.reduceEqDiff, reduceCtorEq, ln9, ix9, cl97, ln84, g0, g8, g9, decide_eq_true]) | (refine EvC.condT ?_ ?_; simp (disch := first | omega | rfl) only [sB, Nat.reduceEqDiff]; refine z06 ?_))
      refine (zea (fun _ _ => rfl) (by decide) _ (z58 s' i) Hc).mono ?_
      rintro v' H' ⟨rfl, rfl⟩
      repeat' (first | refine EvC.seq ?_ | refine EvC.scope ?_ | refine EvC.block ?_ | (refine EvC.skip ?_) | (refine EvC.exit ?_) | (refine EvC.ret ?_; try simp only [z01, z00]) | (refine EvC.reg ?_; simp (disch := first | omega | rfl) only [sA]))
      have hxw := hxc.wf
      refine EvC.loop (fun k' st => ∃ (tm : Tr Value) (k : Nat) (d : List Nat) (cy : Nat) (v : Value) (Hd : Heap), st = ⟨tm, [], Hd⟩ ∧ k' = (L.length - k) * 20 + cy ∧ d.length = k ∧ (∀ y ∈ d, y < 2) ∧ cy < 10 ∧ k + cy ≤ L.length + 10 ∧
        valB 2 d + 2 ^ k * (10 * valB 2 (L.drop k) + cy) = 10 * valB 2 L + digV (byteAt s' i) ∧ HX H' Hd ∧
        RepO Hd 3 1 H'.next (d.map fun x => [i64V x]) v ∧ tm.get 0 = some (.string s') ∧ tm.get 1 = some (.int .i64 10) ∧ tm.get 4 = some (.pointer (some ⟨H.next, 0, none⟩)) ∧ tm.get 6 = some (.bool neg) ∧
        tm.get 8 = some (.slice a L.length c) ∧ tm.get 9 = some (.int .i64 (i : Nat)) ∧ tm.get 10 = some (.int .i64 (cy : Nat)) ∧ tm.get 11 = some v ∧ tm.get 12 = some (.int .i64 (k : Nat))) ?_ ((L.length - 0) * 20 + digV (byteAt s' i)) _ ?_
      · clear g0 g1 g4 g6 g8 g9 tm
        rintro k2 st ⟨tm, k, d, cy, v, Hd, rfl, hk2, hdk, hdb, hcy, hkc, hinv, hxd, hrd, g0, g1, g4, g6, g8, g9, g10, g11, g12⟩
        have hrb := (hrep.keep hxd)
        obtain ⟨-, hrds⟩ := RepO.rds' (vs := L.map i64V) (by rw [List.map_map]; exact hrb)
        by_cases hgo : k < L.length ∨ 0 < cy
        · obtain ⟨x, hx⟩ : ∃ x, x = L.getD k 0 := ⟨_, rfl⟩
          have hxb : x < 2 := by
            rw [hx, List.getD_eq_getElem?_getD]
            cases hg : L[k]? with
            | none => simp
            | some y => exact hL.1 y (List.mem_of_getElem? hg)
          have hinv2 : valB 2 d + 2 ^ d.length * (10 * valB 2 (x :: L.drop (k + 1)) + cy) = 10 * valB 2 L + digV (byteAt s' i) := by
            rw [← hinv, hdk]
            by_cases hkl : k < L.length
            · rw [List.drop_eq_getElem_cons hkl, hx, List.getD_eq_getElem?_getD, List.getElem?_eq_getElem hkl]; rfl
            · rw [List.drop_of_length_le (show L.length ≤ k by omega), List.drop_of_length_le (show L.length ≤ k + 1 by omega), hx, List.getD_eq_getElem?_getD, List.getElem?_eq_none (by omega)]; rfl
          rw [← zha, hdk] at hinv2
          have e1 : ((x : Int) * 10 + (cy : Int)) = ((x * 10 + cy : Nat) : Int) := by omega
          have hgd := znm (fun _ _ => rfl) (by decide) (k := k) hrds (ok := okT)
          rw [← hx] at hgd
          obtain ⟨H5, v5, hap, hrd5, hn5, hx5, hk5⟩ := hrd.push ap84 (y := [i64V ((x * 10 + cy) % 2)]) rfl rfl (by simp [most]; omega) hxd.next
          unfold i64V at hap
          have hq : (x * 10 + cy) / 2 < 10 := by omega
          have hd2 : ((d ++ [(x * 10 + cy) % 2]).map fun x => [i64V x]) = (d.map fun x => [i64V x]) ++ [[i64V ((x * 10 + cy) % 2)]] := by simp
          rcases Nat.lt_or_ge k L.length with hkl | hkl
          all_goals
            repeat' (first | refine EvC.seq ?_ | refine EvC.scope ?_ | refine EvC.block ?_ | (refine EvC.skip ?_; try simp only [z02]) | (refine EvC.exit ?_) | (refine EvC.ret ?_; try simp only [z01, z00]) | (refine EvC.reg ?_; simp (disch := first | omega | rfl) only [sB, Nat.reduceEqDiff, ln84, cl98, g8, g10, g12, decide_eq_true, decide_eq_false, Bool.false_eq_true]) | (refine EvC.condT ?_ ?_; simp (disch := first | omega | rfl) only [sB, Nat.reduceEqDiff]; refine z06 ?_))
            refine hgd.mono ?_
            rintro v H2 ⟨rfl, rfl⟩
            repeat' (first | refine EvC.seq ?_ | refine EvC.scope ?_ | refine EvC.block ?_ | (refine EvC.skip ?_) | (refine EvC.exit ?_) | (refine EvC.ret ?_; try simp only [z01, z00]) | (refine EvC.reg ?_; simp (disch := first | omega | rfl) only [sB, Nat.reduceEqDiff, Value.cells, one, layC, zng, g11, g12, z0c, bRem, bQuo, zor, zos, hap]) | (refine z0i ?_; simp (disch := first | omega | rfl) only [sB, Nat.reduceEqDiff, g1, g10, e1, z0c]))
            refine ⟨(L.length - (k + 1)) * 20 + (x * 10 + cy) / 2, ?_, _, k + 1, d ++ [(x * 10 + cy) % 2], (x * 10 + cy) / 2, _, _, rfl, rfl, by simp [hdk], ?_, hq, ?_, by rw [← hinv2], hx5 _ hxd (Nat.le_refl _), by rw [hd2]; exact hrd5, (by simp only [sG, reduceCtorEq, g0] <;> rfl), (by simp only [sG, Nat.reduceEqDiff, g1] <;> rfl), (by simp only [sG, Nat.reduceEqDiff, g4] <;> rfl), (by simp only [sG, Nat.reduceEqDiff, g6] <;> rfl), (by simp only [sG, Nat.reduceEqDiff, g8] <;> rfl), (by simp only [sG, Nat.reduceEqDiff, g9] <;> rfl), (by simp only [sG, Nat.reduceEqDiff] <;> rfl), (by simp only [sG, Nat.reduceEqDiff] <;> rfl), (by simp only [sB, Nat.reduceEqDiff] <;> rfl)⟩
            · first | omega | (have : x = 0 := by rw [hx, List.getD_eq_getElem?_getD, List.getElem?_eq_none (by omega)]; rfl
                               omega)
            · intro y hy
              rcases List.mem_append.1 hy with h | h
              · exact hdb y h
              · simp at h; omega
            · first | omega | (have : x = 0 := by rw [hx, List.getD_eq_getElem?_getD, List.getElem?_eq_none (by omega)]; rfl
                               omega)
        · have hkl : L.length ≤ k := by omega
          have hc0 : cy = 0 := by omega
          subst hc0
          rw [List.drop_of_length_le hkl] at hinv
          simp only [valB, Nat.mul_zero, Nat.add_zero] at hinv
          rw [hval] at hinv
          obtain ⟨a5, c5, rfl, -, -⟩ := hrd.slice
          rw [List.length_map] at g11 hrd
          obtain ⟨-, hrds5⟩ := RepO.rds' (vs := d.map i64V) (by rw [List.map_map]; exact hrd)
          repeat' (first | refine EvC.seq ?_ | refine EvC.scope ?_ | refine EvC.block ?_ | (refine EvC.skip ?_) | (refine EvC.exit ?_; try simp only [sB, Nat.reduceEqDiff]) | (refine EvC.ret ?_; try simp only [z01, z00]) | (refine EvC.reg ?_; simp (disch := first | omega | rfl) only [sB, Nat.reduceEqDiff, ln84, cl99, g8, g10, g11, g12, decide_eq_false, Bool.false_eq_true]) | (refine EvC.condT ?_ ?_; simp (disch := first | omega | rfl) only [sB, Nat.reduceEqDiff]; refine z06 ?_) | (refine EvC.condF ?_ ?_; simp (disch := first | omega | rfl) only [sB, Nat.reduceEqDiff]; refine z06 ?_))
          refine (zhe (fun _ _ => rfl) (by decide) hrds5).mono ?_
          rintro v H2 ⟨m, rfl, hm, hz, hn0, rfl⟩
          repeat' (first | refine EvC.seq ?_ | refine EvC.scope ?_ | refine EvC.block ?_ | (refine EvC.skip ?_) | (refine EvC.exit ?_) | (refine EvC.ret ?_; try simp only [z01, z00]) | (refine EvC.reg ?_; simp (disch := first | omega | rfl) only [sB, Nat.reduceEqDiff, g9, z0c]))
          have hvm : valB 2 (d.take m) = n * 10 + digV (byteAt s' i) := by rw [z3t hz, hinv]; omega
          have hnumi : n < big → numD ((bl s').map digV) 0 = if big ≤ n * 10 + digV (byteAt s' i) then none else numD (((bl s').map digV).drop (i + 1)) (n * 10 + digV (byteAt s' i)) := by
            intro hnb
            rcases hnum with ⟨_, hnum⟩ | ⟨h, _⟩
            · rw [← hnum, List.drop_eq_getElem_cons (by simp [z1z]; omega), numD]
              have : ((bl s').map digV)[i]'(by simp [z1z]; omega) = digV (byteAt s' i) := by
                apply Option.some.inj
                rw [← List.getElem?_eq_getElem, List.getElem?_map, hgi]; rfl
              rw [this]
            · omega
          have hnb : n < big := by
            rcases Nat.lt_or_ge n big with h | h
            · exact h
            · have := z2d.2 h
              rw [← hval, hbits] at this
              omega
          refine ⟨s'.size - (i + 1), by omega, _, i + 1, n * 10 + digV (byteAt s' i), d.take m, _, _, rfl, rfl, by omega, ?_, hvm, ⟨fun y hy => hdb y (List.mem_of_mem_take hy), ?_⟩, by rw [List.length_take]; omega, hxc.trans hxd,
            by rw [List.map_take]; exact (hrd.takeR (m := m) (by simpa using hm)).low hxc.next, (by simp only [sG, reduceCtorEq, g0] <;> rfl), (by simp only [sG, Nat.reduceEqDiff, g1] <;> rfl), (by simp only [sG, Nat.reduceEqDiff, g4] <;> rfl), (by simp only [sG, Nat.reduceEqDiff, g6] <;> rfl), (by simp only [sG, Nat.reduceEqDiff] <;> rfl), (by simp only [sB, Nat.reduceEqDiff] <;> rfl)⟩
          · by_cases hb : big ≤ n * 10 + digV (byteAt s' i)
            · exact .inr ⟨hb, by rw [hnumi hnb, if_pos hb]⟩
            · exact .inl ⟨Nat.lt_of_not_le hb, by rw [hnumi hnb, if_neg hb]⟩
          · rw [List.getLast?_eq_getElem?, List.length_take, Nat.min_eq_left hm]
            by_cases h0 : m = 0
            · subst h0; simp
            · rw [List.getElem?_take, if_pos (by omega)]; exact hn0 h0
      · exact ⟨_, 0, [], digV (byteAt s' i), _, _, rfl, rfl, rfl, by simp, hdi, by omega, by simp [valB], HX.refl hxw, RepO.empty, (by simp only [sG, reduceCtorEq, g0] <;> rfl), (by simp only [sG, Nat.reduceEqDiff, g1] <;> rfl), (by simp only [sG, Nat.reduceEqDiff, g4] <;> rfl), (by simp only [sG, Nat.reduceEqDiff, g6] <;> rfl), (by simp only [sG, Nat.reduceEqDiff, g8] <;> rfl), (by simp only [sG, Nat.reduceEqDiff, g9] <;> rfl), (by simp only [sG, Nat.reduceEqDiff] <;> rfl), (by simp only [sG, Nat.reduceEqDiff] <;> rfl), (by simp only [sB, Nat.reduceEqDiff] <;> rfl)⟩
    · by_cases hl4 : L.length ≤ 4096
      · have hi' : i = s'.size := by omega
        have hnb : n < big := by
          rcases Nat.lt_or_ge n big with h | h
          · exact h
          · have := z2d.2 h
            rw [← hval, hbits] at this
            omega
        have hnn : numD ((bl s').map digV) 0 = some n := by
          rcases hnum with ⟨_, hnum⟩ | ⟨h, _⟩
          · rw [← hnum, List.drop_of_length_le (by simp [z1z]; omega), numD]
          · omega
        obtain ⟨-, hr⟩ := RepO.rds' (vs := L.map i64V) (by rw [List.map_map]; exact hrep)
        repeat' (first | refine EvC.seq ?_ | refine EvC.scope ?_ | refine EvC.block ?_ | (refine EvC.skip ?_; try simp only [z02]) | (refine EvC.exit ?_; try simp only [sB]) | (refine EvC.ret ?_; try simp only [z01, z00]) | (refine EvC.reg ?_; simp (disch := first | omega | rfl) only [sB, Nat.reduceEqDiff, reduceCtorEq, ln9, ln84, zon, g0, g9, g6, g8, decide_eq_false, Bool.false_eq_true]) | (refine EvC.condT ?_ ?_; simp (disch := first | omega | rfl) only [sB, Nat.reduceEqDiff]; refine z06 ?_) | (refine EvC.condF ?_ ?_; simp (disch := first | omega | rfl) only [sB, Nat.reduceEqDiff]; refine z06 ?_))
        refine (zjj hr hxc.wf).mono ?_
        rintro v H2 ⟨m, rfl, hm, hz, hn0, hx2⟩
        have hg2 : H2.get H.next = some (.row [.bool false, .slice none 0 0] 127) := by rw [(hxc.trans hx2).keep _ (by omega)]; exact hg1
        repeat' (first | refine EvC.seq ?_ | refine EvC.scope ?_ | refine EvC.block ?_ | (refine EvC.skip ?_) | (refine EvC.exit ?_) | (refine EvC.ret ?_; try simp only [z01, z00]) | (refine z0i ?_; simp (disch := first | omega | rfl) only [sB, Nat.reduceAdd, one, z9c, g4, hg2]))
        have hx3 := hxc.trans hx2
        have hm' : m = L.length := by
          rcases Nat.lt_or_ge m L.length with h | h
          · have := hz (L[L.length - 1]'(by omega)) (List.mem_drop_iff_getElem.2 ⟨L.length - 1 - m, by omega, by congr 1; omega⟩)
            have h2 := hL.2
            rw [List.getLast?_eq_getElem?, List.getElem?_eq_getElem (by omega), this] at h2
            exact absurd rfl h2
          · omega
        subst hm'
        refine z0b rfl (by simp only [sB, Nat.reduceEqDiff, g4] <;> rfl) (by simp only [sB, Nat.reduceAdd, cutC, zb1] <;> rfl) (by simp only [sB, Nat.reduceEqDiff] <;> rfl) ⟨.inr ⟨n, L, a, c, by rw [hpd, hnn], by rw [hneg], ?_, hL.1, hval, hL.2, hl4⟩, (hx0.trans hx3).put (Nat.le_refl _) (by have := hx3.next; omega) _⟩
        have h3 := (hrep.keep hx2).putlo (i := H.next) (by omega) (some (.row [.bool (neg && decide (0 < L.length)), .slice a L.length c] 127))
        exact (RepO.rds' (vs := L.map i64V) (by rw [List.map_map]; exact h3)).2
      · have hnn : numD ((bl s').map digV) 0 = none := by
          have hb : big ≤ n := by
            rw [← z2d, ← hval, hbits]; omega
          rcases hnum with ⟨h, _⟩ | ⟨_, h⟩
          · omega
          · exact h
        have hg2 : Hc.get H.next = some (.row [.bool false, .slice none 0 0] 127) := by rw [hxc.keep _ (by omega)]; exact hg1
        by_cases hlt' : i < s'.size
        all_goals
          repeat' (first | refine EvC.seq ?_ | refine EvC.scope ?_ | refine EvC.block ?_ | (refine EvC.skip ?_) | (refine EvC.exit ?_; try simp only [sB]) | (refine EvC.ret ?_; try simp only [z01, z00]) | (refine EvC.reg ?_; simp (disch := first | omega | rfl) only [sB, Nat.reduceEqDiff, Nat.reduceAdd, Value.cells, one, reduceCtorEq, layC, zfh, z9c, ln9, ln84, g0, g4, g9, g8, decide_eq_true, decide_eq_false, Bool.false_eq_true, hg2]) | (refine EvC.condT ?_ ?_; simp (disch := first | omega | rfl) only [sB, Nat.reduceEqDiff]; refine z06 ?_) | (refine EvC.condF ?_ ?_; simp (disch := first | omega | rfl) only [sB, Nat.reduceEqDiff]; refine z06 ?_))
          refine z0b rfl (by simp only [sB, Nat.reduceEqDiff, g4] <;> rfl) (by simp only [sB, Nat.reduceAdd, cutC, zb1] <;> rfl) (by simp only [sG, Nat.reduceEqDiff] <;> rfl) ⟨.inl ⟨?_, 10, by omega, rfl⟩, (hx0.trans hxc).put (Nat.le_refl _) (by have := hxc.next; omega) _⟩
          rw [hpd, hnn]
  · exact ⟨_, 0, 0, [], _, _, rfl, by omega, by omega, .inl ⟨by rw [z63]; exact Nat.two_pow_pos _, by simp⟩, rfl, ⟨by simp, by simp⟩, by simp, HX.refl hx0.wf, RepO.empty, (by simp only [sG, reduceCtorEq, g0] <;> rfl), (by simp only [sG, Nat.reduceEqDiff, g1] <;> rfl), (by simp only [sG, Nat.reduceEqDiff, g4] <;> rfl), (by simp only [sG, Nat.reduceEqDiff, g6] <;> rfl), (by simp only [sG, Nat.reduceEqDiff] <;> rfl), (by simp only [sB, Nat.reduceEqDiff] <;> rfl)⟩
theorem zjm {H H2 : Heap} {vs : List Value} {a : Option Addr} {c : Nat} (h : RdS H vs a c) (hg : vs ≠ [] → ∀ b o s, a = some ⟨b, o, s⟩ → H2.get b = H.get b) : RdS H2 vs a c :=
 ⟨h.len, h.cap, fun i v hv => by
  obtain ⟨b, o, ha, hl⟩ := h.get i v hv
  refine ⟨b, o, ha, ?_⟩
  have := hg (fun h0 => by rw [h0] at hv; simp at hv) b o none ha
  rw [← hl]
  unfold Heap.load Heap.cells
  rw [this]⟩
theorem znr {H : Heap} {vs : List Value} {a : Option Addr} {c : Nat} (h : RdS H vs a c) (hw : H.wf) (h0 : vs ≠ []) {ad : Addr} (ha : a = some ad) : ad.block < H.next := by
 obtain ⟨v, r, rfl⟩ := List.exists_cons_of_ne_nil h0
 obtain ⟨b', o', ha', hl⟩ := h.get 0 v rfl
 rw [ha] at ha'
 cases ha'
 unfold Heap.load Heap.cells at hl
 cases hg : H.get b' with
 | none => simp only [hg] at hl; cases hl
 | some B => exact hw b' B hg
theorem zfi : ∀ l : List Nat, (∀ y ∈ l, y < 256) → l.map (UInt8.toNat ∘ UInt8.ofNat) = l := by
 intro l hl
 conv => rhs; rw [← List.map_id l]
 apply List.map_congr_left
 intro y hy
 have := hl y hy
 simp [UInt8.toNat_ofNat]
 omega
set_option maxHeartbeats 4000000 in
theorem zjn {L : List Nat} {neg : Bool} {a : Option Addr} {c n : Nat} {H : Heap} (hw : H.wf) (r : RdS H (L.map i64V) a c) (hL : ∀ y ∈ L, y < 2) (hlen : L.length ≤ 4096) (hlast : L.getLast? ≠ some 0) (hval : valB 2 L = n) (hn : n < big) :
  EvF Tryd.prog okT 88 [.agg ⟨[.bool neg, .slice a L.length c]⟩, .int .i64 10] H fun v H' => (∃ t : ByteArray, v = .string t ∧ bl t = textD neg n) ∧ HX H H' := by
 refine EvF.enter rfl Tryd.func88 (by decide) rfl ?_
 (repeat refine EvC.seq ?_); refine EvC.reg ?_; simp (disch := first | omega | rfl) only [sB, initTm, dBox, Value.cells, one, reduceCtorEq]
 have hx0 := (HX.refl hw).new (some (.row [.bool neg, .slice a L.length c] 127))
 obtain ⟨H1, hH1⟩ : ∃ H1, H1 = H.new (some (.row [.bool neg, .slice a L.length c] 127)) := ⟨_, rfl⟩
 have hlb : H1.load ⟨H.next, 0, none⟩ 1 = some [.bool neg] := by rw [hH1]; exact z2t
 have hls : H1.load ⟨H.next, 1, none⟩ 1 = some [.slice a L.length c] := by rw [hH1]; exact z2t
 rw [← hH1] at hx0 ⊢
 have hw1 := hx0.wf
 by_cases h0 : L.length = 0
 ·have hM : L = [] := List.length_eq_zero_iff.1 h0
  subst hM
  repeat' (first | refine EvC.seq ?_ | refine EvC.scope ?_ | refine EvC.block ?_ | (refine EvC.skip ?_) | (refine EvC.exit ?_) | (refine EvC.ret ?_; try simp only [z01, z00]) | (refine EvC.reg ?_; simp (disch := first | omega | rfl) only [sB, Nat.reduceEqDiff, reduceCtorEq, zh7, ld84, ln84, hls, z0j]) | (refine EvC.condT ?_ ?_; simp (disch := first | omega | rfl) only [sB, Nat.reduceEqDiff, reduceCtorEq]; refine z06 ?_))
  refine z05 rfl (by simp only [sB, Nat.reduceEqDiff, reduceCtorEq] <;> rfl) ⟨⟨_, rfl, ?_⟩, hx0⟩
  rw [← hval]; rfl
 have hnz := z6e (B := 2) (by omega) (fun h => h0 (by rw [h]; rfl)) hlast
 rw [hval] at hnz
 have hLc : L.length ≤ c := by simpa using r.len
 repeat' (first | refine EvC.seq ?_ | refine EvC.scope ?_ | refine EvC.block ?_ | (refine EvC.skip ?_; try simp only [z02]) | (refine EvC.exit ?_) | (refine EvC.ret ?_; try simp only [z01, z00]) | (refine EvC.reg ?_; simp (disch := first | omega | rfl) only [sB, Nat.reduceEqDiff, reduceCtorEq, zh7, ld84, ln84, hls, z0l]) | (refine EvC.condT ?_ ?_; simp (disch := first | omega | rfl) only [sB, Nat.reduceEqDiff, reduceCtorEq]; refine z06 ?_) | (refine EvC.condF ?_ ?_; simp (disch := first | omega | rfl) only [sB, Nat.reduceEqDiff, reduceCtorEq]; refine z06 ?_))
 have hr1 := r.keep hx0 hw
 refine EvC.loop (fun k st => ∃ (tm : Tr Value) (M od : List Nat) (a : Option Addr) (c : Nat) (v5 : Value) (Hc : Heap), st = ⟨tm, [], Hc⟩ ∧ k = valB 2 M ∧ (∀ y ∈ M, y < 2) ∧ M.length ≤ 4096 ∧ M.getLast? ≠ some 0 ∧ decR n = od ++ decR (valB 2 M) ∧ (M ≠ [] → valB 2 M * 10 ^ od.length ≤ n) ∧ od.length ≤ 4096 ∧
   (∀ y ∈ od, y < 10) ∧ HX H1 Hc ∧ RdS Hc (M.map i64V) a c ∧ (M ≠ [] → ∀ b o s, a = some ⟨b, o, s⟩ → b < H1.next ∨ ∃ cs, Hc.get b = some (.row cs 3)) ∧ RepO Hc 5 1 H1.next (od.map fun x => [u8V (48 + x)]) v5 ∧ tm.get 1 = some (.int .i64 10) ∧ tm.get 2 = some (.pointer (some ⟨H.next, 0, none⟩)) ∧
   tm.get 5 = some v5 ∧ tm.get 6 = some (.slice a M.length c)) ?_ (valB 2 L) _ ?_
 ·clear hr1
  rintro k st ⟨tm, M, od, a, c, v5, Hc, rfl, rfl, hMb, hMl, hMn, hdec, hle, hol, hod, hxc, hrM, hra, hr7, g1, g2, g7, g6⟩
  have hMc : M.length ≤ c := by simpa using hrM.len
  by_cases hM0 : M = []
  ·subst hM0
   have hlbc := hxc.load hw1 hlb
   have hdec' : decR n = od := by rw [hdec]; simp [valB, zb2]
   repeat' (first | refine EvC.seq ?_ | refine EvC.scope ?_ | refine EvC.block ?_ | (refine EvC.skip ?_) | (refine EvC.exit ?_; try simp only [sB]) | (refine EvC.ret ?_; try simp only [z01, z00]) | (refine EvC.reg ?_; simp (disch := first | omega | rfl) only [sB, Nat.reduceEqDiff, ln84, zm0, ld4, g2, g6, hlbc, decide_eq_false]) | (refine EvC.condT ?_ ?_; simp (disch := first | omega | rfl) only [sB, Nat.reduceEqDiff]; refine z06 ?_) | (refine EvC.condF ?_ ?_; simp (disch := first | omega | rfl) only [sB, Nat.reduceEqDiff]; refine z06 ?_))
   refine EvC.join (fun st => ∃ tm o v Hd, st = ⟨tm, [], Hd⟩ ∧ o = (od.map fun x => 48 + x) ++ (if neg then [45] else []) ∧ HX H1 Hd ∧ RepO Hd 5 1 H1.next (o.map fun x => [u8V x]) v ∧ tm.get 5 = some v) ?_ ?_
   ·cases neg with
    | true =>
     obtain ⟨H5, v5, hap, hr7b, -, hx5, -⟩ := hr7.push zh6 (y := [u8V 45]) rfl rfl (by simp [most]; omega) hxc.next
     have h45 : u8V 45 = .int .u8 45 := rfl
     rw [h45] at hap
     refine EvC.condT (by simp only [sB, Nat.reduceEqDiff] <;> rfl) ?_
     repeat' (first | refine EvC.seq ?_ | refine EvC.scope ?_ | refine EvC.block ?_ | (refine EvC.skip ?_) | (refine EvC.exit ?_) | (refine EvC.ret ?_; try simp only [z01, z00]) | (refine EvC.reg ?_; simp (disch := first | omega | rfl) only [sB, Nat.reduceEqDiff, Value.cells, one, layC, z7e, g7, hap]))
     refine ⟨_, _, _, _, rfl, rfl, hx5 _ hxc (Nat.le_refl _), ?_, (by simp only [sB, Nat.reduceEqDiff] <;> rfl)⟩
     first | (rw [List.map_append, List.map_map]; exact hr7b) | (simp only [if_true, List.map_append, List.map_map]; exact hr7b)
    | false =>
     refine EvC.condF (by simp only [sB, Nat.reduceEqDiff] <;> rfl) ?_
     repeat' (first | refine EvC.seq ?_ | refine EvC.scope ?_ | refine EvC.block ?_ | (refine EvC.skip ?_; try simp only [sB, reduceCtorEq]) | (refine EvC.exit ?_) | (refine EvC.ret ?_; try simp only [z01, z00]))
     exact ⟨_, _, _, _, rfl, rfl, hxc, by first | (rw [List.append_nil, List.map_map]; exact hr7) | (simp only [Bool.false_eq_true, if_false, List.append_nil, List.map_map]; exact hr7), (by simp only [sG, Nat.reduceEqDiff, g7] <;> rfl)⟩
   clear g1 g2 g6 g7 hr7 hxc hlbc tm
   rintro st ⟨tm, o, v, Hd, rfl, ho', hxc, hr7, g7⟩
   have hob : ∀ y ∈ o, y < 256 := by
    intro y hy
    rw [ho'] at hy
    rcases List.mem_append.1 hy with h | h
    ·obtain ⟨x, hx, rfl⟩ := List.mem_map.1 h
     have := hod x hx; omega
    ·cases neg <;> simp at h
     omega
   have hon : 0 < o.length := by
    have : od ≠ [] := by rw [← hdec', z6d hnz]; simp
    rw [ho', List.length_append, List.length_map]
    have := List.length_pos_iff.2 this
    omega
   have hol2 : o.length ≤ 4097 := by
    rw [ho', List.length_append, List.length_map]
    cases neg <;> simp <;> omega
   have htx : textD neg n = o.reverse := by
    unfold textD
    rw [if_neg hnz, hdec', ho']
   obtain ⟨b7, c7, ho7, rfl⟩ := hr7.own (by intro h; rw [List.map_eq_nil_iff] at h; rw [h] at hon; simp at hon)
   rw [List.length_map] at g7
   repeat' (first | refine EvC.seq ?_ | refine EvC.scope ?_ | refine EvC.block ?_ | (refine EvC.skip ?_) | (refine EvC.exit ?_) | (refine EvC.ret ?_; try simp only [z01, z00]) | (refine EvC.reg ?_; simp (disch := first | omega | rfl) only [sB, Nat.reduceEqDiff, znj, g7, z0c]))
   have hxw := hxc.wf
   refine EvC.loop (fun k st => ∃ (tm : Tr Value) (v : Value) (He : Heap), st = ⟨tm, [], He⟩ ∧ k ≤ o.length ∧ HX Hd He ∧ RepO He 5 1 Hd.next ((o.drop k).reverse.map fun x => [u8V x]) v ∧ tm.get 5 = some (.slice (some ⟨b7, 0, none⟩) o.length c7) ∧ tm.get 10 = some v ∧ tm.get 11 = some (.int .i64 ((k : Int) - 1))) ?_ o.length _ ?_
   ·clear g7 tm
    rintro k st ⟨tm, v, He, rfl, hk, hxe, hre, g5, g10, g11⟩
    have ho8 := ho7.keep hxe
    cases k with
    | zero =>
     rw [List.drop_zero] at hre
     obtain ⟨b9, c9, ho9, rfl⟩ := hre.own (by intro h; rw [List.map_eq_nil_iff, List.reverse_eq_nil_iff] at h; rw [h] at hon; simp at hon)
     rw [List.length_map, List.length_reverse] at g10
     have hrd : RdS He (o.reverse.map u8V) (some ⟨b9, 0, none⟩) c9 := OwnS.rds (by rw [List.map_map]; exact ho9)
     obtain ⟨b8, o8, h8, hload⟩ := hrd.all (by intro h; rw [List.map_eq_nil_iff, List.reverse_eq_nil_iff] at h; rw [h] at hon; simp at hon)
     cases h8
     rw [List.length_map, List.length_reverse] at hload
     obtain ⟨t, hdb, ht⟩ := z8d (c := c9) (l := o.reverse) hload (by omega)
     have hcon := z8b (P := Tryd.prog) (src := 137) (dst := 9) (e := 5) (by kernel_rfl) (by kernel_rfl) (by kernel_rfl) hdb
     repeat' (first | refine EvC.seq ?_ | refine EvC.scope ?_ | refine EvC.block ?_ | (refine EvC.skip ?_) | (refine EvC.exit ?_; try simp only [sB]) | (refine EvC.ret ?_; try simp only [z01, z00]) | (refine EvC.reg ?_; simp (disch := first | omega | rfl) only [sB, Nat.reduceEqDiff, g10, g11, hcon, decide_eq_false]) | (refine EvC.condT ?_ ?_; simp (disch := first | omega | rfl) only [sB, Nat.reduceEqDiff]; refine z06 ?_) | (refine EvC.condF ?_ ?_; simp (disch := first | omega | rfl) only [sB, Nat.reduceEqDiff]; refine z06 ?_))
     refine z05 rfl (by simp only [sG, Nat.reduceEqDiff] <;> rfl) ⟨⟨t, rfl, ?_⟩, (hx0.trans hxc).trans hxe⟩
     unfold bl
     rw [ht, List.map_map, htx]
     exact zfi _ fun y hy => hob y (List.mem_reverse.1 hy)
    | succ j =>
     have e0 : (((j + 1 : Nat) : Int) - 1) = (j : Int) := by omega
     rw [e0] at g11
     have hx : o[j]? = some o[j] := List.getElem?_eq_getElem (by omega)
     have hdr : o.drop j = o[j] :: o.drop (j + 1) := List.drop_eq_getElem_cons (by omega)
     generalize o[j] = x at hx hdr
     have hld := ho8.load (i := j) (x := [u8V x]) (by rw [List.getElem?_map, hx]; rfl)
     rw [Nat.mul_one] at hld
     obtain ⟨H5, v5, hap, hre5, -, hx5, -⟩ := hre.push zh6 (y := [u8V x]) rfl rfl (by simp [most]; omega) hxe.next
     unfold u8V at hap hld
     repeat' (first | refine EvC.seq ?_ | refine EvC.scope ?_ | refine EvC.block ?_ | (refine EvC.skip ?_; try simp only [z02]) | (refine EvC.exit ?_) | (refine EvC.ret ?_; try simp only [z01, z00]) | (refine EvC.reg ?_; simp (disch := first | omega | rfl) only [sB, Nat.reduceEqDiff, Value.cells, one, layC, z7e, znk, ld5, g5, g10, g11, hld, hap, decide_eq_true, z0c]) | (refine EvC.condT ?_ ?_; simp (disch := first | omega | rfl) only [sB, Nat.reduceEqDiff]; refine z06 ?_))
     refine ⟨j, by omega, _, _, _, rfl, by omega, hx5 _ hxe (Nat.le_refl _), ?_, (by simp only [sG, Nat.reduceEqDiff, g5] <;> rfl), (by simp only [sB, Nat.reduceEqDiff] <;> rfl), (by simp only [sG, Nat.reduceEqDiff] <;> rfl)⟩
     have : (o.drop j).reverse.map (fun x => [u8V x]) = (o.drop (j + 1)).reverse.map (fun x => [u8V x]) ++ [[u8V x]] := by rw [hdr]; simp
     rw [this]; exact hre5
   ·exact ⟨_, _, _, rfl, Nat.le_refl _, HX.refl hxw, by rw [List.drop_length]; exact RepO.empty, (by simp only [sG, Nat.reduceEqDiff, g7] <;> rfl), (by simp only [sG, Nat.reduceEqDiff] <;> rfl), (by simp only [sG, Nat.reduceEqDiff] <;> rfl)⟩
  ·have hM1 : 0 < M.length := List.length_pos_iff.2 hM0
   have hvM := z6e (B := 2) (by omega) hM0 hMn
   have hmost : M.length ≤ most := by simp [most]; omega
   have hmax : M.length ≤ maxLen := Nat.le_trans hMl (by simp [maxLen])
   repeat' (first | refine EvC.seq ?_ | refine EvC.scope ?_ | refine EvC.block ?_ | (refine EvC.skip ?_; try simp only [z02]) | (refine EvC.exit ?_) | (refine EvC.ret ?_; try simp only [z01, z00]) | (refine EvC.reg ?_; simp (disch := first | omega | rfl) only [sB, Nat.reduceEqDiff, ln84, g6, decide_eq_true, z0c, z75 mk84 hmost, z9a]) | (refine EvC.condT ?_ ?_; simp (disch := first | omega | rfl) only [sB, Nat.reduceEqDiff]; refine z06 ?_))
   have hxq := (HX.refl hxc.wf).new (some (.row (List.replicate M.length (Value.int .i64 0)) 3))
   have hoq := OwnS.ones (H := Hc.new (some (.row (List.replicate M.length (Value.int .i64 0)) 3))) (base := Hc.next) (c := M.length) z0n (Nat.le_refl _) (Nat.lt_succ_self _) (by simp) hmax (by simp [one])
   refine EvC.loop (fun k st => ∃ (tm : Tr Value) (q : List Nat) (r : Nat) (Hd : Heap), st = ⟨tm, [], Hd⟩ ∧ k ≤ M.length ∧ q.length = M.length - k ∧ (∀ y ∈ q, y < 2) ∧ r < 10 ∧ valB 2 (M.take k) + 2 ^ k * (10 * valB 2 q + r) = valB 2 M ∧ HX Hc Hd ∧
    OwnS Hd 3 1 Hc.next ((List.replicate k 0 ++ q).map fun x => [i64V x]) Hc.next M.length ∧ tm.get 1 = some (.int .i64 10) ∧ tm.get 2 = some (.pointer (some ⟨H.next, 0, none⟩)) ∧
    tm.get 5 = some v5 ∧ tm.get 6 = some (.slice a M.length c) ∧ tm.get 7 = some (.int .i64 (r : Nat)) ∧ tm.get 8 = some (.slice (some ⟨Hc.next, 0, none⟩) M.length M.length) ∧ tm.get 9 = some (.int .i64 ((k : Int) - 1))) ?_ M.length _ ?_
   ·clear g1 g2 g6 g7 tm
    rintro k st ⟨tm, q, r, Hd, rfl, hk, hq, hqb, hr, hinv, hxd, hoq, g1, g2, g5, g6, g7, g8, g9⟩
    cases k with
    | zero =>
     rw [List.replicate_zero, List.nil_append] at hoq
     simp only [List.take_zero, valB, Nat.pow_zero, Nat.one_mul, Nat.zero_add] at hinv
     have hqM : q.length = M.length := by omega
     repeat' (first | refine EvC.seq ?_ | refine EvC.scope ?_ | refine EvC.block ?_ | (refine EvC.skip ?_) | (refine EvC.exit ?_; try simp only [sB, Nat.reduceEqDiff, reduceCtorEq]) | (refine EvC.ret ?_; try simp only [z01, z00]) | (refine EvC.reg ?_; simp (disch := first | omega | rfl) only [sB, Nat.reduceEqDiff, cl99, g8, g9, decide_eq_false]) | (refine EvC.condT ?_ ?_; simp (disch := first | omega | rfl) only [sB, Nat.reduceEqDiff]; refine z06 ?_) | (refine EvC.condF ?_ ?_; simp (disch := first | omega | rfl) only [sB, Nat.reduceEqDiff]; refine z06 ?_))
     have hrq : RdS Hd (q.map i64V) (some ⟨Hc.next, 0, none⟩) M.length := OwnS.rds (by rw [List.map_map]; exact hoq)
     have hct := zhe (ok := okT) (fun _ _ => rfl) (by decide) hrq
     rw [hqM] at hct
     refine hct.mono ?_
     rintro v H' ⟨m, rfl, hm, hz, hn0, rfl⟩
     have hmost2 : od.length + 1 ≤ most := by
      have := z43 (e := mostBits) hvM (hle hM0) (by rw [← z63]; exact hn)
      simp [mostBits] at this
      simp [most]; omega
     have hr7d := hr7.keep hxd
     have hx1d := hxc.trans hxd
     obtain ⟨H5, v5', hap, hr7b, hn5, hx5, hk5⟩ := hr7d.push zh6 (y := [u8V (48 + r)]) rfl rfl (by simpa using hmost2) hx1d.next
     unfold u8V at hap
     repeat' (first | refine EvC.seq ?_ | refine EvC.scope ?_ | refine EvC.block ?_ | (refine EvC.skip ?_) | (refine EvC.exit ?_) | (refine EvC.ret ?_; try simp only [z01, z00]) | (refine EvC.reg ?_; simp (disch := first | omega | rfl) only [sB, Nat.reduceEqDiff, g5, g7]))
     rw [z13 us9 (show r < _ from by show _ < 36; omega), zhg (by decide) hr]
     repeat' (first | refine EvC.seq ?_ | refine EvC.scope ?_ | refine EvC.block ?_ | (refine EvC.skip ?_) | (refine EvC.exit ?_) | (refine EvC.ret ?_; try simp only [z01, z00]) | (refine z0i ?_; simp (disch := first | omega | rfl) only [sB, Nat.reduceEqDiff, Value.cells, one, layC, z7e, hap]))
     have hvq : valB 2 (q.take m) = valB 2 q := z3t hz
     have hq10 : valB 2 q = valB 2 M / 10 := by omega
     have hr10 : r = valB 2 M % 10 := by omega
     have hod2 : ((od ++ [r]).map fun x => [u8V (48 + x)]) = (od.map fun x => [u8V (48 + x)]) ++ [[u8V (48 + r)]] := by simp
     have hml : (q.take m).length = m := by rw [List.length_take, Nat.min_eq_left (by omega)]
     obtain ⟨csq, hgq, _⟩ := hoq.row
     have hgq5 : H5.get Hc.next = some (.row csq 3) := by rw [hk5 _ hoq.hi (fun cs h => by rw [hgq] at h; cases h)]; exact hgq
     have hrq5 : RdS H5 ((q.take m).map i64V) (some ⟨Hc.next, 0, none⟩) M.length := by
      have h1 := (hrq.take m)
      rw [← List.map_take] at h1
      exact zjm h1 fun _ b o s hb => by cases hb; rw [hgq5, hgq]
     refine ⟨valB 2 (q.take m), by rw [hvq]; omega, _, q.take m, od ++ [r], some ⟨Hc.next, 0, none⟩, M.length, _, _, rfl, rfl, fun y hy => hqb y (List.mem_of_mem_take hy), by rw [hml]; omega, ?_, ?_, ?_, ?_, ?_, hx5 _ hx1d (Nat.le_refl _), hrq5, fun _ b o s hb => .inr ⟨csq, by cases hb; exact hgq5⟩, by rw [hod2]; exact hr7b, (by simp only [sG, Nat.reduceEqDiff, g1] <;> rfl), (by simp only [sG, Nat.reduceEqDiff, g2] <;> rfl), (by simp only [sG, Nat.reduceEqDiff] <;> rfl), by rw [hml]; first | (simp only [sG, Nat.reduceEqDiff]; rfl) | simp only [sG, Nat.reduceEqDiff]⟩
     ·rw [List.getLast?_eq_getElem?, hml]
      by_cases h0 : m = 0
      ·subst h0; simp
      ·rw [List.getElem?_take, if_pos (by omega)]; exact hn0 h0
     ·rw [hdec, z6d hvM, hvq, hq10, ← hr10]; simp
     ·intro _
      rw [hvq, List.length_append, List.length_singleton, Nat.pow_succ]
      have h1 := hle hM0
      have h2 : valB 2 q * (10 ^ od.length * 10) = (valB 2 q * 10) * 10 ^ od.length := by rw [Nat.mul_comm (10 ^ od.length) 10, Nat.mul_assoc]
      rw [h2]
      exact Nat.le_trans (Nat.mul_le_mul_right _ (by omega)) h1
     ·have := z43 (e := mostBits) hvM (hle hM0) (by rw [← z63]; exact hn)
      simp [mostBits] at this
      simp; omega
     ·intro y hy
      rcases List.mem_append.1 hy with h | h
      ·exact hod y h
      ·simp at h; omega
    | succ j =>
     have e0 : (((j + 1 : Nat) : Int) - 1) = (j : Int) := by omega
     rw [e0] at g9
     have hx : M[j]? = some M[j] := List.getElem?_eq_getElem (by omega)
     have hxb : M[j] < 2 := hMb _ (List.getElem_mem _)
     have htk : M.take (j + 1) = M.take j ++ [M[j]] := by rw [List.take_add_one, hx]; rfl
     generalize M[j] = x at hx hxb htk
     rw [htk] at hinv
     have hlj : (M.take j).length = j := by rw [List.length_take]; omega
     obtain ⟨b, o, rfl, hld⟩ := (hrM.keep hxd hxc.wf).get j (i64V x) (by simp [hx])
     unfold i64V at hld
     have e1 : (2 * (r : Int) + (x : Int)) = ((r * 2 + x : Nat) : Int) := by omega
     have hinv2 := zhc (B := 2) (x := x) (r := r) (low := M.take j) (q := q)
     rw [hlj, hinv] at hinv2
     obtain ⟨csq, hgq, hclq, _⟩ := hoq.row
     have hlq : ((List.replicate (j + 1) 0 ++ q).map fun x => [i64V x]).length = M.length := by simp; omega
     rw [hlq, Nat.mul_one] at hclq
     have hk1 : j + 1 ≤ csq.length := by omega
     have hrep : List.replicate (j + 1) 0 ++ q = List.replicate j 0 ++ (0 :: q) := by rw [List.replicate_succ']; simp
     by_cases hge : 10 ≤ r * 2 + x
     ·have e2 : (((r * 2 + x : Nat) : Int) - 10) = ((r * 2 + x - 10 : Nat) : Int) := by omega
      repeat' (first | refine EvC.seq ?_ | refine EvC.scope ?_ | refine EvC.block ?_ | (refine EvC.skip ?_; try simp only [z02]) | (refine EvC.exit ?_) | (refine EvC.ret ?_; try simp only [z01, z00]) | (refine EvC.reg ?_; simp (disch := first | omega | rfl) only [sB, Nat.reduceEqDiff, one, ia84, ld3, st3, g1, g6, g7, g8, g9, hld, e1, e2, hgq, hk1, decide_eq_true, z0c]) | (refine EvC.condT ?_ ?_; simp (disch := first | omega | rfl) only [sB, Nat.reduceEqDiff]; refine z06 ?_))
      have hset := hoq.set hgq (i := j) (y := [i64V 1]) (by rw [hlq]; omega) rfl rfl
      rw [Nat.mul_one] at hset
      have hset2 : ((List.replicate (j + 1) 0 ++ q).map fun x => [i64V x]).set j [i64V 1] = (List.replicate j 0 ++ (1 :: q)).map fun x => [i64V x] := by
       rw [hrep, List.map_append, List.set_append_right _ _ (by simp), List.length_map, List.length_replicate, Nat.sub_self]
       simp
      rw [hset2] at hset
      have h1 : (r * 2 + x) / 10 = 1 := by omega
      have h2 : (r * 2 + x) % 10 = r * 2 + x - 10 := by omega
      rw [h1, h2] at hinv2
      exact ⟨j, by omega, _, 1 :: q, r * 2 + x - 10, _, rfl, by omega, by simp; omega, by simpa using hqb, by omega, hinv2.symm, hxd.put hoq.lo hoq.hi _, hset, (by simp only [sG, Nat.reduceEqDiff, g1] <;> rfl), (by simp only [sG, Nat.reduceEqDiff, g2] <;> rfl), (by simp only [sG, Nat.reduceEqDiff, g5] <;> rfl), (by simp only [sG, Nat.reduceEqDiff, g6] <;> rfl), (by simp only [sG, Nat.reduceEqDiff] <;> rfl), (by simp only [sG, Nat.reduceEqDiff, g8] <;> rfl), (by simp only [sG, Nat.reduceEqDiff] <;> rfl)⟩
     ·repeat' (first | refine EvC.seq ?_ | refine EvC.scope ?_ | refine EvC.block ?_ | (refine EvC.skip ?_; try simp only [sA]) | (refine EvC.exit ?_) | (refine EvC.ret ?_; try simp only [z01, z00]) | (refine EvC.reg ?_; simp (disch := first | omega | rfl) only [sB, Nat.reduceEqDiff, ia84, ld3, g1, g6, g7, g9, hld, e1, decide_eq_true, decide_eq_false, z0c]) | (refine EvC.condT ?_ ?_; simp (disch := first | omega | rfl) only [sB, Nat.reduceEqDiff]; refine z06 ?_) | (refine EvC.condF ?_ ?_; simp (disch := first | omega | rfl) only [sB, Nat.reduceEqDiff]; refine z06 ?_))
      have h1 : (r * 2 + x) / 10 = 0 := by omega
      have h2 : (r * 2 + x) % 10 = r * 2 + x := by omega
      rw [h1, h2] at hinv2
      exact ⟨j, by omega, _, 0 :: q, r * 2 + x, _, rfl, by omega, by simp; omega, by simpa using hqb, by omega, hinv2.symm, hxd, by rw [← hrep]; exact hoq, (by simp only [sG, Nat.reduceEqDiff, g1] <;> rfl), (by simp only [sG, Nat.reduceEqDiff, g2] <;> rfl), (by simp only [sG, Nat.reduceEqDiff, g5] <;> rfl), (by simp only [sG, Nat.reduceEqDiff, g6] <;> rfl), (by simp only [sG, Nat.reduceEqDiff] <;> rfl), (by simp only [sG, Nat.reduceEqDiff, g8] <;> rfl), (by simp only [sG, Nat.reduceEqDiff] <;> rfl)⟩
   ·refine ⟨_, [], 0, _, rfl, Nat.le_refl _, by simp, by simp, by omega, by simp [valB], hxq, ?_, (by simp only [sG, Nat.reduceEqDiff, g1] <;> rfl), (by simp only [sG, Nat.reduceEqDiff, g2] <;> rfl), (by simp only [sG, Nat.reduceEqDiff, g7] <;> rfl), (by simp only [sG, Nat.reduceEqDiff, g6] <;> rfl), (by simp only [sB, Nat.reduceEqDiff] <;> rfl), (by simp only [sG, Nat.reduceEqDiff] <;> rfl), (by simp only [sG, Nat.reduceEqDiff] <;> rfl)⟩
    have : (List.replicate M.length 0 ++ []).map (fun x => [i64V x]) = (List.replicate M.length (Value.int .i64 0)).map fun v => [v] := by simp [i64V]
    rw [this]; exact hoq
 ·exact ⟨_, L, [], a, c, _, _, rfl, rfl, hL, hlen, hlast, by rw [hval]; rfl, fun _ => by rw [hval]; simp, by simp, by simp, HX.refl hw1, hr1, fun hne b o s ha => .inl (by have h1 := znr r hw (by simpa using hne) ha; have h2 := hx0.next; exact Nat.lt_of_lt_of_le h1 h2), RepO.empty, (by simp only [sG, Nat.reduceEqDiff, reduceCtorEq] <;> rfl), (by simp only [sG, Nat.reduceEqDiff, reduceCtorEq] <;> rfl), (by simp only [sG, Nat.reduceEqDiff, reduceCtorEq] <;> rfl), (by simp only [sG, Nat.reduceEqDiff, reduceCtorEq] <;> rfl)⟩
end Go.Proofs.hq
end

section
namespace Go.Proofs.hq
open Go Go.RowKit Go.Hb
theorem zl5 : callable Tryd.prog 51 = true := by kernel_rfl
theorem z4n : isAgg? Tryd.prog 25 = some true := by kernel_rfl
theorem z5s : isAgg? Tryd.prog 23 = some false := by kernel_rfl
theorem z1p : Tryd.prog.cellsOf 25 = 6 := by kernel_rfl
theorem z8i : (Tryd.prog.info? 25).isSome = true := by kernel_rfl
theorem z1w : fldOf Tryd.prog 25 5 = some (5, 23) := by kernel_rfl
theorem z5d : Nat.beq (Tryd.prog.cellsOf 23) 0 = false := by kernel_rfl
theorem zl6 : zerosOf Tryd.prog 25 = some [.int .i64 0, .string ByteArray.empty, .string ByteArray.empty, .int .u64 0, .int .i64 0, .slice none 0 0] := by kernel_rfl
mutual
def cnt : Tm → Nat → Nat
 | .mk _ _ _ _ _ l, n => cntL l (n + 1)
def cntL : List Tm → Nat → Nat
 | [], n => n
 | t :: l, n => if 4000 < n then n else cntL l (cnt t n)
end
theorem zec {t : Tm} {k : Int} {s u : ByteArray} {b v : Int} {l : List Tm} (h : t ∈ l) : SizeOf.sizeOf t < SizeOf.sizeOf (Tm.mk k s u b v l) := by
 have := List.sizeOf_lt_of_mem h
 simp; omega
theorem z1g {t u : Tm} {i : Nat} (h : t.args[i]? = some u) : SizeOf.sizeOf u < SizeOf.sizeOf t := by
 obtain ⟨k, s, w, b, v, l⟩ := t
 exact zec (List.mem_of_getElem? h)
theorem z3h (t : Tm) (n : Nat) : cnt t n = cntL t.args (n + 1) := by
 obtain ⟨k, s, w, b, v, l⟩ := t
 rw [cnt]; rfl
theorem zhi : ∀ (l : List Tm), (∀ t ∈ l, ∀ n, n ≤ 4000 → cnt t n ≤ 4001) → ∀ n, n ≤ 4001 → cntL l n ≤ 4001
 | [], _, n, h => by rw [cntL]; exact h
 | t :: l, ht, n, h => by
  rw [cntL]
  split
  ·exact h
  ·exact zhi l (fun u hu => ht u (List.mem_cons_of_mem _ hu)) _ (ht t (by simp) n (by omega))
theorem z8j : ∀ (m : Nat) (t : Tm), SizeOf.sizeOf t < m → ∀ n, n ≤ 4000 → cnt t n ≤ 4001
 | 0, t, h, _, _ => by omega
 | m + 1, t, h, n, hn => by
  rw [z3h]
  refine zhi _ (fun u hu k hk => z8j m u ?_ k hk) _ (by omega)
  obtain ⟨i, hi, e⟩ := List.getElem_of_mem hu
  have := z1g (t := t) (u := u) (i := i) (by rw [List.getElem?_eq_getElem hi, e])
  omega
theorem zb4 {l : List Tm} {i : Nat} {t : Tm} (h : l[i]? = some t) (n : Nat) (hn : n ≤ 4000) : cntL (l.drop i) n = cntL (l.drop (i + 1)) (cnt t n) := by
 have hlt := (List.getElem?_eq_some_iff.1 h).1
 have he : l[i] = t := (List.getElem?_eq_some_iff.1 h).2
 rw [List.drop_eq_getElem_cons hlt, cntL, if_neg (by omega), he]
theorem zb5 {l : List Tm} {n : Nat} (hn : 4000 < n) : cntL l n = n := by
 cases l with
 | nil => rw [cntL]
 | cons t l => rw [cntL, if_pos hn]
variable {ok : Ok}
set_option maxRecDepth 10000 in
theorem zjo (hk : ∀ args H, ok.K 51 args H = none) (hm : ok.testBit 51 = true) : ∀ (m : Nat) {t : Tm} {cs : List Value} {H : Heap}, SizeOf.sizeOf t < m → RepT H t cs → H.wf → ∀ n : Nat, n ≤ 4000 →
  EvF Tryd.prog ok 51 [.agg ⟨cs⟩, .int .i64 n] H fun v H' => v = .int .i64 (cnt t n) ∧ HX H H' := by
 intro m
 induction m with
 | zero => intro t cs H h; omega
 | succ m ih =>
 intro t cs H hsz r hw n hn
 obtain ⟨a, c, cells, rfl, b1, b2, b3, b4, b5, rl⟩ := r.inv
 refine EvF.enter (hk _ _) Tryd.func51 hm rfl ?_
 refine EvC.seq (EvC.reg ?_)
 simp (disch := omega) only [sB, initTm, dBox, Value.cells, one, reduceCtorEq]
 refine EvC.seq (EvC.reg ?_)
 simp (disch := omega) only [sB, Nat.reduceEqDiff, reduceCtorEq, z0c]
 refine EvC.seq (EvC.seq (EvC.reg ?_))
 simp (disch := omega) only [sB, Nat.reduceEqDiff, reduceCtorEq, cutC, z04 z1w z5d, z08 z5s, z0s Tryd.underlying23]
 refine EvC.block (EvC.loop (fun k st => ∃ tm H' i n', st = ⟨tm, [], H'⟩ ∧ k = t.args.length - i ∧ i ≤ t.args.length ∧ n' ≤ 4001 ∧ cntL (t.args.drop i) n' = cnt t n ∧ tm.get 1 = some (.int .i64 (n' : Nat)) ∧
  tm.get 10 = some (.slice a t.args.length c) ∧ tm.get 11 = some (.int .i64 t.args.length) ∧ tm.get 12 = some (.int .i64 (i : Nat)) ∧ HX H H') ?_ t.args.length _ ?_)
 ·rintro k st ⟨tm, H', i, n', rfl, hk', hi, hn', hc, g1, g10, g11, g12, hx⟩
  refine EvC.seq (EvC.reg ?_)
  simp (disch := omega) only [sA, g11, g12]
  refine EvC.seq ?_
  by_cases hlt : i < t.args.length
  ·refine EvC.condT (by simp only [sB]; exact congrArg _ (decide_eq_true (by omega))) (EvC.skip ?_)
   obtain ⟨b, o, rfl, hload, hrep⟩ := rl.at (i := i) (List.getElem?_eq_getElem hlt)
   obtain ⟨a', c', cells', hcell, -⟩ := hrep.inv
   have hld := hx.load hw hload
   rw [hcell] at hld hrep
   refine EvC.seq (EvC.block (EvC.seq (EvC.reg ?_)))
   simp (disch := omega) only [sB, dAlloc, Nat.reduceEqDiff, Nat.reduceAdd, one, g10, g12, z17 Tryd.underlying23 z8i hlt, z0u z4n, z1p, hld, zl6, z5n z8i]
   refine EvC.seq (EvC.seq (EvC.reg ?_))
   simp (disch := omega) only [sB, Nat.reduceEqDiff, g1]
   have hx2 := (hx.new (some (Blk.row [Value.int IntKind.i64 0, Value.string ByteArray.empty, Value.string ByteArray.empty, Value.int IntKind.u64 0, Value.int IntKind.i64 0, Value.slice none 0 0] 25))).put (i := H'.next) hx.next (Nat.lt_succ_self _)
    (some (.row [Value.int IntKind.i64 t.args[i].kind, Value.string t.args[i].name, Value.string t.args[i].num, Value.int IntKind.u64 t.args[i].bits, Value.int IntKind.i64 t.args[i].var, Value.slice a' t.args[i].args.length c'] 25))
   by_cases hov : 4000 < n'
   ·refine EvC.condT (by simp only [sB, Nat.reduceEqDiff]; exact congrArg _ (decide_eq_true (by omega))) (EvC.exit ?_)
    simp only [z2k, z1t, reduceIte, Nat.reduceEqDiff, z02]
    refine EvC.seq (EvC.reg ?_)
    simp (disch := omega) only [sB, Nat.reduceEqDiff, g1]
    refine EvC.ret (z05 rfl (by simp only [sG, Nat.reduceEqDiff]; rfl) ⟨?_, hx2⟩)
    rw [← hc, zb5 hov]
   ·refine EvC.condF (by simp only [sB, Nat.reduceEqDiff]; exact congrArg _ (decide_eq_false (by omega))) (EvC.skip ?_)
    simp only [z02]
    refine EvC.reg ?_
    simp (disch := omega) only [sB, Nat.reduceEqDiff, Nat.reduceAdd, cutC, g1, z0u z4n, z1p, z09 zl5]
    have ht : t.args[i]? = some t.args[i] := List.getElem?_eq_getElem hlt
    have hs := z1g ht
    have hx1 : HX H H' := hx
    refine (ih (t := t.args[i]) (by omega) (hrep.mono hx2 hw) hx2.wf n' (by omega)).mono ?_
    rintro v H2 ⟨rfl, hx3⟩
    have hL : t.args.length ≤ 9223372036854775807 := Nat.le_trans rl.len rl.cap
    refine EvC.reg ?_
    simp (disch := omega) only [sB, Nat.reduceEqDiff, g12, z0c]
    refine ⟨t.args.length - (i + 1), by omega, _, _, i + 1, cnt t.args[i] n', rfl, rfl, by omega, z8j _ _ (Nat.lt_succ_self _) _ (by omega), by rw [← hc, zb4 ht _ (by omega)], by simp only [sG, Nat.reduceEqDiff], by simp only [sG, Nat.reduceEqDiff]; exact g10, by simp only [sG, Nat.reduceEqDiff]; exact g11, by simp only [sG, Nat.reduceEqDiff]; rfl, hx2.trans hx3⟩
  ·refine EvC.condF (by simp only [sB]; exact congrArg _ (decide_eq_false (by omega))) (EvC.exit ?_)
   simp only [z2k, z1t, reduceIte, Nat.reduceEqDiff, z02]
   refine EvC.seq (EvC.reg ?_)
   simp (disch := omega) only [sB, Nat.reduceEqDiff, g1]
   refine EvC.ret (z05 rfl (by simp only [sG, Nat.reduceEqDiff]; rfl) ⟨?_, hx⟩)
   rw [← hc, List.drop_of_length_le (by omega), cntL]
 ·exact ⟨_, _, 0, n + 1, rfl, rfl, by omega, by omega, by rw [z3h]; rfl, by simp only [sG, Nat.reduceEqDiff, reduceCtorEq]; rfl, by simp only [sG, Nat.reduceEqDiff, reduceCtorEq], by simp only [sG, Nat.reduceEqDiff, reduceCtorEq], by simp only [sG, Nat.reduceEqDiff, reduceCtorEq]; rfl, (HX.refl hw).new _⟩
end Go.Proofs.hq
end

section
namespace Go.Proofs.hq
open Go Go.RowKit Go.Hb
theorem zl7 : callable Tryd.prog 67 = true := by kernel_rfl
theorem zns : callable Tryd.prog 28 = true := by kernel_rfl
theorem znt : callable Tryd.prog 52 = true := by kernel_rfl
variable {ok : Ok}
set_option maxRecDepth 10000 in
theorem zb6 (hk : ∀ args H, ok.K 67 args H = none) (hm : ok.testBit 67 = true) : ∀ (m : Nat) {t : Tm} {cs : List Value} {H : Heap}, SizeOf.sizeOf t < m → RepT H t cs → H.wf → ∀ n : Nat, n ≤ 4000 →
  EvF Tryd.prog ok 67 [.agg ⟨cs⟩, .int .i64 n] H fun v H' => v = .int .i64 (cnt t n) ∧ HX H H' := by
 intro m
 induction m with
 | zero => intro t cs H h; omega
 | succ m ih =>
 intro t cs H hsz r hw n hn
 obtain ⟨a, c, cells, rfl, b1, b2, b3, b4, b5, rl⟩ := r.inv
 refine EvF.enter (hk _ _) Tryd.func67 hm rfl ?_
 (repeat refine EvC.seq ?_); refine EvC.reg ?_
 simp (disch := omega) only [sB, initTm, dBox, Value.cells, one, reduceCtorEq]
 (repeat refine EvC.seq ?_); refine EvC.reg ?_
 simp (disch := omega) only [sB, Nat.reduceEqDiff, reduceCtorEq, z0c]
 (repeat refine EvC.seq ?_); refine EvC.reg ?_
 simp (disch := omega) only [sA]
 (repeat refine EvC.seq ?_); refine EvC.block (EvC.loop (fun k st => ∃ tm H' i n', st = ⟨tm, [], H'⟩ ∧ k = t.args.length - i ∧ i ≤ t.args.length ∧ n' ≤ 4001 ∧ cntL (t.args.drop i) n' = cnt t n ∧ tm.get 1 = some (.int .i64 (n' : Nat)) ∧
  tm.get 2 = some (.pointer (some ⟨H.next, 0, none⟩)) ∧ tm.get 5 = some (.int .i64 (i : Nat)) ∧
  H'.get H.next = some (.row [.int .i64 t.kind, .string t.name, .string t.num, .int .u64 t.bits, .int .i64 t.var, .slice a t.args.length c] 25) ∧ H.next < H'.next ∧ HX H H') ?_ t.args.length _ ?_)
 ·rintro k st ⟨tm, H', i, n', rfl, hk', hi, hn', hc, g1, g2, g5, hbox, hlt0, hx⟩
  have hld5 : H'.load ⟨H.next, 5, none⟩ 1 = some [.slice a t.args.length c] := by
   simp only [Heap.load, Heap.cells, hbox]; rfl
  (repeat refine EvC.seq ?_); refine EvC.reg ?_
  by_cases hlt : i < t.args.length
  ·obtain ⟨b, o, rfl, hload, hrep⟩ := rl.at (i := i) (List.getElem?_eq_getElem hlt)
   obtain ⟨a', c', cells', hcell, -⟩ := hrep.inv
   have hld := hx.load hw hload
   rw [hcell] at hld hrep
   have hd1 : decide ((i : Int) < (t.args.length : Int)) = true := decide_eq_true (by omega)
   simp (disch := omega) only [sB, Nat.reduceEqDiff, g1, g2, g5, z04 z1w z5d, z08 z5s, hld5, z0s Tryd.underlying23, hd1]
   by_cases hov : 4000 < n'
   ·(repeat refine EvC.seq ?_); refine EvC.condF (by simp only [sB, Nat.reduceEqDiff]; exact congrArg _ (decide_eq_false (by omega))) (EvC.exit ?_)
    simp only [z2k, z1t, reduceIte, z02]
    (repeat refine EvC.seq ?_); refine EvC.reg ?_
    simp (disch := omega) only [sB, Nat.reduceEqDiff, g1]
    refine EvC.ret (z05 rfl (by simp only [sG, Nat.reduceEqDiff]; rfl) ⟨?_, hx⟩)
    rw [← hc, zb5 hov]
   ·(repeat refine EvC.seq ?_); refine EvC.condT (by simp only [sB, Nat.reduceEqDiff]; exact congrArg _ (decide_eq_true (by omega))) (EvC.skip ?_)
    simp only [z02]
    (repeat refine EvC.seq ?_); refine EvC.block ?_; (repeat refine EvC.seq ?_); refine EvC.reg ?_
    simp (disch := omega) only [sB, Nat.reduceEqDiff, g1, g2, g5, z04 z1w z5d, z08 z5s, hld5, z17 Tryd.underlying23 z8i hlt, z0u z4n, z1p, hld, z09 zl7]
    have ht : t.args[i]? = some t.args[i] := List.getElem?_eq_getElem hlt
    have hs := z1g ht
    refine (ih (t := t.args[i]) (by omega) (hrep.mono hx hw) hx.wf n' (by omega)).mono ?_
    rintro v H2 ⟨rfl, hx3⟩
    have hL : t.args.length ≤ 9223372036854775807 := Nat.le_trans rl.len rl.cap
    refine EvC.reg ?_
    simp (disch := omega) only [sB, Nat.reduceEqDiff, g5, z0c]
    refine ⟨t.args.length - (i + 1), by omega, _, _, i + 1, cnt t.args[i] n', rfl, rfl, by omega, z8j _ _ (Nat.lt_succ_self _) _ (by omega), by rw [← hc, zb4 ht _ (by omega)], by simp only [sG, Nat.reduceEqDiff], by simp only [sG, Nat.reduceEqDiff]; exact g2, by simp only [sG, Nat.reduceEqDiff]; rfl,
     by rw [hx3.keep _ hlt0]; exact hbox, Nat.lt_of_lt_of_le hlt0 hx3.next, hx.trans hx3⟩
  ·have hd1 : decide ((i : Int) < (t.args.length : Int)) = false := decide_eq_false (by omega)
   simp (disch := omega) only [sB, Nat.reduceEqDiff, g2, g5, z04 z1w z5d, z08 z5s, hld5, z0s Tryd.underlying23, hd1, Bool.false_eq_true]
   (repeat refine EvC.seq ?_); refine EvC.condF (by simp only [sB, Nat.reduceEqDiff]) (EvC.exit ?_)
   simp only [z2k, z1t, reduceIte, z02]
   (repeat refine EvC.seq ?_); refine EvC.reg ?_
   simp (disch := omega) only [sB, Nat.reduceEqDiff, g1]
   refine EvC.ret (z05 rfl (by simp only [sG, Nat.reduceEqDiff]; rfl) ⟨?_, hx⟩)
   rw [← hc, List.drop_of_length_le (by omega), cntL]
 ·exact ⟨_, _, 0, n + 1, rfl, rfl, by omega, by omega, by rw [z3h]; rfl, by simp only [sG, Nat.reduceEqDiff, reduceCtorEq]; rfl, by simp only [sG, Nat.reduceEqDiff, reduceCtorEq], by simp only [sG, Nat.reduceEqDiff, reduceCtorEq]; rfl, by simp only [if_true, get_new], Nat.lt_succ_self _, (HX.refl hw).new _⟩
theorem zjp (hk : ∀ f args H, (f = 51 ∨ f = 28) → ok.K f args H = none) (hm : ok.testBit 51 = true) (hm2 : ok.testBit 28 = true) {t : Tm} {cs : List Value} {H : Heap} (r : RepT H t cs) (hw : H.wf) :
  EvF Tryd.prog ok 28 [.agg ⟨cs⟩] H fun v H' => v = .int .i64 (cnt t 0) ∧ HX H H' := by
 obtain ⟨a, c, cells, rfl, b1, b2, b3, b4, b5, rl⟩ := r.inv
 refine EvF.enter (hk _ _ _ (.inr rfl)) Tryd.func28 hm2 rfl ?_
 (repeat refine EvC.seq ?_); refine EvC.reg ?_
 simp (disch := omega) only [sB, initTm, dBox, Value.cells, one]
 (repeat refine EvC.seq ?_); refine EvC.reg ?_
 simp (disch := omega) only [sB, Nat.reduceEqDiff, Nat.reduceAdd, reduceCtorEq, cutC, z0u z4n, z1p, z09 zl5]
 have hx := (HX.refl hw).new (some (Blk.row [Value.int IntKind.i64 t.kind, Value.string t.name, Value.string t.num, Value.int IntKind.u64 t.bits, Value.int IntKind.i64 t.var, Value.slice a t.args.length c] 25))
 refine (zjo (hk 51 · · (.inl rfl)) hm _ (Nat.lt_succ_self _) (r.mono hx hw) hx.wf 0 (by omega)).mono ?_
 rintro v H2 ⟨rfl, hx3⟩
 have hle := z8j _ t (Nat.lt_succ_self _) 0 (by omega)
 have hif : (if (4001 : Int) < (cnt t 0 : Int) then (4001 : Int) else (cnt t 0 : Int)) = (cnt t 0 : Int) := if_neg (by omega)
 simp (disch := omega) only [sB, Nat.reduceEqDiff, reduceCtorEq, zlt, zlu, hif]
 exact EvC.ret (z05 rfl (by simp only [sG, Nat.reduceEqDiff, reduceCtorEq]) ⟨rfl, hx.trans hx3⟩)
theorem zb7 (hk : ∀ f args H, (f = 67 ∨ f = 52) → ok.K f args H = none) (hm : ok.testBit 67 = true) (hm2 : ok.testBit 52 = true) {t : Tm} {cs : List Value} {H : Heap} (r : RepT H t cs) (hw : H.wf) :
  EvF Tryd.prog ok 52 [.agg ⟨cs⟩] H fun v H' => v = .int .i64 (cnt t 0) ∧ HX H H' := by
 obtain ⟨a, c, cells, rfl, b1, b2, b3, b4, b5, rl⟩ := r.inv
 refine EvF.enter (hk _ _ _ (.inr rfl)) Tryd.func52 hm2 rfl ?_
 (repeat refine EvC.seq ?_); refine EvC.reg ?_
 simp (disch := omega) only [sB, initTm, dBox, Value.cells, one]
 (repeat refine EvC.seq ?_); refine EvC.reg ?_
 simp (disch := omega) only [sB, Nat.reduceEqDiff, Nat.reduceAdd, reduceCtorEq, cutC, z0u z4n, z1p, z09 zl7]
 have hx := (HX.refl hw).new (some (Blk.row [Value.int IntKind.i64 t.kind, Value.string t.name, Value.string t.num, Value.int IntKind.u64 t.bits, Value.int IntKind.i64 t.var, Value.slice a t.args.length c] 25))
 refine (zb6 (hk 67 · · (.inl rfl)) hm _ (Nat.lt_succ_self _) (r.mono hx hw) hx.wf 0 (by omega)).mono ?_
 rintro v H2 ⟨rfl, hx3⟩
 have hle := z8j _ t (Nat.lt_succ_self _) 0 (by omega)
 (repeat refine EvC.seq ?_); refine EvC.reg ?_
 simp (disch := omega) only [sB, Nat.reduceEqDiff, reduceCtorEq]
 by_cases hov : 4000 < cnt t 0
 ·refine EvC.condT (by simp only [sB, Nat.reduceEqDiff, reduceCtorEq]; exact congrArg _ (decide_eq_true (by omega))) ?_
  (repeat refine EvC.seq ?_); refine EvC.reg ?_
  simp (disch := omega) only [sA]
  refine EvC.ret ?_
  simp only [z01]
  exact z05 rfl (by simp only [sG, Nat.reduceEqDiff, reduceCtorEq]; rfl) ⟨by rw [show cnt t 0 = 4001 by omega]; first | done | rfl, hx.trans hx3⟩
 ·refine EvC.condF (by simp only [sB, Nat.reduceEqDiff, reduceCtorEq]; exact congrArg _ (decide_eq_false (by omega))) (EvC.skip ?_)
  simp only [z02]
  (repeat refine EvC.seq ?_); refine EvC.reg ?_
  simp (disch := omega) only [sB, Nat.reduceEqDiff, reduceCtorEq]
  exact EvC.ret (z05 rfl (by simp only [sG, Nat.reduceEqDiff, reduceCtorEq]) ⟨rfl, hx.trans hx3⟩)
end Go.Proofs.hq
end

section
namespace Go.Proofs.hq
open Go Go.RowKit Go.Hb
theorem z1q : fldOf Tryd.prog 25 0 = some (0, 3) := by kernel_rfl
theorem z1x : fldOf Tryd.prog 25 1 = some (1, 9) := by kernel_rfl
theorem z3u : fldOf Tryd.prog 25 2 = some (2, 9) := by kernel_rfl
theorem z3i : fldOf Tryd.prog 25 3 = some (3, 22) := by kernel_rfl
theorem z4o : fldOf Tryd.prog 25 4 = some (4, 3) := by kernel_rfl
theorem one3 : Nat.beq (Tryd.prog.cellsOf 3) 0 = false := by kernel_rfl
theorem one9 : Nat.beq (Tryd.prog.cellsOf 9) 0 = false := by kernel_rfl
theorem z9i : Nat.beq (Tryd.prog.cellsOf 22) 0 = false := by kernel_rfl
theorem z8k : Tryd.prog.cellsOf 3 = 1 := by kernel_rfl
theorem zhj : Tryd.prog.cellsOf 9 = 1 := by kernel_rfl
theorem zm5 : Tryd.prog.cellsOf 22 = 1 := by kernel_rfl
theorem zm6 : Tryd.prog.cellsOf 23 = 1 := by kernel_rfl
theorem agg3 : isAgg? Tryd.prog 3 = some false := by kernel_rfl
theorem agg9 : isAgg? Tryd.prog 9 = some false := by kernel_rfl
theorem zb8 : isAgg? Tryd.prog 22 = some false := by kernel_rfl
theorem zot : (Tryd.prog.info? 3).isSome = true := by kernel_rfl
theorem zm7 : (Tryd.prog.info? 9).isSome = true := by kernel_rfl
theorem znu : (Tryd.prog.info? 22).isSome = true := by kernel_rfl
theorem znv : (Tryd.prog.info? 23).isSome = true := by kernel_rfl
theorem z15 : ByteArray.toList { data := #[] } = [] := by
 rw [ByteArray.toList, ByteArray.toList.loop]; rfl
def isE (s : ByteArray) : Bool := s.toList == []
def blankB (t : Tm) : Bool :=
 (t.kind == 2 || t.kind == 5 || isE t.name) && (t.kind == 3 || isE t.num) && (t.kind == 4 || t.bits == 0) && (t.kind == 1 || t.var == 0) && (t.kind == 5 || (t.args.length : Int) == 0)
variable {ok : Ok}
set_option maxRecDepth 10000 in
set_option maxHeartbeats 2000000 in
theorem zjq (hk : ∀ args H, ok.K 74 args H = none) (hm : ok.testBit 74 = true) {t : Tm} {cs : List Value} {H : Heap} (r : RepT H t cs) (hw : H.wf) :
  EvF Tryd.prog ok 74 [.agg ⟨cs⟩] H fun v H' => v = .bool (blankB t) ∧ HX H H' := by
 obtain ⟨a, c, cells, rfl, b1, b2, b3, b4, b5, rl⟩ := r.inv
 refine EvF.enter (hk _ _) Tryd.func74 hm rfl ?_
 (repeat refine EvC.seq ?_); refine EvC.reg ?_
 simp (disch := omega) only [sB, initTm, dBox, Value.cells, one]
 (repeat refine EvC.seq ?_); refine EvC.reg ?_
 simp (disch := omega) only [sB, Nat.reduceEqDiff, reduceCtorEq, cutC, z04 z1q one3, z08 agg3]
 refine EvC.meet (fun st => ∃ tm H' nm nu b v a n c, st = ⟨tm, [], H'⟩ ∧ tm.get 1 = some (.pointer (some ⟨H.next, 0, none⟩)) ∧ H'.get H.next = some (.row [.int .i64 t.kind, .string nm, .string nu, .int .u64 b, .int .i64 v, .slice a n c] 25) ∧
  HX H H' ∧ (isE nm && isE nu && b == 0 && v == 0 && (n : Int) == 0) = blankB t) ?_ ?_
 ·refine EvC.block ?_
  have hx0 := (HX.refl hw).new (some (Blk.row [Value.int IntKind.i64 t.kind, Value.string t.name, Value.string t.num, Value.int IntKind.u64 t.bits, Value.int IntKind.i64 t.var, Value.slice a t.args.length c] 25))
  have hxp : ∀ B, HX H ((H.new (some (Blk.row [Value.int IntKind.i64 t.kind, Value.string t.name, Value.string t.num, Value.int IntKind.u64 t.bits, Value.int IntKind.i64 t.var, Value.slice a t.args.length c] 25))).put H.next B) := fun B => hx0.put (Nat.le_refl _) (Nat.lt_succ_self _) B
  (repeat refine EvC.seq ?_); refine EvC.reg ?_
  simp (disch := omega) only [sB, Nat.reduceEqDiff, reduceCtorEq]
  by_cases k1 : t.kind = 1
  ·refine EvC.condT (by simp only [sB, Nat.reduceEqDiff, reduceCtorEq]; rw [k1]; rfl) ?_
   (repeat refine EvC.seq ?_); refine EvC.reg ?_
   simp (disch := omega) only [sB, Nat.reduceEqDiff, Nat.reduceAdd, one, reduceCtorEq, Nat.reduceLeDiff, z04 z4o one3, z36 zot z8k]
   exact ⟨_, _, t.name, t.num, t.bits, 0, a, t.args.length, c, rfl, by simp only [sG, Nat.reduceEqDiff, reduceCtorEq], by simp only [sB], hxp _, by simp [blankB, k1]⟩
  refine EvC.condF (by simp only [sB, Nat.reduceEqDiff, reduceCtorEq]; rw [show (t.kind == 1) = false by simpa using k1]) ?_
  (repeat refine EvC.seq ?_); refine EvC.reg ?_
  simp (disch := omega) only [sB, Nat.reduceEqDiff, reduceCtorEq]
  by_cases k2 : t.kind = 2
  ·refine EvC.condT (by simp only [sB, Nat.reduceEqDiff, reduceCtorEq]; rw [k2]; rfl) ?_
   (repeat refine EvC.seq ?_); refine EvC.reg ?_
   simp (disch := omega) only [sB, Nat.reduceEqDiff, Nat.reduceAdd, one, reduceCtorEq, Nat.reduceLeDiff, z04 z1x one9, z3f zm7 zhj]
   exact ⟨_, _, ByteArray.empty, t.num, t.bits, t.var, a, t.args.length, c, rfl, by simp only [sG, Nat.reduceEqDiff, reduceCtorEq], by simp only [sB]; rfl, hxp _, by simp [blankB, k2, isE]⟩
  refine EvC.condF (by simp only [sB, Nat.reduceEqDiff, reduceCtorEq]; rw [show (t.kind == 2) = false by simpa using k2]) ?_
  (repeat refine EvC.seq ?_); refine EvC.reg ?_
  simp (disch := omega) only [sB, Nat.reduceEqDiff, reduceCtorEq]
  by_cases k3 : t.kind = 3
  ·refine EvC.condT (by simp only [sB, Nat.reduceEqDiff, reduceCtorEq]; rw [k3]; rfl) ?_
   (repeat refine EvC.seq ?_); refine EvC.reg ?_
   simp (disch := omega) only [sB, Nat.reduceEqDiff, Nat.reduceAdd, one, reduceCtorEq, Nat.reduceLeDiff, z04 z3u one9, z3f zm7 zhj]
   exact ⟨_, _, t.name, ByteArray.empty, t.bits, t.var, a, t.args.length, c, rfl, by simp only [sG, Nat.reduceEqDiff, reduceCtorEq], by simp only [sB]; rfl, hxp _, by simp [blankB, k3, isE]⟩
  refine EvC.condF (by simp only [sB, Nat.reduceEqDiff, reduceCtorEq]; rw [show (t.kind == 3) = false by simpa using k3]) ?_
  (repeat refine EvC.seq ?_); refine EvC.reg ?_
  simp (disch := omega) only [sB, Nat.reduceEqDiff, reduceCtorEq]
  by_cases k4 : t.kind = 4
  ·refine EvC.condT (by simp only [sB, Nat.reduceEqDiff, reduceCtorEq]; rw [k4]; rfl) ?_
   (repeat refine EvC.seq ?_); refine EvC.reg ?_
   simp (disch := omega) only [sB, Nat.reduceEqDiff, Nat.reduceAdd, one, reduceCtorEq, Nat.reduceLeDiff, z04 z3i z9i, z36 znu zm5]
   exact ⟨_, _, t.name, t.num, 0, t.var, a, t.args.length, c, rfl, by simp only [sG, Nat.reduceEqDiff, reduceCtorEq], by simp only [sB], hxp _, by simp [blankB, k4]⟩
  refine EvC.condF (by simp only [sB, Nat.reduceEqDiff, reduceCtorEq]; rw [show (t.kind == 4) = false by simpa using k4]) ?_
  (repeat refine EvC.seq ?_); refine EvC.reg ?_
  simp (disch := omega) only [sB, Nat.reduceEqDiff, reduceCtorEq]
  by_cases k5 : t.kind = 5
  ·refine EvC.condT (by simp only [sB, Nat.reduceEqDiff, reduceCtorEq]; rw [k5]; rfl) ?_
   (repeat refine EvC.seq ?_); refine EvC.reg ?_
   simp (disch := omega) only [sB, Nat.reduceEqDiff, Nat.reduceAdd, one, reduceCtorEq, Nat.reduceLeDiff, z04 z1x one9, z04 z1w z5d, z3f zm7 zhj, z3r znv zm6]
   exact ⟨_, _, ByteArray.empty, t.num, t.bits, t.var, none, 0, 0, rfl, by simp only [sG, Nat.reduceEqDiff, reduceCtorEq], by simp only [sB]; rfl, (hxp _).put (Nat.le_refl _) (Nat.lt_succ_self _) _, by simp [blankB, k5, isE]⟩
  refine EvC.condF (by simp only [sB, Nat.reduceEqDiff, reduceCtorEq]; rw [show (t.kind == 5) = false by simpa using k5]) (EvC.skip ?_)
  exact ⟨rfl, _, _, t.name, t.num, t.bits, t.var, a, t.args.length, c, rfl, by simp only [sG, Nat.reduceEqDiff, reduceCtorEq], by simp only [if_true, get_new], hx0, by simp [blankB, show (t.kind == 1) = false by simpa using k1, show (t.kind == 2) = false by simpa using k2, show (t.kind == 3) = false by simpa using k3, show (t.kind == 4) = false by simpa using k4, show (t.kind == 5) = false by simpa using k5]⟩
 ·rintro st ⟨tm, H', nm, nu, b, v, a, n, c, rfl, g1, hrow, hx, hres⟩
  simp only [z02]
  have l1 : H'.load ⟨H.next, 1, none⟩ 1 = some [.string nm] := by simp only [Heap.load, Heap.cells, hrow]; rfl
  have l2 : H'.load ⟨H.next, 2, none⟩ 1 = some [.string nu] := by simp only [Heap.load, Heap.cells, hrow]; rfl
  have l3 : H'.load ⟨H.next, 3, none⟩ 1 = some [.int .u64 b] := by simp only [Heap.load, Heap.cells, hrow]; rfl
  have l4 : H'.load ⟨H.next, 4, none⟩ 1 = some [.int .i64 v] := by simp only [Heap.load, Heap.cells, hrow]; rfl
  have l5 : H'.load ⟨H.next, 5, none⟩ 1 = some [.slice a n c] := by simp only [Heap.load, Heap.cells, hrow]; rfl
  (repeat refine EvC.seq ?_); refine EvC.reg ?_
  unfold isE at hres
  cases h1 : (nm.toList == []) with
  | false =>
   simp (disch := omega) only [sB, Nat.reduceEqDiff, z2s, g1, z04 z1x one9, z08 agg9, l1, z15, h1, Bool.false_eq_true]
   exact EvC.ret (z05 rfl (by simp only [sG, Nat.reduceEqDiff]; rfl) ⟨by rw [← hres, h1]; rfl, hx⟩)
  | true =>
  cases h2 : (nu.toList == []) with
  | false =>
   simp (disch := omega) only [sB, Nat.reduceEqDiff, z2s, g1, z04 z1x one9, z04 z3u one9, z08 agg9, l1, l2, z15, Bool.false_eq_true, h1, h2]
   exact EvC.ret (z05 rfl (by simp only [sG, Nat.reduceEqDiff]; rfl) ⟨by rw [← hres, h1, h2]; rfl, hx⟩)
  | true =>
  cases h3 : (b == 0) with
  | false =>
   simp (disch := omega) only [sB, Nat.reduceEqDiff, z2s, g1, z04 z1x one9, z04 z3u one9, z04 z3i z9i, z08 agg9, z08 zb8, l1, l2, l3, z15, Bool.false_eq_true, h1, h2, h3]
   exact EvC.ret (z05 rfl (by simp only [sG, Nat.reduceEqDiff]; rfl) ⟨by rw [← hres, h1, h2, h3]; rfl, hx⟩)
  | true =>
  cases h4 : (v == 0) with
  | false =>
   simp (disch := omega) only [sB, Nat.reduceEqDiff, z2s, g1, z04 z1x one9, z04 z3u one9, z04 z3i z9i, z04 z4o one3, z08 agg9, z08 agg3, z08 zb8, l1, l2, l3, l4, z15, Bool.false_eq_true, h1, h2, h3, h4]
   exact EvC.ret (z05 rfl (by simp only [sG, Nat.reduceEqDiff]; rfl) ⟨by rw [← hres, h1, h2, h3, h4]; rfl, hx⟩)
  | true =>
   simp (disch := omega) only [sB, Nat.reduceEqDiff, z2s, g1, z04 z1x one9, z04 z3u one9, z04 z3i z9i, z04 z4o one3, z04 z1w z5d, z08 agg9, z08 agg3, z08 zb8, z08 z5s, l1, l2, l3, l4, l5, z15, z0s Tryd.underlying23, h1, h2, h3, h4]
   exact EvC.ret (z05 rfl (by simp only [sG, Nat.reduceEqDiff]; rfl) ⟨by rw [← hres, h1, h2, h3, h4]; rfl, hx⟩)
end Go.Proofs.hq
end

section
namespace Go.Proofs.hq
open Go Go.RowKit Go.Hb
def nodeE (utf num : ByteArray → Bool) (flt : Int → Bool) (t : Tm) : Int :=
  if t.kind < 1 ∨ 5 < t.kind then 20 else if blankB t = false then 20 else if t.var < 0 then 20 else if t.kind = 5 ∧ (t.args.length = 0 ∨ 64 < t.args.length) then 20
  else if utf t.name = false then 21 else if 1000 < t.name.size then 21 else if t.kind = 3 ∧ num t.num = false then 22 else if t.kind = 4 ∧ flt t.bits = false then 23 else 0
def bndB (t : Tm) : Bool := decide (t.var < 0) || (t.kind == 5 && ((t.args.length : Int) == 0 || decide ((t.args.length : Int) > 64)))
theorem z7g {utf num : ByteArray → Bool} {flt : Int → Bool} {t : Tm} (h1 : ¬ (t.kind < 1 ∨ 5 < t.kind)) (h2 : blankB t = true) (h3 : bndB t = true) : nodeE utf num flt t = 20 := by
  rw [nodeE, if_neg h1, if_neg (by rw [h2]; simp)]
  unfold bndB at h3
  simp only [Bool.or_eq_true, Bool.and_eq_true, beq_iff_eq, decide_eq_true_eq] at h3
  by_cases hv : t.var < 0
  · rw [if_pos hv]
  · rw [if_neg hv, if_pos]
    rcases h3 with h | ⟨h, h' | h'⟩
    · exact absurd h hv
    · exact ⟨h, .inl (by omega)⟩
    · exact ⟨h, .inr (by omega)⟩
theorem z8l {utf num : ByteArray → Bool} {flt : Int → Bool} {t : Tm} (h1 : ¬ (t.kind < 1 ∨ 5 < t.kind)) (h2 : blankB t = true) (h3 : bndB t = false) :
    nodeE utf num flt t = if utf t.name = false then 21 else if 1000 < t.name.size then 21 else if t.kind = 3 ∧ num t.num = false then 22 else if t.kind = 4 ∧ flt t.bits = false then 23 else 0 := by
  rw [nodeE, if_neg h1, if_neg (by rw [h2]; simp)]
  unfold bndB at h3
  simp only [Bool.or_eq_false_iff, Bool.and_eq_false_iff, beq_eq_false_iff_ne, decide_eq_false_iff_not] at h3
  rw [if_neg h3.1, if_neg (fun h => by rcases h3.2 with h' | h' <;> first | exact h' h.1 | (have := h.2; omega))]
theorem zm8 : callable Tryd.prog 74 = true := by kernel_rfl
theorem zm9 : callable Tryd.prog 75 = true := by kernel_rfl
theorem zma : callable Tryd.prog 76 = true := by kernel_rfl
theorem zmb : callable Tryd.prog 80 = true := by kernel_rfl
theorem zmc : callable Tryd.prog 81 = true := by kernel_rfl
theorem zmd : callable Tryd.prog 82 = true := by kernel_rfl
def TellsS (ok : Ok) (f : FuncId) (g : ByteArray → Bool) : Prop := ∀ (s : ByteArray) (H : Heap), s.size ≤ maxLen → H.wf → EvF Tryd.prog ok f [.string s] H fun v H' => v = .bool (g s) ∧ HX H H'
def TellsU (ok : Ok) (f : FuncId) (g : Int → Bool) : Prop := ∀ (n : Int) (H : Heap), u64 n → H.wf → EvF Tryd.prog ok f [.int .u64 n] H fun v H' => v = .bool (g n) ∧ HX H H'
variable {ok : Ok}
set_option maxRecDepth 10000 in
set_option maxHeartbeats 4000000 in
theorem znw {utf num : ByteArray → Bool} {flt : Int → Bool} (hk : ∀ args H, ok.K 68 args H = none) (hm : ok.testBit 68 = true) (hU : TellsS ok 80 utf) (hN : TellsS ok 81 num) (hF : TellsU ok 82 flt)
    {t : Tm} {cs : List Value} {H : Heap} (r : RepT H t cs) (hw : H.wf) : EvF Tryd.prog ok 68 [.agg ⟨cs⟩] H fun v H' => v = .int .i64 (nodeE utf num flt t) ∧ HX H H' := by
  obtain ⟨a, c, cells, rfl, b1, b2, b3, b4, b5, rl⟩ := r.inv
  have hx := (HX.refl hw).new (some (Blk.row [Value.int IntKind.i64 t.kind, Value.string t.name, Value.string t.num, Value.int IntKind.u64 t.bits, Value.int IntKind.i64 t.var, Value.slice a t.args.length c] 25))
  refine EvF.enter (hk _ _) Tryd.func68 hm rfl ?_
  (repeat refine EvC.seq ?_); refine EvC.reg ?_; simp (disch := first | omega | rfl) only [sB, initTm, dBox, Value.cells, one]
  (repeat refine EvC.seq ?_); refine EvC.reg ?_; simp (disch := first | omega | rfl) only [sB, Nat.reduceEqDiff, reduceCtorEq, cutC, z04 z1q one3, z08 agg3]
  (repeat refine EvC.seq ?_); refine EvC.reg ?_; simp (disch := first | omega | rfl) only [sB, Nat.reduceEqDiff, reduceCtorEq, cutC, z04 z1q one3, z08 agg3]
  (repeat refine EvC.seq ?_); refine EvC.reg ?_; simp (disch := first | omega | rfl) only [sB, Nat.reduceEqDiff, reduceCtorEq, cutC, z04 z1q one3, z08 agg3]
  (repeat refine EvC.seq ?_); refine EvC.reg ?_; simp (disch := first | omega | rfl) only [sB, Nat.reduceEqDiff, reduceCtorEq, cutC, z04 z1q one3, z08 agg3]
  (repeat refine EvC.seq ?_); refine EvC.reg ?_; simp (disch := first | omega | rfl) only [sB, Nat.reduceEqDiff, reduceCtorEq, cutC, z04 z1q one3, z08 agg3]
  refine EvC.frame (fun tm => tm.get 1 = some (.pointer (some ⟨H.next, 0, none⟩)) ∧ tm.get 3 = some (.bool (t.kind == 2)) ∧ tm.get 4 = some (.bool (t.kind == 5)) ∧ tm.get 5 = some (.bool (t.kind == 3)) ∧ tm.get 6 = some (.bool (t.kind == 4)) ∧ tm.get 7 = some (.bool (t.kind == 1))) ⟨by simp only [sG, Nat.reduceEqDiff, reduceCtorEq], by simp only [sG, Nat.reduceEqDiff, reduceCtorEq], by simp only [sG, Nat.reduceEqDiff, reduceCtorEq], by simp only [sG, Nat.reduceEqDiff, reduceCtorEq], by simp only [sG, Nat.reduceEqDiff, reduceCtorEq], by simp only [sG, Nat.reduceEqDiff, reduceCtorEq]⟩ ?_
  rintro tm ⟨g1, g3, g4, g5, g6, g7⟩
  refine EvC.seq ?_
  refine EvC.join (fun st => (1 ≤ t.kind ∧ t.kind ≤ 5) ∧ ∃ tm, st = ⟨tm, [], H.new (some (Blk.row [Value.int IntKind.i64 t.kind, Value.string t.name, Value.string t.num, Value.int IntKind.u64 t.bits, Value.int IntKind.i64 t.var, Value.slice a t.args.length c] 25))⟩ ∧ tm.get 1 = some (.pointer (some ⟨H.next, 0, none⟩)) ∧ tm.get 3 = some (.bool (t.kind == 2)) ∧ tm.get 4 = some (.bool (t.kind == 5)) ∧ tm.get 5 = some (.bool (t.kind == 3)) ∧ tm.get 6 = some (.bool (t.kind == 4)) ∧ tm.get 7 = some (.bool (t.kind == 1))) ?_ ?_
  ·
    have hk6 : t.kind = 1 ∨ t.kind = 2 ∨ t.kind = 3 ∨ t.kind = 4 ∨ t.kind = 5 ∨ (t.kind < 1 ∨ 5 < t.kind) := by omega
    rcases hk6 with h | h | h | h | h | h
    iterate 5
      · (repeat refine EvC.seq ?_); refine EvC.reg ?_; simp (disch := first | omega | rfl) only [sB, Nat.reduceEqDiff, g3, g4, g5, g6, g7, h, Int.reduceBEq, Bool.not_true, Bool.not_false, Bool.false_eq_true]
        refine EvC.condF (by simp only [sB, Nat.reduceEqDiff]) (EvC.skip ?_)
        try simp (disch := first | omega | rfl) only [z02]
        exact ⟨by omega, _, rfl, by simp only [sG, Nat.reduceEqDiff, g1], by simp only [sG, Nat.reduceEqDiff, g3, h, Int.reduceBEq], by simp only [sG, Nat.reduceEqDiff, g4, h, Int.reduceBEq], by simp only [sG, Nat.reduceEqDiff, g5, h, Int.reduceBEq], by simp only [sG, Nat.reduceEqDiff, g6, h, Int.reduceBEq], by simp only [sG, Nat.reduceEqDiff, g7, h, Int.reduceBEq]⟩
    · have q1 : (t.kind == 1) = false := by simp; omega
      have q2 : (t.kind == 2) = false := by simp; omega
      have q3 : (t.kind == 3) = false := by simp; omega
      have q4 : (t.kind == 4) = false := by simp; omega
      have q5 : (t.kind == 5) = false := by simp; omega
      (repeat refine EvC.seq ?_); refine EvC.reg ?_; simp (disch := first | omega | rfl) only [sB, Nat.reduceEqDiff, g3, g4, g5, g6, g7, q1, q2, q3, q4, q5, Bool.not_false]
      refine EvC.condT (by simp only [sB, Nat.reduceEqDiff]) ?_
      (repeat refine EvC.seq ?_); refine EvC.reg ?_; simp (disch := first | omega | rfl) only [sA]
      refine EvC.ret ?_
      try simp (disch := first | omega | rfl) only [z01]
      exact z05 rfl (by simp only [sG, Nat.reduceEqDiff]; rfl) ⟨by rw [nodeE, if_pos h], hx⟩
  rintro st ⟨⟨hk1, hk5⟩, tm1, rfl, f1, f3, f4, f5, f6, f7⟩
  clear g1 g3 g4 g5 g6 g7 tm
  have hno : ¬ (t.kind < 1 ∨ 5 < t.kind) := by omega
  try simp (disch := first | omega | rfl) only [z02]
  refine EvC.seq ?_
  refine EvC.join (fun st => blankB t = true ∧ ∃ tm, st = ⟨tm, [], H.new (some (Blk.row [Value.int IntKind.i64 t.kind, Value.string t.name, Value.string t.num, Value.int IntKind.u64 t.bits, Value.int IntKind.i64 t.var, Value.slice a t.args.length c] 25))⟩ ∧ tm.get 1 = some (.pointer (some ⟨H.next, 0, none⟩)) ∧ tm.get 3 = some (.bool (t.kind == 2)) ∧ tm.get 4 = some (.bool (t.kind == 5)) ∧ tm.get 5 = some (.bool (t.kind == 3)) ∧ tm.get 6 = some (.bool (t.kind == 4)) ∧ tm.get 7 = some (.bool (t.kind == 1))) ?_ ?_
  ·
    refine EvC.seq (EvC.reg ?_)
    refine EL.join 11 (fun tm => tm.get 54 = some (.bool (!(t.name.toList == []) && (!(t.kind == 2) && !(t.kind == 5)))) ∧ tm.get 1 = some (.pointer (some ⟨H.next, 0, none⟩)) ∧ tm.get 3 = some (.bool (t.kind == 2)) ∧ tm.get 4 = some (.bool (t.kind == 5)) ∧ tm.get 5 = some (.bool (t.kind == 3)) ∧ tm.get 6 = some (.bool (t.kind == 4)) ∧ tm.get 7 = some (.bool (t.kind == 1))) ?_ ?_
    · cases h1 : (t.name.toList == []) <;> cases h2 : (t.kind == 2) <;> cases h3 : (t.kind == 5)
      all_goals
        try simp (disch := first | omega | rfl) only [sB, Nat.reduceEqDiff, cutC, z2b, f1, f3, f4, f5, f6, f7, h1, h2, h3, z04 z1x one9, z08 agg9, z15, Bool.not_true, Bool.not_false, Bool.false_eq_true, Bool.and_true, Bool.and_false]
    clear f1 f3 f4 f5 f6 f7
    rintro tm2 ⟨g, f1, f3, f4, f5, f6, f7⟩
    obtain ⟨x0, hy0⟩ : ∃ x, x = (!(t.name.toList == []) && (!(t.kind == 2) && !(t.kind == 5))) := ⟨_, rfl⟩
    rw [← hy0] at g
    refine EL.join 9 (fun tm => tm.get 63 = some (.bool (x0 || (!(t.num.toList == []) && !(t.kind == 3)))) ∧ tm.get 1 = some (.pointer (some ⟨H.next, 0, none⟩)) ∧ tm.get 3 = some (.bool (t.kind == 2)) ∧ tm.get 4 = some (.bool (t.kind == 5)) ∧ tm.get 5 = some (.bool (t.kind == 3)) ∧ tm.get 6 = some (.bool (t.kind == 4)) ∧ tm.get 7 = some (.bool (t.kind == 1))) ?_ ?_
    · clear hy0; cases h1 : (t.num.toList == []) <;> cases h2 : (t.kind == 3) <;> cases x0
      all_goals
        try simp (disch := first | omega | rfl) only [sB, Nat.reduceEqDiff, cutC, z2b, g, f1, f3, f4, f5, f6, f7, h1, h2, z04 z3u one9, z08 agg9, z15, Bool.not_true, Bool.not_false, Bool.false_eq_true, Bool.and_true, Bool.and_false, Bool.or_false, Bool.or_true]
    clear f1 f3 f4 f5 f6 f7 g
    rintro tm3 ⟨g, f1, f3, f4, f5, f6, f7⟩
    obtain ⟨x1, hx1⟩ : ∃ x, x = (x0 || (!(t.num.toList == []) && !(t.kind == 3))) := ⟨_, rfl⟩
    rw [← hx1] at g
    refine EL.join 9 (fun tm => tm.get 72 = some (.bool (x1 || (!(t.bits == 0) && !(t.kind == 4)))) ∧ tm.get 1 = some (.pointer (some ⟨H.next, 0, none⟩)) ∧ tm.get 3 = some (.bool (t.kind == 2)) ∧ tm.get 4 = some (.bool (t.kind == 5)) ∧ tm.get 5 = some (.bool (t.kind == 3)) ∧ tm.get 6 = some (.bool (t.kind == 4)) ∧ tm.get 7 = some (.bool (t.kind == 1))) ?_ ?_
    · clear hx1; cases h1 : (t.bits == 0) <;> cases h2 : (t.kind == 4) <;> cases x1
      all_goals
        try simp (disch := first | omega | rfl) only [sB, Nat.reduceEqDiff, cutC, g, f1, f3, f4, f5, f6, f7, h1, h2, z04 z3i z9i, z08 zb8, Bool.not_true, Bool.not_false, Bool.false_eq_true, bne, Bool.and_true, Bool.and_false, Bool.or_false, Bool.or_true]
    clear f1 f3 f4 f5 f6 f7 g
    rintro tm4 ⟨g, f1, f3, f4, f5, f6, f7⟩
    obtain ⟨x2, hx2⟩ : ∃ x, x = (x1 || (!(t.bits == 0) && !(t.kind == 4))) := ⟨_, rfl⟩
    rw [← hx2] at g
    refine EL.join 9 (fun tm => tm.get 81 = some (.bool (x2 || (!(t.var == 0) && !(t.kind == 1)))) ∧ tm.get 1 = some (.pointer (some ⟨H.next, 0, none⟩)) ∧ tm.get 3 = some (.bool (t.kind == 2)) ∧ tm.get 4 = some (.bool (t.kind == 5)) ∧ tm.get 5 = some (.bool (t.kind == 3)) ∧ tm.get 6 = some (.bool (t.kind == 4)) ∧ tm.get 7 = some (.bool (t.kind == 1))) ?_ ?_
    · clear hx2; cases h1 : (t.var == 0) <;> cases h2 : (t.kind == 1) <;> cases x2
      all_goals
        try simp (disch := first | omega | rfl) only [sB, Nat.reduceEqDiff, cutC, g, f1, f3, f4, f5, f6, f7, h1, h2, z04 z4o one3, z08 agg3, Bool.not_true, Bool.not_false, Bool.false_eq_true, bne, Bool.and_true, Bool.and_false, Bool.or_false, Bool.or_true]
    clear f1 f3 f4 f5 f6 f7 g
    rintro tm5 ⟨g, f1, f3, f4, f5, f6, f7⟩
    obtain ⟨x3, hx3⟩ : ∃ x, x = (x2 || (!(t.var == 0) && !(t.kind == 1))) := ⟨_, rfl⟩
    rw [← hx3] at g
    refine EL.join 10 (fun tm => tm.get 91 = some (.bool (x3 || (decide ((t.args.length : Int) > 0) && !(t.kind == 5)))) ∧ tm.get 1 = some (.pointer (some ⟨H.next, 0, none⟩)) ∧ tm.get 3 = some (.bool (t.kind == 2)) ∧ tm.get 4 = some (.bool (t.kind == 5)) ∧ tm.get 5 = some (.bool (t.kind == 3)) ∧ tm.get 6 = some (.bool (t.kind == 4)) ∧ tm.get 7 = some (.bool (t.kind == 1))) ?_ ?_
    · clear hx3; cases h1 : decide ((t.args.length : Int) > 0) <;> cases h2 : (t.kind == 5) <;> cases x3
      all_goals
        try simp (disch := first | omega | rfl) only [sB, Nat.reduceEqDiff, cutC, g, f1, f3, f4, f5, f6, f7, h1, h2, z04 z1w z5d, z08 z5s, z0s Tryd.underlying23, Bool.not_true, Bool.not_false, Bool.false_eq_true, Bool.and_true, Bool.and_false, Bool.or_false, Bool.or_true]
    clear f1 f3 f4 f5 f6 f7 g
    rintro tm6 ⟨g, f1, f3, f4, f5, f6, f7⟩
    obtain ⟨x4, hx4⟩ : ∃ x, x = (x3 || (decide ((t.args.length : Int) > 0) && !(t.kind == 5))) := ⟨_, rfl⟩
    rw [← hx4] at g
    try simp (disch := first | omega | rfl) only [sA]
    have hb : blankB t = !x4 := by
      have hgt : ((t.args.length : Int) == 0) = !decide ((t.args.length : Int) > 0) := by
        rw [Bool.eq_iff_iff]; simp
      rw [hx4, hx3, hx2, hx1, hy0]
      unfold blankB isE
      rw [hgt]
      cases (t.name.toList == []) <;> cases (t.num.toList == []) <;> cases (t.bits == 0) <;> cases (t.var == 0) <;> cases decide ((t.args.length : Int) > 0) <;> cases (t.kind == 1) <;> cases (t.kind == 2) <;> cases (t.kind == 3) <;> cases (t.kind == 4) <;> cases (t.kind == 5) <;> rfl
    cases x4 with
    | true =>
      refine EvC.condT (by simp only [sA, g]) ?_
      (repeat refine EvC.seq ?_); refine EvC.reg ?_; simp (disch := first | omega | rfl) only [sA]
      refine EvC.ret ?_
      try simp (disch := first | omega | rfl) only [z01]
      exact z05 rfl (by simp only [sG]; rfl) ⟨by rw [nodeE, if_neg hno, if_pos (show blankB t = false from hb)], hx⟩
    | false =>
      refine EvC.condF (by simp only [sA, g]) (EvC.skip ?_)
      try simp (disch := first | omega | rfl) only [z02]
      exact ⟨hb, _, rfl, f1, f3, f4, f5, f6, f7⟩
  rintro st ⟨hbl, tm, rfl, f1, f3, f4, f5, f6, f7⟩
  try simp (disch := first | omega | rfl) only [z02]
  refine EvC.seq ?_
  refine EvC.join (fun st => bndB t = false ∧ ∃ tm, st = ⟨tm, [], H.new (some (Blk.row [Value.int IntKind.i64 t.kind, Value.string t.name, Value.string t.num, Value.int IntKind.u64 t.bits, Value.int IntKind.i64 t.var, Value.slice a t.args.length c] 25))⟩ ∧ tm.get 1 = some (.pointer (some ⟨H.next, 0, none⟩)) ∧ tm.get 3 = some (.bool (t.kind == 2)) ∧ tm.get 4 = some (.bool (t.kind == 5)) ∧ tm.get 5 = some (.bool (t.kind == 3)) ∧ tm.get 6 = some (.bool (t.kind == 4)) ∧ tm.get 7 = some (.bool (t.kind == 1))) ?_ ?_
  ·
    refine EvC.seq (EvC.reg ?_)
    cases h1 : decide (t.var < 0) <;> cases h2 : (t.kind == 5) <;> cases h3 : ((t.args.length : Int) == 0) <;> cases h4 : decide ((t.args.length : Int) > 64)
    all_goals
      try simp (disch := first | omega | rfl) only [sB, Nat.reduceEqDiff, cutC, f1, f4, h1, h2, h3, h4, z04 z4o one3, z04 z1w z5d, z08 agg3, z08 z5s, z0s Tryd.underlying23, Bool.false_eq_true]
    all_goals
      first
      | (have hb : bndB t = true := by unfold bndB; rw [h1, h2, h3, h4]; rfl
         refine EvC.condT (by simp only [sB, Nat.reduceEqDiff]; done) ?_
         (repeat refine EvC.seq ?_); refine EvC.reg ?_; simp (disch := first | omega | rfl) only [sA]
         refine EvC.ret ?_
         try simp (disch := first | omega | rfl) only [z01]
         exact z05 rfl (by simp only [sG, Nat.reduceEqDiff]; rfl) ⟨by rw [z7g hno hbl hb], hx⟩)
      | (have hb : bndB t = false := by unfold bndB; rw [h1, h2, h3, h4]; rfl
         refine EvC.condF (by simp only [sB, Nat.reduceEqDiff]; done) (EvC.skip ?_)
         try simp (disch := first | omega | rfl) only [z02]
         exact ⟨hb, _, rfl, by simp only [sG, Nat.reduceEqDiff]; exact f1, by simp only [sG, Nat.reduceEqDiff]; exact f3, by simp only [sG, Nat.reduceEqDiff, f4, h2], by simp only [sG, Nat.reduceEqDiff]; exact f5, by simp only [sG, Nat.reduceEqDiff]; exact f6, by simp only [sG, Nat.reduceEqDiff]; exact f7⟩)
  rintro st ⟨hbd, tm, rfl, f1, f3, f4, f5, f6, f7⟩
  try simp (disch := first | omega | rfl) only [z02]
  have hne := z8l (utf := utf) (num := num) (flt := flt) hno hbl hbd
  (repeat refine EvC.seq ?_); refine EvC.reg ?_; simp (disch := first | omega | rfl) only [sB, Nat.reduceEqDiff, cutC, f1, z04 z1x one9, z08 agg9, z09 zmb]
  refine (hU t.name _ b2 hx.wf).mono ?_
  rintro v H2 ⟨rfl, hx2⟩
  have hxx := hx.trans hx2
  have hb2 : H2.get H.next = some (Blk.row [Value.int IntKind.i64 t.kind, Value.string t.name, Value.string t.num, Value.int IntKind.u64 t.bits, Value.int IntKind.i64 t.var, Value.slice a t.args.length c] 25) := by rw [hx2.keep _ (Nat.lt_succ_self _), Heap.get_new, if_pos rfl]
  have l1 : H2.load ⟨H.next, 1, none⟩ 1 = some [.string t.name] := by simp only [Heap.load, Heap.cells, hb2]; rfl
  have l2 : H2.load ⟨H.next, 2, none⟩ 1 = some [.string t.num] := by simp only [Heap.load, Heap.cells, hb2]; rfl
  have l3 : H2.load ⟨H.next, 3, none⟩ 1 = some [.int .u64 t.bits] := by simp only [Heap.load, Heap.cells, hb2]; rfl
  try simp (disch := first | omega | rfl) only []
  refine EvC.frame (fun tm => tm.get 8 = some (.bool (utf t.name)) ∧ tm.get 1 = some (.pointer (some ⟨H.next, 0, none⟩)) ∧ tm.get 3 = some (.bool (t.kind == 2)) ∧ tm.get 4 = some (.bool (t.kind == 5)) ∧ tm.get 5 = some (.bool (t.kind == 3)) ∧ tm.get 6 = some (.bool (t.kind == 4)) ∧ tm.get 7 = some (.bool (t.kind == 1))) ⟨by simp only [sG, Nat.reduceEqDiff], by simp only [sG, Nat.reduceEqDiff]; exact f1, by simp only [sG, Nat.reduceEqDiff]; exact f3, by simp only [sG, Nat.reduceEqDiff]; exact f4, by simp only [sG, Nat.reduceEqDiff]; exact f5, by simp only [sG, Nat.reduceEqDiff]; exact f6, by simp only [sG, Nat.reduceEqDiff]; exact f7⟩ ?_
  clear f1 f3 f4 f5 f6 f7
  rintro tm ⟨f8, f1, f3, f4, f5, f6, f7⟩
  cases hu : utf t.name with
  | false =>
    rw [hu] at f8
    (repeat refine EvC.seq ?_); refine EvC.reg ?_; simp (disch := first | omega | rfl) only [sB, Nat.reduceEqDiff, f8, Bool.not_false]
    refine EvC.condT (by simp only [sB, Nat.reduceEqDiff]) ?_
    (repeat refine EvC.seq ?_); refine EvC.reg ?_; simp (disch := first | omega | rfl) only [sA]
    refine EvC.ret ?_
    try simp (disch := first | omega | rfl) only [z01]
    exact z05 rfl (by simp only [sG, Nat.reduceEqDiff]; rfl) ⟨by rw [hne, if_pos hu], hxx⟩
  | true =>
  rw [hu] at f8
  rw [if_neg (by rw [hu]; simp)] at hne
  by_cases hlen : 1000 < t.name.size
  · have hd : decide ((t.name.size : Int) > 1000) = true := decide_eq_true (by omega)
    (repeat refine EvC.seq ?_); refine EvC.reg ?_; simp (disch := first | omega | rfl) only [sB, Nat.reduceEqDiff, f8, f1, l1, hd, z04 z1x one9, z08 agg9, z19 Tryd.underlying9, Bool.not_true, Bool.false_eq_true]
    refine EvC.condT (by simp only [sB, Nat.reduceEqDiff]) ?_
    (repeat refine EvC.seq ?_); refine EvC.reg ?_; simp (disch := first | omega | rfl) only [sA]
    refine EvC.ret ?_
    try simp (disch := first | omega | rfl) only [z01]
    exact z05 rfl (by simp only [sG, Nat.reduceEqDiff]; rfl) ⟨by rw [hne, if_pos hlen], hxx⟩
  rw [if_neg hlen] at hne
  have hd : decide ((t.name.size : Int) > 1000) = false := decide_eq_false (by omega)
  (repeat refine EvC.seq ?_); refine EvC.reg ?_; simp (disch := first | omega | rfl) only [sB, Nat.reduceEqDiff, f8, f1, l1, hd, z04 z1x one9, z08 agg9, z19 Tryd.underlying9, Bool.not_true, Bool.false_eq_true]
  refine EvC.condF (by simp only [sB, Nat.reduceEqDiff]) (EvC.skip ?_)
  try simp (disch := first | omega | rfl) only [z02]
  refine EvC.frame (fun tm => tm.get 1 = some (.pointer (some ⟨H.next, 0, none⟩)) ∧ tm.get 3 = some (.bool (t.kind == 2)) ∧ tm.get 4 = some (.bool (t.kind == 5)) ∧ tm.get 5 = some (.bool (t.kind == 3)) ∧ tm.get 6 = some (.bool (t.kind == 4)) ∧ tm.get 7 = some (.bool (t.kind == 1))) ⟨by simp only [sG, Nat.reduceEqDiff]; exact f1, by simp only [sG, Nat.reduceEqDiff]; exact f3, by simp only [sG, Nat.reduceEqDiff]; exact f4, by simp only [sG, Nat.reduceEqDiff]; exact f5, by simp only [sG, Nat.reduceEqDiff]; exact f6, by simp only [sG, Nat.reduceEqDiff]; exact f7⟩ ?_
  clear f1 f3 f4 f5 f6 f7 f8
  rintro tm ⟨f1, f3, f4, f5, f6, f7⟩
  by_cases k3 : t.kind = 3
  · have q3 : (t.kind == 3) = true := by simp [k3]
    have q4 : (t.kind == 4) = false := by simp [k3]
    rw [q3] at f5
    rw [q4] at f6
    (repeat refine EvC.seq ?_); refine EvC.reg ?_; simp (disch := first | omega | rfl) only [sA, f5]
    refine EvC.condT (by simp only [sB]) ?_
    (repeat refine EvC.seq ?_); refine EvC.reg ?_; simp (disch := first | omega | rfl) only [sB, Nat.reduceEqDiff, f1, l2, z04 z3u one9, z08 agg9, z09 zmc]
    refine (hN t.num _ b3 hx2.wf).mono ?_
    rintro v H3 ⟨rfl, hx3⟩
    try simp (disch := first | omega | rfl) only []
    (repeat refine EvC.seq ?_); refine EvC.reg ?_; simp (disch := first | omega | rfl) only [sB, Nat.reduceEqDiff]
    cases hn : num t.num with
    | false =>
      refine EvC.condT (by simp only [sB, Nat.reduceEqDiff]; rfl) ?_
      (repeat refine EvC.seq ?_); refine EvC.reg ?_; simp (disch := first | omega | rfl) only [sA]
      refine EvC.ret ?_
      try simp (disch := first | omega | rfl) only [z01]
      exact z05 rfl (by simp only [sG, Nat.reduceEqDiff]; rfl) ⟨by rw [hne, if_pos ⟨k3, hn⟩], hxx.trans hx3⟩
    | true =>
      refine EvC.condF (by simp only [sB, Nat.reduceEqDiff]; rfl) (EvC.skip ?_)
      try simp (disch := first | omega | rfl) only [z02]
      (repeat refine EvC.seq ?_); refine EvC.reg ?_; simp (disch := first | omega | rfl) only [sB, Nat.reduceEqDiff, f6]
      refine EvC.condF (by simp only [sB, Nat.reduceEqDiff]) (EvC.skip ?_)
      try simp (disch := first | omega | rfl) only [z02]
      (repeat refine EvC.seq ?_); refine EvC.reg ?_; simp (disch := first | omega | rfl) only [sA]
      refine EvC.ret ?_
      try simp (disch := first | omega | rfl) only []
      exact z05 rfl (by simp only [sG, Nat.reduceEqDiff]; rfl) ⟨by rw [hne, if_neg (by rw [hn]; simp), if_neg (by rw [k3]; simp)], hxx.trans hx3⟩
  have q3 : (t.kind == 3) = false := by simp [k3]
  rw [q3] at f5
  rw [if_neg (fun h => k3 h.1)] at hne
  (repeat refine EvC.seq ?_); refine EvC.reg ?_; simp (disch := first | omega | rfl) only [sA, f5]
  refine EvC.condF (by simp only [sB]) (EvC.skip ?_)
  try simp (disch := first | omega | rfl) only [z02]
  by_cases k4 : t.kind = 4
  · have q4 : (t.kind == 4) = true := by simp [k4]
    rw [q4] at f6
    (repeat refine EvC.seq ?_); refine EvC.reg ?_; simp (disch := first | omega | rfl) only [sB, Nat.reduceEqDiff, f6]
    refine EvC.condT (by simp only [sB, Nat.reduceEqDiff]) ?_
    (repeat refine EvC.seq ?_); refine EvC.reg ?_; simp (disch := first | omega | rfl) only [sB, Nat.reduceEqDiff, f1, l3, z04 z3i z9i, z08 zb8, z09 zmd]
    refine (hF t.bits _ b4 hx2.wf).mono ?_
    rintro v H3 ⟨rfl, hx3⟩
    try simp (disch := first | omega | rfl) only []
    (repeat refine EvC.seq ?_); refine EvC.reg ?_; simp (disch := first | omega | rfl) only [sB, Nat.reduceEqDiff]
    cases hn : flt t.bits with
    | false =>
      refine EvC.condT (by simp only [sB, Nat.reduceEqDiff]; rfl) ?_
      (repeat refine EvC.seq ?_); refine EvC.reg ?_; simp (disch := first | omega | rfl) only [sA]
      refine EvC.ret ?_
      try simp (disch := first | omega | rfl) only [z01]
      exact z05 rfl (by simp only [sG, Nat.reduceEqDiff]; rfl) ⟨by rw [hne, if_pos ⟨k4, hn⟩], hxx.trans hx3⟩
    | true =>
      refine EvC.condF (by simp only [sB, Nat.reduceEqDiff]; rfl) (EvC.skip ?_)
      try simp (disch := first | omega | rfl) only [z02]
      (repeat refine EvC.seq ?_); refine EvC.reg ?_; simp (disch := first | omega | rfl) only [sA]
      refine EvC.ret ?_
      try simp (disch := first | omega | rfl) only []
      exact z05 rfl (by simp only [sG, Nat.reduceEqDiff]; rfl) ⟨by rw [hne, if_neg (by rw [hn]; simp)], hxx.trans hx3⟩
  have q4 : (t.kind == 4) = false := by simp [k4]
  rw [q4] at f6
  (repeat refine EvC.seq ?_); refine EvC.reg ?_; simp (disch := first | omega | rfl) only [sB, Nat.reduceEqDiff, f6]
  refine EvC.condF (by simp only [sB, Nat.reduceEqDiff]) (EvC.skip ?_)
  try simp (disch := first | omega | rfl) only [z02]
  (repeat refine EvC.seq ?_); refine EvC.reg ?_; simp (disch := first | omega | rfl) only [sA]
  refine EvC.ret ?_
  try simp (disch := first | omega | rfl) only []
  exact z05 rfl (by simp only [sG, Nat.reduceEqDiff]; rfl) ⟨by rw [hne, if_neg (fun h => k4 h.1)], hxx⟩
end Go.Proofs.hq
end

section
namespace Go.Proofs.hq
open Go Go.RowKit Go.Hb
def rho0 (n : Int) : Operand → Value
 | .func f => .func (.func f) #[] #[]
 | _ => .int .u64 n
theorem zb9 (n : Int) (d : Option Tmp) (k : Tmp) (ats : Array TypeId) (ty : TypeId) (pos : String) (af : Array Edge) (g : Option (Nat × Bool)) :
  pureRun Tryd.prog (execOp (rho0 n) ⟨d, .call ⟨.value (.func 77), #[.tmp k], ats⟩, ty, pos, af, g⟩) = some (.value (.float .f64 n.toNat)) := by kernel_rfl
theorem zjr (l : List Value) : dcall1 Tryd.prog 77 l = none := by
 unfold dcall1
 rw [Tryd.func77]
 rfl
theorem z64 {d : Option Tmp} {k : Tmp} {ats : Array TypeId} {ty : TypeId} {pos : String} {af : Array Edge} {g : Option (Nat × Bool)} {tm : Tr Value} {H : Heap} {n : Int} (hv : tm.get k = some (.int .u64 n)) :
  dop Tryd.prog ⟨d, .call ⟨.value (.func 77), #[.tmp k], ats⟩, ty, pos, af, g⟩ (ev tm) H = some (.val (.float .f64 n.toNat) H) := by
 have hρ : ∀ y ∈ (⟨d, .call ⟨.value (.func 77), #[.tmp k], ats⟩, ty, pos, af, g⟩ : Oper).op.operands, ev tm y = rho0 n y := by
  intro y hy
  simp [Op.operands, Call.operands] at hy
  rcases hy with rfl | rfl
  ·rfl
  ·show (tm.get k).getD junk = _
   rw [hv]; rfl
 have e : dop Tryd.prog ⟨d, .call ⟨.value (.func 77), #[.tmp k], ats⟩, ty, pos, af, g⟩ (ev tm) H = dflat Tryd.prog ⟨d, .call ⟨.value (.func 77), #[.tmp k], ats⟩, ty, pos, af, g⟩ (ev tm) H := by
  simp only [dop, ev, zjr]
 have hf : allFlat (ev tm) (⟨d, .call ⟨.value (.func 77), #[.tmp k], ats⟩, ty, pos, af, g⟩ : Oper) = true := by
  unfold allFlat
  rw [List.all_eq_true]
  intro y hy
  rw [hρ y (Array.mem_toList_iff.1 hy)]
  simp [Op.operands, Call.operands] at hy
  rcases hy with rfl | rfl <;> rfl
 rw [e]
 unfold dflat
 rw [hf, execOp_congr _ (by intro cs b h; cases h) hρ, zb9]
 rfl
end Go.Proofs.hq
end

section
namespace Go.Proofs.hq
open Go Go.RowKit Go.Hb
def TellsN (ok : Ok) (f g h : FuncId) (fn fi : Int → Bool) : Prop := ∀ (n : Int) (H : Heap) , u64 n → H.wf → EvF Tryd.prog ok g [.float .f64 n.toNat] H (fun v H' => v = .bool (fn n) ∧ HX H H') ∧ EvF Tryd.prog ok h [.float .f64 n.toNat, .int .i64 0] H (fun v H' => v = .bool (fi n) ∧ HX H H')
theorem zme : callable Tryd.prog 78 = true := by kernel_rfl
theorem zmf : callable Tryd.prog 79 = true := by kernel_rfl
variable {ok : Ok}
set_option maxRecDepth 10000 in
set_option maxHeartbeats 8000000 in
theorem zmg {utf num : ByteArray → Bool} {fn fi : Int → Bool} (hk : ∀ args H, ok.K 66 args H = none) (hm : ok.testBit 66 = true) (hk2 : ∀ args H, ok.K 74 args H = none) (hm2 : ok.testBit 74 = true)
  (hU : TellsS ok 75 utf) (hN : TellsS ok 76 num) (hF : TellsN ok 77 78 79 fn fi)
  {t : Tm} {cs : List Value} {H : Heap} (r : RepT H t cs) (hw : H.wf) : EvF Tryd.prog ok 66 [.agg ⟨cs⟩] H fun v H' => v = .int .i64 (nodeE utf num (fun n => !(fn n || fi n || n == 9223372036854775808)) t) ∧ HX H H' := by
 have rr := r
 obtain ⟨a, c, cells, rfl, b1, b2, b3, b4, b5, rl⟩ := r.inv
 have hx := (HX.refl hw).new (some (Blk.row [Value.int IntKind.i64 t.kind, Value.string t.name, Value.string t.num, Value.int IntKind.u64 t.bits, Value.int IntKind.i64 t.var, Value.slice a t.args.length c] 25))
 refine EvF.enter (hk _ _) Tryd.func66 hm rfl ?_
 (repeat refine EvC.seq ?_); refine EvC.reg ?_; simp (disch := first | omega | rfl) only [sB, initTm, dBox, Value.cells, one]
 (repeat refine EvC.seq ?_); refine EvC.block ?_
 refine EvC.seq (EvC.reg ?_)
 by_cases hno : t.kind < 1 ∨ 5 < t.kind
 ·have hlt : decide (t.kind < 1) = true ∨ (decide (t.kind < 1) = false ∧ decide (t.kind > 5) = true) := by
   by_cases h : t.kind < 1
   ·exact .inl (by simp [h])
   ·exact .inr ⟨by simp [h], by simp; omega⟩
  rcases hlt with h | ⟨h, h'⟩
  ·try simp (disch := first | omega | rfl) only [sB, Nat.reduceEqDiff, reduceCtorEq, cutC, h, z04 z1q one3, z08 agg3]
   refine EvC.condT (by simp only [sB, Nat.reduceEqDiff, reduceCtorEq]) ?_
   (repeat refine EvC.seq ?_); refine EvC.reg ?_; simp (disch := first | omega | rfl) only [sA]
   refine EvC.ret ?_
   try simp (disch := first | omega | rfl) only [sA]
   exact z05 rfl (by simp only [sG, Nat.reduceEqDiff, reduceCtorEq]; rfl) ⟨by rw [nodeE, if_pos hno], hx⟩
  ·try simp (disch := first | omega | rfl) only [sB, Nat.reduceEqDiff, reduceCtorEq, cutC, h, h', z04 z1q one3, z08 agg3, Bool.false_eq_true]
   refine EvC.condT (by simp only [sB, Nat.reduceEqDiff, reduceCtorEq]) ?_
   (repeat refine EvC.seq ?_); refine EvC.reg ?_; simp (disch := first | omega | rfl) only [sA]
   refine EvC.ret ?_
   try simp (disch := first | omega | rfl) only [sA]
   exact z05 rfl (by simp only [sG, Nat.reduceEqDiff, reduceCtorEq]; rfl) ⟨by rw [nodeE, if_pos hno], hx⟩
 have q1 : decide (t.kind < 1) = false := by simp; omega
 have q2 : decide (t.kind > 5) = false := by simp; omega
 try simp (disch := first | omega | rfl) only [sB, Nat.reduceEqDiff, Nat.reduceAdd, reduceCtorEq, cutC, q1, q2, z04 z1q one3, z08 agg3, Bool.false_eq_true, z0u z4n, z1p, z09 zm8]
 refine (zjq hk2 hm2 (rr.mono hx hw) hx.wf).mono ?_
 rintro v H2 ⟨rfl, hx2⟩
 have hxx := hx.trans hx2
 have hb2 : H2.get H.next = some (Blk.row [Value.int IntKind.i64 t.kind, Value.string t.name, Value.string t.num, Value.int IntKind.u64 t.bits, Value.int IntKind.i64 t.var, Value.slice a t.args.length c] 25) := by rw [hx2.keep _ (Nat.lt_succ_self _), Heap.get_new, if_pos rfl]
 have l0 : H2.load ⟨H.next, 0, none⟩ 1 = some [.int .i64 t.kind] := by simp only [Heap.load, Heap.cells, hb2]; rfl
 have l1 : H2.load ⟨H.next, 1, none⟩ 1 = some [.string t.name] := by simp only [Heap.load, Heap.cells, hb2]; rfl
 have l2 : H2.load ⟨H.next, 2, none⟩ 1 = some [.string t.num] := by simp only [Heap.load, Heap.cells, hb2]; rfl
 have l3 : H2.load ⟨H.next, 3, none⟩ 1 = some [.int .u64 t.bits] := by simp only [Heap.load, Heap.cells, hb2]; rfl
 have l4 : H2.load ⟨H.next, 4, none⟩ 1 = some [.int .i64 t.var] := by simp only [Heap.load, Heap.cells, hb2]; rfl
 have l5 : H2.load ⟨H.next, 5, none⟩ 1 = some [.slice a t.args.length c] := by simp only [Heap.load, Heap.cells, hb2]; rfl
 cases hbl : blankB t with
 | false =>
  try simp (disch := first | omega | rfl) only [sB, Nat.reduceEqDiff, reduceCtorEq, Bool.not_false, Bool.false_eq_true]
  refine EvC.condT (by simp only [sB, Nat.reduceEqDiff, reduceCtorEq]) ?_
  (repeat refine EvC.seq ?_); refine EvC.reg ?_; simp (disch := first | omega | rfl) only [sA]
  refine EvC.ret ?_
  try simp (disch := first | omega | rfl) only [sA]
  exact z05 rfl (by simp only [sG, Nat.reduceEqDiff, reduceCtorEq]; rfl) ⟨by rw [nodeE, if_neg hno, if_pos hbl], hxx⟩
 | true =>
 by_cases hv : t.var < 0
 ·have hd : decide (t.var < 0) = true := decide_eq_true hv
  try simp (disch := first | omega | rfl) only [sB, Nat.reduceEqDiff, reduceCtorEq, l4, hd, z04 z4o one3, z08 agg3, Bool.not_true, Bool.false_eq_true]
  refine EvC.condT (by simp only [sB, Nat.reduceEqDiff, reduceCtorEq]) ?_
  (repeat refine EvC.seq ?_); refine EvC.reg ?_; simp (disch := first | omega | rfl) only [sA]
  refine EvC.ret ?_
  try simp (disch := first | omega | rfl) only [sA]
  exact z05 rfl (by simp only [sG, Nat.reduceEqDiff, reduceCtorEq]; rfl) ⟨by rw [z7g hno hbl (by unfold bndB; rw [hd]; rfl)], hxx⟩
 have hd : decide (t.var < 0) = false := decide_eq_false hv
 try simp (disch := first | omega | rfl) only [sB, Nat.reduceEqDiff, reduceCtorEq, l4, hd, z04 z4o one3, z08 agg3, Bool.not_true, Bool.false_eq_true]
 refine EvC.condF (by simp only [sB, Nat.reduceEqDiff, reduceCtorEq]) ?_
 refine EvC.frame (fun tm => tm.get 1 = some (.pointer (some ⟨H.next, 0, none⟩))) (by simp only [sG, Nat.reduceEqDiff, reduceCtorEq]) ?_
 rintro tm g1
 refine EvC.seq ?_
 refine EvC.join (fun st => ∃ tm, st = ⟨tm, [], H2⟩ ∧ tm.get 1 = some (.pointer (some ⟨H.next, 0, none⟩)) ∧ tm.get 23 = some (.bool (t.kind == 5 && ((t.args.length : Int) == 0 || decide ((t.args.length : Int) > 64))))) ?_ ?_
 ·refine EvC.reg ?_
  cases h2 : (t.kind == 5) <;> cases h3 : ((t.args.length : Int) == 0) <;> cases h4 : decide ((t.args.length : Int) > 64)
  all_goals
   try simp (disch := first | omega | rfl) only [sB, Nat.reduceEqDiff, g1, l0, l5, h2, h3, h4, z04 z1q one3, z04 z1w z5d, z08 agg3, z08 z5s, z0s Tryd.underlying23, Bool.false_eq_true]
   exact ⟨_, rfl, by simp only [sG, Nat.reduceEqDiff]; exact g1, by simp only [sG, Nat.reduceEqDiff]; rfl⟩
 clear g1 tm
 rintro st ⟨tm, rfl, g1, g23⟩
 try simp (disch := first | omega | rfl) only [z02]
 cases hbad : (t.kind == 5 && ((t.args.length : Int) == 0 || decide ((t.args.length : Int) > 64))) with
 | true =>
  rw [hbad] at g23
  refine EvC.condT (by simp only [sA, g23]) ?_
  (repeat refine EvC.seq ?_); refine EvC.reg ?_; simp (disch := first | omega | rfl) only [sA]
  refine EvC.ret ?_
  try simp (disch := first | omega | rfl) only [sA]
  exact z05 rfl (by simp only [sG]; rfl) ⟨by rw [z7g hno hbl (by unfold bndB; rw [hd, hbad]; rfl)], hxx⟩
 | false =>
 rw [hbad] at g23
 have hne := z8l (utf := utf) (num := num) (flt := fun n => !(fn n || fi n || n == 9223372036854775808)) hno hbl (by unfold bndB; rw [hd, hbad]; rfl)
 refine EvC.condF (by simp only [sA, g23]) ?_
 (repeat refine EvC.seq ?_); refine EvC.reg ?_; simp (disch := first | omega | rfl) only [sB, Nat.reduceEqDiff, g1, l1, z04 z1x one9, z08 agg9, z09 zm9]
 refine (hU t.name _ b2 hx2.wf).mono ?_
 rintro v H3 ⟨rfl, hx3⟩
 have hxx3 := hxx.trans hx3
 have hlt2 : H.next < H2.next := Nat.lt_of_lt_of_le (Nat.lt_succ_self _) hx2.next
 have hb3 : H3.get H.next = some (Blk.row [Value.int IntKind.i64 t.kind, Value.string t.name, Value.string t.num, Value.int IntKind.u64 t.bits, Value.int IntKind.i64 t.var, Value.slice a t.args.length c] 25) := by rw [hx3.keep _ hlt2]; exact hb2
 have m0 : H3.load ⟨H.next, 0, none⟩ 1 = some [.int .i64 t.kind] := by simp only [Heap.load, Heap.cells, hb3]; rfl
 have m1 : H3.load ⟨H.next, 1, none⟩ 1 = some [.string t.name] := by simp only [Heap.load, Heap.cells, hb3]; rfl
 have m2 : H3.load ⟨H.next, 2, none⟩ 1 = some [.string t.num] := by simp only [Heap.load, Heap.cells, hb3]; rfl
 have m3 : H3.load ⟨H.next, 3, none⟩ 1 = some [.int .u64 t.bits] := by simp only [Heap.load, Heap.cells, hb3]; rfl
 cases hu : utf t.name with
 | false =>
  try simp (disch := first | omega | rfl) only [sB, Nat.reduceEqDiff, Bool.not_false]
  refine EvC.condT (by simp only [sB, Nat.reduceEqDiff]) ?_
  (repeat refine EvC.seq ?_); refine EvC.reg ?_; simp (disch := first | omega | rfl) only [sA]
  refine EvC.ret ?_
  try simp (disch := first | omega | rfl) only [sA]
  exact z05 rfl (by simp only [sG, Nat.reduceEqDiff]; rfl) ⟨by rw [hne, if_pos hu], hxx3⟩
 | true =>
 rw [if_neg (by rw [hu]; simp)] at hne
 by_cases hlen : 1000 < t.name.size
 ·have hd : decide ((t.name.size : Int) > 1000) = true := decide_eq_true (by omega)
  try simp (disch := first | omega | rfl) only [sB, Nat.reduceEqDiff, g1, m1, hd, z04 z1x one9, z08 agg9, z19 Tryd.underlying9, Bool.not_true, Bool.false_eq_true]
  refine EvC.condT (by simp only [sB, Nat.reduceEqDiff]) ?_
  (repeat refine EvC.seq ?_); refine EvC.reg ?_; simp (disch := first | omega | rfl) only [sA]
  refine EvC.ret ?_
  try simp (disch := first | omega | rfl) only [sA]
  exact z05 rfl (by simp only [sG, Nat.reduceEqDiff]; rfl) ⟨by rw [hne, if_pos hlen], hxx3⟩
 rw [if_neg hlen] at hne
 have hd2 : decide ((t.name.size : Int) > 1000) = false := decide_eq_false (by omega)
 try simp (disch := first | omega | rfl) only [sB, Nat.reduceEqDiff, g1, m1, hd2, z04 z1x one9, z08 agg9, z19 Tryd.underlying9, Bool.not_true, Bool.false_eq_true]
 refine EvC.condF (by simp only [sB, Nat.reduceEqDiff]) ?_
 refine EvC.frame (fun tm => tm.get 1 = some (.pointer (some ⟨H.next, 0, none⟩))) (by simp only [sG, Nat.reduceEqDiff]; exact g1) ?_
 clear g1 g23 tm
 rintro tm g1
 refine EvC.seq (EvC.reg ?_)
 by_cases k3 : t.kind = 3
 ·have q3 : (t.kind == 3) = true := by simp [k3]
  have q4 : (t.kind == 4) = false := by simp [k3]
  try simp (disch := first | omega | rfl) only [sB, Nat.reduceEqDiff, g1, m0, m2, q3, z04 z1q one3, z04 z3u one9, z08 agg9, z08 agg3, z09 zma]
  refine (hN t.num _ b3 hx3.wf).mono ?_
  rintro v H4 ⟨rfl, hx4⟩
  have hb4 : H4.get H.next = some (Blk.row [Value.int IntKind.i64 t.kind, Value.string t.name, Value.string t.num, Value.int IntKind.u64 t.bits, Value.int IntKind.i64 t.var, Value.slice a t.args.length c] 25) := by rw [hx4.keep _ (Nat.lt_of_lt_of_le hlt2 hx3.next)]; exact hb3
  have n0 : H4.load ⟨H.next, 0, none⟩ 1 = some [.int .i64 t.kind] := by simp only [Heap.load, Heap.cells, hb4]; rfl
  cases hn : num t.num with
  | false =>
   try simp (disch := first | omega | rfl) only [sB, Nat.reduceEqDiff, Bool.not_false]
   refine EvC.condT (by simp only [sB, Nat.reduceEqDiff]) ?_
   (repeat refine EvC.seq ?_); refine EvC.reg ?_; simp (disch := first | omega | rfl) only [sA]
   refine EvC.ret ?_
   try simp (disch := first | omega | rfl) only [sA]
   exact z05 rfl (by simp only [sG, Nat.reduceEqDiff]; rfl) ⟨by rw [hne, if_pos ⟨k3, hn⟩], hxx3.trans hx4⟩
  | true =>
   try simp (disch := first | omega | rfl) only [sB, Nat.reduceEqDiff, Bool.not_true]
   refine EvC.condF (by simp only [sB, Nat.reduceEqDiff]) (EvC.skip ?_)
   try simp (disch := first | omega | rfl) only [sA]
   (repeat refine EvC.seq ?_); refine EvC.reg ?_; simp (disch := first | omega | rfl) only [sB, Nat.reduceEqDiff, g1, n0, q4, z04 z1q one3, z08 agg3]
   refine EvC.condF (by simp only [sB, Nat.reduceEqDiff]) (EvC.skip ?_)
   try simp (disch := first | omega | rfl) only [z02]
   (repeat refine EvC.seq ?_); refine EvC.reg ?_; simp (disch := first | omega | rfl) only [sA]
   refine EvC.ret ?_
   try simp (disch := first | omega | rfl) only []
   exact z05 rfl (by simp only [sG, Nat.reduceEqDiff]; rfl) ⟨by rw [hne, if_neg (by rw [hn]; simp), if_neg (by rw [k3]; simp)], hxx3.trans hx4⟩
 have q3 : (t.kind == 3) = false := by simp [k3]
 rw [if_neg (fun h => k3 h.1)] at hne
 try simp (disch := first | omega | rfl) only [sB, Nat.reduceEqDiff, g1, m0, q3, z04 z1q one3, z08 agg3, Bool.false_eq_true]
 refine EvC.condF (by simp only [sB, Nat.reduceEqDiff]) (EvC.skip ?_)
 try simp (disch := first | omega | rfl) only [sA]
 by_cases k4 : t.kind = 4
 ·have q4 : (t.kind == 4) = true := by simp [k4]
  (repeat refine EvC.seq ?_); refine EvC.reg ?_; simp (disch := first | omega | rfl) only [sB, Nat.reduceEqDiff, g1, m0, q4, z04 z1q one3, z08 agg3]
  refine EvC.condT (by simp only [sB, Nat.reduceEqDiff]) ?_
  (repeat refine EvC.seq ?_); refine EvC.reg ?_; simp (disch := first | omega | rfl) only [sB, Nat.reduceEqDiff, g1, m3, z04 z3i z9i, z08 zb8]
  rw [z64 (n := t.bits) (by simp only [sG, Nat.reduceEqDiff])]
  try simp (disch := first | omega | rfl) only [sB, Nat.reduceEqDiff]
  refine EvC.frame (fun tm => tm.get 1 = some (.pointer (some ⟨H.next, 0, none⟩)) ∧ tm.get 3 = some (.float .f64 t.bits.toNat)) ⟨by simp only [sG, Nat.reduceEqDiff]; exact g1, by simp only [sG, Nat.reduceEqDiff]⟩ ?_
  clear g1 tm
  rintro tm ⟨g1, g3⟩
  (repeat refine EvC.seq ?_); refine EvC.reg ?_; simp (disch := first | omega | rfl) only [sB, Nat.reduceEqDiff, g3, z09 zme]
  refine (hF t.bits _ b4 hx3.wf).1.mono ?_
  rintro v H4 ⟨rfl, hx4⟩
  have hb4 : H4.get H.next = some (Blk.row [Value.int IntKind.i64 t.kind, Value.string t.name, Value.string t.num, Value.int IntKind.u64 t.bits, Value.int IntKind.i64 t.var, Value.slice a t.args.length c] 25) := by rw [hx4.keep _ (Nat.lt_of_lt_of_le hlt2 hx3.next)]; exact hb3
  cases hn : fn t.bits with
  | true =>
   try simp (disch := first | omega | rfl) only [sB, Nat.reduceEqDiff]
   refine EvC.condT (by simp only [sB, Nat.reduceEqDiff]) ?_
   (repeat refine EvC.seq ?_); refine EvC.reg ?_; simp (disch := first | omega | rfl) only [sA]
   refine EvC.ret ?_
   try simp (disch := first | omega | rfl) only [z01]
   exact z05 rfl (by simp only [sG, Nat.reduceEqDiff]; rfl) ⟨by rw [hne, if_pos ⟨k4, by rw [hn]; rfl⟩], hxx3.trans hx4⟩
  | false =>
  try simp (disch := first | omega | rfl) only [sB, Nat.reduceEqDiff, g3, Bool.false_eq_true, z09 zmf]
  refine (hF t.bits _ b4 hx4.wf).2.mono ?_
  rintro v H5 ⟨rfl, hx5⟩
  have hb5 : H5.get H.next = some (Blk.row [Value.int IntKind.i64 t.kind, Value.string t.name, Value.string t.num, Value.int IntKind.u64 t.bits, Value.int IntKind.i64 t.var, Value.slice a t.args.length c] 25) := by rw [hx5.keep _ (Nat.lt_of_lt_of_le (Nat.lt_of_lt_of_le hlt2 hx3.next) hx4.next)]; exact hb4
  have n3 : H5.load ⟨H.next, 3, none⟩ 1 = some [.int .u64 t.bits] := by simp only [Heap.load, Heap.cells, hb5]; rfl
  cases hi : fi t.bits with
  | true =>
   try simp (disch := first | omega | rfl) only [sB, Nat.reduceEqDiff]
   refine EvC.condT (by simp only [sB, Nat.reduceEqDiff]) ?_
   (repeat refine EvC.seq ?_); refine EvC.reg ?_; simp (disch := first | omega | rfl) only [sA]
   refine EvC.ret ?_
   try simp (disch := first | omega | rfl) only [z01]
   exact z05 rfl (by simp only [sG, Nat.reduceEqDiff]; rfl) ⟨by rw [hne, if_pos ⟨k4, by rw [hn, hi]; rfl⟩], (hxx3.trans hx4).trans hx5⟩
  | false =>
  cases hz : (t.bits == 9223372036854775808) with
  | true =>
   try simp (disch := first | omega | rfl) only [sB, Nat.reduceEqDiff, g1, n3, hz, z04 z3i z9i, z08 zb8, Bool.false_eq_true]
   refine EvC.condT (by simp only [sB, Nat.reduceEqDiff]) ?_
   (repeat refine EvC.seq ?_); refine EvC.reg ?_; simp (disch := first | omega | rfl) only [sA]
   refine EvC.ret ?_
   try simp (disch := first | omega | rfl) only [z01]
   exact z05 rfl (by simp only [sG, Nat.reduceEqDiff]; rfl) ⟨by rw [hne, if_pos ⟨k4, by rw [hn, hi, hz]; rfl⟩], (hxx3.trans hx4).trans hx5⟩
  | false =>
   try simp (disch := first | omega | rfl) only [sB, Nat.reduceEqDiff, g1, n3, hz, z04 z3i z9i, z08 zb8, Bool.false_eq_true]
   refine EvC.condF (by simp only [sB, Nat.reduceEqDiff]) (EvC.skip ?_)
   try simp (disch := first | omega | rfl) only [z02]
   (repeat refine EvC.seq ?_); refine EvC.reg ?_; simp (disch := first | omega | rfl) only [sA]
   refine EvC.ret ?_
   try simp (disch := first | omega | rfl) only []
   exact z05 rfl (by simp only [sG, Nat.reduceEqDiff]; rfl) ⟨by rw [hne, if_neg (by rw [hn, hi, hz]; simp)], (hxx3.trans hx4).trans hx5⟩
 have q4 : (t.kind == 4) = false := by simp [k4]
 (repeat refine EvC.seq ?_); refine EvC.reg ?_; simp (disch := first | omega | rfl) only [sB, Nat.reduceEqDiff, g1, m0, q4, z04 z1q one3, z08 agg3]
 refine EvC.condF (by simp only [sB, Nat.reduceEqDiff]) (EvC.skip ?_)
 try simp (disch := first | omega | rfl) only [z02]
 (repeat refine EvC.seq ?_); refine EvC.reg ?_; simp (disch := first | omega | rfl) only [sA]
 refine EvC.ret ?_
 try simp (disch := first | omega | rfl) only []
 exact z05 rfl (by simp only [sG, Nat.reduceEqDiff]; rfl) ⟨by rw [hne, if_neg (fun h => k4 h.1)], hxx3⟩
end Go.Proofs.hq
end
