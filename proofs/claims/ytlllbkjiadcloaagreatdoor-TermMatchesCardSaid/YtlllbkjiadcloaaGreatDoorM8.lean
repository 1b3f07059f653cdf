import Derived.Test.YtlllbkjiadcloaaGreatDoorM3
import Derived.Test.YtlllbkjiadcloaaGreatDoorM7
import Derived.Test.YtlllbkjiadcloaaGreatDoorM5
/- Lemmas on the program's own code, towards the laws of this folder, part 8. Conditions: as each lemma says. -/
section
namespace Go.Proofs.hq
open Go Go.RowKit Go.Hb
variable {ok : Ok}
set_option maxRecDepth 10000
attribute [local irreducible] LX LG EL STG SOP SGO SGD SAL SRD SEF SEG SLK SCK ES
structure RefL (H : Heap) (base : Nat) (M : List (Int × Tm)) (a : Option Addr) (c : Nat) (L : List Bnd) : Prop where
 row : RepO H 37 7 base (L.map Bnd.seven) (.slice a L.length c)
 rep : ∀ d ∈ L, RepF H 25 (fun n => base ≤ n) d.e.t (six d.e.t d.e.a d.e.c)
 srt : (L.map pairB).Pairwise fun p q => p.1 < q.1
 look : ∀ n, lookT (L.map pairB) n = lookT M n
theorem RefL.keep {H H' : Heap} {base : Nat} {M : List (Int × Tm)} {a : Option Addr} {c : Nat} {L : List Bnd} (h : RefL H base M a c L) (hx : HX H H') (hw : H.wf) : RefL H' base M a c L := ⟨h.row.keep hx, fun d hd => (h.rep d hd).keep hx hw, h.srt, h.look⟩
theorem RefL.beside {H H' : Heap} {S : Nat → Prop} {base : Nat} {M : List (Int × Tm)} {a : Option Addr} {c : Nat} {L : List Bnd} (h : RefL H base M a c L) (hx : HK S H H') (hw : H.wf) (hd : ∀ n, base ≤ n → ¬ S n) : RefL H' base M a c L := by
 refine ⟨?_, fun d hd2 => (h.rep d hd2).beside hx hw hd, h.srt, h.look⟩
 rcases h.row with h1 | ⟨b, c', ⟨p1, p2, ⟨cs, p3, p4⟩, p5, p6, p7, p8⟩, e⟩
 ·exact .inl h1
 ·exact .inr ⟨b, c', ⟨p1, Nat.lt_of_lt_of_le p2 hx.next, ⟨cs, hx.get hw p3 (hd _ p1), p4⟩, p5, p6, p7, p8⟩, e⟩
theorem RefL.nil {H : Heap} {base : Nat} : RefL H base [] none 0 [] := ⟨.inl ⟨rfl, rfl⟩, fun d hd => (List.not_mem_nil hd).elim, .nil, fun n => rfl⟩
theorem RefL.bs {H : Heap} {base : Nat} {M : List (Int × Tm)} {a : Option Addr} {c : Nat} {L : List Bnd} (h : RefL H base M a c L) : RepBs H (L.map pairB) a c ∧ (L.map pairB).length = L.length := by
 have hl : (L.map pairB).length = L.length := List.length_map ..
 refine ⟨?_, hl⟩
 have hrow := h.row
 rcases hrow with ⟨h1, h2⟩ | ⟨b, c', ho, e⟩
 ·have h0 : L.length = 0 := by have := congrArg List.length h1; simpa using this
  rw [h0] at h2
  injection h2 with q1 q2 q3
  subst q3
  exact ⟨by omega, Nat.zero_le _, fun i hi => by omega⟩
 ·rw [List.length_map] at e
  injection e with q1 q2 q3
  subst q1 q3
  refine ⟨by rw [hl]; have := ho.len; simpa using this, ho.cap, fun i hi => ?_⟩
  have hi' : i < L.length := by omega
  have g : (L.map Bnd.seven)[i]? = some (L[i].seven) := by rw [List.getElem?_map, List.getElem?_eq_getElem hi']; rfl
  have e1 : (L.map pairB)[i] = pairB L[i] := by simp
  rw [e1]
  refine ⟨b, 0, L[i].e.a, L[i].e.c, rfl, ?_, ?_, (h.rep _ (List.getElem_mem _)).rep⟩
  ·have := ho.part g (j := 0) (n := 1) (by omega)
   rw [Nat.add_zero] at this
   rw [Nat.zero_add]; exact this
  ·have := ho.part g (j := 1) (n := 6) (by omega)
   rw [Nat.zero_add]; exact this
theorem RefL.into {H : Heap} {base : Nat} {M : List (Int × Tm)} {a a' : Option Addr} {c c' k : Nat} {L : List Bnd} {x : Bnd} (h : RefL H base M a c L) (hn : lookT M x.v = none) (hk : k ≤ L.length) (hgt : ∀ j (hj : j < L.length), k ≤ j → x.v < L[j].v) (hle : ∀ (_ : 0 < k) (hk : k ≤ L.length), ¬ x.v < (L[k - 1]'(by omega)).v)
  (hrow : RepO H 37 7 base ((intoB L k x).map Bnd.seven) (.slice a' (L.length + 1) c')) (hx : RepF H 25 (fun n => base ≤ n) x.e.t (six x.e.t x.e.a x.e.c)) : RefL H base (M ++ [(x.v, x.e.t)]) a' c' (intoB L k x) ∧ (intoB L k x).length = L.length + 1 := by
 have hl : (intoB L k x).length = L.length + 1 := by unfold intoB; simp; omega
 have hmem : ∀ d, d ∈ intoB L k x ↔ d ∈ L ∨ d = x := fun d => by
  unfold intoB
  rw [List.append_assoc, List.mem_append, List.mem_append, List.mem_singleton]
  conv => rhs; rw [← List.take_append_drop k L, List.mem_append]
  constructor
  ·rintro (h | h | h); exact .inl (.inl h); exact .inr h; exact .inl (.inr h)
  ·rintro ((h | h) | h); exact .inl h; exact .inr (.inr h); exact .inr (.inl h)
 have hkeys : ∀ d ∈ L, d.v ≠ x.v := fun d hd => by
  have := hn
  rw [← h.look, z49] at this
  exact this (pairB d) (List.mem_map_of_mem hd)
 have hsrtL : L.Pairwise fun d e => d.v < e.v := by have := h.srt; rwa [List.pairwise_map] at this
 have hpw := List.pairwise_iff_getElem.1 hsrtL
 have hlo : ∀ d ∈ L.take k, d.v < x.v := fun d hd => by
  obtain ⟨j, hj, rfl⟩ := List.mem_iff_getElem.1 hd
  rw [List.length_take] at hj
  rw [List.getElem_take]
  have e1 := hle (by omega) hk
  have e2 := hkeys L[j] (List.getElem_mem _)
  by_cases hjk : j = k - 1
  ·subst hjk; omega
  ·have := hpw j (k - 1) (by omega) (by omega) (by omega); omega
 have hhi : ∀ d ∈ L.drop k, x.v < d.v := fun d hd => by
  obtain ⟨j, hj, rfl⟩ := List.mem_iff_getElem.1 hd
  rw [List.length_drop] at hj
  rw [List.getElem_drop]
  exact hgt _ (by omega) (by omega)
 have hsrt : ((intoB L k x).map pairB).Pairwise fun p q => p.1 < q.1 := by
  rw [List.pairwise_map]
  unfold intoB
  have hs := hsrtL
  rw [← List.take_append_drop k L, List.pairwise_append] at hs
  rw [List.append_assoc, List.pairwise_append, List.singleton_append]
  refine ⟨hs.1, ?_, fun d hd e he => ?_⟩
  ·rw [List.pairwise_cons]; exact ⟨hhi, hs.2.1⟩
  ·rcases List.mem_cons.1 he with rfl | he
   ·exact hlo d hd
   ·have := hlo d hd; have := hhi e he
    show d.v < e.v
    omega
 refine ⟨⟨by rw [hl]; exact hrow, fun d hd => ?_, hsrt, fun n => ?_⟩, hl⟩
 ·rcases (hmem d).1 hd with hd | rfl
  ·exact h.rep d hd
  ·exact hx
 ·rw [z48 hn]
  by_cases e : n = x.v
  ·subst e
   rw [if_pos rfl]
   exact (z4p hsrt).1 (pairB x) (List.mem_map_of_mem ((hmem x).2 (.inr rfl)))
  ·rw [if_neg e, ← h.look]
   cases hq : lookT (L.map pairB) n with
   | some u =>
    obtain ⟨d, hd, ed⟩ := List.mem_map.1 (z3a hq)
    have := (z4p hsrt).1 (pairB d) (List.mem_map_of_mem ((hmem d).2 (.inl hd)))
    rw [ed] at this; exact this
   | none =>
    rw [z49] at hq ⊢
    intro p hp
    obtain ⟨d, hd, rfl⟩ := List.mem_map.1 hp
    rcases (hmem d).1 hd with hd | rfl
    ·exact hq _ (List.mem_map_of_mem hd)
    ·exact fun q => e q.symm
set_option maxHeartbeats 16000000 in
theorem zig {H0 : Heap} (hw0 : H0.wf) : ∀ (m : Nat) {t u : Tm} {cs cu : List Value} {M : List (Int × Tm)} {L : List Bnd} {a : Option Addr} {c : Nat} {H : Heap}, SizeOf.sizeOf t < m → RepT H0 t cs → RepT H0 u cu → Fine t → Fine u → HX H0 H → RefL H H0.next M a c L → L.length + (occ t).length ≤ 100000 →
  EvF Tryz.prog okT 7 [.agg ⟨cs⟩, .agg ⟨cu⟩, .slice a L.length c] H fun v H' => HX H H' ∧
   ((∃ M' L' a' c', matchS t u M = some M' ∧ v = .tuple ⟨[.slice a' L'.length c', .bool true]⟩ ∧ RefL H' H0.next M' a' c' L' ∧ L'.length ≤ L.length + (occ t).length) ∨ (matchS t u M = none ∧ ∃ w, v = .tuple ⟨[w, .bool false]⟩)) := by
 intro m
 induction m with
 | zero => intro t u cs cu M L a c H h; omega
 | succ m ih =>
 intro t u cs cu M L al cl H hsz r0 r1 hft hfu hx0 hR hlen
 have hw := hx0.wf
 have n0 := hx0.next
 have r00 := r0; have r10 := r1
 obtain ⟨a, c, cells, rfl, -, -, -, -, -, rl⟩ := r0.six
 obtain ⟨a', c', cells', rfl, -, -, -, -, -, rl'⟩ := r1.six
 refine EvF.enter rfl Tryz.func7 (by decide) rfl ?_
 (repeat refine ya ?_); refine yb ?_; simp (config := { maxSteps := 2000000 }) (disch := first | omega | rfl) only [sB, initTm, dBox, Nat.reduceEqDiff, Nat.reduceAdd, Value.cells, one, reduceCtorEq]
 obtain ⟨H2, e2, hx2, gt, gu, hn2, hw2⟩ := new2 hw (.row (six t a c) 25) (.row (six u a' c') 25)
 simp only [e2]
 clear e2
 have q1 := row6 gt
 have q2 := row6 gu
 by_cases k1 : t.kind = 1
 ·(repeat refine ya ?_); refine yb ?_; simp (config := { maxSteps := 2000000 }) (disch := first | omega | rfl) only [sB, Nat.reduceEqDiff, reduceCtorEq, z10, ld3, q1, z1z k1]
  (repeat refine ya ?_); refine yh (by simp (config := { maxSteps := 2000000 }) (disch := first | omega | rfl) only [sB, Nat.reduceEqDiff, reduceCtorEq]) ?_; (try refine ye ?_); (try simp only [z02, z09])
  (repeat refine ya ?_); refine yb ?_; simp (config := { maxSteps := 2000000 }) (disch := first | omega | rfl) only [sB, Nat.reduceEqDiff, reduceCtorEq, ld3, z4e, cl29, q1]
  obtain ⟨hbs, hbl⟩ := (hR.keep hx2 hw).bs
  have hR2 := hR.keep hx2 hw
  rw [← hbl]
  refine (zk5 hbs hw2).mono ?_
  rw [hbl]
  rintro v H3 ⟨k3, h3⟩
  have hlk := hR.look t.var
  unfold lookT at hlk
  have gt3 := k3.get hw2 gt
  have gu3 := k3.get hw2 gu
  have hR3 := hR2.keep k3 hw2
  have hx23 := hx2.trans k3
  rcases z9g ((L.map pairB).find? fun p => p.1 == t.var) with ⟨p, hf⟩ | hf
  ·rw [hf] at h3 hlk
   obtain ⟨cso, rfl, ro⟩ := h3
   have hl : lookT M t.var = some p.2 := hlk.symm
   obtain ⟨a2, c2, cells2, rfl, -⟩ := ro.six
   try simp (config := { maxSteps := 2000000 }) (disch := first | omega | rfl) only [sB, dAlloc, Nat.reduceEqDiff, Nat.reduceAdd, one, reduceCtorEq, zr25, st25]
   obtain ⟨H4, e4, k4, g4, n4, w4⟩ := z3q k3.wf (.row zero6 25) (.row (six p.2 a2 c2) 25)
   simp only [e4]
   clear e4
   have q4 := row6 g4
   have q24 := row6 (k4.get k3.wf gu3)
   have hx24 := hx23.trans k4
   repeat' (first | refine ya ?_ | refine yg ?_ | refine yd ?_ | (refine ye ?_) | (refine yf ?_) | (refine yc ?_; try simp only [z01, z00]) | (refine yb ?_; simp (config := { maxSteps := 2000000 }) (disch := first | omega | rfl) only [sB, Nat.reduceEqDiff, reduceCtorEq, ld25, cl30, q4, q24]) | (refine yh ?_ ?_; simp (config := { maxSteps := 2000000 }) (disch := first | omega | rfl) only [sB, Nat.reduceEqDiff, reduceCtorEq]; refine z03 ?_))
   refine (z8i (ro.mono k4 k3.wf) (r10.mono (hx0.trans hx24) hw0) w4).mono ?_
   rintro v H5 ⟨rfl, k5⟩
   repeat' (first | refine ya ?_ | refine yg ?_ | refine yd ?_ | (refine ye ?_) | (refine yf ?_) | (refine yc ?_; try simp only [z01, z00]))
   by_cases he : p.2 = u
   ·rw [zi1 he]
    exact z0j rfl (by simp only [sG, Nat.reduceEqDiff, reduceCtorEq] <;> rfl) (by simp only [sG, Nat.reduceEqDiff, reduceCtorEq] <;> rfl) ⟨hx24.trans k5, .inl ⟨M, L, al, cl, by rw [z1u k1, hl]; simp only [he, if_true], rfl, (hR3.keep k4 k3.wf).keep k5 w4, by omega⟩⟩
   ·rw [z7q he]
    exact z0j rfl (by simp only [sB, Nat.reduceEqDiff, reduceCtorEq] <;> rfl) (by simp only [sG, Nat.reduceEqDiff, reduceCtorEq] <;> rfl) ⟨hx24.trans k5, .inr ⟨by rw [z1u k1, hl]; simp only [he, if_false], _, rfl⟩⟩
  ·rw [hf] at h3 hlk
   have hl : lookT M t.var = none := hlk.symm
   subst h3
   try simp (config := { maxSteps := 2000000 }) (disch := first | omega | rfl) only [sB, dAlloc, Nat.reduceEqDiff, Nat.reduceAdd, one, reduceCtorEq, zr25, st25]
   obtain ⟨H4, e4, k4, g4, n4, w4⟩ := z3q k3.wf (.row zero6 25) (.row zero6 25)
   simp only [e4]
   clear e4
   have q14 := row6 (k4.get k3.wf gt3)
   have q24 := row6 (k4.get k3.wf gu3)
   have hx24 := hx23.trans k4
   have hb4 := hx24.bump 9
   repeat' (first | refine ya ?_ | refine yg ?_ | refine yd ?_ | (refine ye ?_; try simp only [z02]) | (refine yf ?_) | (refine yc ?_; try simp only [z01, z00]) | (refine yb ?_; simp (config := { maxSteps := 2000000 }) (disch := first | omega | rfl) only [sB, Nat.reduceEqDiff, reduceCtorEq]) | (refine yj (id := 5) [([(3, 0)], some 4), ([(0, 0), (1, 0), (2, 0), (5, 1)], some 6), ([(7, 2), (8, 2)], none)] ?_ ?_; kernel_rfl; simp (config := { maxSteps := 2000000 }) (disch := first | omega | rfl) only [sD, sB, Nat.reduceEqDiff, Nat.reduceAdd, reduceCtorEq, ld25, cl32, q24, isAlloc, isRead, reduceCtorEq]) | (refine yh ?_ ?_; simp (config := { maxSteps := 2000000 }) (disch := first | omega | rfl) only [sB, Nat.reduceEqDiff, reduceCtorEq]; refine z03 ?_) | (refine yi ?_ ?_; simp (config := { maxSteps := 2000000 }) (disch := first | omega | rfl) only [sB, Nat.reduceEqDiff, reduceCtorEq]; refine z03 ?_))
   refine (zmf (Nat.lt_succ_self _) (r10.mono (hx0.trans hb4) hw0) (zle hfu) hb4.wf).mono ?_
   rintro v H5 ⟨c5, rfl, rf5, k5⟩
   have rt5 : RepF H5 25 (fun n => H0.next ≤ n) u c5 := rf5.sub fun n hn => by have := hn.1; have := hx0.next; have := hx24.next; have : Heap.next ⟨H4.next + 9, H4.t⟩ = H4.next + 9 := rfl; omega
   obtain ⟨a5, c5, rfl, bd5, fl5⟩ := rf5
   have hx25 := hb4.trans k5
   have gt5 := k5.get hb4.wf (show Heap.get ⟨H4.next + 9, H4.t⟩ H.next = _ from k4.get k3.wf gt3)
   have q15 := row6 gt5
   repeat' (first | refine ya ?_ | refine yg ?_ | refine yd ?_ | (refine ye ?_) | (refine yf ?_) | (refine yc ?_; try simp only [z01, z00]) | (refine z0f ?_; simp (config := { maxSteps := 2000000 }) (disch := first | omega | rfl) only [sV, sD, sB, Nat.reduceEqDiff, Nat.reduceAdd, Value.cells, one, reduceCtorEq, Nat.reduceLeDiff, layC, ld3, z4e, bd37, cl31, q14, q15, isAlloc, isRead, reduceCtorEq]))
   have hR5 := hR.keep hx25 hw
   have ho1 : (occ t).length = 1 := by rw [zcx hft k1]; rfl
   refine (zmx (x := ⟨t.var, ⟨u, a5, c5, fun _ => False⟩⟩) hR5.row (by unfold most; omega) (by have := hx25.next; omega) hx25.wf).mono ?_
   rintro v H6 ⟨k6, k, b6, c6, hk, rfl, hrow, hgt, hle⟩
   repeat' (first | refine ya ?_ | refine yg ?_ | refine yd ?_ | (refine ye ?_) | (refine yf ?_) | (refine yc ?_; try simp only [z01, z00]) | (refine z0f ?_; simp (config := { maxSteps := 2000000 }) (disch := first | omega | rfl) only [sD, sB, Nat.reduceEqDiff, Nat.reduceAdd, reduceCtorEq, isAlloc, isRead, reduceCtorEq]))
   obtain ⟨hR6, hl6⟩ := (hR5.keep k6 hx25.wf).into (x := ⟨t.var, ⟨u, a5, c5, fun _ => False⟩⟩) hl hk hgt hle hrow (rt5.keep k6 hx25.wf)
   refine z0j rfl (by simp only [sB, Nat.reduceEqDiff, reduceCtorEq] <;> rfl) (by simp only [sB, Nat.reduceEqDiff, reduceCtorEq] <;> rfl) ⟨hx25.trans k6, .inl ⟨_, _, some ⟨b6, 0, none⟩, c6, by rw [z1u k1, hl], by rw [hl6], hR6, by omega⟩⟩
 have k0 : t.kind ≠ 1 := k1
 by_cases k1 : t.kind = u.kind
 rotate_left
 ·repeat' (first | refine ya ?_ | refine yg ?_ | refine yd ?_ | (refine ye ?_; try simp only [z02]) | (refine yf ?_) | (refine yc ?_; try simp only [z01, z00]) | (refine yb ?_; simp (config := { maxSteps := 2000000 }) (disch := first | omega | rfl) only [sB, Nat.reduceEqDiff, reduceCtorEq, z10, ld3, z0x k0, z35 k1, q1, q2]) | (refine yh ?_ ?_; simp (config := { maxSteps := 2000000 }) (disch := first | omega | rfl) only [sB, Nat.reduceEqDiff, reduceCtorEq]; refine z03 ?_) | (refine yi ?_ ?_; simp (config := { maxSteps := 2000000 }) (disch := first | omega | rfl) only [sB, Nat.reduceEqDiff, reduceCtorEq]; refine z03 ?_))
  exact z0j rfl (by simp only [sB, Nat.reduceEqDiff, reduceCtorEq] <;> rfl) (by simp only [sG, Nat.reduceEqDiff, reduceCtorEq] <;> rfl) ⟨hx2, .inr ⟨z1a k0 fun h => k1 h.1, _, rfl⟩⟩
 by_cases k2 : t.name = u.name
 rotate_left
 ·repeat' (first | refine ya ?_ | refine yg ?_ | refine yd ?_ | (refine ye ?_; try simp only [z02]) | (refine yf ?_) | (refine yc ?_; try simp only [z01, z00]) | (refine yb ?_; simp (config := { maxSteps := 2000000 }) (disch := first | omega | rfl) only [sB, Nat.reduceEqDiff, reduceCtorEq, z10, ld3, z2b, ld9, z0x k0, z14 k1, q1, q2, z0n, z8h k2, Bool.not_false, Bool.false_eq_true]) | (refine yh ?_ ?_; simp (config := { maxSteps := 2000000 }) (disch := first | omega | rfl) only [sB, Nat.reduceEqDiff, reduceCtorEq]; refine z03 ?_) | (refine yi ?_ ?_; simp (config := { maxSteps := 2000000 }) (disch := first | omega | rfl) only [sB, Nat.reduceEqDiff, reduceCtorEq]; refine z03 ?_))
  exact z0j rfl (by simp only [sB, Nat.reduceEqDiff, reduceCtorEq] <;> rfl) (by simp only [sG, Nat.reduceEqDiff, reduceCtorEq] <;> rfl) ⟨hx2, .inr ⟨z1a k0 fun h => k2 h.2.1, _, rfl⟩⟩
 by_cases k3 : t.num = u.num
 rotate_left
 ·repeat' (first | refine ya ?_ | refine yg ?_ | refine yd ?_ | (refine ye ?_; try simp only [z02]) | (refine yf ?_) | (refine yc ?_; try simp only [z01, z00]) | (refine yb ?_; simp (config := { maxSteps := 2000000 }) (disch := first | omega | rfl) only [sB, Nat.reduceEqDiff, reduceCtorEq, z10, ld3, z2b, ld9, z2s, z0x k0, z14 k1, q1, q2, z0n, z1i k2, z8h k3, Bool.not_false, Bool.not_true, Bool.false_eq_true]) | (refine yh ?_ ?_; simp (config := { maxSteps := 2000000 }) (disch := first | omega | rfl) only [sB, Nat.reduceEqDiff, reduceCtorEq]; refine z03 ?_) | (refine yi ?_ ?_; simp (config := { maxSteps := 2000000 }) (disch := first | omega | rfl) only [sB, Nat.reduceEqDiff, reduceCtorEq]; refine z03 ?_))
  exact z0j rfl (by simp only [sB, Nat.reduceEqDiff, reduceCtorEq] <;> rfl) (by simp only [sG, Nat.reduceEqDiff, reduceCtorEq] <;> rfl) ⟨hx2, .inr ⟨z1a k0 fun h => k3 h.2.2.1, _, rfl⟩⟩
 by_cases k4 : t.bits = u.bits
 rotate_left
 ·repeat' (first | refine ya ?_ | refine yg ?_ | refine yd ?_ | (refine ye ?_; try simp only [z02]) | (refine yf ?_) | (refine yc ?_; try simp only [z01, z00]) | (refine yb ?_; simp (config := { maxSteps := 2000000 }) (disch := first | omega | rfl) only [sB, Nat.reduceEqDiff, reduceCtorEq, z10, ld3, z2b, ld9, z2s, z3p, ld22, z0x k0, z14 k1, q1, q2, z0n, z1i k2, z1i k3, z35 k4, Bool.not_true, Bool.false_eq_true]) | (refine yh ?_ ?_; simp (config := { maxSteps := 2000000 }) (disch := first | omega | rfl) only [sB, Nat.reduceEqDiff, reduceCtorEq]; refine z03 ?_) | (refine yi ?_ ?_; simp (config := { maxSteps := 2000000 }) (disch := first | omega | rfl) only [sB, Nat.reduceEqDiff, reduceCtorEq]; refine z03 ?_))
  exact z0j rfl (by simp only [sB, Nat.reduceEqDiff, reduceCtorEq] <;> rfl) (by simp only [sG, Nat.reduceEqDiff, reduceCtorEq] <;> rfl) ⟨hx2, .inr ⟨z1a k0 fun h => k4 h.2.2.2.1, _, rfl⟩⟩
 by_cases k6 : (t.args.length : Int) = u.args.length
 rotate_left
 ·repeat' (first | refine ya ?_ | refine yg ?_ | refine yd ?_ | (refine ye ?_; try simp only [z02]) | (refine yf ?_) | (refine yc ?_; try simp only [z01, z00]) | (refine yb ?_; simp (config := { maxSteps := 2000000 }) (disch := first | omega | rfl) only [sB, Nat.reduceEqDiff, reduceCtorEq, z10, ld3, z2b, ld9, z2s, z3p, ld22, z0t, ld23, ln23, z0x k0, z14 k1, q1, q2, z0n, z1i k2, z1i k3, z14 k4, z35 k6, Bool.not_true, Bool.false_eq_true]) | (refine yh ?_ ?_; simp (config := { maxSteps := 2000000 }) (disch := first | omega | rfl) only [sB, Nat.reduceEqDiff, reduceCtorEq]; refine z03 ?_) | (refine yi ?_ ?_; simp (config := { maxSteps := 2000000 }) (disch := first | omega | rfl) only [sB, Nat.reduceEqDiff, reduceCtorEq]; refine z03 ?_))
  exact z0j rfl (by simp only [sB, Nat.reduceEqDiff, reduceCtorEq] <;> rfl) (by simp only [sG, Nat.reduceEqDiff, reduceCtorEq] <;> rfl) ⟨hx2, .inr ⟨z1a k0 fun h => k6 (by rw [h.2.2.2.2]), _, rfl⟩⟩
 have hlen6 : t.args.length = u.args.length := by omega
 have hmx := rl.max
 have hyes : ∀ M, matchS t u M = matchL t.args u.args M := fun M => z4b k0 ⟨k1, k2, k3, k4, hlen6⟩
 repeat' (first | refine ya ?_ | refine yg ?_ | refine yd ?_ | (refine ye ?_; try simp only [z02]) | (refine yf ?_) | (refine yc ?_; try simp only [z01, z00]) | (refine yb ?_; simp (config := { maxSteps := 2000000 }) (disch := first | omega | rfl) only [sB, Nat.reduceEqDiff, reduceCtorEq, z10, ld3, z2b, ld9, z2s, z3p, ld22, z0t, ld23, ln23, z0x k0, z14 k1, q1, q2, z0n, z1i k2, z1i k3, z14 k4, z14 k6, Bool.not_true, Bool.false_eq_true]) | (refine yh ?_ ?_; simp (config := { maxSteps := 2000000 }) (disch := first | omega | rfl) only [sB, Nat.reduceEqDiff, reduceCtorEq]; refine z03 ?_) | (refine yi ?_ ?_; simp (config := { maxSteps := 2000000 }) (disch := first | omega | rfl) only [sB, Nat.reduceEqDiff, reduceCtorEq]; refine z03 ?_))
 refine yk (fun k st => ∃ tm H' i M' L' a2 c2, st = ⟨tm, [], H'⟩ ∧ k = t.args.length - i ∧ i ≤ t.args.length ∧ matchL (t.args.drop i) (u.args.drop i) M' = matchS t u M ∧
   tm.get 2 = some (.slice a2 L'.length c2) ∧ tm.get 3 = some (.pointer (some ⟨H.next, 0, none⟩)) ∧ tm.get 4 = some (.pointer (some ⟨H.next + 1, 0, none⟩)) ∧ tm.get 10 = some (.int .i64 (i : Nat)) ∧
   RefL H' H0.next M' a2 c2 L' ∧ L'.length + (occL (t.args.drop i)).length ≤ L.length + (occ t).length ∧ HX H2 H') ?_ t.args.length _ ?_
 ·rintro k st ⟨tm, H', i, M', L', a2, c2, rfl, rfl, hi, hml, t2, t3, t4, t10, hR', hlo, hx'⟩
  have hw' := hx'.wf
  have hxx := (hx0.trans hx2).trans hx'
  have q1 := row6 (hx'.get hw2 gt)
  have q2 := row6 (hx'.get hw2 gu)
  by_cases hlt : i < t.args.length
  ·have hlt' : i < u.args.length := by omega
   obtain ⟨b, o, a1, c1, rfl, hld, hr1⟩ := rl.el hlt
   obtain ⟨b', o', a3, c3, rfl, hld', hr2⟩ := rl'.el hlt'
   have hld1 := hxx.load hw0 hld
   have hld2 := hxx.load hw0 hld'
   have hb := (HX.refl hw').bump 17
   have hs := z15 (List.getElem?_eq_getElem hlt)
   have hod : occL (t.args.drop i) = occ t.args[i] ++ occL (t.args.drop (i + 1)) := by rw [List.drop_eq_getElem_cons hlt, occL]
   rw [hod, List.length_append] at hlo
   repeat' (first | refine ya ?_ | refine yg ?_ | refine yd ?_ | (refine ye ?_; try simp only [z02]) | (refine yf ?_) | (refine yc ?_; try simp only [z01, z00]) | (refine yb ?_; simp (config := { maxSteps := 2000000 }) (disch := first | omega | rfl) only [sB, Nat.reduceEqDiff, z0t, ld23, ln23, t3, t10, q1, decl hlt]) | (refine yj (id := 11) [([(0, 0), (1, 0), (2, 0), (3, 0), (4, 0), (5, 0), (6, 0), (7, 0), (8, 0), (9, 0), (10, 0)], some 11), ([(12, 1), (13, 1), (14, 1), (15, 1), (16, 1)], none)] ?_ ?_; kernel_rfl; simp (config := { maxSteps := 2000000 }) (disch := first | omega | rfl) only [sD, sB, Nat.reduceEqDiff, Nat.reduceAdd, reduceCtorEq, ld25, z0t, ld23, ia23, cl7, t2, t3, t4, t10, q1, q2, hld1, hld2, isAlloc, isRead, reduceCtorEq]) | (refine yh ?_ ?_; simp (config := { maxSteps := 2000000 }) (disch := first | omega | rfl) only [sB, Nat.reduceEqDiff]; refine z03 ?_))
   refine (ih (t := t.args[i]) (u := u.args[i]) (M := M') (L := L') (by omega) hr1 hr2 (hft.args _ (List.getElem_mem _)) (hfu.args _ (List.getElem_mem _)) (hxx.trans hb) (hR'.keep hb hw') (by omega)).mono ?_
   rintro v H4 ⟨k4, h4⟩
   have hx4 := hx'.trans (hb.trans k4)
   rw [zbi hlt hlt'] at hml
   rcases h4 with ⟨M4, L4, a4, c4, e4, rfl, hR4, hl4⟩ | ⟨e4, w, rfl⟩
   ·simp only [e4] at hml
    repeat' (first | refine ya ?_ | refine yg ?_ | refine yd ?_ | (refine ye ?_; try simp only [z02]) | (refine yf ?_) | (refine yc ?_; try simp only [z01, z00]) | (refine yb ?_; simp (config := { maxSteps := 2000000 }) (disch := first | omega | rfl) only [sB, Nat.reduceEqDiff, Bool.not_true, t10, z06]) | (refine z0f ?_; simp (config := { maxSteps := 2000000 }) (disch := first | omega | rfl) only [sD, sB, Nat.reduceEqDiff, isAlloc, isRead]) | (refine yh ?_ ?_; simp (config := { maxSteps := 2000000 }) (disch := first | omega | rfl) only [sB, Nat.reduceEqDiff]; refine z03 ?_) | (refine yi ?_ ?_; simp (config := { maxSteps := 2000000 }) (disch := first | omega | rfl) only [sB, Nat.reduceEqDiff]; refine z03 ?_))
    exact ⟨t.args.length - (i + 1), by omega, _, _, i + 1, M4, L4, a4, c4, rfl, rfl, by omega, hml, (by simp only [sG, Nat.reduceEqDiff] <;> rfl), (by simp only [sG, Nat.reduceEqDiff, t3] <;> rfl), (by simp only [sG, Nat.reduceEqDiff, t4] <;> rfl), (by simp only [sB, Nat.reduceEqDiff] <;> rfl), hR4, by omega, hx4⟩
   ·simp only [e4] at hml
    repeat' (first | refine ya ?_ | refine yg ?_ | refine yd ?_ | (refine ye ?_) | (refine yf ?_) | (refine yc ?_; try simp only [z01, z00]) | (refine yb ?_; simp (config := { maxSteps := 2000000 }) (disch := first | omega | rfl) only [sB, Nat.reduceEqDiff, Bool.not_false]) | (refine z0f ?_; simp (config := { maxSteps := 2000000 }) (disch := first | omega | rfl) only [sD, sB, Nat.reduceEqDiff, isAlloc, isRead]) | (refine yh ?_ ?_; simp (config := { maxSteps := 2000000 }) (disch := first | omega | rfl) only [sB, Nat.reduceEqDiff]; refine z03 ?_))
    exact z0j rfl (by simp only [sB, Nat.reduceEqDiff] <;> rfl) (by simp only [sG, Nat.reduceEqDiff] <;> rfl) ⟨hx2.trans hx4, .inr ⟨hml.symm, _, rfl⟩⟩
  ·obtain rfl : i = t.args.length := by omega
   repeat' (first | refine ya ?_ | refine yg ?_ | refine yd ?_ | (refine ye ?_) | (refine yf ?_; try simp only [sB]) | (refine yc ?_; try simp only [z01, z00]) | (refine yb ?_; simp (config := { maxSteps := 2000000 }) (disch := first | omega | rfl) only [sB, Nat.reduceEqDiff, z0t, ld23, ln23, t2, t3, t10, q1, decn hlt]) | (refine yh ?_ ?_; simp (config := { maxSteps := 2000000 }) (disch := first | omega | rfl) only [sB, Nat.reduceEqDiff]; refine z03 ?_) | (refine yi ?_ ?_; simp (config := { maxSteps := 2000000 }) (disch := first | omega | rfl) only [sB, Nat.reduceEqDiff]; refine z03 ?_))
   rw [List.drop_of_length_le (Nat.le_refl _), matchL] at hml
   rw [List.drop_of_length_le (Nat.le_refl _), occL] at hlo
   exact z0j rfl (by simp only [sG, Nat.reduceEqDiff] <;> rfl) (by simp only [sG, Nat.reduceEqDiff] <;> rfl) ⟨hx2.trans hx', .inl ⟨M', L', a2, c2, hml.symm, rfl, hR', by simpa using hlo⟩⟩
 ·exact ⟨_, _, 0, M, L, al, cl, rfl, rfl, Nat.zero_le _, by rw [List.drop_zero, List.drop_zero, hyes], (by simp only [sG, Nat.reduceEqDiff, reduceCtorEq] <;> rfl), (by simp only [sG, Nat.reduceEqDiff, reduceCtorEq] <;> rfl), (by simp only [sG, Nat.reduceEqDiff, reduceCtorEq] <;> rfl), (by simp only [sB, Nat.reduceEqDiff, reduceCtorEq] <;> rfl), hR.keep hx2 hw, by rw [List.drop_zero, zic k0]; exact Nat.le_refl _, HX.refl hw2⟩
theorem zcy {H : Heap} (hw : H.wf) : EvF Tryz.prog okT 4 [] H fun v H' => v = .bool true ∧ HX H H' := zj4 hw
noncomputable def eqBs (l l' : List (Int × Tm)) : Bool := @decide (l = l') (Classical.propDecidable _)
theorem zih {l l' : List (Int × Tm)} (h : l = l') : eqBs l l' = true := by unfold eqBs; exact @decide_eq_true _ (Classical.propDecidable _) h
theorem zii {l l' : List (Int × Tm)} (h : l ≠ l') : eqBs l l' = false := by unfold eqBs; exact @decide_eq_false _ (Classical.propDecidable _) h
set_option maxHeartbeats 8000000 in
theorem z61 {B B' : List (Int × Tm)} {a a' : Option Addr} {c c' n n' : Nat} {H : Heap} (h : RepBs H B a c) (h' : RepBs H B' a' c') (hn : B.length = n) (hn' : B'.length = n') (hw : H.wf) :
  EvF Tryz.prog okT 8 [.slice a n c, .slice a' n' c'] H fun v H' => v = .bool (eqBs B B') ∧ HX H H' := by
 subst hn hn'
 have hm := h.max
 refine EvF.enter rfl Tryz.func8 (by decide) rfl ?_
 by_cases k6 : (B.length : Int) = B'.length
 rotate_left
 ·repeat' (first | refine ya ?_ | refine yg ?_ | refine yd ?_ | (refine ye ?_) | (refine yf ?_) | (refine yc ?_; try simp only [z01, z00]) | (refine yb ?_; simp (config := { maxSteps := 2000000 }) (disch := first | omega | rfl) only [sB, initTm, Nat.reduceEqDiff, reduceCtorEq, ln27, z35 k6]) | (refine yh ?_ ?_; simp (config := { maxSteps := 2000000 }) (disch := first | omega | rfl) only [sB, Nat.reduceEqDiff, reduceCtorEq]; refine z03 ?_))
  exact z04 rfl (by simp only [sB, Nat.reduceEqDiff, reduceCtorEq] <;> rfl) ⟨by rw [zii (fun h => k6 (by rw [h]))], HX.refl hw⟩
 have hlen : B.length = B'.length := by omega
 repeat' (first | refine ya ?_ | refine yg ?_ | refine yd ?_ | (refine ye ?_; try simp only [z02]) | (refine yf ?_) | (refine yc ?_; try simp only [z01, z00]) | (refine yb ?_; simp (config := { maxSteps := 2000000 }) (disch := first | omega | rfl) only [sB, initTm, Nat.reduceEqDiff, reduceCtorEq, ln27, z14 k6]) | (refine yh ?_ ?_; simp (config := { maxSteps := 2000000 }) (disch := first | omega | rfl) only [sB, Nat.reduceEqDiff, reduceCtorEq]; refine z03 ?_) | (refine yi ?_ ?_; simp (config := { maxSteps := 2000000 }) (disch := first | omega | rfl) only [sB, Nat.reduceEqDiff, reduceCtorEq]; refine z03 ?_))
 refine yk (fun k st => ∃ tm H' i, st = ⟨tm, [], H'⟩ ∧ k = B.length - i ∧ i ≤ B.length ∧ (∀ j : Nat, j < i → B[j]? = B'[j]?) ∧
   tm.get 0 = some (.slice a B.length c) ∧ tm.get 1 = some (.slice a' B'.length c') ∧ tm.get 5 = some (.int .i64 (i : Nat)) ∧ HX H H') ?_ B.length _ ?_
 ·rintro k st ⟨tm, H', i, rfl, rfl, hi, hc, t0, t1, t5, hx'⟩
  by_cases hlt : i < B.length
  ·have hlt' : i < B'.length := by omega
   obtain ⟨b, o, a1, c1, rfl, l1, l2, r1⟩ := h.el i hlt
   obtain ⟨b', o', a2, c2, rfl, l1', l2', r2⟩ := h'.el i hlt'
   have l1 := hx'.load hw l1
   have l2 := hx'.load hw l2
   have l1' := hx'.load hw l1'
   have l2' := hx'.load hw l2'
   repeat' (first | refine ya ?_ | refine yg ?_ | refine yd ?_ | (refine ye ?_; try simp only [z02]) | (refine yf ?_) | (refine yc ?_; try simp only [z01, z00]) | (refine yb ?_; simp (config := { maxSteps := 2000000 }) (disch := first | omega | rfl) only [sB, Nat.reduceEqDiff, reduceCtorEq, ln27, t0, t5, decl hlt]) | (refine yj (id := 6) [([(0, 0), (1, 0), (2, 0), (3, 0), (4, 0), (5, 0), (6, 0), (7, 0), (8, 0), (9, 0)], some 10), ([(11, 1)], none)] ?_ ?_; kernel_rfl; simp (config := { maxSteps := 2000000 }) (disch := first | omega | rfl) only [sD, sB, Nat.reduceEqDiff, Nat.reduceAdd, reduceCtorEq, ia27, zgt, ld25, cl30, t0, t1, t5, l2, l2', isAlloc, isRead, reduceCtorEq]) | (refine yh ?_ ?_; simp (config := { maxSteps := 2000000 }) (disch := first | omega | rfl) only [sB, Nat.reduceEqDiff]; refine z03 ?_))
   have hb := hx'.bump 12
   refine (z8i (r1.mono hb hw) (r2.mono hb hw) hb.wf).mono ?_
   rintro v H4 ⟨rfl, hx4⟩
   have hx5 := hb.trans hx4
   have l1 := hx4.load hb.wf (show Heap.load ⟨H'.next + 12, H'.t⟩ _ _ = _ from l1)
   have l1' := hx4.load hb.wf (show Heap.load ⟨H'.next + 12, H'.t⟩ _ _ = _ from l1')
   by_cases he : B[i].2 = B'[i].2
   rotate_left
   ·repeat' (first | refine ya ?_ | refine yg ?_ | refine yd ?_ | (refine ye ?_) | (refine yf ?_) | (refine yc ?_; try simp only [z01, z00]) | (refine yb ?_; simp (config := { maxSteps := 2000000 }) (disch := first | omega | rfl) only [sA]) | (refine yj (id := 7) [([(0, 0), (1, 0), (2, 0), (3, 0), (4, 0), (5, 0), (6, 0), (7, 0), (8, 0), (9, 0), (10, 0), (11, 0), (12, 0), (13, 0), (14, 0)], none)] ?_ ?_; kernel_rfl; simp (config := { maxSteps := 2000000 }) (disch := first | omega | rfl) only [sD, sB, Nat.reduceEqDiff, Nat.reduceAdd, Bool.not_false, isAlloc, isRead]) | (refine z0f ?_; simp (config := { maxSteps := 2000000 }) (disch := first | omega | rfl) only [sD, sB, Nat.reduceEqDiff, z7q he, isAlloc, isRead]) | (refine yh ?_ ?_; simp (config := { maxSteps := 2000000 }) (disch := first | omega | rfl) only [sB, Nat.reduceEqDiff]; refine z03 ?_))
    refine z04 rfl (by simp only [sB, Nat.reduceEqDiff] <;> rfl) ⟨?_, hx5.bump _⟩
    rw [zii]
    rintro rfl
    exact he rfl
   by_cases hv : B[i].1 = B'[i].1
   ·repeat' (first | refine ya ?_ | refine yg ?_ | refine yd ?_ | (refine ye ?_; try simp only [sA]) | (refine yf ?_) | (refine yc ?_; try simp only [z01, z00]) | (refine yb ?_; simp (config := { maxSteps := 2000000 }) (disch := first | omega | rfl) only [sB, Nat.reduceEqDiff, t5, z06]) | (refine yj (id := 7) [([(0, 0), (1, 0), (2, 0), (3, 0), (4, 0), (5, 0), (6, 0), (7, 0), (8, 0), (9, 0), (10, 0), (11, 0), (12, 0), (13, 0), (14, 0)], none)] ?_ ?_; kernel_rfl; simp (config := { maxSteps := 2000000 }) (disch := first | omega | rfl) only [sD, sB, Nat.reduceEqDiff, Nat.reduceAdd, reduceCtorEq, ia27, z75, ld3, t0, t1, t5, Bool.not_true, Bool.false_eq_true, l1, l1', z14 hv, isAlloc, isRead, reduceCtorEq]) | (refine z0f ?_; simp (config := { maxSteps := 2000000 }) (disch := first | omega | rfl) only [sD, sB, Nat.reduceEqDiff, zi1 he, isAlloc, isRead]) | (refine yh ?_ ?_; simp (config := { maxSteps := 2000000 }) (disch := first | omega | rfl) only [sB, Nat.reduceEqDiff]; refine z03 ?_) | (refine yi ?_ ?_; simp (config := { maxSteps := 2000000 }) (disch := first | omega | rfl) only [sB, Nat.reduceEqDiff]; refine z03 ?_))
    refine ⟨B.length - (i + 1), by omega, _, _, i + 1, rfl, rfl, by omega, fun j hj => ?_, (by simp only [sG, reduceCtorEq, t0] <;> rfl), (by simp only [sG, Nat.reduceEqDiff, t1] <;> rfl), (by simp only [sB, Nat.reduceEqDiff] <;> rfl), hx5.bump _⟩
    by_cases hji : j = i
    ·subst hji; rw [List.getElem?_eq_getElem hlt, List.getElem?_eq_getElem hlt']
     exact congrArg some (Prod.ext hv he)
    ·exact hc j (by omega)
   ·repeat' (first | refine ya ?_ | refine yg ?_ | refine yd ?_ | (refine ye ?_) | (refine yf ?_) | (refine yc ?_; try simp only [z01, z00]) | (refine yb ?_; simp (config := { maxSteps := 2000000 }) (disch := first | omega | rfl) only [sA]) | (refine yj (id := 7) [([(0, 0), (1, 0), (2, 0), (3, 0), (4, 0), (5, 0), (6, 0), (7, 0), (8, 0), (9, 0), (10, 0), (11, 0), (12, 0), (13, 0), (14, 0)], none)] ?_ ?_; kernel_rfl; simp (config := { maxSteps := 2000000 }) (disch := first | omega | rfl) only [sD, sB, Nat.reduceEqDiff, Nat.reduceAdd, reduceCtorEq, ia27, z75, ld3, t0, t1, t5, Bool.not_true, Bool.false_eq_true, l1, l1', z35 hv, isAlloc, isRead, reduceCtorEq]) | (refine z0f ?_; simp (config := { maxSteps := 2000000 }) (disch := first | omega | rfl) only [sD, sB, Nat.reduceEqDiff, zi1 he, isAlloc, isRead]) | (refine yh ?_ ?_; simp (config := { maxSteps := 2000000 }) (disch := first | omega | rfl) only [sB, Nat.reduceEqDiff]; refine z03 ?_))
    refine z04 rfl (by simp only [sB, Nat.reduceEqDiff] <;> rfl) ⟨?_, hx5.bump _⟩
    rw [zii]
    rintro rfl
    exact hv rfl
  ·repeat' (first | refine ya ?_ | refine yg ?_ | refine yd ?_ | (refine ye ?_) | (refine yf ?_; try simp only [sB]) | (refine yc ?_; try simp only [z01, z00]) | (refine yb ?_; simp (config := { maxSteps := 2000000 }) (disch := first | omega | rfl) only [sB, Nat.reduceEqDiff, reduceCtorEq, ln27, t0, t5, decn hlt]) | (refine yh ?_ ?_; simp (config := { maxSteps := 2000000 }) (disch := first | omega | rfl) only [sB, Nat.reduceEqDiff]; refine z03 ?_) | (refine yi ?_ ?_; simp (config := { maxSteps := 2000000 }) (disch := first | omega | rfl) only [sB, Nat.reduceEqDiff]; refine z03 ?_))
   refine z04 rfl (by simp only [sB, Nat.reduceEqDiff] <;> rfl) ⟨?_, hx'⟩
   rw [zih]
   refine List.ext_getElem? fun j => ?_
   by_cases hj : j < i
   ·exact hc j hj
   ·rw [List.getElem?_eq_none (by omega), List.getElem?_eq_none (by omega)]
 ·exact ⟨_, _, 0, rfl, rfl, by omega, by omega, (by simp only [sG, reduceCtorEq] <;> rfl), (by simp only [sG, Nat.reduceEqDiff, reduceCtorEq] <;> rfl), (by simp only [sB, Nat.reduceEqDiff, reduceCtorEq] <;> rfl), HX.refl hw⟩
theorem RepB7.bs {H : Heap} {B : List (Int × Tm)} {a : Option Addr} {c : Nat} (h : RepB7 H B a c) : RepBs H B a c := by
 refine ⟨h.len, h.cap, fun i hi => ?_⟩
 obtain ⟨b, o, a', c', e, l, r⟩ := h.el i hi
 have key : H.load ⟨b, o + i * 7, none⟩ 1 = some [.int .i64 B[i].1] ∧ H.load ⟨b, o + i * 7 + 1, none⟩ 6 = some (six B[i].2 a' c') := by
  unfold Heap.load at l ⊢
  cases hc : H.cells b with
  | none => simp [hc] at l
  | some cs =>
   simp only [hc] at l ⊢
   split at l
   ·rename_i hl
    have e7 : (cs.drop (o + i * 7)).take 7 = seven B[i].1 B[i].2 a' c' := Option.some.inj l
    have e1 : (cs.drop (o + i * 7)).take 1 = [.int .i64 B[i].1] := by
     have := congrArg (fun l => l.take 1) e7
     simpa [List.take_take] using this
    have e6 : (cs.drop (o + i * 7 + 1)).take 6 = six B[i].2 a' c' := by
     have := congrArg (fun l => l.drop 1) e7
     rw [List.drop_take] at this
     rw [← List.drop_drop]
     simpa using this
    rw [e1, e6]
    exact ⟨rfl, rfl⟩
   ·cases l
 exact ⟨b, o, a', c', e, key.1, key.2, r⟩
theorem zen {t u : Tm} {M : List (Int × Tm)} {L L' : List (Int × Tm)} (h : Told t u L) (hM : matchS t u [] = some M) (hs : L'.Pairwise fun p q => p.1 < q.1) (hl : ∀ n, lookT L' n = lookT M n) (hk : ∀ n, lookT M n ≠ none → n ∈ occ t) : L = L' := by
 obtain ⟨M', e1, -, hmem⟩ := h.ex
 rw [hM] at e1
 cases e1
 have hm : ∀ p, p ∈ L ↔ p ∈ L' := fun p => by
  rw [hmem]
  constructor
  ·rintro ⟨-, h2⟩
   rw [← hl] at h2
   have := z3a h2
   obtain ⟨p1, p2⟩ := p
   exact this
  ·intro hp
   have := (z4p hs).1 p hp
   rw [hl] at this
   exact ⟨hk _ (by rw [this]; exact fun q => by cases q), this⟩
 have key : ∀ (L L' : List (Int × Tm)), L.Pairwise (fun p q => p.1 < q.1) → L'.Pairwise (fun p q => p.1 < q.1) → (∀ p, p ∈ L ↔ p ∈ L') → L = L' := by
  intro L
  induction L with
  | nil =>
   intro L' _ _ h
   cases L' with
   | nil => rfl
   | cons q L' => exact absurd ((h q).2 (by simp)) (by simp)
  | cons p L ih =>
   intro L' h1 h2 h
   cases L' with
   | nil => exact absurd ((h p).1 (by simp)) (by simp)
   | cons q L' =>
    rw [List.pairwise_cons] at h1 h2
    have e : p = q := by
     rcases List.mem_cons.1 ((h p).1 (by simp)) with e | hp
     ·exact e
     ·rcases List.mem_cons.1 ((h q).2 (by simp)) with e | hq
      ·exact e.symm
      ·have := h2.1 p hp; have := h1.1 q hq; omega
    subst e
    congr 1
    refine ih L' h1.2 h2.2 fun r => ?_
    constructor
    ·intro hr
     rcases List.mem_cons.1 ((h r).1 (List.mem_cons_of_mem _ hr)) with e | hr'
     ·subst e; have := h1.1 r hr; omega
     ·exact hr'
    ·intro hr
     rcases List.mem_cons.1 ((h r).2 (List.mem_cons_of_mem _ hr)) with e | hr'
     ·subst e; have := h2.1 r hr; omega
     ·exact hr'
 exact key L L' h.srt hs hm
theorem z8n : ∀ (m : Nat) {t u : Tm} {M M' : List (Int × Tm)}, SizeOf.sizeOf t < m → Fine t → matchS t u M = some M' → ∀ n, lookT M' n ≠ none → lookT M n ≠ none ∨ n ∈ occ t
 | 0, t, u, M, M', h, _, _ => by omega
 | m + 1, t, u, M, M', h, f, hm => by
  by_cases k : t.kind = 1
  ·rw [z1u k] at hm
   rw [zcx f k]
   cases hl : lookT M t.var with
   | some old =>
    rw [hl] at hm
    simp only at hm
    split at hm
    ·cases hm; exact fun n hn => .inl hn
    ·cases hm
   | none =>
    rw [hl] at hm
    cases hm
    intro n hn
    rw [z48 hl] at hn
    by_cases e : n = t.var
    ·exact .inr (by rw [e]; simp)
    ·rw [if_neg e] at hn; exact .inl hn
  ·by_cases hal : alike t u
   ·rw [z4b k hal] at hm
    rw [zic k]
    have go : ∀ (l mm : List Tm) (M M' : List (Int × Tm)), (∀ u ∈ l, SizeOf.sizeOf u < m ∧ Fine u) → matchL l mm M = some M' → ∀ n, lookT M' n ≠ none → lookT M n ≠ none ∨ n ∈ occL l := by
     intro l
     induction l with
     | nil => intro mm M M' _ h n hn; rw [matchL] at h; cases h; exact .inl hn
     | cons x l ih =>
      intro mm M M' hl h n hn
      rw [matchL] at h
      cases e1 : matchS x (mm.headD x) M with
      | none => rw [e1] at h; cases h
      | some M1 =>
       rw [e1] at h
       rw [occL]
       rcases ih _ M1 M' (fun u hu => hl u (List.mem_cons_of_mem _ hu)) h n hn with h2 | h2
       ·rcases z8n m (hl x (by simp)).1 (hl x (by simp)).2 e1 n h2 with h3 | h3
        ·exact .inl h3
        ·exact .inr (List.mem_append_left _ h3)
       ·exact .inr (List.mem_append_right _ h2)
    exact go t.args u.args M M' (fun u hu => ⟨by have := z18 hu; omega, f.args u hu⟩) hm
   ·rw [z1a k hal] at hm; cases hm
theorem RowB.load6 {H : Heap} {T : TypeId} {b n : Nat} {D : Nat → Bnd} (h : RowB H T b n D) {k : Nat} (hk : k < n) : H.load ⟨b, k * 7 + 1, none⟩ 6 = some (D k).e.six := by
 obtain ⟨cells, hg, hl, he⟩ := h
 have e7 := he k hk
 have e6 : (cells.drop (k * 7 + 1)).take 6 = (D k).e.six := by
  have := congrArg (fun l => l.drop 1) e7
  rw [List.drop_take] at this
  rw [← List.drop_drop]
  simpa using this
 unfold Heap.load Heap.cells
 simp only [hg, e6]
 rfl
theorem BsF.beside {H H' : Heap} {S S' : Nat → Prop} {n : Nat} {a : Option Addr} {c : Nat} {D : Nat → Bnd} (h : BsF H S n a c D) (hx : HK S' H H') (hw : H.wf) (hd : ∀ n, S n → ¬ S' n) : BsF H' S n a c D := by
 rcases h with h | ⟨b, ea, hn, hm, hr, hb, hel, hone⟩
 ·exact .inl h
 ·obtain ⟨cells, hg, -⟩ := hr.row
  exact .inr ⟨b, ea, hn, hm, hr.heap (hx.keep b (hw _ _ hg) (hd b hb)), hb, fun k hk => ⟨(hel k hk).1, (hel k hk).2.1.beside hx hw (fun x hx => hd x ((hel k hk).2.2 x hx).1), (hel k hk).2.2⟩, hone⟩
theorem BsF.keep {H H' : Heap} {S : Nat → Prop} {n : Nat} {a : Option Addr} {c : Nat} {D : Nat → Bnd} (h : BsF H S n a c D) (hx : HX H H') (hw : H.wf) : BsF H' S n a c D := h.beside (hx.hk fun _ => False) hw fun _ _ q => q
theorem zbo {t u : Tm} {cs cu : List Value} {H : Heap} (r0 : RepT H t cs) (r1 : RepT H u cu) (hw : H.wf) :
  EvF Tryz.prog okT 5 [.agg ⟨cs⟩, .agg ⟨cu⟩] H fun v H' => HX H H' ∧ ∃ n a c D g, v = .tuple ⟨[.slice a n c, .bool g, .int .i64 (chkL [t, u])]⟩ ∧ BsF H' (Rg H.next H'.next) n a c D ∧ n ≤ 4000 ∧
   ((g = true ∧ chkL [t, u] = 0 ∧ Told t u ((rowF n D).map pairB)) ∨ (g = false ∧ n = 0 ∧ (chkL [t, u] = 0 → matchS t u [] = none))) := by
 refine (zk2 r0 r1 hw).mono ?_
 rintro v H' ⟨hx, ⟨h0, n, a, c, D, rfl, hB, hn, hT⟩ | ⟨h0, hM, rfl⟩ | ⟨h0, rfl⟩⟩
 ·exact ⟨hx, n, a, c, D, true, by rw [h0], hB, hn, .inl ⟨rfl, h0, hT⟩⟩
 ·exact ⟨hx, 0, none, 0, fun _ => bnd0, false, by rw [h0], .inl ⟨rfl, rfl, rfl⟩, by omega, .inr ⟨rfl, rfl, fun _ => hM⟩⟩
 ·exact ⟨hx, 0, none, 0, fun _ => bnd0, false, rfl, .inl ⟨rfl, rfl, rfl⟩, by omega, .inr ⟨rfl, rfl, fun h => absurd h h0⟩⟩
theorem zij {t u : Tm} {n : Nat} {D : Nat → Bnd} (h : Told t u ((rowF n D).map pairB)) {k : Nat} (hk : k < n) : Fine (D k).e.t := by
 obtain ⟨M, -, hf, hm⟩ := h.ex
 have hmem : D k ∈ rowF n D := by
  unfold rowF
  exact List.mem_map.2 ⟨k, List.mem_range.2 hk, rfl⟩
 have := ((hm (pairB (D k))).1 (List.mem_map_of_mem hmem)).2
 exact hf _ (z3a this)
def bndX : Bnd := ⟨-1, ⟨zeroT, none, 0, fun _ => False⟩⟩
set_option maxHeartbeats 32000000 in
theorem z7r {t u : Tm} {cs cu : List Value} {H : Heap} (r0 : RepT H t cs) (r1 : RepT H u cu) (hw : H.wf) :
  EvF Tryz.prog okT 3 [.agg ⟨cs⟩, .agg ⟨cu⟩] H fun v _ => v = .bool true := by
 have r00 := r0; have r10 := r1
 obtain ⟨a, c, cells, rfl, -⟩ := r0.six
 obtain ⟨a', c', cells', rfl, -⟩ := r1.six
 refine EvF.enter rfl Tryz.func3 (by decide) rfl ?_
 (repeat refine ya ?_); refine yb ?_; simp (config := { maxSteps := 2000000 }) (disch := first | omega | rfl) only [sB, initTm, dBox, Nat.reduceEqDiff, Value.cells, one, reduceCtorEq]
 obtain ⟨H2, e2, hx2, gt, gu, hn2, hw2⟩ := new2 hw (.row (six t a c) 25) (.row (six u a' c') 25)
 simp only [e2]
 clear e2
 (repeat refine ya ?_); refine yb ?_; simp (config := { maxSteps := 2000000 }) (disch := first | omega | rfl) only [sB, Nat.reduceEqDiff, reduceCtorEq, cl4]
 refine (zcy hw2).mono ?_
 rintro v H3 ⟨rfl, k3⟩
 have gt := k3.get hw2 gt
 have gu := k3.get hw2 gu
 have hx := hx2.trans k3
 have q1 := row6 gt
 have q2 := row6 gu
 try simp (config := { maxSteps := 2000000 }) (disch := first | omega | rfl) only []
 (repeat refine ya ?_); refine yb ?_; simp (config := { maxSteps := 2000000 }) (disch := first | omega | rfl) only [sB, Nat.reduceEqDiff, reduceCtorEq, ld25, cl5, q1, q2]
 refine (zbo (r00.mono hx hw) (r10.mono hx hw) hx.wf).mono ?_
 rintro v H4 ⟨k4, n, al, cl, D, g, rfl, hB, hn4, hg⟩
 have gt := k4.get hx.wf gt
 have gu := k4.get hx.wf gu
 have w3 := hx.wf
 have hx := hx.trans k4
 have q1 := row6 gt
 have q2 := row6 gu
 try simp (config := { maxSteps := 2000000 }) (disch := first | omega | rfl) only [sB, Nat.reduceEqDiff, reduceCtorEq]
 (repeat refine ya ?_); refine yb ?_; simp (config := { maxSteps := 2000000 }) (disch := first | omega | rfl) only [sB, Nat.reduceEqDiff, reduceCtorEq, ld25, cl5, q1, q2]
 refine (zbo (r00.mono hx hw) (r10.mono hx hw) hx.wf).mono ?_
 rintro v H5 ⟨k5, n', al', cl', D', g', rfl, hB', hn4', hg'⟩
 have gt := k5.get hx.wf gt
 have gu := k5.get hx.wf gu
 have w4 := hx.wf
 have hB := hB.keep k5 w4
 have hx := hx.trans k5
 have q1 := row6 gt
 have q2 := row6 gu
 try simp (config := { maxSteps := 2000000 }) (disch := first | omega | rfl) only [sB, Nat.reduceEqDiff, reduceCtorEq]
 (repeat refine ya ?_); refine yb ?_; simp (config := { maxSteps := 2000000 }) (disch := first | omega | rfl) only [sB, Nat.reduceEqDiff, Nat.reduceAdd, Value.cells, one, reduceCtorEq, Nat.reduceLeDiff, layC, ld25, ze2, cl6, q1, q2]
 obtain ⟨H6, e6, k6, g6, hn6, hw6⟩ := new1 hx.wf (.row (six t a c ++ six u a' c') 25)
 have e6' := e6
 simp only [six, List.cons_append, List.nil_append] at e6'
 simp only [e6']
 clear e6 e6'
 have w5 := hx.wf
 have hB := hB.keep k6 w5
 have hB' := hB'.keep k6 w5
 have gt := k6.get w5 gt
 have gu := k6.get w5 gu
 have hx := hx.trans k6
 refine (zk1 (RepL.two (r00.mono hx hw) (r10.mono hx hw) g6) hw6).mono ?_
 rintro v H7 ⟨rfl, k7⟩
 have hB := hB.keep k7 hw6
 have hB' := hB'.keep k7 hw6
 have gt := k7.get hw6 gt
 have gu := k7.get hw6 gu
 have hx := hx.trans k7
 have w7 := hx.wf
 have q1 := row6 gt
 have q2 := row6 gu
 have o4 := k4.next
 have o5 := k5.next
 have o7 := k7.next
 try simp (config := { maxSteps := 2000000 }) (disch := first | omega | rfl) only []
 (repeat refine ya ?_); refine yb ?_; simp (config := { maxSteps := 2000000 }) (disch := first | omega | rfl) only [sA]
 (repeat refine ya ?_); refine yb ?_; simp (config := { maxSteps := 2000000 }) (disch := first | omega | rfl) only [sA]
 refine EvC.cut (fun st => ∃ tm H8 v13 g0, st = ⟨tm, [], H8⟩ ∧ HX H7 H8 ∧ ((g0 = true ∧ g = true ∧ g' = true ∧ ∃ M L a8 c8, v13 = .slice a8 L.length c8 ∧ RefL H8 H7.next M a8 c8 L ∧ L.map pairB = (rowF n D).map pairB ∧ L.map pairB = (rowF n' D').map pairB) ∨ (g0 = false ∧ g = false ∧ g' = false ∧ n = 0 ∧ n' = 0)) ∧
  tm.get 5 = some (.bool true) ∧ tm.get 6 = some (.slice al n cl) ∧ tm.get 7 = some (.bool g) ∧ tm.get 8 = some (.int .i64 (chkL [t, u])) ∧ tm.get 9 = some (.slice al' n' cl') ∧ tm.get 12 = some (.int .i64 (chkL [t, u])) ∧ tm.get 13 = some v13 ∧ tm.get 14 = some (.bool g0)) ?_ ?_
 ·by_cases h0 : chkL [t, u] = 0
  rotate_left
  ·repeat' (first | refine ya ?_ | refine yg ?_ | refine yd ?_ | (refine ye ?_; try simp only [true_and]) | (refine yf ?_) | (refine yc ?_; try simp only [z01, z00]) | (refine yb ?_; simp (config := { maxSteps := 2000000 }) (disch := first | omega | rfl) only [sB, Nat.reduceEqDiff, reduceCtorEq, z0x h0]) | (refine yh ?_ ?_; simp (config := { maxSteps := 2000000 }) (disch := first | omega | rfl) only [sB, Nat.reduceEqDiff, reduceCtorEq]; refine z03 ?_) | (refine yi ?_ ?_; simp (config := { maxSteps := 2000000 }) (disch := first | omega | rfl) only [sB, Nat.reduceEqDiff, reduceCtorEq]; refine z03 ?_))
   rcases hg with ⟨-, h, -⟩ | ⟨rfl, rfl, -⟩
   ·exact absurd h h0
   rcases hg' with ⟨-, h, -⟩ | ⟨rfl, rfl, -⟩
   ·exact absurd h h0
   exact ⟨_, _, .slice none 0 0, false, rfl, HX.refl w7, .inr ⟨rfl, rfl, rfl, rfl, rfl⟩, (by simp only [sG, Nat.reduceEqDiff, reduceCtorEq] <;> rfl), (by simp only [sG, Nat.reduceEqDiff, reduceCtorEq] <;> rfl), (by simp only [sG, Nat.reduceEqDiff, reduceCtorEq] <;> rfl), (by simp only [sG, Nat.reduceEqDiff, reduceCtorEq] <;> rfl), (by simp only [sG, Nat.reduceEqDiff, reduceCtorEq] <;> rfl), (by simp only [sG, Nat.reduceEqDiff, reduceCtorEq] <;> rfl), (by simp only [sG, Nat.reduceEqDiff, reduceCtorEq] <;> rfl), (by simp only [sG, Nat.reduceEqDiff, reduceCtorEq] <;> rfl)⟩
  have hct : checkS t = 0 := z40 h0 t (by simp)
  have hcu : checkS u = 0 := z40 h0 u (by simp)
  have hft := (z39.1 hct).2
  have hfu := (z39.1 hcu).2
  have hfew := zi9 hct
  repeat' (first | refine ya ?_ | refine yg ?_ | refine yd ?_ | (refine ye ?_) | (refine yf ?_) | (refine yc ?_; try simp only [z01, z00]) | (refine yb ?_; simp (config := { maxSteps := 2000000 }) (disch := first | omega | rfl) only [sB, Nat.reduceEqDiff, reduceCtorEq, ld25, cl7, z1z h0, q1, q2]) | (refine yh ?_ ?_; simp (config := { maxSteps := 2000000 }) (disch := first | omega | rfl) only [sB, Nat.reduceEqDiff, reduceCtorEq]; refine z03 ?_))
  have hb7 := HX.refl w7
  refine (zig (L := []) (M := []) w7 _ (Nat.lt_succ_self _) (r00.mono hx hw) (r10.mono hx hw) hft hfu hb7 RefL.nil (by simp; omega)).mono ?_
  rintro v H8 ⟨k8, ⟨M, L, a8, c8, eM, rfl, hR, hl8⟩ | ⟨eM, w, rfl⟩⟩
  ·rcases hg with ⟨g1, -, hT⟩ | ⟨-, -, h⟩
   rotate_left
   ·rw [h h0] at eM; cases eM
   rcases hg' with ⟨g2, -, hT'⟩ | ⟨-, -, h⟩
   rotate_left
   ·rw [h h0] at eM; cases eM
   have hkeys : ∀ n, lookT M n ≠ none → n ∈ occ t := fun n hn => (z8n _ (Nat.lt_succ_self _) hft eM n hn).resolve_left fun q => q rfl
   repeat' (first | refine ya ?_ | refine yg ?_ | refine yd ?_ | (refine ye ?_) | (refine yf ?_) | (refine yc ?_; try simp only [z01, z00]) | (refine z0w ?_; simp (config := { maxSteps := 2000000 }) (disch := first | omega | rfl) only [sB, Nat.reduceEqDiff, reduceCtorEq]))
   exact ⟨_, _, .slice a8 L.length c8, true, rfl, hb7.trans k8, .inl ⟨rfl, g1, g2, M, L, a8, c8, rfl, hR, (zen hT eM hR.srt hR.look hkeys).symm, (zen hT' eM hR.srt hR.look hkeys).symm⟩, (by simp only [sG, Nat.reduceEqDiff, reduceCtorEq] <;> rfl), (by simp only [sG, Nat.reduceEqDiff, reduceCtorEq] <;> rfl), (by simp only [sG, Nat.reduceEqDiff, reduceCtorEq] <;> rfl), (by simp only [sG, Nat.reduceEqDiff, reduceCtorEq] <;> rfl), (by simp only [sG, Nat.reduceEqDiff, reduceCtorEq] <;> rfl), (by simp only [sG, Nat.reduceEqDiff, reduceCtorEq] <;> rfl), (by simp only [sG, Nat.reduceEqDiff, reduceCtorEq] <;> rfl), (by simp only [sG, Nat.reduceEqDiff, reduceCtorEq] <;> rfl)⟩
  ·rcases hg with ⟨-, -, hT⟩ | ⟨g1, n1, -⟩
   ·obtain ⟨M, e, -⟩ := hT.ex; rw [e] at eM; cases eM
   rcases hg' with ⟨-, -, hT⟩ | ⟨g2, n2, -⟩
   ·obtain ⟨M, e, -⟩ := hT.ex; rw [e] at eM; cases eM
   repeat' (first | refine ya ?_ | refine yg ?_ | refine yd ?_ | (refine ye ?_) | (refine yf ?_) | (refine yc ?_; try simp only [z01, z00]) | (refine z0w ?_; simp (config := { maxSteps := 2000000 }) (disch := first | omega | rfl) only [sB, Nat.reduceEqDiff, reduceCtorEq]))
   exact ⟨_, _, w, false, rfl, hb7.trans k8, .inr ⟨rfl, g1, g2, n1, n2⟩, (by simp only [sG, Nat.reduceEqDiff, reduceCtorEq] <;> rfl), (by simp only [sG, Nat.reduceEqDiff, reduceCtorEq] <;> rfl), (by simp only [sG, Nat.reduceEqDiff, reduceCtorEq] <;> rfl), (by simp only [sG, Nat.reduceEqDiff, reduceCtorEq] <;> rfl), (by simp only [sG, Nat.reduceEqDiff, reduceCtorEq] <;> rfl), (by simp only [sG, Nat.reduceEqDiff, reduceCtorEq] <;> rfl), (by simp only [sG, Nat.reduceEqDiff, reduceCtorEq] <;> rfl), (by simp only [sG, Nat.reduceEqDiff, reduceCtorEq] <;> rfl)⟩
 rintro st ⟨tm, H8, v13, g0, rfl, k8, h13, t5, t6, t7, t8, t9, t12, t13, t14⟩
 obtain rfl : g' = g := by rcases h13 with ⟨-, h1, h2, -⟩ | ⟨-, h1, h2, -⟩ <;> rw [h1, h2]
 refine EvC.cut (fun st => ∃ tm H8 M L a8 c8, st = ⟨tm, [], H8⟩ ∧ HX H7 H8 ∧ RefL H8 H7.next M a8 c8 L ∧ L.map pairB = (rowF n D).map pairB ∧ L.map pairB = (rowF n' D').map pairB ∧
  tm.get 5 = some (.bool true) ∧ tm.get 6 = some (.slice al n cl) ∧ tm.get 7 = some (.bool g') ∧ tm.get 8 = some (.int .i64 (chkL [t, u])) ∧ tm.get 9 = some (.slice al' n' cl') ∧ tm.get 12 = some (.int .i64 (chkL [t, u])) ∧ tm.get 13 = some (.slice a8 L.length c8) ∧ tm.get 14 = some (.bool g')) ?_ ?_
 ·rcases h13 with ⟨rfl, rfl, -, M, L, a8, c8, rfl, hR, e1, e2⟩ | ⟨rfl, rfl, -, rfl, rfl⟩
  ·repeat' (first | refine ya ?_ | refine yg ?_ | refine yd ?_ | (refine ye ?_; try simp only [true_and]) | (refine yf ?_) | (refine yc ?_; try simp only [z01, z00]) | (refine yb ?_; simp (config := { maxSteps := 2000000 }) (disch := first | omega | rfl) only [sB, t14, Bool.not_true]) | (refine yh ?_ ?_; simp (config := { maxSteps := 2000000 }) (disch := first | omega | rfl) only [sB, Nat.reduceEqDiff]; refine z03 ?_) | (refine yi ?_ ?_; simp (config := { maxSteps := 2000000 }) (disch := first | omega | rfl) only [sB, Nat.reduceEqDiff]; refine z03 ?_))
   exact ⟨_, _, M, L, a8, c8, rfl, k8, hR, e1, e2, (by simp only [sG, Nat.reduceEqDiff, t5] <;> rfl), (by simp only [sG, Nat.reduceEqDiff, t6] <;> rfl), (by simp only [sG, Nat.reduceEqDiff, t7] <;> rfl), (by simp only [sG, Nat.reduceEqDiff, t8] <;> rfl), (by simp only [sG, Nat.reduceEqDiff, t9] <;> rfl), (by simp only [sG, Nat.reduceEqDiff, t12] <;> rfl), (by simp only [sG, Nat.reduceEqDiff, t13] <;> rfl), (by simp only [sG, Nat.reduceEqDiff, t14] <;> rfl)⟩
  ·repeat' (first | refine ya ?_ | refine yg ?_ | refine yd ?_ | (refine ye ?_) | (refine yf ?_) | (refine yc ?_; try simp only [z01, z00]) | (refine yb ?_; simp (config := { maxSteps := 2000000 }) (disch := first | omega | rfl) only [sB, t14, Bool.not_false]) | (refine yh ?_ ?_; simp (config := { maxSteps := 2000000 }) (disch := first | omega | rfl) only [sB, Nat.reduceEqDiff]; refine z03 ?_))
   exact ⟨_, _, [], [], none, 0, rfl, k8, RefL.nil, rfl, rfl, (by simp only [sG, Nat.reduceEqDiff, t5] <;> rfl), (by simp only [sG, Nat.reduceEqDiff, t6] <;> rfl), (by simp only [sG, Nat.reduceEqDiff, t7] <;> rfl), (by simp only [sG, Nat.reduceEqDiff, t8] <;> rfl), (by simp only [sG, Nat.reduceEqDiff, t9] <;> rfl), (by simp only [sG, Nat.reduceEqDiff, t12] <;> rfl), (by simp only [sB, Nat.reduceEqDiff] <;> rfl), (by simp only [sG, Nat.reduceEqDiff, t14] <;> rfl)⟩
 clear h13 t5 t6 t7 t8 t9 t12 t13 t14 k8
 rintro st ⟨tm, H8, M, L, a8, c8, rfl, k8, hR, eL, eL', t5, t6, t7, t8, t9, t12, t13, t14⟩
 have hfine : ∀ k, k < n → Fine (D k).e.t := fun k hk => by
  rcases hg with ⟨-, -, hT⟩ | ⟨-, rfl, -⟩
  ·exact zij hT hk
  ·omega
 clear hg hg' q1 q2 gt gu
 have w8 := k8.wf
 have o8 := k8.next
 have hB := hB.keep k8 w7
 have hB' := hB'.keep k8 w7
 obtain ⟨hb7, hbn⟩ := hB.rep7
 obtain ⟨hbs, hbl⟩ := hR.bs
 have hb8 := HX.refl w8
 try simp (config := { maxSteps := 2000000 }) (disch := first | omega | rfl) only []
 (repeat refine ya ?_); refine yb ?_; simp (config := { maxSteps := 2000000 }) (disch := first | omega | rfl) only [sB, Nat.reduceEqDiff, cl8, t6, t13]
 refine (z61 ((RepB7.bs hb7).mono hb8 w8) (hbs.mono hb8 w8) hbn hbl hb8.wf).mono ?_
 rintro v H9 ⟨rfl, k9⟩
 rw [zih eL.symm]
 have k9 := hb8.trans k9
 have w9 := k9.wf
 have o9 := k9.next
 have hB := hB.keep k9 w8
 have hB' := hB'.keep k9 w8
 have hR := hR.keep k9 w8
 clear hb7 hbs hb8
 try simp (config := { maxSteps := 2000000 }) (disch := first | omega | rfl) only []
 (repeat refine ya ?_); refine yb ?_; simp (config := { maxSteps := 2000000 }) (disch := first | omega | rfl) only [sA]
 refine EvC.meet (fun st => ∃ tm H', st = ⟨tm, [], H'⟩ ∧ HK (Rg H3.next H4.next) H9 H' ∧
  tm.get 5 = some (.bool true) ∧ tm.get 7 = some (.bool g') ∧ tm.get 8 = some (.int .i64 (chkL [t, u])) ∧ tm.get 9 = some (.slice al' n' cl') ∧ tm.get 12 = some (.int .i64 (chkL [t, u])) ∧ tm.get 13 = some (.slice a8 L.length c8) ∧ tm.get 14 = some (.bool g') ∧ tm.get 15 = some (.bool true)) ?_ ?_
 ·rcases hB with ⟨hn0, rfl, rfl⟩ | ⟨b, rfl, hnc, hcm, hr, hSb, hel, hone⟩
  ·have hd' : decide ((0 : Int) < (n : Int)) = false := decide_eq_false (by omega)
   refine yd (EvC.loop1 ?_)
   repeat' (first | refine ya ?_ | refine yg ?_ | refine yd ?_ | (refine ye ?_) | (refine yf ?_; try simp only [sB, reduceCtorEq]) | (refine yc ?_; try simp only [z01, z00]) | (refine yb ?_; simp (config := { maxSteps := 2000000 }) (disch := first | omega | rfl) only [sB, Nat.reduceEqDiff, ln27, t6, hd']) | (refine yh ?_ ?_; simp (config := { maxSteps := 2000000 }) (disch := first | omega | rfl) only [sB, Nat.reduceEqDiff]; refine z03 ?_) | (refine yi ?_ ?_; simp (config := { maxSteps := 2000000 }) (disch := first | omega | rfl) only [sB, Nat.reduceEqDiff]; refine z03 ?_))
   exact ⟨_, _, rfl, HK.refl w9, (by simp only [sG, Nat.reduceEqDiff, t5] <;> rfl), (by simp only [sG, Nat.reduceEqDiff, t7] <;> rfl), (by simp only [sG, Nat.reduceEqDiff, t8] <;> rfl), (by simp only [sG, Nat.reduceEqDiff, t9] <;> rfl), (by simp only [sG, Nat.reduceEqDiff, t12] <;> rfl), (by simp only [sG, Nat.reduceEqDiff, t13] <;> rfl), (by simp only [sG, Nat.reduceEqDiff, t14] <;> rfl), (by simp only [sG, Nat.reduceEqDiff] <;> rfl)⟩
  ·refine yd (yk (fun k st => ∃ tm H' i E, st = ⟨tm, [], H'⟩ ∧ k = n - i ∧ i ≤ n ∧
    tm.get 5 = some (.bool true) ∧ tm.get 6 = some (.slice (some ⟨b, 0, none⟩) n cl) ∧ tm.get 7 = some (.bool g') ∧ tm.get 8 = some (.int .i64 (chkL [t, u])) ∧ tm.get 9 = some (.slice al' n' cl') ∧ tm.get 12 = some (.int .i64 (chkL [t, u])) ∧ tm.get 13 = some (.slice a8 L.length c8) ∧ tm.get 14 = some (.bool g') ∧ tm.get 15 = some (.bool true) ∧ tm.get 16 = some (.int .i64 (i : Nat)) ∧
    RowB H' 37 b n E ∧ (∀ j, i ≤ j → j < n → E j = D j) ∧ (∀ j m, i ≤ j → j < n → (D j).e.S m → H'.get m = H9.get m) ∧ HK (Rg H3.next H4.next) H9 H') ?_ n _ ?_)
   ·rintro k st ⟨tm, H', i, E, rfl, rfl, hi, t5, t6, t7, t8, t9, t12, t13, t14, t15, t16, hrow, hsame, hkeep, hk'⟩
    have o' := hk'.next
    by_cases hlt : i < n
    ·have hld := RowB.load6 hrow hlt
     rw [hsame i (Nat.le_refl _) hlt] at hld
     have hfi := (hel i hlt).2.1.heap (H' := H') (fun m hm _ => hkeep i m (Nat.le_refl _) hlt hm) w9
     have hSm : ∀ j m, j < n → (D j).e.S m → H3.next ≤ m ∧ m < H4.next ∧ m ≠ b := fun j m hj hm => ⟨((hel j hj).2.2 m hm).1.1, ((hel j hj).2.2 m hm).1.2, ((hel j hj).2.2 m hm).2⟩
     have hmine : (⟨#[109, 105, 110, 101]⟩ : ByteArray).size ≤ maxLen := by simp [maxLen, ByteArray.size]
     repeat' (first | refine ya ?_ | refine yg ?_ | refine yd ?_ | (refine ye ?_; try simp only [z02]) | (refine yf ?_) | (refine yc ?_; try simp only [z01, z00]) | (refine yb ?_; simp (config := { maxSteps := 2000000 }) (disch := first | omega | rfl) only [sB, Nat.reduceEqDiff, ld25, ln27, ia27, zgt, cl9, t6, t16, decl hlt, hld]) | (refine yh ?_ ?_; simp (config := { maxSteps := 2000000 }) (disch := first | omega | rfl) only [sB, Nat.reduceEqDiff]; refine z03 ?_))
     refine (zia (Nat.lt_succ_self _) ⟨(D i).e.a, (D i).e.c, rfl, (hel i hlt).1, hfi⟩ (zle (hfine i hlt)) (fun m hm => by have := hSm i m hlt hm; omega) hk'.wf).mono ?_
     rintro v H10 hk10
     obtain ⟨cells, gb, hcl, hce⟩ := hrow.row
     have gb10 := hk10.get hk'.wf gb (fun hq => (hSm i _ hlt hq).2.2 rfl)
     have hle : i * 7 + 7 ≤ cells.length := by have := mul7 hlt; omega
     have hmx : n ≤ 9223372036854775807 := by omega
     repeat' (first | refine ya ?_ | refine yg ?_ | refine yd ?_ | (refine ye ?_) | (refine yf ?_) | (refine yc ?_; try simp only [z01, z00]) | (refine yb ?_; simp (config := { maxSteps := 2000000 }) (disch := first | omega | rfl) only [sB, Nat.reduceEqDiff, Nat.reduceAdd, Value.cells, one, Nat.reduceLeDiff, layC, ia27, bd37, st37, t6, t16, gb10, hle, z06]))
     refine ⟨n - (i + 1), by omega, _, _, i + 1, fun k => if k = i then bndX else E k, rfl, rfl, by omega, (by simp only [sG, Nat.reduceEqDiff, t5] <;> rfl), (by simp only [sG, Nat.reduceEqDiff, t6] <;> rfl), (by simp only [sG, Nat.reduceEqDiff, t7] <;> rfl), (by simp only [sG, Nat.reduceEqDiff, t8] <;> rfl), (by simp only [sG, Nat.reduceEqDiff, t9] <;> rfl), (by simp only [sG, Nat.reduceEqDiff, t12] <;> rfl), (by simp only [sG, Nat.reduceEqDiff, t13] <;> rfl), (by simp only [sG, Nat.reduceEqDiff, t14] <;> rfl), (by simp only [sG, Nat.reduceEqDiff, t15] <;> rfl), (by simp only [sB, Nat.reduceEqDiff] <;> rfl), RowB.put hcl hce hlt bndX, fun j hij hj => ?_, fun j m hij hj hm => ?_, ?_⟩
     ·show (if j = i then bndX else E j) = D j
      rw [if_neg (by omega)]; exact hsame j (by omega) hj
     ·have h1 := hSm j m hj hm
      rw [get_put, if_neg h1.2.2, hk10.keep m (by omega) (fun hq => by have := hone i j m hlt hj hq hm; omega)]
      exact hkeep j m (by omega) hj hm
     ·exact (hk'.trans (hk10.sub fun m _ hm => ⟨(hSm i m hlt hm).1, (hSm i m hlt hm).2.1⟩)).put (.inl hSb) (hk10.wf _ _ gb10) _
    ·repeat' (first | refine ya ?_ | refine yg ?_ | refine yd ?_ | (refine ye ?_) | (refine yf ?_; try simp only [sB, reduceCtorEq]) | (refine yc ?_; try simp only [z01, z00]) | (refine yb ?_; simp (config := { maxSteps := 2000000 }) (disch := first | omega | rfl) only [sB, Nat.reduceEqDiff, ln27, t6, t16, decn hlt]) | (refine yh ?_ ?_; simp (config := { maxSteps := 2000000 }) (disch := first | omega | rfl) only [sB, Nat.reduceEqDiff]; refine z03 ?_) | (refine yi ?_ ?_; simp (config := { maxSteps := 2000000 }) (disch := first | omega | rfl) only [sB, Nat.reduceEqDiff]; refine z03 ?_))
     exact ⟨_, _, rfl, hk', (by simp only [sG, Nat.reduceEqDiff, t5] <;> rfl), (by simp only [sG, Nat.reduceEqDiff, t7] <;> rfl), (by simp only [sG, Nat.reduceEqDiff, t8] <;> rfl), (by simp only [sG, Nat.reduceEqDiff, t9] <;> rfl), (by simp only [sG, Nat.reduceEqDiff, t12] <;> rfl), (by simp only [sG, Nat.reduceEqDiff, t13] <;> rfl), (by simp only [sG, Nat.reduceEqDiff, t14] <;> rfl), (by simp only [sG, Nat.reduceEqDiff, t15] <;> rfl)⟩
   ·exact ⟨_, _, 0, D, rfl, rfl, by omega, (by simp only [sG, Nat.reduceEqDiff, t5] <;> rfl), (by simp only [sG, Nat.reduceEqDiff, t6] <;> rfl), (by simp only [sG, Nat.reduceEqDiff, t7] <;> rfl), (by simp only [sG, Nat.reduceEqDiff, t8] <;> rfl), (by simp only [sG, Nat.reduceEqDiff, t9] <;> rfl), (by simp only [sG, Nat.reduceEqDiff, t12] <;> rfl), (by simp only [sG, Nat.reduceEqDiff, t13] <;> rfl), (by simp only [sG, Nat.reduceEqDiff, t14] <;> rfl), (by simp only [sG, Nat.reduceEqDiff] <;> rfl), (by simp only [sB, Nat.reduceEqDiff] <;> rfl), hr, fun _ _ _ => rfl, fun _ _ _ _ _ => rfl, HK.refl w9⟩
 rintro st ⟨tm, H10, rfl, k10, t5, t7, t8, t9, t12, t13, t14, t15⟩
 have w10 := k10.wf
 have hB' := hB'.beside k10 w9 (fun m q q' => by have := q.1; have := q'.2; omega)
 have hR := hR.beside k10 w9 (fun m q q' => by have := q'.2; omega)
 obtain ⟨hb7, hbn⟩ := hB'.rep7
 obtain ⟨hbs, hbl⟩ := hR.bs
 have hb8 := HX.refl w10
 try simp (config := { maxSteps := 2000000 }) (disch := first | omega | rfl) only [z02]
 (repeat refine ya ?_); refine yb ?_; simp (config := { maxSteps := 2000000 }) (disch := first | omega | rfl) only [sB, Nat.reduceEqDiff, cl8, t9, t13]
 refine (z61 ((RepB7.bs hb7).mono hb8 w10) (hbs.mono hb8 w10) hbn hbl hb8.wf).mono ?_
 rintro v H11 ⟨rfl, k11⟩
 rw [zih eL'.symm]
 try simp (config := { maxSteps := 2000000 }) (disch := first | omega | rfl) only []
 (repeat refine ya ?_); refine yb ?_; simp (config := { maxSteps := 2000000 }) (disch := first | omega | rfl) only [sB, Nat.reduceEqDiff]
 repeat' (first | refine ya ?_ | refine yg ?_ | refine yd ?_ | (refine ye ?_) | (refine yf ?_) | (refine yc ?_; try simp only [z01, z00]) | (refine zny ?_; simp (config := { maxSteps := 2000000 }) (disch := first | omega | rfl) only [sB, Nat.reduceEqDiff, t5, t7, t8, t12, t14, t15, bEqB Tryz.underlying4, beq_self_eq_true]))
 exact z04 rfl (by simp only [sG, Nat.reduceEqDiff] <;> rfl) rfl
end Go.Proofs.hq
end

section
namespace Go.Hb
open Go Go.RowKit
section
variable {H : Type} {enc : TypeId × Value → H} {P : Program} {W : World} {sp : Nat → Bool} {fuel : Nat} {t e : TypeId} {cs : List Value} {d : DataW H} {ps : List MemPlace}
theorem zlf {k : IntKind} {n : Int} : ab P W (.int k n) = .int k n := rfl
theorem zbp {s : ByteArray} : ab P W (.string s) = .string s := rfl
theorem z9k {k : IntKind} (ht : P.underlying t = some (.int k)) (h : DataW.trod enc P W 0 sp true fuel t cs = some (d, ps)) : ∃ n, cs = [.int k n] ∧ (Lit.int k n).wf = true := by
 cases fuel with
 | zero => simp [DataW.trod] at h
 | succ m =>
  unfold DataW.trod at h
  rw [ht] at h
  split at h <;> simp_all
theorem z7k (ht : P.underlying t = some .string) (h : DataW.trod enc P W 0 sp true fuel t cs = some (d, ps)) : ∃ s : ByteArray, cs = [.string s] ∧ s.size ≤ maxLen := by
 cases fuel with
 | zero => simp [DataW.trod] at h
 | succ m =>
  unfold DataW.trod at h
  rw [ht] at h
  split at h <;> simp_all
theorem zfs (ht : P.underlying t = some (.slice e)) (h : DataW.trod enc P W 0 sp true fuel t cs = some (d, ps)) :
  cs = [.slice none 0 0] ∨ ∃ a len cap m, fuel = m + 1 ∧ cs = [.slice (some a) len cap] ∧ len ≤ cap ∧ cap ≤ maxLen ∧
   ∀ i, i < len → ∃ es d' ps', W.cells? 0 (a.add (i * P.cellsOf e)) (P.cellsOf e) = some es ∧ DataW.trod enc P W 0 sp true m e es = some (d', ps') := by
 cases fuel with
 | zero => simp [DataW.trod] at h
 | succ m =>
  unfold DataW.trod at h
  rw [ht] at h
  split at h <;> simp_all
  obtain ⟨⟨hl, hc⟩, h⟩ := h
  simp only [Option.bind_eq_some_iff, Option.map_eq_some_iff] at h
  obtain ⟨elems, he, _⟩ := h
  refine ⟨_, _, _, ⟨rfl, rfl, rfl⟩, hl, hc, fun i hi => ?_⟩
  have hlen := mapM_some_length he
  have := mapM_some_get he i i (by simp [hi])
  rw [List.getElem?_eq_getElem (by rw [hlen]; simpa using hi)] at this
  simp only [Option.bind_eq_some_iff] at this
  obtain ⟨es, h1, h2⟩ := this
  exact ⟨es, h1, _, _, h2⟩
theorem zcz {fs : Array Field} (ht : P.underlying t = some (.struct fs)) (h : DataW.trod enc P W 0 sp true fuel t cs = some (d, ps)) :
  ∃ m, fuel = m + 1 ∧ cs.length = P.cellsOf t ∧ ∀ (i : Nat) (f : Field), fs[i]? = some f → ∃ d' ps', DataW.trod enc P W 0 sp true m f.type ((cs.drop f.offset).take (P.cellsOf f.type)) = some (d', ps') := by
 cases fuel with
 | zero => simp [DataW.trod] at h
 | succ m =>
  unfold DataW.trod at h
  rw [ht] at h
  split at h <;> simp_all
  subst_vars
  obtain ⟨hl, xs, hx, _⟩ := h
  intro i f hf
  have hlen := mapM_some_length hx
  have := mapM_some_get hx i f (by simpa using hf)
  have hi := (Array.getElem?_eq_some_iff.1 hf).1
  rw [List.getElem?_eq_getElem (by rw [hlen]; simpa using hi)] at this
  exact ⟨_, _, this⟩
theorem zmy (a : Addr) (i : Nat) : (a.add i).block = a.block := by unfold Addr.add; split <;> rfl
theorem zbq {a : Addr} {s i : Nat} {es : List Value} (hs : 0 < s) (h : W.cells? 0 (a.add (i * s)) s = some es) (hsp : a.spot = none) : (heapW P W).load ⟨a.block, a.off + i * s, none⟩ s = some (es.map (ab P W)) ∧ es.length = s ∧ a.block < W.heap.size := by
 obtain ⟨_, hl, hc⟩ := World.cells?_some h
 obtain ⟨b, o, sp⟩ := a
 obtain rfl : sp = none := hsp
 have hb := World.cells?_block h hs
 rw [zmy] at hb
 refine ⟨zf4 hs hl fun j v hj => ?_, hl, hb⟩
 have hjl : j < es.length := (List.getElem?_eq_some_iff.1 hj).1
 have := hc j (by omega)
 rw [add0, add0] at this
 rw [this]; exact hj
theorem zft {a : Addr} {s : Nat} {es : List Value} (hs : 0 < s) (h : W.cells? 0 (a.add (0 * s)) s = some es) : a.spot = none := by
 obtain ⟨_, hl, hc⟩ := World.cells?_some h
 have e0 : ∀ a : Addr, a.add 0 = a := fun a => by unfold Addr.add; simp
 have := hc 0 hs
 rw [Nat.zero_mul, e0, e0, List.getElem?_eq_getElem (by omega)] at this
 unfold World.cell? at this
 split at this
 ·split at this
  ·cases this
  ·rename_i hn; simpa using hn
 ·cases this
end
section
variable {H : Type} {enc : TypeId × Value → H} {P : Program} {W : World} {sp : Nat → Bool}
structure TermTypes (P : Program) (tT tS tI tG tU : TypeId) : Prop where
 fields : ∃ fs : Array Field, P.underlying tT = some (.struct fs) ∧ (fs.toList.map fun f => (f.offset, f.type)) = [(0, tI), (1, tG), (2, tG), (3, tU), (4, tI), (5, tS)]
 slice : P.underlying tS = some (.slice tT)
 int : P.underlying tI = some (.int .i64)
 str : P.underlying tG = some .string
 u64 : P.underlying tU = some (.int .u64)
 cT : P.cellsOf tT = 6
 cS : P.cellsOf tS = 1
 cI : P.cellsOf tI = 1
 cG : P.cellsOf tG = 1
 cU : P.cellsOf tU = 1
theorem z8o {n : Int} (h : (Lit.int .i64 n).wf = true) : i64 n := by
 unfold i64
 unfold Lit.wf at h
 simp [IntKind.min, IntKind.max, IntKind.bits, IntKind.signed] at h
 exact h
theorem zik {n : Int} (h : (Lit.int .u64 n).wf = true) : u64 n := by
 unfold u64
 unfold Lit.wf at h
 simp [IntKind.min, IntKind.max, IntKind.bits, IntKind.signed] at h
 exact h
theorem z3r {cs : List Value} {o : Nat} {v : Value} (h : (cs.drop o).take 1 = [v]) : cs[o]? = some v := by
 have : ((cs.drop o).take 1)[0]? = some v := by rw [h]; rfl
 simpa [List.getElem?_take, List.getElem?_drop] using this
theorem zeo {cs : List Value} {a b c d e f : Value} (hl : cs.length = 6) (h0 : cs[0]? = some a) (h1 : cs[1]? = some b) (h2 : cs[2]? = some c) (h3 : cs[3]? = some d) (h4 : cs[4]? = some e) (h5 : cs[5]? = some f) : cs = [a, b, c, d, e, f] := by
 match cs, hl with
 | [_, _, _, _, _, _], _ => simp at h0 h1 h2 h3 h4 h5; simp [h0, h1, h2, h3, h4, h5]
theorem z7l {tT tS tI tG tU : TypeId} (T : TermTypes P tT tS tI tG tU) : ∀ (fuel : Nat) (cs : List Value) (d : DataW H) (ps : List MemPlace), DataW.trod enc P W 0 sp true fuel tT cs = some (d, ps) → ∃ t, RepT (heapW P W) t (cs.map (ab P W)) := by
 intro fuel
 induction fuel using Nat.strongRecOn with
 | _ fuel ih =>
 intro cs d ps h
 obtain ⟨fs, hf, hfs⟩ := T.fields
 obtain ⟨m, rfl, hl, hall⟩ := zcz hf h
 rw [T.cT] at hl
 have fld : ∀ i o u, ((fs.toList.map fun f => (f.offset, f.type)))[i]? = some (o, u) → P.cellsOf u = 1 → ∃ d' ps', DataW.trod enc P W 0 sp true m u ((cs.drop o).take 1) = some (d', ps') := fun i o u hi hu => by
  rw [List.getElem?_map, Option.map_eq_some_iff] at hi
  obtain ⟨f, hf1, hf2⟩ := hi
  obtain ⟨d', ps', hd⟩ := hall i f (by simpa using hf1)
  cases hf2
  rw [hu] at hd
  exact ⟨d', ps', hd⟩
 rw [hfs] at fld
 obtain ⟨d0, p0, t0⟩ := fld 0 0 tI rfl T.cI
 obtain ⟨d1, p1, t1⟩ := fld 1 1 tG rfl T.cG
 obtain ⟨d2, p2, t2⟩ := fld 2 2 tG rfl T.cG
 obtain ⟨d3, p3, t3⟩ := fld 3 3 tU rfl T.cU
 obtain ⟨d4, p4, t4⟩ := fld 4 4 tI rfl T.cI
 obtain ⟨d5, p5, t5⟩ := fld 5 5 tS rfl T.cS
 obtain ⟨k, h0, w0⟩ := z9k T.int t0
 obtain ⟨s, h1, w1⟩ := z7k T.str t1
 obtain ⟨u, h2, w2⟩ := z7k T.str t2
 obtain ⟨b, h3, w3⟩ := z9k T.u64 t3
 obtain ⟨v, h4, w4⟩ := z9k T.int t4
 rcases zfs T.slice t5 with h5 | ⟨a, n, c, m', rfl, h5, hnc, hcm, hel⟩
 ·rw [zeo hl (z3r h0) (z3r h1) (z3r h2) (z3r h3) (z3r h4) (z3r h5)]
  exact ⟨.mk k s u b v [], .mk k s u b v [] none 0 (fun _ => []) (z8o w0) w1 w2 (zik w3) (z8o w4) (Nat.zero_le _) (Nat.le_refl _) (Nat.zero_le _) (fun _ => ⟨rfl, rfl⟩) (fun i ad hi => by simp at hi) (fun i t ht => by simp at ht)⟩
 ·rw [zeo hl (z3r h0) (z3r h1) (z3r h2) (z3r h3) (z3r h4) (z3r h5)]
  rw [T.cT] at hel
  have hsp : 0 < n → a.spot = none := fun hn => by
   obtain ⟨es, _, _, he, _⟩ := hel 0 hn
   exact zft (by omega) he
  have key : ∀ i, ∃ t cells, i < n → (heapW P W).load ⟨a.block, a.off + i * 6, none⟩ 6 = some cells ∧ RepT (heapW P W) t cells := fun i => by
   by_cases hi : i < n
   ·obtain ⟨es, d', ps', he, ht⟩ := hel i hi
    obtain ⟨t, hr⟩ := ih m' (by omega) es d' ps' ht
    exact ⟨t, _, fun _ => ⟨(zbq (by omega) he (hsp (by omega))).1, hr⟩⟩
   ·exact ⟨.mk 0 s u 0 0 [], [], fun h => absurd h hi⟩
  obtain ⟨T', hT'⟩ := Classical.axiomOfChoice key
  obtain ⟨C, hC⟩ := Classical.axiomOfChoice hT'
  have hlen : ((List.range n).map T').length = n := by simp
  refine ⟨.mk k s u b v ((List.range n).map T'), ?_⟩
  by_cases hn : 0 < n
  ·have hbl : a.block < W.heap.size := by
    obtain ⟨es, _, _, he, _⟩ := hel 0 hn
    exact (zbq (P := P) (by omega) he (hsp hn)).2.2
   have hab : ab P W (.slice (some a) n c) = .slice (some a) ((List.range n).map T').length c := by
    unfold ab
    rw [hlen]
    simp only
    rw [if_pos ⟨hnc, hcm⟩, if_pos ⟨hsp hn, hbl⟩]
   simp only [List.map_cons, List.map_nil, zlf, zbp, hab]
   refine .mk k s u b v _ (some a) c C (z8o w0) w1 w2 (zik w3) (z8o w4) (by rw [hlen]; omega) (by rw [hlen]; exact hnc) hcm (fun h => by cases h) (fun i ad hi ha => ?_) (fun i t ht => ?_)
   ·cases ha
    rw [hlen] at hi
    exact ⟨hsp hn, (hC i hi).1⟩
   ·rw [List.getElem?_map, Option.map_eq_some_iff] at ht
    obtain ⟨j, hj, rfl⟩ := ht
    have hi : i < n := by have := (List.getElem?_eq_some_iff.1 hj).1; simpa using this
    rw [List.getElem?_range hi] at hj
    cases hj
    exact (hC i hi).2
  ·have hn0 : n = 0 := by omega
   subst hn0
   obtain ⟨a', hab⟩ : ∃ a', ab P W (.slice (some a) 0 c) = .slice (some a') 0 c := by
    unfold ab
    simp only
    rw [if_pos ⟨hnc, hcm⟩]
    split
    ·exact ⟨_, rfl⟩
    ·exact ⟨_, rfl⟩
   simp only [List.map_cons, List.map_nil, zlf, zbp, hab, List.range_zero]
   exact .mk k s u b v [] (some a') c C (z8o w0) w1 w2 (zik w3) (z8o w4) (Nat.zero_le _) hnc hcm (fun h => by cases h) (fun i ad hi => by simp at hi) (fun i t ht => by simp at ht)
end
end Go.Hb
end
