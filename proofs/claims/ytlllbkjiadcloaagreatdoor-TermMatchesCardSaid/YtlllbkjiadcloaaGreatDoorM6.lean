import Derived.Test.YtlllbkjiadcloaaGreatDoorM5
import Derived.Test.YtlllbkjiadcloaaGreatDoorM3
/- Lemmas on the program's own code, towards the laws of this folder, part 6. Conditions: as each lemma says. -/
section
namespace Go.Proofs.hq
open Go Go.RowKit Go.Hb
def TT (x y z : Int) : Prop := (x ≤ 0 → y ≤ 0 → z ≤ 0) ∧ (0 ≤ x → 0 ≤ y → 0 ≤ z) ∧ (x < 0 → y ≤ 0 → z < 0) ∧ (x ≤ 0 → y < 0 → z < 0) ∧ (0 < x → 0 ≤ y → 0 < z) ∧ (0 ≤ x → 0 < y → 0 < z)
theorem TT.or {x1 y1 z1 x2 y2 z2 : Int} (h1 : TT x1 y1 z1) (h2 : x1 = 0 → y1 = 0 → TT x2 y2 z2) : TT (orZ x1 x2) (orZ y1 y2) (orZ z1 z2) := by
 unfold orZ TT at *
 by_cases a : x1 = 0 <;> by_cases b : y1 = 0
 ·have c : z1 = 0 := by omega
  simp only [a, b, c, if_true]
  exact h2 a b
 ·have c : z1 ≠ 0 := by omega
  simp only [a, b, c, if_true, if_false]
  omega
 ·have c : z1 ≠ 0 := by omega
  simp only [a, b, c, if_true, if_false]
  omega
 ·by_cases c : z1 = 0
  ·simp only [a, b, c, if_true, if_false]; omega
  ·simp only [a, b, c, if_false]; omega
theorem TT.neg {x y z : Int} (h : TT x y z) : TT (-x) (-y) (-z) := by unfold TT at *; omega
theorem TT.cmp (a b c : Int) : TT (cmpZ a b) (cmpZ b c) (cmpZ a c) := by
 unfold TT cmpZ
 by_cases h1 : a < b <;> by_cases h2 : b < a <;> by_cases h3 : b < c <;> by_cases h4 : c < b <;> by_cases h5 : a < c <;> by_cases h6 : c < a <;> simp only [h1, h2, h3, h4, h5, h6, if_true, if_false] <;> (refine ⟨?_, ?_, ?_, ?_, ?_, ?_⟩ <;> intros <;> omega)
theorem TT.zero : TT 0 0 0 := by unfold TT; omega
theorem z3b (a b : Int) : cmpZ b a = -(cmpZ a b) := by
 unfold cmpZ
 by_cases h1 : a < b <;> by_cases h2 : b < a <;> simp only [h1, h2, if_true, if_false] <;> omega
theorem z1h {a b : Int} : cmpZ a b = 0 ↔ a = b := by
 unfold cmpZ
 constructor
 ·intro h; split at h
  ·omega
  ·split at h <;> omega
 ·rintro rfl; simp
def cmpB (a b : List UInt8) : Int := if Op.bytesLess a b then -1 else if Op.bytesLess b a then 1 else 0
theorem z4a : cmpB [] [] = 0 := by simp [cmpB, Op.bytesLess]
theorem z3y {y : UInt8} {b : List UInt8} : cmpB [] (y :: b) = -1 := by simp [cmpB, Op.bytesLess]
theorem z3z {y : UInt8} {b : List UInt8} : cmpB (y :: b) [] = 1 := by simp [cmpB, Op.bytesLess]
theorem z3c {x y : UInt8} {a b : List UInt8} : cmpB (x :: a) (y :: b) = orZ (cmpZ x.toNat y.toNat) (cmpB a b) := by
 unfold cmpB
 simp only [Op.bytesLess]
 rcases Nat.lt_trichotomy x.toNat y.toNat with h | h | h
 ·have h1 : x < y := UInt8.lt_iff_toNat_lt.2 h
  have hc : cmpZ (x.toNat : Int) y.toNat = -1 := by unfold cmpZ; rw [if_pos (by omega)]
  rw [hc]
  simp [h1, orZ]
 ·obtain rfl : x = y := UInt8.toNat_inj.1 h
  have hc : cmpZ (x.toNat : Int) x.toNat = 0 := z1h.2 rfl
  rw [hc]
  simp [orZ]
 ·have h1 : y < x := UInt8.lt_iff_toNat_lt.2 h
  have h2 : ¬ x < y := fun q => by have := UInt8.lt_iff_toNat_lt.1 q; omega
  have h3 : x ≠ y := fun q => by rw [q] at h; omega
  have hc : cmpZ (x.toNat : Int) y.toNat = 1 := by unfold cmpZ; rw [if_neg (by omega), if_pos (by omega)]
  rw [hc]
  simp [h1, h2, h3, orZ]
theorem TT.bytes : ∀ (a b c : List UInt8), TT (cmpB a b) (cmpB b c) (cmpB a c)
 | [], [], [] => by rw [z4a]; exact TT.zero
 | [], [], _ :: _ => by rw [z4a, z3y]; unfold TT; omega
 | [], _ :: _, [] => by rw [z4a, z3y, z3z]; unfold TT; omega
 | _ :: _, [], [] => by rw [z4a, z3z]; unfold TT; omega
 | _ :: _, [], _ :: _ => by rw [z3y, z3z]; unfold TT; omega
 | [], _ :: _, _ :: _ => by rw [z3y, z3y]; unfold TT; omega
 | _ :: _, _ :: _, [] => by rw [z3z, z3z]; unfold TT; omega
 | x :: a, y :: b, z :: c => by
  rw [z3c, z3c, z3c]
  exact TT.or (TT.cmp _ _ _) fun _ _ => TT.bytes a b c
theorem zb9 : ∀ (a b : List UInt8), cmpB b a = -(cmpB a b)
 | [], [] => by rw [z4a]; rfl
 | [], _ :: _ => by rw [z3y, z3z]; rfl
 | _ :: _, [] => by rw [z3y, z3z]
 | x :: a, y :: b => by rw [z3c, z3c, z3b x.toNat y.toNat, zb9 a b, zcn]
theorem z7i : ∀ {a b : List UInt8}, cmpB a b = 0 ↔ a = b
 | [], [] => by rw [z4a]; simp
 | [], _ :: _ => by rw [z3y]; simp
 | _ :: _, [] => by rw [z3z]; simp
 | x :: a, y :: b => by
  rw [z3c, z2v, z1h, z7i (a := a) (b := b), List.cons.injEq]
  constructor
  ·rintro ⟨h1, h2⟩; exact ⟨UInt8.toNat_inj.1 (by omega), h2⟩
  ·rintro ⟨h1, h2⟩; exact ⟨by rw [h1], h2⟩
theorem zba (a b : ByteArray) : cmpS b a = -(cmpS a b) := zb9 a.toList b.toList
theorem z5e {a b : ByteArray} : cmpS a b = 0 ↔ a = b :=
 ⟨fun h => z5n (z7i.1 h), fun h => by subst h; exact z7i.2 rfl⟩
theorem zhv (a b : ByteArray) : numZ b a = -(numZ a b) := by
 have h : orZ (cmpZ (b.size : Int) a.size) (cmpS b a) = -(orZ (cmpZ (a.size : Int) b.size) (cmpS a b)) := by rw [z3b (a.size : Int), zba a b, zcn]
 unfold numZ
 rw [h]
 cases negS (bl a) <;> cases negS (bl b) <;> simp
theorem zbb {a b : ByteArray} : numZ a b = 0 ↔ a = b := by
 constructor
 ·intro h
  have key : orZ (cmpZ (a.size : Int) b.size) (cmpS a b) = 0 := by
   revert h
   unfold numZ
   cases negS (bl a) <;> cases negS (bl b) <;> simp
  exact z5e.1 (z2v.1 key).2
 ·rintro rfl
  unfold numZ
  have h : orZ (cmpZ (a.size : Int) a.size) (cmpS a a) = 0 := z2v.2 ⟨z1h.2 rfl, z5e.2 rfl⟩
  rw [h]
  cases negS (bl a) <;> simp
theorem zhw (a b : Int) : fltZ b a = -(fltZ a b) := z3b _ _
theorem zhx {a b : Int} (ha : u64 a) (hb : u64 b) : fltZ a b = 0 ↔ a = b := by
 unfold fltZ
 rw [z1h]
 unfold keyF u64 at *
 constructor
 ·intro h; split at h <;> split at h <;> omega
 ·rintro rfl; rfl
theorem zbc {k k' : Int} (h1 : 1 ≤ k) (h2 : k ≤ 5) (h3 : 1 ≤ k') (h4 : k' ≤ 5) (h : rankZ k = rankZ k') : k = k' := by
 unfold rankZ at h
 repeat' split at h
 all_goals omega
def restZ (t t' : Tm) : Int := if t.kind = 1 then cmpZ t.var t'.var else if t.kind = 3 then numZ t.num t'.num else if t.kind = 4 then fltZ t.bits t'.bits else orZ (headZ t t') (ordL t.args t'.args)
theorem zmo {t t' : Tm} (h1 : 1 ≤ t.kind ∧ t.kind ≤ 5) (h2 : 1 ≤ t'.kind ∧ t'.kind ≤ 5) : ordT t t' = orZ (cmpZ (rankZ t.kind) (rankZ t'.kind)) (restZ t t') := by
 rw [z5q]
 by_cases hk : t.kind = t'.kind
 ·rw [if_neg (fun h => h hk)]
  have : cmpZ (rankZ t.kind) (rankZ t'.kind) = 0 := by rw [hk]; exact z1h.2 rfl
  rw [this, orZ, if_pos rfl]
  unfold restZ orZ; rfl
 ·rw [if_pos hk]
  have : cmpZ (rankZ t.kind) (rankZ t'.kind) ≠ 0 := fun h => hk (zbc h1.1 h1.2 h2.1 h2.2 (z1h.1 h))
  rw [orZ, if_neg this]
theorem zhy (t t' : Tm) (l l' : List Tm) : ordL (t :: l) (t' :: l') = orZ (ordT t t') (ordL l l') := by rw [ordL]; rfl
mutual
theorem zhz : ∀ (t t' : Tm), ordT t' t = -(ordT t t')
 | .mk k s u b v l, .mk k' s' u' b' v' l' => by
  rw [ordT, ordT]
  by_cases hk : k = k'
  ·subst hk
   simp only [ne_eq, not_true_eq_false, if_false]
   split
   ·exact z3b _ _
   split
   ·exact zhv _ _
   split
   ·exact zhw _ _
   have h : orZ (cmpZ (l'.length : Int) l.length) (cmpS s' s) = -(orZ (cmpZ (l.length : Int) l'.length) (cmpS s s')) := by rw [z3b (l.length : Int), zba s s', zcn]
   rw [h, zbd l l']
   by_cases h0 : orZ (cmpZ (l.length : Int) l'.length) (cmpS s s') = 0
   ·rw [if_pos (by omega), if_pos h0]
   ·rw [if_neg (by omega), if_neg h0]
  ·rw [if_pos (fun h => hk h.symm), if_pos hk]
   exact z3b _ _
theorem zbd : ∀ (l l' : List Tm), ordL l' l = -(ordL l l')
 | [], [] => by simp [ordL]
 | [], _ :: _ => by simp [ordL]
 | _ :: _, [] => by simp [ordL]
 | t :: l, t' :: l' => by
  rw [ordL, ordL, zhz t t', zbd l l']
  by_cases h0 : ordT t t' = 0
  ·rw [if_pos (by omega), if_pos h0]
  ·rw [if_neg (by omega), if_neg h0]
end
theorem zbe : ∀ {l l' : List Tm}, l.length = l'.length → (∀ t ∈ l, ∀ t' ∈ l', (ordT t t' = 0 → t = t')) → ordL l l' = 0 → l = l'
 | [], [], _, _, _ => rfl
 | [], _ :: _, h, _, _ => by simp at h
 | _ :: _, [], h, _, _ => by simp at h
 | t :: l, t' :: l', h, ih, h0 => by
  rw [zhy, z2v] at h0
  rw [ih t (by simp) t' (by simp) h0.1, zbe (by simpa using h) (fun a ha b hb => ih a (List.mem_cons_of_mem _ ha) b (List.mem_cons_of_mem _ hb)) h0.2]
mutual
theorem zbf : ∀ (t : Tm), ordT t t = 0
 | .mk k s u b v l => by
  rw [ordT, if_neg (fun h => h rfl)]
  split
  ·exact z1h.2 rfl
  split
  ·exact zbb.2 rfl
  split
  ·exact z1h.2 rfl
  rw [if_pos (z2v.2 ⟨z1h.2 rfl, z5e.2 rfl⟩)]
  exact zbg l
theorem zbg : ∀ (l : List Tm), ordL l l = 0
 | [] => by rw [ordL]
 | t :: l => by rw [ordL, if_pos (zbf t)]; exact zbg l
end
inductive U64s : Tm → Prop
 | mk {t : Tm} : u64 t.bits → (∀ u ∈ t.args, U64s u) → U64s t
theorem U64s.bits {t : Tm} (h : U64s t) : u64 t.bits := by cases h; assumption
theorem U64s.args {t : Tm} (h : U64s t) : ∀ u ∈ t.args, U64s u := by cases h; assumption
theorem RepT.u64s {H : Heap} : ∀ {t : Tm} {cs : List Value}, RepT H t cs → U64s t := by
 intro t cs r
 induction r with
 | mk k s u b v l a c cells h1 h2 h3 h4 h5 h6 h7 h8 h9 h10 h11 ih =>
  refine .mk h4 fun w hw => ?_
  obtain ⟨i, hi, e⟩ := List.getElem_of_mem (show w ∈ l from hw)
  exact ih i w (by rw [List.getElem?_eq_getElem hi, e])
theorem zbh : ∀ (m : Nat) {t t' : Tm}, SizeOf.sizeOf t < m → Fine t → Fine t' → U64s t → U64s t' → ordT t t' = 0 → t = t'
 | 0, _, _, h, _, _, _, _, _ => by omega
 | m + 1, t, t', hm, f, f', b, b', h => by
  have k1 := z38 f.node; have k2 := z38 f'.node
  rw [zmo ⟨k1.1, k1.2.1⟩ ⟨k2.1, k2.2.1⟩, z2v] at h
  have q : t.kind = t'.kind := zbc k1.1 k1.2.1 k2.1 k2.2.1 (z1h.1 h.1)
  have l1 := z2w k1.2.2.1; have l2 := z2w k2.2.2.1
  have h := h.2
  unfold restZ at h
  split at h
  ·rename_i hk
   have hk' : t'.kind = 1 := by omega
   exact zb5 q (by rw [l1.1 (by omega) (by omega), l2.1 (by omega) (by omega)]) (by rw [l1.2.1 (by omega), l2.2.1 (by omega)]) (by rw [l1.2.2.1 (by omega), l2.2.2.1 (by omega)]) (z1h.1 h) (by rw [l1.2.2.2.2 (by omega), l2.2.2.2.2 (by omega)])
  split at h
  ·rename_i hk
   have hk' : t'.kind = 3 := by omega
   exact zb5 q (by rw [l1.1 (by omega) (by omega), l2.1 (by omega) (by omega)]) (zbb.1 h) (by rw [l1.2.2.1 (by omega), l2.2.2.1 (by omega)]) (by rw [l1.2.2.2.1 (by omega), l2.2.2.2.1 (by omega)]) (by rw [l1.2.2.2.2 (by omega), l2.2.2.2.2 (by omega)])
  split at h
  ·rename_i hk
   have hk' : t'.kind = 4 := by omega
   exact zb5 q (by rw [l1.1 (by omega) (by omega), l2.1 (by omega) (by omega)]) (by rw [l1.2.1 (by omega), l2.2.1 (by omega)]) ((zhx b.bits b'.bits).1 h) (by rw [l1.2.2.2.1 (by omega), l2.2.2.2.1 (by omega)]) (by rw [l1.2.2.2.2 (by omega), l2.2.2.2.2 (by omega)])
  ·rename_i n1 n3 n4
   rw [z2v] at h
   have hn : t.name = t'.name := z5e.1 (z2v.1 h.1).2
   refine zb5 q hn (by rw [l1.2.1 (by omega), l2.2.1 (by omega)]) (by rw [l1.2.2.1 (by omega), l2.2.2.1 (by omega)]) (by rw [l1.2.2.2.1 (by omega), l2.2.2.2.1 (by omega)]) ?_
   exact zbe (zei h.1) (fun a ha c hc h0 => zbh m (by have := z18 ha; omega) (f.args a ha) (f'.args c hc) (b.args a ha) (b'.args c hc) h0) h.2
theorem zfl (a b : ByteArray) : -1 ≤ numZ a b ∧ numZ a b ≤ 1 := by
 have := z7f (z25 a.size b.size) (z5p a b)
 unfold numZ
 split
 ·omega
 split
 ·omega
 split <;> omega
mutual
theorem zfm : ∀ (t t' : Tm), -1 ≤ ordT t t' ∧ ordT t t' ≤ 1
 | .mk k s u b v l, .mk k' s' u' b' v' l' => by
  rw [ordT]
  split
  ·exact z25 _ _
  split
  ·exact z25 _ _
  split
  ·exact zfl _ _
  split
  ·exact z25 _ _
  split
  ·exact z8g l l'
  ·exact z7f (z25 _ _) (z5p _ _)
theorem z8g : ∀ (l l' : List Tm), -1 ≤ ordL l l' ∧ ordL l l' ≤ 1
 | [], _ => by rw [ordL]; omega
 | _ :: _, [] => by rw [ordL]; omega
 | t :: l, t' :: l' => by
  rw [ordL]
  split
  ·exact z8g l l'
  ·exact zfm t t'
end
end Go.Proofs.hq
end

section
namespace Go.Proofs.hq
open Go Go.RowKit Go.Hb
variable {ok : Ok}
set_option maxRecDepth 10000
attribute [local irreducible] LX LG EL STG SOP SGO SGD SAL SRD SEF SEG SLK SCK ES
theorem zi0 {n : Int} (hn : u64 n) (h : fltS n = true) : n.toNat % 9223372036854775808 < 9218868437227405312 ∧ n.toNat ≠ 9223372036854775808 ∧ (FloatKind.f64.format.order n.toNat n.toNat != some .eq) = false ∧ n.toNat < 18446744073709551616 ∧ ((n.toNat : Nat) : Int) = n := by
 have hm : n.toNat < 18446744073709551616 := by unfold u64 at hn; omega
 have hc : ((n.toNat : Nat) : Int) = n := by unfold u64 at hn; omega
 unfold fltS at h
 simp only [Bool.not_eq_true', Bool.or_eq_false_iff, beq_eq_false_iff_ne] at h
 obtain ⟨⟨h1, h2⟩, h3⟩ := h
 have h1' := h1
 unfold fnB at h1
 rw [zl9] at h1
 unfold fiB at h2
 rw [zhf _ hm, zla _ (Nat.mod_lt _ (by omega))] at h2
 have a := of_decide_eq_false h1
 have b := of_decide_eq_false h2
 exact ⟨by omega, by omega, h1', hm, hc⟩
set_option maxHeartbeats 4000000 in
theorem zjw {m : Nat} : ∀ {t t' : Tm} {cs cs' : List Value} {H : Heap}, SizeOf.sizeOf t < m → RepT H t cs → RepT H t' cs' → Fine t → Fine t' → H.wf →
  EvF Tryz.prog okT 22 [.agg ⟨cs⟩, .agg ⟨cs'⟩] H fun v H' => v = .int .i64 (ordT t t') ∧ HX H H' := by
 induction m with
 | zero => intro t t' cs cs' H h; omega
 | succ m ih =>
 intro t t' cs cs' H hsz r r' hn hn' hw
 obtain ⟨a, c, cells, rfl, b1, b2, b3, b4, b5, rl⟩ := r.six
 obtain ⟨a', c', cells', rfl, b1', b2', b3', b4', b5', rl'⟩ := r'.six
 refine EvF.enter rfl Tryz.func22 (by decide) rfl ?_
 (repeat refine ya ?_); refine yb ?_; simp (config := { maxSteps := 2000000 }) (disch := first | omega | rfl) only [sB, initTm, dBox, Nat.reduceEqDiff, Value.cells, one, reduceCtorEq]
 obtain ⟨H2, e2, hx2, gp, gq, hnx, hw2⟩ := new2 hw (.row (six t a c) 25) (.row (six t' a' c') 25)
 simp only [e2]
 have q1 := row6 gp
 have q2 := row6 gq
 have rl2 := rl.mono hx2 hw
 have rl2' := rl'.mono hx2 hw
 clear e2
 by_cases hk : t.kind = t'.kind
 ·by_cases k1 : t.kind = 1
  ·repeat' (first | refine ya ?_ | refine yg ?_ | refine yd ?_ | (refine ye ?_; try simp only [z02]) | (refine yf ?_) | (refine yc ?_; try simp only [z01, z00]) | (refine yb ?_; simp (config := { maxSteps := 2000000 }) (disch := first | omega | rfl) only [sB, Nat.reduceEqDiff, reduceCtorEq, z10, ld3, cl27, z4e, z14 hk, q1, q2, z1z k1]) | (refine yh ?_ ?_; simp (config := { maxSteps := 2000000 }) (disch := first | omega | rfl) only [sB, Nat.reduceEqDiff, reduceCtorEq]; refine z03 ?_) | (refine yi ?_ ?_; simp (config := { maxSteps := 2000000 }) (disch := first | omega | rfl) only [sB, Nat.reduceEqDiff, reduceCtorEq]; refine z03 ?_))
   refine z5o.mono ?_
   rintro v H1 ⟨rfl, rfl⟩
   repeat' (first | refine ya ?_ | refine yg ?_ | refine yd ?_ | (refine ye ?_) | (refine yf ?_) | (refine yc ?_; try simp only [z01, z00]))
   exact z04 rfl (by simp only [sB, Nat.reduceEqDiff, reduceCtorEq] <;> rfl) ⟨by rw [z5q, if_neg (fun h => h hk), if_pos k1], hx2⟩
  by_cases k3 : t.kind = 3
  ·repeat' (first | refine ya ?_ | refine yg ?_ | refine yd ?_ | (refine ye ?_; try simp only [z02]) | (refine yf ?_) | (refine yc ?_; try simp only [z01, z00]) | (refine yb ?_; simp (config := { maxSteps := 2000000 }) (disch := first | omega | rfl) only [sB, Nat.reduceEqDiff, reduceCtorEq, z10, ld3, z2s, ld9, cl38, z14 hk, q1, q2, z0x k1, z1z k3]) | (refine yh ?_ ?_; simp (config := { maxSteps := 2000000 }) (disch := first | omega | rfl) only [sB, Nat.reduceEqDiff, reduceCtorEq]; refine z03 ?_) | (refine yi ?_ ?_; simp (config := { maxSteps := 2000000 }) (disch := first | omega | rfl) only [sB, Nat.reduceEqDiff, reduceCtorEq]; refine z03 ?_))
   refine (zfk b3 b3' hx2.wf).mono ?_
   rintro v H1 ⟨rfl, hx3⟩
   repeat' (first | refine ya ?_ | refine yg ?_ | refine yd ?_ | (refine ye ?_) | (refine yf ?_) | (refine yc ?_; try simp only [z01, z00]))
   exact z04 rfl (by simp only [sB, Nat.reduceEqDiff, reduceCtorEq] <;> rfl) ⟨by rw [z5q, if_neg (fun h => h hk), if_neg k1, if_pos k3], hx2.trans hx3⟩
  by_cases k4 : t.kind = 4
  ·repeat' (first | refine ya ?_ | refine yg ?_ | refine yd ?_ | (refine ye ?_; try simp only [z02]) | (refine yf ?_) | (refine yc ?_; try simp only [z01, z00]) | (refine yb ?_; simp (config := { maxSteps := 2000000 }) (disch := first | omega | rfl) only [sB, Nat.reduceEqDiff, reduceCtorEq, z10, ld3, z14 hk, q1, q2, z0x k1, z0x k3, z1z k4]) | (refine yj (id := 9) [([(0, 0), (1, 0)], some 2), ([(3, 0), (4, 0)], some 5), ([], some 6), ([(7, 3)], none)] ?_ ?_; kernel_rfl; simp (config := { maxSteps := 2000000 }) (disch := first | omega | rfl) only [sD, sB, Nat.reduceEqDiff, Nat.reduceAdd, reduceCtorEq, z3p, ld22, q1, isAlloc, isRead, reduceCtorEq]) | (refine yh ?_ ?_; simp (config := { maxSteps := 2000000 }) (disch := first | omega | rfl) only [sB, Nat.reduceEqDiff, reduceCtorEq]; refine z03 ?_) | (refine yi ?_ ?_; simp (config := { maxSteps := 2000000 }) (disch := first | omega | rfl) only [sB, Nat.reduceEqDiff, reduceCtorEq]; refine z03 ?_))
   rw [z2u (n := t.bits) (by simp only [sG, Nat.reduceEqDiff, reduceCtorEq])]
   repeat' (first | refine ya ?_ | refine yg ?_ | refine yd ?_ | (refine ye ?_) | (refine yf ?_) | (refine yc ?_; try simp only [z01, z00]) | (refine zkr ?_; simp (config := { maxSteps := 2000000 }) (disch := first | omega | rfl) only [sV, sD, sB, Nat.reduceEqDiff, reduceCtorEq, z3p, ld22, q2, isAlloc, isRead, reduceCtorEq]))
   rw [z2u (n := t'.bits) (by simp only [sG, Nat.reduceEqDiff, reduceCtorEq])]
   repeat' (first | refine ya ?_ | refine yg ?_ | refine yd ?_ | (refine ye ?_) | (refine yf ?_) | (refine yc ?_; try simp only [z01, z00]) | (refine zkr ?_; simp (config := { maxSteps := 2000000 }) (disch := first | omega | rfl) only [sD, sB, Nat.reduceEqDiff, reduceCtorEq, cl39, reduceCtorEq]))
   have hf : fltS t.bits = true := (z38 (Fine.node hn)).2.2.2.2.2.2.1 k4
   have hf' : fltS t'.bits = true := (z38 (Fine.node hn')).2.2.2.2.2.2.1 (hk ▸ k4)
   have p1 := zi0 b4 hf
   have p2 := zi0 b4' hf'
   refine (zmm p1.2.2.1 p2.2.2.1).mono ?_
   rintro v H1 ⟨rfl, rfl⟩
   repeat' (first | refine ya ?_ | refine yg ?_ | refine yd ?_ | (refine ye ?_) | (refine yf ?_) | (refine yc ?_; try simp only [z01, z00]) | (refine z0f ?_; simp (config := { maxSteps := 2000000 }) (disch := first | omega | rfl) only [sD, sB, Nat.reduceEqDiff, Nat.reduceAdd, reduceCtorEq, isAlloc, isRead, reduceCtorEq]))
   exact z04 rfl (by simp only [sB, Nat.reduceEqDiff, reduceCtorEq] <;> rfl) ⟨by rw [z5q, if_neg (fun h => h hk), if_neg k1, if_neg k3, if_pos k4, zmn p1.2.2.2.1 p2.2.2.2.1 p1.2.1 p2.2.1 p1.1 p2.1, p1.2.2.2.2, p2.2.2.2.2], hx2.bump _⟩
  repeat' (first | refine ya ?_ | refine yg ?_ | refine yd ?_ | (refine ye ?_; try simp only [sA]) | (refine yf ?_) | (refine yc ?_; try simp only [z01, z00]) | (refine yb ?_; simp (config := { maxSteps := 2000000 }) (disch := first | omega | rfl) only [sB, Nat.reduceEqDiff, reduceCtorEq, z10, ld3, z14 hk, q1, q2, z0x k1, z0x k3, z0x k4]) | (refine yj (id := 10) [([(0, 0), (1, 0), (2, 0), (3, 0), (4, 0), (5, 0)], some 6), ([(7, 0), (8, 0), (9, 0), (10, 0)], some 11), ([(12, 2)], some 13), ([(14, 3)], none)] ?_ ?_; kernel_rfl; simp (config := { maxSteps := 2000000 }) (disch := first | omega | rfl) only [sD, sB, Nat.reduceEqDiff, Nat.reduceAdd, reduceCtorEq, cl27, z0t, ld23, ln23, q1, q2, isAlloc, isRead, reduceCtorEq]) | (refine yh ?_ ?_; simp (config := { maxSteps := 2000000 }) (disch := first | omega | rfl) only [sB, Nat.reduceEqDiff, reduceCtorEq]; refine z03 ?_) | (refine yi ?_ ?_; simp (config := { maxSteps := 2000000 }) (disch := first | omega | rfl) only [sB, Nat.reduceEqDiff, reduceCtorEq]; refine z03 ?_))
  refine z5o.mono ?_
  rintro v H1 ⟨rfl, rfl⟩
  repeat' (first | refine ya ?_ | refine yg ?_ | refine yd ?_ | (refine ye ?_) | (refine yf ?_) | (refine yc ?_; try simp only [z01, z00]) | (refine z0f ?_; simp (config := { maxSteps := 2000000 }) (disch := first | omega | rfl) only [sV, sD, sB, Nat.reduceEqDiff, reduceCtorEq, ld9, z2b, cl42, q1, q2, isAlloc, isRead, reduceCtorEq]))
  refine zcr.mono ?_
  rintro v H1 ⟨rfl, rfl⟩
  repeat' (first | refine ya ?_ | refine yg ?_ | refine yd ?_ | (refine ye ?_) | (refine yf ?_) | (refine yc ?_; try simp only [z01, z00]) | (refine z0f ?_; simp (config := { maxSteps := 2000000 }) (disch := first | omega | rfl) only [sD, sB, Nat.reduceEqDiff, Nat.reduceAdd, Value.cells, one, reduceCtorEq, Nat.reduceLeDiff, layC, zgu, cl41, isAlloc, dalloc, reduceCtorEq]))
  obtain ⟨H3, e3, hx3, g3, hw3⟩ := zo0 hw2 15 12 (by omega) (.row [.int .i64 (cmpZ t.args.length t'.args.length), .int .i64 (cmpS t.name t'.name)] 3)
  simp only [e3]
  clear e3
  refine (zmk (row2 g3).1 (row2 g3).2).mono ?_
  rintro v H1 ⟨rfl, rfl⟩
  have gp3 := hx3.get hw2 gp
  have gq3 := hx3.get hw2 gq
  have hx23 := hx2.trans hx3
  repeat' (first | refine ya ?_ | refine yg ?_ | refine yd ?_ | (refine ye ?_) | (refine yf ?_) | (refine yc ?_; try simp only [z01, z00]) | (refine yb ?_; simp (config := { maxSteps := 2000000 }) (disch := first | omega | rfl) only [sA]) | (refine z0f ?_; simp (config := { maxSteps := 2000000 }) (disch := first | omega | rfl) only [sD, sB, Nat.reduceEqDiff, Nat.reduceAdd, reduceCtorEq, isAlloc, isRead, reduceCtorEq]))
  refine yk (fun k st => ∃ tm H' i w, st = ⟨tm, [], H'⟩ ∧ k = t.args.length - i ∧ i ≤ t.args.length ∧ (headZ t t' = 0 ∨ headZ t t' = w) ∧ (headZ t t' = 0 → (if w = 0 then ordL (t.args.drop i) (t'.args.drop i) else w) = ordL t.args t'.args) ∧
   tm.get 2 = some (.pointer (some ⟨H.next, 0, none⟩)) ∧ tm.get 3 = some (.pointer (some ⟨H.next + 1, 0, none⟩)) ∧ tm.get 5 = some (.int .i64 w) ∧ tm.get 6 = some (.int .i64 (i : Nat)) ∧
   H'.get H.next = some (.row (six t a c) 25) ∧ H'.get (H.next + 1) = some (.row (six t' a' c') 25) ∧ HX H H') ?_ t.args.length _ ?_
  ·rintro k st ⟨tm, H', i, w, rfl, rfl, hi, hh, hc, t2, t3, t5, t6, gp', gq', hx'⟩
   have q1 := row6 gp'
   have q2 := row6 gq'
   have fin : ∀ u : Int, ordT t t' = if headZ t t' = 0 then ordL t.args t'.args else headZ t t' := fun _ => by rw [z5q, if_neg (fun h => h hk), if_neg k1, if_neg k3, if_neg k4]
   by_cases hlt : i < t.args.length
   ·by_cases h0 : w = 0
    ·have hh0 : headZ t t' = 0 := by rcases hh with h | h; exact h; rw [h]; exact h0
     have hlt' : i < t'.args.length := by rw [← zei hh0]; exact hlt
     obtain ⟨b, o, a1, c1, rfl, hld, hr1⟩ := rl.el hlt
     obtain ⟨b', o', a2, c2, rfl, hld', hr2⟩ := rl'.el hlt'
     have hld1 := hx'.load hw hld
     have hld2 := hx'.load hw hld'
     repeat' (first | refine ya ?_ | refine yg ?_ | refine yd ?_ | (refine ye ?_; try simp only [z02]) | (refine yf ?_) | (refine yc ?_; try simp only [z01, z00]) | (refine yb ?_; simp (config := { maxSteps := 2000000 }) (disch := first | omega | rfl) only [sB, Nat.reduceEqDiff, z0t, ld23, ln23, t2, t5, t6, q1, decl hlt, z1z h0]) | (refine yj (id := 14) [([(0, 0), (1, 0), (2, 0), (3, 0), (4, 0), (5, 0), (6, 0), (7, 0), (8, 0), (9, 0)], some 10), ([(11, 1)], none)] ?_ ?_; kernel_rfl; simp (config := { maxSteps := 2000000 }) (disch := first | omega | rfl) only [sD, sB, Nat.reduceEqDiff, Nat.reduceAdd, reduceCtorEq, z0t, ld23, ia23, ld25, cl22, t2, t3, t6, q1, q2, hld1, hld2, isAlloc, isRead, reduceCtorEq]) | (refine yh ?_ ?_; simp (config := { maxSteps := 2000000 }) (disch := first | omega | rfl) only [sB, Nat.reduceEqDiff]; refine z03 ?_))
     have hb := hx'.bump 12
     have hs := z15 (List.getElem?_eq_getElem hlt)
     refine (ih (t := t.args[i]) (t' := t'.args[i]) (by omega) (hr1.mono hb hw) (hr2.mono hb hw) (hn.args _ (List.getElem_mem _)) (hn'.args _ (List.getElem_mem _)) hb.wf).mono ?_
     rintro v H4 ⟨rfl, hx4⟩
     have hx5 := hb.trans hx4
     have hm := rl.max
     repeat' (first | refine ya ?_ | refine yg ?_ | refine yd ?_ | (refine ye ?_) | (refine yf ?_) | (refine yc ?_; try simp only [z01, z00]) | (refine yb ?_; simp (config := { maxSteps := 2000000 }) (disch := first | omega | rfl) only [sB, Nat.reduceEqDiff, t6, z06]) | (refine z0f ?_; simp (config := { maxSteps := 2000000 }) (disch := first | omega | rfl) only [sD, sB, Nat.reduceEqDiff, isAlloc, isRead]))
     refine ⟨t.args.length - (i + 1), by omega, _, _, i + 1, ordT t.args[i] t'.args[i], rfl, rfl, by omega, .inl hh0, fun _ => ?_, (by simp only [sG, Nat.reduceEqDiff, t2] <;> rfl), (by simp only [sG, Nat.reduceEqDiff, t3] <;> rfl), (by simp only [sG, Nat.reduceEqDiff] <;> rfl), (by simp only [sB, Nat.reduceEqDiff] <;> rfl), hx4.get hb.wf gp', hx4.get hb.wf gq', hx5⟩
     rw [← hc hh0, if_pos h0, zhu (List.getElem?_eq_getElem hlt) (List.getElem?_eq_getElem hlt')]
    ·repeat' (first | refine ya ?_ | refine yg ?_ | refine yd ?_ | (refine ye ?_) | (refine yf ?_; try simp only [sB]) | (refine yc ?_; try simp only [z01, z00]) | (refine yb ?_; simp (config := { maxSteps := 2000000 }) (disch := first | omega | rfl) only [sB, Nat.reduceEqDiff, z0t, ld23, ln23, t2, t5, t6, q1, decl hlt, z0x h0]) | (refine yh ?_ ?_; simp (config := { maxSteps := 2000000 }) (disch := first | omega | rfl) only [sB, Nat.reduceEqDiff]; refine z03 ?_) | (refine yi ?_ ?_; simp (config := { maxSteps := 2000000 }) (disch := first | omega | rfl) only [sB, Nat.reduceEqDiff]; refine z03 ?_))
     refine z04 rfl (by simp only [sB, Nat.reduceEqDiff] <;> rfl) ⟨?_, hx'⟩
     rw [fin 0]
     by_cases hh0 : headZ t t' = 0
     ·rw [if_pos hh0, ← hc hh0, if_neg h0]
     ·rw [if_neg hh0]; rcases hh with h | h
      ·exact absurd h hh0
      ·rw [h]
   ·repeat' (first | refine ya ?_ | refine yg ?_ | refine yd ?_ | (refine ye ?_) | (refine yf ?_; try simp only [sB]) | (refine yc ?_; try simp only [z01, z00]) | (refine yb ?_; simp (config := { maxSteps := 2000000 }) (disch := first | omega | rfl) only [sB, Nat.reduceEqDiff, z0t, ld23, ln23, t2, t5, t6, q1, decn hlt, Bool.false_eq_true]) | (refine yh ?_ ?_; simp (config := { maxSteps := 2000000 }) (disch := first | omega | rfl) only [sB, Nat.reduceEqDiff]; refine z03 ?_) | (refine yi ?_ ?_; simp (config := { maxSteps := 2000000 }) (disch := first | omega | rfl) only [sB, Nat.reduceEqDiff]; refine z03 ?_))
    refine z04 rfl (by simp only [sB, Nat.reduceEqDiff] <;> rfl) ⟨?_, hx'⟩
    rw [fin 0]
    by_cases hh0 : headZ t t' = 0
    ·rw [if_pos hh0, ← hc hh0, List.drop_of_length_le (by omega)]
     by_cases h0 : w = 0
     ·rw [if_pos h0, ordL, h0]
     ·rw [if_neg h0]
    ·rw [if_neg hh0]; rcases hh with h | h
     ·exact absurd h hh0
     ·rw [h]
  ·refine ⟨_, _, 0, headZ t t', rfl, rfl, by omega, .inr rfl, fun h => by rw [if_pos h]; rfl, (by simp only [sG, Nat.reduceEqDiff, reduceCtorEq] <;> rfl), (by simp only [sG, Nat.reduceEqDiff, reduceCtorEq] <;> rfl), (by simp only [sB, Nat.reduceEqDiff, reduceCtorEq] <;> rfl), (by simp only [sB, Nat.reduceEqDiff, reduceCtorEq] <;> rfl), gp3, gq3, hx23⟩
 ·repeat' (first | refine ya ?_ | refine yg ?_ | refine yd ?_ | (refine ye ?_) | (refine yf ?_) | (refine yc ?_; try simp only [z01, z00]) | (refine yb ?_; simp (config := { maxSteps := 2000000 }) (disch := first | omega | rfl) only [sB, Nat.reduceEqDiff, reduceCtorEq, z10, ld3, z35 hk, q1, q2]) | (refine yj (id := 2) [([(0, 0), (1, 0)], some 2), ([(3, 0), (4, 0)], some 5), ([], some 6), ([(7, 3)], none)] ?_ ?_; kernel_rfl; simp (config := { maxSteps := 2000000 }) (disch := first | omega | rfl) only [sD, sB, Nat.reduceEqDiff, Nat.reduceAdd, reduceCtorEq, z10, ld3, cl37, q1, isAlloc, isRead, reduceCtorEq]) | (refine yh ?_ ?_; simp (config := { maxSteps := 2000000 }) (disch := first | omega | rfl) only [sB, Nat.reduceEqDiff, reduceCtorEq]; refine z03 ?_))
  refine zhp.mono ?_
  rintro v H1 ⟨rfl, rfl⟩
  repeat' (first | refine ya ?_ | refine yg ?_ | refine yd ?_ | (refine ye ?_) | (refine yf ?_) | (refine yc ?_; try simp only [z01, z00]) | (refine z0f ?_; simp (config := { maxSteps := 2000000 }) (disch := first | omega | rfl) only [sV, sD, sB, Nat.reduceEqDiff, reduceCtorEq, z10, ld3, cl37, q2, isAlloc, isRead, reduceCtorEq]))
  refine zhp.mono ?_
  rintro v H2 ⟨rfl, rfl⟩
  repeat' (first | refine ya ?_ | refine yg ?_ | refine yd ?_ | (refine ye ?_) | (refine yf ?_) | (refine yc ?_; try simp only [z01, z00]) | (refine z0f ?_; simp (config := { maxSteps := 2000000 }) (disch := first | omega | rfl) only [sD, sB, Nat.reduceEqDiff, reduceCtorEq, cl27, reduceCtorEq]))
  refine z5o.mono ?_
  rintro v H3 ⟨rfl, rfl⟩
  repeat' (first | refine ya ?_ | refine yg ?_ | refine yd ?_ | (refine ye ?_) | (refine yf ?_) | (refine yc ?_; try simp only [z01, z00]) | (refine z0f ?_; simp (config := { maxSteps := 2000000 }) (disch := first | omega | rfl) only [sD, sB, Nat.reduceEqDiff, Nat.reduceAdd, reduceCtorEq, isAlloc, isRead, reduceCtorEq]))
  exact z04 rfl (by simp only [sB, Nat.reduceEqDiff, reduceCtorEq] <;> rfl) ⟨by rw [z5q, if_pos hk], hx2.bump _⟩
noncomputable def eqT (t t' : Tm) : Bool := @decide (t = t') (Classical.propDecidable _)
theorem zi1 {t t' : Tm} (h : t = t') : eqT t t' = true := by unfold eqT; exact @decide_eq_true _ (Classical.propDecidable _) h
theorem z7q {t t' : Tm} (h : t ≠ t') : eqT t t' = false := by unfold eqT; exact @decide_eq_false _ (Classical.propDecidable _) h
theorem z1i {a b : ByteArray} (h : a = b) : (a.toList == b.toList) = true := by rw [h]; exact beq_self_eq_true _
theorem z8h {a b : ByteArray} (h : a ≠ b) : (a.toList == b.toList) = false := by
 rw [beq_eq_false_iff_ne]; exact fun q => h (z5n q)
set_option maxHeartbeats 4000000 in
theorem zmp {m : Nat} : ∀ {t t' : Tm} {cs cs' : List Value} {H : Heap}, SizeOf.sizeOf t < m → RepT H t cs → RepT H t' cs' → H.wf →
  EvF Tryz.prog okT 30 [.agg ⟨cs⟩, .agg ⟨cs'⟩] H fun v H' => v = .bool (eqT t t') ∧ HX H H' := by
 induction m with
 | zero => intro t t' cs cs' H h; omega
 | succ m ih =>
 intro t t' cs cs' H hsz r r' hw
 obtain ⟨a, c, cells, rfl, b1, b2, b3, b4, b5, rl⟩ := r.six
 obtain ⟨a', c', cells', rfl, b1', b2', b3', b4', b5', rl'⟩ := r'.six
 refine EvF.enter rfl Tryz.func30 (by decide) rfl ?_
 (repeat refine ya ?_); refine yb ?_; simp (config := { maxSteps := 2000000 }) (disch := first | omega | rfl) only [sB, initTm, dBox, Nat.reduceEqDiff, Value.cells, one, reduceCtorEq]
 obtain ⟨H2, e2, hx2, gp, gq, hnx, hw2⟩ := new2 hw (.row (six t a c) 25) (.row (six t' a' c') 25)
 simp only [e2]
 have q1 := row6 gp
 have q2 := row6 gq
 clear e2
 by_cases k1 : t.kind = t'.kind
 rotate_left
 ·repeat' (first | refine ya ?_ | refine yg ?_ | refine yd ?_ | (refine ye ?_) | (refine yf ?_) | (refine yc ?_; try simp only [z01, z00]) | (refine yb ?_; simp (config := { maxSteps := 2000000 }) (disch := first | omega | rfl) only [sB, Nat.reduceEqDiff, reduceCtorEq, z10, ld3, z35 k1, q1, q2]) | (refine yh ?_ ?_; simp (config := { maxSteps := 2000000 }) (disch := first | omega | rfl) only [sB, Nat.reduceEqDiff, reduceCtorEq]; refine z03 ?_))
  exact z04 rfl (by simp only [sB, Nat.reduceEqDiff, reduceCtorEq] <;> rfl) ⟨by rw [z7q (fun h => k1 (by rw [h]))], hx2⟩
 by_cases k2 : t.name = t'.name
 rotate_left
 ·repeat' (first | refine ya ?_ | refine yg ?_ | refine yd ?_ | (refine ye ?_) | (refine yf ?_) | (refine yc ?_; try simp only [z01, z00]) | (refine yb ?_; simp (config := { maxSteps := 2000000 }) (disch := first | omega | rfl) only [sB, Nat.reduceEqDiff, reduceCtorEq, z10, ld3, z2b, ld9, z14 k1, q1, q2, z0n, z8h k2, Bool.not_false, Bool.false_eq_true]) | (refine yh ?_ ?_; simp (config := { maxSteps := 2000000 }) (disch := first | omega | rfl) only [sB, Nat.reduceEqDiff, reduceCtorEq]; refine z03 ?_))
  exact z04 rfl (by simp only [sB, Nat.reduceEqDiff, reduceCtorEq] <;> rfl) ⟨by rw [z7q (fun h => k2 (by rw [h]))], hx2⟩
 by_cases k3 : t.num = t'.num
 rotate_left
 ·repeat' (first | refine ya ?_ | refine yg ?_ | refine yd ?_ | (refine ye ?_) | (refine yf ?_) | (refine yc ?_; try simp only [z01, z00]) | (refine yb ?_; simp (config := { maxSteps := 2000000 }) (disch := first | omega | rfl) only [sB, Nat.reduceEqDiff, reduceCtorEq, z10, ld3, z2b, ld9, z2s, z14 k1, q1, q2, z0n, z1i k2, z8h k3, Bool.not_false, Bool.not_true, Bool.false_eq_true]) | (refine yh ?_ ?_; simp (config := { maxSteps := 2000000 }) (disch := first | omega | rfl) only [sB, Nat.reduceEqDiff, reduceCtorEq]; refine z03 ?_))
  exact z04 rfl (by simp only [sB, Nat.reduceEqDiff, reduceCtorEq] <;> rfl) ⟨by rw [z7q (fun h => k3 (by rw [h]))], hx2⟩
 by_cases k4 : t.bits = t'.bits
 rotate_left
 ·repeat' (first | refine ya ?_ | refine yg ?_ | refine yd ?_ | (refine ye ?_) | (refine yf ?_) | (refine yc ?_; try simp only [z01, z00]) | (refine yb ?_; simp (config := { maxSteps := 2000000 }) (disch := first | omega | rfl) only [sB, Nat.reduceEqDiff, reduceCtorEq, z10, ld3, z2b, ld9, z2s, z3p, ld22, z14 k1, q1, q2, z0n, z1i k2, z1i k3, z35 k4, Bool.not_true, Bool.false_eq_true]) | (refine yh ?_ ?_; simp (config := { maxSteps := 2000000 }) (disch := first | omega | rfl) only [sB, Nat.reduceEqDiff, reduceCtorEq]; refine z03 ?_))
  exact z04 rfl (by simp only [sB, Nat.reduceEqDiff, reduceCtorEq] <;> rfl) ⟨by rw [z7q (fun h => k4 (by rw [h]))], hx2⟩
 by_cases k5 : t.var = t'.var
 rotate_left
 ·repeat' (first | refine ya ?_ | refine yg ?_ | refine yd ?_ | (refine ye ?_) | (refine yf ?_) | (refine yc ?_; try simp only [z01, z00]) | (refine yb ?_; simp (config := { maxSteps := 2000000 }) (disch := first | omega | rfl) only [sB, Nat.reduceEqDiff, reduceCtorEq, z10, ld3, z2b, ld9, z2s, z3p, ld22, z4e, z14 k1, q1, q2, z0n, z1i k2, z1i k3, z14 k4, z35 k5, Bool.not_true, Bool.false_eq_true]) | (refine yh ?_ ?_; simp (config := { maxSteps := 2000000 }) (disch := first | omega | rfl) only [sB, Nat.reduceEqDiff, reduceCtorEq]; refine z03 ?_))
  exact z04 rfl (by simp only [sB, Nat.reduceEqDiff, reduceCtorEq] <;> rfl) ⟨by rw [z7q (fun h => k5 (by rw [h]))], hx2⟩
 by_cases k6 : (t.args.length : Int) = t'.args.length
 rotate_left
 ·repeat' (first | refine ya ?_ | refine yg ?_ | refine yd ?_ | (refine ye ?_) | (refine yf ?_) | (refine yc ?_; try simp only [z01, z00]) | (refine yb ?_; simp (config := { maxSteps := 2000000 }) (disch := first | omega | rfl) only [sB, Nat.reduceEqDiff, reduceCtorEq, z10, ld3, z2b, ld9, z2s, z3p, ld22, z4e, z0t, ld23, ln23, z14 k1, q1, q2, z0n, z1i k2, z1i k3, z14 k4, z14 k5, z35 k6, Bool.not_true, Bool.false_eq_true]) | (refine yh ?_ ?_; simp (config := { maxSteps := 2000000 }) (disch := first | omega | rfl) only [sB, Nat.reduceEqDiff, reduceCtorEq]; refine z03 ?_))
  exact z04 rfl (by simp only [sB, Nat.reduceEqDiff, reduceCtorEq] <;> rfl) ⟨by rw [z7q (fun h => k6 (by rw [h]))], hx2⟩
 repeat' (first | refine ya ?_ | refine yg ?_ | refine yd ?_ | (refine ye ?_; try simp only [z02]) | (refine yf ?_) | (refine yc ?_; try simp only [z01, z00]) | (refine yb ?_; simp (config := { maxSteps := 2000000 }) (disch := first | omega | rfl) only [sB, Nat.reduceEqDiff, reduceCtorEq, z10, ld3, z2b, ld9, z2s, z3p, ld22, z4e, z0t, ld23, ln23, z14 k1, q1, q2, z0n, z1i k2, z1i k3, z14 k4, z14 k5, z14 k6, Bool.not_true, Bool.false_eq_true]) | (refine yh ?_ ?_; simp (config := { maxSteps := 2000000 }) (disch := first | omega | rfl) only [sB, Nat.reduceEqDiff, reduceCtorEq]; refine z03 ?_) | (refine yi ?_ ?_; simp (config := { maxSteps := 2000000 }) (disch := first | omega | rfl) only [sB, Nat.reduceEqDiff, reduceCtorEq]; refine z03 ?_))
 have hlen : t.args.length = t'.args.length := by omega
 have hm := rl.max
 refine yk (fun k st => ∃ tm H' i, st = ⟨tm, [], H'⟩ ∧ k = t.args.length - i ∧ i ≤ t.args.length ∧ (∀ j, j < i → t.args[j]? = t'.args[j]?) ∧
   tm.get 2 = some (.pointer (some ⟨H.next, 0, none⟩)) ∧ tm.get 3 = some (.pointer (some ⟨H.next + 1, 0, none⟩)) ∧ tm.get 5 = some (.int .i64 (i : Nat)) ∧
   H'.get H.next = some (.row (six t a c) 25) ∧ H'.get (H.next + 1) = some (.row (six t' a' c') 25) ∧ HX H H') ?_ t.args.length _ ?_
 ·rintro k st ⟨tm, H', i, rfl, rfl, hi, hc, t2, t3, t5, gp', gq', hx'⟩
  have q1 := row6 gp'
  have q2 := row6 gq'
  by_cases hlt : i < t.args.length
  ·have hlt' : i < t'.args.length := by omega
   obtain ⟨b, o, a1, c1, rfl, hld, hr1⟩ := rl.el hlt
   obtain ⟨b', o', a2, c2, rfl, hld', hr2⟩ := rl'.el hlt'
   have hld1 := hx'.load hw hld
   have hld2 := hx'.load hw hld'
   repeat' (first | refine ya ?_ | refine yg ?_ | refine yd ?_ | (refine ye ?_; try simp only [z02]) | (refine yf ?_) | (refine yc ?_; try simp only [z01, z00]) | (refine yb ?_; simp (config := { maxSteps := 2000000 }) (disch := first | omega | rfl) only [sB, Nat.reduceEqDiff, z0t, ld23, ln23, t2, t5, q1, decl hlt]) | (refine yj [([(0, 0), (1, 0), (2, 0), (3, 0), (4, 0), (5, 0), (6, 0), (7, 0), (8, 0), (9, 0)], some 10), ([(11, 1)], none)] ?_ ?_; kernel_rfl; simp (config := { maxSteps := 2000000 }) (disch := first | omega | rfl) only [sD, sB, Nat.reduceEqDiff, Nat.reduceAdd, reduceCtorEq, z0t, ld23, ia23, ld25, cl30, t2, t3, t5, q1, q2, hld1, hld2, isAlloc, isRead, reduceCtorEq]) | (refine yh ?_ ?_; simp (config := { maxSteps := 2000000 }) (disch := first | omega | rfl) only [sB, Nat.reduceEqDiff]; refine z03 ?_))
   have hb := hx'.bump 12
   have hs := z15 (List.getElem?_eq_getElem hlt)
   refine (ih (t := t.args[i]) (t' := t'.args[i]) (by omega) (hr1.mono hb hw) (hr2.mono hb hw) hb.wf).mono ?_
   rintro v H4 ⟨rfl, hx4⟩
   have hx5 := hb.trans hx4
   by_cases he : t.args[i] = t'.args[i]
   ·repeat' (first | refine ya ?_ | refine yg ?_ | refine yd ?_ | (refine ye ?_; try simp only [sA]) | (refine yf ?_) | (refine yc ?_; try simp only [z01, z00]) | (refine yb ?_; simp (config := { maxSteps := 2000000 }) (disch := first | omega | rfl) only [sB, Nat.reduceEqDiff, Bool.not_true, t5, z06]) | (refine z0f ?_; simp (config := { maxSteps := 2000000 }) (disch := first | omega | rfl) only [sD, sB, Nat.reduceEqDiff, zi1 he, isAlloc, isRead]) | (refine yh ?_ ?_; simp (config := { maxSteps := 2000000 }) (disch := first | omega | rfl) only [sB, Nat.reduceEqDiff]; refine z03 ?_) | (refine yi ?_ ?_; simp (config := { maxSteps := 2000000 }) (disch := first | omega | rfl) only [sB, Nat.reduceEqDiff]; refine z03 ?_))
    refine ⟨t.args.length - (i + 1), by omega, _, _, i + 1, rfl, rfl, by omega, fun j hj => ?_, (by simp only [sG, Nat.reduceEqDiff, t2] <;> rfl), (by simp only [sG, Nat.reduceEqDiff, t3] <;> rfl), (by simp only [sB, Nat.reduceEqDiff] <;> rfl), hx4.get hb.wf gp', hx4.get hb.wf gq', hx5⟩
    by_cases hji : j = i
    ·subst hji; rw [List.getElem?_eq_getElem hlt, List.getElem?_eq_getElem hlt', he]
    ·exact hc j (by omega)
   ·repeat' (first | refine ya ?_ | refine yg ?_ | refine yd ?_ | (refine ye ?_) | (refine yf ?_) | (refine yc ?_; try simp only [z01, z00]) | (refine yb ?_; simp (config := { maxSteps := 2000000 }) (disch := first | omega | rfl) only [sB, Nat.reduceEqDiff, Bool.not_false]) | (refine z0f ?_; simp (config := { maxSteps := 2000000 }) (disch := first | omega | rfl) only [sD, sB, Nat.reduceEqDiff, z7q he, isAlloc, isRead]) | (refine yh ?_ ?_; simp (config := { maxSteps := 2000000 }) (disch := first | omega | rfl) only [sB, Nat.reduceEqDiff]; refine z03 ?_))
    refine z04 rfl (by simp only [sB, Nat.reduceEqDiff] <;> rfl) ⟨?_, hx5⟩
    rw [z7q]
    rintro rfl
    exact he rfl
  ·repeat' (first | refine ya ?_ | refine yg ?_ | refine yd ?_ | (refine ye ?_) | (refine yf ?_; try simp only [sB]) | (refine yc ?_; try simp only [z01, z00]) | (refine yb ?_; simp (config := { maxSteps := 2000000 }) (disch := first | omega | rfl) only [sB, Nat.reduceEqDiff, z0t, ld23, ln23, t2, t5, q1, decn hlt]) | (refine yh ?_ ?_; simp (config := { maxSteps := 2000000 }) (disch := first | omega | rfl) only [sB, Nat.reduceEqDiff]; refine z03 ?_) | (refine yi ?_ ?_; simp (config := { maxSteps := 2000000 }) (disch := first | omega | rfl) only [sB, Nat.reduceEqDiff]; refine z03 ?_))
   refine z04 rfl (by simp only [sB, Nat.reduceEqDiff] <;> rfl) ⟨?_, hx'⟩
   rw [zi1]
   refine zb5 k1 k2 k3 k4 k5 (List.ext_getElem? fun j => ?_)
   by_cases hj : j < i
   ·exact hc j hj
   ·rw [List.getElem?_eq_none (by omega), List.getElem?_eq_none (by omega)]
 ·exact ⟨_, _, 0, rfl, rfl, by omega, by omega, (by simp only [sG, Nat.reduceEqDiff, reduceCtorEq] <;> rfl), (by simp only [sG, Nat.reduceEqDiff, reduceCtorEq] <;> rfl), (by simp only [sB, Nat.reduceEqDiff, reduceCtorEq] <;> rfl), gp, gq, hx2⟩
theorem z8i {t t' : Tm} {cs cs' : List Value} {H : Heap} (r : RepT H t cs) (r' : RepT H t' cs') (hw : H.wf) :
  EvF Tryz.prog okT 30 [.agg ⟨cs⟩, .agg ⟨cs'⟩] H fun v H' => v = .bool (eqT t t') ∧ HX H H' := zmp (Nat.lt_succ_self _) r r' hw
section
open Classical
mutual
noncomputable def matchS : Tm → Tm → List (Int × Tm) → Option (List (Int × Tm))
 | .mk k s u b v l, t, M => if k = 1 then (match lookT M v with | some old => if old = t then some M else none | none => some (M ++ [(v, t)]))
  else if k = t.kind ∧ s = t.name ∧ u = t.num ∧ b = t.bits ∧ l.length = t.args.length then matchL l t.args M else none
noncomputable def matchL : List Tm → List Tm → List (Int × Tm) → Option (List (Int × Tm))
 | [], _, M => some M
 | x :: l, m, M => match matchS x (m.headD x) M with
  | some M' => matchL l (m.drop 1) M'
  | none => none
end
theorem z1u {t u : Tm} {M : List (Int × Tm)} (h : t.kind = 1) : matchS t u M = match lookT M t.var with | some old => if old = u then some M else none | none => some (M ++ [(t.var, u)]) := by
 obtain ⟨k, s, w, b, v, l⟩ := t
 rw [matchS, if_pos (show k = 1 from h)]; rfl
def alike (t u : Tm) : Prop := t.kind = u.kind ∧ t.name = u.name ∧ t.num = u.num ∧ t.bits = u.bits ∧ t.args.length = u.args.length
theorem z4b {t u : Tm} {M : List (Int × Tm)} (h : t.kind ≠ 1) (ha : alike t u) : matchS t u M = matchL t.args u.args M := by
 obtain ⟨k, s, w, b, v, l⟩ := t
 have ha' : k = u.kind ∧ s = u.name ∧ w = u.num ∧ b = u.bits ∧ l.length = u.args.length := ha
 rw [matchS, if_neg (show ¬ k = 1 from h), if_pos ha']; rfl
theorem z1a {t u : Tm} {M : List (Int × Tm)} (h : t.kind ≠ 1) (ha : ¬ alike t u) : matchS t u M = none := by
 obtain ⟨k, s, w, b, v, l⟩ := t
 have ha' : ¬ (k = u.kind ∧ s = u.name ∧ w = u.num ∧ b = u.bits ∧ l.length = u.args.length) := ha
 rw [matchS, if_neg (show ¬ k = 1 from h), if_neg ha']
theorem zbi {l m : List Tm} {i : Nat} {M : List (Int × Tm)} (h : i < l.length) (h' : i < m.length) : matchL (l.drop i) (m.drop i) M = match matchS l[i] m[i] M with
  | some M' => matchL (l.drop (i + 1)) (m.drop (i + 1)) M'
  | none => none := by
 rw [List.drop_eq_getElem_cons h, List.drop_eq_getElem_cons h', matchL]
 rfl
end
def FineB (M : List (Int × Tm)) : Prop := ∀ p ∈ M, Fine p.2
theorem FineB.snoc {M : List (Int × Tm)} {n : Int} {t : Tm} (h : FineB M) (ht : Fine t) : FineB (M ++ [(n, t)]) := fun p hp => by
 rcases List.mem_append.1 hp with hp | hp
 ·exact h p hp
 ·rw [List.mem_singleton.1 hp]; exact ht
set_option maxHeartbeats 16000000 in
theorem zmq {H0 : Heap} {p f r : Nat} (hw0 : H0.wf) (hpr : p ≠ r) (hfr : f ≠ r) (hr : H0.next ≤ r) : ∀ (m : Nat) {t u : Tm} {cs cu : List Value} {M : List (Int × Tm)} {H : Heap}, SizeOf.sizeOf t < m → RepT H0 t cs → RepT H0 u cu → Fine t → Fine u → FineB M → HX H0 H →
  H.get p = some (.row [.map (some r)] 53) → H.get f = some (.row [.func (.func 21) #[] #[.pointer (some ⟨p, 0, none⟩), .pointer (some ⟨f, 0, none⟩)]] 38) → MapT H0 H r M →
  EvF Tryz.prog okT 21 [.agg ⟨cs⟩, .agg ⟨cu⟩, .pointer (some ⟨p, 0, none⟩), .pointer (some ⟨f, 0, none⟩)] H fun v H' => HK (· = r) H H' ∧
   ((∃ M', matchS t u M = some M' ∧ v = .bool true ∧ MapT H0 H' r M' ∧ FineB M') ∨ (matchS t u M = none ∧ v = .bool false)) := by
 have hcall : callable Tryz.prog 21 = true := by kernel_rfl
 intro m
 induction m with
 | zero => intro t u cs cu M H h; omega
 | succ m ih =>
 intro t u cs cu M H hsz r0 r1 hft hfu hfM hx0 gp gf hm
 have hw := hx0.wf
 have hrl := hm.lt hw
 obtain ⟨a, c, cells, rfl, -, -, -, -, -, rl⟩ := r0.six
 obtain ⟨a', c', cells', rfl, -, -, -, -, -, rl'⟩ := r1.six
 refine EvF.enter rfl Tryz.func21 (by decide) rfl ?_
 (repeat refine ya ?_); refine yb ?_; simp (config := { maxSteps := 2000000 }) (disch := first | omega | rfl) only [sB, initTm, dBox, Nat.reduceEqDiff, Nat.reduceAdd, Value.cells, one, reduceCtorEq]
 obtain ⟨H2, e2, hx2, gt, gu, hn2, hw2⟩ := new2 hw (.row (six t a c) 25) (.row (six u a' c') 25)
 simp only [e2]
 clear e2
 have q1 := row6 gt
 have q2 := row6 gu
 have gp2 := hx2.get hw gp
 have gf2 := hx2.get hw gf
 have lp := row1 gp2
 have hm2 := hm.keep hx2 hw
 by_cases k1 : t.kind = 1
 ·(repeat refine ya ?_); refine yb ?_; simp (config := { maxSteps := 2000000 }) (disch := first | omega | rfl) only [sB, Nat.reduceEqDiff, reduceCtorEq, z10, ld3, q1, z1z k1]
  (repeat refine ya ?_); refine yh (by simp (config := { maxSteps := 2000000 }) (disch := first | omega | rfl) only [sB, Nat.reduceEqDiff, reduceCtorEq]) ?_; (try refine ye ?_); (try simp only [z02, z09])
  obtain ⟨MM, hM, hMn⟩ := hm2
  rcases z9g (lookT M t.var) with ⟨old, hl⟩ | hl
  ·skip
   obtain ⟨cso, hg, hro⟩ := (hMn t.var).1 old hl
   obtain ⟨a2, c2, cells2, rfl, -⟩ := hro.six
   (repeat refine ya ?_); refine yb ?_; simp (config := { maxSteps := 2000000 }) (disch := first | omega | rfl) only [sB, dAlloc, Nat.reduceEqDiff, Nat.reduceAdd, one, reduceCtorEq, ld3, ld53, z4e, zr25, st25, lp, q1, z36, z99 zjr hM hg]
   obtain ⟨H3, e3, hx3, g3, hn3, hw3⟩ := z3q hw2 (.row zero6 25) (.row (six old a2 c2) 25)
   simp only [e3]
   clear e3
   have q3 := row6 g3
   have q23 := row6 (hx3.get hw2 gu)
   have hx03 := (hx0.trans hx2).trans hx3
   have hfo : Fine old := by
    have h1 := hfM _ (z3a hl)
    exact h1
   repeat' (first | refine ya ?_ | refine yg ?_ | refine yd ?_ | (refine ye ?_; try simp only [z02]) | (refine yf ?_) | (refine yc ?_; try simp only [z01, z00]) | (refine yb ?_; simp (config := { maxSteps := 2000000 }) (disch := first | omega | rfl) only [sB, Nat.reduceEqDiff, reduceCtorEq, ld25, cl22, Bool.not_true, q3, q23]) | (refine yh ?_ ?_; simp (config := { maxSteps := 2000000 }) (disch := first | omega | rfl) only [sB, Nat.reduceEqDiff, reduceCtorEq]; refine z03 ?_) | (refine yi ?_ ?_; simp (config := { maxSteps := 2000000 }) (disch := first | omega | rfl) only [sB, Nat.reduceEqDiff, reduceCtorEq]; refine z03 ?_))
   refine (zjw (Nat.lt_succ_self _) (hro.mono hx03 hw0) (r1.mono hx03 hw0) hfo hfu hx03.wf).mono ?_
   rintro v H4 ⟨rfl, hx4⟩
   have hk := (((hx2.trans hx3).trans hx4).hk (· = r))
   by_cases he : old = u
   ·have hz : ordT old u = 0 := by rw [he]; exact zbf u
    have hz' : (ordT old u == 0) = true := z1z hz
    repeat' (first | refine ya ?_ | refine yg ?_ | refine yd ?_ | (refine ye ?_) | (refine yf ?_) | (refine yc ?_; try simp only [z01, z00]) | (refine z0w ?_; simp (config := { maxSteps := 2000000 }) (disch := first | omega | rfl) only [sB, Nat.reduceEqDiff, reduceCtorEq, hz']))
    exact z04 rfl (by simp only [sG, Nat.reduceEqDiff, reduceCtorEq] <;> rfl) ⟨hk, .inl ⟨M, by rw [z1u k1, hl]; simp only [he, if_true], rfl, hm.keep ((hx2.trans hx3).trans hx4) hw, hfM⟩⟩
   ·have hz : ordT old u ≠ 0 := fun h => he (zbh _ (Nat.lt_succ_self _) hfo hfu (RepT.u64s hro) (RepT.u64s r1) h)
    have hz' : (ordT old u == 0) = false := z0x hz
    repeat' (first | refine ya ?_ | refine yg ?_ | refine yd ?_ | (refine ye ?_) | (refine yf ?_) | (refine yc ?_; try simp only [z01, z00]) | (refine z0w ?_; simp (config := { maxSteps := 2000000 }) (disch := first | omega | rfl) only [sB, Nat.reduceEqDiff, reduceCtorEq, hz']))
    exact z04 rfl (by simp only [sG, Nat.reduceEqDiff, reduceCtorEq] <;> rfl) ⟨hk, .inr ⟨by rw [z1u k1, hl]; simp only [he, if_false], rfl⟩⟩
  ·skip
   have hg := (hMn t.var).2 hl
   (repeat refine ya ?_); refine yb ?_; simp (config := { maxSteps := 2000000 }) (disch := first | omega | rfl) only [sB, dAlloc, Nat.reduceEqDiff, Nat.reduceAdd, one, reduceCtorEq, ld3, ld53, z4e, zr25, st25, lp, q1, z36, ze1 zjr hM hg]
   obtain ⟨H3, e3, hx3, g3, hn3, hw3⟩ := z3q hw2 (.row zero6 25) (.row zero6 25)
   simp only [e3]
   clear e3
   have q13 := row6 (hx3.get hw2 gt)
   have q23 := row6 (hx3.get hw2 gu)
   have lp3 := row1 (hx3.get hw2 gp2)
   have k23 := hx2.trans hx3
   obtain ⟨K, hup, hm4⟩ := (hm.keep k23 hw).push zjr hl r1
   repeat' (first | refine ya ?_ | refine yg ?_ | refine yd ?_ | (refine ye ?_) | (refine yf ?_) | (refine yc ?_; try simp only [z01, z00]) | (refine yb ?_; simp (config := { maxSteps := 2000000 }) (disch := first | omega | rfl) only [sB, Nat.reduceEqDiff, reduceCtorEq, ld3, ld53, z4e, ld25, Bool.not_false, lp3, q13, q23, z55, hup]) | (refine yh ?_ ?_; simp (config := { maxSteps := 2000000 }) (disch := first | omega | rfl) only [sB, Nat.reduceEqDiff, reduceCtorEq]; refine z03 ?_))
   exact z04 rfl (by simp only [sG, Nat.reduceEqDiff, reduceCtorEq] <;> rfl) ⟨(k23.hk (fun x => x = r)).put (.inl rfl) (Nat.lt_of_lt_of_le hrl k23.next) _, .inl ⟨_, by rw [z1u k1, hl], rfl, hm4, hfM.snoc hfu⟩⟩
 have k0 : t.kind ≠ 1 := k1
 have hk2 := hx2.hk (· = r)
 by_cases k1 : t.kind = u.kind
 rotate_left
 ·repeat' (first | refine ya ?_ | refine yg ?_ | refine yd ?_ | (refine ye ?_; try simp only [z02]) | (refine yf ?_) | (refine yc ?_; try simp only [z01, z00]) | (refine yb ?_; simp (config := { maxSteps := 2000000 }) (disch := first | omega | rfl) only [sB, Nat.reduceEqDiff, reduceCtorEq, z10, ld3, z0x k0, z35 k1, q1, q2]) | (refine yh ?_ ?_; simp (config := { maxSteps := 2000000 }) (disch := first | omega | rfl) only [sB, Nat.reduceEqDiff, reduceCtorEq]; refine z03 ?_) | (refine yi ?_ ?_; simp (config := { maxSteps := 2000000 }) (disch := first | omega | rfl) only [sB, Nat.reduceEqDiff, reduceCtorEq]; refine z03 ?_))
  exact z04 rfl (by simp only [sG, Nat.reduceEqDiff, reduceCtorEq] <;> rfl) ⟨hk2, .inr ⟨z1a k0 fun h => k1 h.1, rfl⟩⟩
 by_cases k2 : t.name = u.name
 rotate_left
 ·repeat' (first | refine ya ?_ | refine yg ?_ | refine yd ?_ | (refine ye ?_; try simp only [z02]) | (refine yf ?_) | (refine yc ?_; try simp only [z01, z00]) | (refine yb ?_; simp (config := { maxSteps := 2000000 }) (disch := first | omega | rfl) only [sB, Nat.reduceEqDiff, reduceCtorEq, z10, ld3, z2b, ld9, z0x k0, z14 k1, q1, q2, z0n, z8h k2, Bool.not_false, Bool.false_eq_true]) | (refine yh ?_ ?_; simp (config := { maxSteps := 2000000 }) (disch := first | omega | rfl) only [sB, Nat.reduceEqDiff, reduceCtorEq]; refine z03 ?_) | (refine yi ?_ ?_; simp (config := { maxSteps := 2000000 }) (disch := first | omega | rfl) only [sB, Nat.reduceEqDiff, reduceCtorEq]; refine z03 ?_))
  exact z04 rfl (by simp only [sG, Nat.reduceEqDiff, reduceCtorEq] <;> rfl) ⟨hk2, .inr ⟨z1a k0 fun h => k2 h.2.1, rfl⟩⟩
 by_cases k3 : t.num = u.num
 rotate_left
 ·repeat' (first | refine ya ?_ | refine yg ?_ | refine yd ?_ | (refine ye ?_; try simp only [z02]) | (refine yf ?_) | (refine yc ?_; try simp only [z01, z00]) | (refine yb ?_; simp (config := { maxSteps := 2000000 }) (disch := first | omega | rfl) only [sB, Nat.reduceEqDiff, reduceCtorEq, z10, ld3, z2b, ld9, z2s, z0x k0, z14 k1, q1, q2, z0n, z1i k2, z8h k3, Bool.not_false, Bool.not_true, Bool.false_eq_true]) | (refine yh ?_ ?_; simp (config := { maxSteps := 2000000 }) (disch := first | omega | rfl) only [sB, Nat.reduceEqDiff, reduceCtorEq]; refine z03 ?_) | (refine yi ?_ ?_; simp (config := { maxSteps := 2000000 }) (disch := first | omega | rfl) only [sB, Nat.reduceEqDiff, reduceCtorEq]; refine z03 ?_))
  exact z04 rfl (by simp only [sG, Nat.reduceEqDiff, reduceCtorEq] <;> rfl) ⟨hk2, .inr ⟨z1a k0 fun h => k3 h.2.2.1, rfl⟩⟩
 by_cases k4 : t.bits = u.bits
 rotate_left
 ·repeat' (first | refine ya ?_ | refine yg ?_ | refine yd ?_ | (refine ye ?_; try simp only [z02]) | (refine yf ?_) | (refine yc ?_; try simp only [z01, z00]) | (refine yb ?_; simp (config := { maxSteps := 2000000 }) (disch := first | omega | rfl) only [sB, Nat.reduceEqDiff, reduceCtorEq, z10, ld3, z2b, ld9, z2s, z3p, ld22, z0x k0, z14 k1, q1, q2, z0n, z1i k2, z1i k3, z35 k4, Bool.not_true, Bool.false_eq_true]) | (refine yh ?_ ?_; simp (config := { maxSteps := 2000000 }) (disch := first | omega | rfl) only [sB, Nat.reduceEqDiff, reduceCtorEq]; refine z03 ?_) | (refine yi ?_ ?_; simp (config := { maxSteps := 2000000 }) (disch := first | omega | rfl) only [sB, Nat.reduceEqDiff, reduceCtorEq]; refine z03 ?_))
  exact z04 rfl (by simp only [sG, Nat.reduceEqDiff, reduceCtorEq] <;> rfl) ⟨hk2, .inr ⟨z1a k0 fun h => k4 h.2.2.2.1, rfl⟩⟩
 by_cases k6 : (t.args.length : Int) = u.args.length
 rotate_left
 ·repeat' (first | refine ya ?_ | refine yg ?_ | refine yd ?_ | (refine ye ?_; try simp only [z02]) | (refine yf ?_) | (refine yc ?_; try simp only [z01, z00]) | (refine yb ?_; simp (config := { maxSteps := 2000000 }) (disch := first | omega | rfl) only [sB, Nat.reduceEqDiff, reduceCtorEq, z10, ld3, z2b, ld9, z2s, z3p, ld22, z0t, ld23, ln23, z0x k0, z14 k1, q1, q2, z0n, z1i k2, z1i k3, z14 k4, z35 k6, Bool.not_true, Bool.false_eq_true]) | (refine yh ?_ ?_; simp (config := { maxSteps := 2000000 }) (disch := first | omega | rfl) only [sB, Nat.reduceEqDiff, reduceCtorEq]; refine z03 ?_) | (refine yi ?_ ?_; simp (config := { maxSteps := 2000000 }) (disch := first | omega | rfl) only [sB, Nat.reduceEqDiff, reduceCtorEq]; refine z03 ?_))
  exact z04 rfl (by simp only [sG, Nat.reduceEqDiff, reduceCtorEq] <;> rfl) ⟨hk2, .inr ⟨z1a k0 fun h => k6 (by rw [h.2.2.2.2]), rfl⟩⟩
 have hlen : t.args.length = u.args.length := by omega
 have hmx := rl.max
 have hyes : ∀ M, matchS t u M = matchL t.args u.args M := fun M => z4b k0 ⟨k1, k2, k3, k4, hlen⟩
 repeat' (first | refine ya ?_ | refine yg ?_ | refine yd ?_ | (refine ye ?_; try simp only [z02]) | (refine yf ?_) | (refine yc ?_; try simp only [z01, z00]) | (refine yb ?_; simp (config := { maxSteps := 2000000 }) (disch := first | omega | rfl) only [sB, Nat.reduceEqDiff, reduceCtorEq, z10, ld3, z2b, ld9, z2s, z3p, ld22, z0t, ld23, ln23, z0x k0, z14 k1, q1, q2, z0n, z1i k2, z1i k3, z14 k4, z14 k6, Bool.not_true, Bool.false_eq_true]) | (refine yh ?_ ?_; simp (config := { maxSteps := 2000000 }) (disch := first | omega | rfl) only [sB, Nat.reduceEqDiff, reduceCtorEq]; refine z03 ?_) | (refine yi ?_ ?_; simp (config := { maxSteps := 2000000 }) (disch := first | omega | rfl) only [sB, Nat.reduceEqDiff, reduceCtorEq]; refine z03 ?_))
 refine yk (fun k st => ∃ tm H' i M', st = ⟨tm, [], H'⟩ ∧ k = t.args.length - i ∧ i ≤ t.args.length ∧ matchL (t.args.drop i) (u.args.drop i) M' = matchS t u M ∧
   tm.get 3 = some (.pointer (some ⟨f, 0, none⟩)) ∧ tm.get 4 = some (.pointer (some ⟨H.next, 0, none⟩)) ∧ tm.get 5 = some (.pointer (some ⟨H.next + 1, 0, none⟩)) ∧ tm.get 71 = some (.int .i64 t.args.length) ∧ tm.get 72 = some (.int .i64 (i : Nat)) ∧
   MapT H0 H' r M' ∧ FineB M' ∧ HK (· = r) H2 H') ?_ t.args.length _ ?_
 ·rintro k st ⟨tm, H', i, M', rfl, rfl, hi, hml, t3, t4, t5, t71, t72, hm', hfM', hk'⟩
  have hw' := hk'.wf
  have hrn : ∀ n, n < H0.next → ¬ n = r := fun n hn q => by omega
  have hx' : HX H0 H' := (hx0.trans hx2).then hk' hrn
  have gt' := hk'.get hw2 gt (by omega)
  have gu' := hk'.get hw2 gu (by omega)
  have gp' := hk'.get hw2 gp2 hpr
  have gf' := hk'.get hw2 gf2 hfr
  have q1 := row6 gt'
  have q2 := row6 gu'
  have lf := row1 gf'
  by_cases hlt : i < t.args.length
  ·have hlt' : i < u.args.length := by omega
   obtain ⟨b, o, a1, c1, rfl, hld, hr1⟩ := rl.el hlt
   obtain ⟨b', o', a2, c2, rfl, hld', hr2⟩ := rl'.el hlt'
   have hld1 := hx'.load hw0 hld
   have hld2 := hx'.load hw0 hld'
   have hb := (HX.refl hw').bump 13
   have hs := z15 (List.getElem?_eq_getElem hlt)
   repeat' (first | refine ya ?_ | refine yg ?_ | refine yd ?_ | (refine ye ?_; try simp only [z02]) | (refine yf ?_) | (refine yc ?_; try simp only [z01, z00]) | (refine yb ?_; simp (config := { maxSteps := 2000000 }) (disch := first | omega | rfl) only [sB, Nat.reduceEqDiff, t71, t72, decl hlt]) | (refine yj [([(0, 0), (1, 0), (2, 0), (3, 0), (4, 0), (5, 0), (6, 0), (7, 0), (8, 0), (9, 0), (10, 0)], some 11), ([(12, 1)], none)] ?_ ?_; kernel_rfl; simp (config := { maxSteps := 2000000 }) (disch := first | omega | rfl) only [sD, sB, Nat.reduceEqDiff, Nat.reduceAdd, reduceCtorEq, ld25, z0t, ld23, ld38, ia23, t3, t4, t5, q1, q2, hld1, hld2, lf, z0r, z0g hcall, isAlloc, isRead, reduceCtorEq]) | (refine yh ?_ ?_; simp (config := { maxSteps := 2000000 }) (disch := first | omega | rfl) only [sB]; refine z03 ?_))
   refine (ih (t := t.args[i]) (u := u.args[i]) (M := M') (by omega) hr1 hr2 (hft.args _ (List.getElem_mem _)) (hfu.args _ (List.getElem_mem _)) hfM' (hx'.trans hb) gp' gf' (hm'.heap rfl)).mono ?_
   rintro v H4 ⟨hk4, h4⟩
   have hk24 : HK (· = r) H2 H4 := (hk'.bump 13).trans hk4
   rw [zbi hlt hlt'] at hml
   rcases h4 with ⟨M4, e4, rfl, hm4, hf4⟩ | ⟨e4, rfl⟩
   ·simp only [e4] at hml
    repeat' (first | refine ya ?_ | refine yg ?_ | refine yd ?_ | (refine ye ?_; try simp only [sA]) | (refine yf ?_) | (refine yc ?_; try simp only [z01, z00]) | (refine yb ?_; simp (config := { maxSteps := 2000000 }) (disch := first | omega | rfl) only [sB, Nat.reduceEqDiff, t72, z06]) | (refine z0f ?_; simp (config := { maxSteps := 2000000 }) (disch := first | omega | rfl) only [sD, sB, Nat.reduceEqDiff, Bool.not_true, isAlloc, isRead]) | (refine yh ?_ ?_; simp (config := { maxSteps := 2000000 }) (disch := first | omega | rfl) only [sB, Nat.reduceEqDiff]; refine z03 ?_) | (refine yi ?_ ?_; simp (config := { maxSteps := 2000000 }) (disch := first | omega | rfl) only [sB, Nat.reduceEqDiff]; refine z03 ?_))
    exact ⟨t.args.length - (i + 1), by omega, _, _, i + 1, M4, rfl, rfl, by omega, hml, (by simp only [sG, Nat.reduceEqDiff, t3] <;> rfl), (by simp only [sG, Nat.reduceEqDiff, t4] <;> rfl), (by simp only [sG, Nat.reduceEqDiff, t5] <;> rfl), (by simp only [sG, Nat.reduceEqDiff, t71] <;> rfl), (by simp only [sB, Nat.reduceEqDiff] <;> rfl), hm4, hf4, hk24⟩
   ·simp only [e4] at hml
    repeat' (first | refine ya ?_ | refine yg ?_ | refine yd ?_ | (refine ye ?_) | (refine yf ?_) | (refine yc ?_; try simp only [z01, z00]) | (refine yb ?_; simp (config := { maxSteps := 2000000 }) (disch := first | omega | rfl) only [sA]) | (refine z0f ?_; simp (config := { maxSteps := 2000000 }) (disch := first | omega | rfl) only [sD, sB, Nat.reduceEqDiff, Bool.not_false, isAlloc, isRead]) | (refine yh ?_ ?_; simp (config := { maxSteps := 2000000 }) (disch := first | omega | rfl) only [sB, Nat.reduceEqDiff]; refine z03 ?_))
    exact z04 rfl (by simp only [sG, Nat.reduceEqDiff] <;> rfl) ⟨hk2.trans hk24, .inr ⟨hml.symm, rfl⟩⟩
  ·obtain rfl : i = t.args.length := by omega
   repeat' (first | refine ya ?_ | refine yg ?_ | refine yd ?_ | (refine ye ?_) | (refine yf ?_; try simp only [sB]) | (refine yc ?_; try simp only [z01, z00]) | (refine yb ?_; simp (config := { maxSteps := 2000000 }) (disch := first | omega | rfl) only [sA, t71, t72, decn hlt]) | (refine yh ?_ ?_; simp (config := { maxSteps := 2000000 }) (disch := first | omega | rfl) only [sB]; refine z03 ?_) | (refine yi ?_ ?_; simp (config := { maxSteps := 2000000 }) (disch := first | omega | rfl) only [sB]; refine z03 ?_))
   rw [List.drop_of_length_le (Nat.le_refl _), matchL] at hml
   exact z04 rfl (by simp only [sG, Nat.reduceEqDiff] <;> rfl) ⟨hk2.trans hk', .inl ⟨M', hml.symm, rfl, hm', hfM'⟩⟩
 ·exact ⟨_, _, 0, M, rfl, rfl, Nat.zero_le _, by rw [List.drop_zero, List.drop_zero, hyes], (by simp only [sG, Nat.reduceEqDiff, reduceCtorEq] <;> rfl), (by simp only [sG, Nat.reduceEqDiff, reduceCtorEq] <;> rfl), (by simp only [sG, Nat.reduceEqDiff, reduceCtorEq] <;> rfl), (by simp only [sG, Nat.reduceEqDiff, reduceCtorEq] <;> rfl), (by simp only [sB, Nat.reduceEqDiff, reduceCtorEq] <;> rfl), hm2, hfM, HK.refl hw2⟩
end Go.Proofs.hq
end

section
namespace Go.Hb
open Go Go.RowKit
theorem gtl {i n : Nat} (h : n < i) : decide ((i : Int) > (n : Int)) = true := decide_eq_true (by omega)
theorem gtn {i n : Nat} (h : ¬ n < i) : decide ((i : Int) > (n : Int)) = false := decide_eq_false (by omega)
theorem HK.hxs {S : Nat → Prop} {A B C : Heap} (h : HK S A B) (k : HX B C) : HK S A C := h.trans (k.hk S)
theorem HK.two {b : Nat} {A H : Heap} (h : HK (· = b) A H) (hb : b < H.next) (k : Nat) (B C : Option Blk) : HK (· = b) A (((⟨H.next + k, H.t⟩ : Heap).put b B).put b C) :=
 ((h.bump k).put (.inl rfl) (Nat.lt_add_right _ hb) B).put (.inl rfl) (Nat.lt_add_right _ hb) C
theorem zej {α : Type} {i j : Nat} {D : Nat → α} : swF i j D = swF j i D := by
 funext k; unfold swF
 by_cases h1 : k = i
 ·subst h1
  rw [if_pos rfl]
  by_cases h2 : k = j
  ·subst h2; rw [if_pos rfl]
  ·rw [if_neg h2, if_pos rfl]
 ·rw [if_neg h1]
  by_cases h2 : k = j
  ·rw [if_pos h2, if_pos h2]
  ·rw [if_neg h2, if_neg h2, if_neg h1]
def swrF {α : Type} (a b k : Nat) (D : Nat → α) : Nat → α := fun i => if a ≤ i ∧ i < a + k then D (i - a + b) else if b ≤ i ∧ i < b + k then D (i - b + a) else D i
end Go.Hb
end

section
namespace Go.Proofs.hq
open Go Go.RowKit Go.Hb
variable {ok : Ok}
set_option maxRecDepth 10000
attribute [local irreducible] LX LG EL STG SOP SGO SGD SAL SRD SEF SEG SLK SCK ES
theorem cz_t {a b : Int} (h : a < b) : decide (cmpZ a b < 0) = true := by rw [zco h]; rfl
theorem cz_f {a b : Int} (h : ¬ a < b) : decide (cmpZ a b < 0) = false := by
 by_cases e : b < a
 ·rw [zcp e]; rfl
 ·rw [zcq (by omega)]; rfl
abbrev cvB : Value := .func (.func 26) #[] #[]
theorem z2p : callable Tryz.prog 26 = true := by kernel_rfl
theorem z1x {x y : Bnd} {H : Heap} (hw : H.wf) : EvF Tryz.prog okT 26 [.agg ⟨x.seven⟩, .agg ⟨y.seven⟩] H fun v H' => v = .int .i64 (cmpZ x.v y.v) ∧ HX H H' := by
 refine EvF.enter rfl Tryz.func26 (by decide) rfl ?_
 (repeat refine ya ?_); refine yb ?_; simp (config := { maxSteps := 2000000 }) (disch := first | omega | rfl) only [sB, initTm, dBox, Nat.reduceEqDiff, Value.cells, one, reduceCtorEq]
 obtain ⟨H2, e2, hx2, gp, gq, hn2, hw2⟩ := new2 hw (.row x.seven 37) (.row y.seven 37)
 simp only [e2]
 have l1 : H2.load ⟨H.next, 0, none⟩ 1 = some [.int .i64 x.v] := by simp only [Heap.load, Heap.cells, gp]; rfl
 have l2 : H2.load ⟨H.next + 1, 0, none⟩ 1 = some [.int .i64 y.v] := by simp only [Heap.load, Heap.cells, gq]; rfl
 repeat' (first | refine ya ?_ | refine yg ?_ | refine yd ?_ | (refine ye ?_) | (refine yf ?_) | (refine yc ?_; try simp only [z01, z00]) | (refine yb ?_; simp (config := { maxSteps := 2000000 }) (disch := first | omega | rfl) only [sB, Nat.reduceEqDiff, reduceCtorEq, z75, ld3, cl27, l1, l2]))
 refine (z5o).mono ?_
 rintro v H3 ⟨rfl, rfl⟩
 repeat' (first | refine ya ?_ | refine yg ?_ | refine yd ?_ | (refine ye ?_) | (refine yf ?_) | (refine yc ?_; try simp only [z01, z00]))
 exact z04 rfl (by simp only [sG, Nat.reduceEqDiff, reduceCtorEq] <;> rfl) ⟨rfl, hx2⟩
set_option maxHeartbeats 4000000 in
theorem z8j {b n c a e : Nat} {D : Nat → Bnd} {H : Heap} (hr : RowB H 37 b n D) (hn : n ≤ most) (h1 : a ≤ e) (h3 : e ≤ n) (hw : H.wf) :
  EvF Tryz.prog okT 54 [.slice (some ⟨b, 0, none⟩) n c, .int .i64 (a : Nat), .int .i64 (e : Nat), cvB] H fun _ H' =>
   ∃ D', RowB H' 37 b n D' ∧ Pm a e D D' ∧ InZ Bnd.v a e D' ∧ HK (· = b) H H' := by
 have hms : most ≤ 1048576 := by simp [most]
 have hg := z2p
 refine EvF.enter rfl Tryz.func54 (by decide) rfl ?_
 have hw1 : IntKind.i64.wrap ((a : Int) + 1) = ((a + 1 : Nat) : Int) := by rw [z06 (by omega) (by omega)]; omega
 repeat' (first | refine ya ?_ | refine yg ?_ | refine yd ?_ | (refine ye ?_) | (refine yf ?_) | (refine yc ?_; try simp only [z01, z00]) | (refine yb ?_; simp (config := { maxSteps := 2000000 }) (disch := first | omega | rfl) only [sB, initTm, Nat.reduceEqDiff, Nat.reduceAdd, reduceCtorEq, hw1]))
 refine yk (fun k st => ∃ tm H' i D', st = ⟨tm, [], H'⟩ ∧ k = e - i ∧ a + 1 ≤ i ∧ tm.get 0 = some (.slice (some ⟨b, 0, none⟩) n c) ∧ tm.get 1 = some (.int .i64 (a : Nat)) ∧ tm.get 2 = some (.int .i64 (e : Nat)) ∧ tm.get 3 = some cvB ∧
  tm.get 8 = some (.int .i64 (i : Nat)) ∧ RowB H' 37 b n D' ∧ Pm a e D D' ∧ InZ Bnd.v a i D' ∧ HK (· = b) H H') ?_ (e - (a + 1)) _ ?_
 ·rintro k st ⟨tm, H', i, D', rfl, rfl, hi, t0, t1, t2, t3, t8, hr', hm, ho, hk⟩
  by_cases hlt : i < e
  ·(repeat refine ya ?_); refine yb ?_; simp (config := { maxSteps := 2000000 }) (disch := first | omega | rfl) only [sB, Nat.reduceEqDiff, t8, t2, decl hlt]
   (repeat refine ya ?_); refine yh (by simp (config := { maxSteps := 2000000 }) (disch := first | omega | rfl) only [sB, Nat.reduceEqDiff]) ?_; (try refine ye ?_); (try simp only [z02, z09])
   refine ya ?_
   refine yd ?_
   (repeat refine ya ?_); refine yb ?_; simp (config := { maxSteps := 2000000 }) (disch := first | omega | rfl) only [sB, Nat.reduceEqDiff, t8]
   refine EvC.meet (fun st => ∃ tm H' D', st = ⟨tm, [], H'⟩ ∧ tm.get 0 = some (.slice (some ⟨b, 0, none⟩) n c) ∧ tm.get 1 = some (.int .i64 (a : Nat)) ∧ tm.get 2 = some (.int .i64 (e : Nat)) ∧ tm.get 3 = some cvB ∧
    tm.get 8 = some (.int .i64 (i : Nat)) ∧ RowB H' 37 b n D' ∧ Pm a e D D' ∧ InZ Bnd.v a (i + 1) D' ∧ HK (· = b) H H') ?_ ?_
   ·refine yd (yk (fun k st => ∃ tm H' j D', st = ⟨tm, [], H'⟩ ∧ k = j ∧ a ≤ j ∧ j ≤ i ∧ tm.get 0 = some (.slice (some ⟨b, 0, none⟩) n c) ∧ tm.get 1 = some (.int .i64 (a : Nat)) ∧ tm.get 2 = some (.int .i64 (e : Nat)) ∧ tm.get 3 = some cvB ∧
     tm.get 8 = some (.int .i64 (i : Nat)) ∧ tm.get 9 = some (.int .i64 (j : Nat)) ∧ RowB H' 37 b n D' ∧ Pm a e D D' ∧ (∀ p q, a ≤ p → p < q → q ≤ i → p ≠ j → q ≠ j → (D' p).v ≤ (D' q).v) ∧ (∀ q, j < q → q ≤ i → (D' j).v ≤ (D' q).v) ∧ HK (· = b) H H') ?_ i _ ?_)
    ·rintro k st ⟨tm, H', j, D', rfl, rfl, hj, hji, t0, t1, t2, t3, t8, t9, hr', hm, ho1, ho2, hk⟩
     by_cases hja : a < k
     ·obtain ⟨j, rfl⟩ : ∃ j, k = j + 1 := ⟨k - 1, by omega⟩
      have hw2 : IntKind.i64.wrap (((j + 1 : Nat) : Int) - 1) = ((j : Nat) : Int) := by rw [z06 (by omega) (by omega)]; omega
      have k1 : j + 1 < n := by omega
      have k2 : j < n := by omega
      have l1 := hr'.load k1
      have l2 := hr'.load k2
      have hb := hk.bump 17
      repeat' (first | refine ya ?_ | refine yg ?_ | refine yd ?_ | (refine ye ?_) | (refine yf ?_) | (refine yc ?_; try simp only [z01, z00]) | (refine yj (id := 4) [([(0, 0), (1, 0), (2, 0), (3, 0), (4, 0), (5, 0), (6, 0), (7, 0), (8, 0), (9, 0), (10, 0), (11, 0), (12, 0), (13, 0)], some 14), ([(15, 1), (16, 1)], none)] ?_ ?_; kernel_rfl; simp (config := { maxSteps := 2000000 }) (disch := first | omega | rfl) only [sD, sB, Nat.reduceEqDiff, Nat.reduceAdd, reduceCtorEq, ia27, ld37, t0, t1, t3, t9, gtl hja, hw2, l1, l2, z0r, z0g hg, isAlloc, isRead, reduceCtorEq]))
      obtain ⟨cells0, hg0, -, -⟩ := hr'.row
      have hbl := hk.wf _ _ hg0
      refine (z1x hb.wf).mono ?_
      rintro v H2 ⟨rfl, hx2⟩
      have hk2 := hb.hxs hx2
      have r2 := hr'.heap (H' := H2) (by rw [hx2.keep b (Nat.lt_add_right _ hbl)]; rfl)
      by_cases hc : (D' (j + 1)).v < (D' j).v
      ·have l1 := r2.load k1
       have l2 := r2.load k2
       obtain ⟨cells, hg2, hl, he⟩ := r2.row
       have hbl2 := hk2.wf _ _ hg2
       have le1 : (j + 1) * 7 + 7 ≤ cells.length := by have := mul7 k1; omega
       have le2 : j * 7 + 7 ≤ cells.length := by have := mul7 k2; omega
       have hsw := fun H2 h2 => RowB.swap (H := H') (b := b) (T := 37) hl he k1 k2 H2 h2
       have ms := Pm.swap (a := a) (b := e) (i := j) (j := j + 1) (D := D') (by omega) (by omega) (by omega) (by omega)
       rw [zej] at hsw
       have o1 : ∀ p q, a ≤ p → p < q → q ≤ i → p ≠ j → q ≠ j → (swF j (j + 1) D' p).v ≤ (swF j (j + 1) D' q).v := fun p q p1 p2 p3 p4 p5 => by
        unfold swF
        rw [if_neg p4, if_neg p5]
        by_cases e1 : p = j + 1
        ·rw [if_pos e1, if_neg (by omega)]; exact ho1 j q (by omega) (by omega) p3 (by omega) (by omega)
        ·rw [if_neg e1]
         by_cases e2 : q = j + 1
         ·rw [if_pos e2]; exact ho1 p j p1 (by omega) (by omega) e1 (by omega)
         ·rw [if_neg e2]; exact ho1 p q p1 p2 p3 e1 e2
       have o2 : ∀ q, j < q → q ≤ i → (swF j (j + 1) D' j).v ≤ (swF j (j + 1) D' q).v := fun q q1 q2 => by
        unfold swF
        rw [if_pos rfl, if_neg (by omega)]
        by_cases e2 : q = j + 1
        ·rw [if_pos e2]; omega
        ·rw [if_neg e2]; exact ho2 q (by omega) q2
       generalize hE1 : D' (j + 1) = E1 at *
       generalize hE2 : D' j = E2 at *
       have le3 : j * 7 + 7 ≤ (Hb.splice cells ((j + 1) * 7) E2.seven).length := by rw [z0c (vs := E2.seven) le1]; exact le2
       repeat' (first | refine ya ?_ | refine yg ?_ | refine yd ?_ | (refine ye ?_; try simp only [z02]) | (refine yf ?_) | (refine yc ?_; try simp only [z01, z00]) | (refine yb ?_; simp (config := { maxSteps := 2000000 }) (disch := first | omega | rfl) only [sB, Nat.reduceEqDiff, t9, hw2]) | (refine yj (id := 6) [([(0, 0), (1, 0), (5, 0), (6, 0), (7, 0), (8, 0), (9, 0), (10, 0), (11, 0), (12, 0), (13, 0), (14, 0)], some 15), ([(2, 0), (3, 0), (4, 0), (16, 1)], some 17), ([], none)] ?_ ?_; kernel_rfl; simp (config := { maxSteps := 2000000 }) (disch := first | omega | rfl) only [sV, sD, sB, Nat.reduceEqDiff, Nat.reduceAdd, one, reduceCtorEq, ia27, ld37, st37, t0, t9, hw2, l1, l2, hg2, le1, le3, isAlloc, isRead, reduceCtorEq]) | (refine z0f ?_; simp (config := { maxSteps := 2000000 }) (disch := first | omega | rfl) only [sD, sB, Nat.reduceEqDiff, cz_t hc, isAlloc, isRead]) | (refine yh ?_ ?_; simp (config := { maxSteps := 2000000 }) (disch := first | omega | rfl) only [sB, Nat.reduceEqDiff]; refine z03 ?_))
       exact ⟨j, by omega, _, _, j, _, rfl, rfl, by omega, by omega, (by simp only [sG, reduceCtorEq, t0] <;> rfl), (by simp only [sG, Nat.reduceEqDiff, t1] <;> rfl), (by simp only [sG, Nat.reduceEqDiff, t2] <;> rfl), (by simp only [sG, Nat.reduceEqDiff, t3] <;> rfl), (by simp only [sG, Nat.reduceEqDiff, t8] <;> rfl), (by simp only [sG, Nat.reduceEqDiff] <;> rfl), hsw _ (by rw [get_put, if_pos rfl]), hm.trans ms, o1, o2, hk2.two hbl2 _ _ _⟩
      ·repeat' (first | refine ya ?_ | refine yg ?_ | refine yd ?_ | (refine ye ?_) | (refine yf ?_; try simp only [sB, reduceCtorEq]) | (refine yc ?_; try simp only [z01, z00]) | (refine z0f ?_; simp (config := { maxSteps := 2000000 }) (disch := first | omega | rfl) only [sD, sB, Nat.reduceEqDiff, cz_f hc, isAlloc, isRead]) | (refine yh ?_ ?_; simp (config := { maxSteps := 2000000 }) (disch := first | omega | rfl) only [sB, Nat.reduceEqDiff]; refine z03 ?_) | (refine yi ?_ ?_; simp (config := { maxSteps := 2000000 }) (disch := first | omega | rfl) only [sB, Nat.reduceEqDiff]; refine z03 ?_))
       exact ⟨_, _, D', rfl, (by simp only [sG, reduceCtorEq, t0] <;> rfl), (by simp only [sG, Nat.reduceEqDiff, t1] <;> rfl), (by simp only [sG, Nat.reduceEqDiff, t2] <;> rfl), (by simp only [sG, Nat.reduceEqDiff, t3] <;> rfl), (by simp only [sG, Nat.reduceEqDiff, t8] <;> rfl), r2, hm, fun p q p1 p2 p3 => by
        by_cases e1 : p = j + 1
        ·subst e1; exact ho2 q p2 (by omega)
        ·by_cases e2 : q = j + 1
         ·subst e2
          by_cases e3 : p = j
          ·subst e3; omega
          ·exact Int.le_trans (ho1 p j p1 (by omega) (by omega) e1 (by omega)) (by omega)
         ·exact ho1 p q p1 p2 (by omega) e1 e2, hk2⟩
     ·repeat' (first | refine ya ?_ | refine yg ?_ | refine yd ?_ | (refine ye ?_) | (refine yf ?_; try simp only [sB, reduceCtorEq]) | (refine yc ?_; try simp only [z01, z00]) | (refine yj (id := 4) [([(0, 0), (1, 0), (2, 0), (3, 0), (4, 0), (5, 0), (6, 0), (7, 0), (8, 0), (9, 0), (10, 0), (11, 0), (12, 0), (13, 0)], some 14), ([(15, 1), (16, 1)], none)] ?_ ?_; kernel_rfl; simp (config := { maxSteps := 2000000 }) (disch := first | omega | rfl) only [sD, sB, Nat.reduceEqDiff, Nat.reduceAdd, t1, t9, gtn hja, Bool.false_eq_true, isAlloc, isRead]) | (refine yh ?_ ?_; simp (config := { maxSteps := 2000000 }) (disch := first | omega | rfl) only [sB, Nat.reduceEqDiff]; refine z03 ?_) | (refine yi ?_ ?_; simp (config := { maxSteps := 2000000 }) (disch := first | omega | rfl) only [sB, Nat.reduceEqDiff]; refine z03 ?_))
      obtain rfl : k = a := by omega
      exact ⟨_, _, D', rfl, (by simp only [sG, reduceCtorEq, t0] <;> rfl), (by simp only [sG, Nat.reduceEqDiff, t1] <;> rfl), (by simp only [sG, Nat.reduceEqDiff, t2] <;> rfl), (by simp only [sG, Nat.reduceEqDiff, t3] <;> rfl), (by simp only [sG, Nat.reduceEqDiff, t8] <;> rfl), hr'.heap rfl, hm, fun p q p1 p2 p3 => by
       by_cases e1 : p = k
       ·subst e1; exact ho2 q p2 (by omega)
       ·exact ho1 p q p1 p2 (by omega) e1 (by omega), hk.bump _⟩
    ·exact ⟨_, _, i, D', rfl, rfl, by omega, Nat.le_refl _, (by simp only [sG, reduceCtorEq, t0] <;> rfl), (by simp only [sG, Nat.reduceEqDiff, t1] <;> rfl), (by simp only [sG, Nat.reduceEqDiff, t2] <;> rfl), (by simp only [sG, Nat.reduceEqDiff, t3] <;> rfl), (by simp only [sG, Nat.reduceEqDiff, t8] <;> rfl), (by simp only [sG, Nat.reduceEqDiff] <;> rfl), hr', hm, fun p q p1 p2 p3 p4 p5 => ho p q p1 p2 (by omega), fun q q1 q2 => by omega, hk⟩
   ·rintro st ⟨tm, H', D', rfl, t0, t1, t2, t3, t8, hr', hm, ho, hk⟩
    have hw2 : IntKind.i64.wrap ((i : Int) + 1) = ((i + 1 : Nat) : Int) := by rw [z06 (by omega) (by omega)]; omega
    try simp (config := { maxSteps := 2000000 }) (disch := first | omega | rfl) only [sA]
    repeat' (first | refine ya ?_ | refine yg ?_ | refine yd ?_ | (refine ye ?_) | (refine yf ?_) | (refine yc ?_; try simp only [z01, z00]) | (refine yb ?_; simp (config := { maxSteps := 2000000 }) (disch := first | omega | rfl) only [sB, Nat.reduceEqDiff, t8, hw2]))
    exact ⟨e - (i + 1), by omega, _, _, i + 1, D', rfl, rfl, by omega, (by simp only [sG, reduceCtorEq, t0] <;> rfl), (by simp only [sG, Nat.reduceEqDiff, t1] <;> rfl), (by simp only [sG, Nat.reduceEqDiff, t2] <;> rfl), (by simp only [sG, Nat.reduceEqDiff, t3] <;> rfl), (by simp only [sG, Nat.reduceEqDiff] <;> rfl), hr', hm, ho, hk⟩
  ·repeat' (first | refine ya ?_ | refine yg ?_ | refine yd ?_ | (refine ye ?_) | (refine yf ?_; try simp only [sB]) | (refine yc ?_; try simp only [z01, z00]) | (refine yb ?_; simp (config := { maxSteps := 2000000 }) (disch := first | omega | rfl) only [sB, Nat.reduceEqDiff, t8, t2, decn hlt]) | (refine yh ?_ ?_; simp (config := { maxSteps := 2000000 }) (disch := first | omega | rfl) only [sB, Nat.reduceEqDiff]; refine z03 ?_) | (refine yi ?_ ?_; simp (config := { maxSteps := 2000000 }) (disch := first | omega | rfl) only [sB, Nat.reduceEqDiff]; refine z03 ?_))
   exact z0p rfl ⟨D', hr', hm, fun p q p1 p2 p3 => ho p q p1 p2 (by omega), hk⟩
 ·exact ⟨_, _, a + 1, D, rfl, rfl, Nat.le_refl _, (by simp only [sG, reduceCtorEq] <;> rfl), (by simp only [sG, Nat.reduceEqDiff, reduceCtorEq] <;> rfl), (by simp only [sG, Nat.reduceEqDiff, reduceCtorEq] <;> rfl), (by simp only [sG, Nat.reduceEqDiff, reduceCtorEq] <;> rfl), (by simp only [sG, Nat.reduceEqDiff, reduceCtorEq] <;> rfl), hr, Pm.refl D, InZ.few (by omega), HK.refl hw⟩
set_option maxHeartbeats 4000000 in
theorem zek {b n c lo hi f : Nat} {D : Nat → Bnd} {H : Heap} (hr : RowB H 37 b n D) (hn : n ≤ most) (hfn : f + hi ≤ n) (hlo : lo ≤ n) (hp : HpF Bnd.v f (lo + 1) hi D) (hw : H.wf) :
  EvF Tryz.prog okT 72 [.slice (some ⟨b, 0, none⟩) n c, .int .i64 (lo : Nat), .int .i64 (hi : Nat), .int .i64 (f : Nat), cvB] H fun _ H' =>
   ∃ D', RowB H' 37 b n D' ∧ Pm f (f + hi) D D' ∧ HpF Bnd.v f lo hi D' ∧ HK (· = b) H H' := by
 have hms : most ≤ 1048576 := by simp [most]
 have hg := z2p
 refine EvF.enter rfl Tryz.func72 (by decide) rfl ?_
 repeat' (first | refine ya ?_ | refine yg ?_ | refine yd ?_ | (refine ye ?_) | (refine yf ?_) | (refine yc ?_; try simp only [z01, z00]) | (refine yb ?_; simp (config := { maxSteps := 2000000 }) (disch := first | omega | rfl) only [sB, initTm, Nat.reduceEqDiff, Nat.reduceAdd, reduceCtorEq]))
 refine yk (fun k st => ∃ tm H' r D', st = ⟨tm, [], H'⟩ ∧ k = hi - r ∧ lo ≤ r ∧ r ≤ n ∧ tm.get 0 = some (.slice (some ⟨b, 0, none⟩) n c) ∧ tm.get 2 = some (.int .i64 (hi : Nat)) ∧ tm.get 3 = some (.int .i64 (f : Nat)) ∧ tm.get 4 = some cvB ∧
  tm.get 10 = some (.int .i64 (r : Nat)) ∧ RowB H' 37 b n D' ∧ Pm f (f + hi) D D' ∧ HpX Bnd.v f lo hi r D' ∧ HK (· = b) H H') ?_ (hi - lo) _ ?_
 ·rintro k st ⟨tm, H', r, D', rfl, rfl, hlr, hrn, t0, t2, t3, t4, t10, hr', hm, hx, hk⟩
  have hw1 : IntKind.i64.wrap (2 * (r : Int)) = ((2 * r : Nat) : Int) := by rw [z06 (by omega) (by omega)]; omega
  have hw2 : IntKind.i64.wrap (((2 * r : Nat) : Int) + 1) = ((2 * r + 1 : Nat) : Int) := by rw [z06 (by omega) (by omega)]; omega
  (repeat refine ya ?_)
  refine yd ?_
  (repeat refine ya ?_); refine yb ?_; simp (config := { maxSteps := 2000000 }) (disch := first | omega | rfl) only [sB, Nat.reduceEqDiff, t10, hw1, hw2]
  by_cases h1 : 2 * r + 1 < hi
  ·have hd : decide (((2 * r + 1 : Nat) : Int) ≥ (hi : Int)) = false := decide_eq_false (by omega)
   (repeat refine ya ?_); refine yb ?_; simp (config := { maxSteps := 2000000 }) (disch := first | omega | rfl) only [sB, Nat.reduceEqDiff, t2, hd]
   (repeat refine ya ?_); refine yi (by simp (config := { maxSteps := 2000000 }) (disch := first | omega | rfl) only [sB, Nat.reduceEqDiff]) ?_; (try refine ye ?_); (try simp only [z02, z09])
   have hw3 : IntKind.i64.wrap (((2 * r + 1 : Nat) : Int) + 1) = ((2 * r + 2 : Nat) : Int) := by rw [z06 (by omega) (by omega)]; omega
   refine EvC.cut (fun st => ∃ tm H' ch, st = ⟨tm, [], H'⟩ ∧ (ch = 2 * r + 1 ∨ ch = 2 * r + 2) ∧ ch < hi ∧ (∀ d, (d = 2 * r + 1 ∨ d = 2 * r + 2) → d < hi → (D' (f + d)).v ≤ (D' (f + ch)).v) ∧ tm.get 0 = some (.slice (some ⟨b, 0, none⟩) n c) ∧ tm.get 2 = some (.int .i64 (hi : Nat)) ∧
    tm.get 3 = some (.int .i64 (f : Nat)) ∧ tm.get 4 = some cvB ∧ tm.get 10 = some (.int .i64 (r : Nat)) ∧ tm.get 11 = some (.int .i64 (ch : Nat)) ∧ RowB H' 37 b n D' ∧ HK (· = b) H H') ?_ ?_
   ·by_cases h2 : 2 * r + 2 < hi
    ·have hw4 : IntKind.i64.wrap ((f : Int) + ((2 * r + 1 : Nat) : Int)) = ((f + (2 * r + 1) : Nat) : Int) := by rw [z06 (by omega) (by omega)]; omega
     have hw5 : IntKind.i64.wrap (((f + (2 * r + 1) : Nat) : Int) + 1) = ((f + (2 * r + 2) : Nat) : Int) := by rw [z06 (by omega) (by omega)]; omega
     have k1 : f + (2 * r + 1) < n := by omega
     have k2 : f + (2 * r + 2) < n := by omega
     have l1 := hr'.load k1
     have l2 := hr'.load k2
     have hb := hk.bump 22
     repeat' (first | refine ya ?_ | refine yg ?_ | refine yd ?_ | (refine ye ?_) | (refine yf ?_) | (refine yc ?_; try simp only [z01, z00]) | (refine yj (id := 3) [([(0, 0), (1, 0), (2, 0), (3, 0), (4, 0), (5, 0), (6, 0), (7, 0), (8, 0), (9, 0), (10, 0), (11, 0), (12, 0), (13, 0), (14, 0), (15, 0), (16, 0), (17, 0), (18, 0)], some 19), ([(20, 1), (21, 1)], none)] ?_ ?_; kernel_rfl; simp (config := { maxSteps := 2000000 }) (disch := first | omega | rfl) only [sD, sB, Nat.reduceEqDiff, Nat.reduceAdd, reduceCtorEq, ia27, ld37, t0, t2, t3, t4, hw3, decl h2, hw4, hw5, l1, l2, z0r, z0g hg, isAlloc, isRead, reduceCtorEq]))
     obtain ⟨cells0, hg0, -, -⟩ := hr'.row
     have hbl := hk.wf _ _ hg0
     refine (z1x hb.wf).mono ?_
     rintro v H2 ⟨rfl, hx2⟩
     have hk2 := hb.hxs hx2
     have r2 := hr'.heap (H' := H2) (by rw [hx2.keep b (Nat.lt_add_right _ hbl)]; rfl)
     by_cases hc : (D' (f + (2 * r + 1))).v < (D' (f + (2 * r + 2))).v
     ·repeat' (first | refine ya ?_ | refine yg ?_ | refine yd ?_ | (refine ye ?_) | (refine yf ?_) | (refine yc ?_; try simp only [z01, z00]) | (refine yb ?_; simp (config := { maxSteps := 2000000 }) (disch := first | omega | rfl) only [sB, Nat.reduceEqDiff, hw3]) | (refine z0f ?_; simp (config := { maxSteps := 2000000 }) (disch := first | omega | rfl) only [sD, sB, Nat.reduceEqDiff, cz_t hc, isAlloc, isRead]) | (refine yh ?_ ?_; simp (config := { maxSteps := 2000000 }) (disch := first | omega | rfl) only [sB, Nat.reduceEqDiff]; refine z03 ?_))
      exact ⟨_, _, 2 * r + 2, rfl, .inr rfl, h2, fun d hd _ => by rcases hd with rfl | rfl <;> omega, (by simp only [sG, reduceCtorEq, t0] <;> rfl), (by simp only [sG, Nat.reduceEqDiff, t2] <;> rfl), (by simp only [sG, Nat.reduceEqDiff, t3] <;> rfl), (by simp only [sG, Nat.reduceEqDiff, t4] <;> rfl), (by simp only [sG, Nat.reduceEqDiff, t10] <;> rfl), (by simp only [sG, Nat.reduceEqDiff] <;> rfl), r2, hk2⟩
     ·repeat' (first | refine ya ?_ | refine yg ?_ | refine yd ?_ | (refine ye ?_; try simp only [true_and]) | (refine yf ?_) | (refine yc ?_; try simp only [z01, z00]) | (refine z0f ?_; simp (config := { maxSteps := 2000000 }) (disch := first | omega | rfl) only [sD, sB, Nat.reduceEqDiff, cz_f hc, isAlloc, isRead]) | (refine yh ?_ ?_; simp (config := { maxSteps := 2000000 }) (disch := first | omega | rfl) only [sB, Nat.reduceEqDiff]; refine z03 ?_) | (refine yi ?_ ?_; simp (config := { maxSteps := 2000000 }) (disch := first | omega | rfl) only [sB, Nat.reduceEqDiff]; refine z03 ?_))
      exact ⟨_, _, 2 * r + 1, rfl, .inl rfl, h1, fun d hd _ => by rcases hd with rfl | rfl <;> omega, (by simp only [sG, reduceCtorEq, t0] <;> rfl), (by simp only [sG, Nat.reduceEqDiff, t2] <;> rfl), (by simp only [sG, Nat.reduceEqDiff, t3] <;> rfl), (by simp only [sG, Nat.reduceEqDiff, t4] <;> rfl), (by simp only [sG, Nat.reduceEqDiff, t10] <;> rfl), (by simp only [sG, Nat.reduceEqDiff] <;> rfl), r2, hk2⟩
    ·repeat' (first | refine ya ?_ | refine yg ?_ | refine yd ?_ | (refine ye ?_; try simp only [true_and]) | (refine yf ?_) | (refine yc ?_; try simp only [z01, z00]) | (refine yj (id := 3) [([(0, 0), (1, 0), (2, 0), (3, 0), (4, 0), (5, 0), (6, 0), (7, 0), (8, 0), (9, 0), (10, 0), (11, 0), (12, 0), (13, 0), (14, 0), (15, 0), (16, 0), (17, 0), (18, 0)], some 19), ([(20, 1), (21, 1)], none)] ?_ ?_; kernel_rfl; simp (config := { maxSteps := 2000000 }) (disch := first | omega | rfl) only [sD, sB, Nat.reduceEqDiff, Nat.reduceAdd, t2, hw3, decn h2, Bool.false_eq_true, isAlloc, isRead]) | (refine yh ?_ ?_; simp (config := { maxSteps := 2000000 }) (disch := first | omega | rfl) only [sB, Nat.reduceEqDiff]; refine z03 ?_) | (refine yi ?_ ?_; simp (config := { maxSteps := 2000000 }) (disch := first | omega | rfl) only [sB, Nat.reduceEqDiff]; refine z03 ?_))
     exact ⟨_, _, 2 * r + 1, rfl, .inl rfl, h1, fun d hd h => by rcases hd with rfl | rfl <;> omega, (by simp only [sG, reduceCtorEq, t0] <;> rfl), (by simp only [sG, Nat.reduceEqDiff, t2] <;> rfl), (by simp only [sG, Nat.reduceEqDiff, t3] <;> rfl), (by simp only [sG, Nat.reduceEqDiff, t4] <;> rfl), (by simp only [sG, Nat.reduceEqDiff, t10] <;> rfl), (by simp only [sG, Nat.reduceEqDiff] <;> rfl), hr'.heap rfl, hk.bump _⟩
   ·rintro st ⟨tm, H1, ch, rfl, hch, hchi, hbig, t0, t2, t3, t4, t10, t11, hr1, hk1⟩
    have k1 : f + r < n := by omega
    have k2 : f + ch < n := by omega
    have l1 := hr1.load k1
    have l2 := hr1.load k2
    have hb := hk1.bump 16
    have hw6 : IntKind.i64.wrap ((f : Int) + (r : Int)) = ((f + r : Nat) : Int) := by rw [z06 (by omega) (by omega)]; omega
    have hw7 : IntKind.i64.wrap ((f : Int) + (ch : Int)) = ((f + ch : Nat) : Int) := by rw [z06 (by omega) (by omega)]; omega
    repeat' (first | refine ya ?_ | refine yg ?_ | refine yd ?_ | (refine ye ?_) | (refine yf ?_) | (refine yc ?_; try simp only [z01, z00]) | (refine yj (id := 5) [([(0, 0), (1, 0), (2, 0), (3, 0), (4, 0), (5, 0), (6, 0), (7, 0), (8, 0), (9, 0), (10, 0), (11, 0), (12, 0)], some 13), ([(14, 1), (15, 1)], none)] ?_ ?_; kernel_rfl; simp (config := { maxSteps := 2000000 }) (disch := first | omega | rfl) only [sD, sB, Nat.reduceEqDiff, Nat.reduceAdd, reduceCtorEq, ia27, ld37, t0, t3, t4, t10, t11, hw6, hw7, l1, l2, z0r, z0g hg, isAlloc, isRead, reduceCtorEq]))
    obtain ⟨cells0, hg0, -, -⟩ := hr1.row
    have hbl := hk1.wf _ _ hg0
    refine (z1x hb.wf).mono ?_
    rintro v H2 ⟨rfl, hx2⟩
    have hk2 := hb.hxs hx2
    have r2 := hr1.heap (H' := H2) (by rw [hx2.keep b (Nat.lt_add_right _ hbl)]; rfl)
    by_cases hc : (D' (f + r)).v < (D' (f + ch)).v
    ·have l1 := r2.load k1
     have l2 := r2.load k2
     obtain ⟨cells, hg2, hl, he⟩ := r2.row
     have hbl2 := hk2.wf _ _ hg2
     have le1 : (f + r) * 7 + 7 ≤ cells.length := by have := mul7 k1; omega
     have le2 : (f + ch) * 7 + 7 ≤ cells.length := by have := mul7 k2; omega
     have hsw := fun H2 h2 => RowB.swap (H := H') (b := b) (T := 37) hl he k1 k2 H2 h2
     have ms := Pm.swap (a := f) (b := f + hi) (i := f + r) (j := f + ch) (D := D') (by omega) (by omega) (by omega) (by omega)
     have hst := hx.step hlr hch hchi hc hbig
     generalize hE1 : D' (f + r) = E1 at *
     generalize hE2 : D' (f + ch) = E2 at *
     have le3 : (f + ch) * 7 + 7 ≤ (Hb.splice cells ((f + r) * 7) E2.seven).length := by rw [z0c (vs := E2.seven) le1]; exact le2
     repeat' (first | refine ya ?_ | refine yg ?_ | refine yd ?_ | (refine ye ?_; try simp only [z02]) | (refine yf ?_) | (refine yc ?_; try simp only [z01, z00]) | (refine yb ?_; simp (config := { maxSteps := 2000000 }) (disch := first | omega | rfl) only [sB, Nat.reduceEqDiff, t11]) | (refine yj (id := 6) [([(0, 0), (1, 0), (2, 0), (3, 0), (8, 0), (9, 0), (10, 0), (11, 0), (12, 0), (13, 0), (14, 0), (15, 0), (16, 0), (17, 0), (18, 0), (19, 0), (20, 0)], some 21), ([(4, 0), (5, 0), (6, 0), (7, 0), (22, 1)], some 23), ([], none)] ?_ ?_; kernel_rfl; simp (config := { maxSteps := 2000000 }) (disch := first | omega | rfl) only [sV, sD, sB, Nat.reduceEqDiff, Nat.reduceAdd, one, reduceCtorEq, ia27, ld37, st37, t0, t3, t10, t11, hw6, hw7, l1, l2, hg2, le1, le3, isAlloc, isRead, reduceCtorEq]) | (refine z0f ?_; simp (config := { maxSteps := 2000000 }) (disch := first | omega | rfl) only [sD, sB, Nat.reduceEqDiff, cz_t hc, Bool.not_true, isAlloc, isRead]) | (refine yh ?_ ?_; simp (config := { maxSteps := 2000000 }) (disch := first | omega | rfl) only [sB, Nat.reduceEqDiff]; refine z03 ?_) | (refine yi ?_ ?_; simp (config := { maxSteps := 2000000 }) (disch := first | omega | rfl) only [sB, Nat.reduceEqDiff]; refine z03 ?_))
     exact ⟨hi - ch, by omega, _, _, ch, _, rfl, rfl, by omega, by omega, (by simp only [sG, reduceCtorEq, t0] <;> rfl), (by simp only [sG, Nat.reduceEqDiff, t2] <;> rfl), (by simp only [sG, Nat.reduceEqDiff, t3] <;> rfl), (by simp only [sG, Nat.reduceEqDiff, t4] <;> rfl), (by simp only [sG, Nat.reduceEqDiff] <;> rfl), hsw _ (by rw [get_put, if_pos rfl]), hm.trans ms, hst, hk2.two hbl2 _ _ _⟩
    ·repeat' (first | refine ya ?_ | refine yg ?_ | refine yd ?_ | (refine ye ?_) | (refine yf ?_) | (refine yc ?_; try simp only [z01, z00]) | (refine z0f ?_; simp (config := { maxSteps := 2000000 }) (disch := first | omega | rfl) only [sD, sB, Nat.reduceEqDiff, cz_f hc, Bool.not_false, isAlloc, isRead]) | (refine yh ?_ ?_; simp (config := { maxSteps := 2000000 }) (disch := first | omega | rfl) only [sB, Nat.reduceEqDiff]; refine z03 ?_))
     exact z2j rfl ⟨D', r2, hm, hx.done fun d hd hlt => Int.le_trans (hbig d hd hlt) (by omega), hk2⟩
  ·have hd : decide (((2 * r + 1 : Nat) : Int) ≥ (hi : Int)) = true := decide_eq_true (by omega)
   repeat' (first | refine ya ?_ | refine yg ?_ | refine yd ?_ | (refine ye ?_) | (refine yf ?_; try simp only [sB, reduceCtorEq]) | (refine yc ?_; try simp only [z01, z00]) | (refine yb ?_; simp (config := { maxSteps := 2000000 }) (disch := first | omega | rfl) only [sB, Nat.reduceEqDiff, t2, hd]) | (refine yh ?_ ?_; simp (config := { maxSteps := 2000000 }) (disch := first | omega | rfl) only [sB, Nat.reduceEqDiff]; refine z03 ?_))
   exact z0p rfl ⟨D', hr', hm, hx.done fun d hd hlt => by omega, hk⟩
 ·exact ⟨_, _, lo, D, rfl, rfl, Nat.le_refl _, hlo, (by simp only [sG, reduceCtorEq] <;> rfl), (by simp only [sG, Nat.reduceEqDiff, reduceCtorEq] <;> rfl), (by simp only [sG, Nat.reduceEqDiff, reduceCtorEq] <;> rfl), (by simp only [sG, Nat.reduceEqDiff, reduceCtorEq] <;> rfl), (by simp only [sG, Nat.reduceEqDiff, reduceCtorEq] <;> rfl), hr, Pm.refl D, .start hp, HK.refl hw⟩
set_option maxHeartbeats 4000000 in
theorem zjx {b n c a e : Nat} {D : Nat → Bnd} {H : Heap} (hr : RowB H 37 b n D) (hn : n ≤ most) (h1 : a < e) (h3 : e ≤ n) (hw : H.wf) :
  EvF Tryz.prog okT 55 [.slice (some ⟨b, 0, none⟩) n c, .int .i64 (a : Nat), .int .i64 (e : Nat), cvB] H fun _ H' =>
   ∃ D', RowB H' 37 b n D' ∧ Pm a e D D' ∧ InZ Bnd.v a e D' ∧ HK (· = b) H H' := by
 have hms : most ≤ 1048576 := by simp [most]
 obtain ⟨m, rfl⟩ : ∃ m, e = a + (m + 1) := ⟨e - a - 1, by omega⟩
 refine EvF.enter rfl Tryz.func55 (by decide) rfl ?_
 have hw1 : IntKind.i64.wrap (((a + (m + 1) : Nat) : Int) - (a : Int)) = ((m + 1 : Nat) : Int) := by rw [z06 (by omega) (by omega)]; omega
 have hw2 : IntKind.i64.wrap (((m + 1 : Nat) : Int) - 1) = ((m : Nat) : Int) := by rw [z06 (by omega) (by omega)]; omega
 have hq : IntKind.i64.wrap (((m : Nat) : Int).tdiv 2) = ((m / 2 + 1 : Nat) : Int) - 1 := by rw [Int.tdiv_eq_ediv_of_nonneg (by omega), z06 (by omega) (by omega)]; omega
 (repeat refine ya ?_); refine yb ?_; simp (config := { maxSteps := 2000000 }) (disch := first | omega | rfl) only [sB, initTm, Nat.reduceEqDiff, Nat.reduceAdd, reduceCtorEq]
 (repeat refine ya ?_); refine yb ?_; simp (config := { maxSteps := 2000000 }) (disch := first | omega | rfl) only [sA]
 (repeat refine ya ?_); refine yb ?_; simp (config := { maxSteps := 2000000 }) (disch := first | omega | rfl) only [sB, Nat.reduceEqDiff, reduceCtorEq, hw1]
 (repeat refine ya ?_); refine yb ?_; simp (config := { maxSteps := 2000000 }) (disch := first | omega | rfl) only [sB, Nat.reduceEqDiff, reduceCtorEq, hw2, bQuo, hq]
 refine EvC.meet (fun st => ∃ tm H' D', st = ⟨tm, [], H'⟩ ∧ tm.get 0 = some (.slice (some ⟨b, 0, none⟩) n c) ∧ tm.get 3 = some cvB ∧ tm.get 8 = some (.int .i64 (a : Nat)) ∧ tm.get 9 = some (.int .i64 0) ∧ tm.get 10 = some (.int .i64 ((m + 1 : Nat) : Int)) ∧
  RowB H' 37 b n D' ∧ Pm a (a + (m + 1)) D D' ∧ HpF Bnd.v a 0 (m + 1) D' ∧ HK (· = b) H H') ?_ ?_
 ·refine yd (yk (fun k st => ∃ tm H' D', st = ⟨tm, [], H'⟩ ∧ k ≤ m + 1 ∧ tm.get 0 = some (.slice (some ⟨b, 0, none⟩) n c) ∧ tm.get 3 = some cvB ∧ tm.get 8 = some (.int .i64 (a : Nat)) ∧ tm.get 9 = some (.int .i64 0) ∧ tm.get 10 = some (.int .i64 ((m + 1 : Nat) : Int)) ∧
   tm.get 11 = some (.int .i64 ((k : Nat) - 1 : Int)) ∧ RowB H' 37 b n D' ∧ Pm a (a + (m + 1)) D D' ∧ HpF Bnd.v a k (m + 1) D' ∧ HK (· = b) H H') ?_ (m / 2 + 1) _ ?_)
  ·rintro k st ⟨tm, H', D', rfl, hkm, t0, t3, t8, t9, t10, t11, hr', hm, hp, hk⟩
   by_cases hk0 : k = 0
   ·subst hk0
    have hd : decide (((0 : Nat) : Int) - 1 ≥ 0) = false := rfl
    repeat' (first | refine ya ?_ | refine yg ?_ | refine yd ?_ | (refine ye ?_) | (refine yf ?_; try simp only [sB, reduceCtorEq]) | (refine yc ?_; try simp only [z01, z00]) | (refine yb ?_; simp (config := { maxSteps := 2000000 }) (disch := first | omega | rfl) only [sB, t11, hd]) | (refine yh ?_ ?_; simp (config := { maxSteps := 2000000 }) (disch := first | omega | rfl) only [sB, Nat.reduceEqDiff]; refine z03 ?_) | (refine yi ?_ ?_; simp (config := { maxSteps := 2000000 }) (disch := first | omega | rfl) only [sB, Nat.reduceEqDiff]; refine z03 ?_))
    exact ⟨_, _, D', rfl, (by simp only [sG, reduceCtorEq, t0] <;> rfl), (by simp only [sG, Nat.reduceEqDiff, t3] <;> rfl), (by simp only [sG, Nat.reduceEqDiff, t8] <;> rfl), (by simp only [sG, Nat.reduceEqDiff, t9] <;> rfl), (by simp only [sG, Nat.reduceEqDiff, t10] <;> rfl), hr', hm, hp, hk⟩
   ·obtain ⟨j, rfl⟩ : ∃ j, k = j + 1 := ⟨k - 1, by omega⟩
    rw [show ((j + 1 : Nat) : Int) - 1 = (j : Int) by omega] at t11
    have hd : decide ((j : Int) ≥ 0) = true := decide_eq_true (by omega)
    have hw3 : IntKind.i64.wrap ((j : Int) - 1) = (j : Int) - 1 := by rw [z06 (by omega) (by omega)]
    repeat' (first | refine ya ?_ | refine yg ?_ | refine yd ?_ | (refine ye ?_; try simp only [z02]) | (refine yf ?_) | (refine yc ?_; try simp only [z01, z00]) | (refine yb ?_; simp (config := { maxSteps := 2000000 }) (disch := first | omega | rfl) only [sB, Nat.reduceEqDiff, reduceCtorEq, cl72, t0, t3, t8, t10, t11, hd]) | (refine yh ?_ ?_; simp (config := { maxSteps := 2000000 }) (disch := first | omega | rfl) only [sB, Nat.reduceEqDiff]; refine z03 ?_))
    refine (zek hr' hn (by omega) (by omega) hp hk.wf).mono ?_
    rintro v H2 ⟨D2, r2, m2, p2, k2⟩
    repeat' (first | refine ya ?_ | refine yg ?_ | refine yd ?_ | (refine ye ?_) | (refine yf ?_) | (refine yc ?_; try simp only [z01, z00]) | (refine yb ?_; simp (config := { maxSteps := 2000000 }) (disch := first | omega | rfl) only [sB, Nat.reduceEqDiff, t11, hw3]))
    exact ⟨j, Nat.lt_succ_self _, _, _, D2, rfl, by omega, (by simp only [sG, reduceCtorEq, t0] <;> rfl), (by simp only [sG, Nat.reduceEqDiff, t3] <;> rfl), (by simp only [sG, Nat.reduceEqDiff, t8] <;> rfl), (by simp only [sG, Nat.reduceEqDiff, t9] <;> rfl), (by simp only [sG, Nat.reduceEqDiff, t10] <;> rfl), (by simp only [sG, Nat.reduceEqDiff] <;> rfl), r2, hm.trans m2, p2, hk.trans k2⟩
  ·exact ⟨_, _, D, rfl, by omega, (by simp only [sG, reduceCtorEq] <;> rfl), (by simp only [sG, Nat.reduceEqDiff, reduceCtorEq] <;> rfl), (by simp only [sG, Nat.reduceEqDiff, reduceCtorEq] <;> rfl), (by simp only [sG, Nat.reduceEqDiff, reduceCtorEq] <;> rfl), (by simp only [sG, Nat.reduceEqDiff, reduceCtorEq] <;> rfl), (by simp only [sG, Nat.reduceEqDiff, reduceCtorEq] <;> rfl), hr, Pm.refl D, fun k c h1 h2 h3 => by omega, HK.refl hw⟩
 rintro st ⟨tm, H1, D1, rfl, t0, t3, t8, t9, t10, hr1, hm1, hp1, hk1⟩
 (repeat refine ya ?_); refine yb ?_; simp (config := { maxSteps := 2000000 }) (disch := first | omega | rfl) only [sB, Nat.reduceEqDiff, t10, hw2]
 refine yd (yk (fun k st => ∃ tm H' D', st = ⟨tm, [], H'⟩ ∧ k ≤ m + 1 ∧ tm.get 0 = some (.slice (some ⟨b, 0, none⟩) n c) ∧ tm.get 3 = some cvB ∧ tm.get 8 = some (.int .i64 (a : Nat)) ∧ tm.get 9 = some (.int .i64 0) ∧
   tm.get 12 = some (.int .i64 ((k : Nat) - 1 : Int)) ∧ RowB H' 37 b n D' ∧ Pm a (a + (m + 1)) D D' ∧ HpF Bnd.v a 0 k D' ∧ InZ Bnd.v (a + k) (a + (m + 1)) D' ∧ (∀ p q, a ≤ p → p < a + k → a + k ≤ q → q < a + (m + 1) → (D' p).v ≤ (D' q).v) ∧ HK (· = b) H H') ?_ (m + 1) _ ?_)
 ·rintro k st ⟨tm, H', D', rfl, hkm, t0, t3, t8, t9, t12, hr', hm, hp, ho, hbd, hk⟩
  by_cases hk0 : k = 0
  ·subst hk0
   have hd : decide (((0 : Nat) : Int) - 1 ≥ 0) = false := rfl
   repeat' (first | refine ya ?_ | refine yg ?_ | refine yd ?_ | (refine ye ?_) | (refine yf ?_; try simp only [sB]) | (refine yc ?_; try simp only [z01, z00]) | (refine yb ?_; simp (config := { maxSteps := 2000000 }) (disch := first | omega | rfl) only [sB, t12, hd]) | (refine yh ?_ ?_; simp (config := { maxSteps := 2000000 }) (disch := first | omega | rfl) only [sB, Nat.reduceEqDiff]; refine z03 ?_) | (refine yi ?_ ?_; simp (config := { maxSteps := 2000000 }) (disch := first | omega | rfl) only [sB, Nat.reduceEqDiff]; refine z03 ?_))
   exact z0p rfl ⟨D', hr', hm, ho, hk⟩
  ·obtain ⟨j, rfl⟩ : ∃ j, k = j + 1 := ⟨k - 1, by omega⟩
   rw [show ((j + 1 : Nat) : Int) - 1 = (j : Int) by omega] at t12
   have hd : decide ((j : Int) ≥ 0) = true := decide_eq_true (by omega)
   have hw3 : IntKind.i64.wrap ((j : Int) - 1) = (j : Int) - 1 := by rw [z06 (by omega) (by omega)]
   have hw4 : IntKind.i64.wrap ((a : Int) + (j : Int)) = ((a + j : Nat) : Int) := by rw [z06 (by omega) (by omega)]; omega
   have k1 : a < n := by omega
   have k2 : a + j < n := by omega
   have l1 := hr'.load k1
   have l2 := hr'.load k2
   obtain ⟨cells, hg2, hl, he⟩ := hr'.row
   have hbl2 := hk.wf _ _ hg2
   have le1 : a * 7 + 7 ≤ cells.length := by have := mul7 k1; omega
   have le2 : (a + j) * 7 + 7 ≤ cells.length := by have := mul7 k2; omega
   have hsw := fun H2 h2 => RowB.swap (H := H') (b := b) (T := 37) hl he k1 k2 H2 h2
   have ms := Pm.swap (a := a) (b := a + (m + 1)) (i := a) (j := a + j) (D := D') (by omega) (by omega) (by omega) (by omega)
   have hdr := hp.drop
   have hps := fun D2 => zjq (D2 := D2) hp ho hbd
   generalize hD1 : swF a (a + j) D' = D1 at *
   generalize hE1 : D' a = E1 at *
   generalize hE2 : D' (a + j) = E2 at *
   have le3 : (a + j) * 7 + 7 ≤ (Hb.splice cells (a * 7) E2.seven).length := by rw [z0c (vs := E2.seven) le1]; exact le2
   repeat' (first | refine ya ?_ | refine yg ?_ | refine yd ?_ | (refine ye ?_; try simp only [z02]) | (refine yf ?_) | (refine yc ?_; try simp only [z01, z00]) | (refine yb ?_; simp (config := { maxSteps := 2000000 }) (disch := first | omega | rfl) only [sB, Nat.reduceEqDiff, reduceCtorEq, cl72, t0, t3, t8, t9, t12, hd]) | (refine yj [([(0, 0), (1, 0), (6, 0), (7, 0), (8, 0), (9, 0), (10, 0), (11, 0), (12, 0), (13, 0), (14, 0), (15, 0), (16, 0)], some 17), ([(2, 0), (3, 0), (4, 0), (5, 0), (18, 1)], some 19), ([], none)] ?_ ?_; kernel_rfl; simp (config := { maxSteps := 2000000 }) (disch := first | omega | rfl) only [sV, sD, sB, Nat.reduceEqDiff, Nat.reduceAdd, one, reduceCtorEq, ia27, ld37, st37, t0, t8, t12, hw4, l1, l2, hg2, le1, le3, isAlloc, isRead, reduceCtorEq]) | (refine yh ?_ ?_; simp (config := { maxSteps := 2000000 }) (disch := first | omega | rfl) only [sB, Nat.reduceEqDiff]; refine z03 ?_))
   refine (zek (lo := 0) (hsw _ (by rw [get_put, if_pos rfl])) hn (by omega) (by omega) hdr (hk.two hbl2 _ _ _).wf).mono ?_
   rintro v H2 ⟨D2, r2, m2, p2, kk2⟩
   obtain ⟨o2, b2⟩ := hps D2 m2 (by omega)
   repeat' (first | refine ya ?_ | refine yg ?_ | refine yd ?_ | (refine ye ?_) | (refine yf ?_) | (refine yc ?_; try simp only [z01, z00]) | (refine yb ?_; simp (config := { maxSteps := 2000000 }) (disch := first | omega | rfl) only [sB, Nat.reduceEqDiff, t12, hw3]))
   exact ⟨j, Nat.lt_succ_self _, _, _, D2, rfl, by omega, (by simp only [sG, reduceCtorEq, t0] <;> rfl), (by simp only [sG, Nat.reduceEqDiff, t3] <;> rfl), (by simp only [sG, Nat.reduceEqDiff, t8] <;> rfl), (by simp only [sG, Nat.reduceEqDiff, t9] <;> rfl), (by simp only [sG, Nat.reduceEqDiff] <;> rfl), r2, hm.trans (ms.trans (m2.wide (Nat.le_refl _) (by omega))), p2, o2, b2, (hk.two hbl2 _ _ _).trans kk2⟩
 ·exact ⟨_, _, D1, rfl, Nat.le_refl _, (by simp only [sG, reduceCtorEq, t0] <;> rfl), (by simp only [sG, Nat.reduceEqDiff, t3] <;> rfl), (by simp only [sG, Nat.reduceEqDiff, t8] <;> rfl), (by simp only [sG, Nat.reduceEqDiff, t9] <;> rfl), by first | (simp only [sB, Nat.reduceEqDiff]; rfl) | simp only [sB, Nat.reduceEqDiff]; rw [show ((m + 1 : Nat) : Int) - 1 = (m : Int) by omega], hr1, hm1, hp1, InZ.few (by omega), fun p q h1 h2 h3 h4 => by omega, hk1⟩
set_option maxHeartbeats 4000000 in
theorem zcu {b n c a e : Nat} {D : Nat → Bnd} {H : Heap} (hr : RowB H 37 b n D) (hn : n ≤ most) (h1 : a < e) (h3 : e ≤ n) (hw : H.wf) :
  EvF Tryz.prog okT 58 [.slice (some ⟨b, 0, none⟩) n c, .int .i64 (a : Nat), .int .i64 (e : Nat), cvB] H fun _ H' =>
   ∃ D', RowB H' 37 b n D' ∧ Pm a e D D' ∧ HK (· = b) H H' := by
 have hms : most ≤ 1048576 := by simp [most]
 refine EvF.enter rfl Tryz.func58 (by decide) rfl ?_
 have hw1 : IntKind.i64.wrap ((e : Int) - 1) = ((e - 1 : Nat) : Int) := by rw [z06 (by omega) (by omega)]; omega
 (repeat refine ya ?_); refine yb ?_; simp (config := { maxSteps := 2000000 }) (disch := first | omega | rfl) only [sB, initTm, Nat.reduceEqDiff, Nat.reduceAdd, reduceCtorEq]
 (repeat refine ya ?_); refine yb ?_; simp (config := { maxSteps := 2000000 }) (disch := first | omega | rfl) only [sB, Nat.reduceEqDiff, reduceCtorEq, hw1]
 refine yd (yk (fun k st => ∃ tm H' i j D', st = ⟨tm, [], H'⟩ ∧ k = j - i ∧ a ≤ i ∧ j < e ∧ tm.get 0 = some (.slice (some ⟨b, 0, none⟩) n c) ∧ tm.get 8 = some (.int .i64 (i : Nat)) ∧ tm.get 9 = some (.int .i64 (j : Nat)) ∧
  RowB H' 37 b n D' ∧ Pm a e D D' ∧ HK (· = b) H H') ?_ (e - 1 - a) _ ?_)
 ·rintro k st ⟨tm, H', i, j, D', rfl, rfl, hi, hj, t0, t8, t9, hr', hm, hk⟩
  by_cases hlt : i < j
  ·have hw2 : IntKind.i64.wrap ((i : Int) + 1) = ((i + 1 : Nat) : Int) := by rw [z06 (by omega) (by omega)]; omega
   have hw3 : IntKind.i64.wrap ((j : Int) - 1) = ((j - 1 : Nat) : Int) := by rw [z06 (by omega) (by omega)]; omega
   have k1 : i < n := by omega
   have k2 : j < n := by omega
   have l1 := hr'.load k1
   have l2 := hr'.load k2
   obtain ⟨cells, hg2, hl, he⟩ := hr'.row
   have hbl2 := hk.wf _ _ hg2
   have le1 : i * 7 + 7 ≤ cells.length := by have := mul7 k1; omega
   have le2 : j * 7 + 7 ≤ cells.length := by have := mul7 k2; omega
   have hsw := fun H2 h2 => RowB.swap (H := H') (b := b) (T := 37) hl he k1 k2 H2 h2
   have ms := Pm.swap (a := a) (b := e) (i := i) (j := j) (D := D') hi (by omega) (by omega) hj
   generalize hE1 : D' i = E1 at *
   generalize hE2 : D' j = E2 at *
   have le3 : j * 7 + 7 ≤ (Hb.splice cells (i * 7) E2.seven).length := by rw [z0c (vs := E2.seven) le1]; exact le2
   repeat' (first | refine ya ?_ | refine yg ?_ | refine yd ?_ | (refine ye ?_; try simp only [z02]) | (refine yf ?_) | (refine yc ?_; try simp only [z01, z00]) | (refine yb ?_; simp (config := { maxSteps := 2000000 }) (disch := first | omega | rfl) only [sB, Nat.reduceEqDiff, t8, t9, decl hlt, hw2, hw3]) | (refine yj [([(0, 0), (1, 0), (4, 0), (5, 0), (6, 0), (7, 0), (8, 0), (9, 0), (10, 0), (11, 0), (12, 0)], some 13), ([(2, 0), (3, 0), (14, 1)], some 15), ([], none)] ?_ ?_; kernel_rfl; simp (config := { maxSteps := 2000000 }) (disch := first | omega | rfl) only [sV, sD, sB, Nat.reduceEqDiff, Nat.reduceAdd, one, reduceCtorEq, ia27, ld37, st37, t0, t8, t9, l1, l2, hg2, le1, le3, isAlloc, isRead, reduceCtorEq]) | (refine yh ?_ ?_; simp (config := { maxSteps := 2000000 }) (disch := first | omega | rfl) only [sB, Nat.reduceEqDiff]; refine z03 ?_))
   exact ⟨j - 1 - (i + 1), by omega, _, _, i + 1, j - 1, _, rfl, rfl, by omega, by omega, (by simp only [sG, reduceCtorEq, t0] <;> rfl), (by simp only [sG, Nat.reduceEqDiff] <;> rfl), (by simp only [sG, Nat.reduceEqDiff] <;> rfl), hsw _ (by rw [get_put, if_pos rfl]), hm.trans ms, hk.two hbl2 _ _ _⟩
  ·repeat' (first | refine ya ?_ | refine yg ?_ | refine yd ?_ | (refine ye ?_) | (refine yf ?_; try simp only [sB]) | (refine yc ?_; try simp only [z01, z00]) | (refine yb ?_; simp (config := { maxSteps := 2000000 }) (disch := first | omega | rfl) only [sB, Nat.reduceEqDiff, t8, t9, decn hlt]) | (refine yh ?_ ?_; simp (config := { maxSteps := 2000000 }) (disch := first | omega | rfl) only [sB, Nat.reduceEqDiff]; refine z03 ?_) | (refine yi ?_ ?_; simp (config := { maxSteps := 2000000 }) (disch := first | omega | rfl) only [sB, Nat.reduceEqDiff]; refine z03 ?_))
   exact z0p rfl ⟨D', hr', hm, hk⟩
 ·exact ⟨_, _, a, e - 1, D, rfl, rfl, Nat.le_refl _, by omega, (by simp only [sG, reduceCtorEq] <;> rfl), (by simp only [sG, Nat.reduceEqDiff, reduceCtorEq] <;> rfl), (by simp only [sG, Nat.reduceEqDiff, reduceCtorEq] <;> rfl), hr, Pm.refl D, HK.refl hw⟩
set_option maxHeartbeats 4000000 in
theorem z5r {b n c x y s w : Nat} {D : Nat → Bnd} {H : Heap} (hr : RowB H 37 b n D) (hn : n ≤ most) (h1 : x < n) (h2 : y < n) (hs : H.get s = some (.row [.int .i64 (w : Nat)] 3)) (hsb : s ≠ b) (hww : w ≤ 1000) (hw : H.wf) :
  EvF Tryz.prog okT 83 [.slice (some ⟨b, 0, none⟩) n c, .int .i64 (x : Nat), .int .i64 (y : Nat), .pointer (some ⟨s, 0, none⟩), cvB] H fun v H' =>
   ∃ p q w' : Nat, v = .tuple ⟨[.int .i64 (p : Nat), .int .i64 (q : Nat)]⟩ ∧ (p = x ∧ q = y ∨ p = y ∧ q = x) ∧ H'.get s = some (.row [.int .i64 (w' : Nat)] 3) ∧ w' ≤ w + 1 ∧ RowB H' 37 b n D ∧ HK (· = s) H H' := by
 have hms : most ≤ 1048576 := by simp [most]
 have hg := z2p
 refine EvF.enter rfl Tryz.func83 (by decide) rfl ?_
 have l1 := hr.load h1
 have l2 := hr.load h2
 have hb := (HX.refl hw).bump 11
 repeat' (first | refine ya ?_ | refine yg ?_ | refine yd ?_ | (refine ye ?_) | (refine yf ?_) | (refine yc ?_; try simp only [z01, z00]) | (refine yb ?_; simp (config := { maxSteps := 2000000 }) (disch := first | omega | rfl) only [sA, initTm, Nat.reduceAdd]) | (refine yj [([(0, 0), (1, 0), (2, 0), (3, 0), (4, 0), (5, 0), (6, 0), (7, 0), (8, 0)], some 9), ([(10, 1)], none)] ?_ ?_; kernel_rfl; simp (config := { maxSteps := 2000000 }) (disch := first | omega | rfl) only [sD, sB, Nat.reduceEqDiff, Nat.reduceAdd, reduceCtorEq, ia27, ld37, l1, l2, z0r, z0g hg, isAlloc, isRead, reduceCtorEq]))
 obtain ⟨cells0, hg0, -, -⟩ := hr.row
 have hbl := hw _ _ hg0
 have hsl := hw _ _ hs
 refine (z1x hb.wf).mono ?_
 rintro v H2 ⟨rfl, hx2⟩
 have hx := hb.trans hx2
 have r2 := hr.heap (H' := H2) (hx.keep b hbl)
 have s2 := hx.get hw hs
 have ls : H2.load ⟨s, 0, none⟩ 1 = some [.int .i64 (w : Nat)] := by simp only [Heap.load, Heap.cells, s2]; rfl
 by_cases hc : (D y).v < (D x).v
 ·have hw1 : IntKind.i64.wrap ((w : Int) + 1) = ((w + 1 : Nat) : Int) := by rw [z06 (by omega) (by omega)]; omega
  repeat' (first | refine ya ?_ | refine yg ?_ | refine yd ?_ | (refine ye ?_) | (refine yf ?_) | (refine yc ?_; try simp only [z01, z00]) | (refine yb ?_; simp (config := { maxSteps := 2000000 }) (disch := first | omega | rfl) only [sB, Nat.reduceEqDiff, one, reduceCtorEq, ld3, st3, z2e, z5b, ls, s2, hw1]) | (refine z0f ?_; simp (config := { maxSteps := 2000000 }) (disch := first | omega | rfl) only [sD, sB, Nat.reduceEqDiff, reduceCtorEq, cz_t hc, isAlloc, isRead, reduceCtorEq]) | (refine yh ?_ ?_; simp (config := { maxSteps := 2000000 }) (disch := first | omega | rfl) only [sB, Nat.reduceEqDiff, reduceCtorEq]; refine z03 ?_))
  exact z0j rfl (by simp only [sG, Nat.reduceEqDiff, reduceCtorEq] <;> rfl) (by simp only [sG, Nat.reduceEqDiff, reduceCtorEq] <;> rfl) ⟨y, x, w + 1, rfl, .inr ⟨rfl, rfl⟩, by rw [get_put, if_pos rfl], Nat.le_refl _, r2.heap (by rw [get_put, if_neg (fun q => hsb q.symm)]), (hx.hk (fun x => x = s)).put (.inl rfl) (Nat.lt_of_lt_of_le hsl hx.next) _⟩
 ·repeat' (first | refine ya ?_ | refine yg ?_ | refine yd ?_ | (refine ye ?_; try simp only [z02]) | (refine yf ?_) | (refine yc ?_; try simp only [z01, z00]) | (refine yb ?_; simp (config := { maxSteps := 2000000 }) (disch := first | omega | rfl) only [sB, Nat.reduceEqDiff, reduceCtorEq]) | (refine z0f ?_; simp (config := { maxSteps := 2000000 }) (disch := first | omega | rfl) only [sD, sB, Nat.reduceEqDiff, reduceCtorEq, cz_f hc, isAlloc, isRead, reduceCtorEq]) | (refine yh ?_ ?_; simp (config := { maxSteps := 2000000 }) (disch := first | omega | rfl) only [sB, Nat.reduceEqDiff, reduceCtorEq]; refine z03 ?_) | (refine yi ?_ ?_; simp (config := { maxSteps := 2000000 }) (disch := first | omega | rfl) only [sB, Nat.reduceEqDiff, reduceCtorEq]; refine z03 ?_))
  exact z0j rfl (by simp only [sG, Nat.reduceEqDiff, reduceCtorEq] <;> rfl) (by simp only [sG, Nat.reduceEqDiff, reduceCtorEq] <;> rfl) ⟨x, y, w, rfl, .inl ⟨rfl, rfl⟩, s2, by omega, r2, hx.hk _⟩
set_option maxHeartbeats 4000000 in
theorem z8k {b n c x y z s w : Nat} {D : Nat → Bnd} {H : Heap} (hr : RowB H 37 b n D) (hn : n ≤ most) (h1 : x < n) (h2 : y < n) (h3 : z < n) (hs : H.get s = some (.row [.int .i64 (w : Nat)] 3)) (hsb : s ≠ b) (hww : w ≤ 900) (hw : H.wf) :
  EvF Tryz.prog okT 76 [.slice (some ⟨b, 0, none⟩) n c, .int .i64 (x : Nat), .int .i64 (y : Nat), .int .i64 (z : Nat), .pointer (some ⟨s, 0, none⟩), cvB] H fun v H' =>
   ∃ p w' : Nat, v = .int .i64 (p : Nat) ∧ (p = x ∨ p = y ∨ p = z) ∧ H'.get s = some (.row [.int .i64 (w' : Nat)] 3) ∧ w' ≤ w + 3 ∧ RowB H' 37 b n D ∧ HK (· = s) H H' := by
 refine EvF.enter rfl Tryz.func76 (by decide) rfl ?_
 repeat' (first | refine ya ?_ | refine yg ?_ | refine yd ?_ | (refine ye ?_) | (refine yf ?_) | (refine yc ?_; try simp only [z01, z00]) | (refine yb ?_; simp (config := { maxSteps := 2000000 }) (disch := first | omega | rfl) only [sB, initTm, Nat.reduceEqDiff, Nat.reduceAdd, reduceCtorEq, cl83]))
 refine (z5r hr hn h1 h2 hs hsb (by omega) hw).mono ?_
 rintro v H1 ⟨p1, q1, w1, rfl, o1, s1, u1, r1, k1⟩
 have p1n : p1 < n := by omega
 have q1n : q1 < n := by omega
 repeat' (first | refine ya ?_ | refine yg ?_ | refine yd ?_ | (refine ye ?_) | (refine yf ?_) | (refine yc ?_; try simp only [z01, z00]) | (refine yb ?_; simp (config := { maxSteps := 2000000 }) (disch := first | omega | rfl) only [sB, Nat.reduceEqDiff, reduceCtorEq, cl83]) | (refine z0w ?_; simp (config := { maxSteps := 2000000 }) (disch := first | omega | rfl) only [sB, Nat.reduceEqDiff, reduceCtorEq]))
 refine (z5r r1 hn q1n h3 s1 hsb (by omega) k1.wf).mono ?_
 rintro v H2 ⟨p2, q2, w2, rfl, o2, s2, u2, r2, k2⟩
 have p2n : p2 < n := by omega
 repeat' (first | refine ya ?_ | refine yg ?_ | refine yd ?_ | (refine ye ?_) | (refine yf ?_) | (refine yc ?_; try simp only [z01, z00]) | (refine yb ?_; simp (config := { maxSteps := 2000000 }) (disch := first | omega | rfl) only [sB, Nat.reduceEqDiff, reduceCtorEq, cl83]) | (refine z0w ?_; simp (config := { maxSteps := 2000000 }) (disch := first | omega | rfl) only [sB, Nat.reduceEqDiff, reduceCtorEq]))
 refine (z5r r2 hn p1n p2n s2 hsb (by omega) k2.wf).mono ?_
 rintro v H3 ⟨p3, q3, w3, rfl, o3, s3, u3, r3, k3⟩
 repeat' (first | refine ya ?_ | refine yg ?_ | refine yd ?_ | (refine ye ?_) | (refine yf ?_) | (refine yc ?_; try simp only [z01, z00]) | (refine yb ?_; simp (config := { maxSteps := 2000000 }) (disch := first | omega | rfl) only [sB, Nat.reduceEqDiff, reduceCtorEq]) | (refine z0w ?_; simp (config := { maxSteps := 2000000 }) (disch := first | omega | rfl) only [sB, Nat.reduceEqDiff, reduceCtorEq]))
 exact z04 rfl (by simp only [sG, Nat.reduceEqDiff, reduceCtorEq] <;> rfl) ⟨q3, w3, rfl, by omega, s3, by omega, r3, k1.trans (k2.trans k3)⟩
set_option maxHeartbeats 4000000 in
theorem z3o {b n c x s w : Nat} {D : Nat → Bnd} {H : Heap} (hr : RowB H 37 b n D) (hn : n ≤ most) (h0 : 0 < x) (h1 : x + 1 < n) (hs : H.get s = some (.row [.int .i64 (w : Nat)] 3)) (hsb : s ≠ b) (hww : w ≤ 900) (hw : H.wf) :
  EvF Tryz.prog okT 75 [.slice (some ⟨b, 0, none⟩) n c, .int .i64 (x : Nat), .pointer (some ⟨s, 0, none⟩), cvB] H fun v H' =>
   ∃ p w' : Nat, v = .int .i64 (p : Nat) ∧ (x ≤ p + 1 ∧ p ≤ x + 1) ∧ H'.get s = some (.row [.int .i64 (w' : Nat)] 3) ∧ w' ≤ w + 3 ∧ RowB H' 37 b n D ∧ HK (· = s) H H' := by
 have hms : most ≤ 1048576 := by simp [most]
 refine EvF.enter rfl Tryz.func75 (by decide) rfl ?_
 have hw1 : IntKind.i64.wrap ((x : Int) - 1) = ((x - 1 : Nat) : Int) := by rw [z06 (by omega) (by omega)]; omega
 have hw2 : IntKind.i64.wrap ((x : Int) + 1) = ((x + 1 : Nat) : Int) := by rw [z06 (by omega) (by omega)]; omega
 repeat' (first | refine ya ?_ | refine yg ?_ | refine yd ?_ | (refine ye ?_) | (refine yf ?_) | (refine yc ?_; try simp only [z01, z00]) | (refine yb ?_; simp (config := { maxSteps := 2000000 }) (disch := first | omega | rfl) only [sB, initTm, Nat.reduceEqDiff, Nat.reduceAdd, reduceCtorEq, cl76, hw1, hw2]))
 refine (z8k hr hn (by omega) (by omega) h1 hs hsb hww hw).mono ?_
 rintro v H1 ⟨p1, w1, rfl, o1, s1, u1, r1, k1⟩
 repeat' (first | refine ya ?_ | refine yg ?_ | refine yd ?_ | (refine ye ?_) | (refine yf ?_) | (refine yc ?_; try simp only [z01, z00]))
 exact z04 rfl (by simp only [sG, Nat.reduceEqDiff, reduceCtorEq] <;> rfl) ⟨p1, w1, rfl, by omega, s1, u1, r1, k1⟩
set_option maxHeartbeats 8000000 in
theorem zi2 {b n c a e : Nat} {D : Nat → Bnd} {H : Heap} (hr : RowB H 37 b n D) (hn : n ≤ most) (h1 : a + 12 < e) (h3 : e ≤ n) (hw : H.wf) :
  EvF Tryz.prog okT 57 [.slice (some ⟨b, 0, none⟩) n c, .int .i64 (a : Nat), .int .i64 (e : Nat), cvB] H fun v H' =>
   ∃ p : Nat, ∃ h : Int, v = .tuple ⟨[.int .i64 (p : Nat), .int .i64 h]⟩ ∧ a ≤ p ∧ p < e ∧ HX H H' := by
 have hms : most ≤ 1048576 := by simp [most]
 refine EvF.enter rfl Tryz.func57 (by decide) rfl ?_
 obtain ⟨cells0, hg0, -, -⟩ := hr.row
 have hbl := hw _ _ hg0
 have hwl : IntKind.i64.wrap ((e : Int) - (a : Int)) = ((e - a : Nat) : Int) := by rw [z06 (by omega) (by omega)]; omega
 generalize hl : e - a = l at *
 have hq : IntKind.i64.wrap (((l : Nat) : Int).tdiv 4) = ((l / 4 : Nat) : Int) := by rw [Int.tdiv_eq_ediv_of_nonneg (by omega), z06 (by omega) (by omega)]; omega
 have m1 : IntKind.i64.wrap (((l / 4 : Nat) : Int) * 1) = ((l / 4 : Nat) : Int) := by rw [z06 (by omega) (by omega)]; omega
 have m2 : IntKind.i64.wrap (((l / 4 : Nat) : Int) * 2) = ((l / 4 * 2 : Nat) : Int) := by rw [z06 (by omega) (by omega)]; omega
 have m3 : IntKind.i64.wrap (((l / 4 : Nat) : Int) * 3) = ((l / 4 * 3 : Nat) : Int) := by rw [z06 (by omega) (by omega)]; omega
 have a1 : IntKind.i64.wrap ((a : Int) + ((l / 4 : Nat) : Int)) = ((a + l / 4 : Nat) : Int) := by rw [z06 (by omega) (by omega)]; omega
 have a2 : IntKind.i64.wrap ((a : Int) + ((l / 4 * 2 : Nat) : Int)) = ((a + l / 4 * 2 : Nat) : Int) := by rw [z06 (by omega) (by omega)]; omega
 have a3 : IntKind.i64.wrap ((a : Int) + ((l / 4 * 3 : Nat) : Int)) = ((a + l / 4 * 3 : Nat) : Int) := by rw [z06 (by omega) (by omega)]; omega
 have d8 : decide (((l : Nat) : Int) ≥ 8) = true := decide_eq_true (by omega)
 have b1 : 0 < a + l / 4 ∧ a + l / 4 + 1 < n := by omega
 have b2 : 0 < a + l / 4 * 2 ∧ a + l / 4 * 2 + 1 < n := by omega
 have b3 : 0 < a + l / 4 * 3 ∧ a + l / 4 * 3 + 1 < n := by omega
 have c1 : a + 1 ≤ a + l / 4 ∧ a + l / 4 + 1 < e := by omega
 have c2 : a + 1 ≤ a + l / 4 * 2 ∧ a + l / 4 * 2 + 1 < e := by omega
 have c3 : a + 1 ≤ a + l / 4 * 3 ∧ a + l / 4 * 3 + 1 < e := by omega
 generalize a + l / 4 = i1 at *
 generalize a + l / 4 * 2 = i2 at *
 generalize a + l / 4 * 3 = i3 at *
 (repeat refine ya ?_); refine yb ?_; simp (config := { maxSteps := 2000000 }) (disch := first | omega | rfl) only [sA, initTm, Nat.reduceAdd]
 (repeat refine ya ?_); refine yb ?_; simp (config := { maxSteps := 2000000 }) (disch := first | omega | rfl) only [sB, Nat.reduceEqDiff, reduceCtorEq, hwl]
 (repeat refine ya ?_); refine yb ?_; simp (config := { maxSteps := 2000000 }) (disch := first | omega | rfl) only [sA, dAlloc, zr3]
 obtain ⟨H1, e1, hx1, g1, hn1, hw1⟩ := new1 hw (.row [.int .i64 0] 3)
 simp only [e1]
 clear e1
 have r1 := hr.heap (hx1.keep b hbl)
 (repeat refine ya ?_); refine yb ?_; simp (config := { maxSteps := 2000000 }) (disch := first | omega | rfl) only [sB, Nat.reduceEqDiff, reduceCtorEq, hq, bQuo, m1, a1]
 (repeat refine ya ?_); refine yb ?_; simp (config := { maxSteps := 2000000 }) (disch := first | omega | rfl) only [sB, Nat.reduceEqDiff, reduceCtorEq, hq, bQuo, m2, a2]
 (repeat refine ya ?_); refine yb ?_; simp (config := { maxSteps := 2000000 }) (disch := first | omega | rfl) only [sB, Nat.reduceEqDiff, reduceCtorEq, hq, bQuo, m3, a3]
 (repeat refine ya ?_); refine yb ?_; simp (config := { maxSteps := 2000000 }) (disch := first | omega | rfl) only [sB, Nat.reduceEqDiff, reduceCtorEq, d8]
 have hsb : H.next ≠ b := by omega
 refine EvC.meet (fun st => ∃ (tm : Tr Value) (H' : Heap) (p w : Nat), st = ⟨tm, [], H'⟩ ∧ a ≤ p ∧ p < e ∧ tm.get 13 = some (.int .i64 (p : Nat)) ∧ tm.get 11 = some (.pointer (some ⟨H.next, 0, none⟩)) ∧ H'.get H.next = some (.row [.int .i64 (w : Nat)] 3) ∧ HX H H') ?_ ?_
 ·(repeat refine ya ?_); refine yh (by simp (config := { maxSteps := 2000000 }) (disch := first | omega | rfl) only [sB, Nat.reduceEqDiff, reduceCtorEq]) ?_; (try refine ye ?_); (try simp only [z02, z09])
  refine EvC.cut (fun st => ∃ (tm : Tr Value) (H' : Heap) (p q r w : Nat), st = ⟨tm, [], H'⟩ ∧ (a ≤ p ∧ p < e) ∧ (a ≤ q ∧ q < e) ∧ (a ≤ r ∧ r < e) ∧ w ≤ 9 ∧ tm.get 0 = some (.slice (some ⟨b, 0, none⟩) n c) ∧ tm.get 3 = some cvB ∧ tm.get 12 = some (.int .i64 (p : Nat)) ∧ tm.get 13 = some (.int .i64 (q : Nat)) ∧ tm.get 14 = some (.int .i64 (r : Nat)) ∧
   tm.get 11 = some (.pointer (some ⟨H.next, 0, none⟩)) ∧ H'.get H.next = some (.row [.int .i64 (w : Nat)] 3) ∧ RowB H' 37 b n D ∧ HK (· = H.next) H1 H') ?_ ?_
  ·by_cases h50 : 50 ≤ l
   ·have d50 : decide (((l : Nat) : Int) ≥ 50) = true := decide_eq_true (by omega)
    repeat' (first | refine ya ?_ | refine yg ?_ | refine yd ?_ | (refine ye ?_) | (refine yf ?_) | (refine yc ?_; try simp only [z01, z00]) | (refine yb ?_; simp (config := { maxSteps := 2000000 }) (disch := first | omega | rfl) only [sB, Nat.reduceEqDiff, reduceCtorEq, cl75, d50]) | (refine yh ?_ ?_; simp (config := { maxSteps := 2000000 }) (disch := first | omega | rfl) only [sB, Nat.reduceEqDiff, reduceCtorEq]; refine z03 ?_))
    refine (z3o r1 hn b1.1 b1.2 (w := 0) g1 hsb (by omega) hw1).mono ?_
    rintro v H2 ⟨p2, w2, rfl, o2, g2, u2, r2, k2⟩
    repeat' (first | refine ya ?_ | refine yg ?_ | refine yd ?_ | (refine ye ?_) | (refine yf ?_) | (refine yc ?_; try simp only [z01, z00]) | (refine yb ?_; simp (config := { maxSteps := 2000000 }) (disch := first | omega | rfl) only [sB, Nat.reduceEqDiff, reduceCtorEq, cl75]))
    refine (z3o r2 hn b2.1 b2.2 g2 hsb (by omega) k2.wf).mono ?_
    rintro v H3 ⟨p3, w3, rfl, o3, g3, u3, r3, k3⟩
    repeat' (first | refine ya ?_ | refine yg ?_ | refine yd ?_ | (refine ye ?_) | (refine yf ?_) | (refine yc ?_; try simp only [z01, z00]) | (refine yb ?_; simp (config := { maxSteps := 2000000 }) (disch := first | omega | rfl) only [sB, Nat.reduceEqDiff, reduceCtorEq, cl75]))
    refine (z3o r3 hn b3.1 b3.2 g3 hsb (by omega) k3.wf).mono ?_
    rintro v H4 ⟨p4, w4, rfl, o4, g4, u4, r4, k4⟩
    repeat' (first | refine ya ?_ | refine yg ?_ | refine yd ?_ | (refine ye ?_) | (refine yf ?_) | (refine yc ?_; try simp only [z01, z00]))
    exact ⟨_, _, p2, p3, p4, w4, rfl, by omega, by omega, by omega, by omega, (by simp only [sG, reduceCtorEq] <;> rfl), (by simp only [sG, Nat.reduceEqDiff, reduceCtorEq] <;> rfl), (by simp only [sG, Nat.reduceEqDiff, reduceCtorEq] <;> rfl), (by simp only [sG, Nat.reduceEqDiff, reduceCtorEq] <;> rfl), (by simp only [sG, Nat.reduceEqDiff, reduceCtorEq] <;> rfl), (by simp only [sG, Nat.reduceEqDiff, reduceCtorEq] <;> rfl), g4, r4, k2.trans (k3.trans k4)⟩
   ·have d50 : decide (((l : Nat) : Int) ≥ 50) = false := decide_eq_false (by omega)
    repeat' (first | refine ya ?_ | refine yg ?_ | refine yd ?_ | (refine ye ?_; try simp only [true_and]) | (refine yf ?_) | (refine yc ?_; try simp only [z01, z00]) | (refine yb ?_; simp (config := { maxSteps := 2000000 }) (disch := first | omega | rfl) only [sB, Nat.reduceEqDiff, reduceCtorEq, d50]) | (refine yh ?_ ?_; simp (config := { maxSteps := 2000000 }) (disch := first | omega | rfl) only [sB, Nat.reduceEqDiff, reduceCtorEq]; refine z03 ?_) | (refine yi ?_ ?_; simp (config := { maxSteps := 2000000 }) (disch := first | omega | rfl) only [sB, Nat.reduceEqDiff, reduceCtorEq]; refine z03 ?_))
    exact ⟨_, _, i1, i2, i3, 0, rfl, by omega, by omega, by omega, by omega, (by simp only [sG, reduceCtorEq] <;> rfl), (by simp only [sG, Nat.reduceEqDiff, reduceCtorEq] <;> rfl), (by simp only [sG, Nat.reduceEqDiff, reduceCtorEq] <;> rfl), (by simp only [sG, Nat.reduceEqDiff, reduceCtorEq] <;> rfl), (by simp only [sG, Nat.reduceEqDiff, reduceCtorEq] <;> rfl), (by simp only [sG, Nat.reduceEqDiff, reduceCtorEq] <;> rfl), g1, r1, HK.refl hw1⟩
  ·rintro st ⟨tm, H2, p, q, r, w, rfl, hp, hq2, hr3, hw9, t0, t3, t12, t13, t14, t11, g2, r2, k2⟩
   repeat' (first | refine ya ?_ | refine yg ?_ | refine yd ?_ | (refine ye ?_) | (refine yf ?_) | (refine yc ?_; try simp only [z01, z00]) | (refine yb ?_; simp (config := { maxSteps := 2000000 }) (disch := first | omega | rfl) only [sB, Nat.reduceEqDiff, cl76, t0, t3, t11, t12, t13, t14]))
   refine (z8k r2 hn (by omega) (by omega) (by omega) g2 hsb (by omega) k2.wf).mono ?_
   rintro v H3 ⟨p3, w3, rfl, o3, g3, u3, r3, k3⟩
   repeat' (first | refine ya ?_ | refine yg ?_ | refine yd ?_ | (refine ye ?_) | (refine yf ?_) | (refine yc ?_; try simp only [z01, z00]))
   exact ⟨_, _, p3, w3, rfl, by omega, by omega, (by simp only [sG, Nat.reduceEqDiff] <;> rfl), (by simp only [sG, Nat.reduceEqDiff, t11] <;> rfl), g3, (hx1.then (k2.trans k3) fun m hm => by omega)⟩
 ·rintro st ⟨tm, H2, p, w, rfl, hp1, hp2, t13, t11, g2, hx2⟩
  have ls : H2.load ⟨H.next, 0, none⟩ 1 = some [.int .i64 (w : Nat)] := by simp only [Heap.load, Heap.cells, g2]; rfl
  (repeat refine ya ?_); refine yb ?_; simp (config := { maxSteps := 2000000 }) (disch := first | omega | rfl) only [sA, ld3, t11, ls]
  by_cases w0 : w = 0
  ·have : ((w : Int) == 0) = true := by rw [w0]; rfl
   repeat' (first | refine ya ?_ | refine yg ?_ | refine yd ?_ | (refine ye ?_) | (refine yf ?_) | (refine yc ?_; try simp only [z01, z00]) | (refine yb ?_; simp (config := { maxSteps := 2000000 }) (disch := first | omega | rfl) only [sB, Nat.reduceEqDiff, t13, this]) | (refine yh ?_ ?_; simp (config := { maxSteps := 2000000 }) (disch := first | omega | rfl) only [sB, Nat.reduceEqDiff]; refine z03 ?_))
   exact z0j rfl (by simp only [sG, Nat.reduceEqDiff] <;> rfl) (by simp only [sB, Nat.reduceEqDiff] <;> rfl) ⟨p, _, rfl, hp1, hp2, hx2⟩
  ·have d0 : ((w : Int) == 0) = false := z0x (by omega)
   by_cases w12 : w = 12
   ·have : ((w : Int) == 12) = true := by rw [w12]; rfl
    repeat' (first | refine ya ?_ | refine yg ?_ | refine yd ?_ | (refine ye ?_) | (refine yf ?_) | (refine yc ?_; try simp only [z01, z00]) | (refine yb ?_; simp (config := { maxSteps := 2000000 }) (disch := first | omega | rfl) only [sB, Nat.reduceEqDiff, t13, d0, this]) | (refine yh ?_ ?_; simp (config := { maxSteps := 2000000 }) (disch := first | omega | rfl) only [sB, Nat.reduceEqDiff]; refine z03 ?_) | (refine yi ?_ ?_; simp (config := { maxSteps := 2000000 }) (disch := first | omega | rfl) only [sB, Nat.reduceEqDiff]; refine z03 ?_))
    exact z0j rfl (by simp only [sG, Nat.reduceEqDiff] <;> rfl) (by simp only [sB, Nat.reduceEqDiff] <;> rfl) ⟨p, _, rfl, hp1, hp2, hx2⟩
   ·have d1 : ((w : Int) == 12) = false := z0x (by omega)
    repeat' (first | refine ya ?_ | refine yg ?_ | refine yd ?_ | (refine ye ?_) | (refine yf ?_) | (refine yc ?_; try simp only [z01, z00]) | (refine yb ?_; simp (config := { maxSteps := 2000000 }) (disch := first | omega | rfl) only [sB, Nat.reduceEqDiff, t13, d0, d1]) | (refine yh ?_ ?_; simp (config := { maxSteps := 2000000 }) (disch := first | omega | rfl) only [sB, Nat.reduceEqDiff]; refine z03 ?_) | (refine yi ?_ ?_; simp (config := { maxSteps := 2000000 }) (disch := first | omega | rfl) only [sB, Nat.reduceEqDiff]; refine z03 ?_))
    exact z0j rfl (by simp only [sG, Nat.reduceEqDiff] <;> rfl) (by simp only [sB, Nat.reduceEqDiff] <;> rfl) ⟨p, _, rfl, hp1, hp2, hx2⟩
end Go.Proofs.hq
end

section
namespace Go.Hb
theorem z8l {α : Type} {i j : Nat} {D : Nat → α} : swF i j D i = D j := by unfold swF; rw [if_pos rfl]
theorem zel {α : Type} {i j : Nat} {D : Nat → α} : swF i j D j = D i := by
 unfold swF
 by_cases h : j = i
 ·rw [if_pos h, h]
 ·rw [if_neg h, if_pos rfl]
theorem zbj {α : Type} {i j k : Nat} {D : Nat → α} (h1 : k ≠ i) (h2 : k ≠ j) : swF i j D k = D k := by unfold swF; rw [if_neg h1, if_neg h2]
end Go.Hb
namespace Go.Proofs.hq
open Go Go.RowKit Go.Hb
variable {ok : Ok}
set_option maxRecDepth 10000
attribute [local irreducible] LX LG EL STG SOP SGO SGD SAL SRD SEF SEG SLK SCK ES
set_option maxHeartbeats 16000000 in
theorem zfn {b n c a e p : Nat} {D : Nat → Bnd} {H : Heap} (hr : RowB H 37 b n D) (hn : n ≤ most) (hap : a ≤ p) (hpe : p < e) (h3 : e ≤ n) (hw : H.wf) :
  EvF Tryz.prog okT 60 [.slice (some ⟨b, 0, none⟩) n c, .int .i64 (a : Nat), .int .i64 (e : Nat), .int .i64 (p : Nat), cvB] H fun v H' =>
   ∃ (m : Nat) (D' : Nat → Bnd), v = .int .i64 (m : Nat) ∧ a + 1 ≤ m ∧ m ≤ e ∧ RowB H' 37 b n D' ∧ Pm a e D D' ∧ (∀ k, a ≤ k → k < m → (D' k).v ≤ (D p).v) ∧ (∀ k, m ≤ k → k < e → (D p).v < (D' k).v) ∧ HK (· = b) H H' := by
 have hms : most ≤ 1048576 := by simp [most]
 have hg := z2p
 have hk := HK.refl (S := (· = b)) hw
 refine EvF.enter rfl Tryz.func60 (by decide) rfl ?_
 have hw1 : IntKind.i64.wrap ((a : Int) + 1) = ((a + 1 : Nat) : Int) := by rw [z06 (by omega) (by omega)]; omega
 have hw2 : IntKind.i64.wrap ((e : Int) - 1) = ((e - 1 : Nat) : Int) := by rw [z06 (by omega) (by omega)]; omega
 have k1 : a < n := by omega
 have k2 : p < n := by omega
 have l1 := hr.load k1
 have l2 := hr.load k2
 obtain ⟨cells, hg2, hl, he⟩ := hr.row
 have hbl2 := hk.wf _ _ hg2
 have le1 : a * 7 + 7 ≤ cells.length := by have := mul7 k1; omega
 have le2 : p * 7 + 7 ≤ cells.length := by have := mul7 k2; omega
 have hsw := fun H1 h2 => RowB.swap (H := H) (b := b) (T := 37) hl he k1 k2 H1 h2
 have ms := Pm.swap (a := a) (b := e) (i := a) (j := p) (D := D) (by omega) (by omega) (by omega) (by omega)
 have ha : swF a p D a = D p := z8l
 generalize hE1 : D a = E1 at hl he hsw l1 l2 ha
 generalize hE2 : D p = E2 at hl he hsw l1 l2 ha
 have le3 : p * 7 + 7 ≤ (Hb.splice cells (a * 7) E2.seven).length := by rw [z0c (vs := E2.seven) le1]; exact le2
 (repeat refine ya ?_); refine yb ?_; simp (config := { maxSteps := 2000000 }) (disch := first | omega | rfl) only [sA, initTm, Nat.reduceAdd]
 refine EvC.cut (fun st => ∃ tm H1, st = ⟨tm, [], H1⟩ ∧ tm.get 0 = some (.slice (some ⟨b, 0, none⟩) n c) ∧ tm.get 1 = some (.int .i64 (a : Nat)) ∧ tm.get 4 = some cvB ∧ tm.get 2 = some (.int .i64 (e : Nat)) ∧ RowB H1 37 b n (swF a p D) ∧ HK (· = b) H H1) ?_ ?_
 ·repeat' (first | refine ya ?_ | refine yg ?_ | refine yd ?_ | (refine ye ?_) | (refine yf ?_) | (refine yc ?_; try simp only [z01, z00]) | (refine yj (id := 1) [([(0, 0), (1, 0), (4, 0), (5, 0), (6, 0), (7, 0), (8, 0), (9, 0), (10, 0), (11, 0), (12, 0)], some 13), ([(2, 0), (3, 0), (14, 1)], some 15), ([], none)] ?_ ?_; kernel_rfl; simp (config := { maxSteps := 2000000 }) (disch := first | omega | rfl) only [sV, sD, sB, Nat.reduceEqDiff, Nat.reduceAdd, one, reduceCtorEq, ia27, ld37, st37, l1, l2, hg2, le1, le3, isAlloc, isRead, reduceCtorEq]))
  exact ⟨_, _, rfl, (by simp only [sG, reduceCtorEq] <;> rfl), (by simp only [sG, Nat.reduceEqDiff, reduceCtorEq] <;> rfl), (by simp only [sG, Nat.reduceEqDiff, reduceCtorEq] <;> rfl), (by simp only [sG, Nat.reduceEqDiff, reduceCtorEq] <;> rfl), hsw _ (by rw [get_put, if_pos rfl]), hk.two hbl2 _ _ _⟩
 rintro st ⟨tm, H1, rfl, t0, t1, t4, t2, r1, hk1⟩
 (repeat refine ya ?_); refine yb ?_; simp (config := { maxSteps := 2000000 }) (disch := first | omega | rfl) only [sB, Nat.reduceEqDiff, t1, t2, hw1, hw2]
 clear hsw l1 l2 hl he hg2 le1 le2 le3 k1 k2 hE1 hE2
 generalize hDD : swF a p D = D1 at *
 (repeat refine ya ?_)
 refine yd (yk (fun k st => ∃ tm H' i j D', st = ⟨tm, [], H'⟩ ∧ k = j + 1 - i ∧ a + 1 ≤ i ∧ i ≤ j + 1 ∧ j < e ∧ (∀ k, a + 1 ≤ k → k < i → ¬ (D1 a).v < (D' k).v) ∧ (∀ k, j < k → k < e → (D1 a).v < (D' k).v) ∧ D' a = D1 a ∧ tm.get 0 = some (.slice (some ⟨b, 0, none⟩) n c) ∧ tm.get 1 = some (.int .i64 (a : Nat)) ∧ tm.get 4 = some cvB ∧ tm.get 11 = some (.int .i64 (i : Nat)) ∧ tm.get 12 = some (.int .i64 (j : Nat)) ∧ RowB H' 37 b n D' ∧ Pm a e D D' ∧ HK (· = b) H H') ?_ (e - 1 + 1 - (a + 1)) _ ?_)
 ·rintro k st ⟨tm, H0, i0, j0, D2, rfl, rfl, hi1, hij0, hje, hlo, hhi, haa, t0, t1, t4, ti, tj, hr0, hm, hk0⟩
  (repeat refine ya ?_)
  refine yd ?_
  refine EvC.cut (fun st => ∃ tm H' i, st = ⟨tm, [], H'⟩ ∧ i0 ≤ i ∧ i ≤ j0 + 1 ∧ (∀ k, i0 ≤ k → k < i → ¬ (D2 a).v < (D2 k).v) ∧ (i ≤ j0 → ¬ (¬ (D2 a).v < (D2 i).v)) ∧ tm.get 0 = some (.slice (some ⟨b, 0, none⟩) n c) ∧ tm.get 1 = some (.int .i64 (a : Nat)) ∧ tm.get 4 = some cvB ∧ tm.get 11 = some (.int .i64 (i : Nat)) ∧ tm.get 12 = some (.int .i64 (j0 : Nat)) ∧ RowB H' 37 b n D2 ∧ HK (· = b) H H') ?_ ?_
  ·refine yd (yk (fun k st => ∃ tm H' i, st = ⟨tm, [], H'⟩ ∧ k = j0 + 1 - i ∧ i0 ≤ i ∧ i ≤ j0 + 1 ∧ (∀ k, i0 ≤ k → k < i → ¬ (D2 a).v < (D2 k).v) ∧ tm.get 0 = some (.slice (some ⟨b, 0, none⟩) n c) ∧ tm.get 1 = some (.int .i64 (a : Nat)) ∧ tm.get 4 = some cvB ∧ tm.get 11 = some (.int .i64 (i : Nat)) ∧ tm.get 12 = some (.int .i64 (j0 : Nat)) ∧ RowB H' 37 b n D2 ∧ HK (· = b) H H') ?_ (j0 + 1 - i0) _ ?_)
   ·rintro k st ⟨tm, H', i, rfl, rfl, hi0, hij, hpa, t0, t1, t4, ti, tj, hr', hk'⟩
    by_cases hle : i ≤ j0
    ·have hd : decide (((i : Nat) : Int) ≤ ((j0 : Nat) : Int)) = true := decide_eq_true (by omega)
     have hwv : IntKind.i64.wrap ((i : Int) + 1) = ((i + 1 : Nat) : Int) := by rw [z06 (by omega) (by omega)]; omega
     have k1 : i < n := by omega
     have k2 : a < n := by omega
     have l1 := hr'.load k1
     have l2 := hr'.load k2
     have hb := hk'.bump 17
     repeat' (first | refine ya ?_ | refine yg ?_ | refine yd ?_ | (refine ye ?_) | (refine yf ?_) | (refine yc ?_; try simp only [z01, z00]) | (refine yj (id := 3) [([(0, 0), (1, 0), (2, 0), (3, 0), (4, 0), (5, 0), (6, 0), (7, 0), (8, 0), (9, 0), (10, 0), (11, 0), (12, 0)], some 13), ([(14, 1), (15, 1), (16, 1)], none)] ?_ ?_; kernel_rfl; simp (config := { maxSteps := 2000000 }) (disch := first | omega | rfl) only [sD, sB, Nat.reduceEqDiff, Nat.reduceAdd, reduceCtorEq, ia27, ld37, t0, t1, t4, ti, tj, hd, l1, l2, z0r, z0g hg, isAlloc, isRead, reduceCtorEq]))
     obtain ⟨cells0, hg0, -, -⟩ := hr'.row
     have hbl := hk'.wf _ _ hg0
     refine (z1x hb.wf).mono ?_
     rintro v H2 ⟨rfl, hx2⟩
     have hk2 := hb.hxs hx2
     have r2 := hr'.heap (H' := H2) (by rw [hx2.keep b (Nat.lt_add_right _ hbl)]; rfl)
     by_cases hc : (D2 a).v < (D2 i).v
     ·repeat' (first | refine ya ?_ | refine yg ?_ | refine yd ?_ | (refine ye ?_) | (refine yf ?_; try simp only [sB, reduceCtorEq]) | (refine yc ?_; try simp only [z01, z00]) | (refine z0f ?_; simp (config := { maxSteps := 2000000 }) (disch := first | omega | rfl) only [sD, sB, Nat.reduceEqDiff, cz_t hc, Bool.not_true, isAlloc, isRead]) | (refine yh ?_ ?_; simp (config := { maxSteps := 2000000 }) (disch := first | omega | rfl) only [sB, Nat.reduceEqDiff]; refine z03 ?_) | (refine yi ?_ ?_; simp (config := { maxSteps := 2000000 }) (disch := first | omega | rfl) only [sB, Nat.reduceEqDiff]; refine z03 ?_))
      exact ⟨_, _, i, rfl, hi0, hij, hpa, fun _ => by omega, (by simp only [sG, reduceCtorEq, t0] <;> rfl), (by simp only [sG, Nat.reduceEqDiff, t1] <;> rfl), (by simp only [sG, Nat.reduceEqDiff, t4] <;> rfl), (by simp only [sG, Nat.reduceEqDiff, ti] <;> rfl), (by simp only [sG, Nat.reduceEqDiff, tj] <;> rfl), r2, hk2⟩
     ·repeat' (first | refine ya ?_ | refine yg ?_ | refine yd ?_ | (refine ye ?_; try simp only [z02]) | (refine yf ?_) | (refine yc ?_; try simp only [z01, z00]) | (refine yb ?_; simp (config := { maxSteps := 2000000 }) (disch := first | omega | rfl) only [sB, Nat.reduceEqDiff, ti, hwv]) | (refine z0f ?_; simp (config := { maxSteps := 2000000 }) (disch := first | omega | rfl) only [sD, sB, Nat.reduceEqDiff, cz_f hc, Bool.not_false, isAlloc, isRead]) | (refine yh ?_ ?_; simp (config := { maxSteps := 2000000 }) (disch := first | omega | rfl) only [sB, Nat.reduceEqDiff]; refine z03 ?_))
      exact ⟨j0 + 1 - (i + 1), by omega, _, _, i + 1, rfl, rfl, by omega, by omega, fun k q1 q2 => by
       by_cases e : k = i
       ·subst e; omega
       ·exact hpa k q1 (by omega), (by simp only [sG, reduceCtorEq, t0] <;> rfl), (by simp only [sG, Nat.reduceEqDiff, t1] <;> rfl), (by simp only [sG, Nat.reduceEqDiff, t4] <;> rfl), (by simp only [sG, Nat.reduceEqDiff] <;> rfl), (by simp only [sG, Nat.reduceEqDiff, tj] <;> rfl), r2, hk2⟩
    ·have hd : decide (((i : Nat) : Int) ≤ ((j0 : Nat) : Int)) = false := decide_eq_false (by omega)
     repeat' (first | refine ya ?_ | refine yg ?_ | refine yd ?_ | (refine ye ?_) | (refine yf ?_; try simp only [sB, reduceCtorEq]) | (refine yc ?_; try simp only [z01, z00]) | (refine yj (id := 3) [([(0, 0), (1, 0), (2, 0), (3, 0), (4, 0), (5, 0), (6, 0), (7, 0), (8, 0), (9, 0), (10, 0), (11, 0), (12, 0)], some 13), ([(14, 1), (15, 1), (16, 1)], none)] ?_ ?_; kernel_rfl; simp (config := { maxSteps := 2000000 }) (disch := first | omega | rfl) only [sD, sB, Nat.reduceEqDiff, Nat.reduceAdd, ti, tj, hd, Bool.false_eq_true, isAlloc, isRead]) | (refine yh ?_ ?_; simp (config := { maxSteps := 2000000 }) (disch := first | omega | rfl) only [sB, Nat.reduceEqDiff]; refine z03 ?_) | (refine yi ?_ ?_; simp (config := { maxSteps := 2000000 }) (disch := first | omega | rfl) only [sB, Nat.reduceEqDiff]; refine z03 ?_))
     exact ⟨_, _, i, rfl, hi0, hij, hpa, fun h => absurd h hle, (by simp only [sG, reduceCtorEq, t0] <;> rfl), (by simp only [sG, Nat.reduceEqDiff, t1] <;> rfl), (by simp only [sG, Nat.reduceEqDiff, t4] <;> rfl), (by simp only [sG, Nat.reduceEqDiff, ti] <;> rfl), (by simp only [sG, Nat.reduceEqDiff, tj] <;> rfl), hr'.heap rfl, hk'.bump _⟩
   ·exact ⟨_, _, i0, rfl, rfl, Nat.le_refl _, by omega, fun k q1 q2 => by omega, (by simp only [t0] <;> rfl), (by simp only [t1] <;> rfl), (by simp only [t4] <;> rfl), (by simp only [ti] <;> rfl), (by simp only [tj] <;> rfl), hr0, hk0⟩
  rintro st ⟨tm, H3, i, rfl, hi2, hi3, hi4, hi5, t0, t1, t4, ti, tj, hr3, hk3⟩
  refine EvC.cut (fun st => ∃ tm H' j, st = ⟨tm, [], H'⟩ ∧ j ≤ j0 ∧ i ≤ j + 1 ∧ (∀ k, j < k → k ≤ j0 → (D2 a).v < (D2 k).v) ∧ (i ≤ j → ¬ ((D2 a).v < (D2 j).v)) ∧ tm.get 0 = some (.slice (some ⟨b, 0, none⟩) n c) ∧ tm.get 1 = some (.int .i64 (a : Nat)) ∧ tm.get 4 = some cvB ∧ tm.get 11 = some (.int .i64 (i : Nat)) ∧ tm.get 12 = some (.int .i64 (j : Nat)) ∧ RowB H' 37 b n D2 ∧ HK (· = b) H H') ?_ ?_
  ·refine yd (yk (fun k st => ∃ tm H' j, st = ⟨tm, [], H'⟩ ∧ k = j + 1 - i ∧ j ≤ j0 ∧ i ≤ j + 1 ∧ (∀ k, j < k → k ≤ j0 → (D2 a).v < (D2 k).v) ∧ tm.get 0 = some (.slice (some ⟨b, 0, none⟩) n c) ∧ tm.get 1 = some (.int .i64 (a : Nat)) ∧ tm.get 4 = some cvB ∧ tm.get 11 = some (.int .i64 (i : Nat)) ∧ tm.get 12 = some (.int .i64 (j : Nat)) ∧ RowB H' 37 b n D2 ∧ HK (· = b) H H') ?_ (j0 + 1 - i) _ ?_)
   ·rintro k st ⟨tm, H', j, rfl, rfl, hj0, hij, hpa, t0, t1, t4, ti, tj, hr', hk'⟩
    by_cases hle : i ≤ j
    ·have hd : decide (((i : Nat) : Int) ≤ ((j : Nat) : Int)) = true := decide_eq_true (by omega)
     have hwv : IntKind.i64.wrap ((j : Int) - 1) = ((j - 1 : Nat) : Int) := by rw [z06 (by omega) (by omega)]; omega
     have k1 : j < n := by omega
     have k2 : a < n := by omega
     have l1 := hr'.load k1
     have l2 := hr'.load k2
     have hb := hk'.bump 16
     repeat' (first | refine ya ?_ | refine yg ?_ | refine yd ?_ | (refine ye ?_) | (refine yf ?_) | (refine yc ?_; try simp only [z01, z00]) | (refine yj (id := 5) [([(0, 0), (1, 0), (2, 0), (3, 0), (4, 0), (5, 0), (6, 0), (7, 0), (8, 0), (9, 0), (10, 0), (11, 0), (12, 0)], some 13), ([(14, 1), (15, 1)], none)] ?_ ?_; kernel_rfl; simp (config := { maxSteps := 2000000 }) (disch := first | omega | rfl) only [sD, sB, Nat.reduceEqDiff, Nat.reduceAdd, reduceCtorEq, ia27, ld37, t0, t1, t4, ti, tj, hd, l1, l2, z0r, z0g hg, isAlloc, isRead, reduceCtorEq]))
     obtain ⟨cells0, hg0, -, -⟩ := hr'.row
     have hbl := hk'.wf _ _ hg0
     refine (z1x hb.wf).mono ?_
     rintro v H2 ⟨rfl, hx2⟩
     have hk2 := hb.hxs hx2
     have r2 := hr'.heap (H' := H2) (by rw [hx2.keep b (Nat.lt_add_right _ hbl)]; rfl)
     by_cases hc : (D2 a).v < (D2 j).v
     ·repeat' (first | refine ya ?_ | refine yg ?_ | refine yd ?_ | (refine ye ?_; try simp only [z02]) | (refine yf ?_) | (refine yc ?_; try simp only [z01, z00]) | (refine yb ?_; simp (config := { maxSteps := 2000000 }) (disch := first | omega | rfl) only [sB, Nat.reduceEqDiff, tj, hwv]) | (refine z0f ?_; simp (config := { maxSteps := 2000000 }) (disch := first | omega | rfl) only [sD, sB, Nat.reduceEqDiff, cz_t hc, isAlloc, isRead]) | (refine yh ?_ ?_; simp (config := { maxSteps := 2000000 }) (disch := first | omega | rfl) only [sB, Nat.reduceEqDiff]; refine z03 ?_))
      exact ⟨j - 1 + 1 - i, by omega, _, _, j - 1, rfl, rfl, by omega, by omega, fun k q1 q2 => by
       by_cases e : k = j
       ·subst e; omega
       ·exact hpa k (by omega) q2, (by simp only [sG, reduceCtorEq, t0] <;> rfl), (by simp only [sG, Nat.reduceEqDiff, t1] <;> rfl), (by simp only [sG, Nat.reduceEqDiff, t4] <;> rfl), (by simp only [sG, Nat.reduceEqDiff, ti] <;> rfl), (by simp only [sG, Nat.reduceEqDiff] <;> rfl), r2, hk2⟩
     ·repeat' (first | refine ya ?_ | refine yg ?_ | refine yd ?_ | (refine ye ?_) | (refine yf ?_; try simp only [sB, reduceCtorEq]) | (refine yc ?_; try simp only [z01, z00]) | (refine z0f ?_; simp (config := { maxSteps := 2000000 }) (disch := first | omega | rfl) only [sD, sB, Nat.reduceEqDiff, cz_f hc, isAlloc, isRead]) | (refine yh ?_ ?_; simp (config := { maxSteps := 2000000 }) (disch := first | omega | rfl) only [sB, Nat.reduceEqDiff]; refine z03 ?_) | (refine yi ?_ ?_; simp (config := { maxSteps := 2000000 }) (disch := first | omega | rfl) only [sB, Nat.reduceEqDiff]; refine z03 ?_))
      exact ⟨_, _, j, rfl, hj0, hij, hpa, fun _ => by omega, (by simp only [sG, reduceCtorEq, t0] <;> rfl), (by simp only [sG, Nat.reduceEqDiff, t1] <;> rfl), (by simp only [sG, Nat.reduceEqDiff, t4] <;> rfl), (by simp only [sG, Nat.reduceEqDiff, ti] <;> rfl), (by simp only [sG, Nat.reduceEqDiff, tj] <;> rfl), r2, hk2⟩
    ·have hd : decide (((i : Nat) : Int) ≤ ((j : Nat) : Int)) = false := decide_eq_false (by omega)
     repeat' (first | refine ya ?_ | refine yg ?_ | refine yd ?_ | (refine ye ?_) | (refine yf ?_; try simp only [sB, reduceCtorEq]) | (refine yc ?_; try simp only [z01, z00]) | (refine yj (id := 5) [([(0, 0), (1, 0), (2, 0), (3, 0), (4, 0), (5, 0), (6, 0), (7, 0), (8, 0), (9, 0), (10, 0), (11, 0), (12, 0)], some 13), ([(14, 1), (15, 1)], none)] ?_ ?_; kernel_rfl; simp (config := { maxSteps := 2000000 }) (disch := first | omega | rfl) only [sD, sB, Nat.reduceEqDiff, Nat.reduceAdd, ti, tj, hd, Bool.false_eq_true, isAlloc, isRead]) | (refine yh ?_ ?_; simp (config := { maxSteps := 2000000 }) (disch := first | omega | rfl) only [sB, Nat.reduceEqDiff]; refine z03 ?_) | (refine yi ?_ ?_; simp (config := { maxSteps := 2000000 }) (disch := first | omega | rfl) only [sB, Nat.reduceEqDiff]; refine z03 ?_))
     exact ⟨_, _, j, rfl, hj0, hij, hpa, fun h => absurd h hle, (by simp only [sG, reduceCtorEq, t0] <;> rfl), (by simp only [sG, Nat.reduceEqDiff, t1] <;> rfl), (by simp only [sG, Nat.reduceEqDiff, t4] <;> rfl), (by simp only [sG, Nat.reduceEqDiff, ti] <;> rfl), (by simp only [sG, Nat.reduceEqDiff, tj] <;> rfl), hr'.heap rfl, hk'.bump _⟩
   ·exact ⟨_, _, j0, rfl, rfl, Nat.le_refl _, by omega, fun k q1 q2 => by omega, (by simp only [t0] <;> rfl), (by simp only [t1] <;> rfl), (by simp only [t4] <;> rfl), (by simp only [ti] <;> rfl), (by simp only [tj] <;> rfl), hr3, hk3⟩
  rintro st ⟨tm, H4, j, rfl, hj2, hj3, hj4, hj5, t0, t1, t4, ti, tj, hr4, hk4⟩
  have lo2 : ∀ k, a + 1 ≤ k → k < i → ¬ (D2 a).v < (D2 k).v := fun k q1 q2 => by
   by_cases q : k < i0
   ·rw [haa]; exact hlo k q1 q
   ·exact hi4 k (by omega) q2
  have hi2' : ∀ k, j < k → k < e → (D2 a).v < (D2 k).v := fun k q1 q2 => by
   by_cases q : j0 < k
   ·rw [haa]; exact hhi k q q2
   ·exact hj4 k q1 (by omega)
  by_cases hgt : j < i
  ·repeat' (first | refine ya ?_ | refine yg ?_ | refine yd ?_ | (refine ye ?_) | (refine yf ?_; try simp only [sB, reduceCtorEq]) | (refine yc ?_; try simp only [z01, z00]) | (refine yb ?_; simp (config := { maxSteps := 2000000 }) (disch := first | omega | rfl) only [sB, Nat.reduceEqDiff, ti, tj, gtl hgt]) | (refine yh ?_ ?_; simp (config := { maxSteps := 2000000 }) (disch := first | omega | rfl) only [sB, Nat.reduceEqDiff]; refine z03 ?_))
   have hji : j + 1 = i := by omega
   exact z04 rfl (by simp only [sG, Nat.reduceEqDiff] <;> rfl) ⟨i, D2, rfl, by omega, by omega, hr4, hm, fun k q1 q2 => by
    rw [← ha, ← haa]
    by_cases q : k = a
    ·subst q; exact Int.le_refl _
    ·have := lo2 k (by omega) q2; omega, fun k q1 q2 => by rw [← ha, ← haa]; exact hi2' k (by omega) q2, hk4⟩
  ·have hn1 := hi5 (by omega)
   have hn2 := hj5 (by omega)
   have hne : i < j := by
    rcases Nat.lt_or_ge i j with q | q
    ·exact q
    ·exfalso
     have : i = j := by omega
     subst this
     exact hn1 hn2
   have hw3 : IntKind.i64.wrap ((i : Int) + 1) = ((i + 1 : Nat) : Int) := by rw [z06 (by omega) (by omega)]; omega
   have hw4 : IntKind.i64.wrap ((j : Int) - 1) = ((j - 1 : Nat) : Int) := by rw [z06 (by omega) (by omega)]; omega
   have k1 : i < n := by omega
   have k2 : j < n := by omega
   have l1 := hr4.load k1
   have l2 := hr4.load k2
   obtain ⟨cells, hg2, hl, he⟩ := hr4.row
   have hbl2 := hk4.wf _ _ hg2
   have le1 : i * 7 + 7 ≤ cells.length := by have := mul7 k1; omega
   have le2 : j * 7 + 7 ≤ cells.length := by have := mul7 k2; omega
   have hsw := fun H1 h2 => RowB.swap (H := H) (b := b) (T := 37) hl he k1 k2 H1 h2
   have ms := Pm.swap (a := a) (b := e) (i := i) (j := j) (D := D2) (by omega) (by omega) (by omega) (by omega)
   have f1 : swF i j D2 i = D2 j := z8l
   have f2 : swF i j D2 j = D2 i := zel
   have f3 : ∀ k, k ≠ i → k ≠ j → swF i j D2 k = D2 k := fun k q1 q2 => zbj q1 q2
   generalize hE1 : D2 i = E1 at hl he hsw l1 l2
   generalize hE2 : D2 j = E2 at hl he hsw l1 l2
   have le3 : j * 7 + 7 ≤ (Hb.splice cells (i * 7) E2.seven).length := by rw [z0c (vs := E2.seven) le1]; exact le2
   repeat' (first | refine ya ?_ | refine yg ?_ | refine yd ?_ | (refine ye ?_; try simp only [z02]) | (refine yf ?_) | (refine yc ?_; try simp only [z01, z00]) | (refine yb ?_; simp (config := { maxSteps := 2000000 }) (disch := first | omega | rfl) only [sB, Nat.reduceEqDiff, ti, tj, gtn hgt, hw3, hw4]) | (refine yj (id := 8) [([(0, 0), (1, 0), (4, 0), (5, 0), (6, 0), (7, 0), (8, 0), (9, 0), (10, 0), (11, 0), (12, 0)], some 13), ([(2, 0), (3, 0), (14, 1)], some 15), ([], none)] ?_ ?_; kernel_rfl; simp (config := { maxSteps := 2000000 }) (disch := first | omega | rfl) only [sV, sD, sB, Nat.reduceEqDiff, Nat.reduceAdd, one, reduceCtorEq, ia27, ld37, st37, t0, ti, tj, l1, l2, hg2, le1, le3, isAlloc, isRead, reduceCtorEq]) | (refine yh ?_ ?_; simp (config := { maxSteps := 2000000 }) (disch := first | omega | rfl) only [sB, Nat.reduceEqDiff]; refine z03 ?_) | (refine yi ?_ ?_; simp (config := { maxSteps := 2000000 }) (disch := first | omega | rfl) only [sB, Nat.reduceEqDiff]; refine z03 ?_))
   exact ⟨j - 1 + 1 - (i + 1), by omega, _, _, i + 1, j - 1, swF i j D2, rfl, rfl, by omega, by omega, by omega, fun k q1 q2 => by
    rw [← haa]
    by_cases q : k = i
    ·subst q; rw [f1]; omega
    ·rw [f3 k q (by omega)]; exact lo2 k q1 (by omega), fun k q1 q2 => by
    rw [← haa]
    by_cases q : k = j
    ·subst q; rw [f2]; omega
    ·rw [f3 k (by omega) q]; exact hi2' k (by omega) q2, by rw [f3 a (by omega) (by omega)]; exact haa, (by simp only [sG, reduceCtorEq, t0] <;> rfl), (by simp only [sG, Nat.reduceEqDiff, t1] <;> rfl), (by simp only [sG, Nat.reduceEqDiff, t4] <;> rfl), (by simp only [sG, Nat.reduceEqDiff] <;> rfl), (by simp only [sG, Nat.reduceEqDiff] <;> rfl), hsw _ (by rw [get_put, if_pos rfl]), hm.trans ms, hk4.two hbl2 _ _ _⟩
 ·exact ⟨_, _, a + 1, e - 1, D1, rfl, rfl, Nat.le_refl _, by omega, by omega, fun k q1 q2 => by omega, fun k q1 q2 => by omega, rfl, (by simp only [sG, reduceCtorEq, t0] <;> rfl), (by simp only [sG, Nat.reduceEqDiff, t1] <;> rfl), (by simp only [sG, Nat.reduceEqDiff, t4] <;> rfl), (by simp only [sG, Nat.reduceEqDiff] <;> rfl), (by simp only [sG, Nat.reduceEqDiff] <;> rfl), r1, ms, hk1⟩
set_option maxHeartbeats 16000000 in
theorem zjy {b n c a e p : Nat} {D : Nat → Bnd} {H : Heap} (hr : RowB H 37 b n D) (hn : n ≤ most) (hap : a ≤ p) (hpe : p < e) (h3 : e ≤ n) (hw : H.wf) :
  EvF Tryz.prog okT 61 [.slice (some ⟨b, 0, none⟩) n c, .int .i64 (a : Nat), .int .i64 (e : Nat), .int .i64 (p : Nat), cvB] H fun v H' =>
   ∃ (m : Nat) (f : Bool) (D' : Nat → Bnd), v = .tuple ⟨[.int .i64 (m : Nat), .bool f]⟩ ∧ a ≤ m ∧ m < e ∧ RowB H' 37 b n D' ∧ Pm a e D D' ∧ (∀ k, a ≤ k → k < m → (D' k).v < (D' m).v) ∧ (∀ k, m < k → k < e → (D' m).v ≤ (D' k).v) ∧ HK (· = b) H H' := by
 have hms : most ≤ 1048576 := by simp [most]
 have hg := z2p
 have hk := HK.refl (S := (· = b)) hw
 refine EvF.enter rfl Tryz.func61 (by decide) rfl ?_
 have hw1 : IntKind.i64.wrap ((a : Int) + 1) = ((a + 1 : Nat) : Int) := by rw [z06 (by omega) (by omega)]; omega
 have hw2 : IntKind.i64.wrap ((e : Int) - 1) = ((e - 1 : Nat) : Int) := by rw [z06 (by omega) (by omega)]; omega
 have k1 : a < n := by omega
 have k2 : p < n := by omega
 have l1 := hr.load k1
 have l2 := hr.load k2
 obtain ⟨cells, hg2, hl, he⟩ := hr.row
 have hbl2 := hk.wf _ _ hg2
 have le1 : a * 7 + 7 ≤ cells.length := by have := mul7 k1; omega
 have le2 : p * 7 + 7 ≤ cells.length := by have := mul7 k2; omega
 have hsw := fun H1 h2 => RowB.swap (H := H) (b := b) (T := 37) hl he k1 k2 H1 h2
 have ms := Pm.swap (a := a) (b := e) (i := a) (j := p) (D := D) (by omega) (by omega) (by omega) (by omega)
 have ha : swF a p D a = D p := z8l
 generalize hE1 : D a = E1 at hl he hsw l1 l2
 generalize hE2 : D p = E2 at hl he hsw l1 l2
 have le3 : p * 7 + 7 ≤ (Hb.splice cells (a * 7) E2.seven).length := by rw [z0c (vs := E2.seven) le1]; exact le2
 (repeat refine ya ?_); refine yb ?_; simp (config := { maxSteps := 2000000 }) (disch := first | omega | rfl) only [sA, initTm, Nat.reduceAdd]
 refine EvC.cut (fun st => ∃ tm H1, st = ⟨tm, [], H1⟩ ∧ tm.get 0 = some (.slice (some ⟨b, 0, none⟩) n c) ∧ tm.get 1 = some (.int .i64 (a : Nat)) ∧ tm.get 4 = some cvB ∧ tm.get 2 = some (.int .i64 (e : Nat)) ∧ RowB H1 37 b n (swF a p D) ∧ HK (· = b) H H1) ?_ ?_
 ·repeat' (first | refine ya ?_ | refine yg ?_ | refine yd ?_ | (refine ye ?_) | (refine yf ?_) | (refine yc ?_; try simp only [z01, z00]) | (refine yj (id := 1) [([(0, 0), (1, 0), (4, 0), (5, 0), (6, 0), (7, 0), (8, 0), (9, 0), (10, 0), (11, 0), (12, 0)], some 13), ([(2, 0), (3, 0), (14, 1)], some 15), ([], none)] ?_ ?_; kernel_rfl; simp (config := { maxSteps := 2000000 }) (disch := first | omega | rfl) only [sV, sD, sB, Nat.reduceEqDiff, Nat.reduceAdd, one, reduceCtorEq, ia27, ld37, st37, l1, l2, hg2, le1, le3, isAlloc, isRead, reduceCtorEq]))
  exact ⟨_, _, rfl, (by simp only [sG, reduceCtorEq] <;> rfl), (by simp only [sG, Nat.reduceEqDiff, reduceCtorEq] <;> rfl), (by simp only [sG, Nat.reduceEqDiff, reduceCtorEq] <;> rfl), (by simp only [sG, Nat.reduceEqDiff, reduceCtorEq] <;> rfl), hsw _ (by rw [get_put, if_pos rfl]), hk.two hbl2 _ _ _⟩
 rintro st ⟨tm, H1, rfl, t0, t1, t4, t2, r1, hk1⟩
 (repeat refine ya ?_); refine yb ?_; simp (config := { maxSteps := 2000000 }) (disch := first | omega | rfl) only [sB, Nat.reduceEqDiff, t1, t2, hw1, hw2]
 have ms0 := ms
 generalize hDD : swF a p D = D2 at *
 clear hsw ms l1 l2 hl he hg2 le1 le2 le3 k1 k2 hDD hE1 hE2 ha
 refine EvC.cut (fun st => ∃ tm H' i, st = ⟨tm, [], H'⟩ ∧ (a + 1) ≤ i ∧ i ≤ (e - 1) + 1 ∧ (∀ k, (a + 1) ≤ k → k < i → (D2 k).v < (D2 a).v) ∧ (i ≤ (e - 1) → ¬ ((D2 i).v < (D2 a).v)) ∧ tm.get 0 = some (.slice (some ⟨b, 0, none⟩) n c) ∧ tm.get 1 = some (.int .i64 (a : Nat)) ∧ tm.get 4 = some cvB ∧ tm.get 12 = some (.int .i64 (i : Nat)) ∧ tm.get 13 = some (.int .i64 ((e - 1) : Nat)) ∧ RowB H' 37 b n D2 ∧ HK (· = b) H H') ?_ ?_
 ·refine yd (yk (fun k st => ∃ tm H' i, st = ⟨tm, [], H'⟩ ∧ k = (e - 1) + 1 - i ∧ (a + 1) ≤ i ∧ i ≤ (e - 1) + 1 ∧ (∀ k, (a + 1) ≤ k → k < i → (D2 k).v < (D2 a).v) ∧ tm.get 0 = some (.slice (some ⟨b, 0, none⟩) n c) ∧ tm.get 1 = some (.int .i64 (a : Nat)) ∧ tm.get 4 = some cvB ∧ tm.get 12 = some (.int .i64 (i : Nat)) ∧ tm.get 13 = some (.int .i64 ((e - 1) : Nat)) ∧ RowB H' 37 b n D2 ∧ HK (· = b) H H') ?_ ((e - 1) + 1 - (a + 1)) _ ?_)
  ·rintro k st ⟨tm, H', i, rfl, rfl, hi0, hij, hpa, t0, t1, t4, ti, tj, hr', hk'⟩
   by_cases hle : i ≤ (e - 1)
   ·have hd : decide (((i : Nat) : Int) ≤ (((e - 1) : Nat) : Int)) = true := decide_eq_true (by omega)
    have hwv : IntKind.i64.wrap ((i : Int) + 1) = ((i + 1 : Nat) : Int) := by rw [z06 (by omega) (by omega)]; omega
    have k1 : i < n := by omega
    have k2 : a < n := by omega
    have l1 := hr'.load k1
    have l2 := hr'.load k2
    have hb := hk'.bump 16
    repeat' (first | refine ya ?_ | refine yg ?_ | refine yd ?_ | (refine ye ?_) | (refine yf ?_) | (refine yc ?_; try simp only [z01, z00]) | (refine yj (id := 3) [([(0, 0), (1, 0), (2, 0), (3, 0), (4, 0), (5, 0), (6, 0), (7, 0), (8, 0), (9, 0), (10, 0), (11, 0), (12, 0)], some 13), ([(14, 1), (15, 1)], none)] ?_ ?_; kernel_rfl; simp (config := { maxSteps := 2000000 }) (disch := first | omega | rfl) only [sD, sB, Nat.reduceEqDiff, Nat.reduceAdd, reduceCtorEq, ia27, ld37, t0, t1, t4, ti, tj, hd, l1, l2, z0r, z0g hg, isAlloc, isRead, reduceCtorEq]))
    obtain ⟨cells0, hg0, -, -⟩ := hr'.row
    have hbl := hk'.wf _ _ hg0
    refine (z1x hb.wf).mono ?_
    rintro v H2 ⟨rfl, hx2⟩
    have hk2 := hb.hxs hx2
    have r2 := hr'.heap (H' := H2) (by rw [hx2.keep b (Nat.lt_add_right _ hbl)]; rfl)
    by_cases hc : (D2 i).v < (D2 a).v
    ·repeat' (first | refine ya ?_ | refine yg ?_ | refine yd ?_ | (refine ye ?_; try simp only [z02]) | (refine yf ?_) | (refine yc ?_; try simp only [z01, z00]) | (refine yb ?_; simp (config := { maxSteps := 2000000 }) (disch := first | omega | rfl) only [sB, Nat.reduceEqDiff, ti, hwv]) | (refine z0f ?_; simp (config := { maxSteps := 2000000 }) (disch := first | omega | rfl) only [sD, sB, Nat.reduceEqDiff, cz_t hc, isAlloc, isRead]) | (refine yh ?_ ?_; simp (config := { maxSteps := 2000000 }) (disch := first | omega | rfl) only [sB, Nat.reduceEqDiff]; refine z03 ?_))
     exact ⟨(e - 1) + 1 - (i + 1), by omega, _, _, i + 1, rfl, rfl, by omega, by omega, fun k q1 q2 => by
      by_cases e : k = i
      ·subst e; omega
      ·exact hpa k q1 (by omega), (by simp only [sG, reduceCtorEq, t0] <;> rfl), (by simp only [sG, Nat.reduceEqDiff, t1] <;> rfl), (by simp only [sG, Nat.reduceEqDiff, t4] <;> rfl), (by simp only [sG, Nat.reduceEqDiff] <;> rfl), (by simp only [sG, Nat.reduceEqDiff, tj] <;> rfl), r2, hk2⟩
    ·repeat' (first | refine ya ?_ | refine yg ?_ | refine yd ?_ | (refine ye ?_) | (refine yf ?_; try simp only [sB, reduceCtorEq]) | (refine yc ?_; try simp only [z01, z00]) | (refine z0f ?_; simp (config := { maxSteps := 2000000 }) (disch := first | omega | rfl) only [sD, sB, Nat.reduceEqDiff, cz_f hc, isAlloc, isRead]) | (refine yh ?_ ?_; simp (config := { maxSteps := 2000000 }) (disch := first | omega | rfl) only [sB, Nat.reduceEqDiff]; refine z03 ?_) | (refine yi ?_ ?_; simp (config := { maxSteps := 2000000 }) (disch := first | omega | rfl) only [sB, Nat.reduceEqDiff]; refine z03 ?_))
     exact ⟨_, _, i, rfl, hi0, hij, hpa, fun _ => by omega, (by simp only [sG, reduceCtorEq, t0] <;> rfl), (by simp only [sG, Nat.reduceEqDiff, t1] <;> rfl), (by simp only [sG, Nat.reduceEqDiff, t4] <;> rfl), (by simp only [sG, Nat.reduceEqDiff, ti] <;> rfl), (by simp only [sG, Nat.reduceEqDiff, tj] <;> rfl), r2, hk2⟩
   ·have hd : decide (((i : Nat) : Int) ≤ (((e - 1) : Nat) : Int)) = false := decide_eq_false (by omega)
    repeat' (first | refine ya ?_ | refine yg ?_ | refine yd ?_ | (refine ye ?_) | (refine yf ?_; try simp only [sB, reduceCtorEq]) | (refine yc ?_; try simp only [z01, z00]) | (refine yj (id := 3) [([(0, 0), (1, 0), (2, 0), (3, 0), (4, 0), (5, 0), (6, 0), (7, 0), (8, 0), (9, 0), (10, 0), (11, 0), (12, 0)], some 13), ([(14, 1), (15, 1)], none)] ?_ ?_; kernel_rfl; simp (config := { maxSteps := 2000000 }) (disch := first | omega | rfl) only [sD, sB, Nat.reduceEqDiff, Nat.reduceAdd, ti, tj, hd, Bool.false_eq_true, isAlloc, isRead]) | (refine yh ?_ ?_; simp (config := { maxSteps := 2000000 }) (disch := first | omega | rfl) only [sB, Nat.reduceEqDiff]; refine z03 ?_) | (refine yi ?_ ?_; simp (config := { maxSteps := 2000000 }) (disch := first | omega | rfl) only [sB, Nat.reduceEqDiff]; refine z03 ?_))
    exact ⟨_, _, i, rfl, hi0, hij, hpa, fun h => absurd h hle, (by simp only [sG, reduceCtorEq, t0] <;> rfl), (by simp only [sG, Nat.reduceEqDiff, t1] <;> rfl), (by simp only [sG, Nat.reduceEqDiff, t4] <;> rfl), (by simp only [sG, Nat.reduceEqDiff, ti] <;> rfl), (by simp only [sG, Nat.reduceEqDiff, tj] <;> rfl), hr'.heap rfl, hk'.bump _⟩
  ·exact ⟨_, _, (a + 1), rfl, rfl, Nat.le_refl _, by omega, fun k q1 q2 => by omega, (by simp only [sG, reduceCtorEq, t0] <;> rfl), (by simp only [sG, Nat.reduceEqDiff, t1] <;> rfl), (by simp only [sG, Nat.reduceEqDiff, t4] <;> rfl), (by simp only [sG, Nat.reduceEqDiff] <;> rfl), (by simp only [sG, Nat.reduceEqDiff] <;> rfl), r1, hk1⟩
 clear t0 t1 t4 t2
 rintro st ⟨tm, H3, i, rfl, hi2, hi3, hi4, hi5, t0, t1, t4, ti, tj, hr3, hk3⟩
 refine EvC.cut (fun st => ∃ tm H' j, st = ⟨tm, [], H'⟩ ∧ j ≤ (e - 1) ∧ i ≤ j + 1 ∧ (∀ k, j < k → k ≤ (e - 1) → ¬ (D2 k).v < (D2 a).v) ∧ (i ≤ j → ¬ (¬ (D2 j).v < (D2 a).v)) ∧ tm.get 0 = some (.slice (some ⟨b, 0, none⟩) n c) ∧ tm.get 1 = some (.int .i64 (a : Nat)) ∧ tm.get 4 = some cvB ∧ tm.get 12 = some (.int .i64 (i : Nat)) ∧ tm.get 13 = some (.int .i64 (j : Nat)) ∧ RowB H' 37 b n D2 ∧ HK (· = b) H H') ?_ ?_
 ·refine yd (yk (fun k st => ∃ tm H' j, st = ⟨tm, [], H'⟩ ∧ k = j + 1 - i ∧ j ≤ (e - 1) ∧ i ≤ j + 1 ∧ (∀ k, j < k → k ≤ (e - 1) → ¬ (D2 k).v < (D2 a).v) ∧ tm.get 0 = some (.slice (some ⟨b, 0, none⟩) n c) ∧ tm.get 1 = some (.int .i64 (a : Nat)) ∧ tm.get 4 = some cvB ∧ tm.get 12 = some (.int .i64 (i : Nat)) ∧ tm.get 13 = some (.int .i64 (j : Nat)) ∧ RowB H' 37 b n D2 ∧ HK (· = b) H H') ?_ ((e - 1) + 1 - i) _ ?_)
  ·rintro k st ⟨tm, H', j, rfl, rfl, hj0, hij, hpa, t0, t1, t4, ti, tj, hr', hk'⟩
   by_cases hle : i ≤ j
   ·have hd : decide (((i : Nat) : Int) ≤ ((j : Nat) : Int)) = true := decide_eq_true (by omega)
    have hwv : IntKind.i64.wrap ((j : Int) - 1) = ((j - 1 : Nat) : Int) := by rw [z06 (by omega) (by omega)]; omega
    have k1 : j < n := by omega
    have k2 : a < n := by omega
    have l1 := hr'.load k1
    have l2 := hr'.load k2
    have hb := hk'.bump 17
    repeat' (first | refine ya ?_ | refine yg ?_ | refine yd ?_ | (refine ye ?_) | (refine yf ?_) | (refine yc ?_; try simp only [z01, z00]) | (refine yj (id := 5) [([(0, 0), (1, 0), (2, 0), (3, 0), (4, 0), (5, 0), (6, 0), (7, 0), (8, 0), (9, 0), (10, 0), (11, 0), (12, 0)], some 13), ([(14, 1), (15, 1), (16, 1)], none)] ?_ ?_; kernel_rfl; simp (config := { maxSteps := 2000000 }) (disch := first | omega | rfl) only [sD, sB, Nat.reduceEqDiff, Nat.reduceAdd, reduceCtorEq, ia27, ld37, t0, t1, t4, ti, tj, hd, l1, l2, z0r, z0g hg, isAlloc, isRead, reduceCtorEq]))
    obtain ⟨cells0, hg0, -, -⟩ := hr'.row
    have hbl := hk'.wf _ _ hg0
    refine (z1x hb.wf).mono ?_
    rintro v H2 ⟨rfl, hx2⟩
    have hk2 := hb.hxs hx2
    have r2 := hr'.heap (H' := H2) (by rw [hx2.keep b (Nat.lt_add_right _ hbl)]; rfl)
    by_cases hc : (D2 j).v < (D2 a).v
    ·repeat' (first | refine ya ?_ | refine yg ?_ | refine yd ?_ | (refine ye ?_) | (refine yf ?_; try simp only [sB, reduceCtorEq]) | (refine yc ?_; try simp only [z01, z00]) | (refine z0f ?_; simp (config := { maxSteps := 2000000 }) (disch := first | omega | rfl) only [sD, sB, Nat.reduceEqDiff, cz_t hc, Bool.not_true, isAlloc, isRead]) | (refine yh ?_ ?_; simp (config := { maxSteps := 2000000 }) (disch := first | omega | rfl) only [sB, Nat.reduceEqDiff]; refine z03 ?_) | (refine yi ?_ ?_; simp (config := { maxSteps := 2000000 }) (disch := first | omega | rfl) only [sB, Nat.reduceEqDiff]; refine z03 ?_))
     exact ⟨_, _, j, rfl, hj0, hij, hpa, fun _ => by omega, (by simp only [sG, reduceCtorEq, t0] <;> rfl), (by simp only [sG, Nat.reduceEqDiff, t1] <;> rfl), (by simp only [sG, Nat.reduceEqDiff, t4] <;> rfl), (by simp only [sG, Nat.reduceEqDiff, ti] <;> rfl), (by simp only [sG, Nat.reduceEqDiff, tj] <;> rfl), r2, hk2⟩
    ·repeat' (first | refine ya ?_ | refine yg ?_ | refine yd ?_ | (refine ye ?_; try simp only [z02]) | (refine yf ?_) | (refine yc ?_; try simp only [z01, z00]) | (refine yb ?_; simp (config := { maxSteps := 2000000 }) (disch := first | omega | rfl) only [sB, Nat.reduceEqDiff, tj, hwv]) | (refine z0f ?_; simp (config := { maxSteps := 2000000 }) (disch := first | omega | rfl) only [sD, sB, Nat.reduceEqDiff, cz_f hc, Bool.not_false, isAlloc, isRead]) | (refine yh ?_ ?_; simp (config := { maxSteps := 2000000 }) (disch := first | omega | rfl) only [sB, Nat.reduceEqDiff]; refine z03 ?_))
     exact ⟨j - 1 + 1 - i, by omega, _, _, j - 1, rfl, rfl, by omega, by omega, fun k q1 q2 => by
      by_cases e : k = j
      ·subst e; omega
      ·exact hpa k (by omega) q2, (by simp only [sG, reduceCtorEq, t0] <;> rfl), (by simp only [sG, Nat.reduceEqDiff, t1] <;> rfl), (by simp only [sG, Nat.reduceEqDiff, t4] <;> rfl), (by simp only [sG, Nat.reduceEqDiff, ti] <;> rfl), (by simp only [sG, Nat.reduceEqDiff] <;> rfl), r2, hk2⟩
   ·have hd : decide (((i : Nat) : Int) ≤ ((j : Nat) : Int)) = false := decide_eq_false (by omega)
    repeat' (first | refine ya ?_ | refine yg ?_ | refine yd ?_ | (refine ye ?_) | (refine yf ?_; try simp only [sB, reduceCtorEq]) | (refine yc ?_; try simp only [z01, z00]) | (refine yj (id := 5) [([(0, 0), (1, 0), (2, 0), (3, 0), (4, 0), (5, 0), (6, 0), (7, 0), (8, 0), (9, 0), (10, 0), (11, 0), (12, 0)], some 13), ([(14, 1), (15, 1), (16, 1)], none)] ?_ ?_; kernel_rfl; simp (config := { maxSteps := 2000000 }) (disch := first | omega | rfl) only [sD, sB, Nat.reduceEqDiff, Nat.reduceAdd, ti, tj, hd, Bool.false_eq_true, isAlloc, isRead]) | (refine yh ?_ ?_; simp (config := { maxSteps := 2000000 }) (disch := first | omega | rfl) only [sB, Nat.reduceEqDiff]; refine z03 ?_) | (refine yi ?_ ?_; simp (config := { maxSteps := 2000000 }) (disch := first | omega | rfl) only [sB, Nat.reduceEqDiff]; refine z03 ?_))
    exact ⟨_, _, j, rfl, hj0, hij, hpa, fun h => absurd h hle, (by simp only [sG, reduceCtorEq, t0] <;> rfl), (by simp only [sG, Nat.reduceEqDiff, t1] <;> rfl), (by simp only [sG, Nat.reduceEqDiff, t4] <;> rfl), (by simp only [sG, Nat.reduceEqDiff, ti] <;> rfl), (by simp only [sG, Nat.reduceEqDiff, tj] <;> rfl), hr'.heap rfl, hk'.bump _⟩
  ·exact ⟨_, _, (e - 1), rfl, rfl, Nat.le_refl _, by omega, fun k q1 q2 => by omega, (by simp only [t0] <;> rfl), (by simp only [t1] <;> rfl), (by simp only [t4] <;> rfl), (by simp only [ti] <;> rfl), (by simp only [tj] <;> rfl), hr3, hk3⟩
 clear t0 t1 t4 ti tj
 rintro st ⟨tm, H4, j, rfl, hj2, hj3, hj4, hj5, t0, t1, t4, ti, tj, hr4, hk4⟩
 have fin : ∀ (D3 : Nat → Bnd) (i j : Nat), a + 1 ≤ i → j + 1 = i → j < e → (∀ k, a + 1 ≤ k → k < i → (D3 k).v < (D3 a).v) → (∀ k, j < k → k < e → ¬ (D3 k).v < (D3 a).v) →
   (∀ k, a ≤ k → k < j → (swF j a D3 k).v < (swF j a D3 j).v) ∧ (∀ k, j < k → k < e → (swF j a D3 j).v ≤ (swF j a D3 k).v) := fun D3 i j q1 q2 q3 q4 q5 => by
  have f1 : swF j a D3 j = D3 a := z8l
  have f2 : swF j a D3 a = D3 j := zel
  refine ⟨fun k u1 u2 => ?_, fun k u1 u2 => ?_⟩
  ·rw [f1]
   by_cases q : k = a
   ·subst q; rw [f2]; exact q4 j (by omega) (by omega)
   ·rw [zbj (by omega) q]; exact q4 k (by omega) (by omega)
  ·rw [f1, zbj (by omega) (by omega)]
   have := q5 k u1 u2; omega
 by_cases hgt : j < i
 ·have hji : j + 1 = i := by omega
  obtain ⟨fa, fb⟩ := fin D2 i j (by omega) hji (by omega) (fun k q1 q2 => hi4 k q1 q2) (fun k q1 q2 => hj4 k q1 (by omega))
  clear fin
  have k1 : j < n := by omega
  have k2 : a < n := by omega
  have l1 := hr4.load k1
  have l2 := hr4.load k2
  obtain ⟨cells, hg2, hl, he⟩ := hr4.row
  have hbl2 := hk4.wf _ _ hg2
  have le1 : j * 7 + 7 ≤ cells.length := by have := mul7 k1; omega
  have le2 : a * 7 + 7 ≤ cells.length := by have := mul7 k2; omega
  have hsw := fun H1 h2 => RowB.swap (H := H) (b := b) (T := 37) hl he k1 k2 H1 h2
  have ms := Pm.swap (a := a) (b := e) (i := j) (j := a) (D := D2) (by omega) (by omega) (by omega) (by omega)
  generalize hDD : swF j a D2 = D3 at *
  generalize hE1 : D2 j = E1 at hl he hsw l1 l2
  generalize hE2 : D2 a = E2 at hl he hsw l1 l2
  have le3 : a * 7 + 7 ≤ (Hb.splice cells (j * 7) E2.seven).length := by rw [z0c (vs := E2.seven) le1]; exact le2
  repeat' (first | refine ya ?_ | refine yg ?_ | refine yd ?_ | (refine ye ?_) | (refine yf ?_) | (refine yc ?_; try simp only [z01, z00]) | (refine yb ?_; simp (config := { maxSteps := 2000000 }) (disch := first | omega | rfl) only [sB, Nat.reduceEqDiff, ti, tj, gtl hgt]) | (refine yj (id := 8) [([(0, 0), (1, 0), (4, 0), (5, 0), (6, 0), (7, 0), (8, 0), (9, 0), (10, 0), (11, 0), (12, 0)], some 13), ([(2, 0), (3, 0), (14, 1)], some 15), ([], none)] ?_ ?_; kernel_rfl; simp (config := { maxSteps := 2000000 }) (disch := first | omega | rfl) only [sV, sD, sB, Nat.reduceEqDiff, Nat.reduceAdd, one, reduceCtorEq, ia27, ld37, st37, t0, t1, tj, l1, l2, hg2, le1, le3, isAlloc, isRead, reduceCtorEq]) | (refine yh ?_ ?_; simp (config := { maxSteps := 2000000 }) (disch := first | omega | rfl) only [sB, Nat.reduceEqDiff]; refine z03 ?_))
  exact z0j rfl (by simp only [sG, Nat.reduceEqDiff] <;> rfl) (by simp only [sB, Nat.reduceEqDiff] <;> rfl) ⟨j, _, D3, rfl, by omega, by omega, hsw _ (by rw [get_put, if_pos rfl]), ms0.trans ms, fa, fb, hk4.two hbl2 _ _ _⟩
 have hn1 := hi5 (by omega)
 have hn2 := hj5 (by omega)
 have hne : i < j := by
  rcases Nat.lt_or_ge i j with q | q
  ·exact q
  ·exfalso
   have : i = j := by omega
   subst this
   exact hn2 hn1
 have hw3 : IntKind.i64.wrap ((i : Int) + 1) = ((i + 1 : Nat) : Int) := by rw [z06 (by omega) (by omega)]; omega
 have hw4 : IntKind.i64.wrap ((j : Int) - 1) = ((j - 1 : Nat) : Int) := by rw [z06 (by omega) (by omega)]; omega
 have k1 : i < n := by omega
 have k2 : j < n := by omega
 have l1 := hr4.load k1
 have l2 := hr4.load k2
 obtain ⟨cells, hg2, hl, he⟩ := hr4.row
 have hbl2 := hk4.wf _ _ hg2
 have le1 : i * 7 + 7 ≤ cells.length := by have := mul7 k1; omega
 have le2 : j * 7 + 7 ≤ cells.length := by have := mul7 k2; omega
 have hsw := fun H1 h2 => RowB.swap (H := H) (b := b) (T := 37) hl he k1 k2 H1 h2
 have ms := Pm.swap (a := a) (b := e) (i := i) (j := j) (D := D2) (by omega) (by omega) (by omega) (by omega)
 have f1 : swF i j D2 i = D2 j := z8l
 have f2 : swF i j D2 j = D2 i := zel
 have f3 : ∀ k, k ≠ i → k ≠ j → swF i j D2 k = D2 k := fun k q1 q2 => zbj q1 q2
 generalize hE1 : D2 i = E1 at hl he hsw l1 l2
 generalize hE2 : D2 j = E2 at hl he hsw l1 l2
 have le3 : j * 7 + 7 ≤ (Hb.splice cells (i * 7) E2.seven).length := by rw [z0c (vs := E2.seven) le1]; exact le2
 (repeat refine ya ?_); refine yb ?_; simp (config := { maxSteps := 2000000 }) (disch := first | omega | rfl) only [sB, Nat.reduceEqDiff, ti, tj, gtn hgt]
 (repeat refine ya ?_); refine yi (by simp (config := { maxSteps := 2000000 }) (disch := first | omega | rfl) only [sB, Nat.reduceEqDiff]) ?_; (try refine ye ?_); (try simp only [z02, z09])
 refine EvC.cut (fun st => ∃ tm H1, st = ⟨tm, [], H1⟩ ∧ tm.get 0 = some (.slice (some ⟨b, 0, none⟩) n c) ∧ tm.get 1 = some (.int .i64 (a : Nat)) ∧ tm.get 4 = some cvB ∧ tm.get 12 = some (.int .i64 (i : Nat)) ∧ tm.get 13 = some (.int .i64 (j : Nat)) ∧ RowB H1 37 b n (swF i j D2) ∧ HK (· = b) H H1) ?_ ?_
 ·repeat' (first | refine ya ?_ | refine yg ?_ | refine yd ?_ | (refine ye ?_) | (refine yf ?_) | (refine yc ?_; try simp only [z01, z00]) | (refine yj (id := 10) [([(0, 0), (1, 0), (4, 0), (5, 0), (6, 0), (7, 0), (8, 0), (9, 0), (10, 0), (11, 0), (12, 0)], some 13), ([(2, 0), (3, 0), (14, 1)], some 15), ([], none)] ?_ ?_; kernel_rfl; simp (config := { maxSteps := 2000000 }) (disch := first | omega | rfl) only [sV, sD, sB, Nat.reduceEqDiff, Nat.reduceAdd, one, reduceCtorEq, ia27, ld37, st37, t0, ti, tj, l1, l2, hg2, le1, le3, isAlloc, isRead, reduceCtorEq]))
  exact ⟨_, _, rfl, (by simp only [sG, reduceCtorEq, t0] <;> rfl), (by simp only [sG, Nat.reduceEqDiff, t1] <;> rfl), (by simp only [sG, Nat.reduceEqDiff, t4] <;> rfl), (by simp only [sG, Nat.reduceEqDiff, ti] <;> rfl), (by simp only [sG, Nat.reduceEqDiff, tj] <;> rfl), hsw _ (by rw [get_put, if_pos rfl]), hk4.two hbl2 _ _ _⟩
 clear t0 t1 t4 ti tj
 rintro st ⟨tm, H5, rfl, t0, t1, t4, ti, tj, r5, hk5⟩
 (repeat refine ya ?_); refine yb ?_; simp (config := { maxSteps := 2000000 }) (disch := first | omega | rfl) only [sB, Nat.reduceEqDiff, ti, hw3]
 (repeat refine ya ?_); refine yb ?_; simp (config := { maxSteps := 2000000 }) (disch := first | omega | rfl) only [sB, Nat.reduceEqDiff, tj, hw4]
 have lo3 : ∀ k, a + 1 ≤ k → k < i + 1 → (swF i j D2 k).v < (swF i j D2 a).v := fun k q1 q2 => by
  rw [f3 a (by omega) (by omega)]
  by_cases q : k = i
  ·subst q; rw [f1]; omega
  ·rw [f3 k q (by omega)]; exact hi4 k q1 (by omega)
 have hi3' : ∀ k, j - 1 < k → k < e → ¬ (swF i j D2 k).v < (swF i j D2 a).v := fun k q1 q2 => by
  rw [f3 a (by omega) (by omega)]
  by_cases q : k = j
  ·subst q; rw [f2]; omega
  ·rw [f3 k (by omega) q]; exact hj4 k (by omega) (by omega)
 have mm := ms0.trans ms
 clear hsw l1 l2 hl he hg2 le1 le2 le3 k1 k2 f1 f2 f3 hE1 hE2 ms hr4 hk4 hi4 hi5 hj4 hj5 hn1 hn2 hw3 hw4
 generalize swF i j D2 = D1 at *
 have hi6 : a + 1 ≤ i + 1 := by omega
 have hj6 : i + 1 ≤ j - 1 + 1 := by omega
 have hj7 : j - 1 < e := by omega
 generalize i + 1 = i1 at *
 generalize j - 1 = j1 at *
 refine EvC.cut (fun st => ∃ tm H' i j D', st = ⟨tm, [], H'⟩ ∧ a + 1 ≤ i ∧ j + 1 = i ∧ j < e ∧ (∀ k, a + 1 ≤ k → k < i → (D' k).v < (D' a).v) ∧ (∀ k, j < k → k < e → ¬ (D' k).v < (D' a).v) ∧ tm.get 0 = some (.slice (some ⟨b, 0, none⟩) n c) ∧ tm.get 1 = some (.int .i64 (a : Nat)) ∧ tm.get 4 = some cvB ∧ tm.get 12 = some (.int .i64 (i : Nat)) ∧ tm.get 13 = some (.int .i64 (j : Nat)) ∧ RowB H' 37 b n D' ∧ Pm a e D D' ∧ HK (· = b) H H') ?_ ?_
 ·refine yd (yk (fun k st => ∃ tm H' i j D', st = ⟨tm, [], H'⟩ ∧ k = j + 1 - i ∧ a + 1 ≤ i ∧ i ≤ j + 1 ∧ j < e ∧ (∀ k, a + 1 ≤ k → k < i → (D' k).v < (D' a).v) ∧ (∀ k, j < k → k < e → ¬ (D' k).v < (D' a).v) ∧ tm.get 0 = some (.slice (some ⟨b, 0, none⟩) n c) ∧ tm.get 1 = some (.int .i64 (a : Nat)) ∧ tm.get 4 = some cvB ∧ tm.get 12 = some (.int .i64 (i : Nat)) ∧ tm.get 13 = some (.int .i64 (j : Nat)) ∧ RowB H' 37 b n D' ∧ Pm a e D D' ∧ HK (· = b) H H') ?_ (j1 + 1 - i1) _ ?_)
  ·rintro k st ⟨tm, H0, i0, j0, D2, rfl, rfl, hi1, hij0, hje, hlo, hhi, t0, t1, t4, ti, tj, hr0, hm, hk0⟩
   (repeat refine ya ?_)
   refine yd ?_
   refine EvC.cut (fun st => ∃ tm H' i, st = ⟨tm, [], H'⟩ ∧ i0 ≤ i ∧ i ≤ j0 + 1 ∧ (∀ k, i0 ≤ k → k < i → (D2 k).v < (D2 a).v) ∧ (i ≤ j0 → ¬ ((D2 i).v < (D2 a).v)) ∧ tm.get 0 = some (.slice (some ⟨b, 0, none⟩) n c) ∧ tm.get 1 = some (.int .i64 (a : Nat)) ∧ tm.get 4 = some cvB ∧ tm.get 12 = some (.int .i64 (i : Nat)) ∧ tm.get 13 = some (.int .i64 (j0 : Nat)) ∧ RowB H' 37 b n D2 ∧ HK (· = b) H H') ?_ ?_
   ·refine yd (yk (fun k st => ∃ tm H' i, st = ⟨tm, [], H'⟩ ∧ k = j0 + 1 - i ∧ i0 ≤ i ∧ i ≤ j0 + 1 ∧ (∀ k, i0 ≤ k → k < i → (D2 k).v < (D2 a).v) ∧ tm.get 0 = some (.slice (some ⟨b, 0, none⟩) n c) ∧ tm.get 1 = some (.int .i64 (a : Nat)) ∧ tm.get 4 = some cvB ∧ tm.get 12 = some (.int .i64 (i : Nat)) ∧ tm.get 13 = some (.int .i64 (j0 : Nat)) ∧ RowB H' 37 b n D2 ∧ HK (· = b) H H') ?_ (j0 + 1 - i0) _ ?_)
    ·rintro k st ⟨tm, H', i, rfl, rfl, hi0, hij, hpa, t0, t1, t4, ti, tj, hr', hk'⟩
     by_cases hle : i ≤ j0
     ·have hd : decide (((i : Nat) : Int) ≤ ((j0 : Nat) : Int)) = true := decide_eq_true (by omega)
      have hwv : IntKind.i64.wrap ((i : Int) + 1) = ((i + 1 : Nat) : Int) := by rw [z06 (by omega) (by omega)]; omega
      have k1 : i < n := by omega
      have k2 : a < n := by omega
      have l1 := hr'.load k1
      have l2 := hr'.load k2
      have hb := hk'.bump 16
      repeat' (first | refine ya ?_ | refine yg ?_ | refine yd ?_ | (refine ye ?_) | (refine yf ?_) | (refine yc ?_; try simp only [z01, z00]) | (refine yj (id := 13) [([(0, 0), (1, 0), (2, 0), (3, 0), (4, 0), (5, 0), (6, 0), (7, 0), (8, 0), (9, 0), (10, 0), (11, 0), (12, 0)], some 13), ([(14, 1), (15, 1)], none)] ?_ ?_; kernel_rfl; simp (config := { maxSteps := 2000000 }) (disch := first | omega | rfl) only [sD, sB, Nat.reduceEqDiff, Nat.reduceAdd, reduceCtorEq, ia27, ld37, t0, t1, t4, ti, tj, hd, l1, l2, z0r, z0g hg, isAlloc, isRead, reduceCtorEq]))
      obtain ⟨cells0, hg0, -, -⟩ := hr'.row
      have hbl := hk'.wf _ _ hg0
      refine (z1x hb.wf).mono ?_
      rintro v H2 ⟨rfl, hx2⟩
      have hk2 := hb.hxs hx2
      have r2 := hr'.heap (H' := H2) (by rw [hx2.keep b (Nat.lt_add_right _ hbl)]; rfl)
      by_cases hc : (D2 i).v < (D2 a).v
      ·repeat' (first | refine ya ?_ | refine yg ?_ | refine yd ?_ | (refine ye ?_; try simp only [z02]) | (refine yf ?_) | (refine yc ?_; try simp only [z01, z00]) | (refine yb ?_; simp (config := { maxSteps := 2000000 }) (disch := first | omega | rfl) only [sB, Nat.reduceEqDiff, ti, hwv]) | (refine z0f ?_; simp (config := { maxSteps := 2000000 }) (disch := first | omega | rfl) only [sD, sB, Nat.reduceEqDiff, cz_t hc, isAlloc, isRead]) | (refine yh ?_ ?_; simp (config := { maxSteps := 2000000 }) (disch := first | omega | rfl) only [sB, Nat.reduceEqDiff]; refine z03 ?_))
       exact ⟨j0 + 1 - (i + 1), by omega, _, _, i + 1, rfl, rfl, by omega, by omega, fun k q1 q2 => by
        by_cases e : k = i
        ·subst e; omega
        ·exact hpa k q1 (by omega), (by simp only [sG, reduceCtorEq, t0] <;> rfl), (by simp only [sG, Nat.reduceEqDiff, t1] <;> rfl), (by simp only [sG, Nat.reduceEqDiff, t4] <;> rfl), (by simp only [sG, Nat.reduceEqDiff] <;> rfl), (by simp only [sG, Nat.reduceEqDiff, tj] <;> rfl), r2, hk2⟩
      ·repeat' (first | refine ya ?_ | refine yg ?_ | refine yd ?_ | (refine ye ?_) | (refine yf ?_; try simp only [sB, reduceCtorEq]) | (refine yc ?_; try simp only [z01, z00]) | (refine z0f ?_; simp (config := { maxSteps := 2000000 }) (disch := first | omega | rfl) only [sD, sB, Nat.reduceEqDiff, cz_f hc, isAlloc, isRead]) | (refine yh ?_ ?_; simp (config := { maxSteps := 2000000 }) (disch := first | omega | rfl) only [sB, Nat.reduceEqDiff]; refine z03 ?_) | (refine yi ?_ ?_; simp (config := { maxSteps := 2000000 }) (disch := first | omega | rfl) only [sB, Nat.reduceEqDiff]; refine z03 ?_))
       exact ⟨_, _, i, rfl, hi0, hij, hpa, fun _ => by omega, (by simp only [sG, reduceCtorEq, t0] <;> rfl), (by simp only [sG, Nat.reduceEqDiff, t1] <;> rfl), (by simp only [sG, Nat.reduceEqDiff, t4] <;> rfl), (by simp only [sG, Nat.reduceEqDiff, ti] <;> rfl), (by simp only [sG, Nat.reduceEqDiff, tj] <;> rfl), r2, hk2⟩
     ·have hd : decide (((i : Nat) : Int) ≤ ((j0 : Nat) : Int)) = false := decide_eq_false (by omega)
      repeat' (first | refine ya ?_ | refine yg ?_ | refine yd ?_ | (refine ye ?_) | (refine yf ?_; try simp only [sB, reduceCtorEq]) | (refine yc ?_; try simp only [z01, z00]) | (refine yj (id := 13) [([(0, 0), (1, 0), (2, 0), (3, 0), (4, 0), (5, 0), (6, 0), (7, 0), (8, 0), (9, 0), (10, 0), (11, 0), (12, 0)], some 13), ([(14, 1), (15, 1)], none)] ?_ ?_; kernel_rfl; simp (config := { maxSteps := 2000000 }) (disch := first | omega | rfl) only [sD, sB, Nat.reduceEqDiff, Nat.reduceAdd, ti, tj, hd, Bool.false_eq_true, isAlloc, isRead]) | (refine yh ?_ ?_; simp (config := { maxSteps := 2000000 }) (disch := first | omega | rfl) only [sB, Nat.reduceEqDiff]; refine z03 ?_) | (refine yi ?_ ?_; simp (config := { maxSteps := 2000000 }) (disch := first | omega | rfl) only [sB, Nat.reduceEqDiff]; refine z03 ?_))
      exact ⟨_, _, i, rfl, hi0, hij, hpa, fun h => absurd h hle, (by simp only [sG, reduceCtorEq, t0] <;> rfl), (by simp only [sG, Nat.reduceEqDiff, t1] <;> rfl), (by simp only [sG, Nat.reduceEqDiff, t4] <;> rfl), (by simp only [sG, Nat.reduceEqDiff, ti] <;> rfl), (by simp only [sG, Nat.reduceEqDiff, tj] <;> rfl), hr'.heap rfl, hk'.bump _⟩
    ·exact ⟨_, _, i0, rfl, rfl, Nat.le_refl _, by omega, fun k q1 q2 => by omega, (by simp only [t0] <;> rfl), (by simp only [t1] <;> rfl), (by simp only [t4] <;> rfl), (by simp only [ti] <;> rfl), (by simp only [tj] <;> rfl), hr0, hk0⟩
   clear t0 t1 t4 ti tj
   rintro st ⟨tm, H3, i, rfl, hi2, hi3, hi4, hi5, t0, t1, t4, ti, tj, hr3, hk3⟩
   refine EvC.cut (fun st => ∃ tm H' j, st = ⟨tm, [], H'⟩ ∧ j ≤ j0 ∧ i ≤ j + 1 ∧ (∀ k, j < k → k ≤ j0 → ¬ (D2 k).v < (D2 a).v) ∧ (i ≤ j → ¬ (¬ (D2 j).v < (D2 a).v)) ∧ tm.get 0 = some (.slice (some ⟨b, 0, none⟩) n c) ∧ tm.get 1 = some (.int .i64 (a : Nat)) ∧ tm.get 4 = some cvB ∧ tm.get 12 = some (.int .i64 (i : Nat)) ∧ tm.get 13 = some (.int .i64 (j : Nat)) ∧ RowB H' 37 b n D2 ∧ HK (· = b) H H') ?_ ?_
   ·refine yd (yk (fun k st => ∃ tm H' j, st = ⟨tm, [], H'⟩ ∧ k = j + 1 - i ∧ j ≤ j0 ∧ i ≤ j + 1 ∧ (∀ k, j < k → k ≤ j0 → ¬ (D2 k).v < (D2 a).v) ∧ tm.get 0 = some (.slice (some ⟨b, 0, none⟩) n c) ∧ tm.get 1 = some (.int .i64 (a : Nat)) ∧ tm.get 4 = some cvB ∧ tm.get 12 = some (.int .i64 (i : Nat)) ∧ tm.get 13 = some (.int .i64 (j : Nat)) ∧ RowB H' 37 b n D2 ∧ HK (· = b) H H') ?_ (j0 + 1 - i) _ ?_)
    ·rintro k st ⟨tm, H', j, rfl, rfl, hj0, hij, hpa, t0, t1, t4, ti, tj, hr', hk'⟩
     by_cases hle : i ≤ j
     ·have hd : decide (((i : Nat) : Int) ≤ ((j : Nat) : Int)) = true := decide_eq_true (by omega)
      have hwv : IntKind.i64.wrap ((j : Int) - 1) = ((j - 1 : Nat) : Int) := by rw [z06 (by omega) (by omega)]; omega
      have k1 : j < n := by omega
      have k2 : a < n := by omega
      have l1 := hr'.load k1
      have l2 := hr'.load k2
      have hb := hk'.bump 17
      repeat' (first | refine ya ?_ | refine yg ?_ | refine yd ?_ | (refine ye ?_) | (refine yf ?_) | (refine yc ?_; try simp only [z01, z00]) | (refine yj (id := 15) [([(0, 0), (1, 0), (2, 0), (3, 0), (4, 0), (5, 0), (6, 0), (7, 0), (8, 0), (9, 0), (10, 0), (11, 0), (12, 0)], some 13), ([(14, 1), (15, 1), (16, 1)], none)] ?_ ?_; kernel_rfl; simp (config := { maxSteps := 2000000 }) (disch := first | omega | rfl) only [sD, sB, Nat.reduceEqDiff, Nat.reduceAdd, reduceCtorEq, ia27, ld37, t0, t1, t4, ti, tj, hd, l1, l2, z0r, z0g hg, isAlloc, isRead, reduceCtorEq]))
      obtain ⟨cells0, hg0, -, -⟩ := hr'.row
      have hbl := hk'.wf _ _ hg0
      refine (z1x hb.wf).mono ?_
      rintro v H2 ⟨rfl, hx2⟩
      have hk2 := hb.hxs hx2
      have r2 := hr'.heap (H' := H2) (by rw [hx2.keep b (Nat.lt_add_right _ hbl)]; rfl)
      by_cases hc : (D2 j).v < (D2 a).v
      ·repeat' (first | refine ya ?_ | refine yg ?_ | refine yd ?_ | (refine ye ?_) | (refine yf ?_; try simp only [sB, reduceCtorEq]) | (refine yc ?_; try simp only [z01, z00]) | (refine z0f ?_; simp (config := { maxSteps := 2000000 }) (disch := first | omega | rfl) only [sD, sB, Nat.reduceEqDiff, cz_t hc, Bool.not_true, isAlloc, isRead]) | (refine yh ?_ ?_; simp (config := { maxSteps := 2000000 }) (disch := first | omega | rfl) only [sB, Nat.reduceEqDiff]; refine z03 ?_) | (refine yi ?_ ?_; simp (config := { maxSteps := 2000000 }) (disch := first | omega | rfl) only [sB, Nat.reduceEqDiff]; refine z03 ?_))
       exact ⟨_, _, j, rfl, hj0, hij, hpa, fun _ => by omega, (by simp only [sG, reduceCtorEq, t0] <;> rfl), (by simp only [sG, Nat.reduceEqDiff, t1] <;> rfl), (by simp only [sG, Nat.reduceEqDiff, t4] <;> rfl), (by simp only [sG, Nat.reduceEqDiff, ti] <;> rfl), (by simp only [sG, Nat.reduceEqDiff, tj] <;> rfl), r2, hk2⟩
      ·repeat' (first | refine ya ?_ | refine yg ?_ | refine yd ?_ | (refine ye ?_; try simp only [z02]) | (refine yf ?_) | (refine yc ?_; try simp only [z01, z00]) | (refine yb ?_; simp (config := { maxSteps := 2000000 }) (disch := first | omega | rfl) only [sB, Nat.reduceEqDiff, tj, hwv]) | (refine z0f ?_; simp (config := { maxSteps := 2000000 }) (disch := first | omega | rfl) only [sD, sB, Nat.reduceEqDiff, cz_f hc, Bool.not_false, isAlloc, isRead]) | (refine yh ?_ ?_; simp (config := { maxSteps := 2000000 }) (disch := first | omega | rfl) only [sB, Nat.reduceEqDiff]; refine z03 ?_))
       exact ⟨j - 1 + 1 - i, by omega, _, _, j - 1, rfl, rfl, by omega, by omega, fun k q1 q2 => by
        by_cases e : k = j
        ·subst e; omega
        ·exact hpa k (by omega) q2, (by simp only [sG, reduceCtorEq, t0] <;> rfl), (by simp only [sG, Nat.reduceEqDiff, t1] <;> rfl), (by simp only [sG, Nat.reduceEqDiff, t4] <;> rfl), (by simp only [sG, Nat.reduceEqDiff, ti] <;> rfl), (by simp only [sG, Nat.reduceEqDiff] <;> rfl), r2, hk2⟩
     ·have hd : decide (((i : Nat) : Int) ≤ ((j : Nat) : Int)) = false := decide_eq_false (by omega)
      repeat' (first | refine ya ?_ | refine yg ?_ | refine yd ?_ | (refine ye ?_) | (refine yf ?_; try simp only [sB, reduceCtorEq]) | (refine yc ?_; try simp only [z01, z00]) | (refine yj (id := 15) [([(0, 0), (1, 0), (2, 0), (3, 0), (4, 0), (5, 0), (6, 0), (7, 0), (8, 0), (9, 0), (10, 0), (11, 0), (12, 0)], some 13), ([(14, 1), (15, 1), (16, 1)], none)] ?_ ?_; kernel_rfl; simp (config := { maxSteps := 2000000 }) (disch := first | omega | rfl) only [sD, sB, Nat.reduceEqDiff, Nat.reduceAdd, ti, tj, hd, Bool.false_eq_true, isAlloc, isRead]) | (refine yh ?_ ?_; simp (config := { maxSteps := 2000000 }) (disch := first | omega | rfl) only [sB, Nat.reduceEqDiff]; refine z03 ?_) | (refine yi ?_ ?_; simp (config := { maxSteps := 2000000 }) (disch := first | omega | rfl) only [sB, Nat.reduceEqDiff]; refine z03 ?_))
      exact ⟨_, _, j, rfl, hj0, hij, hpa, fun h => absurd h hle, (by simp only [sG, reduceCtorEq, t0] <;> rfl), (by simp only [sG, Nat.reduceEqDiff, t1] <;> rfl), (by simp only [sG, Nat.reduceEqDiff, t4] <;> rfl), (by simp only [sG, Nat.reduceEqDiff, ti] <;> rfl), (by simp only [sG, Nat.reduceEqDiff, tj] <;> rfl), hr'.heap rfl, hk'.bump _⟩
    ·exact ⟨_, _, j0, rfl, rfl, Nat.le_refl _, by omega, fun k q1 q2 => by omega, (by simp only [t0] <;> rfl), (by simp only [t1] <;> rfl), (by simp only [t4] <;> rfl), (by simp only [ti] <;> rfl), (by simp only [tj] <;> rfl), hr3, hk3⟩
   clear t0 t1 t4 ti tj
   rintro st ⟨tm, H4, j, rfl, hj2, hj3, hj4, hj5, t0, t1, t4, ti, tj, hr4, hk4⟩
   have lo2 : ∀ k, a + 1 ≤ k → k < i → (D2 k).v < (D2 a).v := fun k q1 q2 => by
    by_cases q : k < i0
    ·exact hlo k q1 q
    ·exact hi4 k (by omega) q2
   have hi2' : ∀ k, j < k → k < e → ¬ (D2 k).v < (D2 a).v := fun k q1 q2 => by
    by_cases q : j0 < k
    ·exact hhi k q q2
    ·exact hj4 k q1 (by omega)
   by_cases hgt : j < i
   ·repeat' (first | refine ya ?_ | refine yg ?_ | refine yd ?_ | (refine ye ?_) | (refine yf ?_; try simp only [sB, Nat.reduceEqDiff, reduceCtorEq]) | (refine yc ?_; try simp only [z01, z00]) | (refine yb ?_; simp (config := { maxSteps := 2000000 }) (disch := first | omega | rfl) only [sB, Nat.reduceEqDiff, ti, tj, gtl hgt]) | (refine yh ?_ ?_; simp (config := { maxSteps := 2000000 }) (disch := first | omega | rfl) only [sB, Nat.reduceEqDiff]; refine z03 ?_))
    exact ⟨_, _, i, j, D2, rfl, by omega, by omega, by omega, lo2, hi2', (by simp only [sG, reduceCtorEq, t0] <;> rfl), (by simp only [sG, Nat.reduceEqDiff, t1] <;> rfl), (by simp only [sG, Nat.reduceEqDiff, t4] <;> rfl), (by simp only [sG, Nat.reduceEqDiff, ti] <;> rfl), (by simp only [sG, Nat.reduceEqDiff, tj] <;> rfl), hr4, hm, hk4⟩
   ·have hn1 := hi5 (by omega)
    have hn2 := hj5 (by omega)
    have hne : i < j := by
     rcases Nat.lt_or_ge i j with q | q
     ·exact q
     ·exfalso
      have : i = j := by omega
      subst this
      exact hn2 hn1
    have hw3 : IntKind.i64.wrap ((i : Int) + 1) = ((i + 1 : Nat) : Int) := by rw [z06 (by omega) (by omega)]; omega
    have hw4 : IntKind.i64.wrap ((j : Int) - 1) = ((j - 1 : Nat) : Int) := by rw [z06 (by omega) (by omega)]; omega
    have k1 : i < n := by omega
    have k2 : j < n := by omega
    have l1 := hr4.load k1
    have l2 := hr4.load k2
    obtain ⟨cells, hg2, hl, he⟩ := hr4.row
    have hbl2 := hk4.wf _ _ hg2
    have le1 : i * 7 + 7 ≤ cells.length := by have := mul7 k1; omega
    have le2 : j * 7 + 7 ≤ cells.length := by have := mul7 k2; omega
    have hsw := fun H1 h2 => RowB.swap (H := H) (b := b) (T := 37) hl he k1 k2 H1 h2
    have ms := Pm.swap (a := a) (b := e) (i := i) (j := j) (D := D2) (by omega) (by omega) (by omega) (by omega)
    have f1 : swF i j D2 i = D2 j := z8l
    have f2 : swF i j D2 j = D2 i := zel
    have f3 : ∀ k, k ≠ i → k ≠ j → swF i j D2 k = D2 k := fun k q1 q2 => zbj q1 q2
    generalize hE1 : D2 i = E1 at hl he hsw l1 l2
    generalize hE2 : D2 j = E2 at hl he hsw l1 l2
    have le3 : j * 7 + 7 ≤ (Hb.splice cells (i * 7) E2.seven).length := by rw [z0c (vs := E2.seven) le1]; exact le2
    repeat' (first | refine ya ?_ | refine yg ?_ | refine yd ?_ | (refine ye ?_; try simp only [z02]) | (refine yf ?_) | (refine yc ?_; try simp only [z01, z00]) | (refine yb ?_; simp (config := { maxSteps := 2000000 }) (disch := first | omega | rfl) only [sB, Nat.reduceEqDiff, ti, tj, gtn hgt, hw3, hw4]) | (refine yj (id := 18) [([(0, 0), (1, 0), (4, 0), (5, 0), (6, 0), (7, 0), (8, 0), (9, 0), (10, 0), (11, 0), (12, 0)], some 13), ([(2, 0), (3, 0), (14, 1)], some 15), ([], none)] ?_ ?_; kernel_rfl; simp (config := { maxSteps := 2000000 }) (disch := first | omega | rfl) only [sV, sD, sB, Nat.reduceEqDiff, Nat.reduceAdd, one, reduceCtorEq, ia27, ld37, st37, t0, ti, tj, l1, l2, hg2, le1, le3, isAlloc, isRead, reduceCtorEq]) | (refine yh ?_ ?_; simp (config := { maxSteps := 2000000 }) (disch := first | omega | rfl) only [sB, Nat.reduceEqDiff]; refine z03 ?_) | (refine yi ?_ ?_; simp (config := { maxSteps := 2000000 }) (disch := first | omega | rfl) only [sB, Nat.reduceEqDiff]; refine z03 ?_))
    exact ⟨j - 1 + 1 - (i + 1), by omega, _, _, i + 1, j - 1, swF i j D2, rfl, rfl, by omega, by omega, by omega, fun k q1 q2 => by
     rw [f3 a (by omega) (by omega)]
     by_cases q : k = i
     ·subst q; rw [f1]; omega
     ·rw [f3 k q (by omega)]; exact lo2 k q1 (by omega), fun k q1 q2 => by
     rw [f3 a (by omega) (by omega)]
     by_cases q : k = j
     ·subst q; rw [f2]; omega
     ·rw [f3 k (by omega) q]; exact hi2' k (by omega) q2, (by simp only [sG, reduceCtorEq, t0] <;> rfl), (by simp only [sG, Nat.reduceEqDiff, t1] <;> rfl), (by simp only [sG, Nat.reduceEqDiff, t4] <;> rfl), (by simp only [sG, Nat.reduceEqDiff] <;> rfl), (by simp only [sG, Nat.reduceEqDiff] <;> rfl), hsw _ (by rw [get_put, if_pos rfl]), hm.trans ms, hk4.two hbl2 _ _ _⟩
  ·exact ⟨_, _, i1, j1, D1, rfl, rfl, hi6, hj6, hj7, lo3, hi3', (by simp only [sG, reduceCtorEq, t0] <;> rfl), (by simp only [sG, Nat.reduceEqDiff, t1] <;> rfl), (by simp only [sG, Nat.reduceEqDiff, t4] <;> rfl), (by simp only [sG, Nat.reduceEqDiff] <;> rfl), (by simp only [sG, Nat.reduceEqDiff] <;> rfl), r5, mm, hk5⟩
 clear t0 t1 t4 ti tj
 rintro st ⟨tm, H6, i, j, D2, rfl, hi, hji, hje, lo4, hi4, t0, t1, t4, ti, tj, hr6, m6, hk6⟩
 obtain ⟨fa, fb⟩ := fin D2 i j hi hji hje lo4 hi4
 clear fin
 have k1 : j < n := by omega
 have k2 : a < n := by omega
 have l1 := hr6.load k1
 have l2 := hr6.load k2
 obtain ⟨cells, hg2, hl, he⟩ := hr6.row
 have hbl2 := hk6.wf _ _ hg2
 have le1 : j * 7 + 7 ≤ cells.length := by have := mul7 k1; omega
 have le2 : a * 7 + 7 ≤ cells.length := by have := mul7 k2; omega
 have hsw := fun H1 h2 => RowB.swap (H := H) (b := b) (T := 37) hl he k1 k2 H1 h2
 have ms := Pm.swap (a := a) (b := e) (i := j) (j := a) (D := D2) (by omega) (by omega) (by omega) (by omega)
 generalize hDD : swF j a D2 = D3 at *
 generalize hE1 : D2 j = E1 at hl he hsw l1 l2
 generalize hE2 : D2 a = E2 at hl he hsw l1 l2
 have le3 : a * 7 + 7 ≤ (Hb.splice cells (j * 7) E2.seven).length := by rw [z0c (vs := E2.seven) le1]; exact le2
 repeat' (first | refine ya ?_ | refine yg ?_ | refine yd ?_ | (refine ye ?_) | (refine yf ?_) | (refine yc ?_; try simp only [z01, z00]) | (refine yb ?_; simp (config := { maxSteps := 2000000 }) (disch := first | omega | rfl) only [sB, Nat.reduceEqDiff, tj]) | (refine yj (id := 21) [([(0, 0), (1, 0), (4, 0), (5, 0), (6, 0), (7, 0), (8, 0), (9, 0), (10, 0), (11, 0), (12, 0)], some 13), ([(2, 0), (3, 0), (14, 1)], some 15), ([], none)] ?_ ?_; kernel_rfl; simp (config := { maxSteps := 2000000 }) (disch := first | omega | rfl) only [sV, sD, sB, Nat.reduceEqDiff, Nat.reduceAdd, one, reduceCtorEq, ia27, ld37, st37, t0, t1, tj, l1, l2, hg2, le1, le3, isAlloc, isRead, reduceCtorEq]))
 exact z0j rfl (by simp only [sG, Nat.reduceEqDiff] <;> rfl) (by simp only [sB, Nat.reduceEqDiff] <;> rfl) ⟨j, _, D3, rfl, by omega, by omega, hsw _ (by rw [get_put, if_pos rfl]), m6.trans ms, fa, fb, hk6.two hbl2 _ _ _⟩
 end Go.Proofs.hq
end
