import Derived.Test.YtopekindmbjeoaaDoorM5
import Derived.Test.YtopekindmbjeoaaDoorM3
/- Lemmas on the program's own code, towards the laws of this folder, part 6. Conditions: as each lemma says. -/
section
namespace Go.Proofs.hq
open Go Go.RowKit Go.Hb
variable {ok : Ok}
set_option maxRecDepth 10000
attribute [local irreducible] LX LG EL STG SOP SGO SGD SAL SRD SEF SEG SLK SCK ES
def iOr (k : IntKind) (a b : Int) : Int := k.wrap (BitVec.ofInt k.bits a ||| BitVec.ofInt k.bits b).toNat
def iNot (a : Int) : Int := IntKind.u64.wrap (BitVec.ofInt IntKind.u64.bits IntKind.u64.max ^^^ BitVec.ofInt IntKind.u64.bits a).toNat
def keyF (n : Int) : Int := if 9223372036854775808 ≤ n then 18446744073709551615 - n else n + 9223372036854775808
def fltZ (a b : Int) : Int := cmpZ (keyF a) (keyF b)
def ordF (a b : Nat) : Option Ordering := FloatKind.f64.format.order a b
def fltO (a b : Nat) : Int := if ordF a b == some .lt then -1 else if ordF a b == some .gt then 1 else 0
end Go.Proofs.hq
end

section
namespace Go.Proofs.hq
open Go Go.RowKit Go.Hb
def expF (g : Nat) : Nat := g / 4503599627370496 - 1
def manF (g : Nat) : Nat := if g < 4503599627370496 then g else 4503599627370496 + g % 4503599627370496
def valF (g : Nat) : Nat := manF g * 2 ^ expF g
def svF (s : Bool) (x : Nat) : Int := if s then -(x : Int) else x
def sgnF (v : Nat) : Int := svF (v / 9223372036854775808 % 2 == 1) (valF (v % 9223372036854775808))
end Go.Proofs.hq
end

section
namespace Go.Proofs.hq
open Go Go.RowKit Go.Hb
mutual
def ordT : Tm → Tm → Int
 | .mk k s u b v l, .mk k' s' u' b' v' l' =>
  if k ≠ k' then cmpZ (rankZ k) (rankZ k')
  else if k = 1 then cmpZ v v'
  else if k = 3 then numZ u u'
  else if k = 4 then fltZ b b'
  else if orZ (cmpZ l.length l'.length) (cmpS s s') = 0 then ordL l l' else orZ (cmpZ l.length l'.length) (cmpS s s')
def ordL : List Tm → List Tm → Int
 | [], _ => 0
 | _ :: _, [] => 0
 | t :: l, t' :: l' => if ordT t t' = 0 then ordL l l' else ordT t t'
end
def headZ (t t' : Tm) : Int := orZ (cmpZ t.args.length t'.args.length) (cmpS t.name t'.name)
end Go.Proofs.hq
end

section
namespace Go.Proofs.hq
open Go Go.RowKit Go.Hb
def TT (x y z : Int) : Prop := (x ≤ 0 → y ≤ 0 → z ≤ 0) ∧ (0 ≤ x → 0 ≤ y → 0 ≤ z) ∧ (x < 0 → y ≤ 0 → z < 0) ∧ (x ≤ 0 → y < 0 → z < 0) ∧ (0 < x → 0 ≤ y → 0 < z) ∧ (0 ≤ x → 0 < y → 0 < z)
theorem TT.or {x1 y1 z1 x2 y2 z2 : Int} (h1 : TT x1 y1 z1) (h2 : x1 = 0 → y1 = 0 → TT x2 y2 z2) : TT (orZ x1 x2) (orZ y1 y2) (orZ z1 z2) := by
 unfold orZ TT at *
 by_cases a : x1 = 0 <;> by_cases b : y1 = 0
 ·have c : z1 = 0 := by omega
  simp only [a, b, c, if_true]
  exact h2 a b
 ·have c : z1 ≠ 0 := by omega
  simp only [a, b, c, if_true, if_false]
  omega
 ·have c : z1 ≠ 0 := by omega
  simp only [a, b, c, if_true, if_false]
  omega
 ·by_cases c : z1 = 0
  ·simp only [a, b, c, if_true, if_false]; omega
  ·simp only [a, b, c, if_false]; omega
theorem TT.neg {x y z : Int} (h : TT x y z) : TT (-x) (-y) (-z) := by unfold TT at *; omega
theorem TT.cmp (a b c : Int) : TT (cmpZ a b) (cmpZ b c) (cmpZ a c) := by
 unfold TT cmpZ
 by_cases h1 : a < b <;> by_cases h2 : b < a <;> by_cases h3 : b < c <;> by_cases h4 : c < b <;> by_cases h5 : a < c <;> by_cases h6 : c < a <;> simp only [h1, h2, h3, h4, h5, h6, if_true, if_false] <;> (refine ⟨?_, ?_, ?_, ?_, ?_, ?_⟩ <;> intros <;> omega)
theorem TT.zero : TT 0 0 0 := by unfold TT; omega
theorem z39 (a b : Int) : cmpZ b a = -(cmpZ a b) := by
 unfold cmpZ
 by_cases h1 : a < b <;> by_cases h2 : b < a <;> simp only [h1, h2, if_true, if_false] <;> omega
theorem z3a {a b : Int} : cmpZ a b = 0 ↔ a = b := by
 unfold cmpZ
 constructor
 ·intro h; split at h
  ·omega
  ·split at h <;> omega
 ·rintro rfl; simp
def cmpB (a b : List UInt8) : Int := if Op.bytesLess a b then -1 else if Op.bytesLess b a then 1 else 0
theorem z49 : cmpB [] [] = 0 := by simp [cmpB, Op.bytesLess]
theorem z3w {y : UInt8} {b : List UInt8} : cmpB [] (y :: b) = -1 := by simp [cmpB, Op.bytesLess]
theorem z3x {y : UInt8} {b : List UInt8} : cmpB (y :: b) [] = 1 := by simp [cmpB, Op.bytesLess]
theorem z3b {x y : UInt8} {a b : List UInt8} : cmpB (x :: a) (y :: b) = orZ (cmpZ x.toNat y.toNat) (cmpB a b) := by
 unfold cmpB
 simp only [Op.bytesLess]
 rcases Nat.lt_trichotomy x.toNat y.toNat with h | h | h
 ·have h1 : x < y := UInt8.lt_iff_toNat_lt.2 h
  have hc : cmpZ (x.toNat : Int) y.toNat = -1 := by unfold cmpZ; rw [if_pos (by omega)]
  rw [hc]
  simp [h1, orZ]
 ·obtain rfl : x = y := UInt8.toNat_inj.1 h
  have hc : cmpZ (x.toNat : Int) x.toNat = 0 := z3a.2 rfl
  rw [hc]
  simp [orZ]
 ·have h1 : y < x := UInt8.lt_iff_toNat_lt.2 h
  have h2 : ¬ x < y := fun q => by have := UInt8.lt_iff_toNat_lt.1 q; omega
  have h3 : x ≠ y := fun q => by rw [q] at h; omega
  have hc : cmpZ (x.toNat : Int) y.toNat = 1 := by unfold cmpZ; rw [if_neg (by omega), if_pos (by omega)]
  rw [hc]
  simp [h1, h2, h3, orZ]
theorem TT.bytes : ∀ (a b c : List UInt8), TT (cmpB a b) (cmpB b c) (cmpB a c)
 | [], [], [] => by rw [z49]; exact TT.zero
 | [], [], _ :: _ => by rw [z49, z3w]; unfold TT; omega
 | [], _ :: _, [] => by rw [z49, z3w, z3x]; unfold TT; omega
 | _ :: _, [], [] => by rw [z49, z3x]; unfold TT; omega
 | _ :: _, [], _ :: _ => by rw [z3w, z3x]; unfold TT; omega
 | [], _ :: _, _ :: _ => by rw [z3w, z3w]; unfold TT; omega
 | _ :: _, _ :: _, [] => by rw [z3x, z3x]; unfold TT; omega
 | x :: a, y :: b, z :: c => by
  rw [z3b, z3b, z3b]
  exact TT.or (TT.cmp _ _ _) fun _ _ => TT.bytes a b c
theorem zbn : ∀ (a b : List UInt8), cmpB b a = -(cmpB a b)
 | [], [] => by rw [z49]; rfl
 | [], _ :: _ => by rw [z3w, z3x]; rfl
 | _ :: _, [] => by rw [z3w, z3x]
 | x :: a, y :: b => by rw [z3b, z3b, z39 x.toNat y.toNat, zbn a b, zct]
theorem z7o : ∀ {a b : List UInt8}, cmpB a b = 0 ↔ a = b
 | [], [] => by rw [z49]; simp
 | [], _ :: _ => by rw [z3w]; simp
 | _ :: _, [] => by rw [z3x]; simp
 | x :: a, y :: b => by
  rw [z3b, z6f, z3a, z7o (a := a) (b := b), List.cons.injEq]
  constructor
  ·rintro ⟨h1, h2⟩; exact ⟨UInt8.toNat_inj.1 (by omega), h2⟩
  ·rintro ⟨h1, h2⟩; exact ⟨by rw [h1], h2⟩
theorem zbo (a b : ByteArray) : cmpS b a = -(cmpS a b) := zbn a.toList b.toList
theorem z7p {a b : ByteArray} : cmpS a b = 0 ↔ a = b :=
 ⟨fun h => z44 (z7o.1 h), fun h => by subst h; exact z7o.2 rfl⟩
theorem zi2 (a b : ByteArray) : numZ b a = -(numZ a b) := by
 have h : orZ (cmpZ (b.size : Int) a.size) (cmpS b a) = -(orZ (cmpZ (a.size : Int) b.size) (cmpS a b)) := by rw [z39 (a.size : Int), zbo a b, zct]
 unfold numZ
 rw [h]
 cases negS (bl a) <;> cases negS (bl b) <;> simp
theorem zi3 {a b : ByteArray} : numZ a b = 0 ↔ a = b := by
 constructor
 ·intro h
  have key : orZ (cmpZ (a.size : Int) b.size) (cmpS a b) = 0 := by
   revert h
   unfold numZ
   cases negS (bl a) <;> cases negS (bl b) <;> simp
  exact z7p.1 (z6f.1 key).2
 ·rintro rfl
  unfold numZ
  have h : orZ (cmpZ (a.size : Int) a.size) (cmpS a a) = 0 := z6f.2 ⟨z3a.2 rfl, z7p.2 rfl⟩
  rw [h]
  cases negS (bl a) <;> simp
theorem zi4 (a b : Int) : fltZ b a = -(fltZ a b) := z39 _ _
def restZ (t t' : Tm) : Int := if t.kind = 1 then cmpZ t.var t'.var else if t.kind = 3 then numZ t.num t'.num else if t.kind = 4 then fltZ t.bits t'.bits else orZ (headZ t t') (ordL t.args t'.args)
mutual
theorem zi5 : ∀ (t t' : Tm), ordT t' t = -(ordT t t')
 | .mk k s u b v l, .mk k' s' u' b' v' l' => by
  rw [ordT, ordT]
  by_cases hk : k = k'
  ·subst hk
   simp only [ne_eq, not_true_eq_false, if_false]
   split
   ·exact z39 _ _
   split
   ·exact zi2 _ _
   split
   ·exact zi4 _ _
   have h : orZ (cmpZ (l'.length : Int) l.length) (cmpS s' s) = -(orZ (cmpZ (l.length : Int) l'.length) (cmpS s s')) := by rw [z39 (l.length : Int), zbo s s', zct]
   rw [h, zbp l l']
   by_cases h0 : orZ (cmpZ (l.length : Int) l'.length) (cmpS s s') = 0
   ·rw [if_pos (by omega), if_pos h0]
   ·rw [if_neg (by omega), if_neg h0]
  ·rw [if_pos (fun h => hk h.symm), if_pos hk]
   exact z39 _ _
theorem zbp : ∀ (l l' : List Tm), ordL l' l = -(ordL l l')
 | [], [] => by simp [ordL]
 | [], _ :: _ => by simp [ordL]
 | _ :: _, [] => by simp [ordL]
 | t :: l, t' :: l' => by
  rw [ordL, ordL, zi5 t t', zbp l l']
  by_cases h0 : ordT t t' = 0
  ·rw [if_pos (by omega), if_pos h0]
  ·rw [if_neg (by omega), if_neg h0]
end
mutual
theorem zi6 : ∀ (t : Tm), ordT t t = 0
 | .mk k s u b v l => by
  rw [ordT, if_neg (fun h => h rfl)]
  split
  ·exact z3a.2 rfl
  split
  ·exact zi3.2 rfl
  split
  ·exact z3a.2 rfl
  rw [if_pos (z6f.2 ⟨z3a.2 rfl, z7p.2 rfl⟩)]
  exact zbq l
theorem zbq : ∀ (l : List Tm), ordL l l = 0
 | [] => by rw [ordL]
 | t :: l => by rw [ordL, if_pos (zi6 t)]; exact zbq l
end
inductive U64s : Tm → Prop
 | mk {t : Tm} : u64 t.bits → (∀ u ∈ t.args, U64s u) → U64s t
theorem U64s.bits {t : Tm} (h : U64s t) : u64 t.bits := by cases h; assumption
theorem U64s.args {t : Tm} (h : U64s t) : ∀ u ∈ t.args, U64s u := by cases h; assumption
theorem zfq (a b : ByteArray) : -1 ≤ numZ a b ∧ numZ a b ≤ 1 := by
 have := zbm (z38 a.size b.size) (z8m a b)
 unfold numZ
 split
 ·omega
 split
 ·omega
 split <;> omega
mutual
theorem zfr : ∀ (t t' : Tm), -1 ≤ ordT t t' ∧ ordT t t' ≤ 1
 | .mk k s u b v l, .mk k' s' u' b' v' l' => by
  rw [ordT]
  split
  ·exact z38 _ _
  split
  ·exact z38 _ _
  split
  ·exact zfq _ _
  split
  ·exact z38 _ _
  split
  ·exact z8n l l'
  ·exact zbm (z38 _ _) (z8m _ _)
theorem z8n : ∀ (l l' : List Tm), -1 ≤ ordL l l' ∧ ordL l l' ≤ 1
 | [], _ => by rw [ordL]; omega
 | _ :: _, [] => by rw [ordL]; omega
 | t :: l, t' :: l' => by
  rw [ordL]
  split
  ·exact z8n l l'
  ·exact zfr t t'
end
end Go.Proofs.hq
end

section
namespace Go.Proofs.hq
open Go Go.RowKit Go.Hb
variable {ok : Ok}
set_option maxRecDepth 10000
attribute [local irreducible] LX LG EL STG SOP SGO SGD SAL SRD SEF SEG SLK SCK ES
theorem RepL.one {H : Heap} {t : Tm} {cs : List Value} {b : Nat} {T : TypeId} (r : RepT H t cs) (g : H.get b = some (.row cs T)) : RepL H [t] (some ⟨b, 0, none⟩) 1 (fun _ => cs) := by
 have h1 := r.len
 refine RepL.of_row g (fun i hi => ?_) (fun i u hu => ?_) (Nat.le_refl _) (by simp [maxLen])
 ·match i, hi with
  | 0, _ => simp; exact List.take_of_length_le (by omega)
 ·match i, hu with
  | 0, hu => cases hu; exact r
def plain1 (t : Tm) : Tm := sub (fun n => varT (plcZ (uniq (occ t)) n)) t
def addN (σ : Int → Option Tm) (m : Nat) (n : Int) : Nat := match σ n with
 | some u => if m ≤ 4000 then m + cnt u 0 - 1 else m
 | none => m
def allS (σ : Int → Option Tm) (m : Nat) (l : List Int) : Nat := l.foldl (addN σ) m
theorem zmt {σ : Int → Option Tm} {m : Nat} {n : Int} (h : m ≤ 8001) : addN σ m n ≤ 8001 := by
 unfold addN
 split
 ·rename_i u _
  have := zhu u
  split <;> omega
 ·exact h
theorem zi7 {σ : Int → Option Tm} : ∀ {l : List Int} {m : Nat}, m ≤ 8001 → allS σ m l ≤ 8001
 | [], _, h => h
 | n :: l, m, h => by unfold allS; rw [List.foldl_cons]; exact zi7 (l := l) (zmt h)
theorem z7q {σ : Int → Option Tm} {l : List Int} {m : Nat} {n : Int} : allS σ m (l ++ [n]) = addN σ (allS σ m l) n := by unfold allS; rw [List.foldl_append]; rfl
def PutOk (t : Tm) (B : List (Int × Tm)) : Prop :=
 checkS t = 0 ∧ (∀ (i : Nat) (hi : i < B.length), 0 ≤ B[i].1 ∧ lookT (B.take i) B[i].1 = none ∧ checkS B[i].2 = 0) ∧ allS (lookT B) (cnt t 0) (occ t) ≤ 4000
set_option maxHeartbeats 2000000 in
theorem zk0 {H0 H : Heap} {B : List (Int × Tm)} {p r : Nat} {n : Int} (gp : H.get p = some (.row [.map (some r)] 99)) (hm : MapT H0 H r B) (hx0 : HX H0 H) (hw0 : H0.wf) :
  EvF Tryd.prog okT 71 [.int .i64 n, .pointer (some ⟨p, 0, none⟩)] H fun v H' => HX H H' ∧ ((∃ u cs, lookT B n = some u ∧ v = .tuple #[.agg ⟨cs⟩, .bool true] ∧ RepT H' u cs) ∨ (lookT B n = none ∧ v = .tuple #[.agg ⟨zero6⟩, .bool false])) := by
 have hw := hx0.wf
 refine EvF.enter rfl Tryd.func71 (by decide) rfl ?_
 have lp := hw _ _ gp
 (repeat refine EvC.seq ?_); refine EvC.reg ?_; simp (config := { maxSteps := 2000000 }) (disch := first | omega | rfl) only [sA, initTm, dAlloc, zr25]
 obtain ⟨H2, e2, hx2, g2, hn2, hw2⟩ := new1 hw (.row zero6 25)
 simp only [e2]
 clear e2
 have l2 := row1 (hx2.get hw gp)
 obtain ⟨M, hM, hMn⟩ := hm.keep hx2 hw
 rcases z9n (lookT B n) with ⟨u, hl⟩ | hl
 ·skip
  obtain ⟨cs, hg, hr⟩ := (hMn n).1 u hl
  obtain ⟨a1, c1, cells1, rfl, -⟩ := hr.six
  (repeat refine EvC.seq ?_); refine EvC.reg ?_; simp (config := { maxSteps := 2000000 }) (disch := first | omega | rfl) only [sB, dAlloc, Nat.reduceEqDiff, Nat.reduceAdd, one, reduceCtorEq, zr25, ld99, st25, l2, z2m, z9l zcv hM hg]
  obtain ⟨H3, e3, hx3, g3, hn3, hw3⟩ := z0w hw2 (.row zero6 25) (.row (six u a1 c1) 25)
  simp only [e3]
  clear e3
  have g23 := hx3.get hw2 g2
  have q3 := row6 g3
  repeat' (first | refine EvC.seq ?_ | refine EvC.scope ?_ | refine EvC.block ?_ | (refine EvC.skip ?_) | (refine EvC.exit ?_) | (refine EvC.ret ?_; try simp only [z01, z00]) | (refine EvC.reg ?_; simp (config := { maxSteps := 2000000 }) (disch := first | omega | rfl) only [sB, Nat.reduceEqDiff, Nat.reduceAdd, one, reduceCtorEq, st25, ld25, q3, g23]))
  have hx4 := (hx2.trans hx3).pt (Nat.le_refl _) g23 (some (.row (six u a1 c1) 25))
  exact z0b rfl (by simp only [sB, Nat.reduceEqDiff, reduceCtorEq] <;> rfl) (by simp only [sB, Nat.reduceAdd, cutC, ld25] <;> rfl) (by simp only [sG, Nat.reduceEqDiff, reduceCtorEq] <;> rfl) ⟨hx4, .inl ⟨u, _, hl, rfl, hr.mono (hx0.trans hx4) hw0⟩⟩
 ·skip
  have hg := (hMn n).2 hl
  (repeat refine EvC.seq ?_); refine EvC.reg ?_; simp (config := { maxSteps := 2000000 }) (disch := first | omega | rfl) only [sB, dAlloc, Nat.reduceEqDiff, Nat.reduceAdd, one, reduceCtorEq, zr25, ld99, st25, l2, z2m, z9m zcv hM hg]
  obtain ⟨H3, e3, hx3, g3, hn3, hw3⟩ := z0w hw2 (.row zero6 25) (.row zero6 25)
  simp only [e3]
  clear e3
  have g23 := hx3.get hw2 g2
  have q3 := row6 g3
  repeat' (first | refine EvC.seq ?_ | refine EvC.scope ?_ | refine EvC.block ?_ | (refine EvC.skip ?_) | (refine EvC.exit ?_) | (refine EvC.ret ?_; try simp only [z01, z00]) | (refine EvC.reg ?_; simp (config := { maxSteps := 2000000 }) (disch := first | omega | rfl) only [sB, Nat.reduceEqDiff, Nat.reduceAdd, one, reduceCtorEq, st25, ld25, q3, g23]))
  have hx4 := (hx2.trans hx3).pt (Nat.le_refl _) g23 (some (.row zero6 25))
  exact z0b rfl (by simp only [sB, Nat.reduceEqDiff, reduceCtorEq] <;> rfl) (by simp only [sB, Nat.reduceAdd, cutC, ld25] <;> rfl) (by simp only [sG, Nat.reduceEqDiff, reduceCtorEq] <;> rfl) ⟨hx4, .inr ⟨hl, rfl⟩⟩
set_option maxHeartbeats 4000000 in
theorem zmu {H0 H1 : Heap} {B : List (Int × Tm)} {p r q m : Nat} {tot : List Int} (gp : H1.get p = some (.row [.map (some r)] 99)) (hm : MapT H0 H1 r B) (hx0 : HX H0 H1) (hw0 : H0.wf) (hq : H1.next ≤ q) (hm8 : m ≤ 8001) :
  Each 70 #[.pointer (some ⟨p, 0, none⟩), .pointer (some ⟨q, 0, none⟩)] H1 tot fun S pre G => HX H1 G ∧ (∀ n, S n ↔ n = q) ∧ G.get q = some (.row [.int .i64 ((allS (lookT B) m pre : Nat) : Int)] 3) := by
 have hw1 := hx0.wf
 refine ⟨fun S pre H h => h.1, fun S pre H h n hn => ?_, fun S pre n H h _ => ?_, fun S pre H H' h hx => ⟨h.1.trans hx, h.2.1, hx.get h.1.wf h.2.2⟩⟩
 ·rw [(h.2.1 n).1 hn]; exact h.1.wf _ _ h.2.2
 obtain ⟨hx, hS, gq⟩ := h
 have hw := hx.wf
 have lq := hw _ _ gq
 have hall := zi7 (σ := lookT B) (l := pre) hm8
 refine EvF.enter rfl Tryd.func70 (by decide) rfl ?_
 have l2 := row1 (hx.get hw1 gp)
 obtain ⟨M, hM, hMn⟩ := hm.keep hx hw1
 rcases z9n (lookT B n) with ⟨u, hl⟩ | hl
 ·skip
  obtain ⟨cs, hg, hr⟩ := (hMn n).1 u hl
  obtain ⟨a1, c1, cells1, rfl, -⟩ := hr.six
  (repeat refine EvC.seq ?_); refine EvC.reg ?_; simp (config := { maxSteps := 2000000 }) (disch := first | omega | rfl) only [sB, initTm, dAlloc, Nat.reduceEqDiff, Nat.reduceAdd, one, reduceCtorEq, ld99, zr25, st25, l2, z2m, z9l zcv hM hg]
  obtain ⟨H3, e3, hx3, g3, hn3, hw3⟩ := z0w hw (.row zero6 25) (.row (six u a1 c1) 25)
  simp only [e3]
  clear e3
  have gq3 := hx3.get hw gq
  have lq3 := row1 gq3
  have q3 := row6 g3
  by_cases h4 : allS (lookT B) m pre ≤ 4000
  ·have hd : decide (((allS (lookT B) m pre : Nat) : Int) ≤ 4000) = true := decide_eq_true (by omega)
   (repeat refine EvC.seq ?_); refine EvC.reg ?_; simp (config := { maxSteps := 2000000 }) (disch := first | omega | rfl) only [sB, Nat.reduceEqDiff, reduceCtorEq, ld3, lq3, hd]
   (repeat refine EvC.seq ?_); refine EvC.condT (by simp (config := { maxSteps := 2000000 }) (disch := first | omega | rfl) only [sB, Nat.reduceEqDiff, reduceCtorEq]) ?_; (try refine EvC.skip ?_); (try simp only [z02, z03])
   repeat' (first | refine EvC.seq ?_ | refine EvC.scope ?_ | refine EvC.block ?_ | (refine EvC.skip ?_) | (refine EvC.exit ?_) | (refine EvC.ret ?_; try simp only [z01, z00]) | (refine EvC.drw [([(1, 0)], some 2), ([(0, 0), (3, 1), (4, 1)], some 5), ([], none)] ?_ ?_; kernel_rfl; simp (config := { maxSteps := 2000000 }) (disch := first | omega | rfl) only [sD, sB, Nat.reduceEqDiff, Nat.reduceAdd, reduceCtorEq, ld25, cl28, q3, isAlloc, isRead, reduceCtorEq]))
   have hb3 := hx3.bump 6
   refine (z3j u _ _ (hr.mono ((hx0.trans hx).trans hb3) hw0) hb3.wf).mono ?_
   rintro v H5 ⟨rfl, hx5⟩
   have gq5 := hx5.get hb3.wf (show Heap.get ⟨H3.next + 6, H3.t⟩ q = _ from gq3)
   have lq5 := row1 gq5
   have hc1 := zmn u
   have hc2 := zhu u
   have hw2 : IntKind.i64.wrap (((cnt u 0 : Nat) : Int) - 1) = ((cnt u 0 - 1 : Nat) : Int) := by rw [z0c (by omega) (by omega)]; omega
   have hw3 : IntKind.i64.wrap (((allS (lookT B) m pre : Nat) : Int) + ((cnt u 0 - 1 : Nat) : Int)) = ((addN (lookT B) (allS (lookT B) m pre) n : Nat) : Int) := by
    unfold addN; simp only [hl, if_pos h4]; rw [z0c (by omega) (by omega)]; omega
   repeat' (first | refine EvC.seq ?_ | refine EvC.scope ?_ | refine EvC.block ?_ | (refine EvC.skip ?_) | (refine EvC.exit ?_) | (refine EvC.ret ?_; try simp only [z01, z00]) | (refine z1b ?_; simp (config := { maxSteps := 2000000 }) (disch := first | omega | rfl) only [sD, sB, Nat.reduceEqDiff, one, reduceCtorEq, ld3, st3, lq3, lq5, gq5, hw2, hw3, isAlloc, isRead, reduceCtorEq, zgw]))
   have hxx := hb3.trans hx5
   refine z1n rfl ⟨fun n => n = q, ⟨(hx.trans hxx).then ((HK.refl (S := fun n => n = q) hxx.wf).put (.inl rfl) (Nat.lt_of_lt_of_le lq hxx.next) _) (by intro k hk e; have e' : k = q := e; omega), fun n => Iff.rfl, by rw [get_put, if_pos rfl, z7q]⟩, ?_, fun k hk => .inl ((hS k).2 hk)⟩
   exact ((hxx.hk S)).put (.inl ((hS q).2 rfl)) (Nat.lt_of_lt_of_le lq hxx.next) _
  ·have hd : decide (((allS (lookT B) m pre : Nat) : Int) ≤ 4000) = false := decide_eq_false (by omega)
   repeat' (first | refine EvC.seq ?_ | refine EvC.scope ?_ | refine EvC.block ?_ | (refine EvC.skip ?_) | (refine EvC.exit ?_) | (refine EvC.ret ?_; try simp only [z01, z00]) | (refine EvC.reg ?_; simp (config := { maxSteps := 2000000 }) (disch := first | omega | rfl) only [sB, Nat.reduceEqDiff, reduceCtorEq, ld3, lq3, hd]) | (refine EvC.condT ?_ ?_; simp (config := { maxSteps := 2000000 }) (disch := first | omega | rfl) only [sB, Nat.reduceEqDiff, reduceCtorEq]; refine z06 ?_) | (refine EvC.condF ?_ ?_; simp (config := { maxSteps := 2000000 }) (disch := first | omega | rfl) only [sB, Nat.reduceEqDiff, reduceCtorEq]; refine z06 ?_))
   refine z1n rfl ⟨S, ⟨hx.trans hx3, hS, ?_⟩, hx3.hk _, fun n hn => .inl hn⟩
   rw [z7q]; unfold addN; simp only [hl, if_neg h4]; exact gq3
 ·skip
  have hg := (hMn n).2 hl
  (repeat refine EvC.seq ?_); refine EvC.reg ?_; simp (config := { maxSteps := 2000000 }) (disch := first | omega | rfl) only [sB, initTm, dAlloc, Nat.reduceEqDiff, Nat.reduceAdd, one, reduceCtorEq, ld99, zr25, st25, l2, z2m, z9m zcv hM hg]
  obtain ⟨H3, e3, hx3, g3, hn3, hw3⟩ := z0w hw (.row zero6 25) (.row zero6 25)
  simp only [e3]
  clear e3
  have gq3 := hx3.get hw gq
  repeat' (first | refine EvC.seq ?_ | refine EvC.scope ?_ | refine EvC.block ?_ | (refine EvC.skip ?_) | (refine EvC.exit ?_) | (refine EvC.ret ?_; try simp only [z01, z00]) | (refine EvC.reg ?_; simp (config := { maxSteps := 2000000 }) (disch := first | omega | rfl) only [sB, Nat.reduceEqDiff, reduceCtorEq, Bool.false_eq_true]) | (refine EvC.condT ?_ ?_; simp (config := { maxSteps := 2000000 }) (disch := first | omega | rfl) only [sB, Nat.reduceEqDiff, reduceCtorEq]; refine z06 ?_) | (refine EvC.condF ?_ ?_; simp (config := { maxSteps := 2000000 }) (disch := first | omega | rfl) only [sB, Nat.reduceEqDiff, reduceCtorEq]; refine z06 ?_))
  refine z1n rfl ⟨S, ⟨hx.trans hx3, hS, ?_⟩, hx3.hk _, fun n hn => .inl hn⟩
  rw [z7q]; unfold addN; simp only [hl]; exact gq3
theorem zo6 {H0 H1 : Heap} {B : List (Int × Tm)} {p r : Nat} (gp : H1.get p = some (.row [.map (some r)] 99)) (hm : MapT H0 H1 r B) (hx0 : HX H0 H1) (hw0 : H0.wf) (hf : ∀ n u, lookT B n = some u → Fine u) :
  ByOpt 71 #[.pointer (some ⟨p, 0, none⟩)] (lookT B) fun G => HX H1 G :=
 ⟨fun n G _ hj hw => zk0 (hj.get hx0.wf gp) (hm.keep hj hx0.wf) (hx0.trans hj) hw0, fun G G' hj hx => hj.trans hx, hf⟩
abbrev zero7 : List Value := .int .i64 0 :: zero6
theorem row7 {H : Heap} {p : Nat} {T : TypeId} {x0 x1 x2 x3 x4 x5 x6 : Value} (h : H.get p = some (Blk.row [x0, x1, x2, x3, x4, x5, x6] T)) :
  H.load ⟨p, 0, none⟩ 1 = some [x0] ∧ H.load ⟨p, 1, none⟩ 6 = some [x1, x2, x3, x4, x5, x6] ∧ H.load ⟨p, 0, none⟩ 7 = some [x0, x1, x2, x3, x4, x5, x6] := by
 refine ⟨?_, ?_, ?_⟩ <;> simp only [Heap.load, Heap.cells, h] <;> rfl
theorem zmv {B : List (Int × Tm)} {i : Nat} (h : i < B.length) : B.take (i + 1) = B.take i ++ [(B[i].1, B[i].2)] := by rw [← List.take_append_getElem h]
set_option maxHeartbeats 16000000 in
theorem zo7 {t : Tm} {cs : List Value} {B : List (Int × Tm)} {a : Option Addr} {c : Nat} {H : Heap} (r0 : RepT H t cs) (rb : RepB7 H B a c) (hw : H.wf) :
  EvF Tryd.prog okT 61 [.agg ⟨cs⟩, .slice a B.length c] H fun v H' => HX H H' ∧
   ((PutOk t B ∧ ∃ out, v = .tuple ⟨[.agg ⟨out⟩, .int .i64 0]⟩ ∧ RepS H' (Rg H.next H'.next) (subO (lookT B) t) out ∧ TopR H' 25 (Rg H.next H'.next) (subO (lookT B) t) out) ∨ (¬ PutOk t B ∧ ∃ e : Int, v = .tuple ⟨[.agg ⟨zero6⟩, .int .i64 e]⟩ ∧ e ≠ 0)) := by
 have hmx : B.length ≤ 9223372036854775807 := Nat.le_trans rb.len rb.cap
 obtain ⟨at_, ct, cellst, rfl, -, -, -, -, -, rlt⟩ := r0.six
 refine EvF.enter rfl Tryd.func61 (by decide) rfl ?_
 (repeat refine EvC.seq ?_); refine EvC.reg ?_; simp (config := { maxSteps := 2000000 }) (disch := first | omega | rfl) only [sB, initTm, dBox, dAlloc, Value.cells, one, reduceCtorEq, zr25]
 obtain ⟨A2, e2, hx2, gt, g4, hn2, hw2⟩ := new2 hw (.row (six t at_ ct) 25) (.row zero6 25)
 simp only [e2]
 clear e2
 (repeat refine EvC.seq ?_); refine EvC.reg ?_; simp (config := { maxSteps := 2000000 }) (disch := first | omega | rfl) only [sA, dAlloc, zr25]
 obtain ⟨A3, e3, hx3, g6, hn3, hw3⟩ := new1 hw2 (.row zero6 25)
 simp only [e3]
 clear e3
 have gt := hx3.get hw2 gt
 have g4 := hx3.get hw2 g4
 have hx := hx2.trans hx3
 rw [hn2] at g6 hn3
 have qt := row6 gt
 repeat' (first | refine EvC.seq ?_ | refine EvC.scope ?_ | refine EvC.block ?_ | (refine EvC.skip ?_) | (refine EvC.exit ?_) | (refine EvC.ret ?_; try simp only [z01, z00]) | (refine EvC.reg ?_; simp (config := { maxSteps := 2000000 }) (disch := first | omega | rfl) only [sB, Nat.reduceEqDiff, reduceCtorEq, ld25, cl24, qt]))
 refine (z4p t _ _ (r0.mono hx hw) hx.wf).mono ?_
 rintro v A4 ⟨rfl, k4⟩
 have gt := k4.get hx.wf gt
 have g4 := k4.get hx.wf g4
 have g6 := k4.get hx.wf g6
 have hx := hx.trans k4
 have n4 := k4.next
 have q6 := row6 g6
 have ne46 : (H.next + 1 = H.next + 2) = False := by simp
 by_cases h0 : checkS t = 0
 rotate_left
 ·rw [hn2] at *
  repeat' (first | refine EvC.seq ?_ | refine EvC.scope ?_ | refine EvC.block ?_ | (refine EvC.skip ?_) | (refine EvC.exit ?_) | (refine EvC.ret ?_; try simp only [z01, z00]) | (refine EvC.reg ?_; simp (config := { maxSteps := 2000000 }) (disch := first | omega | rfl) only [sB, Nat.reduceEqDiff, Nat.reduceAdd, one, reduceCtorEq, ld25, st25, z3o h0, q6, g4]) | (refine EvC.condT ?_ ?_; simp (config := { maxSteps := 2000000 }) (disch := first | omega | rfl) only [sB, Nat.reduceEqDiff, reduceCtorEq]; refine z06 ?_))
  refine z0b rfl (by simp only [sB, Nat.reduceEqDiff, reduceCtorEq] <;> rfl) (by simp only [sB, Nat.reduceAdd, cutC, ld25] <;> rfl) (by simp only [sG, Nat.reduceEqDiff, reduceCtorEq] <;> rfl) ⟨hx.pt (by omega) g4 _, .inr ⟨fun h => h0 h.1, _, rfl, h0⟩⟩
 rw [hn2] at *
 repeat' (first | refine EvC.seq ?_ | refine EvC.scope ?_ | refine EvC.block ?_ | (refine EvC.skip ?_; try simp only [z02]) | (refine EvC.exit ?_) | (refine EvC.ret ?_; try simp only [z01, z00]) | (refine EvC.reg ?_; simp (config := { maxSteps := 2000000 }) (disch := first | omega | rfl) only [sB, dAlloc, Nat.reduceEqDiff, one, reduceCtorEq, zr99, st99, ln98, z2g h0, zcu]) | (refine EvC.condT ?_ ?_; simp (config := { maxSteps := 2000000 }) (disch := first | omega | rfl) only [sB, Nat.reduceEqDiff, reduceCtorEq]; refine z06 ?_) | (refine EvC.condF ?_ ?_; simp (config := { maxSteps := 2000000 }) (disch := first | omega | rfl) only [sB, Nat.reduceEqDiff, reduceCtorEq]; refine z06 ?_))
 obtain ⟨A5, e5, k5, gr, n5, w5⟩ := new1 hx.wf (.map [] 0)
 obtain ⟨A6, e6, k6, gp, n6, w6⟩ := z0w w5 (.row [.map none] 99) (.row [.map (some A4.next)] 99)
 rw [n5] at e6 gp
 simp only [e5, e6]
 have gr := k6.get w5 gr
 have k56 := k5.trans k6
 have gt := k56.get hx.wf gt
 have g4 := k56.get hx.wf g4
 have g6 := k56.get hx.wf g6
 have hr4 := hx.next
 have hx := hx.trans k56
 clear e5 e6 k5 k6 k56
 have hpr : A4.next + 1 ≠ A4.next := by omega
 have hm0 : MapT H A6 A4.next (B.take 0) := ⟨[], ⟨[], 0, gr, rfl⟩, fun n => ⟨fun u hu => by simp [lookT] at hu, fun _ => rfl⟩⟩
 have hr5 : H.next + 3 ≤ A4.next := by omega
 have hp5 : H.next + 3 ≤ A4.next + 1 := by omega
 generalize A4.next + 1 = p at *
 generalize A4.next = r at *
 clear n4 n5 n6 gr hr4 hn3 hn2 k4 qt q6 hx2 hx3 hw2 hw3 w5
 refine EvC.loop (fun k st => ∃ tm H' i, st = ⟨tm, [], H'⟩ ∧ k = B.length - i ∧ i ≤ B.length ∧ tm.get 2 = some (.pointer (some ⟨H.next, 0, none⟩)) ∧ tm.get 4 = some (.pointer (some ⟨H.next + 1, 0, none⟩)) ∧ tm.get 6 = some (.pointer (some ⟨H.next + 2, 0, none⟩)) ∧ tm.get 8 = some (.pointer (some ⟨p, 0, none⟩)) ∧
  tm.get 22 = some (.slice a B.length c) ∧ tm.get 23 = some (.int .i64 B.length) ∧ tm.get 24 = some (.int .i64 (i : Nat)) ∧ H'.get H.next = some (.row (six t at_ ct) 25) ∧ H'.get (H.next + 1) = some (.row zero6 25) ∧ H'.get (H.next + 2) = some (.row zero6 25) ∧
  H'.get p = some (.row [.map (some r)] 99) ∧ MapT H H' r (B.take i) ∧ (∀ (j : Nat) (hj : j < B.length), j < i → 0 ≤ B[j].1 ∧ lookT (B.take j) B[j].1 = none ∧ checkS B[j].2 = 0) ∧ HX H H') ?_ B.length _ ?_
 rotate_left
 ·exact ⟨_, _, 0, rfl, rfl, Nat.zero_le _, (by simp only [sG, Nat.reduceEqDiff, reduceCtorEq] <;> rfl), (by simp only [sG, Nat.reduceEqDiff, reduceCtorEq] <;> rfl), (by simp only [sG, Nat.reduceEqDiff, reduceCtorEq] <;> rfl), (by simp only [sG, Nat.reduceEqDiff, reduceCtorEq] <;> rfl), (by simp only [sG, Nat.reduceEqDiff, reduceCtorEq] <;> rfl), (by simp only [sG, Nat.reduceEqDiff, reduceCtorEq] <;> rfl), (by simp only [sB, Nat.reduceEqDiff, reduceCtorEq] <;> rfl), gt, g4, g6, gp, hm0, fun j hj h => by omega, hx⟩
 clear gt g4 g6 gp hm0 hx w6
 rintro k st ⟨tm, A, i, rfl, rfl, hi, t2, t4, t6, t8, t22, t23, t24, gt, g4, g6, gp, hm, hok, hx⟩
 have hwA := hx.wf
 have q6 := row6 g6
 have qt := row6 gt
 by_cases hlt : i < B.length
 ·obtain ⟨b, o, a1, c1, rfl, hld, hrb⟩ := rb.el i hlt
  have hld := hx.load hw hld
  (repeat refine EvC.seq ?_); refine EvC.reg ?_; simp (config := { maxSteps := 2000000 }) (disch := first | omega | rfl) only [sA, t23, t24, decl hlt]
  (repeat refine EvC.seq ?_); refine EvC.condT (by simp (config := { maxSteps := 2000000 }) (disch := first | omega | rfl) only [sB]) ?_; (try refine EvC.skip ?_); (try simp only [z02, z03])
  refine EvC.seq ?_
  refine EvC.block ?_
  (repeat refine EvC.seq ?_); refine EvC.reg ?_; simp (config := { maxSteps := 2000000 }) (disch := first | omega | rfl) only [sB, dAlloc, Nat.reduceEqDiff, Nat.reduceAdd, one, ia98, zoj, zok, zol, t22, t24, hld]
  obtain ⟨A1, e1, k1, g10, n1, w1⟩ := z0w hwA (.row zero7 101) (.row (seven B[i].1 B[i].2 a1 c1) 101)
  simp only [e1]
  clear e1
  have q10 := row7 g10
  have lp := row1 (k1.get hwA gp)
  obtain ⟨M, hM, hMn⟩ := hm.keep k1 hwA
  have gt1 := k1.get hwA gt
  have g41 := k1.get hwA g4
  have g61 := k1.get hwA g6
  have gp1 := k1.get hwA gp
  rcases z9n (lookT (B.take i) B[i].1) with ⟨u, hl⟩ | hl
  ·skip
   obtain ⟨csu, hg, hru⟩ := (hMn B[i].1).1 u hl
   obtain ⟨a2, c2, cells2, rfl, -⟩ := hru.six
   (repeat refine EvC.seq ?_); refine EvC.reg ?_; simp (config := { maxSteps := 2000000 }) (disch := first | omega | rfl) only [sB, dAlloc, Nat.reduceEqDiff, Nat.reduceAdd, one, zr25, st25, ld99, z7d, ld3, t8, lp, q10, z2m, z9l zcv hM hg]
   obtain ⟨A3, e3, k3, g3, n3, w3⟩ := z0w w1 (.row zero6 25) (.row (six u a2 c2) 25)
   simp only [e3]
   clear e3
   have g43 := k3.get w1 g41
   have q63 := row6 (k3.get w1 g61)
   repeat' (first | refine EvC.seq ?_ | refine EvC.scope ?_ | refine EvC.block ?_ | (refine EvC.skip ?_) | (refine EvC.exit ?_) | (refine EvC.ret ?_; try simp only [z01, z00]) | (refine EvC.reg ?_; simp (config := { maxSteps := 2000000 }) (disch := first | omega | rfl) only [sB, Nat.reduceEqDiff, Nat.reduceAdd, one, ld25, st25, t4, t6, q63, g43]) | (refine EvC.condT ?_ ?_; simp (config := { maxSteps := 2000000 }) (disch := first | omega | rfl) only [sB, Nat.reduceEqDiff]; refine z06 ?_))
   refine z0b rfl (by simp only [sB, Nat.reduceEqDiff, t4] <;> rfl) (by simp only [sB, Nat.reduceAdd, cutC, ld25] <;> rfl) (by simp only [sB, Nat.reduceEqDiff] <;> rfl) ⟨((hx.trans k1).trans k3).pt (by omega) g43 _, .inr ⟨fun h => ?_, _, rfl, by decide⟩⟩
   have := (h.2.1 i hlt).2.1
   rw [hl] at this; cases this
  ·skip
   have hg := (hMn B[i].1).2 hl
   (repeat refine EvC.seq ?_); refine EvC.reg ?_; simp (config := { maxSteps := 2000000 }) (disch := first | omega | rfl) only [sB, dAlloc, Nat.reduceEqDiff, Nat.reduceAdd, one, zr25, st25, ld99, z7d, ld3, t8, lp, q10, z2m, z9m zcv hM hg]
   obtain ⟨A3, e3, k3, g3, n3, w3⟩ := z0w w1 (.row zero6 25) (.row zero6 25)
   simp only [e3]
   clear e3
   have g103 := k3.get w1 g10
   have q103 := row7 g103
   have g43 := k3.get w1 g41
   have g63 := k3.get w1 g61
   have q63 := row6 g63
   have hx3 := (hx.trans k1).trans k3
   by_cases hneg : B[i].1 < 0
   ·repeat' (first | refine EvC.seq ?_ | refine EvC.scope ?_ | refine EvC.block ?_ | (refine EvC.skip ?_) | (refine EvC.exit ?_) | (refine EvC.ret ?_; try simp only [z01, z00]) | (refine EvC.reg ?_; simp (config := { maxSteps := 2000000 }) (disch := first | omega | rfl) only [sB, Nat.reduceEqDiff, Nat.reduceAdd, one, ld25, st25, z7d, ld3, t4, t6, q103, decide_eq_true hneg, q63, g43, Bool.false_eq_true]) | (refine EvC.condT ?_ ?_; simp (config := { maxSteps := 2000000 }) (disch := first | omega | rfl) only [sB, Nat.reduceEqDiff]; refine z06 ?_))
    refine z0b rfl (by simp only [sB, Nat.reduceEqDiff, t4] <;> rfl) (by simp only [sB, Nat.reduceAdd, cutC, ld25] <;> rfl) (by simp only [sB, Nat.reduceEqDiff] <;> rfl) ⟨hx3.pt (by omega) g43 _, .inr ⟨fun h => ?_, _, rfl, by decide⟩⟩
    have := (h.2.1 i hlt).1
    omega
   repeat' (first | refine EvC.seq ?_ | refine EvC.scope ?_ | refine EvC.block ?_ | (refine EvC.skip ?_; try simp only [z02]) | (refine EvC.exit ?_) | (refine EvC.ret ?_; try simp only [z01, z00]) | (refine EvC.reg ?_; simp (config := { maxSteps := 2000000 }) (disch := first | omega | rfl) only [sB, Nat.reduceEqDiff, ld25, cl24, z7d, ld3, zh2, q103, decide_eq_false hneg, Bool.false_eq_true]) | (refine EvC.condT ?_ ?_; simp (config := { maxSteps := 2000000 }) (disch := first | omega | rfl) only [sB, Nat.reduceEqDiff]; refine z06 ?_) | (refine EvC.condF ?_ ?_; simp (config := { maxSteps := 2000000 }) (disch := first | omega | rfl) only [sB, Nat.reduceEqDiff]; refine z06 ?_))
   refine (z4p _ _ _ (hrb.mono hx3 hw) hx3.wf).mono ?_
   rintro v A5 ⟨rfl, k5⟩
   have g105 := k5.get hx3.wf g103
   have q105 := row7 g105
   have g45 := k5.get hx3.wf g43
   have g65 := k5.get hx3.wf g63
   have q65 := row6 g65
   have hx5 := hx3.trans k5
   have k15 := (k1.trans k3).trans k5
   by_cases hc : checkS B[i].2 = 0
   rotate_left
   ·repeat' (first | refine EvC.seq ?_ | refine EvC.scope ?_ | refine EvC.block ?_ | (refine EvC.skip ?_) | (refine EvC.exit ?_) | (refine EvC.ret ?_; try simp only [z01, z00]) | (refine EvC.reg ?_; simp (config := { maxSteps := 2000000 }) (disch := first | omega | rfl) only [sB, Nat.reduceEqDiff, Nat.reduceAdd, one, ld25, st25, t4, t6, z3o hc, q65, g45]) | (refine EvC.condT ?_ ?_; simp (config := { maxSteps := 2000000 }) (disch := first | omega | rfl) only [sB, Nat.reduceEqDiff]; refine z06 ?_))
    refine z0b rfl (by simp only [sB, Nat.reduceEqDiff, t4] <;> rfl) (by simp only [sB, Nat.reduceAdd, cutC, ld25] <;> rfl) (by simp only [sG, Nat.reduceEqDiff] <;> rfl) ⟨hx5.pt (by omega) g45 _, .inr ⟨fun h => hc (h.2.1 i hlt).2.2, _, rfl, hc⟩⟩
   have gp5 := k15.get hwA gp
   have lp5 := row1 gp5
   obtain ⟨K, hup, hm6⟩ := (hm.keep k15 hwA).push zcv hl hrb
   have hrl := hm.lt hwA
   have hrl5 : r < A5.next := Nat.lt_of_lt_of_le hrl k15.next
   repeat' (first | refine EvC.seq ?_ | refine EvC.scope ?_ | refine EvC.block ?_ | (refine EvC.skip ?_; try simp only [z02]) | (refine EvC.exit ?_) | (refine EvC.ret ?_; try simp only [z01, z00]) | (refine EvC.reg ?_; simp (config := { maxSteps := 2000000 }) (disch := first | omega | rfl) only [sB, Nat.reduceEqDiff, ld25, ld99, z7d, ld3, zh2, t8, t24, z2g hc, lp5, q105, z9k, hup, z0c]) | (refine EvC.condT ?_ ?_; simp (config := { maxSteps := 2000000 }) (disch := first | omega | rfl) only [sB, Nat.reduceEqDiff]; refine z06 ?_) | (refine EvC.condF ?_ ?_; simp (config := { maxSteps := 2000000 }) (disch := first | omega | rfl) only [sB, Nat.reduceEqDiff]; refine z06 ?_))
   have gt5 := k15.get hwA gt
   exact ⟨B.length - (i + 1), by omega, _, _, i + 1, rfl, rfl, by omega, (by simp only [sG, Nat.reduceEqDiff, t2] <;> rfl), (by simp only [sG, Nat.reduceEqDiff, t4] <;> rfl), (by simp only [sG, Nat.reduceEqDiff, t6] <;> rfl), (by simp only [sG, Nat.reduceEqDiff, t8] <;> rfl), (by simp only [sG, Nat.reduceEqDiff, t22] <;> rfl), (by simp only [sG, Nat.reduceEqDiff, t23] <;> rfl), (by simp only [sB, Nat.reduceEqDiff] <;> rfl), by rw [get_put, if_neg (by omega)]; exact gt5, by rw [get_put, if_neg (by omega)]; exact g45, by rw [get_put, if_neg (by omega)]; exact g65,
    by rw [get_put, if_neg hpr]; exact gp5, by rw [zmv hlt]; exact hm6, fun j hj hji => by
     by_cases e : j = i
     ·subst e; exact ⟨by omega, hl, hc⟩
     ·exact hok j hj (by omega), hx5.put (by omega) hrl5 _⟩
 ·obtain rfl : i = B.length := by omega
  rw [List.take_length] at hm
  have hfine : ∀ n u, lookT B n = some u → Fine u := fun n u hu => by
   obtain ⟨j, hj, e⟩ := List.getElem_of_mem (zhz hu)
   have := (hok j hj hj).2.2
   rw [e] at this
   exact (z0y.1 this).2
  have hft := (z0y.1 h0)
  repeat' (first | refine EvC.seq ?_ | refine EvC.scope ?_ | refine EvC.block ?_ | (refine EvC.skip ?_) | (refine EvC.exit ?_; try simp only [sB]) | (refine EvC.ret ?_; try simp only [z01, z00]) | (refine EvC.reg ?_; simp (config := { maxSteps := 2000000 }) (disch := first | omega | rfl) only [sB, dAlloc, Nat.reduceEqDiff, ld25, cl28, zr3, t2, t23, t24, decn hlt, qt]) | (refine EvC.condT ?_ ?_; simp (config := { maxSteps := 2000000 }) (disch := first | omega | rfl) only [sB]; refine z06 ?_) | (refine EvC.condF ?_ ?_; simp (config := { maxSteps := 2000000 }) (disch := first | omega | rfl) only [sB]; refine z06 ?_))
  refine (z3j t _ _ (r0.mono hx hw) hx.wf).mono ?_
  rintro v A1 ⟨rfl, k1⟩
  have gt1 := k1.get hwA gt
  have g41 := k1.get hwA g4
  have g61 := k1.get hwA g6
  have gp1 := k1.get hwA gp
  have hm1 := hm.keep k1 hwA
  have hx1 := hx.trans k1
  try simp (config := { maxSteps := 2000000 }) (disch := first | omega | rfl) only [sB, one, st3]
  obtain ⟨A2, e2, k2, gq, n2, w2⟩ := z0w hx1.wf (.row [.int .i64 0] 3) (.row [.int .i64 ((cnt t 0 : Nat) : Int)] 3)
  simp only [e2]
  clear e2
  have qt2 := row6 (k2.get hx1.wf gt1)
  (repeat refine EvC.seq ?_); refine EvC.reg ?_; simp (config := { maxSteps := 2000000 }) (disch := first | omega | rfl) only [sB, Nat.reduceEqDiff, ld25, cl69, t2, t8, qt2, List.map_toArray]
  have E := zmu (tot := occ t) (m := cnt t 0) gp1 hm1 hx1 hw (Nat.le_refl _) (by omega)
  refine (zmr hx1.wf (by kernel_rfl) E _ (Nat.lt_succ_self _) (r0.mono hx1 hw) (S := fun n => n = A1.next) (pre := []) ⟨k2, fun n => Iff.rfl, gq⟩ (by rw [List.nil_append]; exact List.prefix_refl _)).mono ?_
  rintro v A3 ⟨S3, ⟨k3, hS3, gq3⟩, -, -⟩
  rw [List.nil_append] at gq3
  have gt3 := k3.get hx1.wf gt1
  have g43 := k3.get hx1.wf g41
  have g63 := k3.get hx1.wf g61
  have q63 := row6 g63
  have qt3 := row6 gt3
  have lq3 := row1 gq3
  have hx3 := hx1.trans k3
  by_cases h4 : 4000 < allS (lookT B) (cnt t 0) (occ t)
  ·have hd : decide (((allS (lookT B) (cnt t 0) (occ t) : Nat) : Int) > 4000) = true := decide_eq_true (by omega)
   repeat' (first | refine EvC.seq ?_ | refine EvC.scope ?_ | refine EvC.block ?_ | (refine EvC.skip ?_) | (refine EvC.exit ?_) | (refine EvC.ret ?_; try simp only [z01, z00]) | (refine EvC.reg ?_; simp (config := { maxSteps := 2000000 }) (disch := first | omega | rfl) only [sB, Nat.reduceEqDiff, Nat.reduceAdd, one, ld25, st25, ld3, t4, t6, lq3, hd, q63, g43]) | (refine EvC.condT ?_ ?_; simp (config := { maxSteps := 2000000 }) (disch := first | omega | rfl) only [sB, Nat.reduceEqDiff]; refine z06 ?_))
   refine z0b rfl (by simp only [sB, Nat.reduceEqDiff, t4] <;> rfl) (by simp only [sB, Nat.reduceAdd, cutC, ld25] <;> rfl) (by simp only [sB, Nat.reduceEqDiff] <;> rfl) ⟨hx3.pt (by omega) g43 _, .inr ⟨fun h => ?_, _, rfl, by decide⟩⟩
   have := h.2.2
   omega
  ·have hd : decide (((allS (lookT B) (cnt t 0) (occ t) : Nat) : Int) > 4000) = false := decide_eq_false (by omega)
   repeat' (first | refine EvC.seq ?_ | refine EvC.scope ?_ | refine EvC.block ?_ | (refine EvC.skip ?_; try simp only [z02]) | (refine EvC.exit ?_) | (refine EvC.ret ?_; try simp only [z01, z00]) | (refine EvC.reg ?_; simp (config := { maxSteps := 2000000 }) (disch := first | omega | rfl) only [sB, Nat.reduceEqDiff, ld25, ld3, cl64, t2, t8, lq3, hd, qt3, List.map_toArray]) | (refine EvC.condT ?_ ?_; simp (config := { maxSteps := 2000000 }) (disch := first | omega | rfl) only [sB, Nat.reduceEqDiff]; refine z06 ?_) | (refine EvC.condF ?_ ?_; simp (config := { maxSteps := 2000000 }) (disch := first | omega | rfl) only [sB, Nat.reduceEqDiff]; refine z06 ?_))
   refine (zfp (by kernel_rfl) (zo6 gp1 hm1 hx1 hw hfine) (Nat.lt_succ_self _) (r0.mono hx3 hw) hft.2 k3 hx3.wf).mono ?_
   rintro v A5 ⟨out, rfl, hrep, htop, k5⟩
   have g45 := k5.get hx3.wf g43
   obtain ⟨a5, c5, cells5, rfl, -⟩ := hrep.rep.six
   repeat' (first | refine EvC.seq ?_ | refine EvC.scope ?_ | refine EvC.block ?_ | (refine EvC.skip ?_) | (refine EvC.exit ?_) | (refine EvC.ret ?_; try simp only [z01, z00]) | (refine z0i ?_; simp (config := { maxSteps := 2000000 }) (disch := first | omega | rfl) only [sB, Nat.reduceAdd, one, st25, t4, g45]))
   refine z0b rfl (by simp only [sB, Nat.reduceEqDiff, t4] <;> rfl) (by simp only [sB, Nat.reduceAdd, cutC, ld25] <;> rfl) (by simp only [sG, Nat.reduceEqDiff] <;> rfl) ⟨(hx3.trans k5).pt (by omega) g45 _, .inl ⟨⟨h0, fun j hj => hok j hj hj, by omega⟩, _, rfl, ?_, ?_⟩⟩
   ·have n3 := hx3.next
    have l4 := hx3.wf _ _ g43
    refine hrep.to fun n hn hl => ?_
    have := hn.1
    exact ⟨by rw [get_put, if_neg (by omega)], ⟨by omega, hl⟩, hl⟩
   ·have n3 := hx3.next
    have l4 := hx3.wf _ _ g43
    refine htop.heap fun n hn hl => ?_
    have := hn.1
    exact ⟨by rw [get_put, if_neg (by omega)], ⟨by omega, hl⟩, hl⟩
end Go.Proofs.hq
end

section
namespace Go.Hb
open Go Go.RowKit
section
variable (P : Program) (ok : Ok)
def EvP (f : FuncId) (args : List Value) (H : Heap) (K : List PanicEntry → Heap → Prop) : Prop := Upon (fun n => dcall P ok n f args H) fun p => ∃ ch, p.1 = .panic ch ∧ K ch p.2
def EvM (fn : Func) (tm : Tr Value) (ds : List Deferred) (m : Option (List PanicEntry)) (H : Heap) (K : Value → Heap → Prop) : Prop := Upon (fun n => dleave P ok n fn tm ds m H) fun p => ∃ v, p.1 = .ret v ∧ K v p.2
def EvSq (x : Ctx) (cs : List Code) (st : St) (Q : Ex → St → Prop) : Prop := Upon (fun n => dseq P ok n x cs st) fun p => Q p.1 p.2
end
def Ex.leaveP (K : List PanicEntry → Heap → Prop) : Ex → St → Prop
 | .panic ch, st => st.ds = [] ∧ K ch st.H
 | _, _ => False
def Ex.leaveM (P : Program) (ok : Ok) (fn : Func) (K : Value → Heap → Prop) : Ex → St → Prop
 | .normal, st | .ret, st => EvM P ok fn st.tm st.ds none st.H K
 | .panic ch, st => EvM P ok fn st.tm st.ds (some ch) st.H K
 | _, _ => False
section
variable {P : Program} {ok : Ok} {x : Ctx} {ops : Array Oper}
theorem EvP.mono {f : FuncId} {args : List Value} {H : Heap} {K L : List PanicEntry → Heap → Prop} (h : EvP P ok f args H K) (k : ∀ v H', K v H' → L v H') : EvP P ok f args H L :=
 Upon.mono h fun _ ⟨v, e, hq⟩ => ⟨v, e, k _ _ hq⟩
theorem EvP.enter {f : FuncId} {fn : Func} {c : Code} {args : List Value} {H : Heap} {K : List PanicEntry → Heap → Prop} (hK : ok.K f args H = none) (hf : P.funcs[f]? = some fn) (hm : ok.testBit f = true) (hb : fn.body = some c)
  (h : EvC P ok ⟨f, none⟩ c ⟨initTm 0 args .nil, [], H⟩ (Ex.leaveP K)) : EvP P ok f args H K := by
 refine Upon.step (fun n (r : Ex × St) => match r with | (.normal, st) | (.ret, st) => dleave P ok n fn st.tm st.ds none st.H | (.panic ch, st) => dleave P ok n fn st.tm st.ds (some ch) st.H | _ => none) (fun n r hr => ?_) h ?_
 ·rw [dcall, hK]
  simp only [hf, hm, hb, hr]
  obtain ⟨e, s⟩ := r
  cases e <;> rfl
 ·rintro ⟨e, s⟩ hq
  cases e with
  | panic ch =>
   obtain ⟨h1, h2⟩ := hq
   exact Upon.now (r := (.panic ch, s.H)) (fun n => by show dleave P ok (n + 1) fn s.tm s.ds (some ch) s.H = _; rw [h1, dleave]) ⟨ch, rfl, h2⟩
  | _ => exact hq.elim
theorem EvF.enterM {f : FuncId} {fn : Func} {c : Code} {args : List Value} {H : Heap} {K : Value → Heap → Prop} (hK : ok.K f args H = none) (hf : P.funcs[f]? = some fn) (hm : ok.testBit f = true) (hb : fn.body = some c)
  (h : EvC P ok ⟨f, none⟩ c ⟨initTm 0 args .nil, [], H⟩ (Ex.leaveM P ok fn K)) : EvF P ok f args H K := by
 refine Upon.step (fun n (r : Ex × St) => match r with | (.normal, st) | (.ret, st) => dleave P ok n fn st.tm st.ds none st.H | (.panic ch, st) => dleave P ok n fn st.tm st.ds (some ch) st.H | _ => none) (fun n r hr => ?_) h ?_
 ·rw [dcall, hK]
  simp only [hf, hm, hb, hr]
  obtain ⟨e, s⟩ := r
  cases e <;> rfl
 ·rintro ⟨e, s⟩ hq
  cases e with
  | exit _ => exact hq.elim
  | _ => exact hq
def EvG (P : Program) (ok : Ok) (f : FuncId) (args : List Value) (H : Heap) (K : En → Heap → Prop) : Prop := Upon (fun n => dcall P ok n f args H) fun p => K p.1 p.2
def Ex.leaveG (P : Program) (ok : Ok) (fn : Func) (K : En → Heap → Prop) : Ex → St → Prop
 | .normal, st | .ret, st => EvV P ok fn st.tm st.ds st.H fun v H => K (.ret v) H
 | .panic ch, st => st.ds = [] ∧ K (.panic ch) st.H
 | _, _ => False
theorem EvG.mono {f : FuncId} {args : List Value} {H : Heap} {K L : En → Heap → Prop} (h : EvG P ok f args H K) (k : ∀ v H', K v H' → L v H') : EvG P ok f args H L := Upon.mono h fun _ hq => k _ _ hq
theorem EvG.toF {f : FuncId} {args : List Value} {H : Heap} {K : En → Heap → Prop} {L : Value → Heap → Prop} (h : EvG P ok f args H K) (k : ∀ e H', K e H' → ∃ v, e = .ret v ∧ L v H') : EvF P ok f args H L := Upon.mono h fun _ hq => k _ _ hq
theorem EvG.toP {f : FuncId} {args : List Value} {H : Heap} {K : En → Heap → Prop} {L : List PanicEntry → Heap → Prop} (h : EvG P ok f args H K) (k : ∀ e H', K e H' → ∃ ch, e = .panic ch ∧ L ch H') : EvP P ok f args H L := Upon.mono h fun _ hq => k _ _ hq
theorem z0z {fn : Func} {K : En → Heap → Prop} {st : St} (h : Ex.leave P ok fn (fun v H => K (.ret v) H) .ret st) : Ex.leaveG P ok fn K .ret st := h
theorem EvG.enter {f : FuncId} {fn : Func} {c : Code} {args : List Value} {H : Heap} {K : En → Heap → Prop} (hK : ok.K f args H = none) (hf : P.funcs[f]? = some fn) (hm : ok.testBit f = true) (hb : fn.body = some c)
  (h : EvC P ok ⟨f, none⟩ c ⟨initTm 0 args .nil, [], H⟩ (Ex.leaveG P ok fn K)) : EvG P ok f args H K := by
 refine Upon.step (fun n (r : Ex × St) => match r with | (.normal, st) | (.ret, st) => dleave P ok n fn st.tm st.ds none st.H | (.panic ch, st) => dleave P ok n fn st.tm st.ds (some ch) st.H | _ => none) (fun n r hr => ?_) h ?_
 ·rw [dcall, hK]
  simp only [hf, hm, hb, hr]
  obtain ⟨e, s⟩ := r
  cases e <;> rfl
 ·have key : ∀ {s : St}, EvV P ok fn s.tm s.ds s.H (fun v H => K (.ret v) H) → Upon (fun n => dleave P ok n fn s.tm s.ds none s.H) fun p => K p.1 p.2 := fun h => Upon.mono h fun r ⟨v, e, hq⟩ => by rw [e]; exact hq
  rintro ⟨e, s⟩ hq
  cases e with
  | normal => exact key hq
  | ret => exact key hq
  | panic ch =>
   obtain ⟨h1, h2⟩ := hq
   exact Upon.now (r := (.panic ch, s.H)) (fun n => by show dleave P ok (n + 1) fn s.tm s.ds (some ch) s.H = _; rw [h1, dleave]) h2
  | exit _ => exact hq.elim
theorem EvM.now {fn : Func} {tm : Tr Value} {H : Heap} {v : Value} {K : Value → Heap → Prop} (hr : dres P fn tm H = some v) (h : K v H) : EvM P ok fn tm [] none H K :=
 Upon.now (r := (.ret v, H)) (fun n => by rw [dleave, hr]) ⟨v, rfl, h⟩
theorem EvSq.nil {st : St} {Q : Ex → St → Prop} (h : Q .normal st) : EvSq P ok x [] st Q := Upon.now (fun n => by rw [dseq]) h
theorem EvSq.cons {c : Code} {cs : List Code} {st : St} {Q : Ex → St → Prop} (h : EvC P ok x c st (Ex.thenC (fun st1 => EvSq P ok x cs st1 Q) Q)) : EvSq P ok x (c :: cs) st Q := by
 refine Upon.step (fun n (r : Ex × St) => match r with | (.normal, st1) => dseq P ok n x cs st1 | r => some r) (fun n r hr => ?_) h ?_
 ·rw [dseq, hr]
  obtain ⟨e, s⟩ := r
  cases e <;> rfl
 ·rintro ⟨e, s⟩ hq
  cases e with
  | normal => exact hq
  | _ => exact ⟨0, _, fun n _ => rfl, hq⟩
def EPl (P : Program) : List Oper → Tr Value → Heap → (Tr Value → Heap → Prop) → Prop
 | [], tm, H, K => K tm H
 | o :: os, tm, H, K => o.guard = none ∧ ∃ v H', dop P o (ev tm) H = some (.val v H') ∧ EPl P os (putD tm o.dst v) H' K
theorem zbr {K : Tr Value → Heap → Prop} : ∀ (l : List Nat) (os : List Oper) (tm : Tr Value) (H : Heap), l.map (fun i => ops[i]?) = os.map some → EPl P os tm H K → ∃ tm1 H1, dplain P ops l tm H = some (tm1, H1) ∧ K tm1 H1
 | [], [], tm, H, _, h => ⟨tm, H, by rw [dplain], h⟩
 | [], _ :: _, _, _, h, _ => by simp at h
 | _ :: _, [], _, _, h, _ => by simp at h
 | i :: l, o :: os, tm, H, hl, h => by
  simp only [List.map_cons, List.cons.injEq] at hl
  obtain ⟨hg, v, H', hd, h⟩ := h
  obtain ⟨tm1, H1, e, hk⟩ := zbr l os _ _ hl.2 h
  refine ⟨tm1, H1, ?_, hk⟩
  rw [dplain, hl.1]
  simp only [hg, hd]
  rw [← e]
  cases o.dst <;> rfl
theorem zfs {o : Oper} {os : List Oper} (h : ops.toList = o :: os) : ((List.range ops.size).drop 1).map (fun i => ops[i]?) = os.map some := by
 have := z4k ops
 rw [h] at this
 rw [← List.map_drop.symm] at *
 rw [this]; rfl
theorem EvM.recov {fn gn : Func} {tm : Tr Value} {ds : List Deferred} {m : Option (List PanicEntry)} {H : Heap} {K : Value → Heap → Prop} {g : FuncId} {captured args : Array Value} {c : Code} {rest : List Code} {o : Oper} {os : List Oper}
  (hg : P.funcs[g]? = some gn) (hm : ok.testBit g = true) (hc : callable P g = true) (hb : gn.body = some c) (hh : headRegion c = some (ops, rest)) (ho : ops.toList = o :: os) (hr : isRecover o = true) (hn : gn.results.isEmpty = true)
  (h : EPl P os (putD (initTm 0 (args.toList ++ captured.toList) .nil) o.dst (drecov m).1) H fun tm1 H1 =>
   EvSq P ok ⟨g, none⟩ rest ⟨tm1, [], H1⟩ fun e st => (e = .normal ∨ e = .ret) ∧ st.ds = [] ∧ EvM P ok fn tm ds (dsettle (drecov m).2) st.H K) :
  EvM P ok fn tm (⟨.fn (.func g) captured, args⟩ :: ds) m H K := by
 have hd1 : (dcall1 P g []).isSome = true := by
  unfold callable at hc
  rw [hg] at hc
  unfold dcall1
  rw [hg]
  simp only at hc ⊢
  rw [if_pos hc]; rfl
 have ho0 : ops[0]? = some o := by have : ops.toList[0]? = some o := (by rw [ho]; rfl); simpa using this
 obtain ⟨tm1, H1, hpl, hsq⟩ := zbr _ _ _ _ (zfs ho) h
 have hst0 : (St.put ⟨initTm 0 (args.toList ++ captured.toList) .nil, [], H⟩ o.dst (drecov m).1 H).tm = putD (initTm 0 (args.toList ++ captured.toList) .nil) o.dst (drecov m).1 := by cases o.dst <;> rfl
 refine Upon.step (fun n (r : Ex × St) => match r with | (.normal, st2) | (.ret, st2) => if st2.ds.isEmpty && gn.results.isEmpty then dleave P ok n fn tm ds (dsettle (drecov m).2) st2.H else none | _ => none) (fun n r hr2 => ?_) hsq ?_
 ·rw [dleave]
  simp only [hg, hm, hd1, Bool.and_self, hb, hh, ho0, hr, if_true, hst0, hpl, hr2]
  obtain ⟨e, s⟩ := r
  cases e <;> rfl
 ·rintro ⟨e, s⟩ ⟨he, hds, hq⟩
  simp only at he hds hq
  rcases he with rfl | rfl
  ·simp only [hds, hn, List.isEmpty_nil, Bool.and_self, if_true]; exact hq
  ·simp only [hds, hn, List.isEmpty_nil, Bool.and_self, if_true]; exact hq
theorem EvO.of_pre {K : St → Prop} {l2 : List Nat} {Q : Ex → St → Prop} (hQ : ∀ st, K st → EvO P ok x ops l2 st Q) : ∀ (l : List Nat) (os : List Oper) (st : St), l.map (fun i => ops[i]?) = os.map some → EvL P ok x ops os st K → EvO P ok x ops (l ++ l2) st Q
 | [], [], st, _, h => hQ _ h
 | [], _ :: _, _, h, _ => by simp at h
 | _ :: _, [], _, h, _ => by simp at h
 | i :: l, o :: os, st, hl, h => by
  simp only [List.map_cons, List.cons.injEq] at hl
  rcases h with ⟨hw, h⟩ | ⟨hw, h⟩
  ·refine Upon.go (fun n => ?_) (EvO.of_pre hQ l os _ hl.2 h)
   rw [List.cons_append, dops, hl.1]
   simp only [hw]
   cases o.dst <;> rfl
  ·refine Upon.step (fun n r => match r with | .val v ds H => dops P ok n x ops (l ++ l2) (St.put ⟨st.tm, ds, st.H⟩ o.dst v H) | .panic ch H => some (.panic ch, ⟨st.tm, st.ds, H⟩)) (fun n r hr => ?_) h ?_
   ·rw [List.cons_append, dops, hl.1]
    simp only [hw, hr]
    cases r <;> rfl
   ·rintro r ⟨v, ds, H, rfl, hr⟩
    have := EvO.of_pre hQ l os _ hl.2 hr
    refine this.imp fun N => ?_
    rintro ⟨r, h1, h2⟩
    refine ⟨r, fun n hn => ?_, h2⟩
    rw [← h1 n hn]
    cases o.dst <;> rfl
def PL (P : Program) (ok : Ok) (tm : Tr Value) (ds : List Deferred) (H : Heap) (Q : Ex → St → Prop) : Option Dr → Prop
 | some (.call f args) => EvP P ok f args H fun ch H2 => Q (.panic ch) ⟨tm, ds, H2⟩
 | some (.panic v) => Q (.panic [{ v, recovered := false }]) ⟨tm, ds, H⟩
 | _ => False
theorem z5u {tm : Tr Value} {ds : List Deferred} {H : Heap} {Q : Ex → St → Prop} {f : FuncId} {args : List Value} : PL P ok tm ds H Q (some (.call f args)) = EvP P ok f args H fun ch H2 => Q (.panic ch) ⟨tm, ds, H2⟩ := _root_.id rfl
theorem zel {tm : Tr Value} {ds : List Deferred} {H : Heap} {Q : Ex → St → Prop} {v : Value} : PL P ok tm ds H Q (some (.panic v)) = Q (.panic [{ v, recovered := false }]) ⟨tm, ds, H⟩ := _root_.id rfl
theorem zi8 {tm : Tr Value} {ds : List Deferred} {H : Heap} {Q : Ex → St → Prop} {o : Oper} {ρ : Operand → Value} (h : PL P ok tm ds H Q (dop P o ρ H)) :
  Upon (fun n => dop1 P ok n x o ρ ds H) fun r => ∃ ch H2, r = .panic ch H2 ∧ Q (.panic ch) ⟨tm, ds, H2⟩ := by
 unfold PL at h
 split at h
 ·rename_i f args hd
  refine Upon.step (fun n (r : En × Heap) => match r with | (.ret v, H') => some (.val v ds H') | (.panic ch, H') => some (.panic ch H')) (fun n r hr => ?_) h ?_
  ·rw [dop1, hd]
   simp only [hr]
   obtain ⟨e, H'⟩ := r
   cases e <;> rfl
  ·rintro ⟨e, H'⟩ ⟨ch, rfl, hv⟩
   exact ⟨0, _, fun n _ => rfl, ch, H', rfl, hv⟩
 ·rename_i v hd
  exact Upon.now (r := .panic [{ v, recovered := false }] H) (fun n => by rw [dop1, hd]) ⟨_, _, rfl, h⟩
 ·exact h.elim
theorem EvC.regP {id : Nat} {tm : Tr Value} {ds : List Deferred} {H : Heap} {Q : Ex → St → Prop} (k : Nat) (o : Oper) (ho : ops.toList[k]? = some o) (hg : o.guard = none)
  (h : EL P ok x ops (ops.toList.take k) tm ds H fun tm ds H => PL P ok tm ds H Q (dop P o (ev tm) H)) : EvC P ok x (.region id ops false) ⟨tm, ds, H⟩ Q := by
 refine Upon.go (fun n => by rw [dcode]) ?_
 have hk : k < ops.size := by
  by_cases h : k < ops.size
  ·exact h
  ·rw [List.getElem?_eq_none (by simp; omega)] at ho; cases ho
 have ho' : ops[k]? = some o := by simpa using ho
 have hr : List.range ops.size = List.range k ++ (List.range ops.size).drop k := by
  have := List.take_append_drop k (List.range ops.size)
  rw [List.take_range, Nat.min_eq_left (by omega)] at this
  exact this.symm
 have hd : (List.range ops.size).drop k = k :: (List.range ops.size).drop (k + 1) := by
  rw [List.drop_eq_getElem_cons (by simpa using hk)]
  simp
 show EvO P ok x ops (List.range ops.size) ⟨tm, ds, H⟩ Q
 rw [hr, hd]
 refine EvO.of_pre (K := fun st => PL P ok st.tm st.ds st.H Q (dop P o (ev st.tm) st.H)) ?_ _ _ _ ?_ (EvL.of_EL (K := fun tm ds H => PL P ok tm ds H Q (dop P o (ev tm) H)) _ _ _ _ h)
 ·rintro ⟨tm, ds, H⟩ hp
  simp only at hp
  obtain ⟨N, r, h1, ch, H2, rfl, hq⟩ := zi8 (x := x) hp
  refine ⟨N + 1, (.panic ch, ⟨tm, ds, H2⟩), fun n hn => ?_, hq⟩
  obtain ⟨m, rfl⟩ : ∃ m, n = m + 1 := ⟨n - 1, by omega⟩
  show dops P ok (m + 1) x ops (k :: (List.range ops.size).drop (k + 1)) ⟨tm, ds, H⟩ = _
  rw [dops, ho']
  simp only [z23 hg, h1 m (by omega)]
 ·have := z4k ops
  have h2 := congrArg (List.take k) this
  rw [← List.map_take, ← List.map_take, List.take_range, Nat.min_eq_left (by omega)] at h2
  exact h2
def PC (P : Program) (ok : Ok) (x : Ctx) (ops : Array Oper) (base : Nat) (S : List (List (Nat × Nat) × Option Nat)) (G : Heap) (d : Option Tmp) (tm1 : Tr Value) (ds : List Deferred) (H1 : Heap) (K : List PanicEntry → Heap → Prop) : Option Dr → Prop
 | some (.call f args) => EvP P ok f args H1 K ∧ ES P ok x ops base S H1 [G] (putD tm1 d (dmight P f)) ds fun _ _ _ => True
 | _ => False
theorem zi9 {base : Nat} {S : List (List (Nat × Nat) × Option Nat)} {G : Heap} {d : Option Tmp} {tm1 : Tr Value} {ds : List Deferred} {H1 : Heap} {K : List PanicEntry → Heap → Prop} {f : FuncId} {args : List Value} :
  PC P ok x ops base S G d tm1 ds H1 K (some (.call f args)) = (EvP P ok f args H1 K ∧ ES P ok x ops base S H1 [G] (putD tm1 d (dmight P f)) ds fun _ _ _ => True) := _root_.id rfl
theorem zmw {call : FuncId → List Value → Heap → Option (En × Heap)} {draw : List Nat → Nat → List Heap → Tr Value → Option St} {b : Array Nat} {effs : List Nat} {base : Nat} {G : Heap} {tm : Tr Value} {ch : List PanicEntry} {H1 H2 : Heap}
  {e : Nat} {es : List Nat} {tm1 : Tr Value} {o : Oper} {f : FuncId} {args : List Value} {st1 : St} (he : effs = e :: es) (hdn : dnon P ops b effs base [G] (pending (List.range ops.size) effs (b.getD e 0) 0) tm G = some (tm1, H1)) (ho : ops[e]? = some o)
  (hw : dwanted ops tm1 o = some true) (hd : dop P o (ev tm1) H1 = some (.call f args)) (hm : es.all (mild ops) = true) (hc : call f args H1 = some (.panic ch, H2)) (hr : draw es (0 ||| b.getD e 0 ||| 2 ^ e) [H1, G] (putD tm1 o.dst (dmight P f)) = some st1) :
  dpan P call draw ops b effs base G tm = some (ch, H2) := by
 subst he
 unfold dpan
 simp only [hdn, ho, hw, hd, hm, hc]
 cases hdst : o.dst with
 | none =>
  have hr2 : draw es (0 ||| b.getD e 0 ||| 2 ^ e) [H1, G] tm1 = some st1 := by rw [hdst] at hr; exact hr
  simp only [hr2]
 | some d =>
  have hr2 : draw es (0 ||| b.getD e 0 ||| 2 ^ e) [H1, G] (tm1.put d (some (dmight P f))) = some st1 := by rw [hdst] at hr; exact hr
  simp only [hr2]
theorem EvC.drwP {id : Nat} {tm : Tr Value} {ds : List Deferred} {H : Heap} {Q : Ex → St → Prop} (e : Nat) (o : Oper) (L0 : List (Nat × Nat)) (S : List (List (Nat × Nat) × Option Nat)) (hS : sched ops = (L0, some e) :: S)
  (hm : ((effsOf ops).drop 1).all (mild ops) = true) (ho : ops.toList[e]? = some o) (hg : o.guard = none)
  (h : ES P ok x ops H.next [(L0, none)] ⟨H.next + ops.size, H.t⟩ [] tm ds fun tm1 ds1 H1 => PC P ok x ops H.next S ⟨H.next + ops.size, H.t⟩ o.dst tm1 ds1 H1 (fun ch H2 => Q (.panic ch) ⟨clr ops tm, ds, H2⟩) (dop P o (ev tm1) H1)) :
  EvC P ok x (.region id ops true) ⟨tm, ds, H⟩ Q := by
 unfold sched at hS
 split at hS
 ·cases hS
 rename_i hnt
 rw [Bool.not_eq_false] at hnt
 have hes : ∃ es, effsOf ops = e :: es := by
  cases he : effsOf ops with
  | nil => rw [he] at hS; simp [schedGo] at hS
  | cons e' es => rw [he] at hS; simp only [schedGo, List.map_cons, List.cons.injEq, Prod.mk.injEq, Option.some.injEq] at hS; exact ⟨es, by rw [hS.1.2]⟩
 obtain ⟨es, hes⟩ := hes
 rw [hes] at hnt hm
 unfold noTwin at hnt
 rw [Bool.and_eq_true, Option.isNone_iff_eq_none] at hnt
 have hS2 := hS
 rw [show schedGo ops.size (Region.before ops) (effsOf ops) (effsOf ops) 0 = schedGo ops.size (Region.before ops) (effsOf ops) (e :: es) 0 by rw [hes]] at hS2
 simp only [schedGo, List.map_cons, List.cons.injEq, Prod.mk.injEq] at hS2
 obtain ⟨⟨hL, _⟩, hS'⟩ := hS2
 have ho' : ops[e]? = some o := by simpa using ho
 have h1 : EvN P ops H.next [⟨H.next + ops.size, H.t⟩] L0 tm ⟨H.next + ops.size, H.t⟩ fun tm1 H1 => PC P ok x ops H.next S ⟨H.next + ops.size, H.t⟩ o.dst tm1 ds H1 (fun ch H2 => Q (.panic ch) ⟨clr ops tm, ds, H2⟩) (dop P o (ev tm1) H1) := EvN.of_EN _ _ _ h
 rw [← hL] at h1
 obtain ⟨tm1, H1, en, hk⟩ := z5m _ _ _ h1
 unfold PC at hk
 split at hk
 case h_2 => exact hk.elim
 rename_i f args hd
 obtain ⟨hp, hst⟩ := hk
 have hst2 := z6b (b := Region.before ops) (effs := effsOf ops) es (0 ||| (Region.before ops).getD e 0 ||| 2 ^ e) _ _ _ hnt.2 (by rw [hS']; exact EvS.of_ES (K := fun _ _ _ => True) _ _ _ _ _ hst)
 obtain ⟨N1, r1, k1, _⟩ := hst2
 obtain ⟨N2, r2, k2, ch, k3, k4⟩ := hp
 obtain ⟨en2, H2⟩ := r2
 simp only at k3 k4
 subst k3
 refine ⟨max N1 N2 + 4, (.panic ch, ⟨clr ops tm, ds, H2⟩), fun n hn => ?_, k4⟩
 obtain ⟨m, rfl⟩ : ∃ m, n = m + 4 := ⟨n - 4, by omega⟩
 have hdr : ddraw P ok (m + 3) x ops (Region.before ops) (effsOf ops) H.next (effsOf ops) 0 [⟨H.next + ops.size, H.t⟩] tm ds = none := by
  rw [hes, ddraw, hnt.1]
  simp only
  rw [dstage]
  rw [hes] at en
  simp only [en, ho', z23 hg]
  rw [dop1, hd]
  simp only [k2 m (by omega)]
 have hpan : dpan P (dcall P ok (m + 3)) (fun es done hs tm => ddraw P ok (m + 3) x ops (Region.before ops) (effsOf ops) H.next es done hs tm ds) ops (Region.before ops) (effsOf ops) H.next ⟨H.next + ops.size, H.t⟩ tm = some (ch, H2) := by
  exact zmw (st1 := r1) hes en ho' (z23 hg) hd (by simpa using hm) (k2 _ (by omega)) (k1 _ (by omega))
 show dcode P ok (m + 4) x (.region id ops true) ⟨tm, ds, H⟩ = _
 have e1 : dcode P ok (m + 3 + 1) x (.region id ops true) ⟨tm, ds, H⟩ = (match ddraw P ok (m + 3) x ops (Region.before ops) (effsOf ops) H.next (effsOf ops) 0 [⟨H.next + ops.size, H.t⟩] tm ds with
    | some st1 => some (.normal, st1)
    | none => match dpan P (dcall P ok (m + 3)) (fun es done hs tm => ddraw P ok (m + 3) x ops (Region.before ops) (effsOf ops) H.next es done hs tm ds) ops (Region.before ops) (effsOf ops) H.next ⟨H.next + ops.size, H.t⟩ tm with
     | some (ch, H') => some (.panic ch, ⟨clr ops tm, ds, H'⟩)
     | none => none) := by
   rw [dcode]; rfl
 rw [e1, hdr, hpan]
end
end Go.Hb
end

section
namespace Go.Hb
open Go Go.RowKit
section
variable {P : Program} {ok : Ok} {x : Ctx} {ops : Array Oper} {os : List Oper} {tm : Tr Value} {ds : List Deferred} {H : Heap} {K : Tr Value → List Deferred → Heap → Prop} {d : Option Tmp} {ty : TypeId} {pos : String} {af : Array Edge} {g : Option (Nat × Bool)} {ρ : Operand → Value}
def mkiOk (P : Program) (t : TypeId) : Bool := match P.underlying t with | some (.interface _) => false | some _ => true | none => false
def dMkI (P : Program) (t : TypeId) (v : Value) (H : Heap) : Option Dr := match P.underlying t with | some (.interface _) => none | some _ => some (.val (.iface t v) H) | none => none
theorem z1j {t : TypeId} {a : Operand} : dop P ⟨d, .makeInterface t a, ty, pos, af, g⟩ ρ H = dMkI P t (ρ a) H := _root_.id rfl
theorem z9o {t : TypeId} {v : Value} (h : mkiOk P t = true) : dMkI P t v H = some (.val (.iface t v) H) := by
 unfold mkiOk at h
 unfold dMkI
 cases hu : P.underlying t with
 | none => rw [hu] at h; cases h
 | some u =>
  rw [hu] at h
  cases u <;> first | rfl | cases h
def dTa (P : Program) (xt at_ : TypeId) (ok : Bool) (v : Value) (H : Heap) : Option Dr :=
 match v with
 | .iface t u => (dassert P t u at_ ok).map (.val · H)
 | v => dOut (flat v && true) (pureRun P (do let r ← Instr.typeAssert v xt at_ ok; pure (Next.value r))) H
theorem z29 {a : Operand} {xt at_ : TypeId} {o : Bool} : dop P ⟨d, .typeAssert a xt at_ o, ty, pos, af, g⟩ ρ H = dTa P xt at_ o (ρ a) H := by
 cases h : ρ a with
 | iface t v => simp only [dop, h, dTa]
 | _ =>
  have e : dop P ⟨d, .typeAssert a xt at_ o, ty, pos, af, g⟩ ρ H = dflat P ⟨d, .typeAssert a xt at_ o, ty, pos, af, g⟩ ρ H := by simp only [dop, h]
  rw [e, z56]
  have e1 : allFlat ρ ⟨d, .typeAssert a xt at_ o, ty, pos, af, g⟩ = (flat (ρ a) && true) := rfl
  have e2 : execOp ρ ⟨d, .typeAssert a xt at_ o, ty, pos, af, g⟩ = (do let r ← Instr.typeAssert (ρ a) xt at_ o; pure (Next.value r)) := rfl
  rw [e1, e2, h]; rfl
def taZ (P : Program) (at_ : TypeId) : Option Value := match P.underlying at_ with
 | some (.interface _) => none
 | some _ => match pureRun P (zeroValue at_) with
  | some z => if flat z then some z else none
  | none => none
 | none => none
theorem zia {at_ : TypeId} {z : Value} (h : taZ P at_ = some z) : ∃ u, P.underlying at_ = some u ∧ (∀ w, u ≠ .interface w) ∧ pureRun P (zeroValue at_) = some z ∧ flat z = true := by
 unfold taZ at h
 cases hu : P.underlying at_ with
 | none => rw [hu] at h; cases h
 | some u =>
  rw [hu] at h
  have h' : (∀ w, u ≠ .interface w) ∧ (match pureRun P (zeroValue at_) with | some z => if flat z then some z else none | none => none) = some z := by
   cases u <;> first | exact ⟨fun w hw => (by cases hw), h⟩ | cases h
  obtain ⟨hne, h'⟩ := h'
  cases hz : pureRun P (zeroValue at_) with
  | none => rw [hz] at h'; cases h'
  | some z' =>
   rw [hz] at h'
   simp only at h'
   split at h'
   ·rename_i hf; cases h'; exact ⟨u, rfl, hne, rfl, hf⟩
   ·cases h'
theorem zcw {xt at_ : TypeId} {v z : Value} (h : taZ P at_ = some z) : dTa P xt at_ true (.iface at_ v) H = some (.val (.tuple #[v, .bool true]) H) := by
 obtain ⟨u, hu, hne, hz, hf⟩ := zia h
 simp only [dTa, dassert, hu, Nat.beq_refl, if_true]
 rfl
theorem zmx {xt at_ : TypeId} {z : Value} (h : taZ P at_ = some z) : dTa P xt at_ true .nilIface H = some (.val (.tuple #[z, .bool false]) H) := by
 obtain ⟨u, hu, hne, hz, hf⟩ := zia h
 simp only [dTa, flat, Bool.and_self, Instr.typeAssert, z0f, z0m hu, Option.bind_some]
 cases u with
 | interface w => exact absurd rfl (hne w)
 | _ =>
  simp only [if_true, z0f, hz, z2a, Option.bind_some, dOut]
  have hfl : flat (.tuple #[z, .bool false]) = true := by
   show (flat z && (flat (.bool false) && true)) = true
   rw [hf]; rfl
  rw [hfl]
def ifO (P : Program) (t : TypeId) : Prop := ∃ m, P.underlying t = some (.interface m)
theorem zo8 {dd : Deferred} (hx : x.round = none) : LX P ok x ops d os tm ds H K (some (.dfr dd)) = EL P ok x ops os (putD tm d undef) (dd :: ds) H K := by
 unfold LX LK
 simp [hx]
def dDef (v : Value) (ags : Array Value) : Option Dr := match v with | .func (.func f) x y => some (.dfr { target := .fn (.func f) y, args := x ++ ags }) | _ => none
theorem zft {c : Operand} {ags : Array Operand} {ats : Array TypeId} : dop P ⟨d, .defer ⟨.value c, ags, ats⟩, ty, pos, af, g⟩ ρ H = dDef (ρ c) (ags.map ρ) := by
 cases h : ρ c <;> simp only [dop, h, dDef]
 rename_i f x y
 cases f <;> rfl
theorem zib {f : FuncId} {x y ags : Array Value} : dDef (.func (.func f) x y) ags = some (.dfr { target := .fn (.func f) y, args := x ++ ags }) := _root_.id rfl
def dPan (v : Value) : Option Dr := match v with | .iface t u => some (.panic (.iface t u)) | _ => none
theorem zbs {a : Operand} : dop P ⟨d, .panic a, ty, pos, af, g⟩ ρ H = dPan (ρ a) := by
 cases h : ρ a <;> simp only [dop, h, dPan]
theorem z8o {t : TypeId} {v : Value} : dPan (.iface t v) = some (.panic (.iface t v)) := _root_.id rfl
end
end Go.Hb
end

section
namespace Go.Hb
open Go Go.RowKit
instance (n : Int) : Decidable (i64 n) := by unfold i64; infer_instance
instance (n : Int) : Decidable (u64 n) := by unfold u64; infer_instance
theorem z67 {s u : ByteArray} (h : s = u) : (s.data.toList == u.data.toList) = true := by rw [h]; exact beq_self_eq_true _
end Go.Hb
namespace Go.Proofs.hq
open Go Go.RowKit Go.Hb
theorem z8p {s u : ByteArray} (h : s ≠ u) : (s.data.toList == u.data.toList) = false := by
 rw [beq_eq_false_iff_ne]
 intro q
 exact h (z44 (by rw [z1f, z1f]; exact q))
inductive Bdy where
 | mk (kind : Int) (term : Tm) (sub : List Bdy)
def Bdy.kind : Bdy → Int | .mk k _ _ => k
def Bdy.term : Bdy → Tm | .mk _ t _ => t
def Bdy.sub : Bdy → List Bdy | .mk _ _ l => l
def zeroB : Bdy := .mk 0 zeroT []
abbrev sCma : ByteArray := ⟨#[44]⟩
abbrev sSem : ByteArray := ⟨#[59]⟩
abbrev sArr : ByteArray := ⟨#[45, 62]⟩
abbrev sCol : ByteArray := ⟨#[58]⟩
abbrev sNck : ByteArray := ⟨#[58, 45]⟩
abbrev sExc : ByteArray := ⟨#[33]⟩
abbrev sTrue : ByteArray := ⟨#[116, 114, 117, 101]⟩
abbrev sCall : ByteArray := ⟨#[99, 97, 108, 108]⟩
abbrev sTypeE : ByteArray := ⟨#[116, 121, 112, 101, 95, 101, 114, 114, 111, 114]⟩
abbrev sResE : ByteArray := ⟨#[114, 101, 115, 111, 117, 114, 99, 101, 95, 101, 114, 114, 111, 114]⟩
abbrev sCallable : ByteArray := ⟨#[99, 97, 108, 108, 97, 98, 108, 101]⟩
abbrev sNodes : ByteArray := ⟨#[110, 111, 100, 101, 115]⟩
def cmpT (s : ByteArray) (l : List Tm) : Tm := .mk 5 s ByteArray.empty 0 0 l
def atmT (s : ByteArray) : Tm := .mk 2 s ByteArray.empty 0 0 []
def isF (t : Tm) (s : ByteArray) : Prop := t.kind = 5 ∧ t.name = s ∧ t.args.length = 2
instance (t : Tm) (s : ByteArray) : Decidable (isF t s) := by unfold isF; infer_instance
def _root_.Go.Hb.Tm.at (t : Tm) (i : Nat) : Tm := t.args.getD i zeroT
def isNum (t : Tm) : Prop := t.kind = 3 ∨ t.kind = 4
instance (t : Tm) : Decidable (isNum t) := by unfold isNum; infer_instance
def callB (t : Tm) : Bdy := .mk 3 (cmpT sCall [t]) []
def subBL (f : Tm → Option Bdy) : List Tm → Option (List Bdy)
 | [] => some []
 | t :: l => match f t, subBL f l with
  | some b, some bs => some (b :: bs)
  | _, _ => none
def subBF (f : Tm → Option Bdy) (k : Int) (l : List Tm) : Option Bdy := (subBL f l).map (.mk k zeroT ·)
def withinF (f : Tm → Option Bdy) (t : Tm) : Option Bdy :=
 if isNum (t.at 1) ∨ ((t.at 0).kind ≠ 2 ∧ (t.at 0).kind ≠ 1) then none
 else if (t.at 0).kind = 1 ∨ (t.at 1).kind = 1 then some (callB t)
 else (f (t.at 1)).map fun b => .mk 7 (t.at 0) [b]
def bodyF : Nat → Tm → Option Bdy
 | 0, _ => none
 | m + 1, t =>
  if isNum t then none
  else if t.kind = 1 then some (callB t)
  else if t.kind = 2 ∧ t.name = sTrue then some (.mk 1 zeroT [])
  else if t.kind = 2 ∧ t.name = sExc then some (.mk 2 zeroT [])
  else if isF t sCol then withinF (bodyF m) t
  else if isF t sCma then subBF (bodyF m) 4 t.args
  else if isF t sArr then subBF (bodyF m) 6 t.args
  else if isF t sSem ∧ isF (t.at 0) sArr then subBF (bodyF m) 6 [(t.at 0).at 0, (t.at 0).at 1, t.at 1]
  else if isF t sSem then subBF (bodyF m) 5 t.args
  else some (.mk 3 t [])
def tellB (k : Int) (t : Tm) (l : List Tm) : Tm :=
 if k = 2 then atmT sExc
 else if k = 3 then t
 else if k = 4 ∧ l.length = 2 then cmpT sCma l
 else if k = 5 ∧ l.length = 2 then cmpT sSem l
 else if k = 6 ∧ l.length = 2 then cmpT sArr l
 else if k = 6 ∧ l.length = 3 then cmpT sSem [cmpT sArr (l.take 2), l.getD 2 zeroT]
 else if k = 7 ∧ l.length = 1 then cmpT sCol [t, l.getD 0 zeroT]
 else atmT sTrue
mutual
def toldB : Bdy → Tm
 | .mk k t l => tellB k t (toldBL l)
def toldBL : List Bdy → List Tm
 | [] => []
 | b :: l => toldB b :: toldBL l
end
theorem z8q : ∀ l, toldBL l = l.map toldB
 | [] => by rw [toldBL]; rfl
 | b :: l => by rw [toldBL, z8q l]; rfl
theorem zem (b : Bdy) : toldB b = tellB b.kind b.term (b.sub.map toldB) := by obtain ⟨k, t, l⟩ := b; rw [toldB, z8q]; rfl
inductive Er where
 | ok
 | num (e : Int)
 | ball (t : Tm)
def typeT (w : ByteArray) (t : Tm) : Tm := cmpT sTypeE [atmT w, t]
def resT (w : ByteArray) : Tm := cmpT sResE [atmT w]
noncomputable def readyS (t : Tm) : Bdy × Er :=
 if checkS t ≠ 0 then (zeroB, .num (checkS t))
 else match bodyF (SizeOf.sizeOf t + 1) t with
  | none => (zeroB, .ball (typeT sCallable t))
  | some b => if 4000 < cnt (toldB b) 0 then (zeroB, .ball (resT sNodes)) else (b, .ok)
theorem Bdy.size (b : Bdy) : ∀ u ∈ b.sub, SizeOf.sizeOf u < SizeOf.sizeOf b := by
 obtain ⟨k, t, l⟩ := b
 intro u hu
 have := List.sizeOf_lt_of_mem (show u ∈ l from hu)
 rw [Bdy.mk.sizeOf_spec]
 omega
abbrev eight (k : Int) (cs : List Value) (a : Option Addr) (n c : Nat) : List Value := .int .i64 k :: (cs ++ [.slice a n c])
abbrev zero8 : List Value := [.int .i64 0, .int .i64 0, .string ByteArray.empty, .string ByteArray.empty, .int .u64 0, .int .i64 0, .slice none 0 0, .slice none 0 0]
abbrev eightT (k : Int) (t : Tm) (ta : Option Addr) (tc : Nat) (a : Option Addr) (n c : Nat) : List Value := [.int .i64 k, .int .i64 t.kind, .string t.name, .string t.num, .int .u64 t.bits, .int .i64 t.var, .slice ta t.args.length tc, .slice a n c]
theorem row8 {H : Heap} {p : Nat} {T : TypeId} {x0 x1 x2 x3 x4 x5 x6 x7 : Value} (h : H.get p = some (Blk.row [x0, x1, x2, x3, x4, x5, x6, x7] T)) :
  H.load ⟨p, 0, none⟩ 1 = some [x0] ∧ H.load ⟨p, 1, none⟩ 6 = some [x1, x2, x3, x4, x5, x6] ∧ H.load ⟨p, 6, none⟩ 1 = some [x6] ∧ H.load ⟨p, 7, none⟩ 1 = some [x7] ∧ H.load ⟨p, 0, none⟩ 8 = some [x0, x1, x2, x3, x4, x5, x6, x7] := by
 refine ⟨?_, ?_, ?_, ?_, ?_⟩ <;> simp only [Heap.load, Heap.cells, h] <;> rfl
inductive RepB (H : Heap) : Bdy → List Value → Prop
 | mk (k : Int) (t : Tm) (l : List Bdy) (cs : List Value) (a : Option Addr) (c : Nat) (cells : Nat → List Value) : i64 k → RepT H t cs → l.length ≤ c → c ≤ maxLen → (a = none → l = [] ∧ c = 0) →
   (∀ i ad, i < l.length → a = some ad → ad.spot = none ∧ H.load ⟨ad.block, ad.off + i * 8, none⟩ 8 = some (cells i)) → (∀ i u, l[i]? = some u → RepB H u (cells i)) →
   RepB H (.mk k t l) (eight k cs a l.length c)
structure RepBL (H : Heap) (l : List Bdy) (a : Option Addr) (c : Nat) (cells : Nat → List Value) : Prop where
 len : l.length ≤ c
 cap : c ≤ maxLen
 nil : a = none → l = [] ∧ c = 0
 load : ∀ i ad, i < l.length → a = some ad → ad.spot = none ∧ H.load ⟨ad.block, ad.off + i * 8, none⟩ 8 = some (cells i)
 rep : ∀ i u, l[i]? = some u → RepB H u (cells i)
theorem RepB.inv {H : Heap} {b : Bdy} {cs : List Value} (r : RepB H b cs) : ∃ ts a c cells, cs = eight b.kind ts a b.sub.length c ∧ i64 b.kind ∧ RepT H b.term ts ∧ RepBL H b.sub a c cells := by
 cases r with
 | mk k t l ts a c cells h1 h2 h3 h4 h5 h6 h7 => exact ⟨ts, a, c, cells, rfl, h1, h2, h3, h4, h5, h6, h7⟩
theorem RepB.eight {H : Heap} {b : Bdy} {cs : List Value} (r : RepB H b cs) : ∃ ta tc a c, cs = eightT b.kind b.term ta tc a b.sub.length c := by
 obtain ⟨ts, a, c, cells, rfl, -, h, -⟩ := r.inv
 obtain ⟨ta, tc, cellst, rfl, -⟩ := h.inv
 exact ⟨ta, tc, a, c, rfl⟩
theorem RepBL.el {H : Heap} {l : List Bdy} {a : Option Addr} {c : Nat} {cells : Nat → List Value} (r : RepBL H l a c cells) {i : Nat} (hi : i < l.length) :
  ∃ b o, a = some ⟨b, o, none⟩ ∧ H.load ⟨b, o + i * 8, none⟩ 8 = some (cells i) ∧ RepB H l[i] (cells i) := by
 cases a with
 | none => obtain ⟨rfl, _⟩ := r.nil rfl; simp at hi
 | some ad =>
  obtain ⟨h1, h2⟩ := r.load i ad hi rfl
  obtain ⟨b, o, s⟩ := ad
  obtain rfl : s = none := h1
  exact ⟨b, o, rfl, h2, r.rep i _ (List.getElem?_eq_getElem hi)⟩
theorem RepB.mono {H H' : Heap} (h : HX H H') (hw : H.wf) {b : Bdy} {cs : List Value} (r : RepB H b cs) : RepB H' b cs := by
 induction r with
 | mk k t l ts a c cells h1 h2 h3 h4 h5 h6 h7 ih =>
  exact .mk k t l ts a c cells h1 (h2.mono h hw) h3 h4 h5 (fun i ad hi ha => ⟨(h6 i ad hi ha).1, h.load hw (h6 i ad hi ha).2⟩) ih
theorem RepBL.mono {H H' : Heap} (h : HX H H') (hw : H.wf) {l : List Bdy} {a : Option Addr} {c : Nat} {cells : Nat → List Value} (r : RepBL H l a c cells) : RepBL H' l a c cells :=
 ⟨r.len, r.cap, r.nil, fun i ad hi ha => ⟨(r.load i ad hi ha).1, h.load hw (r.load i ad hi ha).2⟩, fun i u hu => (r.rep i u hu).mono h hw⟩
inductive OB (H : Heap) (TB TT : TypeId) : (Nat → Prop) → Bdy → List Value → Prop
 | leaf (S : Nat → Prop) (k : Int) (t : Tm) (cs : List Value) : i64 k → RepS H S t cs → TopR H TT S t cs → OB H TB TT S (.mk k t []) (eight k cs none 0 0)
 | node (S : Nat → Prop) (k : Int) (t : Tm) (cs : List Value) (l : List Bdy) (b c : Nat) (cells : List Value) (Si : Nat → Nat → Prop) : i64 k → RepS H S t cs → t.args = [] → l.length ≤ c → c ≤ maxLen → H.get b = some (.row cells TB) → S b → b < H.next → l.length * 8 ≤ cells.length →
   (∀ i u, l[i]? = some u → OB H TB TT (Si i) u ((cells.drop (i * 8)).take 8)) → (∀ i, i < l.length → ¬ Si i b) → (∀ i n, i < l.length → Si i n → S n) → (∀ i j n, i < l.length → j < l.length → Si i n → Si j n → i = j) →
   OB H TB TT S (.mk k t l) (eight k cs (some ⟨b, 0, none⟩) l.length c)
def OBL (H : Heap) (TB TT : TypeId) (S : Nat → Prop) (l : List Bdy) (a : Option Addr) (c : Nat) : Prop :=
 (l = [] ∧ a = none ∧ c = 0) ∨ ∃ (b : Nat) (cells : List Value) (Si : Nat → Nat → Prop), a = some ⟨b, 0, none⟩ ∧ l.length ≤ c ∧ c ≤ maxLen ∧ H.get b = some (.row cells TB) ∧ S b ∧ b < H.next ∧ l.length * 8 ≤ cells.length ∧
   (∀ i u, l[i]? = some u → OB H TB TT (Si i) u ((cells.drop (i * 8)).take 8)) ∧ (∀ i, i < l.length → ¬ Si i b) ∧ (∀ i n, i < l.length → Si i n → S n) ∧ (∀ i j n, i < l.length → j < l.length → Si i n → Si j n → i = j)
section
variable {H H' : Heap} {TB TT : TypeId} {S S' : Nat → Prop} {u : Bdy} {cs : List Value} {l : List Bdy} {a : Option Addr} {c : Nat}
theorem OB.to (h : OB H TB TT S u cs) : (∀ n, S n → n < H.next → H'.get n = H.get n ∧ n < H'.next) → (∀ n, S n → S' n) → OB H' TB TT S' u cs := by
 induction h generalizing S' with
 | leaf S k t cs h1 h2 h3 => exact fun hk hs => .leaf S' k t cs h1 (h2.to fun n hn hl => ⟨(hk n hn hl).1, hs n hn, (hk n hn hl).2⟩) (h3.heap fun n hn hl => ⟨(hk n hn hl).1, hs n hn, (hk n hn hl).2⟩)
 | node S k t cs l b c cells Si h1 h2 h3 h4 h5 h6 h7 h8 h9 h10 h11 h12 h13 ih =>
  intro hk hs
  refine .node S' k t cs l b c cells Si h1 (h2.to fun n hn hl => ⟨(hk n hn hl).1, hs n hn, (hk n hn hl).2⟩) h3 h4 h5 ((hk b h7 h8).1.trans h6) (hs b h7) (hk b h7 h8).2 h9 (fun i u hu => ?_) h11 (fun i n hi hn => hs n (h12 i n hi hn)) h13
  have hi := (List.getElem?_eq_some_iff.1 hu).1
  exact ih i u hu (fun n hn hl => hk n (h12 i n hi hn) hl) (fun n hn => hn)
theorem OB.sub (h : OB H TB TT S u cs) (hs : ∀ n, S n → S' n) : OB H TB TT S' u cs := h.to (fun _ _ hl => ⟨rfl, hl⟩) hs
theorem OB.keep (h : OB H TB TT S u cs) (hx : HX H H') : OB H' TB TT S u cs := h.to (fun n _ hl => ⟨hx.keep n hl, Nat.lt_of_lt_of_le hl hx.next⟩) fun _ hn => hn
theorem OB.rep (h : OB H TB TT S u cs) : RepB H u cs := by
 induction h with
 | leaf S k t cs h1 h2 h3 => exact .mk k t [] cs none 0 (fun _ => []) h1 h2.rep (Nat.le_refl _) (Nat.zero_le _) (fun _ => ⟨rfl, rfl⟩) (fun i ad hi => by simp at hi) (fun i u hu => by simp at hu)
 | node S k t cs l b c cells Si h1 h2 h3 h4 h5 h6 h7 h8 h9 h10 h11 h12 h13 ih =>
  refine .mk k t l cs (some ⟨b, 0, none⟩) c (fun i => (cells.drop (i * 8)).take 8) h1 h2.rep h4 h5 (fun h => by cases h) (fun i ad hi ha => ?_) ih
  cases ha
  refine ⟨rfl, ?_⟩
  have hle : i * 8 + 8 ≤ l.length * 8 := by omega
  unfold Heap.load Heap.cells
  simp only [h6, Nat.zero_add]
  rw [if_pos (by rw [Nat.beq_eq, List.length_take, List.length_drop]; omega)]
theorem zcx : Bd zeroT := ⟨by show i64 0; unfold i64; omega, by show ByteArray.empty.size ≤ _; exact Nat.zero_le _, by show ByteArray.empty.size ≤ _; exact Nat.zero_le _, by show u64 0; unfold u64; omega, by show i64 0; unfold i64; omega⟩
theorem OB.nil {k : Int} (hk : i64 k) : OB H TB TT S (.mk k zeroT []) (eightT k zeroT none 0 none 0 0) :=
 .leaf S k zeroT zero6 hk (RepS.leaf (H := H) (S := S) (t := zeroT) (a := none) (c := 0) zcx rfl (Nat.zero_le _) (fun _ => rfl)) (.inl rfl)
theorem OBL.nil : OBL H TB TT S [] none 0 := .inl ⟨rfl, rfl, rfl⟩
theorem OBL.mk {k : Int} {t : Tm} {ts : List Value} (h : OBL H TB TT S l a c) (hk : i64 k) (ht : RepS H S t ts) (he : t.args = []) : OB H TB TT S (.mk k t l) (eight k ts a l.length c) := by
 rcases h with ⟨rfl, rfl, rfl⟩ | ⟨b, cells, Si, rfl, h1, h2, h3, h4, h5, h6, h7, h8, h9, h10⟩
 ·exact .leaf S k t ts hk ht (.inl he)
 ·exact .node S k t ts l b c cells Si hk ht he h1 h2 h3 h4 h5 h6 h7 h8 h9 h10
theorem OB.parts {k : Int} {t : Tm} (h : OB H TB TT S (.mk k t l) cs) : ∃ ts a c, cs = eight k ts a l.length c ∧ RepT H t ts ∧ OBL H TB TT S l a c := by
 cases h with
 | leaf _ _ _ ts h1 h2 h3 => exact ⟨ts, none, 0, rfl, h2.rep, .inl ⟨rfl, rfl, rfl⟩⟩
 | node _ _ _ ts _ b c cells Si h1 h2 h3 h4 h5 h6 h7 h8 h9 h10 h11 h12 h13 => exact ⟨ts, some ⟨b, 0, none⟩, c, rfl, h2.rep, .inr ⟨b, cells, Si, rfl, h4, h5, h6, h7, h8, h9, h10, h11, h12, h13⟩⟩
theorem OBL.to (h : OBL H TB TT S l a c) (hk : ∀ n, S n → n < H.next → H'.get n = H.get n ∧ n < H'.next) (hs : ∀ n, S n → S' n) : OBL H' TB TT S' l a c := by
 rcases h with ⟨rfl, rfl, rfl⟩ | ⟨b, cells, Si, rfl, h1, h2, h3, h4, h5, h6, h7, h8, h9, h10⟩
 ·exact .nil
 ·refine .inr ⟨b, cells, Si, rfl, h1, h2, (hk b h4 h5).1.trans h3, hs b h4, (hk b h4 h5).2, h6, fun i u hu => ?_, h8, fun i n hi hn => hs n (h9 i n hi hn), h10⟩
  have hi := (List.getElem?_eq_some_iff.1 hu).1
  exact (h7 i u hu).to (fun n hn hl => hk n (h9 i n hi hn) hl) fun _ hn => hn
theorem OBL.keep (h : OBL H TB TT S l a c) (hx : HX H H') : OBL H' TB TT S l a c := h.to (fun n _ hl => ⟨hx.keep n hl, Nat.lt_of_lt_of_le hl hx.next⟩) fun _ hn => hn
theorem OBL.rep (h : OBL H TB TT S l a c) : ∃ cells, RepBL H l a c cells := by
 rcases h with ⟨rfl, rfl, rfl⟩ | ⟨b, cells, Si, rfl, h1, h2, h3, h4, h5, h6, h7, h8, h9, h10⟩
 ·exact ⟨fun _ => [], Nat.le_refl _, Nat.zero_le _, fun _ => ⟨rfl, rfl⟩, (fun i ad hi => by simp at hi), (fun i u hu => by simp at hu)⟩
 ·refine ⟨fun i => (cells.drop (i * 8)).take 8, h1, h2, (fun h => by cases h), fun i ad hi ha => ?_, fun i u hu => (h7 i u hu).rep⟩
  cases ha
  refine ⟨rfl, ?_⟩
  have hle : i * 8 + 8 ≤ l.length * 8 := by omega
  unfold Heap.load Heap.cells
  simp only [h3, Nat.zero_add]
  rw [if_pos (by rw [Nat.beq_eq, List.length_take, List.length_drop]; omega)]
theorem z4r {t : Tm} {ts : List Value} (r : RepT H t ts) : ts.all one = true ∧ ts.length = 6 := by
 obtain ⟨a, c, cells, rfl, -⟩ := r.inv
 exact ⟨rfl, rfl⟩
theorem RepB.ones (r : RepB H u cs) : cs.all one = true ∧ cs.length = 8 := by
 obtain ⟨ts, a, c, cells, rfl, -, h, -⟩ := r.inv
 obtain ⟨h1, h2⟩ := z4r h
 refine ⟨?_, by simp [h2]⟩
 simp only [List.all_cons, List.all_append, h1, List.all_nil, Bool.and_true, Bool.true_and]
 rfl
theorem zo9 {cells : List Value} : ∀ n, n * 8 ≤ cells.length → (∀ i, i < n → ((cells.drop (i * 8)).take 8).all one = true) → (cells.take (n * 8)).all one = true
 | 0, _, _ => by simp
 | n + 1, h, hc => by
  rw [Nat.succ_mul, List.take_add, List.all_append, zo9 n (by omega) fun i hi => hc i (by omega), hc n (by omega)]; rfl
theorem zoa {cells : List Value} {i n : Nat} (h : i < n) (vs : List Value) (hn : n * 8 ≤ cells.length) : ((cells.take (n * 8) ++ vs).drop (i * 8)).take 8 = (cells.drop (i * 8)).take 8 := by
 have h1 : (cells.take (n * 8)).length = n * 8 := by rw [List.length_take]; omega
 rw [List.drop_append_of_le_length (by omega), List.take_append_of_le_length (by rw [List.length_drop]; omega), List.drop_take, List.take_take]
 congr 1; omega
theorem OBL.push {P : Program} {t : TypeId} (hp : apOk P t TB 8) {N S2 : Nat → Prop} {c1 : Nat} {ad : Addr} (h : OBL H TB TT S l a c) (hw : H.wf)
  (hl : H.load ad (1 * 8) = some cs) (hu : OB H TB TT N u cs) (hN : ∀ n, N n → ¬ S n) (hNl : ∀ n, N n → n < H.next) (hS : ∀ n, S n → n < H.next) (hm : l.length + 1 ≤ most) (h2 : ∀ n, S n ∨ N n ∨ n = H.next → S2 n) :
  ∃ H2, dAp P #[t, t] (.slice a l.length c) (.slice (some ad) 1 c1) H = some (.val (.slice (some ⟨H.next, 0, none⟩) (l.length + 1) (l.length + 1)) H2) ∧ OBL H2 TB TT S2 (l ++ [u]) (some ⟨H.next, 0, none⟩) (l.length + 1) ∧ HK S H H2 ∧ H2.next = H.next + 1 := by
 have hmax : l.length + 1 ≤ maxLen := Nat.le_trans hm (by simp [most, maxLen])
 obtain ⟨hone, hlen⟩ := hu.rep.ones
 rcases h with ⟨rfl, rfl, rfl⟩ | ⟨b, cells, Si, rfl, h1, h2', h3, h4, h5, h6, h7, h8, h9, h10⟩
 ·have hx := (HX.refl hw).new (some (.row cs TB))
  refine ⟨_, z5o hp (by omega) hm hl hone, ?_, hx.hk _, rfl⟩
  refine .inr ⟨H.next, cs, fun _ => N, rfl, Nat.le_refl _, hmax, z0n, h2 _ (.inr (.inr rfl)), Nat.lt_succ_self _, by simp [hlen], fun i v hv => ?_, fun i _ hn => by have := hNl _ hn; omega, fun i n _ hn => h2 n (.inr (.inl hn)), fun i j n hi hj _ _ => by simp at hi hj; omega⟩
  match i, hv with
  | 0, hv =>
   cases hv
   rw [Nat.zero_mul, List.drop_zero, List.take_of_length_le (by omega)]
   exact hu.keep hx
 ·have hcells : (cells.take (l.length * 8)).all one = true := zo9 _ h6 fun i hi => (h7 i _ (List.getElem?_eq_getElem hi)).rep.ones.1
  have hk : HK S H ((H.put b none).new (some (.row (cells.take (l.length * 8) ++ cs) TB))) := ((HK.refl hw).put (.inl h4) h5 none).new _
  have hkeep : ∀ n, n < H.next → n ≠ b → ((H.put b none).new (some (.row (cells.take (l.length * 8) ++ cs) TB))).get n = H.get n := fun n hn hne => by
   rw [z1l (by rw [z07]; exact hn), z2u hne]
  refine ⟨_, z4m hp (by omega) hm hl hone h3 h6 hcells, ?_, hk, rfl⟩
  have htl : (cells.take (l.length * 8)).length = l.length * 8 := by rw [List.length_take]; omega
  refine .inr ⟨H.next, cells.take (l.length * 8) ++ cs, fun i => if i < l.length then Si i else N, rfl, by simp, hmax, z0n, h2 _ (.inr (.inr rfl)), Nat.lt_succ_self _, by simp [hlen, htl]; omega, fun i v hv => ?_, fun i hi hn => ?_, fun i n hi hn => ?_, fun i j n hi hj hn hm => ?_⟩
  ·by_cases hi : i < l.length
   ·rw [List.getElem?_append_left hi] at hv
    rw [zoa hi _ h6]
    simp only [hi, if_true]
    exact (h7 i v hv).to (fun n hn hl => ⟨hkeep n hl fun e => h8 i hi (e ▸ hn), Nat.lt_succ_of_lt hl⟩) fun _ hn => hn
   ·have hil : i = l.length := by
     have := (List.getElem?_eq_some_iff.1 hv).1
     simp at this; omega
    subst hil
    simp at hv; subst hv
    have e8 : ((cells.take (l.length * 8) ++ cs).drop (l.length * 8)).take 8 = cs := by
     rw [List.drop_left' htl, List.take_of_length_le (by omega)]
    rw [e8]
    simp only [hi, if_false]
    exact hu.to (fun n hn hl => ⟨hkeep n hl fun e => hN n hn (e ▸ h4), Nat.lt_succ_of_lt hl⟩) fun _ hn => hn
  ·simp only at hn
   split at hn
   ·rename_i hi'; have := hS _ (h9 i _ hi' hn); simp at this
   ·have := hNl _ hn; simp at this
  ·simp only at hn
   split at hn
   ·rename_i hi'; exact h2 n (.inl (h9 i n hi' hn))
   ·exact h2 n (.inr (.inl hn))
  ·simp only at hn hm
   have hi' : i ≤ l.length := by simp at hi; omega
   have hj' : j ≤ l.length := by simp at hj; omega
   split at hn <;> split at hm
   ·rename_i k1 k2; exact h10 i j n k1 k2 hn hm
   ·rename_i k1 k2; exact absurd (h9 i n k1 hn) (hN n hm)
   ·rename_i k1 k2; exact absurd (h9 j n k2 hm) (hN n hn)
   ·omega
end
end Go.Proofs.hq
end

section
namespace Go.Proofs.hq
open Go Go.RowKit Go.Hb
variable {ok : Ok}
set_option maxRecDepth 10000
attribute [local irreducible] LX LG EL STG SOP SGO SGD SAL SRD SEF SEG SLK SCK ES
theorem zic (n : Int) : lookT [] n = none := rfl
theorem zen : ∀ (m : Nat) (t : Tm), SizeOf.sizeOf t < m → subO (lookT []) t = t
 | 0, _, h => by omega
 | m + 1, t, h => by
  by_cases k1 : t.kind = 1
  ·rw [z5f k1, zic]; rfl
  ·rw [zi0 k1]
   have : t.args.map (subO (lookT [])) = t.args := by
    conv => rhs; rw [← List.map_id t.args]
    exact List.map_congr_left fun u hu => zen m u (by have := z0h hu; omega)
   rw [this]
   obtain ⟨k, s, u, b, v, l⟩ := t
   rfl
theorem zeo {m : Nat} : ∀ l : List Int, allS (lookT []) m l = m
 | [] => rfl
 | n :: l => by unfold allS; rw [List.foldl_cons]; exact zeo l
theorem zid {t : Tm} (h : checkS t = 0) : PutOk t [] := ⟨h, fun i hi => by simp at hi, by rw [zeo]; exact (z0y.1 h).1⟩
def OT (H : Heap) (S : Nat → Prop) (t : Tm) (cs : List Value) : Prop := RepS H S t cs ∧ TopR H 25 S t cs
theorem OT.to {H H' : Heap} {S S' : Nat → Prop} {t : Tm} {cs : List Value} (h : OT H S t cs) (hk : ∀ n, S n → n < H.next → H'.get n = H.get n ∧ S' n ∧ n < H'.next) : OT H' S' t cs := ⟨h.1.to hk, h.2.heap hk⟩
theorem OT.rep {H : Heap} {S : Nat → Prop} {t : Tm} {cs : List Value} (h : OT H S t cs) : RepT H t cs := h.1.rep
set_option maxHeartbeats 2000000 in
theorem zcy {t : Tm} {cs : List Value} {H : Heap} (r0 : RepT H t cs) (hc : checkS t = 0) (hw : H.wf) :
  EvF Tryd.prog okT 37 [.agg ⟨cs⟩] H fun v H' => HX H H' ∧ ∃ out, v = .agg ⟨out⟩ ∧ OT H' (Rg H.next H'.next) t out := by
 obtain ⟨a, c, cells, rfl, -⟩ := r0.six
 refine EvF.enter rfl Tryd.func37 (by decide) rfl ?_
 (repeat refine EvC.seq ?_); refine EvC.reg ?_; simp (disch := first | omega | rfl) only [sB, initTm, dBox, dAlloc, Value.cells, one, zr25]
 obtain ⟨H2, e2, hx2, gt, gq, hn2, hw2⟩ := new2 hw (.row (six t a c) 25) (.row zero6 25)
 simp only [e2]
 clear e2
 have qt := row6 gt
 (repeat refine EvC.seq ?_); refine EvC.reg ?_; simp (disch := first | omega | rfl) only [sB, Nat.reduceEqDiff, reduceCtorEq, ld25, cl61, qt]
 have rb : RepB7 H2 [] none 0 := ⟨Nat.le_refl _, Nat.zero_le _, fun i hi => by simp at hi⟩
 refine (zo7 (r0.mono hx2 hw) rb hw2).mono ?_
 rintro v H3 ⟨hx3, ⟨-, out, rfl, hrep, htop⟩ | ⟨hn, -⟩⟩
 rotate_left
 ·exact absurd (zid hc) hn
 rw [zen _ t (Nat.lt_succ_self _)] at hrep htop
 obtain ⟨a3, c3, z8k, rfl, -⟩ := hrep.rep.six
 have gq3 := hx3.get hw2 gq
 try simp (disch := first | omega | rfl) only [sB, dAlloc, Nat.reduceEqDiff, Nat.reduceAdd, one, reduceCtorEq, zr25, st25]
 obtain ⟨H4, e4, hx4, g4, hn4, hw4⟩ := z0w hx3.wf (.row zero6 25) (.row (six t a3 c3) 25)
 simp only [e4]
 have q4 := row6 g4
 have gq4 := hx4.get hx3.wf gq3
 have n3 := hx3.next
 repeat' (first | refine EvC.seq ?_ | refine EvC.scope ?_ | refine EvC.block ?_ | (refine EvC.skip ?_) | (refine EvC.exit ?_) | (refine EvC.ret ?_; try simp only [z01, z00]) | (refine EvC.reg ?_; simp (disch := first | omega | rfl) only [sB, Nat.reduceEqDiff, Nat.reduceAdd, one, reduceCtorEq, ld25, st25, q4, gq4]))
 refine z0a rfl (by simp only [sB, Nat.reduceEqDiff, reduceCtorEq] <;> rfl) (by simp only [sB, Nat.reduceAdd, cutC, ld25] <;> rfl) ⟨((hx2.trans hx3).trans hx4).pt (by omega) gq4 _, _, rfl, OT.to ⟨hrep, htop⟩ fun n hn hl => ?_⟩
 have := hn.1
 exact ⟨by rw [get_put, if_neg (by omega)]; exact hx4.keep n hl, ⟨by omega, by rw [z07]; omega⟩, by rw [z07]; omega⟩
theorem z6h {s : ByteArray} {H : Heap} (hw : H.wf) : EvF Tryd.prog okT 39 [.string s] H fun v H' => v = .agg ⟨six (atmT s) none 0⟩ ∧ HX H H' := by
 refine EvF.enter rfl Tryd.func39 (by decide) rfl ?_
 repeat' (first | refine EvC.seq ?_ | refine EvC.scope ?_ | refine EvC.block ?_ | (refine EvC.skip ?_) | (refine EvC.exit ?_) | (refine EvC.ret ?_; try simp only [z01, z00]) | (refine EvC.reg ?_; simp (disch := first | omega | rfl) only [sB, initTm, dAlloc, Nat.reduceEqDiff, Nat.reduceAdd, Value.cells, one, reduceCtorEq, Nat.reduceLeDiff, layC, zr25, bd25, st25]))
 exact z0a rfl (by simp only [sB, Nat.reduceEqDiff, reduceCtorEq] <;> rfl) (by simp only [sB, Nat.reduceAdd, cutC, ld25] <;> rfl) ⟨rfl, ((HX.refl hw).new _).put (Nat.le_refl _) (Nat.lt_succ_self _) _⟩
theorem z2h {s : ByteArray} {a : Option Addr} {n c : Nat} {H : Heap} (hw : H.wf) :
  EvF Tryd.prog okT 44 [.string s, .slice a n c] H fun v H' => v = .agg ⟨[.int .i64 5, .string s, .string ByteArray.empty, .int .u64 0, .int .i64 0, .slice a n c]⟩ ∧ HX H H' := by
 refine EvF.enter rfl Tryd.func44 (by decide) rfl ?_
 repeat' (first | refine EvC.seq ?_ | refine EvC.scope ?_ | refine EvC.block ?_ | (refine EvC.skip ?_) | (refine EvC.exit ?_) | (refine EvC.ret ?_; try simp only [z01, z00]) | (refine EvC.reg ?_; simp (disch := first | omega | rfl) only [sB, initTm, dAlloc, Nat.reduceEqDiff, Nat.reduceAdd, Value.cells, one, reduceCtorEq, Nat.reduceLeDiff, layC, zr25, bd25, st25]))
 exact z0a rfl (by simp only [sB, Nat.reduceEqDiff, reduceCtorEq] <;> rfl) (by simp only [sB, Nat.reduceAdd, cutC, ld25] <;> rfl) ⟨rfl, ((HX.refl hw).new _).put (Nat.le_refl _) (Nat.lt_succ_self _) _⟩
theorem z8r {t : Tm} {cs : List Value} {s : ByteArray} {H : Heap} (r : RepT H t cs) (hw : H.wf) :
  EvF Tryd.prog okT 40 [.agg ⟨cs⟩, .string s] H fun v H' => v = .bool (decide (isF t s)) ∧ HX H H' := by
 obtain ⟨a, c, cells, rfl, -⟩ := r.six
 refine EvF.enter rfl Tryd.func40 (by decide) rfl ?_
 (repeat refine EvC.seq ?_); refine EvC.reg ?_; simp (disch := first | omega | rfl) only [sB, initTm, dBox, Value.cells, one, reduceCtorEq]
 obtain ⟨H2, e2, hx2, gt, hn2, hw2⟩ := new1 hw (.row (six t a c) 25)
 simp only [e2]
 have qt := row6 gt
 by_cases k5 : t.kind = 5
 rotate_left
 ·have hd : decide (isF t s) = false := decide_eq_false fun h => k5 h.1
  repeat' (first | refine EvC.seq ?_ | refine EvC.scope ?_ | refine EvC.block ?_ | (refine EvC.skip ?_) | (refine EvC.exit ?_) | (refine EvC.ret ?_; try simp only [z01, z00]) | (refine EvC.reg ?_; simp (disch := first | omega | rfl) only [sB, Nat.reduceEqDiff, reduceCtorEq, z0e, ld3, qt, z0l k5, Bool.false_eq_true]))
  exact z05 rfl (by simp only [sB, Nat.reduceEqDiff, reduceCtorEq] <;> rfl) ⟨by rw [hd], hx2⟩
 by_cases kn : t.name = s
 rotate_left
 ·have hd : decide (isF t s) = false := decide_eq_false fun h => kn h.2.1
  repeat' (first | refine EvC.seq ?_ | refine EvC.scope ?_ | refine EvC.block ?_ | (refine EvC.skip ?_) | (refine EvC.exit ?_) | (refine EvC.ret ?_; try simp only [z01, z00]) | (refine EvC.reg ?_; simp (disch := first | omega | rfl) only [sB, Nat.reduceEqDiff, reduceCtorEq, z0e, ld3, z1v, ld9, qt, z0j k5, z0v, z8p kn, Bool.false_eq_true]))
  exact z05 rfl (by simp only [sB, Nat.reduceEqDiff, reduceCtorEq] <;> rfl) ⟨by rw [hd], hx2⟩
 by_cases k2 : t.args.length = 2
 ·have hd : decide (isF t s) = true := decide_eq_true ⟨k5, kn, k2⟩
  have k2' : (t.args.length : Int) = 2 := by omega
  repeat' (first | refine EvC.seq ?_ | refine EvC.scope ?_ | refine EvC.block ?_ | (refine EvC.skip ?_) | (refine EvC.exit ?_) | (refine EvC.ret ?_; try simp only [z01, z00]) | (refine EvC.reg ?_; simp (disch := first | omega | rfl) only [sB, Nat.reduceEqDiff, reduceCtorEq, z0e, ld3, z1v, ld9, z0o, ld23, ln23, qt, z0j k5, z0v, z67 kn, z0j k2']))
  exact z05 rfl (by simp only [sB, Nat.reduceEqDiff, reduceCtorEq] <;> rfl) ⟨by rw [hd], hx2⟩
 ·have hd : decide (isF t s) = false := decide_eq_false fun h => k2 h.2.2
  have k2' : (t.args.length : Int) ≠ 2 := by omega
  repeat' (first | refine EvC.seq ?_ | refine EvC.scope ?_ | refine EvC.block ?_ | (refine EvC.skip ?_) | (refine EvC.exit ?_) | (refine EvC.ret ?_; try simp only [z01, z00]) | (refine EvC.reg ?_; simp (disch := first | omega | rfl) only [sB, Nat.reduceEqDiff, reduceCtorEq, z0e, ld3, z1v, ld9, z0o, ld23, ln23, qt, z0j k5, z0v, z67 kn, z0l k2']))
  exact z05 rfl (by simp only [sB, Nat.reduceEqDiff, reduceCtorEq] <;> rfl) ⟨by rw [hd], hx2⟩
theorem ld1 {H : Heap} {p n : Nat} {cs : List Value} {T : TypeId} (h : H.get p = some (.row cs T)) (hn : cs.length = n) : H.load ⟨p, 0, none⟩ n = some cs := by
 unfold Heap.load Heap.cells
 simp only [h, List.drop_zero]
 rw [if_pos (by rw [Nat.beq_eq, List.length_take]; omega), List.take_of_length_le (by omega)]
theorem z4e {s : ByteArray} {l : List Tm} (h : s.size ≤ maxLen) : Bd (cmpT s l) := ⟨by show i64 5; decide, h, by show ByteArray.empty.size ≤ _; decide, by show u64 0; decide, by show i64 0; decide⟩
theorem OT.comp {H : Heap} {S : Nat → Prop} {s : ByteArray} {l : List Tm} {b c : Nat} {cells : List Value} (hs : s.size ≤ maxLen) (hg : H.get b = some (.row cells 25)) (hS : S b) (hl : l.length * 6 ≤ cells.length) (hc : l.length ≤ c) (hm : c ≤ maxLen) (hw : H.wf)
  (hch : ∀ (j : Nat) (hj : j < l.length), RepS H S l[j] ((cells.drop (j * 6)).take 6)) : OT H S (cmpT s l) (six (cmpT s l) (some ⟨b, 0, none⟩) c) :=
 ⟨RepS.row (t := cmpT s l) (z4e hs) rfl hg hS (hw _ _ hg) hl hc hm hch, .inr ⟨b, c, cells, rfl, hg, hS, hw _ _ hg, hl, fun j hj => RepT.all (hch j hj).rep⟩⟩
set_option maxHeartbeats 2000000 in
theorem zbt {t : Tm} {cs : List Value} {H : Heap} (r0 : RepT H t cs) (hc : checkS t = 0) (hw : H.wf) :
  EvF Tryd.prog okT 48 [.agg ⟨cs⟩] H fun v H' => HX H H' ∧ ∃ out, v = .agg ⟨out⟩ ∧ OB H' 30 25 (Rg H.next H'.next) (callB t) out := by
 obtain ⟨a, c, cells, rfl, -⟩ := r0.six
 refine EvF.enter rfl Tryd.func48 (by decide) rfl ?_
 (repeat refine EvC.seq ?_); refine EvC.reg ?_; simp (config := { maxSteps := 2000000 }) (disch := first | omega | rfl) only [sB, initTm, dBox, dAlloc, Value.cells, one, zr30]
 obtain ⟨H2, e2, hx2, gt, gq, hn2, hw2⟩ := new2 hw (.row (six t a c) 25) (.row zero8 30)
 simp only [e2]
 clear e2
 have qt := row6 gt
 (repeat refine EvC.seq ?_); refine EvC.reg ?_; simp (config := { maxSteps := 2000000 }) (disch := first | omega | rfl) only [sB, Nat.reduceEqDiff, Nat.reduceAdd, Value.cells, reduceCtorEq, layC, ld25, cl37, z59, qt]
 refine (zcy (r0.mono hx2 hw) hc hw2).mono ?_
 rintro v H3 ⟨hx3, out, rfl, hot⟩
 obtain ⟨a3, c3, z8k, rfl, -⟩ := hot.rep.six
 have gq3 := hx3.get hw2 gq
 repeat' (first | refine EvC.seq ?_ | refine EvC.scope ?_ | refine EvC.block ?_ | (refine EvC.skip ?_) | (refine EvC.exit ?_) | (refine EvC.ret ?_; try simp only [z01, z00]) | (refine z0i ?_; simp (config := { maxSteps := 2000000 }) (disch := first | omega | rfl) only [sB, Nat.reduceEqDiff, Nat.reduceAdd, Value.cells, one, reduceCtorEq, Nat.reduceLeDiff, layC, cl44, bd30]))
 obtain ⟨H4, e4, hx4, g4, hn4, hw4⟩ := new1 hx3.wf (.row (six t a3 c3) 25)
 simp only [e4]
 refine (z2h hw4).mono ?_
 rintro v H5 ⟨rfl, hx5⟩
 have gq5 := hx5.get hw4 (hx4.get hx3.wf gq3)
 have g5 := hx5.get hw4 g4
 have n3 := hx3.next
 have n5 := hx5.next
 have hx35 := hx4.trans hx5
 repeat' (first | refine EvC.seq ?_ | refine EvC.scope ?_ | refine EvC.block ?_ | (refine EvC.skip ?_) | (refine EvC.exit ?_) | (refine EvC.ret ?_; try simp only [z01, z00]) | (refine z0i ?_; simp (config := { maxSteps := 2000000 }) (disch := first | omega | rfl) only [sB, Nat.reduceEqDiff, Nat.reduceAdd, one, reduceCtorEq, Nat.reduceLeDiff, st30, gq5]))
 refine z0a rfl (by simp only [sB, Nat.reduceEqDiff, reduceCtorEq] <;> rfl) (by simp only [sB, Nat.reduceAdd, cutC, ld30] <;> rfl) ⟨((hx2.trans hx3).trans hx35).pt (by omega) gq5 _, _, rfl, ?_⟩
 have hr5 : RepS H5 (Rg H.next H5.next) t (six t a3 c3) := hot.1.to fun n hn hl => ⟨hx35.keep n hl, ⟨by have := hn.1; omega, by omega⟩, by omega⟩
 have ho : OT H5 (fun n => Rg H.next H5.next n ∧ n ≠ H.next + 1) (cmpT sCall [t]) (six (cmpT sCall [t]) (some ⟨H3.next, 0, none⟩) 1) := by
  refine OT.comp (by decide) g5 ⟨⟨by omega, by omega⟩, by omega⟩ (Nat.le_refl _) (Nat.le_refl _) (by decide) hx5.wf fun j hj => ?_
  match j, hj with
  | 0, _ => exact hot.1.to fun n hn hl => ⟨hx35.keep n hl, ⟨⟨by have := hn.1; omega, by omega⟩, by have := hn.1; omega⟩, by omega⟩
 refine OB.to (S := fun n => Rg H.next H5.next n ∧ n ≠ H.next + 1) (.leaf _ 3 _ _ (by decide) ho.1 ho.2) (fun n hn hl => ⟨by rw [get_put, if_neg hn.2], by rw [z07]; exact hl⟩) fun n hn => ⟨hn.1.1, by rw [z07]; exact hn.1.2⟩
def RepE (H : Heap) : Er → Value → Prop
 | .ok, v => v = .nilIface
 | .num e, v => v = .iface 35 (.int .i64 e)
 | .ball t, v => ∃ p a c, v = .iface 72 (.pointer (some ⟨p, 0, none⟩)) ∧ H.get p = some (.row (six t a c) 75) ∧ RepT H t (six t a c)
theorem RepE.mono {H H' : Heap} {e : Er} {v : Value} (h : RepE H e v) (hx : HX H H') (hw : H.wf) : RepE H' e v := by
 cases e with
 | ok => exact h
 | num e => exact h
 | ball t =>
  obtain ⟨p, a, c, h1, h2, h3⟩ := h
  exact ⟨p, a, c, h1, hx.get hw h2, h3.mono hx hw⟩
def RepES (H : Heap) (S : Nat → Prop) (e : Er) (v : Value) : Prop := ∀ G : Heap, (∀ n, S n → n < H.next → G.get n = H.get n) → RepE G e v
theorem RepES.rep {H : Heap} {S : Nat → Prop} {e : Er} {v : Value} (h : RepES H S e v) : RepE H e v := h H fun _ _ _ => rfl
theorem RepES.to {H H2 : Heap} {S S2 : Nat → Prop} {e : Er} {v : Value} (h : RepES H S e v) (hk : ∀ n, S n → n < H.next → H2.get n = H.get n ∧ S2 n ∧ n < H2.next) : RepES H2 S2 e v := fun G hG => h G fun n hn hl => by
 obtain ⟨a, b, c⟩ := hk n hn hl
 rw [hG n b c, a]
theorem RepES.fine {H : Heap} {S : Nat → Prop} : RepES H S .ok .nilIface := fun _ _ => rfl
theorem RepES.num {H : Heap} {S : Nat → Prop} {e : Int} : RepES H S (.num e) (.iface 35 (.int .i64 e)) := fun _ _ => rfl
theorem RepES.ball {H : Heap} {S : Nat → Prop} {t : Tm} {p : Nat} {a : Option Addr} {c : Nat} (hg : H.get p = some (.row (six t a c) 75)) (hS : S p) (hw : H.wf) (hr : RepS H S t (six t a c)) :
  RepES H S (.ball t) (.iface 72 (.pointer (some ⟨p, 0, none⟩))) := fun G hG => ⟨p, a, c, rfl, by rw [hG p hS (hw _ _ hg)]; exact hg, hr G hG⟩
theorem zob : mkiOk Tryd.prog 72 = true := by kernel_rfl
theorem zmy : mkiOk Tryd.prog 35 = true := by kernel_rfl
set_option maxHeartbeats 2000000 in
theorem zep {t : Tm} {cs : List Value} {S : Nat → Prop} {H : Heap} (r0 : RepS H S t cs) (hw : H.wf) (hS : ∀ n, S n → n < H.next) :
  EvF Tryd.prog okT 41 [.agg ⟨cs⟩] H fun v H' => HX H H' ∧ RepES H' (fun n => S n ∨ (H.next ≤ n ∧ n < H'.next)) (.ball t) v := by
 obtain ⟨a, c, cells, rfl, -⟩ := r0.rep.six
 refine EvF.enter rfl Tryd.func41 (by decide) rfl ?_
 (repeat refine EvC.seq ?_); refine EvC.reg ?_; simp (config := { maxSteps := 2000000 }) (disch := first | omega | rfl) only [sB, initTm, dBox, Value.cells, one]
 obtain ⟨H2, e2, hx2, gt, hn2, hw2⟩ := new1 hw (.row (six t a c) 25)
 simp only [e2]
 clear e2
 have qt := row6 gt
 repeat' (first | refine EvC.seq ?_ | refine EvC.scope ?_ | refine EvC.block ?_ | (refine EvC.skip ?_) | (refine EvC.exit ?_) | (refine EvC.ret ?_; try simp only [z01, z00]) | (refine EvC.reg ?_; simp (config := { maxSteps := 2000000 }) (disch := first | omega | rfl) only [sB, dBox, Nat.reduceEqDiff, Nat.reduceAdd, Value.cells, one, reduceCtorEq, layC, ld25, bd75, qt, z1j, z9o zob]))
 obtain ⟨H3, e3, hx3, g3, hn3, hw3⟩ := new1 hw2 (.row (six t a c) 75)
 simp only [e3]
 refine z05 rfl (by simp only [sG, Nat.reduceEqDiff, reduceCtorEq] <;> rfl) ⟨hx2.trans hx3, RepES.ball g3 (.inr ⟨by omega, by omega⟩) hw3 (r0.to fun n hn hl => ⟨by rw [hx3.keep n (by omega), hx2.keep n hl], .inl hn, by omega⟩)⟩
def stopCh : List PanicEntry := [{ v := .iface 62 (.agg #[]), recovered := false }]
theorem zk1 : dmight Tryd.prog 27 = .agg ⟨zero8⟩ := by kernel_rfl
theorem zmz : dmight Tryd.prog 50 = .agg ⟨zero8⟩ := by kernel_rfl
def BodyEnd (H : Heap) (o : Option Bdy) (e : En) (H' : Heap) : Prop := HX H H' ∧ match o with
 | some b => ∃ out, e = .ret (.agg ⟨out⟩) ∧ OB H' 30 25 (Rg H.next H'.next) b out
 | none => e = .panic stopCh
def BodyP (m : Nat) : Prop := ∀ {t : Tm} {cs : List Value} {H : Heap}, SizeOf.sizeOf t < m → RepT H t cs → checkS t = 0 → H.wf → EvG Tryd.prog okT 27 [.agg ⟨cs⟩] H (BodyEnd H (bodyF m t))
theorem z4s {f : Tm → Option Bdy} : ∀ {l : List Tm} {bs : List Bdy} {t : Tm} {b : Bdy}, subBL f l = some bs → f t = some b → subBL f (l ++ [t]) = some (bs ++ [b])
 | [], bs, t, b, h, hb => by
  cases h
  simp [subBL, hb]
 | u :: l, bs, t, b, h, hb => by
  rw [subBL] at h
  split at h
  ·rename_i c cs h1 h2
   cases h
   rw [List.cons_append, subBL, h1, z4s h2 hb]; rfl
  ·cases h
theorem z5g {f : Tm → Option Bdy} : ∀ {l : List Tm} {t : Tm}, t ∈ l → f t = none → subBL f l = none
 | u :: l, t, h, hn => by
  rw [subBL]
  rcases List.mem_cons.1 h with rfl | h
  ·rw [hn]
  ·rw [z5g h hn]
   cases f u <;> rfl
theorem zeq {f : Tm → Option Bdy} : ∀ {l : List Tm} {bs : List Bdy}, subBL f l = some bs → bs.length = l.length
 | [], bs, h => by cases h; rfl
 | u :: l, bs, h => by
  rw [subBL] at h
  split at h
  ·rename_i c cs h1 h2
   cases h
   simp [zeq h2]
  ·cases h
set_option maxHeartbeats 8000000 in
theorem z7r {m : Nat} (hb : BodyP m) {k : Int} {l : List Tm} {a : Option Addr} {c : Nat} {cells : Nat → List Value} {H : Heap} (hk : i64 k) (rl : RepL H l a c cells) (hl : l.length ≤ 64) (hs : ∀ t ∈ l, SizeOf.sizeOf t < m ∧ checkS t = 0) (hw : H.wf) :
  EvG Tryd.prog okT 50 [.int .i64 k, .slice a l.length c] H (BodyEnd H (subBF (bodyF m) k l)) := by
 have apB : apOk Tryd.prog 28 30 8 := ap28
 refine EvG.enter rfl Tryd.func50 (by decide) rfl ?_
 (repeat refine EvC.seq ?_); refine EvC.reg ?_; simp (config := { maxSteps := 2000000 }) (disch := first | omega | rfl) only [sA, initTm, dAlloc, zr30]
 obtain ⟨H2, e2, hx2, g4, hn2, hw2⟩ := new1 hw (.row zero8 30)
 simp only [e2]
 clear e2
 (repeat refine EvC.seq ?_); refine EvC.reg ?_; simp (config := { maxSteps := 2000000 }) (disch := first | omega | rfl) only [sB, dAlloc, Nat.reduceEqDiff, Nat.reduceAdd, Value.cells, one, reduceCtorEq, Nat.reduceLeDiff, layC, zr30, bd30, st30]
 obtain ⟨H3, e3, hx3, g5, hn3, hw3⟩ := z0w hw2 (.row zero8 30) (.row [.int .i64 k, .int .i64 0, .string ByteArray.empty, .string ByteArray.empty, .int .u64 0, .int .i64 0, .slice none 0 0, .slice none 0 0] 30)
 simp only [e3]
 clear e3
 rw [hn2] at g5 hn3
 have g5 : H3.get (H.next + 1) = some (.row (eightT k zeroT none 0 none 0 0) 30) := g5
 have g4 := hx3.get hw2 g4
 have hx := hx2.trans hx3
 have hmax := rl.max
 (repeat refine EvC.seq ?_); refine EvC.reg ?_; simp (config := { maxSteps := 2000000 }) (disch := first | omega | rfl) only [sB, Nat.reduceEqDiff, reduceCtorEq, ln23]
 refine EvC.join (fun st => ∃ tm G bs ao co, st = ⟨tm, [], G⟩ ∧ tm.get 4 = some (.pointer (some ⟨H.next, 0, none⟩)) ∧ tm.get 5 = some (.pointer (some ⟨H.next + 1, 0, none⟩)) ∧ G.get H.next = some (.row zero8 30) ∧
  G.get (H.next + 1) = some (.row (eightT k zeroT none 0 ao bs.length co) 30) ∧ subBL (bodyF m) l = some bs ∧ OBL G 30 25 (fun n => H.next + 2 ≤ n ∧ n < G.next) bs ao co ∧ HX H G) ?_ ?_
 ·refine EvC.block (EvC.loop (fun k' st => ∃ tm G i bs ao co, st = ⟨tm, [], G⟩ ∧ k' = l.length - i ∧ i ≤ l.length ∧ bs.length = i ∧ tm.get 4 = some (.pointer (some ⟨H.next, 0, none⟩)) ∧ tm.get 5 = some (.pointer (some ⟨H.next + 1, 0, none⟩)) ∧
   tm.get 10 = some (.slice a l.length c) ∧ tm.get 11 = some (.int .i64 l.length) ∧ tm.get 12 = some (.int .i64 (i : Nat)) ∧ G.get H.next = some (.row zero8 30) ∧ G.get (H.next + 1) = some (.row (eightT k zeroT none 0 ao i co) 30) ∧
   subBL (bodyF m) (l.take i) = some bs ∧ OBL G 30 25 (fun n => H.next + 2 ≤ n ∧ n < G.next) bs ao co ∧ HX H G) ?_ l.length _ ?_)
  rotate_left
  ·exact ⟨_, _, 0, [], none, 0, rfl, rfl, Nat.zero_le _, rfl, (by simp only [sG, Nat.reduceEqDiff, reduceCtorEq] <;> rfl), by rw [← hn2]; first | (simp only [sG, Nat.reduceEqDiff, reduceCtorEq]; rfl) | simp only [sG, Nat.reduceEqDiff, reduceCtorEq], (by simp only [sG, Nat.reduceEqDiff, reduceCtorEq] <;> rfl), (by simp only [sG, Nat.reduceEqDiff, reduceCtorEq] <;> rfl), (by simp only [sB, Nat.reduceEqDiff, reduceCtorEq] <;> rfl), g4, g5, rfl, .nil, hx⟩
  rintro k' st ⟨tm, G, i, bs, ao, co, rfl, rfl, hi, hbl, t4, t5, t10, t11, t12, g4G, g5G, hsub, hobl, hxG⟩
  have hwG := hxG.wf
  by_cases hlt : i < l.length
  rotate_left
  ·repeat' (first | refine EvC.seq ?_ | refine EvC.scope ?_ | refine EvC.block ?_ | (refine EvC.skip ?_) | (refine EvC.exit ?_; try simp only [sB]) | (refine EvC.ret ?_; try simp only [z01, z00]) | (refine EvC.reg ?_; simp (config := { maxSteps := 2000000 }) (disch := first | omega | rfl) only [sA, t11, t12, decn hlt]) | (refine EvC.condT ?_ ?_; simp (config := { maxSteps := 2000000 }) (disch := first | omega | rfl) only [sB]; refine z06 ?_) | (refine EvC.condF ?_ ?_; simp (config := { maxSteps := 2000000 }) (disch := first | omega | rfl) only [sB]; refine z06 ?_))
   obtain rfl : i = l.length := by omega
   rw [List.take_length] at hsub
   exact ⟨_, _, bs, ao, co, rfl, (by simp only [sG, Nat.reduceEqDiff, t4] <;> rfl), (by simp only [sG, Nat.reduceEqDiff, t5] <;> rfl), g4G, by rw [hbl]; exact g5G, hsub, hobl, hxG⟩
  obtain ⟨b, o, a1, c1, rfl, hld, hr1⟩ := rl.el hlt
  have hld1 := hxG.load hw hld
  (repeat refine EvC.seq ?_); refine EvC.reg ?_; simp (config := { maxSteps := 2000000 }) (disch := first | omega | rfl) only [sA, t11, t12, decl hlt]
  (repeat refine EvC.seq ?_); refine EvC.condT (by simp (config := { maxSteps := 2000000 }) (disch := first | omega | rfl) only [sB]) ?_; (try refine EvC.skip ?_); (try simp only [z02, z03])
  refine EvC.seq ?_
  refine EvC.block ?_
  (repeat refine EvC.seq ?_); refine EvC.reg ?_; simp (config := { maxSteps := 2000000 }) (disch := first | omega | rfl) only [sB, dAlloc, Nat.reduceEqDiff, Nat.reduceAdd, one, ia23, ld25, zr25, st25, t10, t12, hld1]
  obtain ⟨H4, e4, hx4, g7, hn4, hw4⟩ := z0w hwG (.row zero6 25) (.row (six l[i] a1 c1) 25)
  simp only [e4]
  clear e4
  have q7 := row6 g7
  have hxb : HX G ⟨H4.next + 8, H4.t⟩ := hx4.bump 8
  have hG4 := hx4.next
  have g54 := hx4.get hwG g5G
  have q54 := row8 g54
  have hsi := hs l[i] (List.getElem_mem _)
  have hlg := hwG _ _ g5G
  subst hbl
  have hsg : ∀ n, (H.next + 2 ≤ n ∧ n < G.next) → n < G.next := fun n hn => hn.2
  cases hbi : bodyF m l[bs.length] with
  | some bd =>
   (repeat refine EvC.seq ?_); refine EvC.drw [([(2, 0)], some 3), ([(0, 0), (1, 0), (4, 1)], some 5), ([(6, 2)], some 7), ([], none)] (by kernel_rfl) ?_; simp (config := { maxSteps := 2000000 }) (disch := first | omega | rfl) only [sD, sB, Nat.reduceEqDiff, Nat.reduceAdd, reduceCtorEq, ld25, cl27, isAlloc, isRead, reduceCtorEq, q7]
   refine EvG.toF (hb hsi.1 (hr1.mono (hxG.trans hxb) hw) hsi.2 hxb.wf) ?_
   rintro e H5 ⟨hx5, he⟩
   rw [hbi] at he
   obtain ⟨out, rfl, hob⟩ := he
   refine ⟨_, rfl, ?_⟩
   obtain ⟨ta, tc, sa, sc, rfl⟩ := hob.rep.eight
   have n5 : H4.next + 8 ≤ H5.next := hx5.next
   have hx45 : HX G H5 := hxb.trans hx5
   obtain ⟨H6, e6⟩ : ∃ H6, H5.put (H4.next + 4) (some (.row (eightT bd.kind bd.term ta tc sa bd.sub.length sc) 30)) = H6 := ⟨_, rfl⟩
   have hx6 : HX G H6 := by rw [← e6]; exact hx45.put (by omega) (by omega) _
   have hn6 : H6.next = H5.next := by rw [← e6, z07]
   have g6 : H6.get (H4.next + 4) = some (.row (eightT bd.kind bd.term ta tc sa bd.sub.length sc) 30) := by rw [← e6, get_put, if_pos rfl]
   have hob6 : OB H6 30 25 (Rg (H4.next + 8) H5.next) bd (eightT bd.kind bd.term ta tc sa bd.sub.length sc) := hob.to (fun n hn hl => ⟨by have : H4.next + 8 ≤ n := hn.1; rw [← e6, get_put, if_neg (by omega)], by omega⟩) fun _ hn => hn
   obtain ⟨H7, e7, hobl7, hk7, hn7⟩ := OBL.push (N := Rg (H4.next + 8) H5.next) (S2 := fun n => H.next + 2 ≤ n ∧ n < H6.next + 1) (c1 := 1) apB (hobl.keep hx6) hx6.wf (ld1 g6 rfl) hob6 (fun n hn hs => by have : H4.next + 8 ≤ n := hn.1; have := hs.2; omega) (fun n hn => by have := hn.2; omega)
    (fun n hn => by have := hn.2; omega) (by unfold most; omega) (fun n hn => by
     rcases hn with hn | hn | hn
     ·exact ⟨hn.1, by omega⟩
     ·exact ⟨by have : H4.next + 8 ≤ n := hn.1; omega, by have := hn.2; omega⟩
     ·exact ⟨by omega, by omega⟩)
   have g55 := hx5.get hxb.wf (show (⟨H4.next + 8, H4.t⟩ : Heap).get (H.next + 1) = _ from g54)
   have q55 := row8 g55
   have g57 := hk7.get hx6.wf (hx6.get hwG g5G) (fun hs => by have := hs.1; omega)
   have g47 := hk7.get hx6.wf (hx6.get hwG g4G) (fun hs => by have := hs.1; omega)
   have hx7 : HX H H7 := (hxG.trans hx6).then hk7 fun n hn hs => by have := hs.1; omega
   repeat' (first | refine EvC.seq ?_ | refine EvC.scope ?_ | refine EvC.block ?_ | (refine EvC.skip ?_) | (refine EvC.exit ?_) | (refine EvC.ret ?_; try simp only [z01, z00]) | (refine EvC.reg ?_; simp (config := { maxSteps := 2000000 }) (disch := first | omega | rfl) only [sB, Nat.reduceEqDiff, t12, z0c]) | (refine z1b ?_; simp (config := { maxSteps := 2000000 }) (disch := first | omega | rfl) only [sV, sD, sB, Nat.reduceEqDiff, Nat.reduceAdd, Value.cells, one, reduceCtorEq, layC, z2c, ld28, ze8, st28, t5, q54, q55, e6, e7, g57, isAlloc, isRead, dalloc, reduceCtorEq]))
   refine ⟨l.length - (bs.length + 1), by omega, _, _, bs.length + 1, bs ++ [bd], some ⟨H6.next, 0, none⟩, bs.length + 1, rfl, rfl, by omega, by simp, (by simp only [sG, Nat.reduceEqDiff, t4] <;> rfl), (by simp only [sG, Nat.reduceEqDiff, t5] <;> rfl), (by simp only [sG, Nat.reduceEqDiff, t10] <;> rfl), (by simp only [sG, Nat.reduceEqDiff, t11] <;> rfl), (by simp only [sB, Nat.reduceEqDiff] <;> rfl), by rw [get_put, if_neg (by omega)]; exact g47, by rw [get_put, if_pos rfl],
    by rw [← List.take_append_getElem hlt]; exact z4s hsub hbi, hobl7.to (fun n hn hl => ⟨by rw [get_put, if_neg (by omega)], by rw [z07]; exact hl⟩) fun n hn => ⟨hn.1, by rw [z07, hn7]; exact hn.2⟩, hx7.pt (by omega) g57 _⟩
  | none =>
   obtain ⟨Hq, eq⟩ : ∃ Hq, (⟨H4.next + 8, H4.t⟩ : Heap).put (H4.next + 4) (some (.row zero8 30)) = Hq := ⟨_, rfl⟩
   have hxq : HX G Hq := by rw [← eq]; exact hxb.put (by omega) (by show _ < H4.next + 8; omega) _
   have gq : Hq.get (H4.next + 4) = some (.row zero8 30) := by rw [← eq, get_put, if_pos rfl]
   obtain ⟨H7, e7, -, hk7, -⟩ := OBL.push (N := fun _ => False) (S2 := fun _ => True) (u := zeroB) (c1 := 1) apB (hobl.keep hxq) hxq.wf (ld1 gq rfl) (OB.nil (by decide)) (fun _ h => h.elim) (fun _ h => h.elim) (fun n hn => by have := hn.2; have := hxq.next; omega) (by unfold most; omega) (fun _ _ => trivial)
   have g57 := hk7.get hxq.wf (hxq.get hwG g5G) (fun hs => by have := hs.1; omega)
   (repeat refine EvC.seq ?_); refine EvC.drwP 3 _ [(2, 0)] [([(0, 0), (1, 0), (4, 1)], some 5), ([(6, 2)], some 7), ([], none)] (by kernel_rfl) (by kernel_rfl) rfl rfl ?_; simp (config := { maxSteps := 2000000 }) (disch := first | omega | rfl) only [sV, sD, sB, Nat.reduceEqDiff, Nat.reduceAdd, Value.cells, one, reduceCtorEq, layC, ld25, z2c, ld28, cl27, ze8, st28, isAlloc, isRead, dalloc, reduceCtorEq, zi9, t5, q7, q54, zk1, eq, e7, g57]
   refine EvG.toP (hb hsi.1 (hr1.mono (hxG.trans hxb) hw) hsi.2 hxb.wf) ?_
   rintro e H5 ⟨hx5, he⟩
   rw [hbi] at he
   refine ⟨_, he, And.intro rfl ⟨(hxG.trans hxb).trans hx5, ?_⟩⟩
   rw [show subBF (bodyF m) k l = none from by unfold subBF; rw [z5g (List.getElem_mem _) hbi]; rfl]
 ·rintro st ⟨tm, G, bs, ao, co, rfl, t4, t5, g4G, g5G, hsub, hobl, hxG⟩
  have q5 := row8 g5G
  repeat' (first | refine EvC.seq ?_ | refine EvC.scope ?_ | refine EvC.block ?_ | (refine EvC.skip ?_) | (refine EvC.exit ?_) | (refine EvC.ret ?_; try simp only [z01, z00]) | (refine EvC.reg ?_; simp (config := { maxSteps := 2000000 }) (disch := first | omega | rfl) only [sB, Nat.reduceEqDiff, Nat.reduceAdd, one, st30, ld30, t4, t5, q5, g4G]))
  refine z0z (z0a rfl (by simp only [sB, Nat.reduceEqDiff, t4] <;> rfl) (by simp only [sB, Nat.reduceAdd, cutC, ld30] <;> rfl) ⟨hxG.pt (Nat.le_refl _) g4G _, ?_⟩)
  rw [show subBF (bodyF m) k l = some (.mk k zeroT bs) from by unfold subBF; rw [hsub]; rfl]
  refine ⟨_, rfl, OBL.mk (ts := six zeroT none 0) (hobl.to (fun n hn hl => ⟨by rw [get_put, if_neg (by omega)], by rw [z07]; exact hl⟩) fun n hn => ⟨by omega, by rw [z07]; exact hn.2⟩) hk (RepS.leaf zcx rfl (Nat.zero_le _) (fun _ => rfl)) rfl⟩
theorem zie : ∀ (l : List Tm), (∀ t ∈ l, ∀ n, n + nd t ≤ 4000 → cnt t n = n + nd t) → ∀ n, n + nd.ndL l ≤ 4000 → cntL l n = n + nd.ndL l
 | [], _, n, _ => by rw [cntL, nd.ndL]; rfl
 | t :: l, h, n, hn => by
  rw [nd.ndL] at hn ⊢
  rw [cntL, if_neg (by omega), h t (by simp) n (by omega), zie l (fun u hu => h u (List.mem_cons_of_mem _ hu)) _ (by omega)]
  omega
theorem zlf : ∀ (m : Nat) (t : Tm), SizeOf.sizeOf t < m → ∀ n, n + nd t ≤ 4000 → cnt t n = n + nd t
 | 0, _, h, _, _ => by omega
 | m + 1, t, h, n, hn => by
  rw [z4q] at hn ⊢
  rw [z3h, zie _ (fun u hu k => zlf m u (by have := z0h hu; omega) k) _ (by omega)]; omega
theorem zif : ∀ {l : List Tm} {u : Tm}, u ∈ l → nd u ≤ nd.ndL l
 | t :: l, u, h => by
  rw [nd.ndL]
  rcases List.mem_cons.1 h with rfl | h
  ·omega
  ·have := zif h; omega
theorem z1a {t u : Tm} (h : checkS t = 0) (hu : u ∈ t.args) : checkS u = 0 := by
 have h1 := z0y.1 h
 have h2 := zle _ t (Nat.lt_succ_self _) 0 h1.1
 have h3 := zif hu
 have h4 := z4q t
 have h5 := zlf _ u (Nat.lt_succ_self _) 0 (by omega)
 exact z0y.2 ⟨by omega, h1.2.args u hu⟩
theorem zcz {H : Heap} {b o n : Nat} {l : List Value} (hw : H.wf) (h : H.load ⟨b, o, none⟩ n = some l) : b < H.next := by
 unfold Heap.load Heap.cells at h
 simp only at h
 cases hg : H.get b with
 | none => rw [hg] at h; cases h
 | some B => exact hw b B hg
theorem neu (n : Nat) : (n = n + 1) = False := by simp
theorem neu' (n : Nat) : (n + 1 = n) = False := by simp
theorem zlg : mkiOk Tryd.prog 62 = true := by kernel_rfl
set_option maxHeartbeats 8000000 in
theorem zfu {m : Nat} (hb : BodyP m) {t : Tm} {cs : List Value} {H : Heap} (hs : SizeOf.sizeOf t < m + 1) (r : RepT H t cs) (h2 : t.args.length = 2) (hc : checkS t = 0) (hw : H.wf) :
  EvG Tryd.prog okT 49 [.agg ⟨cs⟩] H (BodyEnd H (withinF (bodyF m) t)) := by
 have r0 := r
 obtain ⟨a, c, cells, rfl, -, -, -, -, -, rl⟩ := r.six
 obtain ⟨x, y, hxy⟩ : ∃ x y, t.args = [x, y] := by
  match hl : t.args, h2 with
  | [x, y], _ => exact ⟨x, y, rfl⟩
 have ex : t.at 0 = x := by unfold Tm.at; rw [hxy]; rfl
 have ey : t.at 1 = y := by unfold Tm.at; rw [hxy]; rfl
 have g0 : t.args[0]'(by omega) = x := by simp [hxy]
 have g1 : t.args[1]'(by omega) = y := by simp [hxy]
 obtain ⟨b, o, a1, c1, rfl, hld0, hr0⟩ := rl.el (i := 0) (by omega)
 obtain ⟨b', o', a2, c2, e2, hld1, hr1⟩ := rl.el (i := 1) (by omega)
 cases e2
 rw [g0] at hld0 hr0
 rw [g1] at hld1 hr1
 simp only [Nat.zero_mul, Nat.add_zero, Nat.one_mul] at hld0 hld1
 have hcx := z1a hc (u := x) (by rw [hxy]; simp)
 have hcy := z1a hc (u := y) (by rw [hxy]; simp)
 have hsy : SizeOf.sizeOf y < SizeOf.sizeOf t := z0h (by rw [hxy]; simp)
 refine EvG.enter rfl Tryd.func49 (by decide) rfl ?_
 (repeat refine EvC.seq ?_); refine EvC.reg ?_; simp (config := { maxSteps := 2000000 }) (disch := first | omega | rfl) only [sB, initTm, dBox, dAlloc, Value.cells, one, zr30]
 obtain ⟨H2, e2, hx2, gt, gq, hn2, hw2⟩ := new2 hw (.row (six t (some ⟨b, o, none⟩) c) 25) (.row zero8 30)
 simp only [e2]
 clear e2
 have qt := row6 gt
 have l0 := hx2.load hw hld0
 have l1 := hx2.load hw hld1
 have hbl := zcz hw2 l0
 have b8 : (b = H2.next + 8) = False := by simp; omega
 have b9 : (b = H2.next + 9) = False := by simp; omega
 have h8 : (H.next = H2.next + 8) = False := by simp; omega
 have h9 : (H.next = H2.next + 9) = False := by simp; omega
 (repeat refine EvC.seq ?_)
 refine EvC.meet (fun st => ∃ tm G, st = ⟨tm, [], G⟩ ∧ tm.get 1 = some (.pointer (some ⟨H.next, 0, none⟩)) ∧ tm.get 2 = some (.pointer (some ⟨H.next + 1, 0, none⟩)) ∧ tm.get 3 = some (.pointer (some ⟨H2.next + 8, 0, none⟩)) ∧ tm.get 4 = some (.pointer (some ⟨H2.next + 9, 0, none⟩)) ∧
  G.get (H2.next + 8) = some (.row (six x a1 c1) 25) ∧ G.get (H2.next + 9) = some (.row (six y a2 c2) 25) ∧ HX H2 G) ?_ ?_
 ·(repeat refine EvC.seq ?_); refine EvC.drw [([(0, 0), (1, 0), (2, 0), (3, 0), (8, 0), (9, 0)], some 10), ([(4, 0), (5, 0), (6, 0), (7, 0)], some 11), ([], none)] (by kernel_rfl) ?_; simp (config := { maxSteps := 2000000 }) (disch := first | omega | rfl) only [sV, sD, sB, dAlloc, Nat.reduceEqDiff, Nat.reduceAdd, one, reduceCtorEq, cutC, Int.reduceToNat, z0o, ld23, ld25, zr25, st25, isAlloc, isRead, dalloc, reduceCtorEq, qt, l0, l1, iz23, Nat.zero_mul, Nat.one_mul, neu, neu', b8, b9, h8, h9]
  have hxb := (HX.refl hw2).bump 12
  refine ⟨_, _, rfl, (by simp only [sG, Nat.reduceEqDiff, reduceCtorEq] <;> rfl), (by simp only [sG, Nat.reduceEqDiff, reduceCtorEq] <;> rfl), (by simp only [sG, Nat.reduceEqDiff, reduceCtorEq] <;> rfl), (by simp only [sG, Nat.reduceEqDiff, reduceCtorEq] <;> rfl), by rw [get_put, if_neg (by omega), get_put, if_pos rfl], by rw [get_put, if_pos rfl],
   (((hxb.put (i := H2.next + 8) (by omega) (by show _ < H2.next + 12; omega) _).put (i := H2.next + 9) (by omega) (by show _ < H2.next + 12; omega) _).put (i := H2.next + 8) (by omega) (by show _ < H2.next + 12; omega) _).put (i := H2.next + 9) (by omega) (by show _ < H2.next + 12; omega) _⟩
 rintro st ⟨tm, G, rfl, t1, t2, t3, t4, gx, gy, hx3⟩
 have qx := row6 gx
 have qy := row6 gy
 have gt3 := hx3.get hw2 gt
 have gq3 := hx3.get hw2 gq
 have n3 := hx3.next
 have hxG := hx2.trans hx3
 have hwG := hxG.wf
 have lx := hwG _ _ gx
 have lyy := hwG _ _ gy
 have qt3 := row6 gt3
 simp only [z02]
 (repeat refine EvC.seq ?_)
 refine EvC.join (fun st => ∃ tm', st = ⟨tm', [], G⟩ ∧ tm'.get 1 = some (.pointer (some ⟨H.next, 0, none⟩)) ∧ tm'.get 2 = some (.pointer (some ⟨H.next + 1, 0, none⟩)) ∧ tm'.get 3 = some (.pointer (some ⟨H2.next + 8, 0, none⟩)) ∧ tm'.get 4 = some (.pointer (some ⟨H2.next + 9, 0, none⟩)) ∧
  ¬ (isNum (t.at 1) ∨ ((t.at 0).kind ≠ 2 ∧ (t.at 0).kind ≠ 1)) ∧ ¬ ((t.at 0).kind = 1 ∨ (t.at 1).kind = 1)) ?_ ?_
 ·rw [ex, ey]
  refine EvC.block ?_
  obtain ⟨bb, hbb⟩ : ∃ bb : Bool, (bb = true ↔ (isNum y ∨ (x.kind ≠ 2 ∧ x.kind ≠ 1))) := ⟨decide (isNum y ∨ (x.kind ≠ 2 ∧ x.kind ≠ 1)), decide_eq_true_iff⟩
  (repeat refine EvC.seq ?_)
  refine EvC.meet (fun st => ∃ tm', st = ⟨tm', [], G⟩ ∧ tm'.get 1 = some (.pointer (some ⟨H.next, 0, none⟩)) ∧ tm'.get 2 = some (.pointer (some ⟨H.next + 1, 0, none⟩)) ∧ tm'.get 3 = some (.pointer (some ⟨H2.next + 8, 0, none⟩)) ∧ tm'.get 4 = some (.pointer (some ⟨H2.next + 9, 0, none⟩)) ∧ tm'.get 14 = some (.bool bb)) ?_ ?_
  ·by_cases y3 : y.kind = 3
   ·have hb' : bb = true := hbb.2 (.inl (.inl y3))
    (repeat refine EvC.seq ?_); refine EvC.reg ?_; simp (config := { maxSteps := 2000000 }) (disch := first | omega | rfl) only [sB, Nat.reduceEqDiff, z0e, ld3, t4, qy, z0j y3]
    exact ⟨_, rfl, (by simp only [sG, Nat.reduceEqDiff, t1] <;> rfl), (by simp only [sG, Nat.reduceEqDiff, t2] <;> rfl), (by simp only [sG, Nat.reduceEqDiff, t3] <;> rfl), (by simp only [sG, Nat.reduceEqDiff, t4] <;> rfl), by rw [hb']; first | (simp only [sG, Nat.reduceEqDiff]; rfl) | simp only [sG, Nat.reduceEqDiff]⟩
   by_cases y4 : y.kind = 4
   ·have hb' : bb = true := hbb.2 (.inl (.inr y4))
    (repeat refine EvC.seq ?_); refine EvC.reg ?_; simp (config := { maxSteps := 2000000 }) (disch := first | omega | rfl) only [sB, Nat.reduceEqDiff, z0e, ld3, t4, qy, z0l y3, z0j y4, Bool.false_eq_true]
    exact ⟨_, rfl, (by simp only [sG, Nat.reduceEqDiff, t1] <;> rfl), (by simp only [sG, Nat.reduceEqDiff, t2] <;> rfl), (by simp only [sG, Nat.reduceEqDiff, t3] <;> rfl), (by simp only [sG, Nat.reduceEqDiff, t4] <;> rfl), by rw [hb']; first | (simp only [sG, Nat.reduceEqDiff]; rfl) | simp only [sG, Nat.reduceEqDiff]⟩
   have hn : ¬ isNum y := fun h => by rcases h with h | h; exact y3 h; exact y4 h
   by_cases x2 : x.kind = 2
   ·have hb' : bb = false := by
     cases hq : bb with
     | false => rfl
     | true => rcases hbb.1 hq with h | h; exact absurd h hn; exact absurd x2 h.1
    (repeat refine EvC.seq ?_); refine EvC.reg ?_; simp (config := { maxSteps := 2000000 }) (disch := first | omega | rfl) only [sB, Nat.reduceEqDiff, z0e, ld3, t3, t4, qx, qy, z0l y3, z0l y4, z2g x2, Bool.false_eq_true]
    exact ⟨_, rfl, (by simp only [sG, Nat.reduceEqDiff, t1] <;> rfl), (by simp only [sG, Nat.reduceEqDiff, t2] <;> rfl), (by simp only [sG, Nat.reduceEqDiff, t3] <;> rfl), (by simp only [sG, Nat.reduceEqDiff, t4] <;> rfl), by rw [hb']; first | (simp only [sG, Nat.reduceEqDiff]; rfl) | simp only [sG, Nat.reduceEqDiff]⟩
   by_cases x1 : x.kind = 1
   ·have hb' : bb = false := by
     cases hq : bb with
     | false => rfl
     | true => rcases hbb.1 hq with h | h; exact absurd h hn; exact absurd x1 h.2
    (repeat refine EvC.seq ?_); refine EvC.reg ?_; simp (config := { maxSteps := 2000000 }) (disch := first | omega | rfl) only [sB, Nat.reduceEqDiff, z0e, ld3, t3, t4, qx, qy, z0l y3, z0l y4, z3o x2, z2g x1, Bool.false_eq_true]
    exact ⟨_, rfl, (by simp only [sG, Nat.reduceEqDiff, t1] <;> rfl), (by simp only [sG, Nat.reduceEqDiff, t2] <;> rfl), (by simp only [sG, Nat.reduceEqDiff, t3] <;> rfl), (by simp only [sG, Nat.reduceEqDiff, t4] <;> rfl), by rw [hb']; first | (simp only [sG, Nat.reduceEqDiff]; rfl) | simp only [sG, Nat.reduceEqDiff]⟩
   ·have hb' : bb = true := hbb.2 (.inr ⟨x2, x1⟩)
    (repeat refine EvC.seq ?_); refine EvC.reg ?_; simp (config := { maxSteps := 2000000 }) (disch := first | omega | rfl) only [sB, Nat.reduceEqDiff, z0e, ld3, t3, t4, qx, qy, z0l y3, z0l y4, z3o x2, z3o x1, Bool.false_eq_true]
    exact ⟨_, rfl, (by simp only [sG, Nat.reduceEqDiff, t1] <;> rfl), (by simp only [sG, Nat.reduceEqDiff, t2] <;> rfl), (by simp only [sG, Nat.reduceEqDiff, t3] <;> rfl), (by simp only [sG, Nat.reduceEqDiff, t4] <;> rfl), by rw [hb']; first | (simp only [sG, Nat.reduceEqDiff]; rfl) | simp only [sG, Nat.reduceEqDiff]⟩
  rintro st ⟨tm, rfl, t1, t2, t3, t4, t14⟩
  simp only [z02]
  cases bb with
  | true =>
   have hw' : withinF (bodyF m) t = none := by unfold withinF; rw [ex, ey, if_pos (hbb.1 rfl)]
   refine EvC.condT (by simp only [sA, t14] <;> rfl) ?_
   (repeat refine EvC.seq ?_); refine EvC.regP 2 _ rfl rfl ?_; simp (config := { maxSteps := 2000000 }) (disch := first | omega | rfl) only [sB, Nat.reduceEqDiff, Value.cells, layC, bd62, zel, z1j, z9o zlg, zbs, z8o]
   refine And.intro rfl ⟨hxG, ?_⟩
   rw [hw']; rfl
  | false =>
   have hnb : ¬ (isNum y ∨ (x.kind ≠ 2 ∧ x.kind ≠ 1)) := fun h => by have := hbb.2 h; cases this
   refine EvC.condF (by simp only [sA, t14] <;> rfl) ?_
   by_cases hcl : x.kind = 1 ∨ y.kind = 1
   ·have hw' : withinF (bodyF m) t = some (callB t) := by unfold withinF; rw [ex, ey, if_neg hnb, if_pos hcl]
    (repeat refine EvC.seq ?_)
    refine EvC.meet (fun st => ∃ tm', st = ⟨tm', [], G⟩ ∧ tm'.get 1 = some (.pointer (some ⟨H.next, 0, none⟩)) ∧ tm'.get 2 = some (.pointer (some ⟨H.next + 1, 0, none⟩)) ∧ tm'.get 35 = some (.bool true)) ?_ ?_
    ·by_cases x1 : x.kind = 1
     ·(repeat refine EvC.seq ?_); refine EvC.reg ?_; simp (config := { maxSteps := 2000000 }) (disch := first | omega | rfl) only [sB, Nat.reduceEqDiff, z0e, ld3, t3, qx, z0j x1]
      exact ⟨_, rfl, (by simp only [sG, Nat.reduceEqDiff, t1] <;> rfl), (by simp only [sG, Nat.reduceEqDiff, t2] <;> rfl), by first | (simp only [sG, Nat.reduceEqDiff]; rfl) | simp only [sG, Nat.reduceEqDiff]⟩
     ·have y1 := hcl.resolve_left x1
      (repeat refine EvC.seq ?_); refine EvC.reg ?_; simp (config := { maxSteps := 2000000 }) (disch := first | omega | rfl) only [sB, Nat.reduceEqDiff, z0e, ld3, t3, t4, qx, qy, z0l x1, z0j y1, Bool.false_eq_true]
      exact ⟨_, rfl, (by simp only [sG, Nat.reduceEqDiff, t1] <;> rfl), (by simp only [sG, Nat.reduceEqDiff, t2] <;> rfl), by first | (simp only [sG, Nat.reduceEqDiff]; rfl) | simp only [sG, Nat.reduceEqDiff]⟩
    rintro st ⟨tm, rfl, t1, t2, t35⟩
    simp only [z02]
    refine EvC.condT (by simp only [sA, t35] <;> rfl) ?_
    (repeat refine EvC.seq ?_); refine EvC.reg ?_; simp (config := { maxSteps := 2000000 }) (disch := first | omega | rfl) only [sB, Nat.reduceEqDiff, ld25, cl48, t1, qt3]
    refine (zbt (r0.mono hxG hw) hc hwG).mono ?_
    rintro v H5 ⟨hx5, out, rfl, hob⟩
    obtain ⟨ta, tc, sa, sc, rfl⟩ := hob.rep.eight
    have gq5 := hx5.get hwG gq3
    have n5 := hx5.next
    have nG := hxG.next
    repeat' (first | refine EvC.seq ?_ | refine EvC.scope ?_ | refine EvC.block ?_ | (refine EvC.skip ?_) | (refine EvC.exit ?_) | (refine EvC.ret ?_; try simp only [z01, z00]) | (refine z0i ?_; simp (config := { maxSteps := 2000000 }) (disch := first | omega | rfl) only [sB, Nat.reduceAdd, one, st30, t2, gq5]))
    refine z0z (z0a rfl (by simp only [sB, Nat.reduceEqDiff, t2] <;> rfl) (by simp only [sB, Nat.reduceAdd, cutC, ld30] <;> rfl) ⟨(hxG.trans hx5).pt (by omega) gq5 _, ?_⟩)
    rw [hw']
    exact ⟨_, rfl, hob.to (fun n hn hl => ⟨by have := hn.1; rw [get_put, if_neg (by omega)], by rw [z07]; exact hl⟩) fun n hn => ⟨by have := hn.1; omega, by rw [z07]; exact hn.2⟩⟩
   have x1 : ¬ x.kind = 1 := fun h => hcl (.inl h)
   have y1 : ¬ y.kind = 1 := fun h => hcl (.inr h)
   repeat' (first | refine EvC.seq ?_ | refine EvC.scope ?_ | refine EvC.block ?_ | (refine EvC.skip ?_; try simp only [sA]) | (refine EvC.exit ?_) | (refine EvC.ret ?_; try simp only [z01, z00]) | (refine EvC.reg ?_; simp (config := { maxSteps := 2000000 }) (disch := first | omega | rfl) only [sB, Nat.reduceEqDiff, z0e, ld3, t3, t4, qx, qy, z0l x1, z0l y1, Bool.false_eq_true]) | (refine EvC.condT ?_ ?_; simp (config := { maxSteps := 2000000 }) (disch := first | omega | rfl) only [sB, Nat.reduceEqDiff]; refine z06 ?_) | (refine EvC.condF ?_ ?_; simp (config := { maxSteps := 2000000 }) (disch := first | omega | rfl) only [sB, Nat.reduceEqDiff]; refine z06 ?_))
   exact ⟨_, rfl, (by simp only [sG, Nat.reduceEqDiff, t1] <;> rfl), (by simp only [sG, Nat.reduceEqDiff, t2] <;> rfl), (by simp only [sG, Nat.reduceEqDiff, t3] <;> rfl), (by simp only [sG, Nat.reduceEqDiff, t4] <;> rfl), hnb, fun h => by rcases h with h | h; exact x1 h; exact y1 h⟩
 rw [ex, ey]
 rintro st ⟨tm, rfl, t1, t2, t3, t4, hnb, hnc⟩
 have hwi : withinF (bodyF m) t = (bodyF m y).map fun b => .mk 7 x [b] := by unfold withinF; rw [ex, ey, if_neg hnb, if_neg hnc]
 rw [hwi]
 have hx2k : x.kind = 2 := by
  by_cases h : x.kind = 2
  ·exact h
  ·exact absurd (.inr ⟨h, fun h' => hnc (.inl h')⟩) hnb
 have hxa : x.args = [] := by
  have k := z3v (z0y.1 hcx).2.node
  exact (z2w k.2.2.1).2.2.2.2 (by omega)
 obtain ⟨H4, e4, hx4, g4, hn4, hw4⟩ := new1 hwG (.row (six y a2 c2) 25)
 have hyG := (hr1.mono hxG hw).mono hx4 hwG
 have rly : RepL H4 [y] (some ⟨G.next, 0, none⟩) 1 (fun _ => six y a2 c2) := RepL.of_row g4 (fun i hi => by
   match i, hi with
   | 0, _ => rfl) (fun i u hu => by
   match i, hu with
   | 0, hu => cases hu; exact hyG) (Nat.le_refl _) (by decide)
 have hsub := z7r hb (k := 7) (by decide) rly (by show 1 ≤ 64; decide) (fun u hu => by
  rw [List.mem_singleton] at hu
  subst hu
  exact ⟨by omega, hcy⟩) hw4
 have es : subBF (bodyF m) 7 [y] = (bodyF m y).map fun b => .mk 7 zeroT [b] := by
  unfold subBF
  rw [subBL]
  cases bodyF m y <;> rfl
 cases hby : bodyF m y with
 | none =>
  rw [es, hby] at hsub
  (repeat refine EvC.seq ?_); refine EvC.regP 2 _ rfl rfl ?_; simp (config := { maxSteps := 2000000 }) (disch := first | omega | rfl) only [sB, Nat.reduceEqDiff, Nat.reduceAdd, Value.cells, one, layC, ld25, z59, cl50, z5u, t4, qy]
  simp only [e4]
  refine EvG.toP hsub ?_
  rintro e H5 ⟨hx5, he⟩
  exact ⟨_, he, And.intro rfl ⟨(hxG.trans hx4).trans hx5, rfl⟩⟩
 | some bd =>
  rw [es, hby] at hsub
  (repeat refine EvC.seq ?_); refine EvC.reg ?_; simp (config := { maxSteps := 2000000 }) (disch := first | omega | rfl) only [sB, dAlloc, Nat.reduceEqDiff, Nat.reduceAdd, Value.cells, one, layC, zr30, ld25, z59, cl50, t4, qy]
  simp only [e4]
  refine EvG.toF hsub ?_
  rintro e H5 ⟨hx5, out, he, hob⟩
  obtain ⟨ts, sa, sc, rfl, hts, hobl⟩ := hob.parts
  obtain ⟨a5, c5, cells5, rfl, -⟩ := hts.six
  have he : e = .ret (.agg ⟨eightT 7 zeroT a5 c5 sa 1 sc⟩) := he
  refine ⟨_, he, ?_⟩
  try simp (config := { maxSteps := 2000000 }) (disch := first | omega | rfl) only [sB, Nat.reduceAdd, one, st30]
  obtain ⟨H6, e6, hx6, g6, hn6, hw6⟩ := z0w hx5.wf (.row zero8 30) (.row (eightT 7 zeroT a5 c5 sa 1 sc) 30)
  simp only [e6]
  clear e6
  have q6 := row8 g6
  have n5 := hx5.next
  have hx46 := hx5.trans hx6
  have gx6 := hx46.get hw4 (hx4.get hwG gx)
  have qx6 := row6 gx6
  have gq6 := hx46.get hw4 (hx4.get hwG gq3)
  have nG := hxG.next
  have ne5 : (H.next + 1 = H5.next) = False := by simp; omega
  repeat' (first | refine EvC.seq ?_ | refine EvC.scope ?_ | refine EvC.block ?_ | (refine EvC.skip ?_) | (refine EvC.exit ?_) | (refine EvC.ret ?_; try simp only [z01, z00]) | (refine EvC.reg ?_; simp (config := { maxSteps := 2000000 }) (disch := first | omega | rfl) only [sB, Nat.reduceEqDiff, Nat.reduceAdd, one, cutC, Nat.reduceLeDiff, ld25, st25, st30, z3s, ld30, t2, t3, qx6, q6, g6, gq6, ne5]))
  have hxf := ((hxG.trans hx4).trans hx46)
  refine z0z (z0a rfl (by simp only [sB, Nat.reduceEqDiff, t2] <;> rfl) (by simp only [sB, Nat.reduceAdd, cutC, ld30] <;> rfl) ⟨(hxf.pt (i := H5.next) (by omega) g6 _).pt (by omega) (by rw [get_put, if_neg (by omega)]; exact gq6) _, ?_⟩)
  obtain ⟨ax, cx, cellsx, ee, -, -, -, -, -, rlx⟩ := hr0.six
  obtain ⟨-, -, -, -, -, rfl, rfl⟩ := z7l ee
  refine ⟨_, rfl, OBL.mk (k := 7) (t := x) (ts := six x a1 c1) (hobl.to (fun n hn hl => ?_) fun n hn => ?_) (by decide) (RepS.leaf hr0.bd hxa rlx.cap fun h => (rlx.nil h).2) hxa⟩
  ·have : H4.next ≤ n := hn.1
   rw [get_put, if_neg (by omega), get_put, if_neg (by omega)]
   exact ⟨hx6.keep n hl, by rw [z07, z07]; omega⟩
  ·have : H4.next ≤ n := hn.1
   exact ⟨by omega, by rw [z07, z07]; have := hn.2; omega⟩
theorem ldA5 {H : Heap} {b o : Nat} {x0 x1 x2 x3 x4 x5 : Value} (h : H.load ⟨b, o, none⟩ 6 = some [x0, x1, x2, x3, x4, x5]) : H.load ⟨b, o + 5, none⟩ 1 = some [x5] := by
 unfold Heap.load at h ⊢
 simp only at h ⊢
 cases hc : H.cells b with
 | none => rw [hc] at h; cases h
 | some cs =>
  rw [hc] at h
  simp only at h ⊢
  split at h
  ·rename_i hb
   simp only [Option.some.injEq] at h
   have e : (cs.drop (o + 5)).take 1 = [x5] := by
    have : ((cs.drop o).take 6).drop 5 = [x5] := by rw [h]; rfl
    rw [List.drop_take, List.drop_drop] at this
    exact this
   rw [e]; rfl
  ·cases h
theorem zbu {m : Nat} {t : Tm} (h : isNum t) : bodyF (m + 1) t = none := by rw [bodyF, if_pos h]
set_option maxHeartbeats 16000000 in
theorem zig {m : Nat} (hb : BodyP m) {t : Tm} {cs : List Value} {H : Heap} (hs : SizeOf.sizeOf t < m + 1) (r : RepT H t cs) (hc : checkS t = 0) (hw : H.wf) :
  EvG Tryd.prog okT 27 [.agg ⟨cs⟩] H (BodyEnd H (bodyF (m + 1) t)) := by
  have r0 := r
  have hf := (z0y.1 hc).2
  have hfew := z45 hf
  have hlf : ∀ {u : Tm}, u ∈ t.args → SizeOf.sizeOf u < m ∧ checkS u = 0 := fun hu => ⟨by have := z0h hu; omega, z1a hc hu⟩
  obtain ⟨a, c, cells, rfl, -, -, -, -, -, rl⟩ := r.six
  refine EvG.enter rfl Tryd.func27 (by decide) rfl ?_
  (repeat refine EvC.seq ?_); refine EvC.reg ?_; simp (config := { maxSteps := 2000000 }) (disch := first | omega | rfl) only [sB, initTm, dBox, dAlloc, Value.cells, one, zr30]
  obtain ⟨H2, e2, hx, gt, gq, hn2, hw2⟩ := new2 hw (.row (six t a c) 25) (.row zero8 30)
  simp only [e2]
  clear e2
  have qt := row6 gt
  have lt := hw2 _ _ gq
  (repeat refine EvC.seq ?_)
  refine EvC.join (fun st => ∃ tm G, st = ⟨tm, [], G⟩ ∧ tm.get 1 = some (.pointer (some ⟨H.next, 0, none⟩)) ∧ tm.get 2 = some (.pointer (some ⟨H.next + 1, 0, none⟩)) ∧ G.get H.next = some (.row (six t a c) 25) ∧ G.get (H.next + 1) = some (.row zero8 30) ∧ HX H G ∧
   bodyF (m + 1) t = some (.mk 3 t [])) ?_ ?_
  rotate_left
  ·rintro st ⟨tm, G, rfl, t1, t2, gt, gq, hx, hbd⟩
   have qt := row6 gt
   (repeat refine EvC.seq ?_); refine EvC.reg ?_; simp (config := { maxSteps := 2000000 }) (disch := first | omega | rfl) only [sB, Nat.reduceEqDiff, Nat.reduceAdd, Value.cells, one, Nat.reduceLeDiff, layC, ld25, bd30, cl37, t1, qt]
   refine (zcy (r0.mono hx hw) hc hx.wf).mono ?_
   rintro v H5 ⟨hx5, out, rfl, hot⟩
   obtain ⟨ta, tc, cellst, rfl, -⟩ := hot.rep.six
   have gq5 := hx5.get hx.wf gq
   have n5 := hx5.next
   have nx := hx.next
   have lq := hx.wf _ _ gq
   repeat' (first | refine EvC.seq ?_ | refine EvC.scope ?_ | refine EvC.block ?_ | (refine EvC.skip ?_) | (refine EvC.exit ?_) | (refine EvC.ret ?_; try simp only [z01, z00]) | (refine z0i ?_; simp (config := { maxSteps := 2000000 }) (disch := first | omega | rfl) only [sB, Nat.reduceEqDiff, Nat.reduceAdd, one, Nat.reduceLeDiff, st30, t2, gq5]))
   refine z0z (z0a rfl (by simp only [sB, Nat.reduceEqDiff, t2] <;> rfl) (by simp only [sB, Nat.reduceAdd, cutC, ld30] <;> rfl) ⟨(hx.trans hx5).pt (by omega) gq5 _, ?_⟩)
   rw [hbd]
   have hot' : OT (H5.put (H.next + 1) (some (.row (eightT 3 t ta tc none 0 0) 30))) (Rg H.next H5.next) t (six t ta tc) := hot.to fun n hn hl => ⟨by have := hn.1; rw [get_put, if_neg (by omega)], ⟨by have := hn.1; omega, hl⟩, by rw [z07]; exact hl⟩
   exact ⟨_, rfl, .leaf _ 3 t (six t ta tc) (by decide) hot'.1 hot'.2⟩
  refine EvC.block ?_
  (repeat refine EvC.seq ?_)
  refine EvC.meet (fun st => ∃ tm', st = ⟨tm', [], H2⟩ ∧ tm'.get 1 = some (.pointer (some ⟨H.next, 0, none⟩)) ∧ tm'.get 2 = some (.pointer (some ⟨H.next + 1, 0, none⟩)) ∧ tm'.get 3 = some (.bool (decide (isNum t)))) ?_ ?_
  ·by_cases n3 : t.kind = 3
   ·have hd : decide (isNum t) = true := decide_eq_true (.inl n3)
    (repeat refine EvC.seq ?_); refine EvC.reg ?_; simp (config := { maxSteps := 2000000 }) (disch := first | omega | rfl) only [sB, Nat.reduceEqDiff, reduceCtorEq, z0e, ld3, qt, z0j n3]
    exact ⟨_, rfl, (by simp only [sG, Nat.reduceEqDiff, reduceCtorEq] <;> rfl), (by simp only [sG, Nat.reduceEqDiff, reduceCtorEq] <;> rfl), by rw [hd]; first | (simp only [sG, Nat.reduceEqDiff, reduceCtorEq]; rfl) | simp only [sG, Nat.reduceEqDiff, reduceCtorEq]⟩
   by_cases n4 : t.kind = 4
   ·have hd : decide (isNum t) = true := decide_eq_true (.inr n4)
    (repeat refine EvC.seq ?_); refine EvC.reg ?_; simp (config := { maxSteps := 2000000 }) (disch := first | omega | rfl) only [sB, Nat.reduceEqDiff, reduceCtorEq, z0e, ld3, qt, z0l n3, z0j n4, Bool.false_eq_true]
    exact ⟨_, rfl, (by simp only [sG, Nat.reduceEqDiff, reduceCtorEq] <;> rfl), (by simp only [sG, Nat.reduceEqDiff, reduceCtorEq] <;> rfl), by rw [hd]; first | (simp only [sG, Nat.reduceEqDiff, reduceCtorEq]; rfl) | simp only [sG, Nat.reduceEqDiff, reduceCtorEq]⟩
   ·have hd : decide (isNum t) = false := decide_eq_false fun h => by rcases h with h | h; exact n3 h; exact n4 h
    (repeat refine EvC.seq ?_); refine EvC.reg ?_; simp (config := { maxSteps := 2000000 }) (disch := first | omega | rfl) only [sB, Nat.reduceEqDiff, reduceCtorEq, z0e, ld3, qt, z0l n3, z0l n4, Bool.false_eq_true]
    exact ⟨_, rfl, (by simp only [sG, Nat.reduceEqDiff, reduceCtorEq] <;> rfl), (by simp only [sG, Nat.reduceEqDiff, reduceCtorEq] <;> rfl), by rw [hd]; first | (simp only [sG, Nat.reduceEqDiff, reduceCtorEq]; rfl) | simp only [sG, Nat.reduceEqDiff, reduceCtorEq]⟩
  rintro st ⟨tm, rfl, t1, t2, t3⟩
  simp only [z02]
  by_cases hn : isNum t
  ·have hd : decide (isNum t) = true := decide_eq_true hn
   refine EvC.condT (by simp only [sA, t3, hd] <;> rfl) ?_
   (repeat refine EvC.seq ?_); refine EvC.regP 2 _ rfl rfl ?_; simp (config := { maxSteps := 2000000 }) (disch := first | omega | rfl) only [sB, Nat.reduceEqDiff, Value.cells, layC, bd62, zel, z1j, z9o zlg, zbs, z8o]
   exact And.intro rfl ⟨hx, by rw [zbu hn]; rfl⟩
  have hd : decide (isNum t) = false := decide_eq_false hn
  refine EvC.condF (by simp only [sA, t3, hd] <;> rfl) ?_
  refine EvC.frame (fun tm => tm.get 1 = some (.pointer (some ⟨H.next, 0, none⟩)) ∧ tm.get 2 = some (.pointer (some ⟨H.next + 1, 0, none⟩))) ⟨t1, t2⟩ ?_
  clear t1 t2 t3 hd tm
  rintro tm ⟨t1, t2⟩
  by_cases k1 : t.kind = 1
  ·have hbd : bodyF (m + 1) t = some (callB t) := by rw [bodyF, if_neg hn, if_pos k1]
   (repeat refine EvC.seq ?_); refine EvC.reg ?_; simp (config := { maxSteps := 2000000 }) (disch := first | omega | rfl) only [sB, Nat.reduceEqDiff, z0e, ld3, t1, qt, z0j k1]
   (repeat refine EvC.seq ?_); refine EvC.condT (by simp (config := { maxSteps := 2000000 }) (disch := first | omega | rfl) only [sB, Nat.reduceEqDiff]) ?_; (try refine EvC.skip ?_); (try simp only [z02, z03])
   (repeat refine EvC.seq ?_); refine EvC.reg ?_; simp (config := { maxSteps := 2000000 }) (disch := first | omega | rfl) only [sB, Nat.reduceEqDiff, ld25, cl48, t1, qt]
   refine (zbt (r0.mono hx hw) hc hx.wf).mono ?_
   rintro v H5 ⟨hx5, out, rfl, hob⟩
   obtain ⟨ta, tc, sa, sc, rfl⟩ := hob.rep.eight
   have gq5 := hx5.get hx.wf gq
   have n5 := hx5.next
   have nx := hx.next
   have lq := hx.wf _ _ gq
   repeat' (first | refine EvC.seq ?_ | refine EvC.scope ?_ | refine EvC.block ?_ | (refine EvC.skip ?_) | (refine EvC.exit ?_) | (refine EvC.ret ?_; try simp only [z01, z00]) | (refine z0i ?_; simp (config := { maxSteps := 2000000 }) (disch := first | omega | rfl) only [sB, Nat.reduceAdd, one, st30, t2, gq5]))
   refine z0z (z0a rfl (by simp only [sB, Nat.reduceEqDiff, t2] <;> rfl) (by simp only [sB, Nat.reduceAdd, cutC, ld30] <;> rfl) ⟨(hx.trans hx5).pt (by omega) gq5 _, ?_⟩)
   rw [hbd]
   exact ⟨_, rfl, hob.to (fun n hn hl => ⟨by have := hn.1; rw [get_put, if_neg (by omega)], by rw [z07]; exact hl⟩) fun n hn => ⟨by have := hn.1; omega, by rw [z07]; exact hn.2⟩⟩
  (repeat refine EvC.seq ?_); refine EvC.reg ?_; simp (config := { maxSteps := 2000000 }) (disch := first | omega | rfl) only [sB, Nat.reduceEqDiff, z0e, ld3, t1, qt, z0l k1]
  (repeat refine EvC.seq ?_); refine EvC.condF (by simp (config := { maxSteps := 2000000 }) (disch := first | omega | rfl) only [sB, Nat.reduceEqDiff]) ?_; (try refine EvC.skip ?_); (try simp only [z02, z03])
  refine EvC.frame (fun tm => tm.get 1 = some (.pointer (some ⟨H.next, 0, none⟩)) ∧ tm.get 2 = some (.pointer (some ⟨H.next + 1, 0, none⟩))) ⟨(by simp only [sG, Nat.reduceEqDiff, t1] <;> rfl), (by simp only [sG, Nat.reduceEqDiff, t2] <;> rfl)⟩ ?_
  clear t1 t2 tm
  rintro tm ⟨t1, t2⟩
  by_cases ktrue : t.kind = 2 ∧ t.name = sTrue
  ·have hbd : bodyF (m + 1) t = some (.mk 1 zeroT []) := by rw [bodyF, if_neg hn, if_neg k1, if_pos ktrue]
   (repeat refine EvC.seq ?_); refine EvC.reg ?_; simp (config := { maxSteps := 2000000 }) (disch := first | omega | rfl) only [sB, Nat.reduceEqDiff, z0e, ld3, z1v, ld9, t1, qt, z0j ktrue.1, z0v, z67 ktrue.2]
   (repeat refine EvC.seq ?_); refine EvC.condT (by simp (config := { maxSteps := 2000000 }) (disch := first | omega | rfl) only [sB, Nat.reduceEqDiff]) ?_; (try refine EvC.skip ?_); (try simp only [z02, z03])
   have lq := hx.wf _ _ gq
   repeat' (first | refine EvC.seq ?_ | refine EvC.scope ?_ | refine EvC.block ?_ | (refine EvC.skip ?_) | (refine EvC.exit ?_) | (refine EvC.ret ?_; try simp only [z01, z00]) | (refine EvC.reg ?_; simp (config := { maxSteps := 2000000 }) (disch := first | omega | rfl) only [sB, Nat.reduceEqDiff, Nat.reduceAdd, Value.cells, one, Nat.reduceLeDiff, layC, st30, bd30, t2, gq]))
   refine z0z (z0a rfl (by simp only [sB, Nat.reduceEqDiff, t2] <;> rfl) (by simp only [sB, Nat.reduceAdd, cutC, ld30] <;> rfl) ⟨hx.pt (by omega) gq _, ?_⟩)
   rw [hbd]
   exact ⟨_, rfl, OB.nil (by decide)⟩
  refine EvC.cut (fun st => ∃ tm', st = ⟨tm', [], H2⟩ ∧ tm'.get 1 = some (.pointer (some ⟨H.next, 0, none⟩)) ∧ tm'.get 2 = some (.pointer (some ⟨H.next + 1, 0, none⟩)) ∧ tm'.get 20 = some (.bool false)) ?_ ?_
  ·by_cases k2 : t.kind = 2
   ·have kn : t.name ≠ sTrue := fun h => ktrue ⟨k2, h⟩
    (repeat refine EvC.seq ?_); refine EvC.reg ?_; simp (config := { maxSteps := 2000000 }) (disch := first | omega | rfl) only [sB, Nat.reduceEqDiff, z0e, ld3, z1v, ld9, t1, qt, z0j k2, z0v, z8p kn]
    exact ⟨_, rfl, (by simp only [sG, Nat.reduceEqDiff, t1] <;> rfl), (by simp only [sG, Nat.reduceEqDiff, t2] <;> rfl), by first | (simp only [sG, Nat.reduceEqDiff]; rfl) | simp only [sG, Nat.reduceEqDiff]⟩
   ·(repeat refine EvC.seq ?_); refine EvC.reg ?_; simp (config := { maxSteps := 2000000 }) (disch := first | omega | rfl) only [sB, Nat.reduceEqDiff, z0e, ld3, t1, qt, z0l k2, Bool.false_eq_true]
    exact ⟨_, rfl, (by simp only [sG, Nat.reduceEqDiff, t1] <;> rfl), (by simp only [sG, Nat.reduceEqDiff, t2] <;> rfl), by first | (simp only [sG, Nat.reduceEqDiff]; rfl) | simp only [sG, Nat.reduceEqDiff]⟩
  clear t1 t2 tm
  rintro st ⟨tm, rfl, t1, t2, tc⟩
  (repeat refine EvC.seq ?_); refine EvC.condF (by simp (config := { maxSteps := 2000000 }) (disch := first | omega | rfl) only [sA, tc]) ?_; (try refine EvC.skip ?_); (try simp only [z02, z03])
  clear tc
  by_cases kexc : t.kind = 2 ∧ t.name = sExc
  ·have hbd : bodyF (m + 1) t = some (.mk 2 zeroT []) := by rw [bodyF, if_neg hn, if_neg k1, if_neg ktrue, if_pos kexc]
   (repeat refine EvC.seq ?_); refine EvC.reg ?_; simp (config := { maxSteps := 2000000 }) (disch := first | omega | rfl) only [sB, Nat.reduceEqDiff, z0e, ld3, z1v, ld9, t1, qt, z0j kexc.1, z0v, z67 kexc.2]
   (repeat refine EvC.seq ?_); refine EvC.condT (by simp (config := { maxSteps := 2000000 }) (disch := first | omega | rfl) only [sB, Nat.reduceEqDiff]) ?_; (try refine EvC.skip ?_); (try simp only [z02, z03])
   have lq := hx.wf _ _ gq
   repeat' (first | refine EvC.seq ?_ | refine EvC.scope ?_ | refine EvC.block ?_ | (refine EvC.skip ?_) | (refine EvC.exit ?_) | (refine EvC.ret ?_; try simp only [z01, z00]) | (refine EvC.reg ?_; simp (config := { maxSteps := 2000000 }) (disch := first | omega | rfl) only [sB, Nat.reduceEqDiff, Nat.reduceAdd, Value.cells, one, Nat.reduceLeDiff, layC, st30, bd30, t2, gq]))
   refine z0z (z0a rfl (by simp only [sB, Nat.reduceEqDiff, t2] <;> rfl) (by simp only [sB, Nat.reduceAdd, cutC, ld30] <;> rfl) ⟨hx.pt (by omega) gq _, ?_⟩)
   rw [hbd]
   exact ⟨_, rfl, OB.nil (by decide)⟩
  refine EvC.cut (fun st => ∃ tm', st = ⟨tm', [], H2⟩ ∧ tm'.get 1 = some (.pointer (some ⟨H.next, 0, none⟩)) ∧ tm'.get 2 = some (.pointer (some ⟨H.next + 1, 0, none⟩)) ∧ tm'.get 30 = some (.bool false)) ?_ ?_
  ·by_cases k2 : t.kind = 2
   ·have kn : t.name ≠ sExc := fun h => kexc ⟨k2, h⟩
    (repeat refine EvC.seq ?_); refine EvC.reg ?_; simp (config := { maxSteps := 2000000 }) (disch := first | omega | rfl) only [sB, Nat.reduceEqDiff, z0e, ld3, z1v, ld9, t1, qt, z0j k2, z0v, z8p kn]
    exact ⟨_, rfl, (by simp only [sG, Nat.reduceEqDiff, t1] <;> rfl), (by simp only [sG, Nat.reduceEqDiff, t2] <;> rfl), by first | (simp only [sG, Nat.reduceEqDiff]; rfl) | simp only [sG, Nat.reduceEqDiff]⟩
   ·(repeat refine EvC.seq ?_); refine EvC.reg ?_; simp (config := { maxSteps := 2000000 }) (disch := first | omega | rfl) only [sB, Nat.reduceEqDiff, z0e, ld3, t1, qt, z0l k2, Bool.false_eq_true]
    exact ⟨_, rfl, (by simp only [sG, Nat.reduceEqDiff, t1] <;> rfl), (by simp only [sG, Nat.reduceEqDiff, t2] <;> rfl), by first | (simp only [sG, Nat.reduceEqDiff]; rfl) | simp only [sG, Nat.reduceEqDiff]⟩
  clear t1 t2 tm
  rintro st ⟨tm, rfl, t1, t2, tc⟩
  (repeat refine EvC.seq ?_); refine EvC.condF (by simp (config := { maxSteps := 2000000 }) (disch := first | omega | rfl) only [sA, tc]) ?_; (try refine EvC.skip ?_); (try simp only [z02, z03])
  clear tc
  (repeat refine EvC.seq ?_); refine EvC.reg ?_; simp (config := { maxSteps := 2000000 }) (disch := first | omega | rfl) only [sB, Nat.reduceEqDiff, ld25, cl40, t1, qt]
  refine (z8r (s := sCol) (r0.mono hx hw) hx.wf).mono ?_
  clear qt
  rintro v H3 ⟨rfl, hx3⟩
  replace gt := hx3.get hx.wf gt
  replace gq := hx3.get hx.wf gq
  replace hx := hx.trans hx3
  clear hx3
  have qt := row6 gt
  by_cases hF : isF t sCol
  ·have hd : decide (isF t sCol) = true := decide_eq_true hF
   try simp (config := { maxSteps := 2000000 }) (disch := first | omega | rfl) only []
   (repeat refine EvC.seq ?_); refine EvC.condT (by simp (config := { maxSteps := 2000000 }) (disch := first | omega | rfl) only [sB, Nat.reduceEqDiff, hd]) ?_; (try refine EvC.skip ?_); (try simp only [z02, z03])
   have hbd : bodyF (m + 1) t = withinF (bodyF m) t := by rw [bodyF, if_neg hn, if_neg k1, if_neg ktrue, if_neg kexc, if_pos hF]
   have hcon := zfu hb hs (r0.mono hx hw) hF.2.2 hc hx.wf
   cases ho : withinF (bodyF m) t with
   | none =>
    (repeat refine EvC.seq ?_); refine EvC.regP 1 _ rfl rfl ?_; simp (config := { maxSteps := 2000000 }) (disch := first | omega | rfl) only [sB, Nat.reduceEqDiff, ld25, cl49, z5u, t1, qt]
    refine EvG.toP hcon ?_
    rintro e H5 ⟨hx5, he⟩
    rw [ho] at he
    exact ⟨_, he, And.intro rfl ⟨hx.trans hx5, by rw [hbd, ho]⟩⟩
   | some bd =>
    (repeat refine EvC.seq ?_); refine EvC.reg ?_; simp (config := { maxSteps := 2000000 }) (disch := first | omega | rfl) only [sB, Nat.reduceEqDiff, ld25, cl49, t1, qt]
    refine EvG.toF hcon ?_
    rintro e H5 ⟨hx5, he⟩
    rw [ho] at he
    obtain ⟨out, rfl, hob⟩ := he
    refine ⟨_, rfl, ?_⟩
    obtain ⟨ta, tc, sa, sc, rfl⟩ := hob.rep.eight
    have gq5 := hx5.get hx.wf gq
    have n5 := hx5.next
    have nx := hx.next
    have lq := hx.wf _ _ gq
    repeat' (first | refine EvC.seq ?_ | refine EvC.scope ?_ | refine EvC.block ?_ | (refine EvC.skip ?_) | (refine EvC.exit ?_) | (refine EvC.ret ?_; try simp only [z01, z00]) | (refine z0i ?_; simp (config := { maxSteps := 2000000 }) (disch := first | omega | rfl) only [sB, Nat.reduceAdd, one, st30, t2, gq5]))
    refine z0z (z0a rfl (by simp only [sB, Nat.reduceEqDiff, t2] <;> rfl) (by simp only [sB, Nat.reduceAdd, cutC, ld30] <;> rfl) ⟨(hx.trans hx5).pt (by omega) gq5 _, ?_⟩)
    rw [hbd, ho]
    exact ⟨_, rfl, hob.to (fun n hn hl => ⟨by have := hn.1; rw [get_put, if_neg (by omega)], by rw [z07]; exact hl⟩) fun n hn => ⟨by have := hn.1; omega, by rw [z07]; exact hn.2⟩⟩
  have fcol := hF
  clear hF
  have hd : decide (isF t sCol) = false := decide_eq_false fcol
  try simp (config := { maxSteps := 2000000 }) (disch := first | omega | rfl) only []
  (repeat refine EvC.seq ?_); refine EvC.condF (by simp (config := { maxSteps := 2000000 }) (disch := first | omega | rfl) only [sB, Nat.reduceEqDiff, hd]) ?_; (try refine EvC.skip ?_); (try simp only [z02, z03])
  clear hd
  refine EvC.frame (fun tm => tm.get 1 = some (.pointer (some ⟨H.next, 0, none⟩)) ∧ tm.get 2 = some (.pointer (some ⟨H.next + 1, 0, none⟩))) ⟨(by simp only [sG, Nat.reduceEqDiff, t1] <;> rfl), (by simp only [sG, Nat.reduceEqDiff, t2] <;> rfl)⟩ ?_
  clear t1 t2 tm
  rintro tm ⟨t1, t2⟩
  (repeat refine EvC.seq ?_); refine EvC.reg ?_; simp (config := { maxSteps := 2000000 }) (disch := first | omega | rfl) only [sB, Nat.reduceEqDiff, ld25, cl40, t1, qt]
  refine (z8r (s := sCma) (r0.mono hx hw) hx.wf).mono ?_
  clear qt
  rintro v H3 ⟨rfl, hx3⟩
  replace gt := hx3.get hx.wf gt
  replace gq := hx3.get hx.wf gq
  replace hx := hx.trans hx3
  clear hx3
  have qt := row6 gt
  by_cases hF : isF t sCma
  ·have hd : decide (isF t sCma) = true := decide_eq_true hF
   try simp (config := { maxSteps := 2000000 }) (disch := first | omega | rfl) only []
   (repeat refine EvC.seq ?_); refine EvC.condT (by simp (config := { maxSteps := 2000000 }) (disch := first | omega | rfl) only [sB, Nat.reduceEqDiff, hd]) ?_; (try refine EvC.skip ?_); (try simp only [z02, z03])
   have hbd : bodyF (m + 1) t = subBF (bodyF m) 4 t.args := by rw [bodyF, if_neg hn, if_neg k1, if_neg ktrue, if_neg kexc, if_neg fcol, if_pos hF]
   have hcon := z7r hb (k := 4) (by decide) (rl.mono hx hw) hfew (fun u hu => hlf hu) hx.wf
   cases ho : subBF (bodyF m) 4 t.args with
   | none =>
    (repeat refine EvC.seq ?_); refine EvC.regP 2 _ rfl rfl ?_; simp (config := { maxSteps := 2000000 }) (disch := first | omega | rfl) only [sB, Nat.reduceEqDiff, z0o, ld23, cl50, z5u, t1, qt]
    refine EvG.toP hcon ?_
    rintro e H5 ⟨hx5, he⟩
    rw [ho] at he
    exact ⟨_, he, And.intro rfl ⟨hx.trans hx5, by rw [hbd, ho]⟩⟩
   | some bd =>
    (repeat refine EvC.seq ?_); refine EvC.reg ?_; simp (config := { maxSteps := 2000000 }) (disch := first | omega | rfl) only [sB, Nat.reduceEqDiff, z0o, ld23, cl50, t1, qt]
    refine EvG.toF hcon ?_
    rintro e H5 ⟨hx5, he⟩
    rw [ho] at he
    obtain ⟨out, rfl, hob⟩ := he
    refine ⟨_, rfl, ?_⟩
    obtain ⟨ta, tc, sa, sc, rfl⟩ := hob.rep.eight
    have gq5 := hx5.get hx.wf gq
    have n5 := hx5.next
    have nx := hx.next
    have lq := hx.wf _ _ gq
    repeat' (first | refine EvC.seq ?_ | refine EvC.scope ?_ | refine EvC.block ?_ | (refine EvC.skip ?_) | (refine EvC.exit ?_) | (refine EvC.ret ?_; try simp only [z01, z00]) | (refine z0i ?_; simp (config := { maxSteps := 2000000 }) (disch := first | omega | rfl) only [sB, Nat.reduceAdd, one, st30, t2, gq5]))
    refine z0z (z0a rfl (by simp only [sB, Nat.reduceEqDiff, t2] <;> rfl) (by simp only [sB, Nat.reduceAdd, cutC, ld30] <;> rfl) ⟨(hx.trans hx5).pt (by omega) gq5 _, ?_⟩)
    rw [hbd, ho]
    exact ⟨_, rfl, hob.to (fun n hn hl => ⟨by have := hn.1; rw [get_put, if_neg (by omega)], by rw [z07]; exact hl⟩) fun n hn => ⟨by have := hn.1; omega, by rw [z07]; exact hn.2⟩⟩
  have fcma := hF
  clear hF
  have hd : decide (isF t sCma) = false := decide_eq_false fcma
  try simp (config := { maxSteps := 2000000 }) (disch := first | omega | rfl) only []
  (repeat refine EvC.seq ?_); refine EvC.condF (by simp (config := { maxSteps := 2000000 }) (disch := first | omega | rfl) only [sB, Nat.reduceEqDiff, hd]) ?_; (try refine EvC.skip ?_); (try simp only [z02, z03])
  clear hd
  refine EvC.frame (fun tm => tm.get 1 = some (.pointer (some ⟨H.next, 0, none⟩)) ∧ tm.get 2 = some (.pointer (some ⟨H.next + 1, 0, none⟩))) ⟨(by simp only [sG, Nat.reduceEqDiff, t1] <;> rfl), (by simp only [sG, Nat.reduceEqDiff, t2] <;> rfl)⟩ ?_
  clear t1 t2 tm
  rintro tm ⟨t1, t2⟩
  (repeat refine EvC.seq ?_); refine EvC.reg ?_; simp (config := { maxSteps := 2000000 }) (disch := first | omega | rfl) only [sB, Nat.reduceEqDiff, ld25, cl40, t1, qt]
  refine (z8r (s := sArr) (r0.mono hx hw) hx.wf).mono ?_
  clear qt
  rintro v H3 ⟨rfl, hx3⟩
  replace gt := hx3.get hx.wf gt
  replace gq := hx3.get hx.wf gq
  replace hx := hx.trans hx3
  clear hx3
  have qt := row6 gt
  by_cases hF : isF t sArr
  ·have hd : decide (isF t sArr) = true := decide_eq_true hF
   try simp (config := { maxSteps := 2000000 }) (disch := first | omega | rfl) only []
   (repeat refine EvC.seq ?_); refine EvC.condT (by simp (config := { maxSteps := 2000000 }) (disch := first | omega | rfl) only [sB, Nat.reduceEqDiff, hd]) ?_; (try refine EvC.skip ?_); (try simp only [z02, z03])
   have hbd : bodyF (m + 1) t = subBF (bodyF m) 6 t.args := by rw [bodyF, if_neg hn, if_neg k1, if_neg ktrue, if_neg kexc, if_neg fcol, if_neg fcma, if_pos hF]
   have hcon := z7r hb (k := 6) (by decide) (rl.mono hx hw) hfew (fun u hu => hlf hu) hx.wf
   cases ho : subBF (bodyF m) 6 t.args with
   | none =>
    (repeat refine EvC.seq ?_); refine EvC.regP 2 _ rfl rfl ?_; simp (config := { maxSteps := 2000000 }) (disch := first | omega | rfl) only [sB, Nat.reduceEqDiff, z0o, ld23, cl50, z5u, t1, qt]
    refine EvG.toP hcon ?_
    rintro e H5 ⟨hx5, he⟩
    rw [ho] at he
    exact ⟨_, he, And.intro rfl ⟨hx.trans hx5, by rw [hbd, ho]⟩⟩
   | some bd =>
    (repeat refine EvC.seq ?_); refine EvC.reg ?_; simp (config := { maxSteps := 2000000 }) (disch := first | omega | rfl) only [sB, Nat.reduceEqDiff, z0o, ld23, cl50, t1, qt]
    refine EvG.toF hcon ?_
    rintro e H5 ⟨hx5, he⟩
    rw [ho] at he
    obtain ⟨out, rfl, hob⟩ := he
    refine ⟨_, rfl, ?_⟩
    obtain ⟨ta, tc, sa, sc, rfl⟩ := hob.rep.eight
    have gq5 := hx5.get hx.wf gq
    have n5 := hx5.next
    have nx := hx.next
    have lq := hx.wf _ _ gq
    repeat' (first | refine EvC.seq ?_ | refine EvC.scope ?_ | refine EvC.block ?_ | (refine EvC.skip ?_) | (refine EvC.exit ?_) | (refine EvC.ret ?_; try simp only [z01, z00]) | (refine z0i ?_; simp (config := { maxSteps := 2000000 }) (disch := first | omega | rfl) only [sB, Nat.reduceAdd, one, st30, t2, gq5]))
    refine z0z (z0a rfl (by simp only [sB, Nat.reduceEqDiff, t2] <;> rfl) (by simp only [sB, Nat.reduceAdd, cutC, ld30] <;> rfl) ⟨(hx.trans hx5).pt (by omega) gq5 _, ?_⟩)
    rw [hbd, ho]
    exact ⟨_, rfl, hob.to (fun n hn hl => ⟨by have := hn.1; rw [get_put, if_neg (by omega)], by rw [z07]; exact hl⟩) fun n hn => ⟨by have := hn.1; omega, by rw [z07]; exact hn.2⟩⟩
  have farr := hF
  clear hF
  have hd : decide (isF t sArr) = false := decide_eq_false farr
  try simp (config := { maxSteps := 2000000 }) (disch := first | omega | rfl) only []
  (repeat refine EvC.seq ?_); refine EvC.condF (by simp (config := { maxSteps := 2000000 }) (disch := first | omega | rfl) only [sB, Nat.reduceEqDiff, hd]) ?_; (try refine EvC.skip ?_); (try simp only [z02, z03])
  clear hd
  refine EvC.frame (fun tm => tm.get 1 = some (.pointer (some ⟨H.next, 0, none⟩)) ∧ tm.get 2 = some (.pointer (some ⟨H.next + 1, 0, none⟩))) ⟨(by simp only [sG, Nat.reduceEqDiff, t1] <;> rfl), (by simp only [sG, Nat.reduceEqDiff, t2] <;> rfl)⟩ ?_
  clear t1 t2 tm
  rintro tm ⟨t1, t2⟩
  refine EvC.cut (fun st => ∃ tm' G', st = ⟨tm', [], G'⟩ ∧ tm'.get 1 = some (.pointer (some ⟨H.next, 0, none⟩)) ∧ tm'.get 2 = some (.pointer (some ⟨H.next + 1, 0, none⟩)) ∧ tm'.get 57 = some (.bool (decide (isF t sSem ∧ isF (t.at 0) sArr))) ∧ G'.get H.next = some (.row (six t a c) 25) ∧ G'.get (H.next + 1) = some (.row zero8 30) ∧ HX H G') ?_ ?_
  ·(repeat refine EvC.seq ?_); refine EvC.reg ?_; simp (config := { maxSteps := 2000000 }) (disch := first | omega | rfl) only [sB, Nat.reduceEqDiff, ld25, cl40, t1, qt]
   refine (z8r (s := sSem) (r0.mono hx hw) hx.wf).mono ?_
   clear qt
   rintro v H3 ⟨rfl, hx3⟩
   replace gt := hx3.get hx.wf gt
   replace gq := hx3.get hx.wf gq
   replace hx := hx.trans hx3
   clear hx3
   have qt := row6 gt
   by_cases hse : isF t sSem
   rotate_left
   ·have fsa : decide (isF t sSem ∧ isF (t.at 0) sArr) = false := decide_eq_false fun h => hse h.1
    have hd : decide (isF t sSem) = false := decide_eq_false hse
    try simp (config := { maxSteps := 2000000 }) (disch := first | omega | rfl) only [sB, Nat.reduceEqDiff, hd, Bool.false_eq_true]
    exact ⟨_, _, rfl, (by simp only [sG, Nat.reduceEqDiff, t1] <;> rfl), (by simp only [sG, Nat.reduceEqDiff, t2] <;> rfl), by rw [fsa]; first | (simp only [sG, Nat.reduceEqDiff]; rfl) | simp only [sG, Nat.reduceEqDiff], gt, gq, hx⟩
   have hd : decide (isF t sSem) = true := decide_eq_true hse
   obtain ⟨x, y, hxy⟩ : ∃ x y, t.args = [x, y] := by
    match hl : t.args, hse.2.2 with
    | [x, y], _ => exact ⟨x, y, rfl⟩
   have ex : t.at 0 = x := by unfold Tm.at; rw [hxy]; rfl
   have hl2 : t.args.length = 2 := hse.2.2
   have i0 : t.args[0]'(by omega) = x := by simp [hxy]
   obtain ⟨b, o, a1, c1, rfl, hld0, hr0⟩ := rl.el (i := 0) (by omega)
   rw [i0] at hld0 hr0
   simp only [Nat.zero_mul, Nat.add_zero, Nat.one_mul] at hld0
   have l0 := hx.load hw hld0
   try simp (config := { maxSteps := 2000000 }) (disch := first | omega | rfl) only [sB, Nat.reduceEqDiff, Int.reduceToNat, ld25, cl40, z0o, ld23, hd, t1, qt, l0, iz23, Nat.zero_mul]
   refine (z8r (s := sArr) (hr0.mono hx hw) hx.wf).mono ?_
   clear qt
   rintro v H4 ⟨rfl, hx3⟩
   have hde : decide (isF t sSem ∧ isF (t.at 0) sArr) = decide (isF x sArr) := by rw [ex]; simp [hse]
   try simp (config := { maxSteps := 2000000 }) (disch := first | omega | rfl) only []
   exact ⟨_, _, rfl, (by simp only [sG, Nat.reduceEqDiff, t1] <;> rfl), (by simp only [sG, Nat.reduceEqDiff, t2] <;> rfl), by rw [hde]; first | (simp only [sG, Nat.reduceEqDiff]; rfl) | simp only [sG, Nat.reduceEqDiff], hx3.get hx.wf gt, hx3.get hx.wf gq, hx.trans hx3⟩
  clear t1 t2 tm gt gq hx qt
  rintro st ⟨tm, G, rfl, t1, t2, tc, gt, gq, hx⟩
  have qt := row6 gt
  by_cases fsa : isF t sSem ∧ isF (t.at 0) sArr
  ·have hd : decide (isF t sSem ∧ isF (t.at 0) sArr) = true := decide_eq_true fsa
   obtain ⟨x, y, hxy⟩ : ∃ x y, t.args = [x, y] := by
    match hl : t.args, fsa.1.2.2 with
    | [x, y], _ => exact ⟨x, y, rfl⟩
   have ex : t.at 0 = x := by unfold Tm.at; rw [hxy]; rfl
   have ey : t.at 1 = y := by unfold Tm.at; rw [hxy]; rfl
   have hl2 : t.args.length = 2 := fsa.1.2.2
   have fx : isF x sArr := ex ▸ fsa.2
   obtain ⟨p, q, hpq⟩ : ∃ p q, x.args = [p, q] := by
    match hl : x.args, fx.2.2 with
    | [p, q], _ => exact ⟨p, q, rfl⟩
   have ep : (t.at 0).at 0 = p := by rw [ex]; unfold Tm.at; rw [hpq]; rfl
   have eq : (t.at 0).at 1 = q := by rw [ex]; unfold Tm.at; rw [hpq]; rfl
   have hx2 : x.args.length = 2 := fx.2.2
   have i0 : t.args[0]'(by omega) = x := by simp [hxy]
   have i1 : t.args[1]'(by omega) = y := by simp [hxy]
   have j0 : x.args[0]'(by omega) = p := by simp [hpq]
   have j1 : x.args[1]'(by omega) = q := by simp [hpq]
   obtain ⟨b, o, a1, c1, rfl, hld0, hr0⟩ := rl.el (i := 0) (by omega)
   obtain ⟨b', o', a2, c2, e2, hld1, hr1⟩ := rl.el (i := 1) (by omega)
   cases e2
   rw [i0] at hld0 hr0
   rw [i1] at hld1 hr1
   obtain ⟨ax, cx, cellsx, ee, -, -, -, -, -, rlx⟩ := hr0.six
   obtain ⟨-, -, -, -, -, rfl, rfl⟩ := z7l ee
   obtain ⟨bx, ox, a3, c3, rfl, hld2, hr2⟩ := rlx.el (i := 0) (by omega)
   obtain ⟨b'', o'', a4, c4, e4, hld3, hr3⟩ := rlx.el (i := 1) (by omega)
   cases e4
   rw [j0] at hld2 hr2
   rw [j1] at hld3 hr3
   simp only [Nat.zero_mul, Nat.add_zero, Nat.one_mul] at hld0 hld1 hld2 hld3
   have l0 := ldA5 (hx.load hw hld0)
   have l1 := hx.load hw hld1
   have l2 := hx.load hw hld2
   have l3 := hx.load hw hld3
   obtain ⟨L, eL⟩ : ∃ L, six p a3 c3 ++ six q a4 c4 ++ six y a2 c2 = L := ⟨_, rfl⟩
   obtain ⟨Hq, e5⟩ : ∃ Hq, (⟨G.next + 21, G.t⟩ : Heap).put (G.next + 18) (some (.row L 25)) = Hq := ⟨_, rfl⟩
   have hxq : HX G Hq := by rw [← e5]; exact (((HX.refl hx.wf).bump 21).put (by omega) (by show _ < G.next + 21; omega) _)
   have gL : Hq.get (G.next + 18) = some (.row L 25) := by rw [← e5, get_put, if_pos rfl]
   have gq5 := hxq.get hx.wf gq
   have gt5 := hxq.get hx.wf gt
   have hxf := hx.trans hxq
   have rl3 : RepL Hq [p, q, y] (some ⟨G.next + 18, 0, none⟩) 3 (fun i => (L.drop (i * 6)).take 6) := RepL.of_row gL (fun i hi => rfl) (fun i u hu => by
     match i, hu with
     | 0, hu => cases hu; rw [← eL]; exact hr2.mono hxf hw
     | 1, hu => cases hu; rw [← eL]; exact hr3.mono hxf hw
     | 2, hu => cases hu; rw [← eL]; exact hr1.mono hxf hw) (Nat.le_refl _) (by decide)
   have hmx : x ∈ t.args := by rw [hxy]; simp
   have hmy : y ∈ t.args := by rw [hxy]; simp
   have hcx := z1a hc hmx
   have hxl := z0h hmx
   have hcon := z7r hb (k := 6) (by decide) rl3 (by show 3 ≤ 64; decide) (fun u hu => by
     have hux : u ∈ x.args ∨ u = y := by
      rw [hpq]
      simp only [List.mem_cons, List.not_mem_nil, or_false] at hu ⊢
      rcases hu with h | h | h
      ·exact .inl (.inl h)
      ·exact .inl (.inr h)
      ·exact .inr h
     rcases hux with hu | rfl
     ·exact ⟨by have := z0h hu; omega, z1a hcx hu⟩
     ·exact hlf hmy) hxq.wf
   have hbd : bodyF (m + 1) t = subBF (bodyF m) 6 [p, q, y] := by rw [bodyF, if_neg hn, if_neg k1, if_neg ktrue, if_neg kexc, if_neg fcol, if_neg fcma, if_neg farr, if_pos fsa, ep, eq, ey]
   have nx := hx.next
   have lq := hx.wf _ _ gq
   have eL' := eL
   simp only [six, List.cons_append, List.nil_append] at eL'
   have neq : (H.next + 1 = G.next + 18) = False := by simp; omega
   (repeat refine EvC.seq ?_); refine EvC.condT (by simp (config := { maxSteps := 2000000 }) (disch := first | omega | rfl) only [sA, tc, hd]) ?_; (try refine EvC.skip ?_); (try simp only [z02, z03])
   cases ho : subBF (bodyF m) 6 [p, q, y] with
   | none =>
    (repeat refine EvC.seq ?_); refine EvC.drwP 19 _ [(0, 0), (1, 0), (2, 0), (3, 0), (4, 0), (5, 0), (6, 0), (7, 0), (8, 0), (9, 0), (10, 0), (11, 0), (12, 0), (13, 0), (14, 0), (15, 0), (16, 0), (17, 0), (18, 0)] [([], some 20), ([], none)] (by kernel_rfl) (by kernel_rfl) rfl rfl ?_; simp (config := { maxSteps := 2000000 }) (disch := first | omega | rfl) only [sD, sB, Nat.reduceEqDiff, Nat.reduceAdd, Value.cells, one, reduceCtorEq, Nat.reduceLeDiff, layC, Int.reduceToNat, ld25, st30, z0o, ld23, cl50, zh1, isAlloc, isRead, dalloc, reduceCtorEq, zi9, t1, t2, qt, l0, l1, l2, l3, iz23, Nat.zero_mul, Nat.one_mul, zmz, eL', e5, gq5]
    refine EvG.toP hcon ?_
    rintro e H5 ⟨hx5, he⟩
    rw [ho] at he
    exact ⟨_, he, And.intro rfl ⟨hxf.trans hx5, by rw [hbd, ho]⟩⟩
   | some bd =>
    (repeat refine EvC.seq ?_); refine EvC.drw [([(0, 0), (1, 0), (2, 0), (3, 0), (4, 0), (5, 0), (6, 0), (7, 0), (8, 0), (9, 0), (10, 0), (11, 0), (12, 0), (13, 0), (14, 0), (15, 0), (16, 0), (17, 0), (18, 0)], some 19), ([], some 20), ([], none)] (by kernel_rfl) ?_; simp (config := { maxSteps := 2000000 }) (disch := first | omega | rfl) only [sD, sB, Nat.reduceEqDiff, Nat.reduceAdd, Value.cells, one, reduceCtorEq, Nat.reduceLeDiff, layC, Int.reduceToNat, ld25, z0o, ld23, cl50, zh1, isAlloc, isRead, dalloc, reduceCtorEq, t1, qt, l0, l1, l2, l3, iz23, Nat.zero_mul, Nat.one_mul, eL', e5]
    refine EvG.toF hcon ?_
    rintro e H5 ⟨hx5, he⟩
    rw [ho] at he
    obtain ⟨out, rfl, hob⟩ := he
    refine ⟨_, rfl, ?_⟩
    obtain ⟨ta, tc, sa, sc, rfl⟩ := hob.rep.eight
    have gq6 := hx5.get hxq.wf gq5
    have n5 := hx5.next
    have nq := hxq.next
    repeat' (first | refine EvC.seq ?_ | refine EvC.scope ?_ | refine EvC.block ?_ | (refine EvC.skip ?_) | (refine EvC.exit ?_) | (refine EvC.ret ?_; try simp only [z01, z00]) | (refine z1b ?_; simp (config := { maxSteps := 2000000 }) (disch := first | omega | rfl) only [sD, sB, Nat.reduceEqDiff, Nat.reduceAdd, one, st30, t2, gq6]))
    refine z0z (z0a rfl (by simp only [sB, Nat.reduceEqDiff, t2] <;> rfl) (by simp only [sB, Nat.reduceAdd, cutC, ld30] <;> rfl) ⟨(hxf.trans hx5).pt (by omega) gq6 _, ?_⟩)
    rw [hbd, ho]
    exact ⟨_, rfl, hob.to (fun n hn hl => ⟨by have := hn.1; rw [get_put, if_neg (by omega)], by rw [z07]; exact hl⟩) fun n hn => ⟨by have := hn.1; omega, by rw [z07]; exact hn.2⟩⟩
  have hd : decide (isF t sSem ∧ isF (t.at 0) sArr) = false := decide_eq_false fsa
  (repeat refine EvC.seq ?_); refine EvC.condF (by simp (config := { maxSteps := 2000000 }) (disch := first | omega | rfl) only [sA, tc, hd]) ?_; (try refine EvC.skip ?_); (try simp only [z02, z03])
  clear tc hd
  (repeat refine EvC.seq ?_); refine EvC.reg ?_; simp (config := { maxSteps := 2000000 }) (disch := first | omega | rfl) only [sB, Nat.reduceEqDiff, ld25, cl40, t1, qt]
  refine (z8r (s := sSem) (r0.mono hx hw) hx.wf).mono ?_
  clear qt
  rintro v H3 ⟨rfl, hx3⟩
  replace gt := hx3.get hx.wf gt
  replace gq := hx3.get hx.wf gq
  replace hx := hx.trans hx3
  clear hx3
  have qt := row6 gt
  by_cases hF : isF t sSem
  ·have hd : decide (isF t sSem) = true := decide_eq_true hF
   try simp (config := { maxSteps := 2000000 }) (disch := first | omega | rfl) only []
   (repeat refine EvC.seq ?_); refine EvC.condT (by simp (config := { maxSteps := 2000000 }) (disch := first | omega | rfl) only [sB, Nat.reduceEqDiff, hd]) ?_; (try refine EvC.skip ?_); (try simp only [z02, z03])
   have hbd : bodyF (m + 1) t = subBF (bodyF m) 5 t.args := by rw [bodyF, if_neg hn, if_neg k1, if_neg ktrue, if_neg kexc, if_neg fcol, if_neg fcma, if_neg farr, if_neg fsa, if_pos hF]
   have hcon := z7r hb (k := 5) (by decide) (rl.mono hx hw) hfew (fun u hu => hlf hu) hx.wf
   cases ho : subBF (bodyF m) 5 t.args with
   | none =>
    (repeat refine EvC.seq ?_); refine EvC.regP 2 _ rfl rfl ?_; simp (config := { maxSteps := 2000000 }) (disch := first | omega | rfl) only [sB, Nat.reduceEqDiff, z0o, ld23, cl50, z5u, t1, qt]
    refine EvG.toP hcon ?_
    rintro e H5 ⟨hx5, he⟩
    rw [ho] at he
    exact ⟨_, he, And.intro rfl ⟨hx.trans hx5, by rw [hbd, ho]⟩⟩
   | some bd =>
    (repeat refine EvC.seq ?_); refine EvC.reg ?_; simp (config := { maxSteps := 2000000 }) (disch := first | omega | rfl) only [sB, Nat.reduceEqDiff, z0o, ld23, cl50, t1, qt]
    refine EvG.toF hcon ?_
    rintro e H5 ⟨hx5, he⟩
    rw [ho] at he
    obtain ⟨out, rfl, hob⟩ := he
    refine ⟨_, rfl, ?_⟩
    obtain ⟨ta, tc, sa, sc, rfl⟩ := hob.rep.eight
    have gq5 := hx5.get hx.wf gq
    have n5 := hx5.next
    have nx := hx.next
    have lq := hx.wf _ _ gq
    repeat' (first | refine EvC.seq ?_ | refine EvC.scope ?_ | refine EvC.block ?_ | (refine EvC.skip ?_) | (refine EvC.exit ?_) | (refine EvC.ret ?_; try simp only [z01, z00]) | (refine z0i ?_; simp (config := { maxSteps := 2000000 }) (disch := first | omega | rfl) only [sB, Nat.reduceAdd, one, st30, t2, gq5]))
    refine z0z (z0a rfl (by simp only [sB, Nat.reduceEqDiff, t2] <;> rfl) (by simp only [sB, Nat.reduceAdd, cutC, ld30] <;> rfl) ⟨(hx.trans hx5).pt (by omega) gq5 _, ?_⟩)
    rw [hbd, ho]
    exact ⟨_, rfl, hob.to (fun n hn hl => ⟨by have := hn.1; rw [get_put, if_neg (by omega)], by rw [z07]; exact hl⟩) fun n hn => ⟨by have := hn.1; omega, by rw [z07]; exact hn.2⟩⟩
  have fsem := hF
  clear hF
  have hd : decide (isF t sSem) = false := decide_eq_false fsem
  try simp (config := { maxSteps := 2000000 }) (disch := first | omega | rfl) only []
  (repeat refine EvC.seq ?_); refine EvC.condF (by simp (config := { maxSteps := 2000000 }) (disch := first | omega | rfl) only [sB, Nat.reduceEqDiff, hd]) ?_; (try refine EvC.skip ?_); (try simp only [z02, z03])
  clear hd
  have hbd : bodyF (m + 1) t = some (.mk 3 t []) := by rw [bodyF, if_neg hn, if_neg k1, if_neg ktrue, if_neg kexc, if_neg fcol, if_neg fcma, if_neg farr, if_neg fsa, if_neg fsem]
  exact ⟨_, _, rfl, (by simp only [sG, Nat.reduceEqDiff, t1] <;> rfl), (by simp only [sG, Nat.reduceEqDiff, t2] <;> rfl), gt, gq, hx, hbd⟩
theorem z9p : ∀ m : Nat, BodyP m
 | 0 => fun h => absurd h (Nat.not_lt_zero _)
 | m + 1 => fun hs r hc hw => zig (z9p m) hs r hc hw
end Go.Proofs.hq
end

section
namespace Go.Proofs.hq
open Go Go.RowKit Go.Hb
inductive RepBI (H : Heap) (S : Nat → Prop) : Bdy → List Value → Prop
 | mk (k : Int) (t : Tm) (l : List Bdy) (cs : List Value) (a : Option Addr) (c : Nat) (cells : Nat → List Value) : i64 k → RepS H S t cs → l.length ≤ c → c ≤ maxLen → (a = none → l = [] ∧ c = 0) →
   (∀ i ad, i < l.length → a = some ad → ad.spot = none ∧ S ad.block ∧ ad.block < H.next ∧ H.load ⟨ad.block, ad.off + i * 8, none⟩ 8 = some (cells i)) → (∀ i u, l[i]? = some u → RepBI H S u (cells i)) →
   RepBI H S (.mk k t l) (eight k cs a l.length c)
theorem zbv {H G : Heap} {b o n : Nat} (h : G.get b = H.get b) : G.load ⟨b, o, none⟩ n = H.load ⟨b, o, none⟩ n := by
 unfold Heap.load Heap.cells
 simp only [h]
section
variable {H H' : Heap} {S S' : Nat → Prop} {u : Bdy} {cs : List Value}
theorem RepBI.rep (h : RepBI H S u cs) : RepB H u cs := by
 induction h with
 | mk k t l ts a c cells h1 h2 h3 h4 h5 h6 h7 ih => exact .mk k t l ts a c cells h1 h2.rep h3 h4 h5 (fun i ad hi ha => ⟨(h6 i ad hi ha).1, (h6 i ad hi ha).2.2.2⟩) ih
theorem RepBI.to (h : RepBI H S u cs) (hk : ∀ n, S n → n < H.next → H'.get n = H.get n ∧ S' n ∧ n < H'.next) : RepBI H' S' u cs := by
 induction h with
 | mk k t l ts a c cells h1 h2 h3 h4 h5 h6 h7 ih =>
  refine .mk k t l ts a c cells h1 (h2.to hk) h3 h4 h5 (fun i ad hi ha => ?_) ih
  obtain ⟨p1, p2, p3, p4⟩ := h6 i ad hi ha
  obtain ⟨k1, k2, k3⟩ := hk _ p2 p3
  exact ⟨p1, k2, k3, by rw [zbv k1]; exact p4⟩
theorem RepBI.inv (h : RepBI H S u cs) : ∃ (ta : Option Addr) (tc : Nat) (a : Option Addr) (c : Nat) (cells : Nat → List Value), cs = eightT u.kind u.term ta tc a u.sub.length c ∧ i64 u.kind ∧ RepS H S u.term (six u.term ta tc) ∧ u.sub.length ≤ c ∧ c ≤ maxLen ∧
  ∀ i (hi : i < u.sub.length), ∃ b o, a = some ⟨b, o, none⟩ ∧ S b ∧ b < H.next ∧ H.load ⟨b, o + i * 8, none⟩ 8 = some (cells i) ∧ RepBI H S u.sub[i] (cells i) := by
 cases h with
 | mk k t l ts a c cells h1 h2 h3 h4 h5 h6 h7 =>
  obtain ⟨ta, tc, cellst, rfl, -⟩ := h2.rep.inv
  refine ⟨ta, tc, a, c, cells, rfl, h1, h2, h3, h4, fun i hi => ?_⟩
  cases a with
  | none => obtain ⟨rfl, _⟩ := h5 rfl; exact absurd hi (Nat.not_lt_zero _)
  | some ad =>
   obtain ⟨p1, p2, p3, p4⟩ := h6 i ad hi rfl
   obtain ⟨b, o, s⟩ := ad
   obtain rfl : s = none := p1
   exact ⟨b, o, rfl, p2, p3, p4, h7 i _ (List.getElem?_eq_getElem hi)⟩
theorem OB.bi {TB TT : TypeId} (h : OB H TB TT S u cs) : RepBI H S u cs := by
 induction h with
 | leaf S k t cs h1 h2 h3 => exact .mk k t [] cs none 0 (fun _ => []) h1 h2 (Nat.le_refl _) (Nat.zero_le _) (fun _ => ⟨rfl, rfl⟩) (fun i ad hi => by simp at hi) (fun i u hu => by simp at hu)
 | node S k t cs l b c cells Si h1 h2 h3 h4 h5 h6 h7 h8 h9 h10 h11 h12 h13 ih =>
  refine .mk k t l cs (some ⟨b, 0, none⟩) c (fun i => (cells.drop (i * 8)).take 8) h1 h2 h4 h5 (fun h => by cases h) (fun i ad hi ha => ?_) (fun i u hu => (ih i u hu).to fun n hn hl => ⟨rfl, h12 i n (List.getElem?_eq_some_iff.1 hu).1 hn, hl⟩)
  cases ha
  refine ⟨rfl, h7, h8, ?_⟩
  have hle : i * 8 + 8 ≤ l.length * 8 := by omega
  unfold Heap.load Heap.cells
  simp only [h6, Nat.zero_add]
  rw [if_pos (by rw [Nat.beq_eq, List.length_take, List.length_drop]; omega)]
end
theorem RepT.toS {H : Heap} {t : Tm} {cs : List Value} (hw : H.wf) (r : RepT H t cs) : RepS H (fun n => n < H.next) t cs := by
 intro G hG
 induction r with
 | mk k s u b v l a c cells h1 h2 h3 h4 h5 h6 h7 h8 h9 h10 h11 ih =>
  refine .mk k s u b v l a c cells h1 h2 h3 h4 h5 h6 h7 h8 h9 (fun i ad hi ha => ⟨(h10 i ad hi ha).1, ?_⟩) ih
  have h := (h10 i ad hi ha).2
  have hl := zcz hw h
  rw [zbv (hG _ hl hl)]; exact h
theorem RepB.bi {H : Heap} {u : Bdy} {cs : List Value} (hw : H.wf) (r : RepB H u cs) : RepBI H (fun n => n < H.next) u cs := by
 induction r with
 | mk k t l ts a c cells h1 h2 h3 h4 h5 h6 h7 ih =>
  refine .mk k t l ts a c cells h1 (RepT.toS hw h2) h3 h4 h5 (fun i ad hi ha => ?_) ih
  obtain ⟨p1, p2⟩ := h6 i ad hi ha
  have hl := zcz hw p2
  exact ⟨p1, hl, hl, p2⟩
inductive FewB (n : Nat) : Bdy → Prop
 | mk {b : Bdy} : b.sub.length ≤ n → Few n b.term → (∀ u ∈ b.sub, FewB n u) → FewB n b
theorem FewB.len {n : Nat} {b : Bdy} (h : FewB n b) : b.sub.length ≤ n := by cases h; assumption
theorem FewB.term {n : Nat} {b : Bdy} (h : FewB n b) : Few n b.term := by cases h; assumption
theorem FewB.sub {n : Nat} {b : Bdy} (h : FewB n b) : ∀ u ∈ b.sub, FewB n u := by cases h; assumption
def LT (H : Heap) (T : TypeId) (E : Nat → Prop) (l : List Tm) (a : Option Addr) (c : Nat) : Prop :=
 (l = [] ∧ a = none ∧ c = 0) ∨ ∃ (b : Nat) (cells : List Value), a = some ⟨b, 0, none⟩ ∧ l.length ≤ c ∧ c ≤ maxLen ∧ H.get b = some (.row cells T) ∧ ¬ E b ∧ b < H.next ∧ l.length * 6 ≤ cells.length ∧ ∀ i u, l[i]? = some u → RepS H E u ((cells.drop (i * 6)).take 6)
section
variable {H H' : Heap} {T : TypeId} {E E' : Nat → Prop} {l : List Tm} {a : Option Addr} {c : Nat}
theorem LT.nil : LT H T E [] none 0 := .inl ⟨rfl, rfl, rfl⟩
theorem LT.to (h : LT H T E l a c) (hk : ∀ n, E n ∨ a = some ⟨n, 0, none⟩ → n < H.next → H'.get n = H.get n) (hn : H.next ≤ H'.next) (hs : ∀ n, E n → E' n) (hne : ∀ n, a = some ⟨n, 0, none⟩ → ¬ E' n) : LT H' T E' l a c := by
 rcases h with h | ⟨b, cells, rfl, h1, h2, h3, h4, h5, h6, h7⟩
 ·exact .inl h
 ·exact .inr ⟨b, cells, rfl, h1, h2, (hk b (.inr rfl) h5).trans h3, hne b rfl, Nat.lt_of_lt_of_le h5 hn, h6, fun i u hu => (h7 i u hu).to fun n hn' hl => ⟨hk n (.inl hn') hl, hs n hn', Nat.lt_of_lt_of_le hl hn⟩⟩
theorem zoc {cells : List Value} {i n : Nat} (h : i < n) (vs : List Value) (hn : n * 6 ≤ cells.length) : ((cells.take (n * 6) ++ vs).drop (i * 6)).take 6 = (cells.drop (i * 6)).take 6 := by
 have h1 : (cells.take (n * 6)).length = n * 6 := by rw [List.length_take]; omega
 rw [List.drop_append_of_le_length (by omega), List.take_append_of_le_length (by rw [List.length_drop]; omega), List.drop_take, List.take_take]
 congr 1; omega
theorem LT.push {P : Program} {t : TypeId} (hp : apOk P t T 6) {E2 : Nat → Prop} {u : Tm} {cs : List Value} {c1 : Nat} {ad : Addr} (h : LT H T E l a c) (hw : H.wf) (hl : H.load ad (1 * 6) = some cs) (hu : RepS H E2 u cs) (hE : ∀ n, E2 n → a ≠ some ⟨n, 0, none⟩)
  (hEl : ∀ n, E n → n < H.next) (hE2l : ∀ n, E2 n → n < H.next) (hm : l.length + 1 ≤ most) (h2 : ∀ n, E n ∨ E2 n → E' n) (hnew : ¬ E' H.next) :
  ∃ H2, dAp P #[t, t] (.slice a l.length c) (.slice (some ad) 1 c1) H = some (.val (.slice (some ⟨H.next, 0, none⟩) (l.length + 1) (l.length + 1)) H2) ∧ LT H2 T E' (l ++ [u]) (some ⟨H.next, 0, none⟩) (l.length + 1) ∧ HK (fun n => a = some ⟨n, 0, none⟩) H H2 ∧ H2.next = H.next + 1 := by
 have hmax : l.length + 1 ≤ maxLen := Nat.le_trans hm (by simp [most, maxLen])
 obtain ⟨hone, hlen⟩ := z4r hu.rep
 rcases h with ⟨rfl, rfl, rfl⟩ | ⟨b, cells, rfl, h1, h2', h3, h4, h5, h6, h7⟩
 ·have hx := (HX.refl hw).new (some (.row cs T))
  refine ⟨_, z5o hp (by omega) hm hl hone, ?_, hx.hk _, rfl⟩
  refine .inr ⟨H.next, cs, rfl, Nat.le_refl _, hmax, z0n, hnew, Nat.lt_succ_self _, by simp [hlen], fun i v hv => ?_⟩
  match i, hv with
  | 0, hv =>
   cases hv
   rw [Nat.zero_mul, List.drop_zero, List.take_of_length_le (by omega)]
   exact hu.to fun n hn hl => ⟨hx.keep n hl, h2 n (.inr hn), Nat.lt_succ_of_lt hl⟩
 ·have hcells : (cells.take (l.length * 6)).all one = true := z1r _ h6 fun i hi => (z4r (h7 i _ (List.getElem?_eq_getElem hi)).rep).1
  have hk : HK (fun n => some (⟨b, 0, none⟩ : Addr) = some ⟨n, 0, none⟩) H ((H.put b none).new (some (.row (cells.take (l.length * 6) ++ cs) T))) := ((HK.refl (S := fun n => some (⟨b, 0, none⟩ : Addr) = some ⟨n, 0, none⟩) hw).put (.inl rfl) h5 none).new _
  have hkeep : ∀ n, n < H.next → n ≠ b → ((H.put b none).new (some (.row (cells.take (l.length * 6) ++ cs) T))).get n = H.get n := fun n hn hne => by
   rw [z1l (by rw [z07]; exact hn), z2u hne]
  refine ⟨_, z4m hp (by omega) hm hl hone h3 h6 hcells, ?_, hk, rfl⟩
  have htl : (cells.take (l.length * 6)).length = l.length * 6 := by rw [List.length_take]; omega
  refine .inr ⟨H.next, cells.take (l.length * 6) ++ cs, rfl, by simp, hmax, z0n, hnew, Nat.lt_succ_self _, by simp [hlen, htl]; omega, fun i v hv => ?_⟩
  by_cases hi : i < l.length
  ·rw [List.getElem?_append_left hi] at hv
   rw [zoc hi _ h6]
   exact (h7 i v hv).to fun n hn hl => ⟨hkeep n hl fun e => h4 (e ▸ hn), h2 n (.inl hn), Nat.lt_succ_of_lt hl⟩
  ·have hil : i = l.length := by
    have := (List.getElem?_eq_some_iff.1 hv).1
    simp at this; omega
   subst hil
   simp at hv; subst hv
   have e8 : ((cells.take (l.length * 6) ++ cs).drop (l.length * 6)).take 6 = cs := by rw [List.drop_left' htl, List.take_of_length_le (by omega)]
   rw [e8]
   exact hu.to fun n hn hl => ⟨hkeep n hl fun e => hE n hn (by rw [e]), h2 n (.inr hn), Nat.lt_succ_of_lt hl⟩
theorem LT.repL (h : LT H T E l a c) : ∃ cells, RepL H l a c cells ∧ ∀ i u, l[i]? = some u → RepS H E u (cells i) := by
 rcases h with ⟨rfl, rfl, rfl⟩ | ⟨b, cells, rfl, h1, h2, h3, h4, h5, h6, h7⟩
 ·exact ⟨fun _ => [], ⟨Nat.le_refl _, Nat.zero_le _, fun _ => ⟨rfl, rfl⟩, (fun i ad hi => by simp at hi), (fun i u hu => by simp at hu)⟩, (fun i u hu => by simp at hu)⟩
 ·exact ⟨fun i => (cells.drop (i * 6)).take 6, RepL.of_row h3 (fun i hi => rfl) (fun i u hu => (h7 i u hu).rep) h1 h2, h7⟩
theorem LT.comp {s : ByteArray} (h : LT H T E l a c) (hs : s.size ≤ maxLen) (he : ∀ n, E n → E' n) (hb : ∀ n, a = some ⟨n, 0, none⟩ → E' n) (hm : c ≤ maxLen) : RepS H E' (cmpT s l) (six (cmpT s l) a c) := by
 rcases h with ⟨rfl, rfl, rfl⟩ | ⟨b, cells, rfl, h1, h2, h3, h4, h5, h6, h7⟩
 ·exact RepS.leaf (z4e hs) rfl (Nat.zero_le _) fun _ => rfl
 ·exact RepS.row (t := cmpT s l) (z4e hs) rfl h3 (hb b rfl) h5 h6 h1 h2 fun j hj => (h7 j _ (List.getElem?_eq_getElem hj)).to fun n hn hl => ⟨rfl, he n hn, hl⟩
end
end Go.Proofs.hq
end
