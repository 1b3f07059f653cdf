import Derived.Test.YtlllbkjiadcloaaDoorM6
import Derived.Test.YtlllbkjiadcloaaDoorM3
import Derived.Test.YtlllbkjiadcloaaDoorM5
/- Lemmas on the program's own code, towards the laws of this folder, part 7. Conditions: as each lemma says. -/
-- Z8
section
/- Floats, the plain law: the order by value is the order by bits. -/
namespace Go.Proofs.YtlllbkjiadcloaaDoor.hb
open Go Go.RowKit Go.Hb

def expF (g : Nat) : Nat := g / 4503599627370496 - 1
def manF (g : Nat) : Nat := if g < 4503599627370496 then g else 4503599627370496 + g % 4503599627370496
def valF (g : Nat) : Nat := manF g * 2 ^ expF g

theorem valF_lt {g h : Nat} (l : g < h) : valF g < valF h := by
  unfold valF
  by_cases e : expF g = expF h
  · rw [e]
    refine Nat.mul_lt_mul_of_pos_right ?_ (Nat.two_pow_pos _)
    unfold manF expF at *
    split <;> split <;> omega
  · have e' : expF g < expF h := by unfold expF at *; omega
    have h1 : manF g < 9007199254740992 := by unfold manF; split <;> omega
    have h2 : 4503599627370496 ≤ manF h := by unfold manF expF at *; split <;> omega
    have h3 : 2 ^ (expF g + 1) ≤ 2 ^ expF h := Nat.pow_le_pow_right (by omega) e'
    have h4 : manF g * 2 ^ expF g < 9007199254740992 * 2 ^ expF g := Nat.mul_lt_mul_of_pos_right h1 (Nat.two_pow_pos _)
    have h5 : 4503599627370496 * 2 ^ expF h ≤ manF h * 2 ^ expF h := Nat.mul_le_mul_right _ h2
    have h6 : 4503599627370496 * 2 ^ (expF g + 1) ≤ 4503599627370496 * 2 ^ expF h := Nat.mul_le_mul_left _ h3
    rw [Nat.pow_succ] at h6
    omega

theorem valF_lt_iff {g h : Nat} : valF g < valF h ↔ g < h := by
  constructor
  · intro e
    rcases Nat.lt_trichotomy g h with l | l | l
    · exact l
    · subst l; omega
    · have := valF_lt l; omega
  · exact valF_lt

theorem read_fin {w : Nat} (h : w % 9223372036854775808 < 9218868437227405312) :
    Ieee.double.read w = .number (w / 9223372036854775808 % 2 == 1) (manF (w % 9223372036854775808)) ((expF (w % 9223372036854775808) : Int) - 1074) := by
  rw [read_eq]
  generalize w % 9223372036854775808 = g at h
  split
  · rename_i h1
    have e1 : manF g = g := by unfold manF; rw [if_pos h1]
    have e2 : expF g = 0 := by unfold expF; omega
    rw [e1, e2]; rfl
  · rename_i h1
    have e1 : manF g = 4503599627370496 + g % 4503599627370496 := by unfold manF; rw [if_neg h1]
    rw [e1]
    congr 1
    first | done | (unfold expF; omega)

theorem compare_mul {x y : Int} {c : Nat} (hc : 0 < c) : compare (x * c) (y * c) = compare x y := by
  have hc' : (0 : Int) < c := by omega
  rcases Int.lt_trichotomy x y with h | h | h
  · rw [Int.compare_eq_lt.2 h, Int.compare_eq_lt.2 (Int.mul_lt_mul_of_pos_right h hc')]
  · subst h; rw [Int.compare_eq_eq.2 rfl, Int.compare_eq_eq.2 rfl]
  · rw [Int.compare_eq_gt.2 h, Int.compare_eq_gt.2 (Int.mul_lt_mul_of_pos_right h hc')]
def svF (s : Bool) (x : Nat) : Int := if s then -(x : Int) else x
theorem signed_eq (s : Bool) (m k : Nat) : Ieee.signed s m k = svF s (m * 2 ^ k) := by
  unfold Ieee.signed svF
  rw [Nat.shiftLeft_eq]
theorem svF_mul (s : Bool) (x c : Nat) : svF s (x * c) = svF s x * c := by
  unfold svF
  cases s
  · simp
  · simp [Int.neg_mul]
theorem order_num (s t : Bool) (m n i j : Nat) : Ieee.Datum.order (.number s m ((i : Int) - 1074)) (.number t n ((j : Int) - 1074)) = some (compare (svF s (m * 2 ^ i)) (svF t (n * 2 ^ j))) := by
  show some (compare (Ieee.signed s m (((i : Int) - 1074) - min ((i : Int) - 1074) ((j : Int) - 1074)).toNat) (Ieee.signed t n (((j : Int) - 1074) - min ((i : Int) - 1074) ((j : Int) - 1074)).toNat)) = _
  have e1 : (((i : Int) - 1074) - min ((i : Int) - 1074) ((j : Int) - 1074)).toNat = i - min i j := by omega
  have e2 : (((j : Int) - 1074) - min ((i : Int) - 1074) ((j : Int) - 1074)).toNat = j - min i j := by omega
  rw [e1, e2, signed_eq, signed_eq]
  have f1 : m * 2 ^ i = m * 2 ^ (i - min i j) * 2 ^ min i j := by rw [Nat.mul_assoc, ← Nat.pow_add]; congr 2; omega
  have f2 : n * 2 ^ j = n * 2 ^ (j - min i j) * 2 ^ min i j := by rw [Nat.mul_assoc, ← Nat.pow_add]; congr 2; omega
  rw [f1, f2, svF_mul s (m * 2 ^ (i - min i j)), svF_mul t (n * 2 ^ (j - min i j)), compare_mul (Nat.two_pow_pos _)]
theorem ordF_fin {v w : Nat} (hv : v % 9223372036854775808 < 9218868437227405312) (hw : w % 9223372036854775808 < 9218868437227405312) :
    ordF v w = some (compare (svF (v / 9223372036854775808 % 2 == 1) (valF (v % 9223372036854775808))) (svF (w / 9223372036854775808 % 2 == 1) (valF (w % 9223372036854775808)))) := by
  show Ieee.Datum.order (Ieee.double.read v) (Ieee.double.read w) = _
  rw [read_fin hv, read_fin hw, order_num]; rfl

def sgnF (v : Nat) : Int := svF (v / 9223372036854775808 % 2 == 1) (valF (v % 9223372036854775808))
theorem sgnF_lo {v : Nat} (h : v < 9223372036854775808) : sgnF v = valF v := by
  have e1 : (v / 9223372036854775808 % 2 == 1) = false := beq_eq_false_iff_ne.2 (by omega)
  have e2 : v % 9223372036854775808 = v := by omega
  unfold sgnF
  rw [e1, e2, svF, if_neg Bool.false_ne_true]
theorem sgnF_hi {v : Nat} (h : 9223372036854775808 ≤ v) (h' : v < 18446744073709551616) : sgnF v = -(valF (v - 9223372036854775808) : Int) := by
  have e1 : (v / 9223372036854775808 % 2 == 1) = true := beq_iff_eq.2 (by omega)
  have e2 : v % 9223372036854775808 = v - 9223372036854775808 := by omega
  unfold sgnF
  rw [e1, e2, svF, if_pos rfl]
theorem sgnF_lt {v w : Nat} (hv : v < 18446744073709551616) (hw : w < 18446744073709551616) (nv : v ≠ 9223372036854775808) (nw : w ≠ 9223372036854775808) : sgnF v < sgnF w ↔ keyF v < keyF w := by
  have z : ∀ g, 0 < g → 0 < valF g := fun g h => by have := valF_lt h; omega
  unfold keyF
  by_cases h1 : v < 9223372036854775808 <;> by_cases h2 : w < 9223372036854775808
  · rw [sgnF_lo h1, sgnF_lo h2, if_neg (by omega), if_neg (by omega)]
    have := @valF_lt_iff v w
    omega
  · rw [sgnF_lo h1, sgnF_hi (by omega) hw, if_neg (by omega), if_pos (by omega)]
    have := z (w - 9223372036854775808) (by omega)
    omega
  · rw [sgnF_hi (by omega) hv, sgnF_lo h2, if_pos (by omega), if_neg (by omega)]
    have := z (v - 9223372036854775808) (by omega)
    omega
  · rw [sgnF_hi (by omega) hv, sgnF_hi (by omega) hw, if_pos (by omega), if_pos (by omega)]
    have := @valF_lt_iff (w - 9223372036854775808) (v - 9223372036854775808)
    omega
theorem fltO_eq {v w : Nat} (hv : v < 18446744073709551616) (hw : w < 18446744073709551616) (nv : v ≠ 9223372036854775808) (nw : w ≠ 9223372036854775808)
    (fv : v % 9223372036854775808 < 9218868437227405312) (fw : w % 9223372036854775808 < 9218868437227405312) : fltO v w = fltZ v w := by
  have e : ordF v w = some (compare (sgnF v) (sgnF w)) := ordF_fin fv fw
  have a := sgnF_lt hv hw nv nw
  have b := sgnF_lt hw hv nw nv
  unfold fltO fltZ
  rw [e]
  rcases Int.lt_trichotomy (sgnF v) (sgnF w) with h | h | h
  · rw [Int.compare_eq_lt.2 h, cmpZ_lt (a.1 h)]; rfl
  · rw [Int.compare_eq_eq.2 h, cmpZ_eq (by omega)]; rfl
  · rw [Int.compare_eq_gt.2 h, cmpZ_gt (b.1 h)]; rfl

end Go.Proofs.YtlllbkjiadcloaaDoor.hb
end

-- Z9
section
/- The order of terms, in plain words. -/
namespace Go.Proofs.YtlllbkjiadcloaaDoor.hb
open Go Go.RowKit Go.Hb

mutual
/-- how two terms stand in the standard order -/
def ordT : Tm → Tm → Int
  | .mk k s u b v l, .mk k' s' u' b' v' l' =>
    if k ≠ k' then cmpZ (rankZ k) (rankZ k')
    else if k = 1 then cmpZ v v'
    else if k = 3 then numZ u u'
    else if k = 4 then fltZ b b'
    else if orZ (cmpZ l.length l'.length) (cmpS s s') = 0 then ordL l l' else orZ (cmpZ l.length l'.length) (cmpS s s')
def ordL : List Tm → List Tm → Int
  | [], _ => 0
  | _ :: _, [] => 0
  | t :: l, t' :: l' => if ordT t t' = 0 then ordL l l' else ordT t t'
end
def headZ (t t' : Tm) : Int := orZ (cmpZ t.args.length t'.args.length) (cmpS t.name t'.name)
theorem ordT_eq (t t' : Tm) : ordT t t' = if t.kind ≠ t'.kind then cmpZ (rankZ t.kind) (rankZ t'.kind)
    else if t.kind = 1 then cmpZ t.var t'.var
    else if t.kind = 3 then numZ t.num t'.num
    else if t.kind = 4 then fltZ t.bits t'.bits
    else if headZ t t' = 0 then ordL t.args t'.args else headZ t t' := by
  obtain ⟨k, s, u, b, v, l⟩ := t
  obtain ⟨k', s', u', b', v', l'⟩ := t'
  rw [ordT]; rfl
theorem ordL_drop {l l' : List Tm} {i : Nat} {t t' : Tm} (h : l[i]? = some t) (h' : l'[i]? = some t') :
    ordL (l.drop i) (l'.drop i) = if ordT t t' = 0 then ordL (l.drop (i + 1)) (l'.drop (i + 1)) else ordT t t' := by
  have hlt := (List.getElem?_eq_some_iff.1 h).1
  have he : l[i] = t := (List.getElem?_eq_some_iff.1 h).2
  have hlt' := (List.getElem?_eq_some_iff.1 h').1
  have he' : l'[i] = t' := (List.getElem?_eq_some_iff.1 h').2
  rw [List.drop_eq_getElem_cons hlt, List.drop_eq_getElem_cons hlt', ordL, he, he']
theorem head_len {t t' : Tm} (h : headZ t t' = 0) : t.args.length = t'.args.length := by
  unfold headZ orZ at h
  have := cmpZ_range (t.args.length : Int) t'.args.length
  by_cases e : cmpZ (t.args.length : Int) t'.args.length = 0
  · unfold cmpZ at e
    split at e
    · omega
    · split at e <;> omega
  · rw [if_neg e] at h; exact absurd h e

end Go.Proofs.YtlllbkjiadcloaaDoor.hb
end

-- Z11
section
/- The order of terms, the plain law: it is one, and terms that stand alike in it are one. -/
namespace Go.Proofs.YtlllbkjiadcloaaDoor.hb
open Go Go.RowKit Go.Hb

/-! ## Signs -/
def TT (x y z : Int) : Prop := (x ≤ 0 → y ≤ 0 → z ≤ 0) ∧ (0 ≤ x → 0 ≤ y → 0 ≤ z) ∧ (x < 0 → y ≤ 0 → z < 0) ∧ (x ≤ 0 → y < 0 → z < 0) ∧ (0 < x → 0 ≤ y → 0 < z) ∧ (0 ≤ x → 0 < y → 0 < z)
theorem TT.or {x1 y1 z1 x2 y2 z2 : Int} (h1 : TT x1 y1 z1) (h2 : x1 = 0 → y1 = 0 → TT x2 y2 z2) : TT (orZ x1 x2) (orZ y1 y2) (orZ z1 z2) := by
  unfold orZ TT at *
  by_cases a : x1 = 0 <;> by_cases b : y1 = 0
  · have c : z1 = 0 := by omega
    simp only [a, b, c, if_true]
    exact h2 a b
  · have c : z1 ≠ 0 := by omega
    simp only [a, b, c, if_true, if_false]
    omega
  · have c : z1 ≠ 0 := by omega
    simp only [a, b, c, if_true, if_false]
    omega
  · by_cases c : z1 = 0
    · simp only [a, b, c, if_true, if_false]; omega
    · simp only [a, b, c, if_false]; omega
theorem TT.neg {x y z : Int} (h : TT x y z) : TT (-x) (-y) (-z) := by unfold TT at *; omega
theorem TT.cmp (a b c : Int) : TT (cmpZ a b) (cmpZ b c) (cmpZ a c) := by
  unfold TT cmpZ
  by_cases h1 : a < b <;> by_cases h2 : b < a <;> by_cases h3 : b < c <;> by_cases h4 : c < b <;> by_cases h5 : a < c <;> by_cases h6 : c < a <;> simp only [h1, h2, h3, h4, h5, h6, if_true, if_false] <;> (refine ⟨?_, ?_, ?_, ?_, ?_, ?_⟩ <;> intros <;> omega)
theorem TT.zero : TT 0 0 0 := by unfold TT; omega
theorem cmpZ_anti (a b : Int) : cmpZ b a = -(cmpZ a b) := by
  unfold cmpZ
  by_cases h1 : a < b <;> by_cases h2 : b < a <;> simp only [h1, h2, if_true, if_false] <;> omega
theorem cmpZ_zero {a b : Int} : cmpZ a b = 0 ↔ a = b := by
  unfold cmpZ
  constructor
  · intro h; split at h
    · omega
    · split at h <;> omega
  · rintro rfl; simp

/-! ## Texts -/
def cmpB (a b : List UInt8) : Int := if Op.bytesLess a b then -1 else if Op.bytesLess b a then 1 else 0
theorem cmpB_nil : cmpB [] [] = 0 := by simp [cmpB, Op.bytesLess]
theorem cmpB_nc {y : UInt8} {b : List UInt8} : cmpB [] (y :: b) = -1 := by simp [cmpB, Op.bytesLess]
theorem cmpB_cn {y : UInt8} {b : List UInt8} : cmpB (y :: b) [] = 1 := by simp [cmpB, Op.bytesLess]
theorem cmpB_cons {x y : UInt8} {a b : List UInt8} : cmpB (x :: a) (y :: b) = orZ (cmpZ x.toNat y.toNat) (cmpB a b) := by
  unfold cmpB
  simp only [Op.bytesLess]
  rcases Nat.lt_trichotomy x.toNat y.toNat with h | h | h
  · have h1 : x < y := UInt8.lt_iff_toNat_lt.2 h
    have hc : cmpZ (x.toNat : Int) y.toNat = -1 := by unfold cmpZ; rw [if_pos (by omega)]
    rw [hc]
    simp [h1, orZ]
  · obtain rfl : x = y := UInt8.toNat_inj.1 h
    have hc : cmpZ (x.toNat : Int) x.toNat = 0 := cmpZ_zero.2 rfl
    rw [hc]
    simp [orZ]
  · have h1 : y < x := UInt8.lt_iff_toNat_lt.2 h
    have h2 : ¬ x < y := fun q => by have := UInt8.lt_iff_toNat_lt.1 q; omega
    have h3 : x ≠ y := fun q => by rw [q] at h; omega
    have hc : cmpZ (x.toNat : Int) y.toNat = 1 := by unfold cmpZ; rw [if_neg (by omega), if_pos (by omega)]
    rw [hc]
    simp [h1, h2, h3, orZ]
theorem TT.bytes : ∀ (a b c : List UInt8), TT (cmpB a b) (cmpB b c) (cmpB a c)
  | [], [], [] => by rw [cmpB_nil]; exact TT.zero
  | [], [], _ :: _ => by rw [cmpB_nil, cmpB_nc]; unfold TT; omega
  | [], _ :: _, [] => by rw [cmpB_nil, cmpB_nc, cmpB_cn]; unfold TT; omega
  | _ :: _, [], [] => by rw [cmpB_nil, cmpB_cn]; unfold TT; omega
  | _ :: _, [], _ :: _ => by rw [cmpB_nc, cmpB_cn]; unfold TT; omega
  | [], _ :: _, _ :: _ => by rw [cmpB_nc, cmpB_nc]; unfold TT; omega
  | _ :: _, _ :: _, [] => by rw [cmpB_cn, cmpB_cn]; unfold TT; omega
  | x :: a, y :: b, z :: c => by
    rw [cmpB_cons, cmpB_cons, cmpB_cons]
    exact TT.or (TT.cmp _ _ _) fun _ _ => TT.bytes a b c
theorem cmpB_anti : ∀ (a b : List UInt8), cmpB b a = -(cmpB a b)
  | [], [] => by rw [cmpB_nil]; rfl
  | [], _ :: _ => by rw [cmpB_nc, cmpB_cn]; rfl
  | _ :: _, [] => by rw [cmpB_nc, cmpB_cn]
  | x :: a, y :: b => by rw [cmpB_cons, cmpB_cons, cmpZ_anti x.toNat y.toNat, cmpB_anti a b, orZ_neg]
theorem cmpB_zero : ∀ {a b : List UInt8}, cmpB a b = 0 ↔ a = b
  | [], [] => by rw [cmpB_nil]; simp
  | [], _ :: _ => by rw [cmpB_nc]; simp
  | _ :: _, [] => by rw [cmpB_cn]; simp
  | x :: a, y :: b => by
    rw [cmpB_cons, orZ_zero, cmpZ_zero, cmpB_zero (a := a) (b := b), List.cons.injEq]
    constructor
    · rintro ⟨h1, h2⟩; exact ⟨UInt8.toNat_inj.1 (by omega), h2⟩
    · rintro ⟨h1, h2⟩; exact ⟨by rw [h1], h2⟩
theorem TT.texts (a b c : ByteArray) : TT (cmpS a b) (cmpS b c) (cmpS a c) := TT.bytes a.toList b.toList c.toList
theorem cmpS_anti (a b : ByteArray) : cmpS b a = -(cmpS a b) := cmpB_anti a.toList b.toList
theorem cmpS_zero {a b : ByteArray} : cmpS a b = 0 ↔ a = b :=
  ⟨fun h => toList_inj (cmpB_zero.1 h), fun h => by subst h; exact cmpB_zero.2 rfl⟩

/-! ## Numbers, floats -/
theorem TT.nums (a b c : ByteArray) : TT (numZ a b) (numZ b c) (numZ a c) := by
  have h := TT.or (TT.cmp (a.size : Int) b.size c.size) fun _ _ => TT.texts a b c
  unfold numZ
  cases negS (bl a) <;> cases negS (bl b) <;> cases negS (bl c) <;> simp only [Bool.and_true, Bool.and_false, Bool.not_true, Bool.not_false, if_true, if_false, Bool.false_eq_true]
  · exact h
  all_goals first | exact h.neg | (unfold TT; omega)
theorem numZ_anti (a b : ByteArray) : numZ b a = -(numZ a b) := by
  have h : orZ (cmpZ (b.size : Int) a.size) (cmpS b a) = -(orZ (cmpZ (a.size : Int) b.size) (cmpS a b)) := by rw [cmpZ_anti (a.size : Int), cmpS_anti a b, orZ_neg]
  unfold numZ
  rw [h]
  cases negS (bl a) <;> cases negS (bl b) <;> simp
theorem numZ_zero {a b : ByteArray} : numZ a b = 0 ↔ a = b := by
  constructor
  · intro h
    have key : orZ (cmpZ (a.size : Int) b.size) (cmpS a b) = 0 := by
      revert h
      unfold numZ
      cases negS (bl a) <;> cases negS (bl b) <;> simp
    exact cmpS_zero.1 (orZ_zero.1 key).2
  · rintro rfl
    unfold numZ
    have h : orZ (cmpZ (a.size : Int) a.size) (cmpS a a) = 0 := orZ_zero.2 ⟨cmpZ_zero.2 rfl, cmpS_zero.2 rfl⟩
    rw [h]
    cases negS (bl a) <;> simp
theorem TT.flts (a b c : Int) : TT (fltZ a b) (fltZ b c) (fltZ a c) := TT.cmp _ _ _
theorem fltZ_anti (a b : Int) : fltZ b a = -(fltZ a b) := cmpZ_anti _ _
theorem fltZ_zero {a b : Int} (ha : u64 a) (hb : u64 b) : fltZ a b = 0 ↔ a = b := by
  unfold fltZ
  rw [cmpZ_zero]
  unfold keyF u64 at *
  constructor
  · intro h; split at h <;> split at h <;> omega
  · rintro rfl; rfl

/-! ## Terms -/
theorem rankZ_inj {k k' : Int} (h1 : 1 ≤ k) (h2 : k ≤ 5) (h3 : 1 ≤ k') (h4 : k' ≤ 5) (h : rankZ k = rankZ k') : k = k' := by
  unfold rankZ at h
  repeat' split at h
  all_goals omega
def restZ (t t' : Tm) : Int := if t.kind = 1 then cmpZ t.var t'.var else if t.kind = 3 then numZ t.num t'.num else if t.kind = 4 then fltZ t.bits t'.bits else orZ (headZ t t') (ordL t.args t'.args)
theorem ordT_or {t t' : Tm} (h1 : 1 ≤ t.kind ∧ t.kind ≤ 5) (h2 : 1 ≤ t'.kind ∧ t'.kind ≤ 5) : ordT t t' = orZ (cmpZ (rankZ t.kind) (rankZ t'.kind)) (restZ t t') := by
  rw [ordT_eq]
  by_cases hk : t.kind = t'.kind
  · rw [if_neg (fun h => h hk)]
    have : cmpZ (rankZ t.kind) (rankZ t'.kind) = 0 := by rw [hk]; exact cmpZ_zero.2 rfl
    rw [this, orZ, if_pos rfl]
    unfold restZ orZ; rfl
  · rw [if_pos hk]
    have : cmpZ (rankZ t.kind) (rankZ t'.kind) ≠ 0 := fun h => hk (rankZ_inj h1.1 h1.2 h2.1 h2.2 (cmpZ_zero.1 h))
    rw [orZ, if_neg this]
theorem ordL_cons (t t' : Tm) (l l' : List Tm) : ordL (t :: l) (t' :: l') = orZ (ordT t t') (ordL l l') := by rw [ordL]; rfl

theorem TT.lists : ∀ (l1 l2 l3 : List Tm), l1.length = l2.length → l2.length = l3.length → (∀ t ∈ l1, ∀ t2 ∈ l2, ∀ t3 ∈ l3, TT (ordT t t2) (ordT t2 t3) (ordT t t3)) → TT (ordL l1 l2) (ordL l2 l3) (ordL l1 l3)
  | [], [], [], _, _, _ => by simp only [ordL]; exact TT.zero
  | [], _ :: _, _, h, _, _ => by simp at h
  | _ :: _, [], _, h, _, _ => by simp at h
  | _, [], _ :: _, _, h, _ => by simp at h
  | _, _ :: _, [], _, h, _ => by simp at h
  | t1 :: l1, t2 :: l2, t3 :: l3, h, h', ih => by
    rw [ordL_cons, ordL_cons, ordL_cons]
    exact TT.or (ih t1 (by simp) t2 (by simp) t3 (by simp)) fun _ _ => TT.lists l1 l2 l3 (by simpa using h) (by simpa using h') fun a ha b hb c hc => ih a (List.mem_cons_of_mem _ ha) b (List.mem_cons_of_mem _ hb) c (List.mem_cons_of_mem _ hc)
theorem TT.terms : ∀ (m : Nat) (t1 t2 t3 : Tm), SizeOf.sizeOf t1 < m → Fine t1 → Fine t2 → Fine t3 → TT (ordT t1 t2) (ordT t2 t3) (ordT t1 t3)
  | 0, _, _, _, h, _, _, _ => by omega
  | m + 1, t1, t2, t3, hm, f1, f2, f3 => by
    have k1 := node_kind f1.node; have k2 := node_kind f2.node; have k3 := node_kind f3.node
    rw [ordT_or ⟨k1.1, k1.2.1⟩ ⟨k2.1, k2.2.1⟩, ordT_or ⟨k2.1, k2.2.1⟩ ⟨k3.1, k3.2.1⟩, ordT_or ⟨k1.1, k1.2.1⟩ ⟨k3.1, k3.2.1⟩]
    refine TT.or (TT.cmp _ _ _) fun e1 e2 => ?_
    have q1 : t1.kind = t2.kind := rankZ_inj k1.1 k1.2.1 k2.1 k2.2.1 (cmpZ_zero.1 e1)
    have q2 : t2.kind = t3.kind := rankZ_inj k2.1 k2.2.1 k3.1 k3.2.1 (cmpZ_zero.1 e2)
    unfold restZ
    rw [← q1]
    split
    · exact TT.cmp _ _ _
    split
    · exact TT.nums _ _ _
    split
    · exact TT.flts _ _ _
    refine TT.or (TT.or (TT.cmp _ _ _) fun _ _ => TT.texts _ _ _) fun e1 e2 => ?_
    refine TT.lists _ _ _ (head_len e1) (head_len e2) fun a ha b hb c hc => ?_
    exact TT.terms m a b c (by have := mem_args_size ha; omega) (f1.args a ha) (f2.args b hb) (f3.args c hc)
mutual
theorem ordT_anti : ∀ (t t' : Tm), ordT t' t = -(ordT t t')
  | .mk k s u b v l, .mk k' s' u' b' v' l' => by
    rw [ordT, ordT]
    by_cases hk : k = k'
    · subst hk
      simp only [ne_eq, not_true_eq_false, if_false]
      split
      · exact cmpZ_anti _ _
      split
      · exact numZ_anti _ _
      split
      · exact fltZ_anti _ _
      have h : orZ (cmpZ (l'.length : Int) l.length) (cmpS s' s) = -(orZ (cmpZ (l.length : Int) l'.length) (cmpS s s')) := by rw [cmpZ_anti (l.length : Int), cmpS_anti s s', orZ_neg]
      rw [h, ordL_anti l l']
      by_cases h0 : orZ (cmpZ (l.length : Int) l'.length) (cmpS s s') = 0
      · rw [if_pos (by omega), if_pos h0]
      · rw [if_neg (by omega), if_neg h0]
    · rw [if_pos (fun h => hk h.symm), if_pos hk]
      exact cmpZ_anti _ _
theorem ordL_anti : ∀ (l l' : List Tm), ordL l' l = -(ordL l l')
  | [], [] => by simp [ordL]
  | [], _ :: _ => by simp [ordL]
  | _ :: _, [] => by simp [ordL]
  | t :: l, t' :: l' => by
    rw [ordL, ordL, ordT_anti t t', ordL_anti l l']
    by_cases h0 : ordT t t' = 0
    · rw [if_pos (by omega), if_pos h0]
    · rw [if_neg (by omega), if_neg h0]
end
theorem ordL_zero : ∀ {l l' : List Tm}, l.length = l'.length → (∀ t ∈ l, ∀ t' ∈ l', (ordT t t' = 0 → t = t')) → ordL l l' = 0 → l = l'
  | [], [], _, _, _ => rfl
  | [], _ :: _, h, _, _ => by simp at h
  | _ :: _, [], h, _, _ => by simp at h
  | t :: l, t' :: l', h, ih, h0 => by
    rw [ordL_cons, orZ_zero] at h0
    rw [ih t (by simp) t' (by simp) h0.1, ordL_zero (by simpa using h) (fun a ha b hb => ih a (List.mem_cons_of_mem _ ha) b (List.mem_cons_of_mem _ hb)) h0.2]
mutual
theorem ordT_self : ∀ (t : Tm), ordT t t = 0
  | .mk k s u b v l => by
    rw [ordT, if_neg (fun h => h rfl)]
    split
    · exact cmpZ_zero.2 rfl
    split
    · exact numZ_zero.2 rfl
    split
    · exact cmpZ_zero.2 rfl
    rw [if_pos (orZ_zero.2 ⟨cmpZ_zero.2 rfl, cmpS_zero.2 rfl⟩)]
    exact ordL_self l
theorem ordL_self : ∀ (l : List Tm), ordL l l = 0
  | [] => by rw [ordL]
  | t :: l => by rw [ordL, if_pos (ordT_self t)]; exact ordL_self l
end
/-- a term's bits are a word's, all through -/
inductive U64s : Tm → Prop
  | mk {t : Tm} : u64 t.bits → (∀ u ∈ t.args, U64s u) → U64s t
theorem U64s.bits {t : Tm} (h : U64s t) : u64 t.bits := by cases h; assumption
theorem U64s.args {t : Tm} (h : U64s t) : ∀ u ∈ t.args, U64s u := by cases h; assumption
theorem RepT.u64s {H : Heap} : ∀ {t : Tm} {cs : List Value}, RepT H t cs → U64s t := by
  intro t cs r
  induction r with
  | mk k s u b v l a c cells h1 h2 h3 h4 h5 h6 h7 h8 h9 h10 h11 ih =>
    refine .mk h4 fun w hw => ?_
    obtain ⟨i, hi, e⟩ := List.getElem_of_mem (show w ∈ l from hw)
    exact ih i w (by rw [List.getElem?_eq_getElem hi, e])
theorem ordT_zero : ∀ (m : Nat) {t t' : Tm}, SizeOf.sizeOf t < m → Fine t → Fine t' → U64s t → U64s t' → ordT t t' = 0 → t = t'
  | 0, _, _, h, _, _, _, _, _ => by omega
  | m + 1, t, t', hm, f, f', b, b', h => by
    have k1 := node_kind f.node; have k2 := node_kind f'.node
    rw [ordT_or ⟨k1.1, k1.2.1⟩ ⟨k2.1, k2.2.1⟩, orZ_zero] at h
    have q : t.kind = t'.kind := rankZ_inj k1.1 k1.2.1 k2.1 k2.2.1 (cmpZ_zero.1 h.1)
    have l1 := blank_fields k1.2.2.1; have l2 := blank_fields k2.2.2.1
    have h := h.2
    unfold restZ at h
    split at h
    · rename_i hk
      have hk' : t'.kind = 1 := by omega
      exact tm_ext q (by rw [l1.1 (by omega) (by omega), l2.1 (by omega) (by omega)]) (by rw [l1.2.1 (by omega), l2.2.1 (by omega)]) (by rw [l1.2.2.1 (by omega), l2.2.2.1 (by omega)]) (cmpZ_zero.1 h) (by rw [l1.2.2.2.2 (by omega), l2.2.2.2.2 (by omega)])
    split at h
    · rename_i hk
      have hk' : t'.kind = 3 := by omega
      exact tm_ext q (by rw [l1.1 (by omega) (by omega), l2.1 (by omega) (by omega)]) (numZ_zero.1 h) (by rw [l1.2.2.1 (by omega), l2.2.2.1 (by omega)]) (by rw [l1.2.2.2.1 (by omega), l2.2.2.2.1 (by omega)]) (by rw [l1.2.2.2.2 (by omega), l2.2.2.2.2 (by omega)])
    split at h
    · rename_i hk
      have hk' : t'.kind = 4 := by omega
      exact tm_ext q (by rw [l1.1 (by omega) (by omega), l2.1 (by omega) (by omega)]) (by rw [l1.2.1 (by omega), l2.2.1 (by omega)]) ((fltZ_zero b.bits b'.bits).1 h) (by rw [l1.2.2.2.1 (by omega), l2.2.2.2.1 (by omega)]) (by rw [l1.2.2.2.2 (by omega), l2.2.2.2.2 (by omega)])
    · rename_i n1 n3 n4
      rw [orZ_zero] at h
      have hn : t.name = t'.name := cmpS_zero.1 (orZ_zero.1 h.1).2
      refine tm_ext q hn (by rw [l1.2.1 (by omega), l2.2.1 (by omega)]) (by rw [l1.2.2.1 (by omega), l2.2.2.1 (by omega)]) (by rw [l1.2.2.2.1 (by omega), l2.2.2.2.1 (by omega)]) ?_
      exact ordL_zero (head_len h.1) (fun a ha c hc h0 => ordT_zero m (by have := mem_args_size ha; omega) (f.args a ha) (f'.args c hc) (b.args a ha) (b'.args c hc) h0) h.2
theorem numZ_range (a b : ByteArray) : -1 ≤ numZ a b ∧ numZ a b ≤ 1 := by
  have := orZ_range (cmpZ_range a.size b.size) (cmpS_range a b)
  unfold numZ
  split
  · omega
  split
  · omega
  split <;> omega
mutual
theorem ordT_range : ∀ (t t' : Tm), -1 ≤ ordT t t' ∧ ordT t t' ≤ 1
  | .mk k s u b v l, .mk k' s' u' b' v' l' => by
    rw [ordT]
    split
    · exact cmpZ_range _ _
    split
    · exact cmpZ_range _ _
    split
    · exact numZ_range _ _
    split
    · exact cmpZ_range _ _
    split
    · exact ordL_range l l'
    · exact orZ_range (cmpZ_range _ _) (cmpS_range _ _)
theorem ordL_range : ∀ (l l' : List Tm), -1 ≤ ordL l l' ∧ ordL l l' ≤ 1
  | [], _ => by rw [ordL]; omega
  | _ :: _, [] => by rw [ordL]; omega
  | t :: l, t' :: l' => by
    rw [ordL]
    split
    · exact ordL_range l l'
    · exact ordT_range t t'
end
end Go.Proofs.YtlllbkjiadcloaaDoor.hb
end

-- Z10
section
/- The order of terms: the program's. -/
namespace Go.Proofs.YtlllbkjiadcloaaDoor.hb
open Go Go.RowKit Go.Hb
variable {ok : Ok}
set_option maxRecDepth 10000
attribute [local irreducible] LX LG EL STG SOP SGO SGD SAL SRD SEF SEG SLK SCK ES
-- @veq

theorem flt_fin {n : Int} (hn : u64 n) (h : fltS n = true) : n.toNat % 9223372036854775808 < 9218868437227405312 ∧ n.toNat ≠ 9223372036854775808 ∧ (FloatKind.f64.format.order n.toNat n.toNat != some .eq) = false ∧ n.toNat < 18446744073709551616 ∧ ((n.toNat : Nat) : Int) = n := by
  have hm : n.toNat < 18446744073709551616 := by unfold u64 at hn; omega
  have hc : ((n.toNat : Nat) : Int) = n := by unfold u64 at hn; omega
  unfold fltS at h
  simp only [Bool.not_eq_true', Bool.or_eq_false_iff, beq_eq_false_iff_ne] at h
  obtain ⟨⟨h1, h2⟩, h3⟩ := h
  have h1' := h1
  unfold fnB at h1
  rw [fnB_eq] at h1
  unfold fiB at h2
  rw [absN_eq _ hm, fiB_eq _ (Nat.mod_lt _ (by omega))] at h2
  have a := of_decide_eq_false h1
  have b := of_decide_eq_false h2
  exact ⟨by omega, by omega, h1', hm, hc⟩

-- term.order
set_option maxHeartbeats 4000000 in
theorem order_ev {m : Nat} : ∀ {t t' : Tm} {cs cs' : List Value} {H : Heap}, SizeOf.sizeOf t < m → RepT H t cs → RepT H t' cs' → Fine t → Fine t' → H.wf →
    EvF Tryd.prog okT 53 [.agg ⟨cs⟩, .agg ⟨cs'⟩] H fun v H' => v = .int .i64 (ordT t t') ∧ HX H H' := by
  induction m with
  | zero => intro t t' cs cs' H h; omega
  | succ m ih =>
  intro t t' cs cs' H hsz r r' hn hn' hw
  obtain ⟨a, c, cells, rfl, b1, b2, b3, b4, b5, rl⟩ := r.six
  obtain ⟨a', c', cells', rfl, b1', b2', b3', b4', b5', rl'⟩ := r'.six
  refine EvF.enter rfl Tryd.func53 (by decide) rfl ?_
  (repeat refine EvC.seq ?_); refine EvC.reg ?_; simp (config := { maxSteps := 2000000 }) (disch := first | omega | rfl) only [sA, initTm, dBox, Nat.reduceEqDiff, Value.cells, one, reduceCtorEq, if_true, if_false]
  obtain ⟨H2, e2, hx2, gp, gq, hnx, hw2⟩ := new2 hw (.row (six t a c) 26) (.row (six t' a' c') 26)
  simp only [e2]
  have q1 := row6 gp
  have q2 := row6 gq
  have rl2 := rl.mono hx2 hw
  have rl2' := rl'.mono hx2 hw
  clear e2
  by_cases hk : t.kind = t'.kind
  · by_cases k1 : t.kind = 1
    · repeat' (first | refine EvC.seq ?_ | refine EvC.scope ?_ | refine EvC.block ?_ | (refine EvC.skip ?_; try simp only [thenC_normal]) | (refine EvC.exit ?_) | (refine EvC.ret ?_; try simp only [thenC_ret, inBlock_ret]) | (refine EvC.reg ?_; simp (config := { maxSteps := 2000000 }) (disch := first | omega | rfl) only [sA, Nat.reduceEqDiff, reduceCtorEq, if_true, if_false, fa26_0, ld3, cl83, fa26_4, ine_f hk, q1, q2, ieq_t k1]) | (refine EvC.condT ?_ ?_; simp (config := { maxSteps := 2000000 }) (disch := first | omega | rfl) only [sA, Nat.reduceEqDiff, reduceCtorEq, if_true, if_false]; refine EvC_go ?_) | (refine EvC.condF ?_ ?_; simp (config := { maxSteps := 2000000 }) (disch := first | omega | rfl) only [sA, Nat.reduceEqDiff, reduceCtorEq, if_true, if_false]; refine EvC_go ?_))
      refine cmpI_ev.mono ?_
      rintro v H1 ⟨rfl, rfl⟩
      repeat' (first | refine EvC.seq ?_ | refine EvC.scope ?_ | refine EvC.block ?_ | (refine EvC.skip ?_) | (refine EvC.exit ?_) | (refine EvC.ret ?_; try simp only [thenC_ret, inBlock_ret]))
      exact leave_one rfl (by first | (simp only [sA, Nat.reduceEqDiff, reduceCtorEq, if_true, if_false]; rfl) | simp only []) ⟨by rw [ordT_eq, if_neg (fun h => h hk), if_pos k1], hx2⟩
    by_cases k3 : t.kind = 3
    · repeat' (first | refine EvC.seq ?_ | refine EvC.scope ?_ | refine EvC.block ?_ | (refine EvC.skip ?_; try simp only [thenC_normal]) | (refine EvC.exit ?_) | (refine EvC.ret ?_; try simp only [thenC_ret, inBlock_ret]) | (refine EvC.reg ?_; simp (config := { maxSteps := 2000000 }) (disch := first | omega | rfl) only [sA, Nat.reduceEqDiff, reduceCtorEq, if_true, if_false, fa26_0, ld3, fa26_2, ld9, cl87, ine_f hk, q1, q2, ieq_f k1, ieq_t k3]) | (refine EvC.condT ?_ ?_; simp (config := { maxSteps := 2000000 }) (disch := first | omega | rfl) only [sA, Nat.reduceEqDiff, reduceCtorEq, if_true, if_false]; refine EvC_go ?_) | (refine EvC.condF ?_ ?_; simp (config := { maxSteps := 2000000 }) (disch := first | omega | rfl) only [sA, Nat.reduceEqDiff, reduceCtorEq, if_true, if_false]; refine EvC_go ?_))
      refine (numbers_ev b3 b3' hx2.wf).mono ?_
      rintro v H1 ⟨rfl, hx3⟩
      repeat' (first | refine EvC.seq ?_ | refine EvC.scope ?_ | refine EvC.block ?_ | (refine EvC.skip ?_) | (refine EvC.exit ?_) | (refine EvC.ret ?_; try simp only [thenC_ret, inBlock_ret]))
      exact leave_one rfl (by first | (simp only [sA, Nat.reduceEqDiff, reduceCtorEq, if_true, if_false]; rfl) | simp only []) ⟨by rw [ordT_eq, if_neg (fun h => h hk), if_neg k1, if_pos k3], hx2.trans hx3⟩
    by_cases k4 : t.kind = 4
    · repeat' (first | refine EvC.seq ?_ | refine EvC.scope ?_ | refine EvC.block ?_ | (refine EvC.skip ?_; try simp only [thenC_normal]) | (refine EvC.exit ?_) | (refine EvC.ret ?_; try simp only [thenC_ret, inBlock_ret]) | (refine EvC.reg ?_; simp (config := { maxSteps := 2000000 }) (disch := first | omega | rfl) only [sA, Nat.reduceEqDiff, reduceCtorEq, if_true, if_false, fa26_0, ld3, ine_f hk, q1, q2, ieq_f k1, ieq_f k3, ieq_t k4]) | (refine EvC.drw (id := 9) [([(0, 0), (1, 0)], some 2), ([(3, 0), (4, 0)], some 5), ([], some 6), ([(7, 3)], none)] ?_ ?_; kernel_rfl; simp (config := { maxSteps := 2000000 }) (disch := first | omega | rfl) only [sD, sA, Nat.reduceEqDiff, Nat.reduceAdd, reduceCtorEq, if_true, if_false, fa26_3, ld23, q1, isAlloc, isRead, reduceCtorEq]) | (refine EvC.condT ?_ ?_; simp (config := { maxSteps := 2000000 }) (disch := first | omega | rfl) only [sA, Nat.reduceEqDiff, reduceCtorEq, if_true, if_false]; refine EvC_go ?_) | (refine EvC.condF ?_ ?_; simp (config := { maxSteps := 2000000 }) (disch := first | omega | rfl) only [sA, Nat.reduceEqDiff, reduceCtorEq, if_true, if_false]; refine EvC_go ?_))
      rw [dop_frombits (n := t.bits) (by simp only [Tr.get_put, Nat.reduceEqDiff, reduceCtorEq, if_true, if_false])]
      repeat' (first | refine EvC.seq ?_ | refine EvC.scope ?_ | refine EvC.block ?_ | (refine EvC.skip ?_) | (refine EvC.exit ?_) | (refine EvC.ret ?_; try simp only [thenC_ret, inBlock_ret]) | (refine SLK_go ?_; simp (config := { maxSteps := 2000000 }) (disch := first | omega | rfl) only [sV, sD, sA, Nat.reduceEqDiff, reduceCtorEq, if_true, if_false, fa26_3, ld23, q2, isAlloc, isRead, reduceCtorEq]))
      rw [dop_frombits (n := t'.bits) (by simp only [Tr.get_put, Nat.reduceEqDiff, reduceCtorEq, if_true, if_false])]
      repeat' (first | refine EvC.seq ?_ | refine EvC.scope ?_ | refine EvC.block ?_ | (refine EvC.skip ?_) | (refine EvC.exit ?_) | (refine EvC.ret ?_; try simp only [thenC_ret, inBlock_ret]) | (refine SLK_go ?_; simp (config := { maxSteps := 2000000 }) (disch := first | omega | rfl) only [sD, sA, Nat.reduceEqDiff, reduceCtorEq, if_true, if_false, cl88, reduceCtorEq]))
      have hf : fltS t.bits = true := (node_kind (Fine.node hn)).2.2.2.2.2.2.1 k4
      have hf' : fltS t'.bits = true := (node_kind (Fine.node hn')).2.2.2.2.2.2.1 (hk ▸ k4)
      have p1 := flt_fin b4 hf
      have p2 := flt_fin b4' hf'
      refine (cmpF_ev p1.2.2.1 p2.2.2.1).mono ?_
      rintro v H1 ⟨rfl, rfl⟩
      repeat' (first | refine EvC.seq ?_ | refine EvC.scope ?_ | refine EvC.block ?_ | (refine EvC.skip ?_) | (refine EvC.exit ?_) | (refine EvC.ret ?_; try simp only [thenC_ret, inBlock_ret]) | (refine SCK_go ?_; simp (config := { maxSteps := 2000000 }) (disch := first | omega | rfl) only [sD, sA, Nat.reduceEqDiff, Nat.reduceAdd, reduceCtorEq, if_true, if_false, isAlloc, isRead, reduceCtorEq]))
      exact leave_one rfl (by first | (simp only [sA, Nat.reduceEqDiff, reduceCtorEq, if_true, if_false]; rfl) | simp only []) ⟨by rw [ordT_eq, if_neg (fun h => h hk), if_neg k1, if_neg k3, if_pos k4, fltO_eq p1.2.2.2.1 p2.2.2.2.1 p1.2.1 p2.2.1 p1.1 p2.1, p1.2.2.2.2, p2.2.2.2.2], hx2.bump _⟩
    repeat' (first | refine EvC.seq ?_ | refine EvC.scope ?_ | refine EvC.block ?_ | (refine EvC.skip ?_; try simp only [sA]) | (refine EvC.exit ?_) | (refine EvC.ret ?_; try simp only [thenC_ret, inBlock_ret]) | (refine EvC.reg ?_; simp (config := { maxSteps := 2000000 }) (disch := first | omega | rfl) only [sA, Nat.reduceEqDiff, reduceCtorEq, if_true, if_false, fa26_0, ld3, ine_f hk, q1, q2, ieq_f k1, ieq_f k3, ieq_f k4]) | (refine EvC.drw (id := 10) [([(0, 0), (1, 0), (2, 0), (3, 0), (4, 0), (5, 0)], some 6), ([(7, 0), (8, 0), (9, 0), (10, 0)], some 11), ([(12, 2)], some 13), ([(14, 3)], none)] ?_ ?_; kernel_rfl; simp (config := { maxSteps := 2000000 }) (disch := first | omega | rfl) only [sD, sA, Nat.reduceEqDiff, Nat.reduceAdd, reduceCtorEq, if_true, if_false, cl83, fa26_5, ld24, ln24, q1, q2, isAlloc, isRead, reduceCtorEq]) | (refine EvC.condT ?_ ?_; simp (config := { maxSteps := 2000000 }) (disch := first | omega | rfl) only [sA, Nat.reduceEqDiff, reduceCtorEq, if_true, if_false]; refine EvC_go ?_) | (refine EvC.condF ?_ ?_; simp (config := { maxSteps := 2000000 }) (disch := first | omega | rfl) only [sA, Nat.reduceEqDiff, reduceCtorEq, if_true, if_false]; refine EvC_go ?_))
    refine cmpI_ev.mono ?_
    rintro v H1 ⟨rfl, rfl⟩
    repeat' (first | refine EvC.seq ?_ | refine EvC.scope ?_ | refine EvC.block ?_ | (refine EvC.skip ?_) | (refine EvC.exit ?_) | (refine EvC.ret ?_; try simp only [thenC_ret, inBlock_ret]) | (refine SCK_go ?_; simp (config := { maxSteps := 2000000 }) (disch := first | omega | rfl) only [sV, sD, sA, Nat.reduceEqDiff, reduceCtorEq, if_true, if_false, ld9, fa26_1, cl91, q1, q2, isAlloc, isRead, reduceCtorEq]))
    refine cmpS_ev.mono ?_
    rintro v H1 ⟨rfl, rfl⟩
    repeat' (first | refine EvC.seq ?_ | refine EvC.scope ?_ | refine EvC.block ?_ | (refine EvC.skip ?_) | (refine EvC.exit ?_) | (refine EvC.ret ?_; try simp only [thenC_ret, inBlock_ret]) | (refine SCK_go ?_; simp (config := { maxSteps := 2000000 }) (disch := first | omega | rfl) only [sD, sA, Nat.reduceEqDiff, Nat.reduceAdd, Value.cells, one, reduceCtorEq, if_true, if_false, Nat.reduceLeDiff, layC, bs46_2, cl90, isAlloc, dalloc, reduceCtorEq]))
    obtain ⟨H3, e3, hx3, g3, hw3⟩ := bump1 hw2 15 12 (by omega) (.row [.int .i64 (cmpZ t.args.length t'.args.length), .int .i64 (cmpS t.name t'.name)] 3)
    simp only [e3]
    clear e3
    refine (or_ev (row2 g3).1 (row2 g3).2).mono ?_
    rintro v H1 ⟨rfl, rfl⟩
    have gp3 := hx3.get hw2 gp
    have gq3 := hx3.get hw2 gq
    have hx23 := hx2.trans hx3
    repeat' (first | refine EvC.seq ?_ | refine EvC.scope ?_ | refine EvC.block ?_ | (refine EvC.skip ?_) | (refine EvC.exit ?_) | (refine EvC.ret ?_; try simp only [thenC_ret, inBlock_ret]) | (refine EvC.reg ?_; simp (config := { maxSteps := 2000000 }) (disch := first | omega | rfl) only [sA]) | (refine SCK_go ?_; simp (config := { maxSteps := 2000000 }) (disch := first | omega | rfl) only [sD, sA, Nat.reduceEqDiff, Nat.reduceAdd, reduceCtorEq, if_true, if_false, isAlloc, isRead, reduceCtorEq]))
    refine EvC.loop (fun k st => ∃ tm H' i w, st = ⟨tm, [], H'⟩ ∧ k = t.args.length - i ∧ i ≤ t.args.length ∧ (headZ t t' = 0 ∨ headZ t t' = w) ∧ (headZ t t' = 0 → (if w = 0 then ordL (t.args.drop i) (t'.args.drop i) else w) = ordL t.args t'.args) ∧
      tm.get 2 = some (.pointer (some ⟨H.next, 0, none⟩)) ∧ tm.get 3 = some (.pointer (some ⟨H.next + 1, 0, none⟩)) ∧ tm.get 5 = some (.int .i64 w) ∧ tm.get 6 = some (.int .i64 (i : Nat)) ∧
      H'.get H.next = some (.row (six t a c) 26) ∧ H'.get (H.next + 1) = some (.row (six t' a' c') 26) ∧ HX H H') ?_ t.args.length _ ?_
    · rintro k st ⟨tm, H', i, w, rfl, rfl, hi, hh, hc, t2, t3, t5, t6, gp', gq', hx'⟩
      have q1 := row6 gp'
      have q2 := row6 gq'
      have fin : ∀ u : Int, ordT t t' = if headZ t t' = 0 then ordL t.args t'.args else headZ t t' := fun _ => by rw [ordT_eq, if_neg (fun h => h hk), if_neg k1, if_neg k3, if_neg k4]
      by_cases hlt : i < t.args.length
      · by_cases h0 : w = 0
        · have hh0 : headZ t t' = 0 := by rcases hh with h | h; exact h; rw [h]; exact h0
          have hlt' : i < t'.args.length := by rw [← head_len hh0]; exact hlt
          obtain ⟨b, o, a1, c1, rfl, hld, hr1⟩ := rl.el hlt
          obtain ⟨b', o', a2, c2, rfl, hld', hr2⟩ := rl'.el hlt'
          have hld1 := hx'.load hw hld
          have hld2 := hx'.load hw hld'
          repeat' (first | refine EvC.seq ?_ | refine EvC.scope ?_ | refine EvC.block ?_ | (refine EvC.skip ?_; try simp only [thenC_normal]) | (refine EvC.exit ?_) | (refine EvC.ret ?_; try simp only [thenC_ret, inBlock_ret]) | (refine EvC.reg ?_; simp (config := { maxSteps := 2000000 }) (disch := first | omega | rfl) only [sA, Nat.reduceEqDiff, if_true, if_false, fa26_5, ld24, ln24, t2, t5, t6, q1, decl hlt, ieq_t h0]) | (refine EvC.drw (id := 14) [([(0, 0), (1, 0), (2, 0), (3, 0), (4, 0), (5, 0), (6, 0), (7, 0), (8, 0), (9, 0)], some 10), ([(11, 1)], none)] ?_ ?_; kernel_rfl; simp (config := { maxSteps := 2000000 }) (disch := first | omega | rfl) only [sD, sA, Nat.reduceEqDiff, Nat.reduceAdd, reduceCtorEq, if_true, if_false, fa26_5, ld24, ia24, ld26, cl53, t2, t3, t6, q1, q2, hld1, hld2, isAlloc, isRead, reduceCtorEq]) | (refine EvC.condT ?_ ?_; simp (config := { maxSteps := 2000000 }) (disch := first | omega | rfl) only [sA, Nat.reduceEqDiff, if_true, if_false]; refine EvC_go ?_))
          have hb := hx'.bump 12
          have hs := args_size (List.getElem?_eq_getElem hlt)
          refine (ih (t := t.args[i]) (t' := t'.args[i]) (by omega) (hr1.mono hb hw) (hr2.mono hb hw) (hn.args _ (List.getElem_mem _)) (hn'.args _ (List.getElem_mem _)) hb.wf).mono ?_
          rintro v H4 ⟨rfl, hx4⟩
          have hx5 := hb.trans hx4
          have hm := rl.max
          repeat' (first | refine EvC.seq ?_ | refine EvC.scope ?_ | refine EvC.block ?_ | (refine EvC.skip ?_) | (refine EvC.exit ?_) | (refine EvC.ret ?_; try simp only [thenC_ret, inBlock_ret]) | (refine EvC.reg ?_; simp (config := { maxSteps := 2000000 }) (disch := first | omega | rfl) only [sA, Nat.reduceEqDiff, if_true, if_false, t6, wrap_i64]) | (refine SCK_go ?_; simp (config := { maxSteps := 2000000 }) (disch := first | omega | rfl) only [sD, sA, Nat.reduceEqDiff, if_true, if_false, isAlloc, isRead]))
          refine ⟨t.args.length - (i + 1), by omega, _, _, i + 1, ordT t.args[i] t'.args[i], rfl, rfl, by omega, .inl hh0, fun _ => ?_, (by first | (simp only [Tr.get_put, Nat.reduceEqDiff, if_false, t2]; rfl) | simp only [Tr.get_put, Nat.reduceEqDiff, if_false, t2]), (by first | (simp only [Tr.get_put, Nat.reduceEqDiff, if_false, t3]; rfl) | simp only [Tr.get_put, Nat.reduceEqDiff, if_false, t3]), (by first | (simp only [Tr.get_put, Nat.reduceEqDiff, if_true, if_false]; rfl) | simp only [Tr.get_put, Nat.reduceEqDiff, if_true, if_false]), (by first | (simp only [sA, Nat.reduceEqDiff, if_true, if_false]; rfl) | simp only []), hx4.get hb.wf gp', hx4.get hb.wf gq', hx5⟩
          rw [← hc hh0, if_pos h0, ordL_drop (List.getElem?_eq_getElem hlt) (List.getElem?_eq_getElem hlt')]
        · repeat' (first | refine EvC.seq ?_ | refine EvC.scope ?_ | refine EvC.block ?_ | (refine EvC.skip ?_) | (refine EvC.exit ?_; try simp only [sA, if_true]) | (refine EvC.ret ?_; try simp only [thenC_ret, inBlock_ret]) | (refine EvC.reg ?_; simp (config := { maxSteps := 2000000 }) (disch := first | omega | rfl) only [sA, Nat.reduceEqDiff, if_true, if_false, fa26_5, ld24, ln24, t2, t5, t6, q1, decl hlt, ieq_f h0]) | (refine EvC.condT ?_ ?_; simp (config := { maxSteps := 2000000 }) (disch := first | omega | rfl) only [sA, Nat.reduceEqDiff, if_true, if_false]; refine EvC_go ?_) | (refine EvC.condF ?_ ?_; simp (config := { maxSteps := 2000000 }) (disch := first | omega | rfl) only [sA, Nat.reduceEqDiff, if_true, if_false]; refine EvC_go ?_))
          refine leave_one rfl (by first | (simp only [sA, Nat.reduceEqDiff, if_true, if_false]; rfl) | simp only []) ⟨?_, hx'⟩
          rw [fin 0]
          by_cases hh0 : headZ t t' = 0
          · rw [if_pos hh0, ← hc hh0, if_neg h0]
          · rw [if_neg hh0]; rcases hh with h | h
            · exact absurd h hh0
            · rw [h]
      · repeat' (first | refine EvC.seq ?_ | refine EvC.scope ?_ | refine EvC.block ?_ | (refine EvC.skip ?_) | (refine EvC.exit ?_; try simp only [sA, if_true]) | (refine EvC.ret ?_; try simp only [thenC_ret, inBlock_ret]) | (refine EvC.reg ?_; simp (config := { maxSteps := 2000000 }) (disch := first | omega | rfl) only [sA, Nat.reduceEqDiff, if_true, if_false, fa26_5, ld24, ln24, t2, t5, t6, q1, decn hlt, Bool.false_eq_true]) | (refine EvC.condT ?_ ?_; simp (config := { maxSteps := 2000000 }) (disch := first | omega | rfl) only [sA, Nat.reduceEqDiff, if_true, if_false]; refine EvC_go ?_) | (refine EvC.condF ?_ ?_; simp (config := { maxSteps := 2000000 }) (disch := first | omega | rfl) only [sA, Nat.reduceEqDiff, if_true, if_false]; refine EvC_go ?_))
        refine leave_one rfl (by first | (simp only [sA, Nat.reduceEqDiff, if_true, if_false]; rfl) | simp only []) ⟨?_, hx'⟩
        rw [fin 0]
        by_cases hh0 : headZ t t' = 0
        · rw [if_pos hh0, ← hc hh0, List.drop_of_length_le (by omega)]
          by_cases h0 : w = 0
          · rw [if_pos h0, ordL, h0]
          · rw [if_neg h0]
        · rw [if_neg hh0]; rcases hh with h | h
          · exact absurd h hh0
          · rw [h]
    · refine ⟨_, _, 0, headZ t t', rfl, rfl, by omega, .inr rfl, fun h => by rw [if_pos h]; rfl, (by first | (simp only [Tr.get_put, Nat.reduceEqDiff, reduceCtorEq, if_true, if_false]; rfl) | simp only [Tr.get_put, Nat.reduceEqDiff, reduceCtorEq, if_true, if_false]), (by first | (simp only [Tr.get_put, Nat.reduceEqDiff, reduceCtorEq, if_true, if_false]; rfl) | simp only [Tr.get_put, Nat.reduceEqDiff, reduceCtorEq, if_true, if_false]), (by first | (simp only [sA, Nat.reduceEqDiff, reduceCtorEq, if_true, if_false]; rfl) | simp only []), (by first | (simp only [sA, Nat.reduceEqDiff, reduceCtorEq, if_true, if_false]; rfl) | simp only []), gp3, gq3, hx23⟩
  · repeat' (first | refine EvC.seq ?_ | refine EvC.scope ?_ | refine EvC.block ?_ | (refine EvC.skip ?_) | (refine EvC.exit ?_) | (refine EvC.ret ?_; try simp only [thenC_ret, inBlock_ret]) | (refine EvC.reg ?_; simp (config := { maxSteps := 2000000 }) (disch := first | omega | rfl) only [sA, Nat.reduceEqDiff, reduceCtorEq, if_true, if_false, fa26_0, ld3, ine_t hk, q1, q2]) | (refine EvC.drw (id := 2) [([(0, 0), (1, 0)], some 2), ([(3, 0), (4, 0)], some 5), ([], some 6), ([(7, 3)], none)] ?_ ?_; kernel_rfl; simp (config := { maxSteps := 2000000 }) (disch := first | omega | rfl) only [sD, sA, Nat.reduceEqDiff, Nat.reduceAdd, reduceCtorEq, if_true, if_false, fa26_0, ld3, cl86, q1, isAlloc, isRead, reduceCtorEq]) | (refine EvC.condT ?_ ?_; simp (config := { maxSteps := 2000000 }) (disch := first | omega | rfl) only [sA, Nat.reduceEqDiff, reduceCtorEq, if_true, if_false]; refine EvC_go ?_))
    refine rank_ev.mono ?_
    rintro v H1 ⟨rfl, rfl⟩
    repeat' (first | refine EvC.seq ?_ | refine EvC.scope ?_ | refine EvC.block ?_ | (refine EvC.skip ?_) | (refine EvC.exit ?_) | (refine EvC.ret ?_; try simp only [thenC_ret, inBlock_ret]) | (refine SCK_go ?_; simp (config := { maxSteps := 2000000 }) (disch := first | omega | rfl) only [sV, sD, sA, Nat.reduceEqDiff, reduceCtorEq, if_true, if_false, fa26_0, ld3, cl86, q2, isAlloc, isRead, reduceCtorEq]))
    refine rank_ev.mono ?_
    rintro v H2 ⟨rfl, rfl⟩
    repeat' (first | refine EvC.seq ?_ | refine EvC.scope ?_ | refine EvC.block ?_ | (refine EvC.skip ?_) | (refine EvC.exit ?_) | (refine EvC.ret ?_; try simp only [thenC_ret, inBlock_ret]) | (refine SCK_go ?_; simp (config := { maxSteps := 2000000 }) (disch := first | omega | rfl) only [sD, sA, Nat.reduceEqDiff, reduceCtorEq, if_true, if_false, cl83, reduceCtorEq]))
    refine cmpI_ev.mono ?_
    rintro v H3 ⟨rfl, rfl⟩
    repeat' (first | refine EvC.seq ?_ | refine EvC.scope ?_ | refine EvC.block ?_ | (refine EvC.skip ?_) | (refine EvC.exit ?_) | (refine EvC.ret ?_; try simp only [thenC_ret, inBlock_ret]) | (refine SCK_go ?_; simp (config := { maxSteps := 2000000 }) (disch := first | omega | rfl) only [sD, sA, Nat.reduceEqDiff, Nat.reduceAdd, reduceCtorEq, if_true, if_false, isAlloc, isRead, reduceCtorEq]))
    exact leave_one rfl (by first | (simp only [sA, Nat.reduceEqDiff, reduceCtorEq, if_true, if_false]; rfl) | simp only []) ⟨by rw [ordT_eq, if_pos hk], hx2.bump _⟩

end Go.Proofs.YtlllbkjiadcloaaDoor.hb
end

-- Z12
section
/- The order of terms: the reference's. -/
namespace Go.Proofs.YtlllbkjiadcloaaDoor.hb
open Go Go.RowKit Go.Hb
variable {ok : Ok}
set_option maxRecDepth 10000
attribute [local irreducible] LX LG EL STG SOP SGO SGD SAL SRD SEF SEG SLK SCK ES
-- @veq

-- hornbeamref02.Order
end Go.Proofs.YtlllbkjiadcloaaDoor.hb
end

-- Z14
section
/- Terms that lie side by side in a row; two terms compared. -/
namespace Go.Proofs.YtlllbkjiadcloaaDoor.hb
open Go Go.RowKit Go.Hb
variable {ok : Ok}
set_option maxRecDepth 10000
attribute [local irreducible] LX LG EL STG SOP SGO SGD SAL SRD SEF SEG SLK SCK ES
-- @veq
-- term.Compare
end Go.Proofs.YtlllbkjiadcloaaDoor.hb
end

-- Z16
section
/- Terms that are the same. -/
namespace Go.Proofs.YtlllbkjiadcloaaDoor.hb
open Go Go.RowKit Go.Hb
variable {ok : Ok}
set_option maxRecDepth 10000
attribute [local irreducible] LX LG EL STG SOP SGO SGD SAL SRD SEF SEG SLK SCK ES
-- @veq
noncomputable def eqT (t t' : Tm) : Bool := @decide (t = t') (Classical.propDecidable _)
theorem eqT_t {t t' : Tm} (h : t = t') : eqT t t' = true := by unfold eqT; exact @decide_eq_true _ (Classical.propDecidable _) h
theorem eqT_f {t t' : Tm} (h : t ≠ t') : eqT t t' = false := by unfold eqT; exact @decide_eq_false _ (Classical.propDecidable _) h
theorem sbeq_t {a b : ByteArray} (h : a = b) : (a.toList == b.toList) = true := by rw [h]; exact beq_self_eq_true _
theorem sbeq_f {a b : ByteArray} (h : a ≠ b) : (a.toList == b.toList) = false := by
  rw [beq_eq_false_iff_ne]; exact fun q => h (toList_inj q)

-- hornbeamref02.Same
set_option maxHeartbeats 4000000 in
theorem same_ev {m : Nat} : ∀ {t t' : Tm} {cs cs' : List Value} {H : Heap}, SizeOf.sizeOf t < m → RepT H t cs → RepT H t' cs' → H.wf →
    EvF Tryd.prog okT 20 [.agg ⟨cs⟩, .agg ⟨cs'⟩] H fun v H' => v = .bool (eqT t t') ∧ HX H H' := by
  induction m with
  | zero => intro t t' cs cs' H h; omega
  | succ m ih =>
  intro t t' cs cs' H hsz r r' hw
  obtain ⟨a, c, cells, rfl, b1, b2, b3, b4, b5, rl⟩ := r.six
  obtain ⟨a', c', cells', rfl, b1', b2', b3', b4', b5', rl'⟩ := r'.six
  refine EvF.enter rfl Tryd.func20 (by decide) rfl ?_
  (repeat refine EvC.seq ?_); refine EvC.reg ?_; simp (config := { maxSteps := 2000000 }) (disch := first | omega | rfl) only [sA, initTm, dBox, Nat.reduceEqDiff, Value.cells, one, reduceCtorEq, if_true, if_false]
  obtain ⟨H2, e2, hx2, gp, gq, hnx, hw2⟩ := new2 hw (.row (six t a c) 26) (.row (six t' a' c') 26)
  simp only [e2]
  have q1 := row6 gp
  have q2 := row6 gq
  clear e2
  by_cases k1 : t.kind = t'.kind
  rotate_left
  · repeat' (first | refine EvC.seq ?_ | refine EvC.scope ?_ | refine EvC.block ?_ | (refine EvC.skip ?_) | (refine EvC.exit ?_) | (refine EvC.ret ?_; try simp only [thenC_ret, inBlock_ret]) | (refine EvC.reg ?_; simp (config := { maxSteps := 2000000 }) (disch := first | omega | rfl) only [sA, Nat.reduceEqDiff, reduceCtorEq, if_true, if_false, fa26_0, ld3, ine_t k1, q1, q2]) | (refine EvC.condT ?_ ?_; simp (config := { maxSteps := 2000000 }) (disch := first | omega | rfl) only [sA, Nat.reduceEqDiff, reduceCtorEq, if_true, if_false]; refine EvC_go ?_))
    exact leave_one rfl (by first | (simp only [sA, Nat.reduceEqDiff, reduceCtorEq, if_true, if_false]; rfl) | simp only []) ⟨by rw [eqT_f (fun h => k1 (by rw [h]))], hx2⟩
  by_cases k2 : t.name = t'.name
  rotate_left
  · repeat' (first | refine EvC.seq ?_ | refine EvC.scope ?_ | refine EvC.block ?_ | (refine EvC.skip ?_) | (refine EvC.exit ?_) | (refine EvC.ret ?_; try simp only [thenC_ret, inBlock_ret]) | (refine EvC.reg ?_; simp (config := { maxSteps := 2000000 }) (disch := first | omega | rfl) only [sA, Nat.reduceEqDiff, reduceCtorEq, if_true, if_false, fa26_0, ld3, fa26_1, ld9, ine_f k1, q1, q2, dBin_neqS, sbeq_f k2, Bool.not_false, Bool.false_eq_true]) | (refine EvC.condT ?_ ?_; simp (config := { maxSteps := 2000000 }) (disch := first | omega | rfl) only [sA, Nat.reduceEqDiff, reduceCtorEq, if_true, if_false]; refine EvC_go ?_))
    exact leave_one rfl (by first | (simp only [sA, Nat.reduceEqDiff, reduceCtorEq, if_true, if_false]; rfl) | simp only []) ⟨by rw [eqT_f (fun h => k2 (by rw [h]))], hx2⟩
  by_cases k3 : t.num = t'.num
  rotate_left
  · repeat' (first | refine EvC.seq ?_ | refine EvC.scope ?_ | refine EvC.block ?_ | (refine EvC.skip ?_) | (refine EvC.exit ?_) | (refine EvC.ret ?_; try simp only [thenC_ret, inBlock_ret]) | (refine EvC.reg ?_; simp (config := { maxSteps := 2000000 }) (disch := first | omega | rfl) only [sA, Nat.reduceEqDiff, reduceCtorEq, if_true, if_false, fa26_0, ld3, fa26_1, ld9, fa26_2, ine_f k1, q1, q2, dBin_neqS, sbeq_t k2, sbeq_f k3, Bool.not_false, Bool.not_true, Bool.false_eq_true]) | (refine EvC.condT ?_ ?_; simp (config := { maxSteps := 2000000 }) (disch := first | omega | rfl) only [sA, Nat.reduceEqDiff, reduceCtorEq, if_true, if_false]; refine EvC_go ?_))
    exact leave_one rfl (by first | (simp only [sA, Nat.reduceEqDiff, reduceCtorEq, if_true, if_false]; rfl) | simp only []) ⟨by rw [eqT_f (fun h => k3 (by rw [h]))], hx2⟩
  by_cases k4 : t.bits = t'.bits
  rotate_left
  · repeat' (first | refine EvC.seq ?_ | refine EvC.scope ?_ | refine EvC.block ?_ | (refine EvC.skip ?_) | (refine EvC.exit ?_) | (refine EvC.ret ?_; try simp only [thenC_ret, inBlock_ret]) | (refine EvC.reg ?_; simp (config := { maxSteps := 2000000 }) (disch := first | omega | rfl) only [sA, Nat.reduceEqDiff, reduceCtorEq, if_true, if_false, fa26_0, ld3, fa26_1, ld9, fa26_2, fa26_3, ld23, ine_f k1, q1, q2, dBin_neqS, sbeq_t k2, sbeq_t k3, ine_t k4, Bool.not_true, Bool.false_eq_true]) | (refine EvC.condT ?_ ?_; simp (config := { maxSteps := 2000000 }) (disch := first | omega | rfl) only [sA, Nat.reduceEqDiff, reduceCtorEq, if_true, if_false]; refine EvC_go ?_))
    exact leave_one rfl (by first | (simp only [sA, Nat.reduceEqDiff, reduceCtorEq, if_true, if_false]; rfl) | simp only []) ⟨by rw [eqT_f (fun h => k4 (by rw [h]))], hx2⟩
  by_cases k5 : t.var = t'.var
  rotate_left
  · repeat' (first | refine EvC.seq ?_ | refine EvC.scope ?_ | refine EvC.block ?_ | (refine EvC.skip ?_) | (refine EvC.exit ?_) | (refine EvC.ret ?_; try simp only [thenC_ret, inBlock_ret]) | (refine EvC.reg ?_; simp (config := { maxSteps := 2000000 }) (disch := first | omega | rfl) only [sA, Nat.reduceEqDiff, reduceCtorEq, if_true, if_false, fa26_0, ld3, fa26_1, ld9, fa26_2, fa26_3, ld23, fa26_4, ine_f k1, q1, q2, dBin_neqS, sbeq_t k2, sbeq_t k3, ine_f k4, ine_t k5, Bool.not_true, Bool.false_eq_true]) | (refine EvC.condT ?_ ?_; simp (config := { maxSteps := 2000000 }) (disch := first | omega | rfl) only [sA, Nat.reduceEqDiff, reduceCtorEq, if_true, if_false]; refine EvC_go ?_))
    exact leave_one rfl (by first | (simp only [sA, Nat.reduceEqDiff, reduceCtorEq, if_true, if_false]; rfl) | simp only []) ⟨by rw [eqT_f (fun h => k5 (by rw [h]))], hx2⟩
  by_cases k6 : (t.args.length : Int) = t'.args.length
  rotate_left
  · repeat' (first | refine EvC.seq ?_ | refine EvC.scope ?_ | refine EvC.block ?_ | (refine EvC.skip ?_) | (refine EvC.exit ?_) | (refine EvC.ret ?_; try simp only [thenC_ret, inBlock_ret]) | (refine EvC.reg ?_; simp (config := { maxSteps := 2000000 }) (disch := first | omega | rfl) only [sA, Nat.reduceEqDiff, reduceCtorEq, if_true, if_false, fa26_0, ld3, fa26_1, ld9, fa26_2, fa26_3, ld23, fa26_4, fa26_5, ld24, ln24, ine_f k1, q1, q2, dBin_neqS, sbeq_t k2, sbeq_t k3, ine_f k4, ine_f k5, ine_t k6, Bool.not_true, Bool.false_eq_true]) | (refine EvC.condT ?_ ?_; simp (config := { maxSteps := 2000000 }) (disch := first | omega | rfl) only [sA, Nat.reduceEqDiff, reduceCtorEq, if_true, if_false]; refine EvC_go ?_))
    exact leave_one rfl (by first | (simp only [sA, Nat.reduceEqDiff, reduceCtorEq, if_true, if_false]; rfl) | simp only []) ⟨by rw [eqT_f (fun h => k6 (by rw [h]))], hx2⟩
  repeat' (first | refine EvC.seq ?_ | refine EvC.scope ?_ | refine EvC.block ?_ | (refine EvC.skip ?_; try simp only [thenC_normal]) | (refine EvC.exit ?_) | (refine EvC.ret ?_; try simp only [thenC_ret, inBlock_ret]) | (refine EvC.reg ?_; simp (config := { maxSteps := 2000000 }) (disch := first | omega | rfl) only [sA, Nat.reduceEqDiff, reduceCtorEq, if_true, if_false, fa26_0, ld3, fa26_1, ld9, fa26_2, fa26_3, ld23, fa26_4, fa26_5, ld24, ln24, ine_f k1, q1, q2, dBin_neqS, sbeq_t k2, sbeq_t k3, ine_f k4, ine_f k5, ine_f k6, Bool.not_true, Bool.false_eq_true]) | (refine EvC.condT ?_ ?_; simp (config := { maxSteps := 2000000 }) (disch := first | omega | rfl) only [sA, Nat.reduceEqDiff, reduceCtorEq, if_true, if_false]; refine EvC_go ?_) | (refine EvC.condF ?_ ?_; simp (config := { maxSteps := 2000000 }) (disch := first | omega | rfl) only [sA, Nat.reduceEqDiff, reduceCtorEq, if_true, if_false]; refine EvC_go ?_))
  have hlen : t.args.length = t'.args.length := by omega
  have hm := rl.max
  refine EvC.loop (fun k st => ∃ tm H' i, st = ⟨tm, [], H'⟩ ∧ k = t.args.length - i ∧ i ≤ t.args.length ∧ (∀ j, j < i → t.args[j]? = t'.args[j]?) ∧
      tm.get 2 = some (.pointer (some ⟨H.next, 0, none⟩)) ∧ tm.get 3 = some (.pointer (some ⟨H.next + 1, 0, none⟩)) ∧ tm.get 5 = some (.int .i64 (i : Nat)) ∧
      H'.get H.next = some (.row (six t a c) 26) ∧ H'.get (H.next + 1) = some (.row (six t' a' c') 26) ∧ HX H H') ?_ t.args.length _ ?_
  · rintro k st ⟨tm, H', i, rfl, rfl, hi, hc, t2, t3, t5, gp', gq', hx'⟩
    have q1 := row6 gp'
    have q2 := row6 gq'
    by_cases hlt : i < t.args.length
    · have hlt' : i < t'.args.length := by omega
      obtain ⟨b, o, a1, c1, rfl, hld, hr1⟩ := rl.el hlt
      obtain ⟨b', o', a2, c2, rfl, hld', hr2⟩ := rl'.el hlt'
      have hld1 := hx'.load hw hld
      have hld2 := hx'.load hw hld'
      repeat' (first | refine EvC.seq ?_ | refine EvC.scope ?_ | refine EvC.block ?_ | (refine EvC.skip ?_; try simp only [thenC_normal]) | (refine EvC.exit ?_) | (refine EvC.ret ?_; try simp only [thenC_ret, inBlock_ret]) | (refine EvC.reg ?_; simp (config := { maxSteps := 2000000 }) (disch := first | omega | rfl) only [sA, Nat.reduceEqDiff, if_true, if_false, fa26_5, ld24, ln24, t2, t5, q1, decl hlt]) | (refine EvC.drw [([(0, 0), (1, 0), (2, 0), (3, 0), (4, 0), (5, 0), (6, 0), (7, 0), (8, 0), (9, 0)], some 10), ([(11, 1)], none)] ?_ ?_; kernel_rfl; simp (config := { maxSteps := 2000000 }) (disch := first | omega | rfl) only [sD, sA, Nat.reduceEqDiff, Nat.reduceAdd, reduceCtorEq, if_true, if_false, fa26_5, ld24, ia24, ld26, cl20, t2, t3, t5, q1, q2, hld1, hld2, isAlloc, isRead, reduceCtorEq]) | (refine EvC.condT ?_ ?_; simp (config := { maxSteps := 2000000 }) (disch := first | omega | rfl) only [sA, Nat.reduceEqDiff, if_true, if_false]; refine EvC_go ?_))
      have hb := hx'.bump 12
      have hs := args_size (List.getElem?_eq_getElem hlt)
      refine (ih (t := t.args[i]) (t' := t'.args[i]) (by omega) (hr1.mono hb hw) (hr2.mono hb hw) hb.wf).mono ?_
      rintro v H4 ⟨rfl, hx4⟩
      have hx5 := hb.trans hx4
      by_cases he : t.args[i] = t'.args[i]
      · repeat' (first | refine EvC.seq ?_ | refine EvC.scope ?_ | refine EvC.block ?_ | (refine EvC.skip ?_; try simp only [sA]) | (refine EvC.exit ?_) | (refine EvC.ret ?_; try simp only [thenC_ret, inBlock_ret]) | (refine EvC.reg ?_; simp (config := { maxSteps := 2000000 }) (disch := first | omega | rfl) only [sA, Nat.reduceEqDiff, if_true, if_false, Bool.not_true, t5, wrap_i64]) | (refine SCK_go ?_; simp (config := { maxSteps := 2000000 }) (disch := first | omega | rfl) only [sD, sA, Nat.reduceEqDiff, if_true, if_false, eqT_t he, isAlloc, isRead]) | (refine EvC.condT ?_ ?_; simp (config := { maxSteps := 2000000 }) (disch := first | omega | rfl) only [sA, Nat.reduceEqDiff, if_true, if_false]; refine EvC_go ?_) | (refine EvC.condF ?_ ?_; simp (config := { maxSteps := 2000000 }) (disch := first | omega | rfl) only [sA, Nat.reduceEqDiff, if_true, if_false]; refine EvC_go ?_))
        refine ⟨t.args.length - (i + 1), by omega, _, _, i + 1, rfl, rfl, by omega, fun j hj => ?_, (by first | (simp only [Tr.get_put, Nat.reduceEqDiff, if_false, t2]; rfl) | simp only [Tr.get_put, Nat.reduceEqDiff, if_false, t2]), (by first | (simp only [Tr.get_put, Nat.reduceEqDiff, if_false, t3]; rfl) | simp only [Tr.get_put, Nat.reduceEqDiff, if_false, t3]), (by first | (simp only [sA, Nat.reduceEqDiff, if_true, if_false]; rfl) | simp only []), hx4.get hb.wf gp', hx4.get hb.wf gq', hx5⟩
        by_cases hji : j = i
        · subst hji; rw [List.getElem?_eq_getElem hlt, List.getElem?_eq_getElem hlt', he]
        · exact hc j (by omega)
      · repeat' (first | refine EvC.seq ?_ | refine EvC.scope ?_ | refine EvC.block ?_ | (refine EvC.skip ?_) | (refine EvC.exit ?_) | (refine EvC.ret ?_; try simp only [thenC_ret, inBlock_ret]) | (refine EvC.reg ?_; simp (config := { maxSteps := 2000000 }) (disch := first | omega | rfl) only [sA, Nat.reduceEqDiff, if_true, if_false, Bool.not_false]) | (refine SCK_go ?_; simp (config := { maxSteps := 2000000 }) (disch := first | omega | rfl) only [sD, sA, Nat.reduceEqDiff, if_true, if_false, eqT_f he, isAlloc, isRead]) | (refine EvC.condT ?_ ?_; simp (config := { maxSteps := 2000000 }) (disch := first | omega | rfl) only [sA, Nat.reduceEqDiff, if_true, if_false]; refine EvC_go ?_))
        refine leave_one rfl (by first | (simp only [sA, Nat.reduceEqDiff, if_true, if_false]; rfl) | simp only []) ⟨?_, hx5⟩
        rw [eqT_f]
        rintro rfl
        exact he rfl
    · repeat' (first | refine EvC.seq ?_ | refine EvC.scope ?_ | refine EvC.block ?_ | (refine EvC.skip ?_) | (refine EvC.exit ?_; try simp only [sA, if_true]) | (refine EvC.ret ?_; try simp only [thenC_ret, inBlock_ret]) | (refine EvC.reg ?_; simp (config := { maxSteps := 2000000 }) (disch := first | omega | rfl) only [sA, Nat.reduceEqDiff, if_true, if_false, fa26_5, ld24, ln24, t2, t5, q1, decn hlt]) | (refine EvC.condT ?_ ?_; simp (config := { maxSteps := 2000000 }) (disch := first | omega | rfl) only [sA, Nat.reduceEqDiff, if_true, if_false]; refine EvC_go ?_) | (refine EvC.condF ?_ ?_; simp (config := { maxSteps := 2000000 }) (disch := first | omega | rfl) only [sA, Nat.reduceEqDiff, if_true, if_false]; refine EvC_go ?_))
      refine leave_one rfl (by first | (simp only [sA, Nat.reduceEqDiff, if_true, if_false]; rfl) | simp only []) ⟨?_, hx'⟩
      rw [eqT_t]
      refine tm_ext k1 k2 k3 k4 k5 (List.ext_getElem? fun j => ?_)
      by_cases hj : j < i
      · exact hc j hj
      · rw [List.getElem?_eq_none (by omega), List.getElem?_eq_none (by omega)]
  · exact ⟨_, _, 0, rfl, rfl, by omega, by omega, (by first | (simp only [Tr.get_put, Nat.reduceEqDiff, reduceCtorEq, if_true, if_false]; rfl) | simp only [Tr.get_put, Nat.reduceEqDiff, reduceCtorEq, if_true, if_false]), (by first | (simp only [Tr.get_put, Nat.reduceEqDiff, reduceCtorEq, if_true, if_false]; rfl) | simp only [Tr.get_put, Nat.reduceEqDiff, reduceCtorEq, if_true, if_false]), (by first | (simp only [sA, Nat.reduceEqDiff, reduceCtorEq, if_true, if_false]; rfl) | simp only []), gp, gq, hx2⟩
theorem same_tells {t t' : Tm} {cs cs' : List Value} {H : Heap} (r : RepT H t cs) (r' : RepT H t' cs') (hw : H.wf) :
    EvF Tryd.prog okT 20 [.agg ⟨cs⟩, .agg ⟨cs'⟩] H fun v H' => v = .bool (eqT t t') ∧ HX H H' := same_ev (Nat.lt_succ_self _) r r' hw
end Go.Proofs.YtlllbkjiadcloaaDoor.hb
end

-- U7
section
/- Terms alike but for their variables' numbers: the program's Variant. -/
namespace Go.Proofs.YtlllbkjiadcloaaDoor.hb
open Go Go.RowKit Go.Hb
variable {ok : Ok}
set_option maxRecDepth 10000
attribute [local irreducible] LX LG EL STG SOP SGO SGD SAL SRD SEF SEG SLK SCK ES
-- @veq
theorem occ_nd : ∀ (m : Nat) (t : Tm), SizeOf.sizeOf t < m → (occ t).length ≤ nd t
  | 0, _, h => by omega
  | m + 1, t, h => by
    have hl : ∀ l : List Tm, (∀ u ∈ l, (occ u).length ≤ nd u) → (occL l).length ≤ nd.ndL l := by
      intro l
      induction l with
      | nil => intro _; rw [occL, nd.ndL]; exact Nat.le_refl _
      | cons u l ih => intro hu; rw [occL, nd.ndL, List.length_append]; have := hu u (by simp); have := ih fun v hv => hu v (List.mem_cons_of_mem _ hv); omega
    have := hl t.args fun u hu => occ_nd m u (by have := mem_args_size hu; omega)
    rw [occ_eq, nd_args, List.length_append]
    split <;> simp <;> omega
theorem occ_few {t : Tm} (h : checkS t = 0) : (occ t).length ≤ 4000 := by
  have h1 := (check_zero.1 h).1
  have h2 := cnt_nd _ t (Nat.lt_succ_self _) 0 h1
  have h3 := occ_nd _ t (Nat.lt_succ_self _)
  omega
theorem node_args {k b v : Int} {s u : ByteArray} {l l' : List Tm} (h : l'.length = l.length) : nodeS (.mk k s u b v l') = nodeS (.mk k s u b v l) := by
  have hb : blankB (.mk k s u b v l') = blankB (.mk k s u b v l) := by simp only [blankB, Tm.kind, Tm.name, Tm.num, Tm.bits, Tm.var, Tm.args, h]
  have ha : (Tm.mk k s u b v l').args.length = (Tm.mk k s u b v l).args.length := h
  unfold nodeS nodeE
  rw [hb, ha]
  rfl
theorem fine_sub {σ : Int → Tm} (hσ : ∀ n, 0 ≤ n → Fine (σ n)) : ∀ (m : Nat) (t : Tm), SizeOf.sizeOf t < m → Fine t → Fine (sub σ t)
  | 0, _, h, _ => by omega
  | m + 1, t, h, f => by
    by_cases k1 : t.kind = 1
    · rw [sub_var k1]; exact hσ _ (node_kind f.node).2.2.2.1
    · rw [sub_mk k1]
      unfold Fine
      rw [allE_eq]
      have hn : nodeS (.mk t.kind t.name t.num t.bits t.var (t.args.map (sub σ))) = 0 := by
        rw [node_args (l := t.args) (by simp)]
        have := f.node
        obtain ⟨k, s, u, b, v, l⟩ := t
        exact this
      rw [if_pos hn]
      have hl : ∀ l : List Tm, (∀ u ∈ l, Fine (sub σ u)) → allL nodeS (l.map (sub σ)) = 0 := by
        intro l
        induction l with
        | nil => intro _; rfl
        | cons u l ih =>
          intro hu
          rw [List.map_cons, allL, if_pos (show allE nodeS (sub σ u) = 0 from hu u (by simp))]
          exact ih fun v hv => hu v (List.mem_cons_of_mem _ hv)
      exact hl t.args fun u hu => fine_sub hσ m u (by have := mem_args_size hu; omega) (f.args u hu)
def plain1 (t : Tm) : Tm := sub (fun n => varT (plcZ (uniq (occ t)) n)) t
theorem plainL_one (t : Tm) : plainL [t] = [plain1 t] := by
  unfold plainL plain1
  have : occL [t] = occ t := by rw [occL, occL, List.append_nil]
  rw [this]; rfl
theorem plain1_fine {t : Tm} (h : Fine t) : Fine (plain1 t) := fine_sub (fun n _ => var_fine (plc_bound _ n).1) _ t (Nat.lt_succ_self _) h
theorem RepL.one {H : Heap} {t : Tm} {cs : List Value} {b : Nat} {T : TypeId} (r : RepT H t cs) (g : H.get b = some (.row cs T)) : RepL H [t] (some ⟨b, 0, none⟩) 1 (fun _ => cs) := by
  have h1 := r.len
  refine RepL.of_row g (fun i hi => ?_) (fun i u hu => ?_) (Nat.le_refl _) (by simp [maxLen])
  · match i, hi with
    | 0, _ => simp; exact List.take_of_length_le (by omega)
  · match i, hu with
    | 0, hu => cases hu; exact r
theorem chk_one {t : Tm} (h : checkS t = 0) : chkL [t] = 0 := by rw [chkL, if_pos h, chkL]

-- term.Variant
set_option maxHeartbeats 8000000 in
theorem variant_ev {t t' : Tm} {cs cs' : List Value} {H : Heap} (r : RepT H t cs) (r' : RepT H t' cs') (hw : H.wf) :
    EvF Tryd.prog okT 32 [.agg ⟨cs⟩, .agg ⟨cs'⟩] H fun v H' => v = .tuple #[.bool (if chkL [t, t'] = 0 then eqT (plain1 t) (plain1 t') else false), .int .i64 (chkL [t, t'])] ∧ HX H H' := by
  have r0 := r; have r0' := r'
  obtain ⟨a, c, cells, rfl, -⟩ := r.six
  obtain ⟨a', c', cells', rfl, -⟩ := r'.six
  refine EvF.enter rfl Tryd.func32 (by decide) rfl ?_
  (repeat refine EvC.seq ?_); refine EvC.reg ?_; simp (config := { maxSteps := 2000000 }) (disch := first | omega | rfl) only [sA, initTm, dBox, Nat.reduceEqDiff, Value.cells, one, reduceCtorEq, if_true, if_false]
  obtain ⟨H2, e2, hx2, gp, gq, hnx, hw2⟩ := new2 hw (.row (six t a c) 26) (.row (six t' a' c') 26)
  simp only [e2]
  have q1 := row6 gp
  have q2 := row6 gq
  clear e2
  repeat' (first | refine EvC.seq ?_ | refine EvC.scope ?_ | refine EvC.block ?_ | (refine EvC.skip ?_) | (refine EvC.exit ?_) | (refine EvC.ret ?_; try simp only [thenC_ret, inBlock_ret]) | (refine EvC.reg ?_; simp (config := { maxSteps := 2000000 }) (disch := first | omega | rfl) only [sA, Nat.reduceEqDiff, Nat.reduceAdd, Value.cells, one, reduceCtorEq, if_true, if_false, Nat.reduceLeDiff, layC, ld26, bs24_2, cl52, q1, q2]))
  obtain ⟨H3, e3, hx3, g3, hn3, hw3⟩ := new1 hw2 (.row (six t a c ++ six t' a' c') 26)
  have e3' := e3
  simp only [six, List.cons_append, List.nil_append] at e3'
  simp only [e3']
  have gp := hx3.get hw2 gp; have gq := hx3.get hw2 gq
  have hx := hx2.trans hx3
  refine (checks_ev (RepL.two (r0.mono hx hw) (r0'.mono hx hw) g3) hw3).mono ?_
  rintro v H4 ⟨rfl, hx4⟩
  have gp := hx4.get hw3 gp; have gq := hx4.get hw3 gq
  have hx := hx.trans hx4
  have q1 := row6 gp
  have q2 := row6 gq
  by_cases h0 : chkL [t, t'] = 0
  rotate_left
  · repeat' (first | refine EvC.seq ?_ | refine EvC.scope ?_ | refine EvC.block ?_ | (refine EvC.skip ?_) | (refine EvC.exit ?_) | (refine EvC.ret ?_; try simp only [thenC_ret, inBlock_ret]) | (refine EvC.reg ?_; simp (config := { maxSteps := 2000000 }) (disch := first | omega | rfl) only [sA, Nat.reduceEqDiff, reduceCtorEq, if_true, if_false, ine_t h0]) | (refine EvC.condT ?_ ?_; simp (config := { maxSteps := 2000000 }) (disch := first | omega | rfl) only [sA, Nat.reduceEqDiff, reduceCtorEq, if_true, if_false]; refine EvC_go ?_))
    exact leave_two rfl (by first | (simp only [sA, Nat.reduceEqDiff, reduceCtorEq, if_true, if_false]; rfl) | simp only []) (by first | (simp only [sA, Nat.reduceEqDiff, reduceCtorEq, if_true, if_false]; rfl) | simp only []) ⟨by rw [if_neg h0], hx⟩
  have hc := chkL_zero h0
  have h1 := hc t (by simp)
  have h2 := hc t' (by simp)
  have b1 : (occL [t]).length ≤ most := by rw [occL, occL, List.append_nil]; exact Nat.le_trans (occ_few h1) (by simp [most])
  have b2 : (occL [t']).length ≤ most := by rw [occL, occL, List.append_nil]; exact Nat.le_trans (occ_few h2) (by simp [most])
  repeat' (first | refine EvC.seq ?_ | refine EvC.scope ?_ | refine EvC.block ?_ | (refine EvC.skip ?_; try simp only [thenC_normal]) | (refine EvC.exit ?_) | (refine EvC.ret ?_; try simp only [thenC_ret, inBlock_ret]) | (refine EvC.reg ?_; simp (config := { maxSteps := 2000000 }) (disch := first | omega | rfl) only [sA, Nat.reduceEqDiff, Nat.reduceAdd, Value.cells, one, reduceCtorEq, if_true, if_false, layC, ld26, bs24_1, cl31, ine_f h0, q1]) | (refine EvC.condT ?_ ?_; simp (config := { maxSteps := 2000000 }) (disch := first | omega | rfl) only [sA, Nat.reduceEqDiff, reduceCtorEq, if_true, if_false]; refine EvC_go ?_) | (refine EvC.condF ?_ ?_; simp (config := { maxSteps := 2000000 }) (disch := first | omega | rfl) only [sA, Nat.reduceEqDiff, reduceCtorEq, if_true, if_false]; refine EvC_go ?_))
  obtain ⟨H5, e5, hx5, g5, hn5, hw5⟩ := new1 hx.wf (.row (six t a c) 26)
  have e5' := e5
  simp only [six] at e5'
  simp only [e5']
  have gp := hx5.get hx.wf gp; have gq := hx5.get hx.wf gq
  have hx := hx.trans hx5
  refine (plain_ev (RepL.one (r0.mono hx hw) g5) b1 (by simp [most]) hw5).mono ?_
  rintro v H6 ⟨ax, cx, rfl, fx, hx6⟩
  rw [if_pos (chk_one h1), plainL_one] at fx ⊢
  have gq := hx6.get hw5 gq
  have hx := hx.trans hx6
  have q2 := row6 gq
  repeat' (first | refine EvC.seq ?_ | refine EvC.scope ?_ | refine EvC.block ?_ | (refine EvC.skip ?_) | (refine EvC.exit ?_) | (refine EvC.ret ?_; try simp only [thenC_ret, inBlock_ret]) | (refine EvC.reg ?_; simp (config := { maxSteps := 2000000 }) (disch := first | omega | rfl) only [sA, Nat.reduceEqDiff, Nat.reduceAdd, Value.cells, one, reduceCtorEq, if_true, if_false, layC, ld26, bs24_1, cl31, q2]) | (refine LX_go ?_; simp (config := { maxSteps := 2000000 }) (disch := first | omega | rfl) only [sA, Nat.reduceEqDiff, reduceCtorEq, if_true, if_false]))
  obtain ⟨H7, e7, hx7, g7, hn7, hw7⟩ := new1 hx.wf (.row (six t' a' c') 26)
  have e7' := e7
  simp only [six] at e7'
  simp only [e7']
  have fx := fx.keep hx7 hx6.wf
  have hx := hx.trans hx7
  refine (plain_ev (RepL.one (r0'.mono hx hw) g7) b2 (by simp [most]) hw7).mono ?_
  rintro v H8 ⟨ay, cy, rfl, fy, hx8⟩
  rw [if_pos (chk_one h2), plainL_one] at fy ⊢
  have fx := fx.keep hx8 hw7
  have hx := hx.trans hx8
  obtain ⟨cx1, rx⟩ := fx.rep
  obtain ⟨cy1, ry⟩ := fy.rep
  obtain ⟨bx, ox, a1, c1, rfl, lx, px⟩ := rx.el (i := 0) (by simp)
  obtain ⟨by', oy, a2, c2, rfl, ly, py⟩ := ry.el (i := 0) (by simp)
  simp only [List.getElem_cons_zero, Nat.zero_mul, Nat.add_zero] at lx ly px py
  repeat' (first | refine EvC.seq ?_ | refine EvC.scope ?_ | refine EvC.block ?_ | (refine EvC.skip ?_) | (refine EvC.exit ?_) | (refine EvC.ret ?_; try simp only [thenC_ret, inBlock_ret]) | (refine EvC.drw [([(0, 0), (1, 0), (2, 0), (3, 0), (4, 0), (5, 0)], some 6), ([(7, 1), (8, 1), (9, 1)], none)] ?_ ?_; kernel_rfl; simp (config := { maxSteps := 2000000 }) (disch := first | omega | rfl) only [sD, sA, Nat.reduceEqDiff, Nat.reduceAdd, reduceCtorEq, if_true, if_false, Int.reduceToNat, ld26, cl53, lx, ly, iz24, Nat.zero_mul, isAlloc, isRead, reduceCtorEq]) | (refine LX_go ?_; simp (config := { maxSteps := 2000000 }) (disch := first | omega | rfl) only [sA, Nat.reduceEqDiff, reduceCtorEq, if_true, if_false]))
  have hb := (HX.refl hx.wf).bump 10
  have f1 := plain1_fine (check_zero.1 h1).2
  have f2 := plain1_fine (check_zero.1 h2).2
  refine (order_ev (Nat.lt_succ_self _) (px.mono hb hx.wf) (py.mono hb hx.wf) f1 f2 hb.wf).mono ?_
  rintro v H9 ⟨rfl, hx9⟩
  have heq : (ordT (plain1 t) (plain1 t') == 0) = eqT (plain1 t) (plain1 t') := by
    by_cases h : ordT (plain1 t) (plain1 t') = 0
    · rw [ieq_t h, eqT_t (ordT_zero _ (Nat.lt_succ_self _) f1 f2 (RepT.u64s px) (RepT.u64s py) h)]
    · rw [ieq_f h, eqT_f fun e => h (by rw [e]; exact ordT_self _)]
  repeat' (first | refine EvC.seq ?_ | refine EvC.scope ?_ | refine EvC.block ?_ | (refine EvC.skip ?_) | (refine EvC.exit ?_) | (refine EvC.ret ?_; try simp only [thenC_ret, inBlock_ret]) | (refine SCK_go ?_; simp (config := { maxSteps := 2000000 }) (disch := first | omega | rfl) only [sD, sA, Nat.reduceEqDiff, reduceCtorEq, if_true, if_false, heq, isAlloc, isRead, reduceCtorEq]))
  exact leave_two rfl (by first | (simp only [sA, Nat.reduceEqDiff, reduceCtorEq, if_true, if_false]; rfl) | simp only []) (by first | (simp only [sA, Nat.reduceEqDiff, reduceCtorEq, if_true, if_false]; rfl) | simp only []) ⟨by rw [if_pos h0, h0], hx.trans (hb.trans hx9)⟩
end Go.Proofs.YtlllbkjiadcloaaDoor.hb
end

-- U11
section
/- A variant, by the reference. -/
namespace Go.Proofs.YtlllbkjiadcloaaDoor.hb
open Go Go.RowKit Go.Hb
variable {ok : Ok}
set_option maxRecDepth 10000
attribute [local irreducible] LX LG EL STG SOP SGO SGD SAL SRD SEF SEG SLK SCK ES
-- @veq
-- hornbeamref02.Variant
set_option maxHeartbeats 8000000 in
theorem variantR_ev {t t' : Tm} {cs cs' : List Value} {H : Heap} (r : RepT H t cs) (r' : RepT H t' cs') (h1 : checkS t = 0) (h2 : checkS t' = 0) (hw : H.wf) :
    EvF Tryd.prog okT 33 [.agg ⟨cs⟩, .agg ⟨cs'⟩] H fun v H' => v = .bool (eqT (plain1 t) (plain1 t')) ∧ HX H H' := by
  have r0 := r; have r0' := r'
  obtain ⟨a, c, cells, rfl, -⟩ := r.six
  obtain ⟨a', c', cells', rfl, -⟩ := r'.six
  refine EvF.enter rfl Tryd.func33 (by decide) rfl ?_
  (repeat refine EvC.seq ?_); refine EvC.reg ?_; simp (config := { maxSteps := 2000000 }) (disch := first | omega | rfl) only [sA, initTm, dBox, Nat.reduceEqDiff, Value.cells, one, reduceCtorEq, if_true, if_false]
  obtain ⟨H2, e2, hx, gp, gq, hnx, hw2⟩ := new2 hw (.row (six t a c) 26) (.row (six t' a' c') 26)
  simp only [e2]
  have q1 := row6 gp
  clear e2
  have b1 : (occL [t]).length ≤ most := by rw [occL, occL, List.append_nil]; exact Nat.le_trans (occ_few h1) (by simp [most])
  have b2 : (occL [t']).length ≤ most := by rw [occL, occL, List.append_nil]; exact Nat.le_trans (occ_few h2) (by simp [most])
  repeat' (first | refine EvC.seq ?_ | refine EvC.scope ?_ | refine EvC.block ?_ | (refine EvC.skip ?_) | (refine EvC.exit ?_) | (refine EvC.ret ?_; try simp only [thenC_ret, inBlock_ret]) | (refine EvC.reg ?_; simp (config := { maxSteps := 2000000 }) (disch := first | omega | rfl) only [sA, Nat.reduceEqDiff, Nat.reduceAdd, Value.cells, one, reduceCtorEq, if_true, if_false, layC, ld26, bs24_1, cl28, q1]))
  obtain ⟨H5, e5, hx5, g5, hn5, hw5⟩ := new1 hx.wf (.row (six t a c) 26)
  have e5' := e5
  simp only [six] at e5'
  simp only [e5']
  have gq := hx5.get hx.wf gq
  have hx := hx.trans hx5
  refine (plainR_ev (RepL.one (r0.mono hx hw) g5) (fun u hu => by simp at hu; subst hu; exact (check_zero.1 h1).2) b1 (by simp [most]) hw5).mono ?_
  rintro v H6 ⟨ax, cx, rfl, fx, hx6⟩
  rw [plainL_one] at fx ⊢
  have gq := hx6.get hw5 gq
  have hx := hx.trans hx6
  have q2 := row6 gq
  repeat' (first | refine EvC.seq ?_ | refine EvC.scope ?_ | refine EvC.block ?_ | (refine EvC.skip ?_) | (refine EvC.exit ?_) | (refine EvC.ret ?_; try simp only [thenC_ret, inBlock_ret]) | (refine EvC.reg ?_; simp (config := { maxSteps := 2000000 }) (disch := first | omega | rfl) only [sA, Nat.reduceEqDiff, Nat.reduceAdd, Value.cells, one, reduceCtorEq, if_true, if_false, layC, ld26, bs24_1, cl28, q2]))
  obtain ⟨H7, e7, hx7, g7, hn7, hw7⟩ := new1 hx.wf (.row (six t' a' c') 26)
  have e7' := e7
  simp only [six] at e7'
  simp only [e7']
  have fx := fx.keep hx7 hx6.wf
  have hx := hx.trans hx7
  refine (plainR_ev (RepL.one (r0'.mono hx hw) g7) (fun u hu => by simp at hu; subst hu; exact (check_zero.1 h2).2) b2 (by simp [most]) hw7).mono ?_
  rintro v H8 ⟨ay, cy, rfl, fy, hx8⟩
  rw [plainL_one] at fy ⊢
  have fx := fx.keep hx8 hw7
  have hx := hx.trans hx8
  obtain ⟨cx1, rx⟩ := fx.rep
  obtain ⟨cy1, ry⟩ := fy.rep
  obtain ⟨bx, ox, a1, c1, rfl, lx, px⟩ := rx.el (i := 0) (by simp)
  obtain ⟨by', oy, a2, c2, rfl, ly, py⟩ := ry.el (i := 0) (by simp)
  simp only [List.getElem_cons_zero, Nat.zero_mul, Nat.add_zero] at lx ly px py
  repeat' (first | refine EvC.seq ?_ | refine EvC.scope ?_ | refine EvC.block ?_ | (refine EvC.skip ?_) | (refine EvC.exit ?_) | (refine EvC.ret ?_; try simp only [thenC_ret, inBlock_ret]) | (refine EvC.drw [([(0, 0), (1, 0), (2, 0), (3, 0), (4, 0), (5, 0)], some 6), ([(7, 1)], none)] ?_ ?_; kernel_rfl; simp (config := { maxSteps := 2000000 }) (disch := first | omega | rfl) only [sD, sA, Nat.reduceEqDiff, Nat.reduceAdd, reduceCtorEq, if_true, if_false, Int.reduceToNat, ld26, cl20, lx, ly, iz24, Nat.zero_mul, isAlloc, isRead, reduceCtorEq]))
  have hb := (HX.refl hx.wf).bump 8
  refine (same_tells (px.mono hb hx.wf) (py.mono hb hx.wf) hb.wf).mono ?_
  rintro v H9 ⟨rfl, hx9⟩
  repeat' (first | refine EvC.seq ?_ | refine EvC.scope ?_ | refine EvC.block ?_ | (refine EvC.skip ?_) | (refine EvC.exit ?_) | (refine EvC.ret ?_; try simp only [thenC_ret, inBlock_ret]) | (refine SCK_go ?_; simp (config := { maxSteps := 2000000 }) (disch := first | omega | rfl) only [sD, sA, Nat.reduceEqDiff, reduceCtorEq, if_true, if_false, isAlloc, isRead, reduceCtorEq]))
  exact leave_one rfl (by first | (simp only [Tr.get_put, Nat.reduceEqDiff, reduceCtorEq, if_true, if_false]; rfl) | simp only [Tr.get_put, Nat.reduceEqDiff, reduceCtorEq, if_true, if_false]) ⟨rfl, hx.trans (hb.trans hx9)⟩
end Go.Proofs.YtlllbkjiadcloaaDoor.hb
end

-- V3
section
/- A tree that its owner writes over. -/
namespace Go.Hb
open Go Go.RowKit
theorem FL.inv {H : Heap} {T : TypeId} {S : Nat → Prop} {l : List Tm} {a : Option Addr} {c : Nat} (h : FL H T S l a c) : (l = [] ∧ a = none ∧ c = 0) ∨ ∃ b cells Si ai ci, a = some ⟨b, 0, none⟩ ∧ l.length ≤ c ∧ c ≤ maxLen ∧
    H.get b = some (.row cells T) ∧ l.length * 6 ≤ cells.length ∧ S b ∧ (∀ i, i < l.length → ¬ Si i b) ∧ FLs H T S l cells Si ai ci := by
  cases h with
  | nil => exact .inl ⟨rfl, rfl, rfl⟩
  | row _ _ b c cells Si ai ci h1 h2 h3 h4 h5 h6 h7 h8 h9 h10 h11 => exact .inr ⟨b, cells, Si, ai, ci, rfl, h1, h2, h3, h4, h7, h8, ⟨h5, h6, h9, h10, h11⟩⟩
end Go.Hb
namespace Go.Proofs.YtlllbkjiadcloaaDoor.hb
open Go Go.RowKit Go.Hb
variable {ok : Ok}
set_option maxRecDepth 10000
attribute [local irreducible] LX LG EL STG SOP SGO SGD SAL SRD SEF SEG SLK SCK ES
-- @veq
abbrev mark6 (k : Int) (s : ByteArray) : List Value := [.int .i64 k, .string s, .string ByteArray.empty, .int .u64 0, .int .i64 0, .slice none 0 0]

-- hornbeamlaw02.marked
set_option maxHeartbeats 4000000 in
theorem marked_ev {s : ByteArray} {m : Nat} : ∀ {t : Tm} {cs : List Value} {S : Nat → Prop} {H : Heap}, SizeOf.sizeOf t < m → RepF H 26 S t cs → Few 1000000 t → (∀ n, S n → n < H.next) → H.wf →
    EvF Tryd.prog okT 23 [.agg ⟨cs⟩, .string s] H fun _ H' => HK S H H' := by
  induction m with
  | zero => intro t cs S H h; omega
  | succ m ih =>
  intro t cs S H hsz r hfew hS hw
  obtain ⟨a, c, rfl, hbd, hf⟩ := r
  have hlen := hfew.len
  refine EvF.enter rfl Tryd.func23 (by decide) rfl ?_
  (repeat refine EvC.seq ?_); refine EvC.reg ?_; simp (config := { maxSteps := 2000000 }) (disch := first | omega | rfl) only [sA, initTm, dBox, Value.cells, one, reduceCtorEq, if_true, if_false]
  obtain ⟨H2, e2, hx2, gp, hn2, hw2⟩ := new1 hw (.row (six t a c) 26)
  simp only [e2]
  clear e2
  (repeat refine EvC.seq ?_); refine EvC.reg ?_; simp (config := { maxSteps := 2000000 }) (disch := first | omega | rfl) only [sA]
  have ean : apOk Tryd.prog 24 26 6 := ap24
  rcases hf.inv with ⟨he, rfl, rfl⟩ | ⟨b, cells, Si, ai, ci, rfl, hlc, hcm, gb, hcl, hSb, hnb, hfs⟩
  · have he0 : t.args.length = 0 := by rw [he]; rfl
    have q1 := row6 gp
    refine EvC.block (EvC.loop1 ?_)
    have hd : ¬ (0 : Nat) < t.args.length := by omega
    have hd' : decide ((0 : Int) < (t.args.length : Int)) = false := decide_eq_false (by omega)
    repeat' (first | refine EvC.seq ?_ | refine EvC.scope ?_ | refine EvC.block ?_ | (refine EvC.skip ?_) | (refine EvC.exit ?_; try simp only [sA, if_true]) | (refine EvC.ret ?_; try simp only [thenC_ret, inBlock_ret]) | (refine EvC.reg ?_; simp (config := { maxSteps := 2000000 }) (disch := first | omega | rfl) only [sA, Nat.reduceEqDiff, Nat.reduceAdd, Value.cells, one, reduceCtorEq, if_true, if_false, Nat.reduceLeDiff, layC, fa26_5, ld24, ln24, bd26, bs24_2, q1, hd']) | (refine EvC.condT ?_ ?_; simp (config := { maxSteps := 2000000 }) (disch := first | omega | rfl) only [sA, Nat.reduceEqDiff, reduceCtorEq, if_true, if_false]; refine EvC_go ?_) | (refine EvC.condF ?_ ?_; simp (config := { maxSteps := 2000000 }) (disch := first | omega | rfl) only [sA, Nat.reduceEqDiff, reduceCtorEq, if_true, if_false]; refine EvC_go ?_))
    obtain ⟨H6, e6, hx6, g6, hn6, hw6⟩ := new1 hw2 (.row (mark6 0 s ++ mark6 0 s) 26)
    have e6' := e6
    simp only [mark6, List.cons_append, List.nil_append] at e6'
    simp only [e6']
    have l6 : H6.load ⟨H2.next, 0, none⟩ (2 * 6) = some (mark6 0 s ++ mark6 0 s) := by unfold Heap.load Heap.cells; simp only [g6]; rfl
    have e7 : dAp Tryd.prog #[24, 24] (.slice none t.args.length 0) (.slice (some ⟨H2.next, 0, none⟩) 2 2) H6 = some (.val (.slice (some ⟨H6.next, 0, none⟩) 2 2) (H6.new (some (.row (mark6 0 s ++ mark6 0 s) 26)))) := by
      rw [he0]; exact dAp_new ean (by omega) (by simp [most]) l6 rfl
    obtain ⟨H7, e8, hx7, g7, hn7, hw7⟩ := new1 hw6 (.row (mark6 0 s ++ mark6 0 s) 26)
    have gp7 := hx7.get hw6 (hx6.get hw2 gp)
    rw [e8] at e7
    repeat' (first | refine EvC.seq ?_ | refine EvC.scope ?_ | refine EvC.block ?_ | (refine EvC.skip ?_) | (refine EvC.exit ?_) | (refine EvC.ret ?_; try simp only [thenC_ret, inBlock_ret]) | (refine LX_go ?_; simp (config := { maxSteps := 2000000 }) (disch := first | omega | rfl) only [sA, Nat.reduceEqDiff, Nat.reduceAdd, one, reduceCtorEq, if_true, if_false, fa26_5, st24, e7, gp7]))
    exact leave_zero' rfl (((hx2.trans hx6).trans hx7).pt (Nat.le_refl _) gp7 _ |>.hk S)
  · refine EvC.meet (fun st => ∃ tm H' cells', st = ⟨tm, [], H'⟩ ∧ tm.get 1 = some (.string s) ∧ tm.get 2 = some (.pointer (some ⟨H.next, 0, none⟩)) ∧ H'.get H.next = some (.row (six t (some ⟨b, 0, none⟩) c) 26) ∧
      H'.get b = some (.row cells' 26) ∧ t.args.length * 6 ≤ cells'.length ∧ (∀ j, j < t.args.length → ((cells'.drop (j * 6)).take 6).all one = true) ∧ HK S H H') ?_ ?_
    · refine EvC.block (EvC.loop (fun k st => ∃ tm H' i cells', st = ⟨tm, [], H'⟩ ∧ k = t.args.length - i ∧ i ≤ t.args.length ∧ tm.get 1 = some (.string s) ∧ tm.get 2 = some (.pointer (some ⟨H.next, 0, none⟩)) ∧ tm.get 4 = some (.int .i64 (i : Nat)) ∧
        H'.get H.next = some (.row (six t (some ⟨b, 0, none⟩) c) 26) ∧ H'.get b = some (.row cells' 26) ∧ t.args.length * 6 ≤ cells'.length ∧ (∀ j, j < t.args.length → ((cells'.drop (j * 6)).take 6).all one = true) ∧
        (∀ j, i ≤ j → j < t.args.length → (cells'.drop (j * 6)).take 6 = (cells.drop (j * 6)).take 6) ∧ (∀ j n, i ≤ j → j < t.args.length → Si j n → H'.get n = H.get n) ∧ HK S H H') ?_ t.args.length _ ?_)
      · rintro k st ⟨tm, H', i, cells', rfl, rfl, hi, t1, t2, t4, gp', gb', hcl', hone, hsame, hkeep, hk'⟩
        have q1 := row6 gp'
        have hmx : t.args.length ≤ 9223372036854775807 := by omega
        by_cases hlt : i < t.args.length
        · have hu := List.getElem?_eq_getElem hlt
          have hld : H'.load ⟨b, i * 6, none⟩ 6 = some (six t.args[i] (ai i) (ci i)) := by
            unfold Heap.load Heap.cells
            simp only [gb', hsame i (Nat.le_refl _) hlt, hfs.el i _ hu]
            rfl
          have hle : i * 6 + 6 ≤ cells'.length := by have := mul6 hlt; omega
          repeat' (first | refine EvC.seq ?_ | refine EvC.scope ?_ | refine EvC.block ?_ | (refine EvC.skip ?_; try simp only [thenC_normal]) | (refine EvC.exit ?_) | (refine EvC.ret ?_; try simp only [thenC_ret, inBlock_ret]) | (refine EvC.reg ?_; simp (config := { maxSteps := 2000000 }) (disch := first | omega | rfl) only [sA, Nat.reduceEqDiff, if_true, if_false, fa26_5, ld24, ln24, ia24, ld26, cl23, t1, t2, t4, q1, decl hlt, hld]) | (refine EvC.condT ?_ ?_; simp (config := { maxSteps := 2000000 }) (disch := first | omega | rfl) only [sA, Nat.reduceEqDiff, if_true, if_false]; refine EvC_go ?_))
          have hs := args_size hu
          have hfi := (hfs.fl i _ hu).heap (H' := H') (fun n hn _ => hkeep i n (Nat.le_refl _) hlt hn) hw
          have hSn : ∀ n, S n → n < H'.next := fun n hn => Nat.lt_of_lt_of_le (hS n hn) hk'.next
          refine (ih (t := t.args[i]) (by omega) ⟨ai i, ci i, rfl, hfs.bd i _ hu, hfi⟩ (hfew.args _ (List.getElem_mem _)) (fun n hn => hSn n (hfs.sub i n hlt hn)) hk'.wf).mono ?_
          rintro v H5 hk5
          have gp5 := hk5.get hk'.wf gp' (fun hq => by have := hS _ (hfs.sub i _ hlt hq); omega)
          have gb5 := hk5.get hk'.wf gb' (fun hq => hnb i hlt hq)
          have q2 := row6 gp5
          repeat' (first | refine EvC.seq ?_ | refine EvC.scope ?_ | refine EvC.block ?_ | (refine EvC.skip ?_) | (refine EvC.exit ?_) | (refine EvC.ret ?_; try simp only [thenC_ret, inBlock_ret]) | (refine EvC.reg ?_; simp (config := { maxSteps := 2000000 }) (disch := first | omega | rfl) only [sA, Nat.reduceEqDiff, Nat.reduceAdd, Value.cells, one, if_true, if_false, Nat.reduceLeDiff, layC, fa26_5, ld24, ia24, bd26, st26, t1, t2, t4, q2, gb5, hle, wrap_i64]))
          have hmk : (mark6 2 s).length = 6 := rfl
          refine ⟨t.args.length - (i + 1), by omega, _, _, i + 1, Hb.splice cells' (i * 6) (mark6 2 s), rfl, rfl, by omega, (by first | (simp only [Tr.get_put, Nat.reduceEqDiff, if_false, t1]; rfl) | simp only [Tr.get_put, Nat.reduceEqDiff, if_false, t1]), (by first | (simp only [Tr.get_put, Nat.reduceEqDiff, if_false, t2]; rfl) | simp only [Tr.get_put, Nat.reduceEqDiff, if_false, t2]), (by first | (simp only [sA, Nat.reduceEqDiff, if_true, if_false]; rfl) | simp only []), by rw [get_put, if_neg (fun e => by have := hS b hSb; omega)]; exact gp5, by rw [get_put, if_pos rfl], by rw [splice_len (by rw [hmk]; exact hle)]; exact hcl',
            fun j hj => ?_, fun j hij hj => ?_, fun j n hij hj hn => ?_, ?_⟩
          · by_cases hji : j = i
            · subst hji; rw [splice_same hle rfl]; rfl
            · rw [splice_other hle rfl (by rcases Nat.lt_or_gt_of_ne hji with h | h; exact .inl (mul6 h); exact .inr (mul6 h))]; exact hone j hj
          · rw [splice_other hle rfl (.inr (mul6 (by omega)))]; exact hsame j (by omega) hj
          · have hnb' : n ≠ b := fun e => hnb j hj (e ▸ hn)
            rw [get_put, if_neg hnb', hk5.keep n (hSn n (hfs.sub j n hj hn)) (fun hq => by have := hfs.one i j n hlt hj hq hn; omega)]; exact hkeep j n (by omega) hj hn
          · exact (hk'.trans (hk5.sub fun n _ hn => hfs.sub i n hlt hn)).put (.inl hSb) (hk5.wf _ _ gb5) _
        · repeat' (first | refine EvC.seq ?_ | refine EvC.scope ?_ | refine EvC.block ?_ | (refine EvC.skip ?_) | (refine EvC.exit ?_; try simp only [sA, reduceCtorEq, if_true]) | (refine EvC.ret ?_; try simp only [thenC_ret, inBlock_ret]) | (refine EvC.reg ?_; simp (config := { maxSteps := 2000000 }) (disch := first | omega | rfl) only [sA, Nat.reduceEqDiff, if_true, if_false, fa26_5, ld24, ln24, t2, t4, q1, decn hlt]) | (refine EvC.condT ?_ ?_; simp (config := { maxSteps := 2000000 }) (disch := first | omega | rfl) only [sA, Nat.reduceEqDiff, if_true, if_false]; refine EvC_go ?_) | (refine EvC.condF ?_ ?_; simp (config := { maxSteps := 2000000 }) (disch := first | omega | rfl) only [sA, Nat.reduceEqDiff, if_true, if_false]; refine EvC_go ?_))
          exact ⟨_, _, cells', rfl, (by first | (simp only [Tr.get_put, Nat.reduceEqDiff, if_false, t1]; rfl) | simp only [Tr.get_put, Nat.reduceEqDiff, if_false, t1]), (by first | (simp only [Tr.get_put, Nat.reduceEqDiff, if_false, t2]; rfl) | simp only [Tr.get_put, Nat.reduceEqDiff, if_false, t2]), gp', gb', hcl', hone, hk'⟩
      · exact ⟨_, _, 0, cells, rfl, rfl, by omega, (by first | (simp only [Tr.get_put, Nat.reduceEqDiff, reduceCtorEq, if_true, if_false]; rfl) | simp only [Tr.get_put, Nat.reduceEqDiff, reduceCtorEq, if_true, if_false]), (by first | (simp only [Tr.get_put, Nat.reduceEqDiff, reduceCtorEq, if_true, if_false]; rfl) | simp only [Tr.get_put, Nat.reduceEqDiff, reduceCtorEq, if_true, if_false]), (by first | (simp only [sA, Nat.reduceEqDiff, reduceCtorEq, if_true, if_false]; rfl) | simp only []), gp, hx2.get hw gb, hcl, fun j hj => by rw [hfs.el j _ (List.getElem?_eq_getElem hj)]; exact six_ones, fun _ _ _ => rfl, fun j n _ hj hn => hx2.keep n (hS n (hfs.sub j n hj hn)), hx2.hk S⟩
    · rintro st ⟨tm, H', cells', rfl, t1, t2, gp', gb', hcl', hone, hk'⟩
      have q1 := row6 gp'
      repeat' (first | refine EvC.seq ?_ | refine EvC.scope ?_ | refine EvC.block ?_ | (refine EvC.skip ?_) | (refine EvC.exit ?_) | (refine EvC.ret ?_; try simp only [thenC_ret, inBlock_ret]) | (refine EvC.reg ?_; simp (config := { maxSteps := 2000000 }) (disch := first | omega | rfl) only [sA, Nat.reduceEqDiff, Nat.reduceAdd, Value.cells, one, if_true, if_false, Nat.reduceLeDiff, layC, fa26_5, ld24, bd26, bs24_2, t1, t2, q1]))
      obtain ⟨H6, e6, hx6, g6, hn6, hw6⟩ := new1 hk'.wf (.row (mark6 0 s ++ mark6 0 s) 26)
      have e6' := e6
      simp only [mark6, List.cons_append, List.nil_append] at e6'
      simp only [e6']
      have l6 : H6.load ⟨H'.next, 0, none⟩ (2 * 6) = some (mark6 0 s ++ mark6 0 s) := by unfold Heap.load Heap.cells; simp only [g6]; rfl
      have gb6 := hx6.get hk'.wf gb'
      have e7 : dAp Tryd.prog #[24, 24] (.slice (some ⟨b, 0, none⟩) t.args.length c) (.slice (some ⟨H'.next, 0, none⟩) 2 2) H6 = _ :=
        dAp_row ean (by omega) (by unfold most; omega) l6 rfl gb6 hcl' (ones_chunks _ hcl' hone)
      have hb6 : H.next ≠ b := fun e => by have := hS b hSb; omega
      have gp6 := hx6.get hk'.wf gp'
      have hk8 : HK S H ((H6.put b none).new (some (.row (cells'.take (t.args.length * 6) ++ (mark6 0 s ++ mark6 0 s)) 26))) := ((hk'.trans (hx6.hk S)).put (.inl hSb) (hw6 _ _ gb6) none).new _
      obtain ⟨H8, e8⟩ : ∃ H8, (H6.put b none).new (some (.row (cells'.take (t.args.length * 6) ++ (mark6 0 s ++ mark6 0 s)) 26)) = H8 := ⟨_, rfl⟩
      have gp8 : H8.get H.next = some (.row (six t (some ⟨b, 0, none⟩) c) 26) := by
        rw [← e8, gt_new_lt (by rw [next_put]; exact hw6 _ _ gp6), gt_put_ne hb6]; exact gp6
      rw [e8] at e7 hk8
      repeat' (first | refine EvC.seq ?_ | refine EvC.scope ?_ | refine EvC.block ?_ | (refine EvC.skip ?_) | (refine EvC.exit ?_) | (refine EvC.ret ?_; try simp only [thenC_ret, inBlock_ret]) | (refine LX_go ?_; simp (config := { maxSteps := 2000000 }) (disch := first | omega | rfl) only [sA, Nat.reduceEqDiff, Nat.reduceAdd, one, if_true, if_false, fa26_5, st24, t2, e7, gp8]))
      exact leave_zero' rfl (hk8.put (.inr (Nat.le_refl _)) (hk8.wf _ _ gp8) _)
end Go.Proofs.YtlllbkjiadcloaaDoor.hb
end

-- V4
section
/- Lists of trees: the same; told twice, the first written over. -/
namespace Go.Hb
open Go Go.RowKit
/-- a slice to which more may be appended; all else but S stays as it is -/
def ApV (S : Nat → Prop) (H0 H : Heap) (T : TypeId) (v : Value) (n : Nat) : Prop :=
  (n = 0 ∧ v = .slice none 0 0) ∨ ∃ b cells c, v = .slice (some ⟨b, 0, none⟩) n c ∧ H.get b = some (.row cells T) ∧ n * 6 ≤ cells.length ∧ (cells.take (n * 6)).all one = true ∧ (S b ∨ H0.next ≤ b)
theorem ApV.push {P : Program} {T t : TypeId} (hp : apOk P t T 6) {S : Nat → Prop} {H0 H : Heap} {v : Value} {n c1 : Nat} {ad : Addr} {cs : List Value} (h : ApV S H0 H T v n) (hk : HK S H0 H) (hl : H.load ad (1 * 6) = some cs) (hc : cs.all one = true) (hlc : cs.length = 6) (hm : n + 1 ≤ most) :
    ∃ H2 v2, dAp P #[t, t] v (.slice (some ad) 1 c1) H = some (.val v2 H2) ∧ ApV S H0 H2 T v2 (n + 1) ∧ HK S H0 H2 := by
  rcases h with ⟨rfl, rfl⟩ | ⟨b, cells, c, rfl, hg, hn, ho, hb⟩
  · refine ⟨_, _, dAp_new hp (by omega) hm hl hc, .inr ⟨H.next, cs, 1, rfl, gt_new_eq, by omega, ?_, .inr hk.next⟩, hk.new _⟩
    rw [List.take_of_length_le (by omega)]; exact hc
  · refine ⟨_, _, dAp_row hp (by omega) hm hl hc hg hn ho, .inr ⟨H.next, _, _, rfl, gt_new_eq, ?_, ?_, .inr hk.next⟩, (hk.put hb (hk.wf _ _ hg) none).new _⟩
    · simp; omega
    · rw [List.take_of_length_le (by simp; omega), List.all_append, ho, hc]; rfl
end Go.Hb
namespace Go.Proofs.YtlllbkjiadcloaaDoor.hb
open Go Go.RowKit Go.Hb
variable {ok : Ok}
set_option maxRecDepth 10000
attribute [local irreducible] LX LG EL STG SOP SGO SGD SAL SRD SEF SEG SLK SCK ES
-- @veq
noncomputable def eqL (l l' : List Tm) : Bool := @decide (l = l') (Classical.propDecidable _)
theorem eqL_t {t t' : List Tm} (h : t = t') : eqL t t' = true := by unfold eqL; exact @decide_eq_true _ (Classical.propDecidable _) h
theorem eqL_f {t t' : List Tm} (h : t ≠ t') : eqL t t' = false := by unfold eqL; exact @decide_eq_false _ (Classical.propDecidable _) h
-- hornbeamref02.SameList
set_option maxHeartbeats 4000000 in
theorem sameList_ev {l l' : List Tm} {a a' : Option Addr} {c c' : Nat} {cells cells' : Nat → List Value} {H : Heap} (rl : RepL H l a c cells) (rl' : RepL H l' a' c' cells') (hw : H.wf) :
    EvF Tryd.prog okT 42 [.slice a l.length c, .slice a' l'.length c'] H fun v H' => v = .bool (eqL l l') ∧ HX H H' := by
  have hm := rl.max
  refine EvF.enter rfl Tryd.func42 (by decide) rfl ?_
  by_cases k6 : (l.length : Int) = l'.length
  rotate_left
  · repeat' (first | refine EvC.seq ?_ | refine EvC.scope ?_ | refine EvC.block ?_ | (refine EvC.skip ?_) | (refine EvC.exit ?_) | (refine EvC.ret ?_; try simp only [thenC_ret, inBlock_ret]) | (refine EvC.reg ?_; simp (config := { maxSteps := 2000000 }) (disch := first | omega | rfl) only [sA, initTm, Nat.reduceEqDiff, reduceCtorEq, if_true, if_false, ln24, ine_t k6]) | (refine EvC.condT ?_ ?_; simp (config := { maxSteps := 2000000 }) (disch := first | omega | rfl) only [sA, Nat.reduceEqDiff, reduceCtorEq, if_true, if_false]; refine EvC_go ?_))
    exact leave_one rfl (by first | (simp only [sA, Nat.reduceEqDiff, reduceCtorEq, if_true, if_false]; rfl) | simp only []) ⟨by rw [eqL_f (fun h => k6 (by rw [h]))], HX.refl hw⟩
  have hlen : l.length = l'.length := by omega
  repeat' (first | refine EvC.seq ?_ | refine EvC.scope ?_ | refine EvC.block ?_ | (refine EvC.skip ?_; try simp only [thenC_normal]) | (refine EvC.exit ?_) | (refine EvC.ret ?_; try simp only [thenC_ret, inBlock_ret]) | (refine EvC.reg ?_; simp (config := { maxSteps := 2000000 }) (disch := first | omega | rfl) only [sA, initTm, Nat.reduceEqDiff, reduceCtorEq, if_true, if_false, ln24, ine_f k6]) | (refine EvC.condT ?_ ?_; simp (config := { maxSteps := 2000000 }) (disch := first | omega | rfl) only [sA, Nat.reduceEqDiff, reduceCtorEq, if_true, if_false]; refine EvC_go ?_) | (refine EvC.condF ?_ ?_; simp (config := { maxSteps := 2000000 }) (disch := first | omega | rfl) only [sA, Nat.reduceEqDiff, reduceCtorEq, if_true, if_false]; refine EvC_go ?_))
  refine EvC.loop (fun k st => ∃ tm H' i, st = ⟨tm, [], H'⟩ ∧ k = l.length - i ∧ i ≤ l.length ∧ (∀ j : Nat, j < i → l[j]? = l'[j]?) ∧
      tm.get 0 = some (.slice a l.length c) ∧ tm.get 1 = some (.slice a' l'.length c') ∧ tm.get 5 = some (.int .i64 (i : Nat)) ∧ HX H H') ?_ l.length _ ?_
  · rintro k st ⟨tm, H', i, rfl, rfl, hi, hc, t0, t1, t5, hx'⟩
    by_cases hlt : i < l.length
    · have hlt' : i < l'.length := by omega
      obtain ⟨b, o, a1, c1, rfl, hld, hr1⟩ := rl.el hlt
      obtain ⟨b', o', a2, c2, rfl, hld', hr2⟩ := rl'.el hlt'
      have hld1 := hx'.load hw hld
      have hld2 := hx'.load hw hld'
      repeat' (first | refine EvC.seq ?_ | refine EvC.scope ?_ | refine EvC.block ?_ | (refine EvC.skip ?_; try simp only [thenC_normal]) | (refine EvC.exit ?_) | (refine EvC.ret ?_; try simp only [thenC_ret, inBlock_ret]) | (refine EvC.reg ?_; simp (config := { maxSteps := 2000000 }) (disch := first | omega | rfl) only [sA, Nat.reduceEqDiff, reduceCtorEq, if_true, if_false, ln24, t0, t5, decl hlt]) | (refine EvC.drw [([(0, 0), (1, 0), (2, 0), (3, 0), (4, 0), (5, 0), (6, 0), (7, 0)], some 8), ([(9, 1)], none)] ?_ ?_; kernel_rfl; simp (config := { maxSteps := 2000000 }) (disch := first | omega | rfl) only [sD, sA, Nat.reduceEqDiff, Nat.reduceAdd, reduceCtorEq, if_true, if_false, ia24, ld26, cl20, t0, t1, t5, hld1, hld2, isAlloc, isRead, reduceCtorEq]) | (refine EvC.condT ?_ ?_; simp (config := { maxSteps := 2000000 }) (disch := first | omega | rfl) only [sA, Nat.reduceEqDiff, if_true, if_false]; refine EvC_go ?_))
      have hb := hx'.bump 10
      refine (same_tells (hr1.mono hb hw) (hr2.mono hb hw) hb.wf).mono ?_
      rintro v H4 ⟨rfl, hx4⟩
      by_cases he : l[i] = l'[i]
      · repeat' (first | refine EvC.seq ?_ | refine EvC.scope ?_ | refine EvC.block ?_ | (refine EvC.skip ?_; try simp only [sA]) | (refine EvC.exit ?_) | (refine EvC.ret ?_; try simp only [thenC_ret, inBlock_ret]) | (refine EvC.reg ?_; simp (config := { maxSteps := 2000000 }) (disch := first | omega | rfl) only [sA, Nat.reduceEqDiff, if_true, if_false, Bool.not_true, t5, wrap_i64]) | (refine SCK_go ?_; simp (config := { maxSteps := 2000000 }) (disch := first | omega | rfl) only [sD, sA, Nat.reduceEqDiff, if_true, if_false, eqT_t he, isAlloc, isRead]) | (refine EvC.condT ?_ ?_; simp (config := { maxSteps := 2000000 }) (disch := first | omega | rfl) only [sA, Nat.reduceEqDiff, if_true, if_false]; refine EvC_go ?_) | (refine EvC.condF ?_ ?_; simp (config := { maxSteps := 2000000 }) (disch := first | omega | rfl) only [sA, Nat.reduceEqDiff, if_true, if_false]; refine EvC_go ?_))
        refine ⟨l.length - (i + 1), by omega, _, _, i + 1, rfl, rfl, by omega, fun j hj => ?_, (by first | (simp only [Tr.get_put, reduceCtorEq, if_false, t0]; rfl) | simp only [Tr.get_put, reduceCtorEq, if_false, t0]), (by first | (simp only [Tr.get_put, Nat.reduceEqDiff, if_false, t1]; rfl) | simp only [Tr.get_put, Nat.reduceEqDiff, if_false, t1]), (by first | (simp only [sA, Nat.reduceEqDiff, if_true, if_false]; rfl) | simp only []), hb.trans hx4⟩
        by_cases hji : j = i
        · subst hji; rw [List.getElem?_eq_getElem hlt, List.getElem?_eq_getElem hlt', he]
        · exact hc j (by omega)
      · repeat' (first | refine EvC.seq ?_ | refine EvC.scope ?_ | refine EvC.block ?_ | (refine EvC.skip ?_) | (refine EvC.exit ?_) | (refine EvC.ret ?_; try simp only [thenC_ret, inBlock_ret]) | (refine EvC.reg ?_; simp (config := { maxSteps := 2000000 }) (disch := first | omega | rfl) only [sA, Nat.reduceEqDiff, if_true, if_false, Bool.not_false]) | (refine SCK_go ?_; simp (config := { maxSteps := 2000000 }) (disch := first | omega | rfl) only [sD, sA, Nat.reduceEqDiff, if_true, if_false, eqT_f he, isAlloc, isRead]) | (refine EvC.condT ?_ ?_; simp (config := { maxSteps := 2000000 }) (disch := first | omega | rfl) only [sA, Nat.reduceEqDiff, if_true, if_false]; refine EvC_go ?_))
        refine leave_one rfl (by first | (simp only [sA, Nat.reduceEqDiff, if_true, if_false]; rfl) | simp only []) ⟨?_, hb.trans hx4⟩
        rw [eqL_f]
        rintro rfl
        exact he rfl
    · repeat' (first | refine EvC.seq ?_ | refine EvC.scope ?_ | refine EvC.block ?_ | (refine EvC.skip ?_) | (refine EvC.exit ?_; try simp only [sA, if_true]) | (refine EvC.ret ?_; try simp only [thenC_ret, inBlock_ret]) | (refine EvC.reg ?_; simp (config := { maxSteps := 2000000 }) (disch := first | omega | rfl) only [sA, Nat.reduceEqDiff, reduceCtorEq, if_true, if_false, ln24, t0, t5, decn hlt]) | (refine EvC.condT ?_ ?_; simp (config := { maxSteps := 2000000 }) (disch := first | omega | rfl) only [sA, Nat.reduceEqDiff, if_true, if_false]; refine EvC_go ?_) | (refine EvC.condF ?_ ?_; simp (config := { maxSteps := 2000000 }) (disch := first | omega | rfl) only [sA, Nat.reduceEqDiff, if_true, if_false]; refine EvC_go ?_))
      refine leave_one rfl (by first | (simp only [sA, Nat.reduceEqDiff, if_true, if_false]; rfl) | simp only []) ⟨?_, hx'⟩
      rw [eqL_t]
      refine List.ext_getElem? fun j => ?_
      by_cases hj : j < i
      · exact hc j hj
      · rw [List.getElem?_eq_none (by omega), List.getElem?_eq_none (by omega)]
  · exact ⟨_, _, 0, rfl, rfl, by omega, by omega, (by first | (simp only [Tr.get_put, reduceCtorEq, if_true, if_false]; rfl) | simp only [Tr.get_put, reduceCtorEq, if_true, if_false]), (by first | (simp only [Tr.get_put, Nat.reduceEqDiff, reduceCtorEq, if_true, if_false]; rfl) | simp only [Tr.get_put, Nat.reduceEqDiff, reduceCtorEq, if_true, if_false]), (by first | (simp only [sA, Nat.reduceEqDiff, reduceCtorEq, if_true, if_false]; rfl) | simp only []), HX.refl hw⟩

-- hornbeamlaw02.again
set_option maxHeartbeats 4000000 in
theorem again_ev {l l' l2 : List Tm} {a a' a2 : Option Addr} {c c' c2 : Nat} {S : Nat → Prop} {cells' cells2 : Nat → List Value} {H : Heap} (hf : FL H 26 S l a c) (rl' : RepL H l' a' c' cells') (rl2 : RepL H l2 a2 c2 cells2)
    (hS : ∀ n, S n → n < H.next) (hst : ∀ G, HK S H G → RepL G l' a' c' cells' ∧ RepL G l2 a2 c2 cells2) (hfew : ∀ t ∈ l, Few 1000000 t) (hlen : l.length ≤ 1000000) (hw : H.wf) :
    EvF Tryd.prog okT 26 [.slice a l.length c, .slice a' l'.length c', .slice a2 l2.length c2] H fun v H' => v = .bool (eqL l l2 && eqL l' l2) ∧ HK S H H' := by
  obtain ⟨cells0, rl⟩ := hf.rep
  have ean : apOk Tryd.prog 24 26 6 := ap24
  refine EvF.enter rfl Tryd.func26 (by decide) rfl ?_
  repeat' (first | refine EvC.seq ?_ | refine EvC.scope ?_ | refine EvC.block ?_ | (refine EvC.skip ?_) | (refine EvC.exit ?_) | (refine EvC.ret ?_; try simp only [thenC_ret, inBlock_ret]) | (refine EvC.reg ?_; simp (config := { maxSteps := 2000000 }) (disch := first | omega | rfl) only [sA, initTm, Nat.reduceEqDiff, Nat.reduceAdd, reduceCtorEq, if_true, if_false, cl42]))
  refine (sameList_ev rl rl2 hw).mono ?_
  rintro v H1 ⟨rfl, hx1⟩
  have hf1 := hf.keep hx1 hw
  try simp (config := { maxSteps := 2000000 }) (disch := first | omega | rfl) only []
  (repeat refine EvC.seq ?_); refine EvC.reg ?_; simp (config := { maxSteps := 2000000 }) (disch := first | omega | rfl) only [sA]
  refine EvC.meet (fun st => ∃ tm H' v, st = ⟨tm, [], H'⟩ ∧ tm.get 0 = some v ∧ tm.get 1 = some (.slice a' l'.length c') ∧ tm.get 2 = some (.slice a2 l2.length c2) ∧ tm.get 7 = some (.bool (eqL l l2)) ∧
    ApV S H H' 26 v l.length ∧ HK S H H') ?_ ?_
  · rcases hf1.inv with ⟨he, rfl, rfl⟩ | ⟨b, cells, Si, ai, ci, rfl, hlc, hcm, gb, hcl, hSb, hnb, hfs⟩
    · have he0 : l.length = 0 := by rw [he]; rfl
      have hd' : decide ((0 : Int) < (l.length : Int)) = false := decide_eq_false (by omega)
      refine EvC.block (EvC.loop1 ?_)
      repeat' (first | refine EvC.seq ?_ | refine EvC.scope ?_ | refine EvC.block ?_ | (refine EvC.skip ?_) | (refine EvC.exit ?_; try simp only [sA, reduceCtorEq, if_true]) | (refine EvC.ret ?_; try simp only [thenC_ret, inBlock_ret]) | (refine EvC.reg ?_; simp (config := { maxSteps := 2000000 }) (disch := first | omega | rfl) only [sA, Nat.reduceEqDiff, reduceCtorEq, if_true, if_false, ln24, hd']) | (refine EvC.condT ?_ ?_; simp (config := { maxSteps := 2000000 }) (disch := first | omega | rfl) only [sA, Nat.reduceEqDiff, reduceCtorEq, if_true, if_false]; refine EvC_go ?_) | (refine EvC.condF ?_ ?_; simp (config := { maxSteps := 2000000 }) (disch := first | omega | rfl) only [sA, Nat.reduceEqDiff, reduceCtorEq, if_true, if_false]; refine EvC_go ?_))
      exact ⟨_, _, _, rfl, (by first | (simp only [sA, reduceCtorEq, if_true, if_false]; rfl) | simp only []), (by first | (simp only [Tr.get_put, Nat.reduceEqDiff, reduceCtorEq, if_true, if_false]; rfl) | simp only [Tr.get_put, Nat.reduceEqDiff, reduceCtorEq, if_true, if_false]), (by first | (simp only [Tr.get_put, Nat.reduceEqDiff, reduceCtorEq, if_true, if_false]; rfl) | simp only [Tr.get_put, Nat.reduceEqDiff, reduceCtorEq, if_true, if_false]), (by first | (simp only [Tr.get_put, Nat.reduceEqDiff, reduceCtorEq, if_true, if_false]; rfl) | simp only [Tr.get_put, Nat.reduceEqDiff, reduceCtorEq, if_true, if_false]), .inl ⟨he0, by rw [he0]⟩, hx1.hk S⟩
    · refine EvC.block (EvC.loop (fun k st => ∃ tm H' i cells', st = ⟨tm, [], H'⟩ ∧ k = l.length - i ∧ i ≤ l.length ∧ tm.get 0 = some (.slice (some ⟨b, 0, none⟩) l.length c) ∧ tm.get 1 = some (.slice a' l'.length c') ∧ tm.get 2 = some (.slice a2 l2.length c2) ∧ tm.get 7 = some (.bool (eqL l l2)) ∧ tm.get 8 = some (.int .i64 (i : Nat)) ∧
        H'.get b = some (.row cells' 26) ∧ l.length * 6 ≤ cells'.length ∧ (∀ j, j < l.length → ((cells'.drop (j * 6)).take 6).all one = true) ∧
        (∀ j, i ≤ j → j < l.length → (cells'.drop (j * 6)).take 6 = (cells.drop (j * 6)).take 6) ∧ (∀ j n, i ≤ j → j < l.length → Si j n → H'.get n = H1.get n) ∧ HK S H H') ?_ l.length _ ?_)
      · rintro k st ⟨tm, H', i, cells', rfl, rfl, hi, t0, t1, t2, t7, t8, gb', hcl', hone, hsame, hkeep, hk'⟩
        by_cases hlt : i < l.length
        · have hu := List.getElem?_eq_getElem hlt
          have hld : H'.load ⟨b, i * 6, none⟩ 6 = some (six l[i] (ai i) (ci i)) := by
            unfold Heap.load Heap.cells
            simp only [gb', hsame i (Nat.le_refl _) hlt, hfs.el i _ hu]
            rfl
          have hle : i * 6 + 6 ≤ cells'.length := by have := mul6 hlt; omega
          have hmine : (⟨#[109, 105, 110, 101]⟩ : ByteArray).size ≤ maxLen := by simp [maxLen, ByteArray.size]
          repeat' (first | refine EvC.seq ?_ | refine EvC.scope ?_ | refine EvC.block ?_ | (refine EvC.skip ?_; try simp only [thenC_normal]) | (refine EvC.exit ?_) | (refine EvC.ret ?_; try simp only [thenC_ret, inBlock_ret]) | (refine EvC.reg ?_; simp (config := { maxSteps := 2000000 }) (disch := first | omega | rfl) only [sA, Nat.reduceEqDiff, reduceCtorEq, if_true, if_false, ln24, ia24, ld26, cl23, t0, t8, decl hlt, hld]) | (refine EvC.condT ?_ ?_; simp (config := { maxSteps := 2000000 }) (disch := first | omega | rfl) only [sA, Nat.reduceEqDiff, if_true, if_false]; refine EvC_go ?_))
          have hfi := (hfs.fl i _ hu).heap (H' := H') (fun n hn _ => hkeep i n (Nat.le_refl _) hlt hn) hx1.wf
          have hSn : ∀ n, S n → n < H'.next := fun n hn => Nat.lt_of_lt_of_le (hS n hn) hk'.next
          refine (marked_ev (Nat.lt_succ_self _) ⟨ai i, ci i, rfl, hfs.bd i _ hu, hfi⟩ (hfew _ (List.getElem_mem _)) (fun n hn => hSn n (hfs.sub i n hlt hn)) hk'.wf).mono ?_
          rintro v H5 hk5
          have gb5 := hk5.get hk'.wf gb' (fun hq => hnb i hlt hq)
          have hmx : l.length ≤ 9223372036854775807 := by omega
          repeat' (first | refine EvC.seq ?_ | refine EvC.scope ?_ | refine EvC.block ?_ | (refine EvC.skip ?_) | (refine EvC.exit ?_) | (refine EvC.ret ?_; try simp only [thenC_ret, inBlock_ret]) | (refine EvC.reg ?_; simp (config := { maxSteps := 2000000 }) (disch := first | omega | rfl) only [sA, Nat.reduceEqDiff, Nat.reduceAdd, Value.cells, one, reduceCtorEq, if_true, if_false, Nat.reduceLeDiff, layC, ia24, bd26, st26, t0, t8, gb5, hle, wrap_i64]))
          have hmk : (mark6 (-1) ByteArray.empty).length = 6 := rfl
          refine ⟨l.length - (i + 1), by omega, _, _, i + 1, Hb.splice cells' (i * 6) (mark6 (-1) ByteArray.empty), rfl, rfl, by omega, (by first | (simp only [Tr.get_put, reduceCtorEq, if_false, t0]; rfl) | simp only [Tr.get_put, reduceCtorEq, if_false, t0]), (by first | (simp only [Tr.get_put, Nat.reduceEqDiff, if_false, t1]; rfl) | simp only [Tr.get_put, Nat.reduceEqDiff, if_false, t1]), (by first | (simp only [Tr.get_put, Nat.reduceEqDiff, if_false, t2]; rfl) | simp only [Tr.get_put, Nat.reduceEqDiff, if_false, t2]), (by first | (simp only [Tr.get_put, Nat.reduceEqDiff, if_false, t7]; rfl) | simp only [Tr.get_put, Nat.reduceEqDiff, if_false, t7]), (by first | (simp only [sA, Nat.reduceEqDiff, if_true, if_false]; rfl) | simp only []), by rw [get_put, if_pos rfl], by rw [splice_len (by rw [hmk]; exact hle)]; exact hcl',
            fun j hj => ?_, fun j hij hj => ?_, fun j n hij hj hn => ?_, ?_⟩
          · by_cases hji : j = i
            · subst hji; rw [splice_same hle rfl]; rfl
            · rw [splice_other hle rfl (by rcases Nat.lt_or_gt_of_ne hji with h | h; exact .inl (mul6 h); exact .inr (mul6 h))]; exact hone j hj
          · rw [splice_other hle rfl (.inr (mul6 (by omega)))]; exact hsame j (by omega) hj
          · have hnb' : n ≠ b := fun e => hnb j hj (e ▸ hn)
            rw [get_put, if_neg hnb', hk5.keep n (hSn n (hfs.sub j n hj hn)) (fun hq => by have := hfs.one i j n hlt hj hq hn; omega)]; exact hkeep j n (by omega) hj hn
          · exact (hk'.trans (hk5.sub fun n _ hn => hfs.sub i n hlt hn)).put (.inl hSb) (hk5.wf _ _ gb5) _
        · repeat' (first | refine EvC.seq ?_ | refine EvC.scope ?_ | refine EvC.block ?_ | (refine EvC.skip ?_) | (refine EvC.exit ?_; try simp only [sA, reduceCtorEq, if_true]) | (refine EvC.ret ?_; try simp only [thenC_ret, inBlock_ret]) | (refine EvC.reg ?_; simp (config := { maxSteps := 2000000 }) (disch := first | omega | rfl) only [sA, Nat.reduceEqDiff, reduceCtorEq, if_true, if_false, ln24, t0, t8, decn hlt]) | (refine EvC.condT ?_ ?_; simp (config := { maxSteps := 2000000 }) (disch := first | omega | rfl) only [sA, Nat.reduceEqDiff, if_true, if_false]; refine EvC_go ?_) | (refine EvC.condF ?_ ?_; simp (config := { maxSteps := 2000000 }) (disch := first | omega | rfl) only [sA, Nat.reduceEqDiff, if_true, if_false]; refine EvC_go ?_))
          exact ⟨_, _, _, rfl, (by first | (simp only [Tr.get_put, reduceCtorEq, if_false, t0]; rfl) | simp only [Tr.get_put, reduceCtorEq, if_false, t0]), (by first | (simp only [Tr.get_put, Nat.reduceEqDiff, if_false, t1]; rfl) | simp only [Tr.get_put, Nat.reduceEqDiff, if_false, t1]), (by first | (simp only [Tr.get_put, Nat.reduceEqDiff, if_false, t2]; rfl) | simp only [Tr.get_put, Nat.reduceEqDiff, if_false, t2]), (by first | (simp only [Tr.get_put, Nat.reduceEqDiff, if_false, t7]; rfl) | simp only [Tr.get_put, Nat.reduceEqDiff, if_false, t7]), .inr ⟨b, cells', c, rfl, gb', hcl', ones_chunks _ hcl' hone, .inl hSb⟩, hk'⟩
      · exact ⟨_, _, 0, cells, rfl, rfl, by omega, (by first | (simp only [Tr.get_put, reduceCtorEq, if_true, if_false]; rfl) | simp only [Tr.get_put, reduceCtorEq, if_true, if_false]), (by first | (simp only [Tr.get_put, Nat.reduceEqDiff, reduceCtorEq, if_true, if_false]; rfl) | simp only [Tr.get_put, Nat.reduceEqDiff, reduceCtorEq, if_true, if_false]), (by first | (simp only [Tr.get_put, Nat.reduceEqDiff, reduceCtorEq, if_true, if_false]; rfl) | simp only [Tr.get_put, Nat.reduceEqDiff, reduceCtorEq, if_true, if_false]), (by first | (simp only [Tr.get_put, Nat.reduceEqDiff, reduceCtorEq, if_true, if_false]; rfl) | simp only [Tr.get_put, Nat.reduceEqDiff, reduceCtorEq, if_true, if_false]), (by first | (simp only [sA, Nat.reduceEqDiff, reduceCtorEq, if_true, if_false]; rfl) | simp only []), gb, hcl, fun j hj => by rw [hfs.el j _ (List.getElem?_eq_getElem hj)]; exact six_ones, fun _ _ _ => rfl, fun j n _ hj hn => rfl, hx1.hk S⟩
  · rintro st ⟨tm, H', v, rfl, t0, t1, t2, t7, hap, hk'⟩
    (repeat refine EvC.seq ?_); refine EvC.reg ?_; simp (config := { maxSteps := 2000000 }) (disch := first | omega | rfl) only [sA]
    refine EvC.meet (fun st => ∃ tm H', st = ⟨tm, [], H'⟩ ∧ tm.get 1 = some (.slice a' l'.length c') ∧ tm.get 2 = some (.slice a2 l2.length c2) ∧ tm.get 7 = some (.bool (eqL l l2)) ∧ HK S H H') ?_ ?_
    · refine EvC.block (EvC.loop (fun k st => ∃ tm H' i v, st = ⟨tm, [], H'⟩ ∧ k = 5 - i ∧ i ≤ 5 ∧ tm.get 0 = some v ∧ tm.get 1 = some (.slice a' l'.length c') ∧ tm.get 2 = some (.slice a2 l2.length c2) ∧ tm.get 7 = some (.bool (eqL l l2)) ∧ tm.get 9 = some (.int .i64 (i : Nat)) ∧
        ApV S H H' 26 v (l.length + i) ∧ HK S H H') ?_ 5 _ ?_)
      · rintro k st ⟨tm, H', i, v, rfl, rfl, hi, t0, t1, t2, t7, t9, hap, hk'⟩
        by_cases hlt : i < 5
        · have hd : decide ((i : Int) < 5) = true := decide_eq_true (by omega)
          repeat' (first | refine EvC.seq ?_ | refine EvC.scope ?_ | refine EvC.block ?_ | (refine EvC.skip ?_; try simp only [thenC_normal]) | (refine EvC.exit ?_) | (refine EvC.ret ?_; try simp only [thenC_ret, inBlock_ret]) | (refine EvC.reg ?_; simp (config := { maxSteps := 2000000 }) (disch := first | omega | rfl) only [sA, Nat.reduceEqDiff, Nat.reduceAdd, Value.cells, one, reduceCtorEq, if_true, if_false, Nat.reduceLeDiff, layC, bd26, bs24_1, t0, t9, hd]) | (refine EvC.condT ?_ ?_; simp (config := { maxSteps := 2000000 }) (disch := first | omega | rfl) only [sA, Nat.reduceEqDiff, if_true, if_false]; refine EvC_go ?_))
          obtain ⟨H6, e6, hx6, g6, hn6, hw6⟩ := new1 hk'.wf (.row (mark6 (-2) ByteArray.empty) 26)
          simp only [e6]
          have hap6 : ApV S H H6 26 v (l.length + i) := by
            rcases hap with h | ⟨b, cells, c, h1, h2, h3⟩
            · exact .inl h
            · exact .inr ⟨b, cells, c, h1, hx6.get hk'.wf h2, h3⟩
          obtain ⟨H7, v7, e7, hap7, hk7⟩ := ApV.push (c1 := 1) ean hap6 (hk'.trans (hx6.hk S)) (row6 g6).2.2.2.2.2.2 rfl rfl (by unfold most; omega)
          repeat' (first | refine EvC.seq ?_ | refine EvC.scope ?_ | refine EvC.block ?_ | (refine EvC.skip ?_) | (refine EvC.exit ?_) | (refine EvC.ret ?_; try simp only [thenC_ret, inBlock_ret]) | (refine EvC.reg ?_; simp (config := { maxSteps := 2000000 }) (disch := first | omega | rfl) only [sA, Nat.reduceEqDiff, reduceCtorEq, if_true, if_false, t9, wrap_i64]) | (refine LX_go ?_; simp (config := { maxSteps := 2000000 }) (disch := first | omega | rfl) only [sA, Nat.reduceEqDiff, if_true, if_false, e7]))
          exact ⟨5 - (i + 1), by omega, _, _, i + 1, v7, rfl, rfl, by omega, (by first | (simp only [Tr.get_put, reduceCtorEq, if_true, if_false]; rfl) | simp only [Tr.get_put, reduceCtorEq, if_true, if_false]), (by first | (simp only [Tr.get_put, Nat.reduceEqDiff, reduceCtorEq, if_false, t1]; rfl) | simp only [Tr.get_put, Nat.reduceEqDiff, reduceCtorEq, if_false, t1]), (by first | (simp only [Tr.get_put, Nat.reduceEqDiff, reduceCtorEq, if_false, t2]; rfl) | simp only [Tr.get_put, Nat.reduceEqDiff, reduceCtorEq, if_false, t2]), (by first | (simp only [Tr.get_put, Nat.reduceEqDiff, reduceCtorEq, if_false, t7]; rfl) | simp only [Tr.get_put, Nat.reduceEqDiff, reduceCtorEq, if_false, t7]), (by first | (simp only [sA, Nat.reduceEqDiff, reduceCtorEq, if_true, if_false]; rfl) | simp only []), by rw [← Nat.add_assoc]; exact hap7, hk7⟩
        · have hd : decide ((i : Int) < 5) = false := decide_eq_false (by omega)
          repeat' (first | refine EvC.seq ?_ | refine EvC.scope ?_ | refine EvC.block ?_ | (refine EvC.skip ?_) | (refine EvC.exit ?_; try simp only [sA, reduceCtorEq, if_true]) | (refine EvC.ret ?_; try simp only [thenC_ret, inBlock_ret]) | (refine EvC.reg ?_; simp (config := { maxSteps := 2000000 }) (disch := first | omega | rfl) only [sA, if_true, t9, hd]) | (refine EvC.condT ?_ ?_; simp (config := { maxSteps := 2000000 }) (disch := first | omega | rfl) only [sA, Nat.reduceEqDiff, if_true, if_false]; refine EvC_go ?_) | (refine EvC.condF ?_ ?_; simp (config := { maxSteps := 2000000 }) (disch := first | omega | rfl) only [sA, Nat.reduceEqDiff, if_true, if_false]; refine EvC_go ?_))
          exact ⟨_, _, rfl, (by first | (simp only [Tr.get_put, Nat.reduceEqDiff, if_false, t1]; rfl) | simp only [Tr.get_put, Nat.reduceEqDiff, if_false, t1]), (by first | (simp only [Tr.get_put, Nat.reduceEqDiff, if_false, t2]; rfl) | simp only [Tr.get_put, Nat.reduceEqDiff, if_false, t2]), (by first | (simp only [Tr.get_put, Nat.reduceEqDiff, if_false, t7]; rfl) | simp only [Tr.get_put, Nat.reduceEqDiff, if_false, t7]), hk'⟩
      · exact ⟨_, _, 0, v, rfl, rfl, by omega, (by first | (simp only [Tr.get_put, reduceCtorEq, if_false, t0]; rfl) | simp only [Tr.get_put, reduceCtorEq, if_false, t0]), (by first | (simp only [Tr.get_put, Nat.reduceEqDiff, if_false, t1]; rfl) | simp only [Tr.get_put, Nat.reduceEqDiff, if_false, t1]), (by first | (simp only [Tr.get_put, Nat.reduceEqDiff, if_false, t2]; rfl) | simp only [Tr.get_put, Nat.reduceEqDiff, if_false, t2]), (by first | (simp only [Tr.get_put, Nat.reduceEqDiff, if_false, t7]; rfl) | simp only [Tr.get_put, Nat.reduceEqDiff, if_false, t7]), (by first | (simp only [sA, if_true]; rfl) | simp only []), hap, hk'⟩
    · rintro st ⟨tm, H', rfl, t1, t2, t7, hk'⟩
      obtain ⟨r1, r2⟩ := hst H' hk'
      cases hb : eqL l l2
      · rw [hb] at t7
        repeat' (first | refine EvC.seq ?_ | refine EvC.scope ?_ | refine EvC.block ?_ | (refine EvC.skip ?_) | (refine EvC.exit ?_) | (refine EvC.ret ?_; try simp only [thenC_ret, inBlock_ret]) | (refine EvC.reg ?_; simp (config := { maxSteps := 2000000 }) (disch := first | omega | rfl) only [sA, Nat.reduceEqDiff, if_true, if_false, t7, Bool.false_eq_true]))
        exact leave_one rfl (by first | (simp only [sA, Nat.reduceEqDiff, if_true, if_false]; rfl) | simp only []) ⟨rfl, hk'⟩
      · rw [hb] at t7
        repeat' (first | refine EvC.seq ?_ | refine EvC.scope ?_ | refine EvC.block ?_ | (refine EvC.skip ?_) | (refine EvC.exit ?_) | (refine EvC.ret ?_; try simp only [thenC_ret, inBlock_ret]) | (refine EvC.reg ?_; simp (config := { maxSteps := 2000000 }) (disch := first | omega | rfl) only [sA, Nat.reduceEqDiff, if_true, if_false, cl42, t1, t2, t7]))
        refine (sameList_ev r1 r2 hk'.wf).mono ?_
        rintro v H9 ⟨rfl, hx9⟩
        repeat' (first | refine EvC.seq ?_ | refine EvC.scope ?_ | refine EvC.block ?_ | (refine EvC.skip ?_) | (refine EvC.exit ?_) | (refine EvC.ret ?_; try simp only [thenC_ret, inBlock_ret]))
        exact leave_one rfl (by first | (simp only [sA, Nat.reduceEqDiff, if_true, if_false]; rfl) | simp only []) ⟨by simp, hk'.trans (hx9.hk S)⟩
end Go.Proofs.YtlllbkjiadcloaaDoor.hb
end

-- Y11
section
/- The law of checks. -/
namespace Go.Proofs.YtlllbkjiadcloaaDoor.hb
open Go Go.RowKit Go.Hb
variable {ok : Ok}
set_option maxRecDepth 10000
attribute [local irreducible] LX LG EL STG SOP SGO SGD SAL SRD SEF SEG SLK SCK ES
theorem awake_tells {H : Heap} (hw : H.wf) : EvF Tryd.prog okT 12 [] H fun v H' => v = .bool true ∧ HX H H' := awake_ev hw

-- hornbeamlaw02.TermChecks
end Go.Proofs.YtlllbkjiadcloaaDoor.hb
end

-- U12
section
/- The law of variables. -/
namespace Go.Hb
open Go Go.RowKit
theorem dSl_two {P : Program} {H : Heap} {t e e' : TypeId} {s b o n c i : Nat} {cs : List Value} (h : slcOk P t e s) (hi : i + 2 ≤ c) (hb : H.get b = some (.ro cs e')) :
    dSl P t (.slice (some ⟨b, o, none⟩) n c) (some (.int .i64 (i : Nat))) (some (.int .i64 ((i + 2 : Nat) : Int))) none H = some (.val (.slice (some ⟨b, o + i * s, none⟩) 2 (c - i)) H) := by
  by_cases h0 : i = 0
  · subst h0
    obtain ⟨h1, h2, h3⟩ := h
    obtain ⟨j, hj⟩ := Option.isSome_iff_exists.1 h2
    simp only [dSl, dslice, h1, hj, bound, intBetween_nat hi, intBetween_nat (Nat.zero_le (0 + 2)), Nat.zero_mul, Nat.add_zero, Nat.sub_zero]
    rfl
  · rw [dSl_both h (by omega) hi (by omega) (by omega) hb (.inr ⟨_, _, rfl⟩), show i + 2 - i = 2 by omega]
theorem RepL.sub2 {H : Heap} {l : List Tm} {b o c : Nat} {cells : Nat → List Value} (r : RepL H l (some ⟨b, o, none⟩) c cells) {i : Nat} (h : i + 1 < l.length) : RepL H [l[i], l[i + 1]] (some ⟨b, o + i * 6, none⟩) (c - i) (fun j => cells (i + j)) := by
  have h1 := r.len
  have h2 := r.cap
  refine ⟨by simp; omega, by omega, fun h => (by cases h), fun j ad hj ha => ?_, fun j t ht => r.rep (i + j) t ?_⟩
  · cases ha
    refine ⟨rfl, ?_⟩
    have := (r.load (i + j) ⟨b, o, none⟩ (by simp at hj; omega) rfl).2
    show H.load ⟨b, o + i * 6 + j * 6, none⟩ 6 = _
    rw [show o + i * 6 + j * 6 = o + (i + j) * 6 by omega]; exact this
  · match j, ht with
    | 0, ht => cases ht; exact List.getElem?_eq_getElem (by omega)
    | 1, ht => cases ht; exact List.getElem?_eq_getElem h
theorem FL.repB {H : Heap} {T : TypeId} {S : Nat → Prop} {l : List Tm} {a : Option Addr} {c : Nat} (h : FL H T S l a c) (hw : H.wf) : ∃ cells, ∀ G : Heap, (∀ n, S n → n < H.next → G.get n = H.get n) → RepL G l a c cells := by
  cases h with
  | nil => exact ⟨fun _ => [], fun G _ => ⟨Nat.le_refl _, Nat.zero_le _, fun _ => ⟨rfl, rfl⟩, fun i ad hi => by simp at hi, fun i t h => by simp at h⟩⟩
  | row _ _ b c cells Si ai ci h1 h2 h3 h4 h5 h6 h7 h8 h9 h10 h11 =>
    refine ⟨fun i => (cells.drop (i * 6)).take 6, fun G hk => RepL.of_row (by rw [hk b h7 (hw b _ h3)]; exact h3) (fun i hi => rfl) (fun i t ht => ?_) h1 h2⟩
    show RepT G t ((cells.drop (i * 6)).take 6)
    rw [h5 i t ht]
    exact RepF.rep (T := T) (S := Si i) ⟨ai i, ci i, rfl, h6 i t ht, (h11 i t ht).heap (fun n hn hl => hk n (h9 i n (List.getElem?_eq_some_iff.1 ht).1 hn) hl) hw⟩
end Go.Hb
namespace Go.Proofs.YtlllbkjiadcloaaDoor.hb
open Go Go.RowKit Go.Hb
variable {ok : Ok}
set_option maxRecDepth 10000
attribute [local irreducible] LX LG EL STG SOP SGO SGD SAL SRD SEF SEG SLK SCK ES
-- @veq
theorem intL_rdi {H : Heap} {T : TypeId} {S : Nat → Prop} {L : List Int} {a : Option Addr} {n c : Nat} (h : IntL H T S L (.slice a n c)) : RdI H L a c := by
  obtain ⟨a', c', e, h1, -⟩ := h.rd
  cases e; exact h1
theorem intL_up {H : Heap} {T : TypeId} {S S' : Nat → Prop} {L : List Int} {v : Value} (h : IntL H T S L v) (hs : ∀ n, S n → S' n) : IntL H T S' L v := by
  rcases h with h | ⟨b, c', h1, h2, h3, h4, h5⟩
  · exact .inl h
  · exact .inr ⟨b, c', h1, h2, h3, h4, hs _ h5⟩
theorem eqL_rfl (l : List Tm) : eqL l l = true := eqL_t rfl
theorem plainL_few {l : List Tm} (h : ∀ t ∈ l, Fine t) : ∀ t ∈ plainL l, Few 1000000 t := fun t ht => by
  obtain ⟨u, hu, rfl⟩ := List.mem_map.1 ht
  exact (Fine.few _ (Nat.lt_succ_self _) (fine_sub (fun n _ => var_fine (plc_bound _ n).1) _ u (Nat.lt_succ_self _) (h u hu))).up (by omega)

-- hornbeamlaw02.TermVars
set_option maxHeartbeats 16000000 in
theorem termVars_ev {l : List Tm} {a : Option Addr} {c : Nat} {cells : Nat → List Value} {H : Heap} (rl : RepL H l a c cells) (hro : ∀ b o, a = some ⟨b, o, none⟩ → 0 < l.length → ∃ cs e', H.get b = some (.ro cs e')) (hlen : (occL l).length ≤ most) (hl : l.length ≤ 1000000) (hw : H.wf) :
    EvF Tryd.prog okT 8 [.slice a l.length c] H fun v _ => v = .bool true := by
  have hmx := rl.max
  have hms : most ≤ 9223372036854775807 := by simp [most]
  have hlm : l.length ≤ most := Nat.le_trans hl (by simp [most])
  refine EvF.enter rfl Tryd.func8 (by decide) rfl ?_
  repeat' (first | refine EvC.seq ?_ | refine EvC.scope ?_ | refine EvC.block ?_ | (refine EvC.skip ?_) | (refine EvC.exit ?_) | (refine EvC.ret ?_; try simp only [thenC_ret, inBlock_ret]) | (refine EvC.reg ?_; simp (config := { maxSteps := 2000000 }) (disch := first | omega | rfl) only [sA, initTm, Nat.reduceEqDiff, reduceCtorEq, if_true, if_false, cl12]))
  refine (awake_tells hw).mono ?_
  rintro v A1 ⟨rfl, hx⟩
  repeat' (first | refine EvC.seq ?_ | refine EvC.scope ?_ | refine EvC.block ?_ | (refine EvC.skip ?_) | (refine EvC.exit ?_) | (refine EvC.ret ?_; try simp only [thenC_ret, inBlock_ret]) | (refine EvC.reg ?_; simp (config := { maxSteps := 2000000 }) (disch := first | omega | rfl) only [sA, Nat.reduceEqDiff, reduceCtorEq, if_true, if_false, cl18]))
  refine (first_ev (rl.mono hx hw) hx.wf).mono ?_
  rintro v A2 ⟨rfl, k2⟩
  have hx := hx.trans k2
  try simp (config := { maxSteps := 2000000 }) (disch := first | omega | rfl) only []
  (repeat refine EvC.seq ?_); refine EvC.reg ?_; simp (config := { maxSteps := 2000000 }) (disch := first | omega | rfl) only [sA]
  (repeat refine EvC.seq ?_); refine EvC.reg ?_; simp (config := { maxSteps := 2000000 }) (disch := first | omega | rfl) only [sA]
  obtain ⟨U, hU⟩ : ∃ U, (if chkL l = 0 then uniq (occL l) else []) = U := ⟨_, rfl⟩
  obtain ⟨P, hP⟩ : ∃ P, (if chkL l = 0 then plainL l else []) = P := ⟨_, rfl⟩
  have hdd : decide (U = U) = true := decide_eq_true rfl
  have hUl : U.length ≤ most := by
    rw [← hU]; split
    · exact Nat.le_trans (uniq_len _) hlen
    · simp
  have hPf : (∀ t ∈ P, Few 1000000 t) ∧ P.length ≤ 1000000 := by
    rw [← hP]; split
    · rename_i h0
      exact ⟨plainL_few fun t ht => (check_zero.1 (chkL_zero h0 t ht)).2, by rw [plainL, List.length_map]; exact hl⟩
    · exact ⟨fun t ht => by simp at ht, by simp⟩
  refine EvC.seq ?_
  refine EvC.join (fun st => ∃ tm G av cv ap cp, st = ⟨tm, [], G⟩ ∧ tm.get 0 = some (.slice a l.length c) ∧ tm.get 3 = some (.bool true) ∧ tm.get 4 = some (.int .i64 (chkL l)) ∧ tm.get 5 = some (.slice av U.length cv) ∧ tm.get 6 = some (.slice ap P.length cp) ∧
      IntL G 3 (fun n => n < G.next) U (.slice av U.length cv) ∧ FL G 26 (fun n => n < G.next) P ap cp ∧ HX H G) ?_ ?_
  · by_cases h0 : chkL l = 0
    · rw [if_pos h0] at hU hP
      subst hU hP
      repeat' (first | refine EvC.seq ?_ | refine EvC.scope ?_ | refine EvC.block ?_ | (refine EvC.skip ?_) | (refine EvC.exit ?_) | (refine EvC.ret ?_; try simp only [thenC_ret, inBlock_ret]) | (refine EvC.reg ?_; simp (config := { maxSteps := 2000000 }) (disch := first | omega | rfl) only [sA, Nat.reduceEqDiff, reduceCtorEq, if_true, if_false, cl27, ieq_t h0]) | (refine EvC.condT ?_ ?_; simp (config := { maxSteps := 2000000 }) (disch := first | omega | rfl) only [sA, Nat.reduceEqDiff, reduceCtorEq, if_true, if_false]; refine EvC_go ?_))
      refine (allVars_ev (rl.mono hx hw) hlen hx.wf).mono ?_
      rintro v A3 ⟨i3, k3⟩
      obtain ⟨av, cv, rfl, -⟩ := i3.slice
      have hx := hx.trans k3
      repeat' (first | refine EvC.seq ?_ | refine EvC.scope ?_ | refine EvC.block ?_ | (refine EvC.skip ?_) | (refine EvC.exit ?_) | (refine EvC.ret ?_; try simp only [thenC_ret, inBlock_ret]) | (refine EvC.reg ?_; simp (config := { maxSteps := 2000000 }) (disch := first | omega | rfl) only [sA, Nat.reduceEqDiff, reduceCtorEq, if_true, if_false, cl28]))
      refine (plainR_ev (rl.mono hx hw) (fun t ht => (check_zero.1 (chkL_zero h0 t ht)).2) hlen hlm hx.wf).mono ?_
      rintro v A4 ⟨ap, cp, rfl, f4, k4⟩
      have n4 := k4.next
      repeat' (first | refine EvC.seq ?_ | refine EvC.scope ?_ | refine EvC.block ?_ | (refine EvC.skip ?_) | (refine EvC.exit ?_) | (refine EvC.ret ?_; try simp only [thenC_ret, inBlock_ret]))
      exact ⟨_, _, av, cv, ap, cp, rfl, (by first | (simp only [Tr.get_put, reduceCtorEq, if_true, if_false]; rfl) | simp only [Tr.get_put, reduceCtorEq, if_true, if_false]), (by first | (simp only [Tr.get_put, Nat.reduceEqDiff, reduceCtorEq, if_true, if_false]; rfl) | simp only [Tr.get_put, Nat.reduceEqDiff, reduceCtorEq, if_true, if_false]), (by first | (simp only [Tr.get_put, Nat.reduceEqDiff, reduceCtorEq, if_true, if_false]; rfl) | simp only [Tr.get_put, Nat.reduceEqDiff, reduceCtorEq, if_true, if_false]), (by first | (simp only [Tr.get_put, Nat.reduceEqDiff, reduceCtorEq, if_true, if_false]; rfl) | simp only [Tr.get_put, Nat.reduceEqDiff, reduceCtorEq, if_true, if_false]), (by first | (simp only [Tr.get_put, Nat.reduceEqDiff, reduceCtorEq, if_true, if_false]; rfl) | simp only [Tr.get_put, Nat.reduceEqDiff, reduceCtorEq, if_true, if_false]), intL_up (i3.heap (fun n _ hl => k4.keep n hl) k3.wf) (fun n hn => by have := hn.2; omega), f4.sub (fun n hn => hn.2), hx.trans k4⟩
    · rw [if_neg h0] at hU hP
      subst hU hP
      repeat' (first | refine EvC.seq ?_ | refine EvC.scope ?_ | refine EvC.block ?_ | (refine EvC.skip ?_; try simp only [thenC_normal]) | (refine EvC.exit ?_) | (refine EvC.ret ?_; try simp only [thenC_ret, inBlock_ret]) | (refine EvC.reg ?_; simp (config := { maxSteps := 2000000 }) (disch := first | omega | rfl) only [sA, Nat.reduceEqDiff, reduceCtorEq, if_true, if_false, ieq_f h0]) | (refine EvC.condT ?_ ?_; simp (config := { maxSteps := 2000000 }) (disch := first | omega | rfl) only [sA, Nat.reduceEqDiff, reduceCtorEq, if_true, if_false]; refine EvC_go ?_) | (refine EvC.condF ?_ ?_; simp (config := { maxSteps := 2000000 }) (disch := first | omega | rfl) only [sA, Nat.reduceEqDiff, reduceCtorEq, if_true, if_false]; refine EvC_go ?_))
      exact ⟨_, _, none, 0, none, 0, rfl, (by first | (simp only [Tr.get_put, reduceCtorEq, if_true, if_false]; rfl) | simp only [Tr.get_put, reduceCtorEq, if_true, if_false]), (by first | (simp only [Tr.get_put, Nat.reduceEqDiff, reduceCtorEq, if_true, if_false]; rfl) | simp only [Tr.get_put, Nat.reduceEqDiff, reduceCtorEq, if_true, if_false]), (by first | (simp only [Tr.get_put, Nat.reduceEqDiff, reduceCtorEq, if_true, if_false]; rfl) | simp only [Tr.get_put, Nat.reduceEqDiff, reduceCtorEq, if_true, if_false]), (by first | (simp only [Tr.get_put, Nat.reduceEqDiff, reduceCtorEq, if_true, if_false]; rfl) | simp only [Tr.get_put, Nat.reduceEqDiff, reduceCtorEq, if_true, if_false]), (by first | (simp only [Tr.get_put, Nat.reduceEqDiff, reduceCtorEq, if_true, if_false]; rfl) | simp only [Tr.get_put, Nat.reduceEqDiff, reduceCtorEq, if_true, if_false]), .inl ⟨rfl, rfl⟩, .nil _, hx⟩
  rintro st ⟨tm, A5, av, cv, ap, cp, rfl, t0, t3, t4, t5, t6, i5, f5, hx5⟩
  repeat' (first | refine EvC.seq ?_ | refine EvC.scope ?_ | refine EvC.block ?_ | (refine EvC.skip ?_) | (refine EvC.exit ?_) | (refine EvC.ret ?_; try simp only [thenC_ret, inBlock_ret]) | (refine EvC.reg ?_; simp (config := { maxSteps := 2000000 }) (disch := first | omega | rfl) only [sA, Nat.reduceEqDiff, if_true, if_false, cl29, t0]))
  refine (variablesV_ev (rl.mono hx5 hw) hlen hx5.wf).mono ?_
  rintro v A6 ⟨u1, rfl, i6, k6⟩
  rw [hU] at i6
  obtain ⟨a1, c1, rfl, hc1, hcm1⟩ := i6.slice
  have hx := hx5.trans k6
  repeat' (first | refine EvC.seq ?_ | refine EvC.scope ?_ | refine EvC.block ?_ | (refine EvC.skip ?_) | (refine EvC.exit ?_) | (refine EvC.ret ?_; try simp only [thenC_ret, inBlock_ret]) | (refine EvC.reg ?_; simp (config := { maxSteps := 2000000 }) (disch := first | omega | rfl) only [sA, Nat.reduceEqDiff, reduceCtorEq, if_true, if_false, cl29, t0]) | (refine LX_go ?_; simp (config := { maxSteps := 2000000 }) (disch := first | omega | rfl) only [sA, Nat.reduceEqDiff, if_true, if_false]))
  refine (variablesV_ev (rl.mono hx hw) hlen hx.wf).mono ?_
  rintro v A7 ⟨u2, rfl, i7, k7⟩
  rw [hU] at i7
  obtain ⟨a2, c2, rfl, -, -⟩ := i7.slice
  have i6 := i6.heap (fun n _ hl => k7.keep n hl) k6.wf
  have k67 := k6.trans k7
  have i5 := i5.heap (fun n _ hl => k67.keep n hl) hx5.wf
  have f5 := f5.keep k67 hx5.wf
  have hx := hx5.trans k67
  repeat' (first | refine EvC.seq ?_ | refine EvC.scope ?_ | refine EvC.block ?_ | (refine EvC.skip ?_) | (refine EvC.exit ?_) | (refine EvC.ret ?_; try simp only [thenC_ret, inBlock_ret]) | (refine EvC.reg ?_; simp (config := { maxSteps := 2000000 }) (disch := first | omega | rfl) only [sA, Nat.reduceEqDiff, if_true, if_false, cl30, t5]) | (refine LX_go ?_; simp (config := { maxSteps := 2000000 }) (disch := first | omega | rfl) only [sA, Nat.reduceEqDiff, if_true, if_false]))
  refine (sameInts_ev (intL_rdi i6) (intL_rdi i5) hx.wf).mono ?_
  rintro v A8 ⟨rfl, k8⟩
  rw [hdd]
  have i6 := i6.heap (fun n _ hl => k8.keep n hl) hx.wf
  have i7 := i7.heap (fun n _ hl => k8.keep n hl) hx.wf
  have i5 := i5.heap (fun n _ hl => k8.keep n hl) hx.wf
  have f5 := f5.keep k8 hx.wf
  have hx := hx.trans k8
  have nn5 := hx5.next
  have nn6 := k6.next
  have nn7 := k7.next
  have nn8 := k8.next
  try simp (config := { maxSteps := 2000000 }) (disch := first | omega | rfl) only []
  (repeat refine EvC.seq ?_); refine EvC.reg ?_; simp (config := { maxSteps := 2000000 }) (disch := first | omega | rfl) only [sA]
  refine EvC.meet (fun st => ∃ tm G, st = ⟨tm, [], G⟩ ∧ tm.get 0 = some (.slice a l.length c) ∧ tm.get 3 = some (.bool true) ∧ tm.get 4 = some (.int .i64 (chkL l)) ∧ tm.get 5 = some (.slice av U.length cv) ∧ tm.get 6 = some (.slice ap P.length cp) ∧
      tm.get 8 = some (.int .i64 (chkL l)) ∧ tm.get 9 = some (.slice a2 U.length c2) ∧ tm.get 11 = some (.bool true) ∧ HK (Rg A5.next A6.next) A8 G) ?_ ?_
  · rcases i6 with ⟨hnil, -⟩ | ⟨b1, c1', e1, h1, h2, g1, hS⟩
    · have he0 : U.length = 0 := by rw [hnil]; rfl
      have hd' : decide ((0 : Int) < (U.length : Int)) = false := decide_eq_false (by omega)
      refine EvC.block (EvC.loop1 ?_)
      repeat' (first | refine EvC.seq ?_ | refine EvC.scope ?_ | refine EvC.block ?_ | (refine EvC.skip ?_) | (refine EvC.exit ?_; try simp only [sA, reduceCtorEq, if_true]) | (refine EvC.ret ?_; try simp only [thenC_ret, inBlock_ret]) | (refine EvC.reg ?_; simp (config := { maxSteps := 2000000 }) (disch := first | omega | rfl) only [sA, Nat.reduceEqDiff, if_true, if_false, ln46, hd']) | (refine EvC.condT ?_ ?_; simp (config := { maxSteps := 2000000 }) (disch := first | omega | rfl) only [sA, Nat.reduceEqDiff, if_true, if_false]; refine EvC_go ?_) | (refine EvC.condF ?_ ?_; simp (config := { maxSteps := 2000000 }) (disch := first | omega | rfl) only [sA, Nat.reduceEqDiff, if_true, if_false]; refine EvC_go ?_))
      exact ⟨_, _, rfl, (by first | (simp only [Tr.get_put, reduceCtorEq, if_false, t0]; rfl) | simp only [Tr.get_put, reduceCtorEq, if_false, t0]), (by first | (simp only [Tr.get_put, Nat.reduceEqDiff, if_false, t3]; rfl) | simp only [Tr.get_put, Nat.reduceEqDiff, if_false, t3]), (by first | (simp only [Tr.get_put, Nat.reduceEqDiff, if_false, t4]; rfl) | simp only [Tr.get_put, Nat.reduceEqDiff, if_false, t4]), (by first | (simp only [Tr.get_put, Nat.reduceEqDiff, if_false, t5]; rfl) | simp only [Tr.get_put, Nat.reduceEqDiff, if_false, t5]), (by first | (simp only [Tr.get_put, Nat.reduceEqDiff, if_false, t6]; rfl) | simp only [Tr.get_put, Nat.reduceEqDiff, if_false, t6]), (by first | (simp only [Tr.get_put, Nat.reduceEqDiff, if_true, if_false]; rfl) | simp only [Tr.get_put, Nat.reduceEqDiff, if_true, if_false]), (by first | (simp only [Tr.get_put, Nat.reduceEqDiff, if_true, if_false]; rfl) | simp only [Tr.get_put, Nat.reduceEqDiff, if_true, if_false]), (by first | (simp only [Tr.get_put, Nat.reduceEqDiff, if_true, if_false]; rfl) | simp only [Tr.get_put, Nat.reduceEqDiff, if_true, if_false]), HK.refl hx.wf⟩
    · cases e1
      refine EvC.block (EvC.loop (fun k st => ∃ tm H' i cells', st = ⟨tm, [], H'⟩ ∧ k = U.length - i ∧ i ≤ U.length ∧ tm.get 0 = some (.slice a l.length c) ∧ tm.get 3 = some (.bool true) ∧ tm.get 4 = some (.int .i64 (chkL l)) ∧ tm.get 5 = some (.slice av U.length cv) ∧ tm.get 6 = some (.slice ap P.length cp) ∧
        tm.get 7 = some (.slice (some ⟨b1, 0, none⟩) U.length c1) ∧ tm.get 8 = some (.int .i64 (chkL l)) ∧ tm.get 9 = some (.slice a2 U.length c2) ∧ tm.get 11 = some (.bool true) ∧ tm.get 12 = some (.int .i64 (i : Nat)) ∧ H'.get b1 = some (.row cells' 3) ∧ cells'.length = U.length ∧ HK (Rg A5.next A6.next) A8 H') ?_ U.length _ ?_)
      · rintro k st ⟨tm, H', i, cells', rfl, rfl, hi, t0, t3, t4, t5, t6, t7, t8, t9, t11, t12, gb', hcl, hk'⟩
        by_cases hlt : i < U.length
        · have hle : i + 1 ≤ cells'.length := by omega
          have hbl := hk'.wf _ _ gb'
          repeat' (first | refine EvC.seq ?_ | refine EvC.scope ?_ | refine EvC.block ?_ | (refine EvC.skip ?_; try simp only [thenC_normal]) | (refine EvC.exit ?_) | (refine EvC.ret ?_; try simp only [thenC_ret, inBlock_ret]) | (refine EvC.reg ?_; simp (config := { maxSteps := 2000000 }) (disch := first | omega | rfl) only [sA, Nat.reduceEqDiff, one, if_true, if_false, ln46, ia46, st3, t7, t12, decl hlt, gb', hle, wrap_i64]) | (refine EvC.condT ?_ ?_; simp (config := { maxSteps := 2000000 }) (disch := first | omega | rfl) only [sA, Nat.reduceEqDiff, if_true, if_false]; refine EvC_go ?_))
          exact ⟨U.length - (i + 1), by omega, _, _, i + 1, Hb.splice cells' i [.int .i64 (-9)], rfl, rfl, by omega, (by first | (simp only [Tr.get_put, reduceCtorEq, if_false, t0]; rfl) | simp only [Tr.get_put, reduceCtorEq, if_false, t0]), (by first | (simp only [Tr.get_put, Nat.reduceEqDiff, if_false, t3]; rfl) | simp only [Tr.get_put, Nat.reduceEqDiff, if_false, t3]), (by first | (simp only [Tr.get_put, Nat.reduceEqDiff, if_false, t4]; rfl) | simp only [Tr.get_put, Nat.reduceEqDiff, if_false, t4]), (by first | (simp only [Tr.get_put, Nat.reduceEqDiff, if_false, t5]; rfl) | simp only [Tr.get_put, Nat.reduceEqDiff, if_false, t5]), (by first | (simp only [Tr.get_put, Nat.reduceEqDiff, if_false, t6]; rfl) | simp only [Tr.get_put, Nat.reduceEqDiff, if_false, t6]), (by first | (simp only [Tr.get_put, Nat.reduceEqDiff, if_false, t7]; rfl) | simp only [Tr.get_put, Nat.reduceEqDiff, if_false, t7]), (by first | (simp only [Tr.get_put, Nat.reduceEqDiff, if_false, t8]; rfl) | simp only [Tr.get_put, Nat.reduceEqDiff, if_false, t8]), (by first | (simp only [Tr.get_put, Nat.reduceEqDiff, if_false, t9]; rfl) | simp only [Tr.get_put, Nat.reduceEqDiff, if_false, t9]), (by first | (simp only [Tr.get_put, Nat.reduceEqDiff, if_false, t11]; rfl) | simp only [Tr.get_put, Nat.reduceEqDiff, if_false, t11]), (by first | (simp only [sA, Nat.reduceEqDiff, if_true, if_false]; rfl) | simp only []), by rw [get_put, if_pos rfl], by rw [splice_len hle]; exact hcl, hk'.put (.inl hS) hbl _⟩
        · repeat' (first | refine EvC.seq ?_ | refine EvC.scope ?_ | refine EvC.block ?_ | (refine EvC.skip ?_) | (refine EvC.exit ?_; try simp only [sA, reduceCtorEq, if_true]) | (refine EvC.ret ?_; try simp only [thenC_ret, inBlock_ret]) | (refine EvC.reg ?_; simp (config := { maxSteps := 2000000 }) (disch := first | omega | rfl) only [sA, Nat.reduceEqDiff, if_true, if_false, ln46, t7, t12, decn hlt]) | (refine EvC.condT ?_ ?_; simp (config := { maxSteps := 2000000 }) (disch := first | omega | rfl) only [sA, Nat.reduceEqDiff, if_true, if_false]; refine EvC_go ?_) | (refine EvC.condF ?_ ?_; simp (config := { maxSteps := 2000000 }) (disch := first | omega | rfl) only [sA, Nat.reduceEqDiff, if_true, if_false]; refine EvC_go ?_))
          exact ⟨_, _, rfl, (by first | (simp only [Tr.get_put, reduceCtorEq, if_false, t0]; rfl) | simp only [Tr.get_put, reduceCtorEq, if_false, t0]), (by first | (simp only [Tr.get_put, Nat.reduceEqDiff, if_false, t3]; rfl) | simp only [Tr.get_put, Nat.reduceEqDiff, if_false, t3]), (by first | (simp only [Tr.get_put, Nat.reduceEqDiff, if_false, t4]; rfl) | simp only [Tr.get_put, Nat.reduceEqDiff, if_false, t4]), (by first | (simp only [Tr.get_put, Nat.reduceEqDiff, if_false, t5]; rfl) | simp only [Tr.get_put, Nat.reduceEqDiff, if_false, t5]), (by first | (simp only [Tr.get_put, Nat.reduceEqDiff, if_false, t6]; rfl) | simp only [Tr.get_put, Nat.reduceEqDiff, if_false, t6]), (by first | (simp only [Tr.get_put, Nat.reduceEqDiff, if_false, t8]; rfl) | simp only [Tr.get_put, Nat.reduceEqDiff, if_false, t8]), (by first | (simp only [Tr.get_put, Nat.reduceEqDiff, if_false, t9]; rfl) | simp only [Tr.get_put, Nat.reduceEqDiff, if_false, t9]), (by first | (simp only [Tr.get_put, Nat.reduceEqDiff, if_false, t11]; rfl) | simp only [Tr.get_put, Nat.reduceEqDiff, if_false, t11]), hk'⟩
      · exact ⟨_, _, 0, U.map fun n => Value.int .i64 n, rfl, rfl, by omega, (by first | (simp only [Tr.get_put, reduceCtorEq, if_false, t0]; rfl) | simp only [Tr.get_put, reduceCtorEq, if_false, t0]), (by first | (simp only [Tr.get_put, Nat.reduceEqDiff, if_false, t3]; rfl) | simp only [Tr.get_put, Nat.reduceEqDiff, if_false, t3]), (by first | (simp only [Tr.get_put, Nat.reduceEqDiff, if_false, t4]; rfl) | simp only [Tr.get_put, Nat.reduceEqDiff, if_false, t4]), (by first | (simp only [Tr.get_put, Nat.reduceEqDiff, if_false, t5]; rfl) | simp only [Tr.get_put, Nat.reduceEqDiff, if_false, t5]), (by first | (simp only [Tr.get_put, Nat.reduceEqDiff, if_false, t6]; rfl) | simp only [Tr.get_put, Nat.reduceEqDiff, if_false, t6]), (by first | (simp only [Tr.get_put, Nat.reduceEqDiff, if_true, if_false]; rfl) | simp only [Tr.get_put, Nat.reduceEqDiff, if_true, if_false]), (by first | (simp only [Tr.get_put, Nat.reduceEqDiff, if_true, if_false]; rfl) | simp only [Tr.get_put, Nat.reduceEqDiff, if_true, if_false]), (by first | (simp only [Tr.get_put, Nat.reduceEqDiff, if_true, if_false]; rfl) | simp only [Tr.get_put, Nat.reduceEqDiff, if_true, if_false]), (by first | (simp only [Tr.get_put, Nat.reduceEqDiff, if_true, if_false]; rfl) | simp only [Tr.get_put, Nat.reduceEqDiff, if_true, if_false]), (by first | (simp only [sA, Nat.reduceEqDiff, if_true, if_false]; rfl) | simp only []), g1, by rw [List.length_map], HK.refl hx.wf⟩
  rintro st ⟨tm, G1, rfl, t0, t3, t4, t5, t6, t8, t9, t11, kG⟩
  have wG := kG.wf
  have nnG := kG.next
  have i5 := i5.heap (fun n hn hl => kG.keep n hl fun hs => by have := hs.1; omega) hx.wf
  have i7 := i7.heap (fun n hn hl => kG.keep n hl fun hs => by have := hn.1; have := hs.2; omega) hx.wf
  have f5 := f5.beside kG hx.wf (fun n hn hs => by have := hs.1; omega)
  have hx := hx.then kG (fun n hn hs => by have := hs.1; omega)
  repeat' (first | refine EvC.seq ?_ | refine EvC.scope ?_ | refine EvC.block ?_ | (refine EvC.skip ?_) | (refine EvC.exit ?_) | (refine EvC.ret ?_; try simp only [thenC_ret, inBlock_ret]) | (refine EvC.reg ?_; simp (config := { maxSteps := 2000000 }) (disch := first | omega | rfl) only [sA, Nat.reduceEqDiff, if_true, if_false, cl30, t9, t5]))
  refine (sameInts_ev (intL_rdi i7) (intL_rdi i5) wG).mono ?_
  rintro v G2 ⟨rfl, k10⟩
  rw [hdd]
  have nn10 := k10.next
  have hx := hx.trans k10
  have f5 := f5.keep k10 wG
  clear i5 i7 i6
  repeat' (first | refine EvC.seq ?_ | refine EvC.scope ?_ | refine EvC.block ?_ | (refine EvC.skip ?_) | (refine EvC.exit ?_) | (refine EvC.ret ?_; try simp only [thenC_ret, inBlock_ret]) | (refine EvC.reg ?_; simp (config := { maxSteps := 2000000 }) (disch := first | omega | rfl) only [sA, Nat.reduceEqDiff, reduceCtorEq, if_true, if_false, cl31, t0]))
  refine (plain_ev (rl.mono hx hw) hlen hlm hx.wf).mono ?_
  rintro v G3 ⟨b1, d1, rfl, f3, k11⟩
  rw [hP] at f3 ⊢
  have nn11 := k11.next
  have f5 := f5.keep k11 hx.wf
  have hx := hx.trans k11
  repeat' (first | refine EvC.seq ?_ | refine EvC.scope ?_ | refine EvC.block ?_ | (refine EvC.skip ?_) | (refine EvC.exit ?_) | (refine EvC.ret ?_; try simp only [thenC_ret, inBlock_ret]) | (refine EvC.reg ?_; simp (config := { maxSteps := 2000000 }) (disch := first | omega | rfl) only [sA, Nat.reduceEqDiff, reduceCtorEq, if_true, if_false, cl31, t0]) | (refine LX_go ?_; simp (config := { maxSteps := 2000000 }) (disch := first | omega | rfl) only [sA, Nat.reduceEqDiff, if_true, if_false]))
  refine (plain_ev (rl.mono hx hw) hlen hlm hx.wf).mono ?_
  rintro v G4 ⟨b2, d2, rfl, f4, k12⟩
  rw [hP] at f4 ⊢
  have nn12 := k12.next
  have f5 := f5.keep k12 hx.wf
  have f3 := f3.keep k12 hx.wf
  have hx := hx.trans k12
  repeat' (first | refine EvC.seq ?_ | refine EvC.scope ?_ | refine EvC.block ?_ | (refine EvC.skip ?_) | (refine EvC.exit ?_) | (refine EvC.ret ?_; try simp only [thenC_ret, inBlock_ret]) | (refine EvC.reg ?_; simp (config := { maxSteps := 2000000 }) (disch := first | omega | rfl) only [sA, Nat.reduceEqDiff, if_true, if_false, cl26, t6]) | (refine LX_go ?_; simp (config := { maxSteps := 2000000 }) (disch := first | omega | rfl) only [sA, Nat.reduceEqDiff, if_true, if_false]))
  obtain ⟨cl1, h1⟩ := f4.repB hx.wf
  obtain ⟨cl2, h2⟩ := f5.repB hx.wf
  refine (again_ev f3 (h1 G4 fun _ _ _ => rfl) (h2 G4 fun _ _ _ => rfl) (fun n hn => by have := hn.2; omega) (fun G' hk => ⟨h1 G' fun n hn hl => hk.keep n hl fun hs => by have := hn.1; have := hs.2; omega, h2 G' fun n hn hl => hk.keep n hl fun hs => by have := hs.1; omega⟩) hPf.1 hPf.2 hx.wf).mono ?_
  rintro v G5 ⟨rfl, k13⟩
  rw [eqL_rfl]
  have hx := hx.then k13 (fun n hn hs => by have := hs.1; omega)
  clear f3 f4 f5 h1 h2
  repeat' (first | refine EvC.seq ?_ | refine EvC.scope ?_ | refine EvC.block ?_ | (refine EvC.skip ?_; try simp only [thenC_normal]) | (refine EvC.exit ?_) | (refine EvC.ret ?_; try simp only [thenC_ret, inBlock_ret]) | (refine EvC.reg ?_; simp (config := { maxSteps := 2000000 }) (disch := first | omega | rfl) only [sA, Nat.reduceEqDiff, if_true, if_false, t3, t4, t8, t11, ine_f, Bool.not_true, Bool.false_eq_true]) | (refine EvC.condT ?_ ?_; simp (config := { maxSteps := 2000000 }) (disch := first | omega | rfl) only [sA, Nat.reduceEqDiff, if_true, if_false]; refine EvC_go ?_) | (refine EvC.condF ?_ ?_; simp (config := { maxSteps := 2000000 }) (disch := first | omega | rfl) only [sA, Nat.reduceEqDiff, if_true, if_false]; refine EvC_go ?_))
  refine EvC.loop (fun k st => ∃ tm G i, st = ⟨tm, [], G⟩ ∧ k = l.length - i ∧ i ≤ l.length ∧ tm.get 0 = some (.slice a l.length c) ∧ tm.get 19 = some (.int .i64 (i : Nat)) ∧ HX H G) ?_ l.length _ ?_
  · rintro k st ⟨tm, G, i, rfl, rfl, hi, t0, t19, hx⟩
    have hc1 : (i : Int) + 1 = ((i + 1 : Nat) : Int) := by omega
    have hc2 : (i : Int) + 2 = ((i + 2 : Nat) : Int) := by omega
    have hbn : ∀ b : Bool, (b != b) = false := fun b => by cases b <;> rfl
    by_cases hlt : i + 1 < l.length
    · obtain ⟨b, o, a1, c1, rfl, ld1, r1⟩ := rl.el (i := i) (by omega)
      obtain ⟨b', o', a2, c2, e2, ld2, r2⟩ := rl.el (i := i + 1) hlt
      cases e2
      obtain ⟨rcs, re, hg⟩ := hro _ _ rfl (by omega)
      have hlc := rl.len
      have hlt0 : i < l.length := by omega
      have l1 := hx.load hw ld1
      have l2 := hx.load hw ld2
      repeat' (first | refine EvC.seq ?_ | refine EvC.scope ?_ | refine EvC.block ?_ | (refine EvC.skip ?_; try simp only [thenC_normal]) | (refine EvC.exit ?_) | (refine EvC.ret ?_; try simp only [thenC_ret, inBlock_ret]) | (refine EvC.reg ?_; simp (config := { maxSteps := 2000000 }) (disch := first | omega | rfl) only [sA, Nat.reduceEqDiff, reduceCtorEq, if_true, if_false, ln24, t0, t19, hc1, decl hlt, wrap_i64]) | (refine EvC.drw (id := 24) [([(0, 0), (1, 0), (2, 0), (3, 0), (4, 0), (5, 0), (6, 0), (7, 0), (8, 0)], some 9), ([(10, 1), (11, 1), (12, 1), (13, 1), (14, 1)], none)] ?_ ?_; kernel_rfl; simp (config := { maxSteps := 2000000 }) (disch := first | omega | rfl) only [sD, sA, Nat.reduceEqDiff, Nat.reduceAdd, reduceCtorEq, if_true, if_false, ia24, ld26, cl32, t0, t19, hc1, l1, l2, wrap_i64, isAlloc, isRead, reduceCtorEq]) | (refine EvC.condT ?_ ?_; simp (config := { maxSteps := 2000000 }) (disch := first | omega | rfl) only [sA, Nat.reduceEqDiff, if_true, if_false]; refine EvC_go ?_))
      have hb := (HX.refl hx.wf).bump 15
      have hxb := hx.trans hb
      refine (variant_ev (r1.mono hxb hw) (r2.mono hxb hw) hb.wf).mono ?_
      rintro v G2 ⟨rfl, k2⟩
      have hx2 := hxb.trans k2
      obtain ⟨pr, hpr⟩ : ∃ x, (if chkL [l[i], l[i + 1]] = 0 then eqT (plain1 l[i]) (plain1 l[i + 1]) else false) = x := ⟨_, rfl⟩
      rw [hpr]
      have esl := dSl_two (P := Tryd.prog) (t := 24) (e := 26) (s := 6) (o := o) (n := l.length) (c := c) (i := i) sl24 (by omega) (hx2.get hw hg)
      repeat' (first | refine EvC.seq ?_ | refine EvC.scope ?_ | refine EvC.block ?_ | (refine EvC.skip ?_) | (refine EvC.exit ?_) | (refine EvC.ret ?_; try simp only [thenC_ret, inBlock_ret]) | (refine EvC.reg ?_; simp (config := { maxSteps := 2000000 }) (disch := first | omega | rfl) only [sA, Nat.reduceEqDiff, reduceCtorEq, if_true, if_false, cl18, t0, t19, hc2, wrap_i64, esl]) | (refine SCK_go ?_; simp (config := { maxSteps := 2000000 }) (disch := first | omega | rfl) only [sD, sA, Nat.reduceEqDiff, if_true, if_false, isAlloc, isRead]))
      refine (first_ev ((rl.sub2 hlt).mono hx2 hw) hx2.wf).mono ?_
      rintro v G3 ⟨rfl, k3⟩
      have hx3 := hx2.trans k3
      try simp (config := { maxSteps := 2000000 }) (disch := first | omega | rfl) only []
      (repeat refine EvC.seq ?_); refine EvC.reg ?_; simp (config := { maxSteps := 2000000 }) (disch := first | omega | rfl) only [sA]
      refine EvC.seq ?_
      refine EvC.join (fun st => ∃ tm G, st = ⟨tm, [], G⟩ ∧ tm.get 0 = some (.slice (some ⟨b, o, none⟩) l.length c) ∧ tm.get 19 = some (.int .i64 (i : Nat)) ∧ tm.get 20 = some (.bool pr) ∧ tm.get 21 = some (.int .i64 (chkL [l[i], l[i + 1]])) ∧ tm.get 22 = some (.int .i64 (chkL [l[i], l[i + 1]])) ∧ tm.get 23 = some (.bool pr) ∧ HX H G) ?_ ?_
      · by_cases h0 : chkL [l[i], l[i + 1]] = 0
        · rw [if_pos h0] at hpr
          have l1 := hx3.load hw ld1
          have l2 := hx3.load hw ld2
          have hc := chkL_zero h0
          repeat' (first | refine EvC.seq ?_ | refine EvC.scope ?_ | refine EvC.block ?_ | (refine EvC.skip ?_) | (refine EvC.exit ?_) | (refine EvC.ret ?_; try simp only [thenC_ret, inBlock_ret]) | (refine EvC.reg ?_; simp (config := { maxSteps := 2000000 }) (disch := first | omega | rfl) only [sA, Nat.reduceEqDiff, if_true, if_false, ieq_t h0]) | (refine EvC.drw (id := 28) [([(0, 0), (1, 0), (2, 0), (3, 0), (4, 0), (5, 0), (6, 0), (7, 0), (8, 0)], some 9), ([(10, 1)], none)] ?_ ?_; kernel_rfl; simp (config := { maxSteps := 2000000 }) (disch := first | omega | rfl) only [sD, sA, Nat.reduceEqDiff, Nat.reduceAdd, reduceCtorEq, if_true, if_false, ia24, ld26, cl33, t0, t19, hc1, l1, l2, wrap_i64, isAlloc, isRead, reduceCtorEq]) | (refine EvC.condT ?_ ?_; simp (config := { maxSteps := 2000000 }) (disch := first | omega | rfl) only [sA, Nat.reduceEqDiff, if_true, if_false]; refine EvC_go ?_))
          have hb := (HX.refl hx3.wf).bump 11
          have hxb := hx3.trans hb
          refine (variantR_ev (r1.mono hxb hw) (r2.mono hxb hw) (hc _ (by simp)) (hc _ (by simp)) hb.wf).mono ?_
          rintro v G4 ⟨rfl, k4⟩
          rw [hpr]
          repeat' (first | refine EvC.seq ?_ | refine EvC.scope ?_ | refine EvC.block ?_ | (refine EvC.skip ?_) | (refine EvC.exit ?_) | (refine EvC.ret ?_; try simp only [thenC_ret, inBlock_ret]) | (refine SCK_go ?_; simp (config := { maxSteps := 2000000 }) (disch := first | omega | rfl) only [sD, sA, Nat.reduceEqDiff, if_true, if_false, isAlloc, isRead]))
          exact ⟨_, _, rfl, (by first | (simp only [Tr.get_put, reduceCtorEq, if_false, t0]; rfl) | simp only [Tr.get_put, reduceCtorEq, if_false, t0]), (by first | (simp only [Tr.get_put, Nat.reduceEqDiff, if_false, t19]; rfl) | simp only [Tr.get_put, Nat.reduceEqDiff, if_false, t19]), (by first | (simp only [Tr.get_put, Nat.reduceEqDiff, if_true, if_false]; rfl) | simp only [Tr.get_put, Nat.reduceEqDiff, if_true, if_false]), (by first | (simp only [Tr.get_put, Nat.reduceEqDiff, if_true, if_false]; rfl) | simp only [Tr.get_put, Nat.reduceEqDiff, if_true, if_false]), (by first | (simp only [Tr.get_put, Nat.reduceEqDiff, if_true, if_false]; rfl) | simp only [Tr.get_put, Nat.reduceEqDiff, if_true, if_false]), (by first | (simp only [Tr.get_put, Nat.reduceEqDiff, if_true, if_false]; rfl) | simp only [Tr.get_put, Nat.reduceEqDiff, if_true, if_false]), hxb.trans k4⟩
        · rw [if_neg h0] at hpr
          subst hpr
          repeat' (first | refine EvC.seq ?_ | refine EvC.scope ?_ | refine EvC.block ?_ | (refine EvC.skip ?_; try simp only [thenC_normal]) | (refine EvC.exit ?_) | (refine EvC.ret ?_; try simp only [thenC_ret, inBlock_ret]) | (refine EvC.reg ?_; simp (config := { maxSteps := 2000000 }) (disch := first | omega | rfl) only [sA, Nat.reduceEqDiff, if_true, if_false, ieq_f h0]) | (refine EvC.condT ?_ ?_; simp (config := { maxSteps := 2000000 }) (disch := first | omega | rfl) only [sA, Nat.reduceEqDiff, if_true, if_false]; refine EvC_go ?_) | (refine EvC.condF ?_ ?_; simp (config := { maxSteps := 2000000 }) (disch := first | omega | rfl) only [sA, Nat.reduceEqDiff, if_true, if_false]; refine EvC_go ?_))
          exact ⟨_, _, rfl, (by first | (simp only [Tr.get_put, reduceCtorEq, if_false, t0]; rfl) | simp only [Tr.get_put, reduceCtorEq, if_false, t0]), (by first | (simp only [Tr.get_put, Nat.reduceEqDiff, if_false, t19]; rfl) | simp only [Tr.get_put, Nat.reduceEqDiff, if_false, t19]), (by first | (simp only [Tr.get_put, Nat.reduceEqDiff, if_true, if_false]; rfl) | simp only [Tr.get_put, Nat.reduceEqDiff, if_true, if_false]), (by first | (simp only [Tr.get_put, Nat.reduceEqDiff, if_true, if_false]; rfl) | simp only [Tr.get_put, Nat.reduceEqDiff, if_true, if_false]), (by first | (simp only [Tr.get_put, Nat.reduceEqDiff, if_true, if_false]; rfl) | simp only [Tr.get_put, Nat.reduceEqDiff, if_true, if_false]), (by first | (simp only [Tr.get_put, Nat.reduceEqDiff, if_true, if_false]; rfl) | simp only [Tr.get_put, Nat.reduceEqDiff, if_true, if_false]), hx3⟩
      rintro st ⟨tm, G5, rfl, t0, t19, t20, t21, t22, t23, hx5⟩
      repeat' (first | refine EvC.seq ?_ | refine EvC.scope ?_ | refine EvC.block ?_ | (refine EvC.skip ?_; try simp only [sA]) | (refine EvC.exit ?_) | (refine EvC.ret ?_; try simp only [thenC_ret, inBlock_ret]) | (refine EvC.reg ?_; simp (config := { maxSteps := 2000000 }) (disch := first | omega | rfl) only [sA, Nat.reduceEqDiff, if_true, if_false, t19, t20, t21, t22, t23, bNeB Tryd.underlying4, hbn, ine_f, hc1, Bool.false_eq_true, wrap_i64]) | (refine EvC.condT ?_ ?_; simp (config := { maxSteps := 2000000 }) (disch := first | omega | rfl) only [sA, Nat.reduceEqDiff, if_true, if_false]; refine EvC_go ?_) | (refine EvC.condF ?_ ?_; simp (config := { maxSteps := 2000000 }) (disch := first | omega | rfl) only [sA, Nat.reduceEqDiff, if_true, if_false]; refine EvC_go ?_))
      exact ⟨l.length - (i + 1), by omega, _, _, i + 1, rfl, rfl, by omega, (by first | (simp only [Tr.get_put, reduceCtorEq, if_false, t0]; rfl) | simp only [Tr.get_put, reduceCtorEq, if_false, t0]), (by first | (simp only [Tr.get_put, Nat.reduceEqDiff, if_true, if_false]; rfl) | simp only [Tr.get_put, Nat.reduceEqDiff, if_true, if_false]), hx5⟩
    · repeat' (first | refine EvC.seq ?_ | refine EvC.scope ?_ | refine EvC.block ?_ | (refine EvC.skip ?_) | (refine EvC.exit ?_; try simp only [sA, if_true]) | (refine EvC.ret ?_; try simp only [thenC_ret, inBlock_ret]) | (refine EvC.reg ?_; simp (config := { maxSteps := 2000000 }) (disch := first | omega | rfl) only [sA, Nat.reduceEqDiff, reduceCtorEq, if_true, if_false, ln24, t0, t19, hc1, decn hlt, wrap_i64]) | (refine EvC.condT ?_ ?_; simp (config := { maxSteps := 2000000 }) (disch := first | omega | rfl) only [sA, Nat.reduceEqDiff, if_true, if_false]; refine EvC_go ?_) | (refine EvC.condF ?_ ?_; simp (config := { maxSteps := 2000000 }) (disch := first | omega | rfl) only [sA, Nat.reduceEqDiff, if_true, if_false]; refine EvC_go ?_))
      exact leave_one rfl (by first | (simp only [Tr.get_put, Nat.reduceEqDiff, if_true, if_false]; rfl) | simp only [Tr.get_put, Nat.reduceEqDiff, if_true, if_false]) rfl
  · exact ⟨_, _, 0, rfl, rfl, by omega, (by first | (simp only [Tr.get_put, reduceCtorEq, if_false, t0]; rfl) | simp only [Tr.get_put, reduceCtorEq, if_false, t0]), (by first | (simp only [sA, Nat.reduceEqDiff, if_true, if_false]; rfl) | simp only []), hx⟩
end Go.Proofs.YtlllbkjiadcloaaDoor.hb
end

-- Law2
section
/- Terms that come in. -/
namespace Go.Hb
open Go Go.RowKit

section
variable {H : Type} {enc : TypeId × Value → H} {P : Program} {W : World} {sp : Nat → Bool} {fuel : Nat} {t e : TypeId} {cs : List Value} {d : DataW H} {ps : List MemPlace}

theorem ab_int {k : IntKind} {n : Int} : ab P W (.int k n) = .int k n := rfl
theorem ab_string {s : ByteArray} : ab P W (.string s) = .string s := rfl
theorem trod_int {k : IntKind} (ht : P.underlying t = some (.int k)) (h : DataW.trod enc P W 0 sp true fuel t cs = some (d, ps)) : ∃ n, cs = [.int k n] ∧ (Lit.int k n).wf = true := by
  cases fuel with
  | zero => simp [DataW.trod] at h
  | succ m =>
    unfold DataW.trod at h
    rw [ht] at h
    split at h <;> simp_all
theorem trod_string (ht : P.underlying t = some .string) (h : DataW.trod enc P W 0 sp true fuel t cs = some (d, ps)) : ∃ s : ByteArray, cs = [.string s] ∧ s.size ≤ maxLen := by
  cases fuel with
  | zero => simp [DataW.trod] at h
  | succ m =>
    unfold DataW.trod at h
    rw [ht] at h
    split at h <;> simp_all
theorem trod_slice (ht : P.underlying t = some (.slice e)) (h : DataW.trod enc P W 0 sp true fuel t cs = some (d, ps)) :
    cs = [.slice none 0 0] ∨ ∃ a len cap m, fuel = m + 1 ∧ cs = [.slice (some a) len cap] ∧ len ≤ cap ∧ cap ≤ maxLen ∧
      ∀ i, i < len → ∃ es d' ps', W.cells? 0 (a.add (i * P.cellsOf e)) (P.cellsOf e) = some es ∧ DataW.trod enc P W 0 sp true m e es = some (d', ps') := by
  cases fuel with
  | zero => simp [DataW.trod] at h
  | succ m =>
    unfold DataW.trod at h
    rw [ht] at h
    split at h <;> simp_all
    obtain ⟨⟨hl, hc⟩, h⟩ := h
    simp only [Option.bind_eq_some_iff, Option.map_eq_some_iff] at h
    obtain ⟨elems, he, _⟩ := h
    refine ⟨_, _, _, ⟨rfl, rfl, rfl⟩, hl, hc, fun i hi => ?_⟩
    have hlen := mapM_some_length he
    have := mapM_some_get he i i (by simp [hi])
    rw [List.getElem?_eq_getElem (by rw [hlen]; simpa using hi)] at this
    simp only [Option.bind_eq_some_iff] at this
    obtain ⟨es, h1, h2⟩ := this
    exact ⟨es, h1, _, _, h2⟩
theorem blk_add (a : Addr) (i : Nat) : (a.add i).block = a.block := by unfold Addr.add; split <;> rfl
/-- an element of a slice, in the world's abstraction -/
theorem elem_load {a : Addr} {s i : Nat} {es : List Value} (hs : 0 < s) (h : W.cells? 0 (a.add (i * s)) s = some es) (hsp : a.spot = none) : (heapW P W).load ⟨a.block, a.off + i * s, none⟩ s = some (es.map (ab P W)) ∧ es.length = s ∧ a.block < W.heap.size := by
  obtain ⟨_, hl, hc⟩ := World.cells?_some h
  obtain ⟨b, o, sp⟩ := a
  obtain rfl : sp = none := hsp
  have hb := World.cells?_block h hs
  rw [blk_add] at hb
  refine ⟨load_world hs hl fun j v hj => ?_, hl, hb⟩
  have hjl : j < es.length := (List.getElem?_eq_some_iff.1 hj).1
  have := hc j (by omega)
  rw [add0, add0] at this
  rw [this]; exact hj
/-- a slice of which an element is read has a plain place, unless none is -/
theorem slice_spot {a : Addr} {s : Nat} {es : List Value} (hs : 0 < s) (h : W.cells? 0 (a.add (0 * s)) s = some es) : a.spot = none := by
  obtain ⟨_, hl, hc⟩ := World.cells?_some h
  have e0 : ∀ a : Addr, a.add 0 = a := fun a => by unfold Addr.add; simp
  have := hc 0 hs
  rw [Nat.zero_mul, e0, e0, List.getElem?_eq_getElem (by omega)] at this
  unfold World.cell? at this
  split at this
  · split at this
    · cases this
    · rename_i hn; simpa using hn
  · cases this
end

section
variable {H : Type} {enc : TypeId × Value → H} {P : Program} {W : World} {sp : Nat → Bool}
/-- the types of terms -/
structure TermTypes (P : Program) (tT tS tI tG tU : TypeId) : Prop where
  fields : ∃ fs : Array Field, P.underlying tT = some (.struct fs) ∧ (fs.toList.map fun f => (f.offset, f.type)) = [(0, tI), (1, tG), (2, tG), (3, tU), (4, tI), (5, tS)]
  slice : P.underlying tS = some (.slice tT)
  int : P.underlying tI = some (.int .i64)
  str : P.underlying tG = some .string
  u64 : P.underlying tU = some (.int .u64)
  cT : P.cellsOf tT = 6
  cS : P.cellsOf tS = 1
  cI : P.cellsOf tI = 1
  cG : P.cellsOf tG = 1
  cU : P.cellsOf tU = 1

theorem wf_i64 {n : Int} (h : (Lit.int .i64 n).wf = true) : i64 n := by
  unfold i64
  unfold Lit.wf at h
  simp [IntKind.min, IntKind.max, IntKind.bits, IntKind.signed] at h
  exact h
theorem wf_u64 {n : Int} (h : (Lit.int .u64 n).wf = true) : u64 n := by
  unfold u64
  unfold Lit.wf at h
  simp [IntKind.min, IntKind.max, IntKind.bits, IntKind.signed] at h
  exact h
theorem one_at {cs : List Value} {o : Nat} {v : Value} (h : (cs.drop o).take 1 = [v]) : cs[o]? = some v := by
  have : ((cs.drop o).take 1)[0]? = some v := by rw [h]; rfl
  simpa [List.getElem?_take, List.getElem?_drop] using this
theorem list_six {cs : List Value} {a b c d e f : Value} (hl : cs.length = 6) (h0 : cs[0]? = some a) (h1 : cs[1]? = some b) (h2 : cs[2]? = some c) (h3 : cs[3]? = some d) (h4 : cs[4]? = some e) (h5 : cs[5]? = some f) : cs = [a, b, c, d, e, f] := by
  match cs, hl with
  | [_, _, _, _, _, _], _ => simp at h0 h1 h2 h3 h4 h5; simp [h0, h1, h2, h3, h4, h5]
end
end Go.Hb
end

-- Law3
section
/- Lists of terms that come in. -/
namespace Go.Hb
open Go Go.RowKit
section
variable {H : Type} {enc : TypeId × Value → H} {P : Program} {W : World} {sp : Nat → Bool}
end
end Go.Hb
end

-- Law4
section
/- Terms that come in, and their bulk. -/
namespace Go.Proofs.YtlllbkjiadcloaaDoor.hb
open Go Go.RowKit Go.Hb
section
variable {H : Type} {enc : TypeId × Value → H} {P : Program} {W : World} {sp : Nat → Bool}
structure Wt (w : DataW H → Nat) : Prop where
  pos : ∀ d, 1 ≤ w d
  agg : ∀ ps, (ps.map w).sum + 1 ≤ w (.agg ps)
  slice : ∀ es rest, (es.map w).sum + 1 ≤ w (.slice es rest)
theorem trod_struct_w {fuel : Nat} {t : TypeId} {cs : List Value} {d : DataW H} {ps : List MemPlace} {fs : Array Field} (ht : P.underlying t = some (.struct fs)) (h : DataW.trod enc P W 0 sp true fuel t cs = some (d, ps)) :
    ∃ (m : Nat) (xs : List (DataW H × List MemPlace)), fuel = m + 1 ∧ cs.length = P.cellsOf t ∧ d = .agg (xs.map (·.1)) ∧ ∀ (i : Nat) (f : Field), fs[i]? = some f → ∃ x, xs[i]? = some x ∧ DataW.trod enc P W 0 sp true m f.type ((cs.drop f.offset).take (P.cellsOf f.type)) = some x := by
  cases fuel with
  | zero => simp [DataW.trod] at h
  | succ m =>
    unfold DataW.trod at h
    rw [ht] at h
    have h' : (if cs.length = P.cellsOf t then (fs.toList.mapM fun f => DataW.trod enc P W 0 sp true m f.type ((cs.drop f.offset).take (P.cellsOf f.type))).map fun xs => (DataW.agg (xs.map (·.1)), xs.flatMap (·.2)) else none) = some (d, ps) := by
      split at h <;> first | exact h | simp_all
    split at h'
    · rename_i hl
      rw [Option.map_eq_some_iff] at h'
      obtain ⟨xs, hx, he⟩ := h'
      cases he
      refine ⟨m, xs, rfl, hl, rfl, fun i f hf => ?_⟩
      have hlen := mapM_some_length hx
      have := mapM_some_get hx i f (by simpa using hf)
      have hi := (Array.getElem?_eq_some_iff.1 hf).1
      have hix : i < xs.length := by rw [hlen]; simpa using hi
      rw [List.getElem?_eq_getElem hix] at this
      exact ⟨xs[i], List.getElem?_eq_getElem hix, this⟩
    · cases h'
theorem trod_slice_w {fuel : Nat} {t e : TypeId} {cs : List Value} {d : DataW H} {ps : List MemPlace} (ht : P.underlying t = some (.slice e)) (h : DataW.trod enc P W 0 sp true fuel t cs = some (d, ps)) :
    cs = [.slice none 0 0] ∨ ∃ (a : Addr) (cap m : Nat) (elems : List (DataW H × List MemPlace)) (rest : List (DataW H)), fuel = m + 1 ∧ cs = [.slice (some a) elems.length cap] ∧ elems.length ≤ cap ∧ cap ≤ maxLen ∧ d = .slice (elems.map (·.1)) rest ∧
      ∀ i x, elems[i]? = some x → ∃ es, W.cells? 0 (a.add (i * P.cellsOf e)) (P.cellsOf e) = some es ∧ DataW.trod enc P W 0 sp true m e es = some x := by
  rcases DataW.trod_slice ht h with ⟨h1, -⟩ | ⟨a, len, cap, elems, rest, n, rfl, rfl, hx, -, hl, hm, rfl, hel, -⟩
  · exact .inl h1
  · cases hx
    refine .inr ⟨a, cap, n, elems, _, rfl, rfl, hl, hm, rfl, fun i x hx => ?_⟩
    have hi := (List.getElem?_eq_some_iff.1 hx).1
    have := hel i hi
    rw [hx, Option.bind_eq_some_iff] at this
    exact this
theorem ndL_nil : nd.ndL [] = 0 := by rw [nd.ndL]
theorem ndL_cons {t : Tm} {l : List Tm} : nd.ndL (t :: l) = nd t + nd.ndL l := by rw [nd.ndL]
theorem nd_pos (t : Tm) : 1 ≤ nd t := by rw [nd_args]; omega
theorem ndL_len : ∀ l : List Tm, l.length ≤ nd.ndL l
  | [] => Nat.zero_le _
  | t :: l => by have := ndL_len l; have := nd_pos t; rw [ndL_cons, List.length_cons]; omega
theorem ndL_occ : ∀ l : List Tm, (occL l).length ≤ nd.ndL l
  | [] => by rw [occL]; exact Nat.zero_le _
  | t :: l => by have := ndL_occ l; have := occ_nd _ t (Nat.lt_succ_self _); rw [ndL_cons, occL, List.length_append]; omega
theorem sum_nd {w : DataW H → Nat} : ∀ (es : List (DataW H × List MemPlace)) (f : Nat → Tm), (∀ i x, es[i]? = some x → 7 * nd (f i) ≤ w x.1) → 7 * nd.ndL ((List.range es.length).map f) ≤ ((es.map (·.1)).map w).sum
  | [], f, _ => by simp [ndL_nil]
  | x :: es, f, h => by
    have h0 := h 0 x rfl
    have ih := sum_nd (w := w) es (fun i => f (i + 1)) fun i y hy => h (i + 1) y hy
    rw [List.length_cons, List.range_succ_eq_map, List.map_cons, List.map_map, ndL_cons, List.map_cons, List.map_cons, List.sum_cons]
    have e : (f ∘ Nat.succ) = fun i => f (i + 1) := rfl
    rw [e]; omega
theorem heapW_ro {b : Nat} {B : Blk} (h : (heapW P W).get b = some B) : ∃ cs e, B = .ro cs e := by
  rw [heapW_get] at h
  split at h
  · unfold blkW at h
    split at h
    · cases h; exact ⟨_, _, rfl⟩
    · cases h
  · cases h
theorem load_ro {b o n : Nat} {cs : List Value} (h : (heapW P W).load ⟨b, o, none⟩ n = some cs) : ∃ cs e, (heapW P W).get b = some (.ro cs e) := by
  cases hg : (heapW P W).get b with
  | none => unfold Heap.load Heap.cells at h; simp [hg] at h
  | some B => obtain ⟨cs, e, rfl⟩ := heapW_ro hg; exact ⟨cs, e, rfl⟩
theorem elems_w {tT tS tI tG tU : TypeId} (T : TermTypes P tT tS tI tG tU) {w : DataW H → Nat} {a : Addr} {m cap : Nat} {elems : List (DataW H × List MemPlace)}
    (hnc : elems.length ≤ cap) (hcm : cap ≤ maxLen)
    (ih : ∀ (cs : List Value) (d : DataW H) (ps : List MemPlace), DataW.trod enc P W 0 sp true m tT cs = some (d, ps) → ∃ t, RepT (heapW P W) t (cs.map (ab P W)) ∧ 7 * nd t ≤ w d)
    (hel : ∀ i x, elems[i]? = some x → ∃ es, W.cells? 0 (a.add (i * P.cellsOf tT)) (P.cellsOf tT) = some es ∧ DataW.trod enc P W 0 sp true m tT es = some x) :
    ∃ l a' cells, ab P W (.slice (some a) elems.length cap) = .slice (some a') l.length cap ∧ RepL (heapW P W) l (some a') cap cells ∧ 7 * nd.ndL l ≤ ((elems.map (·.1)).map w).sum ∧ (0 < l.length → a'.spot = none ∧ ∃ cs e, (heapW P W).get a'.block = some (.ro cs e)) := by
  rw [T.cT] at hel
  have hsp : 0 < elems.length → a.spot = none := fun hn => by
    obtain ⟨es, he, _⟩ := hel 0 elems[0] (List.getElem?_eq_getElem hn)
    exact slice_spot (by omega) he
  have key : ∀ i, ∃ t cells, (∀ x, elems[i]? = some x → (heapW P W).load ⟨a.block, a.off + i * 6, none⟩ 6 = some cells ∧ RepT (heapW P W) t cells ∧ 7 * nd t ≤ w x.1) := fun i => by
    by_cases hi : i < elems.length
    · obtain ⟨es, he, ht⟩ := hel i elems[i] (List.getElem?_eq_getElem hi)
      obtain ⟨t, hr, hwt⟩ := ih es elems[i].1 elems[i].2 ht
      exact ⟨t, _, fun x hx => by rw [List.getElem?_eq_getElem hi] at hx; cases hx; exact ⟨(elem_load (by omega) he (hsp (by omega))).1, hr, hwt⟩⟩
    · exact ⟨.mk 0 ByteArray.empty ByteArray.empty 0 0 [], [], fun x hx => absurd (List.getElem?_eq_some_iff.1 hx).1 hi⟩
  obtain ⟨T', hT'⟩ := Classical.axiomOfChoice key
  obtain ⟨C, hC⟩ := Classical.axiomOfChoice hT'
  have hlen : ((List.range elems.length).map T').length = elems.length := by simp
  have hsum := sum_nd (w := w) elems T' fun i x hx => (hC i x hx).2.2
  by_cases hn : 0 < elems.length
  · have hbl : a.block < W.heap.size := by
      obtain ⟨es, he, _⟩ := hel 0 elems[0] (List.getElem?_eq_getElem hn)
      exact (elem_load (P := P) (by omega) he (hsp hn)).2.2
    have hab : ab P W (.slice (some a) elems.length cap) = .slice (some a) ((List.range elems.length).map T').length cap := by
      unfold ab
      rw [hlen]
      simp only
      rw [if_pos ⟨hnc, hcm⟩, if_pos ⟨hsp hn, hbl⟩]
    refine ⟨(List.range elems.length).map T', a, C, hab, ⟨by rw [hlen]; exact hnc, hcm, fun h => (by cases h), fun i ad hi ha => ?_, fun i t ht => ?_⟩, hsum, fun _ => ⟨hsp hn, load_ro (hC 0 _ (List.getElem?_eq_getElem hn)).1⟩⟩
    · cases ha
      rw [hlen] at hi
      exact ⟨hsp hn, (hC i _ (List.getElem?_eq_getElem hi)).1⟩
    · rw [List.getElem?_map, Option.map_eq_some_iff] at ht
      obtain ⟨j, hj, rfl⟩ := ht
      have hi : i < elems.length := by have := (List.getElem?_eq_some_iff.1 hj).1; simpa using this
      rw [List.getElem?_range hi] at hj
      cases hj
      exact (hC i _ (List.getElem?_eq_getElem hi)).2.1
  · have hn0 : elems.length = 0 := by omega
    obtain ⟨a', hab⟩ : ∃ a', ab P W (.slice (some a) elems.length cap) = .slice (some a') 0 cap := by
      unfold ab
      simp only
      rw [if_pos ⟨hnc, hcm⟩, hn0]
      split
      · exact ⟨_, rfl⟩
      · exact ⟨_, rfl⟩
    exact ⟨[], a', fun _ => [], hab, ⟨Nat.zero_le _, hcm, fun h => (by cases h), fun i ad hi => by simp at hi, fun i t h => by simp at h⟩, by simp [ndL_nil], fun h => by simp at h⟩
theorem rep_w {tT tS tI tG tU : TypeId} (T : TermTypes P tT tS tI tG tU) {w : DataW H → Nat} (hw : Wt w) : ∀ (fuel : Nat) (cs : List Value) (d : DataW H) (ps : List MemPlace), DataW.trod enc P W 0 sp true fuel tT cs = some (d, ps) → ∃ t, RepT (heapW P W) t (cs.map (ab P W)) ∧ 7 * nd t ≤ w d := by
  intro fuel
  induction fuel using Nat.strongRecOn with
  | _ fuel ih =>
  intro cs d ps h
  obtain ⟨fs, hf, hfs⟩ := T.fields
  obtain ⟨m, xs, rfl, hl, rfl, hall⟩ := trod_struct_w hf h
  rw [T.cT] at hl
  have fld : ∀ i o u, ((fs.toList.map fun f => (f.offset, f.type)))[i]? = some (o, u) → P.cellsOf u = 1 → ∃ x, xs[i]? = some x ∧ DataW.trod enc P W 0 sp true m u ((cs.drop o).take 1) = some x := fun i o u hi hu => by
    rw [List.getElem?_map, Option.map_eq_some_iff] at hi
    obtain ⟨f, hf1, hf2⟩ := hi
    obtain ⟨x, hx, hd⟩ := hall i f (by simpa using hf1)
    cases hf2
    rw [hu] at hd
    exact ⟨x, hx, hd⟩
  rw [hfs] at fld
  obtain ⟨d0, p0, t0⟩ := fld 0 0 tI rfl T.cI
  obtain ⟨d1, p1, t1⟩ := fld 1 1 tG rfl T.cG
  obtain ⟨d2, p2, t2⟩ := fld 2 2 tG rfl T.cG
  obtain ⟨d3, p3, t3⟩ := fld 3 3 tU rfl T.cU
  obtain ⟨d4, p4, t4⟩ := fld 4 4 tI rfl T.cI
  obtain ⟨d5, p5, t5⟩ := fld 5 5 tS rfl T.cS
  have hbulk : 6 + w d5.1 ≤ w (.agg (xs.map (·.1))) := by
    have h1 := hw.agg (xs.map (·.1))
    match xs, p0, p1, p2, p3, p4, p5, h1 with
    | x0 :: x1 :: x2 :: x3 :: x4 :: x5 :: r, p0, p1, p2, p3, p4, p5, h1 =>
      cases p5
      simp only [List.map_cons, List.sum_cons] at h1 ⊢
      have := hw.pos x0.1; have := hw.pos x1.1; have := hw.pos x2.1; have := hw.pos x3.1; have := hw.pos x4.1
      omega
  obtain ⟨k, h0, w0⟩ := trod_int T.int t0
  obtain ⟨s, h1, w1⟩ := trod_string T.str t1
  obtain ⟨u, h2, w2⟩ := trod_string T.str t2
  obtain ⟨b, h3, w3⟩ := trod_int T.u64 t3
  obtain ⟨v, h4, w4⟩ := trod_int T.int t4
  have hp5 := hw.pos d5.1
  obtain ⟨d5, q5⟩ := d5
  rcases trod_slice_w T.slice t5 with h5 | ⟨a, c, m', elems, rest, rfl, h5, hnc, hcm, rfl, hel⟩
  · rw [list_six hl (one_at h0) (one_at h1) (one_at h2) (one_at h3) (one_at h4) (one_at h5)]
    refine ⟨.mk k s u b v [], .mk k s u b v [] none 0 (fun _ => []) (wf_i64 w0) w1 w2 (wf_u64 w3) (wf_i64 w4) (Nat.zero_le _) (Nat.le_refl _) (Nat.zero_le _) (fun _ => ⟨rfl, rfl⟩) (fun i ad hi => by simp at hi) (fun i t ht => by simp at ht), ?_⟩
    rw [nd_args, show (Tm.mk k s u b v []).args = [] from rfl, ndL_nil]
    try simp only at hbulk
    try simp only at hp5
    omega
  · rw [list_six hl (one_at h0) (one_at h1) (one_at h2) (one_at h3) (one_at h4) (one_at h5)]
    obtain ⟨l, a', C, hab, rl, hn, -⟩ := elems_w T hnc hcm (ih m' (by omega)) hel
    simp only [List.map_cons, List.map_nil, ab_int, ab_string, hab]
    refine ⟨.mk k s u b v l, .mk k s u b v l (some a') c C (wf_i64 w0) w1 w2 (wf_u64 w3) (wf_i64 w4) (Nat.le_trans rl.len hcm) rl.len hcm (fun h => (by cases h)) rl.load rl.rep, ?_⟩
    rw [nd_args, show (Tm.mk k s u b v l).args = l from rfl]
    have := hw.slice (elems.map (·.1)) rest
    try simp only at hbulk
    try simp only at hp5
    omega
/-- an argument that is a slice, and its bulk -/
theorem slice_arg_w {tT tS tI tG tU : TypeId} (T : TermTypes P tT tS tI tG tU) {w : DataW H → Nat} (hw : Wt w) {v : Value} {fuel : Nat} {d : DataW H} {ps : List MemPlace} (h : DataW.trod enc P W 0 sp true fuel tS v.cells.toList = some (d, ps)) (hv : ∀ cs, v ≠ .agg cs) :
    ∃ l a c cells, abV P W v = .slice a l.length c ∧ RepL (heapW P W) l a c cells ∧ 7 * nd.ndL l ≤ w d ∧ ∀ b o, a = some ⟨b, o, none⟩ → 0 < l.length → ∃ cs e', (heapW P W).get b = some (.ro cs e') := by
  have hc : v.cells.toList = [v] := by
    unfold Value.cells
    split
    · rename_i cs; exact absurd rfl (hv cs)
    · rfl
  rw [hc] at h
  have hab : abV P W v = ab P W v := by
    unfold abV
    split
    · rename_i cs; exact absurd rfl (hv _)
    · rfl
  rw [hab]
  rcases trod_slice_w T.slice h with h5 | ⟨a, c, m', elems, rest, rfl, h5, hnc, hcm, rfl, hel⟩
  · cases h5
    exact ⟨[], none, 0, fun _ => [], rfl, ⟨Nat.le_refl _, Nat.zero_le _, fun _ => ⟨rfl, rfl⟩, fun i ad hi => by simp at hi, fun i t h => by simp at h⟩, by simp [ndL_nil], fun b o h => by cases h⟩
  · cases h5
    obtain ⟨l, a', C, hab, rl, hn, hro⟩ := elems_w T hnc hcm (rep_w T hw m') hel
    have := hw.slice (elems.map (·.1)) rest
    exact ⟨l, some a', c, C, hab, rl, by omega, fun b o e hl => by cases e; exact (hro hl).2⟩
end
end Go.Proofs.YtlllbkjiadcloaaDoor.hb
end
