import Derived.Test.YthkogijbkachdaaDoorM4
import Derived.Test.YthkogijbkachdaaDoorM3
/- Lemmas on the program's own code, towards the laws of this folder, part 5. Conditions: as each lemma says. -/
-- Sg0
section
namespace Go.Hb
open Go Go.RowKit
inductive Fld where
  | sl (e : TypeId) (w : Nat) (L : List (List Value))
  | mp (M : List (Value × Value))
def blkOf : Value → Option Nat
  | .slice (some a) _ _ => some a.block
  | .map (some r) => some r
  | _ => none
def FR (H : Heap) (B : Nat) : Fld → Value → Prop
  | .sl e w L, v => RepO H e w B L v
  | .mp M, v => ∃ r es clock, v = .map (some r) ∧ B ≤ r ∧ r < H.next ∧ H.get r = some (.map es clock) ∧ es.map (fun e => (e.key, e.val)) = M
structure StR (H : Heap) (B s : Nat) (T : TypeId) (F : List Fld) (V : List Value) : Prop where
  obj : H.get s = some (.row V T)
  ge : B ≤ s
  len : F.length = V.length
  fld : ∀ (i : Nat) f v, F[i]? = some f → V[i]? = some v → FR H B f v
  apart : ∀ (i j : Nat) v u n, V[i]? = some v → V[j]? = some u → blkOf v = some n → blkOf u = some n → i = j
  off : ∀ (i : Nat) v, V[i]? = some v → blkOf v ≠ some s
  ones : V.all one = true
def Mut (H : Heap) (s n : Nat) : Prop := n = s ∨ ∃ V T, H.get s = some (.row V T) ∧ ∃ v ∈ V, blkOf v = some n
structure SX (s : Nat) (H H' : Heap) : Prop where
  hk : HK (Mut H s) H H'
  mt : ∀ n, Mut H' s n → Mut H s n ∨ H.next ≤ n
theorem SX.wf {s : Nat} {H H' : Heap} (h : SX s H H') : H'.wf := h.hk.wf
theorem SX.next {s : Nat} {H H' : Heap} (h : SX s H H') : H.next ≤ H'.next := h.hk.next
theorem SX.refl {s : Nat} {H : Heap} (hw : H.wf) : SX s H H := ⟨HK.refl hw, fun _ h => .inl h⟩
theorem SX.trans {s : Nat} {A B C : Heap} (h : SX s A B) (k : SX s B C) : SX s A C :=
  ⟨h.hk.step k.hk fun n hn q => by rcases h.mt n q with q | q; exact q; omega, fun n q => by
    rcases k.mt n q with q | q
    · exact h.mt n q
    · exact .inr (Nat.le_trans h.next q)⟩
theorem HX.sx {s : Nat} {H H' : Heap} (h : HX H H') (hs : s < H.next) : SX s H H' :=
  ⟨h.hk _, fun n q => by
    rcases q with q | ⟨V, T, hg, q⟩
    · exact .inl (.inl q)
    · exact .inl (.inr ⟨V, T, (h.keep s hs).symm.trans hg, q⟩)⟩
theorem SX.get {s n : Nat} {H H' : Heap} (h : SX s H H') (hn : n < H.next) (hm : ¬ Mut H s n) : H'.get n = H.get n := h.hk.keep n hn hm
section
variable {H : Heap} {B s : Nat} {T : TypeId} {F : List Fld} {V : List Value}
theorem FR.lo {f : Fld} {v : Value} {n : Nat} (h : FR H B f v) (hn : blkOf v = some n) : B ≤ n ∧ n < H.next := by
  cases f with
  | sl e w L =>
    rcases h with ⟨rfl, rfl⟩ | ⟨b, c, h, rfl⟩
    · cases hn
    · cases hn; exact ⟨h.lo, h.hi⟩
  | mp M =>
    obtain ⟨r, es, clock, rfl, h1, h2, -⟩ := h
    cases hn; exact ⟨h1, h2⟩
theorem FR.heap {f : Fld} {v : Value} (h : FR H B f v) {H' : Heap} (hk : ∀ n, blkOf v = some n → H'.get n = H.get n) (hn : H.next ≤ H'.next) : FR H' B f v := by
  cases f with
  | sl e w L =>
    rcases h with h | ⟨b, c, h, rfl⟩
    · exact .inl h
    · exact .inr ⟨b, c, h.heap (hk b rfl) hn, rfl⟩
  | mp M =>
    obtain ⟨r, es, clock, rfl, h1, h2, h3, h4⟩ := h
    exact ⟨r, es, clock, rfl, h1, Nat.lt_of_lt_of_le h2 hn, (hk r rfl).trans h3, h4⟩
theorem StR.has (h : StR H B s T F V) {i : Nat} {v : Value} (hv : V[i]? = some v) : ∃ f, F[i]? = some f ∧ FR H B f v := by
  have hi : i < F.length := by rw [h.len]; exact (List.getElem?_eq_some_iff.1 hv).1
  exact ⟨F[i], List.getElem?_eq_getElem hi, h.fld i _ _ (List.getElem?_eq_getElem hi) hv⟩
theorem StR.mlo (h : StR H B s T F V) {n : Nat} (hn : Mut H s n) : B ≤ n := by
  rcases hn with rfl | ⟨V', T', hg, v, hv, hb⟩
  · exact h.ge
  · rw [h.obj] at hg; cases hg
    obtain ⟨i, hi, rfl⟩ := List.getElem_of_mem hv
    obtain ⟨f, -, hf⟩ := h.has (List.getElem?_eq_getElem hi)
    exact (hf.lo hb).1
theorem StR.mhi (h : StR H B s T F V) (hw : H.wf) {n : Nat} (hn : Mut H s n) : n < H.next := by
  rcases hn with rfl | ⟨V', T', hg, v, hv, hb⟩
  · exact hw _ _ h.obj
  · rw [h.obj] at hg; cases hg
    obtain ⟨i, hi, rfl⟩ := List.getElem_of_mem hv
    obtain ⟨f, -, hf⟩ := h.has (List.getElem?_eq_getElem hi)
    exact (hf.lo hb).2
theorem StR.lt (h : StR H B s T F V) (hw : H.wf) : s < H.next := hw _ _ h.obj
theorem StR.hx (h : StR H B s T F V) {H0 H' : Heap} (h0 : HX H0 H) (hb : H0.next ≤ B) (hx : SX s H H') : HX H0 H' := h0.then hx.hk fun n hn q => by have := h.mlo q; omega
theorem StR.keep (h : StR H B s T F V) (hw : H.wf) {H' : Heap} (hx : HX H H') : StR H' B s T F V :=
  ⟨hx.get hw h.obj, h.ge, h.len, fun i f v hf hv => by
    have q := h.fld i f v hf hv
    exact q.heap (fun n hn => hx.keep n (q.lo hn).2) hx.next, h.apart, h.off, h.ones⟩
theorem StR.put (h : StR H B s T F V) (hw : H.wf) {H2 : Heap} (hw2 : H2.wf) (hn : H.next ≤ H2.next) {i : Nat} {v v' : Value} {f' : Fld} (hV : V[i]? = some v) (hk : ∀ n, n < H.next → blkOf v ≠ some n → H2.get n = H.get n)
    (hf : FR H2 B f' v') (hb : ∀ n, blkOf v' = some n → blkOf v = some n ∨ H.next ≤ n) (ho : one v' = true) :
    StR (H2.put s (some (.row (V.set i v') T))) B s T (F.set i f') (V.set i v') ∧ SX s H (H2.put s (some (.row (V.set i v') T))) := by
  have hs := h.lt hw
  have hi : i < V.length := (List.getElem?_eq_some_iff.1 hV).1
  have hmem : v ∈ V := List.mem_of_getElem? hV
  obtain ⟨f, hF, hfv⟩ := h.has hV
  have hvs := h.off i v hV
  have hb's : blkOf v' ≠ some s := fun q => by
    rcases hb s q with q | q
    · exact hvs q
    · omega
  have hset : ∀ (j : Nat) u, (V.set i v')[j]? = some u → (j = i ∧ u = v') ∨ (j ≠ i ∧ V[j]? = some u) := fun j u q => by
    rw [List.getElem?_set] at q
    by_cases hij : i = j
    · rw [if_pos hij, if_pos hi] at q; cases q; exact .inl ⟨hij.symm, rfl⟩
    · rw [if_neg hij] at q; exact .inr ⟨fun e => hij e.symm, q⟩
  have hw' : (H2.put s (some (.row (V.set i v') T))).wf := by
    intro n D hD
    rw [get_put] at hD
    rw [z0s]
    split at hD
    · subst n; omega
    · exact hw2 _ _ hD
  refine ⟨⟨by rw [get_put, if_pos rfl], h.ge, by rw [List.length_set, List.length_set]; exact h.len, fun j g u hg hu => ?_, fun j k u u' n h1 h2 h3 h4 => ?_, fun j u hu => ?_, ?_⟩, ⟨⟨by rw [z0s]; exact hn, fun n hn' hm => ?_, hw'⟩, fun n hm => ?_⟩⟩
  · rcases hset j u hu with ⟨rfl, rfl⟩ | ⟨hj, hu'⟩
    · rw [List.getElem?_set, if_pos rfl, if_pos (by rw [h.len]; exact hi)] at hg
      cases hg
      refine hf.heap (fun n hn => ?_) (by rw [z0s]; exact Nat.le_refl _)
      rw [get_put, if_neg (fun e : n = s => hb's (e ▸ hn))]
    · rw [List.getElem?_set, if_neg (fun e => hj e.symm)] at hg
      have q := h.fld j g u hg hu'
      refine q.heap (fun n hn => ?_) (by rw [z0s]; exact hn)
      rw [get_put, if_neg (fun e : n = s => h.off j u hu' (e ▸ hn))]
      exact hk n (q.lo hn).2 fun e => hj (h.apart j i u v n hu' hV hn e)
  · rcases hset j u h1 with ⟨rfl, rfl⟩ | ⟨hj, hu⟩
    · rcases hset k u' h2 with ⟨rfl, rfl⟩ | ⟨hk', hu'⟩
      · rfl
      · rcases hb n h3 with q | q
        · exact h.apart _ _ _ _ n hV hu' q h4
        · obtain ⟨f2, -, q2⟩ := h.has hu'
          have := (q2.lo h4).2; omega
    · rcases hset k u' h2 with ⟨rfl, rfl⟩ | ⟨hk', hu'⟩
      · rcases hb n h4 with q | q
        · exact h.apart _ _ _ _ n hu hV h3 q
        · obtain ⟨f2, -, q2⟩ := h.has hu
          have := (q2.lo h3).2; omega
      · exact h.apart _ _ _ _ n hu hu' h3 h4
  · rcases hset j u hu with ⟨rfl, rfl⟩ | ⟨hj, hu'⟩
    · exact hb's
    · exact h.off j u hu'
  · rw [List.all_eq_true]
    intro u hu
    rcases List.mem_or_eq_of_mem_set hu with q | q
    · exact List.all_eq_true.1 h.ones u q
    · rw [q]; exact ho
  · rw [get_put, if_neg (fun e => hm (.inl e))]
    exact hk n hn' fun e => hm (.inr ⟨V, T, h.obj, v, hmem, e⟩)
  · rcases hm with q | ⟨V', T', hg, u, hu, hub⟩
    · exact .inl (.inl q)
    · rw [get_put, if_pos rfl] at hg
      cases hg
      rcases List.mem_or_eq_of_mem_set hu with q | q
      · exact .inl (.inr ⟨V, T, h.obj, u, q, hub⟩)
      · rw [q] at hub
        rcases hb n hub with e | e
        · exact .inl (.inr ⟨V, T, h.obj, v, hmem, e⟩)
        · exact .inr e
theorem z91 {α : Type} {l : List α} {i : Nat} {v : α} (h : l[i]? = some v) : l.set i v = l := by
  apply List.ext_getElem?
  intro j
  rw [List.getElem?_set]
  by_cases hj : i = j
  · subst hj; rw [if_pos rfl, if_pos (List.getElem?_eq_some_iff.1 h).1, h]
  · rw [if_neg hj]
theorem StR.alter (h : StR H B s T F V) (hw : H.wf) {H2 : Heap} (hw2 : H2.wf) (hn : H.next ≤ H2.next) {i : Nat} {v : Value} {f' : Fld} (hV : V[i]? = some v) (hk : ∀ n, n < H.next → blkOf v ≠ some n → H2.get n = H.get n)
    (hf : FR H2 B f' v) : StR H2 B s T (F.set i f') V ∧ SX s H H2 := by
  have hs := h.lt hw
  have hi : i < V.length := (List.getElem?_eq_some_iff.1 hV).1
  have hmem : v ∈ V := List.mem_of_getElem? hV
  have hvs := h.off i v hV
  have hobj : H2.get s = some (.row V T) := (hk s hs hvs).trans h.obj
  refine ⟨⟨hobj, h.ge, by rw [List.length_set]; exact h.len, fun j g u hg hu => ?_, h.apart, h.off, h.ones⟩, ⟨⟨hn, fun n hn' hm => ?_, hw2⟩, fun n hm => ?_⟩⟩
  · by_cases hj : i = j
    · subst hj
      rw [List.getElem?_set, if_pos rfl, if_pos (by rw [h.len]; exact hi)] at hg
      cases hg
      rw [hV] at hu; cases hu; exact hf
    · rw [List.getElem?_set, if_neg hj] at hg
      have q := h.fld j g u hg hu
      exact q.heap (fun n hn => hk n (q.lo hn).2 fun e => hj (h.apart j i u v n hu hV hn e).symm) hn
  · exact hk n hn' fun e => hm (.inr ⟨V, T, h.obj, v, hmem, e⟩)
  · rcases hm with q | ⟨V', T', hg, u, hu, hub⟩
    · exact .inl (.inl q)
    · rw [hobj] at hg; cases hg
      exact .inl (.inr ⟨V, T, h.obj, u, hu, hub⟩)
theorem StR.load (h : StR H B s T F V) {i : Nat} {v : Value} (hv : V[i]? = some v) : H.load ⟨s, i, none⟩ 1 = some [v] := by
  unfold Heap.load Heap.cells
  simp only [h.obj]
  have hi := List.getElem?_eq_some_iff.1 hv
  have e : (V.drop i).take 1 = [v] := by
    rw [List.drop_eq_getElem_cons hi.1, List.take_succ_cons, List.take_zero, hi.2]
  rw [e]; rfl
theorem StR.sl (h : StR H B s T F V) {i : Nat} {v : Value} {e : TypeId} {w : Nat} {L : List (List Value)} (hF : F[i]? = some (.sl e w L)) (hV : V[i]? = some v) : ∃ a c, v = .slice a L.length c ∧ L.length ≤ c ∧ c ≤ maxLen :=
  RepO.slice (h.fld i _ _ hF hV)
theorem StR.el (h : StR H B s T F V) {i n c k : Nat} {a : Option Addr} {e : TypeId} {w : Nat} {L : List (List Value)} {x : List Value} (hF : F[i]? = some (.sl e w L)) (hV : V[i]? = some (.slice a n c)) (hx : L[k]? = some x) :
    ∃ b, a = some ⟨b, 0, none⟩ ∧ OwnS H e w B L b c ∧ H.load ⟨b, k * w, none⟩ w = some x := by
  rcases h.fld i _ _ hF hV with ⟨rfl, q⟩ | ⟨b, c', q, e⟩
  · simp at hx
  · cases e
    exact ⟨b, rfl, q, q.load hx⟩
theorem FR.push {P : Program} {t e : TypeId} {w : Nat} {L : List (List Value)} {v : Value} (h : FR H B (.sl e w L) v) (hw : H.wf) (hp : apOk P t e w) {y : List Value} {ad : Addr} {c1 : Nat} (hl : H.load ad (1 * w) = some y) (hy : y.length = w) (ha : y.all one = true) (hm : L.length + 1 ≤ most) (hB : B ≤ H.next) :
    ∃ H2 c, dAp P #[t, t] v (.slice (some ad) 1 c1) H = some (.val (.slice (some ⟨H.next, 0, none⟩) (L.length + 1) c) H2) ∧ OwnS H2 e w B (L ++ [y]) H.next c ∧ H2.next = H.next + 1 ∧ H2.wf ∧ (∀ n, n < H.next → blkOf v ≠ some n → H2.get n = H.get n) ∧ H2.get H.next = some (.row (L ++ [y]).flatten e) := by
  have hmax : L.length + 1 ≤ maxLen := Nat.le_trans hm (by simp [most, maxLen])
  rcases h with ⟨rfl, rfl⟩ | ⟨b, c, h, rfl⟩
  · refine ⟨_, 1, z6m hp (by omega) hm hl ha, OwnS.first hy ha hB, rfl, ((HX.refl hw).new _).wf, fun n hn _ => z1j hn, by rw [z0p]; simp⟩
  · obtain ⟨cs, hg, hle, ht⟩ := h.row
    have hbn : b < H.next := h.hi
    have hone : (cs.take (L.length * w)).all one = true := by
      rw [ht, List.all_eq_true]
      intro z hz
      obtain ⟨l, hl1, hl2⟩ := List.mem_flatten.1 hz
      exact List.all_eq_true.1 (h.all l hl1) z hl2
    refine ⟨_, _, z6n hp (by omega) hm hl ha hg hle hone, h.push hg hy ha hmax hB, rfl, (((HK.refl (S := fun n => n = b) hw).put (.inl rfl) hbn none).new _).wf, fun n hn hne => ?_, ?_⟩
    · rw [z1j (by rw [z0s]; exact hn), z3f (fun e => hne (by rw [e]; rfl))]
    · show ((H.put b none).new _).get (H.put b none).next = _
      rw [z0p, ht, List.flatten_append]; simp
theorem StR.pushed {P : Program} {t e : TypeId} {w i c1 : Nat} {L : List (List Value)} {v : Value} {y : List Value} {ad : Addr} (h : StR H B s T F V) (hw : H.wf) (hp : apOk P t e w) (hF : F[i]? = some (.sl e w L)) (hV : V[i]? = some v) (hl : H.load ad (1 * w) = some y)
    (hy : y.length = w) (ha : y.all one = true) (hm : L.length + 1 ≤ most) :
    ∃ H2 c, dAp P #[t, t] v (.slice (some ad) 1 c1) H = some (.val (.slice (some ⟨H.next, 0, none⟩) (L.length + 1) c) H2) ∧ H2.get s = some (.row V T) ∧ H2.wf ∧ (∀ n, n < H.next → blkOf v ≠ some n → H2.get n = H.get n) ∧ ∃ H3, H2.put s (some (.row (V.set i (.slice (some ⟨H.next, 0, none⟩) (L.length + 1) c)) T)) = H3 ∧
      StR H3 B s T (F.set i (.sl e w (L ++ [y]))) (V.set i (.slice (some ⟨H.next, 0, none⟩) (L.length + 1) c)) ∧ SX s H H3 := by
  have hB : B ≤ H.next := Nat.le_trans h.ge (Nat.le_of_lt (h.lt hw))
  obtain ⟨H2, c, e2, o2, n2, w2, k2, -⟩ := (h.fld i _ _ hF hV).push (c1 := c1) hw hp hl hy ha hm hB
  have p := h.put hw w2 (by omega) hV k2 (f' := .sl e w (L ++ [y])) (v' := .slice (some ⟨H.next, 0, none⟩) (L.length + 1) c) (.inr ⟨_, c, o2, by simp⟩) (fun n hn => .inr (by cases hn; exact Nat.le_refl _)) rfl
  exact ⟨H2, c, e2, (k2 s (h.lt hw) (h.off i v hV)).trans h.obj, w2, k2, _, rfl, p.1, p.2⟩
end
end Go.Hb
end

-- Sg1
section
namespace Go.Proofs.YthkogijbkachdaaDoor.hb
open Go Go.RowKit Go.Hb
variable {ok : Ok}
set_option maxRecDepth 10000
attribute [local irreducible] LX LG EL STG SOP SGO SGD SAL SRD SEF SEG SLK SCK ES
theorem z16 {P : Program} {α : Type} {a : α} : pureRun P (pure a) = some a := rfl
theorem z4u {P : Program} : pureRun P program = some P := rfl
theorem znd : Tryd.prog.stoodInHeld 49 = false := by kernel_rfl
theorem un49 : pureRun Tryd.prog (underlying 49) = some (.struct #[{ name := "Name", type := 9, offset := 0, embedded := false, tag := "", pkgPath := "", byteOffset := 0 }, { name := "Arity", type := 3, offset := 1, embedded := false, tag := "", pkgPath := "", byteOffset := 16 }]) := by kernel_rfl
theorem z76 {n : Nat} {cs : Array Value} {v : Value} (h : cs[n]? = some v) : pureRun Tryd.prog (part 3 cs n) = some v := by
  have h1 : pureRun Tryd.prog (isAgg 3) = some false := by kernel_rfl
  unfold part
  rw [z07, h1, Option.bind_some, h]; rfl
theorem zdg {n : Nat} {cs : Array Value} {v : Value} (h : cs[n]? = some v) : pureRun Tryd.prog (part 9 cs n) = some v := by
  have h1 : pureRun Tryd.prog (isAgg 9) = some false := by kernel_rfl
  unfold part
  rw [z07, h1, Option.bind_some, h]; rfl
theorem z92 {d : Nat} {a b : Int} : pureRun Tryd.prog (Op.equalIn (d + 1) 3 (.int .i64 a) (.int .i64 b)) = some (a == b) := by
  have hu : pureRun Tryd.prog (underlying 3) = some (.int .i64) := by kernel_rfl
  unfold Op.equalIn
  rw [z07, hu, Option.bind_some]; rfl
theorem zbw {d : Nat} {a b : ByteArray} : pureRun Tryd.prog (Op.equalIn (d + 1) 9 (.string a) (.string b)) = some (a == b) := by
  have hu : pureRun Tryd.prog (underlying 9) = some .string := by kernel_rfl
  unfold Op.equalIn
  rw [z07, hu, Option.bind_some]; rfl
theorem zmw {a b : ByteArray} {n m : Int} : pureRun Tryd.prog (Op.equal 49 (.agg #[.string a, .int .i64 n]) (.agg #[.string b, .int .i64 m])) = some (a == b && n == m) := by
  show pureRun Tryd.prog (Op.equalIn (9999 + 1) _ _ _) = _
  unfold Op.equalIn
  rw [z07, un49, Option.bind_some]
  simp only []
  rw [z07, z4u, Option.bind_some, znd]
  simp only [Bool.false_eq_true, if_false]
  have p1 : pureRun Tryd.prog (part 9 #[Value.string a, Value.int IntKind.i64 n] 0) = some (.string a) := zdg rfl
  have p2 : pureRun Tryd.prog (part 9 #[Value.string b, Value.int IntKind.i64 m] 0) = some (.string b) := zdg rfl
  have p3 : pureRun Tryd.prog (part 3 #[Value.string a, Value.int IntKind.i64 n] 1) = some (.int .i64 n) := z76 rfl
  have p4 : pureRun Tryd.prog (part 3 #[Value.string b, Value.int IntKind.i64 m] 1) = some (.int .i64 m) := z76 rfl
  have e1 : pureRun Tryd.prog (Op.equalIn 9999 9 (.string a) (.string b)) = some (a == b) := zbw
  have e2 : pureRun Tryd.prog (Op.equalIn 9999 3 (.int .i64 n) (.int .i64 m)) = some (n == m) := z92
  have nn : (("Name" : String) ≠ "_") = True := by simp
  have na : (("Arity" : String) ≠ "_") = True := by simp
  simp only [← Array.forIn_toList, List.forIn_cons, List.forIn_nil, z07, nn, na, if_true, p1, p2, e1, Option.bind_some]
  cases hab : a == b with
  | false => simp [z07, z16]
  | true =>
    simp only [Bool.not_true, Bool.false_eq_true, if_false, z07, z16, Option.bind_some, p3, p4, e2]
    cases hnm : n == m <;> simp [z07, z16]
end Go.Proofs.YthkogijbkachdaaDoor.hb
end

-- Sg2
section
namespace Go.Hb
open Go Go.RowKit
structure SS where
  cells : List (Int × Int)
  own : List Int
  vars : List Int
  flags : List Bool
  consts : List Tm
  funs : List (ByteArray × Int)
  trail : List (Int × Int)
  marks : List (Int × Int × Int)
abbrev two (p : Int × Int) : List Value := [.int .i64 p.1, .int .i64 p.2]
abbrev int1 (n : Int) : List Value := [.int .i64 n]
abbrev flg1 (b : Bool) : List Value := [.bool b]
abbrev six0 (t : Tm) : List Value := six t none 0
abbrev keyC (k : ByteArray × Int) : List Value := [.string k.1, .int .i64 k.2]
abbrev three (p : Int × Int × Int) : List Value := [.int .i64 p.1, .int .i64 p.2.1, .int .i64 p.2.2]
abbrev ckey (t : Tm) : Value := .agg ⟨[.int .i64 t.kind, .string t.name, .string t.num, .int .u64 t.bits]⟩
abbrev fkey (k : ByteArray × Int) : Value := .agg ⟨[.string k.1, .int .i64 k.2]⟩
def dNilC (v : Value) (H : Heap) : Option Dr := match v with
  | .pointer (some a) => some (.val (.pointer (some a)) H)
  | .func (.func f) a b => some (.val (.func (.func f) a b) H)
  | _ => none
theorem z05 {P : Program} {H : Heap} {d : Option Tmp} {x : Operand} {ty : TypeId} {pos : String} {af : Array Edge} {g : Option (Nat × Bool)} {ρ : Operand → Value} : dop P ⟨d, .nilCheck x, ty, pos, af, g⟩ ρ H = dNilC (ρ x) H := _root_.id rfl
theorem z08 {H : Heap} {a : Addr} : dNilC (.pointer (some a)) H = some (.val (.pointer (some a)) H) := _root_.id rfl
theorem z14 {H : Heap} {p : Nat} {T : TypeId} {x y : Value} (h : H.get p = some (.row [x, y] T)) : H.load ⟨p, 0, none⟩ 2 = some [x, y] ∧ H.load ⟨p, 0, none⟩ 1 = some [x] ∧ H.load ⟨p, 1, none⟩ 1 = some [y] := by
  simp only [Heap.load, Heap.cells, h]; exact ⟨rfl, rfl, rfl⟩
theorem zai {H : Heap} {p : Nat} {T : TypeId} {x y z : Value} (h : H.get p = some (.row [x, y, z] T)) : H.load ⟨p, 0, none⟩ 3 = some [x, y, z] ∧ H.load ⟨p, 0, none⟩ 1 = some [x] ∧ H.load ⟨p, 1, none⟩ 1 = some [y] ∧ H.load ⟨p, 2, none⟩ 1 = some [z] := by
  simp only [Heap.load, Heap.cells, h]; exact ⟨rfl, rfl, rfl, rfl⟩
theorem z2t {H : Heap} {p : Nat} {T : TypeId} {x : Value} (h : H.get p = some (.row [x] T)) : H.load ⟨p, 0, none⟩ 1 = some [x] := by
  simp only [Heap.load, Heap.cells, h]; rfl
def mapOf {α : Type} (key : α → Value) (l : List α) : List (Value × Value) := l.zipIdx.map fun p => (key p.1, .int .i64 (p.2 : Nat))
end Go.Hb
namespace Go.Proofs.YthkogijbkachdaaDoor.hb
open Go Go.RowKit Go.Hb
variable {ok : Ok}
set_option maxRecDepth 10000
attribute [local irreducible] LX LG EL STG SOP SGO SGD SAL SRD SEF SEG SLK SCK ES
def flds (σ : SS) : List Fld :=
  [.sl 37 2 (σ.cells.map two), .sl 3 1 (σ.own.map int1), .sl 3 1 (σ.vars.map int1), .sl 4 1 (σ.flags.map flg1), .sl 32 6 (σ.consts.map six0), .sl 49 2 (σ.funs.map keyC),
   .mp (mapOf ckey σ.consts), .mp (mapOf fkey σ.funs), .sl 78 2 (σ.trail.map two), .sl 70 3 (σ.marks.map three)]
def St (H : Heap) (B s : Nat) (σ : SS) : Prop := ∃ V, StR H B s 64 (flds σ) V
abbrev Bk (n c : Nat) : Prop := n ≤ c ∧ c ≤ maxLen
theorem isP : isPtr Tryd.prog 25 = true := by kernel_rfl
theorem bEqP {H : Heap} {x y : Operand} {a : Addr} : dBin Tryd.prog .eql 25 x y (.pointer (some a)) (.pointer none) H = some (.val (.bool false) H) := by
  simp only [dBin, dnil, isP, nilEq, if_true]
theorem St.open {H : Heap} {B s : Nat} {σ : SS} (hs : St H B s σ) : ∃ a0 c0 a1 c1 a2 c2 a3 c3 a4 c4 a5 c5 r6 r7 a8 c8 a9 c9,
    StR H B s 64 (flds σ) [.slice a0 σ.cells.length c0, .slice a1 σ.own.length c1, .slice a2 σ.vars.length c2, .slice a3 σ.flags.length c3, .slice a4 σ.consts.length c4, .slice a5 σ.funs.length c5, .map (some r6), .map (some r7), .slice a8 σ.trail.length c8, .slice a9 σ.marks.length c9] ∧
    H.load ⟨s, 0, none⟩ 1 = some [.slice a0 σ.cells.length c0] ∧ H.load ⟨s, 1, none⟩ 1 = some [.slice a1 σ.own.length c1] ∧ H.load ⟨s, 2, none⟩ 1 = some [.slice a2 σ.vars.length c2] ∧ H.load ⟨s, 3, none⟩ 1 = some [.slice a3 σ.flags.length c3] ∧ H.load ⟨s, 4, none⟩ 1 = some [.slice a4 σ.consts.length c4] ∧
    H.load ⟨s, 5, none⟩ 1 = some [.slice a5 σ.funs.length c5] ∧ H.load ⟨s, 6, none⟩ 1 = some [.map (some r6)] ∧ H.load ⟨s, 7, none⟩ 1 = some [.map (some r7)] ∧ H.load ⟨s, 8, none⟩ 1 = some [.slice a8 σ.trail.length c8] ∧ H.load ⟨s, 9, none⟩ 1 = some [.slice a9 σ.marks.length c9] ∧
    Bk σ.cells.length c0 ∧ Bk σ.own.length c1 ∧ Bk σ.vars.length c2 ∧ Bk σ.flags.length c3 ∧ Bk σ.consts.length c4 ∧ Bk σ.funs.length c5 ∧ Bk σ.trail.length c8 ∧ Bk σ.marks.length c9 := by
  obtain ⟨V, h⟩ := hs
  have hl := h.len
  match V, h, hl with
  | [v0, v1, v2, v3, v4, v5, v6, v7, v8, v9], h, _ =>
    obtain ⟨a0, c0, rfl, q0⟩ := h.sl (i := 0) rfl rfl
    obtain ⟨a1, c1, rfl, q1⟩ := h.sl (i := 1) rfl rfl
    obtain ⟨a2, c2, rfl, q2⟩ := h.sl (i := 2) rfl rfl
    obtain ⟨a3, c3, rfl, q3⟩ := h.sl (i := 3) rfl rfl
    obtain ⟨a4, c4, rfl, q4⟩ := h.sl (i := 4) rfl rfl
    obtain ⟨a5, c5, rfl, q5⟩ := h.sl (i := 5) rfl rfl
    obtain ⟨r6, -, -, rfl, -⟩ := h.fld 6 _ _ rfl rfl
    obtain ⟨r7, -, -, rfl, -⟩ := h.fld 7 _ _ rfl rfl
    obtain ⟨a8, c8, rfl, q8⟩ := h.sl (i := 8) rfl rfl
    obtain ⟨a9, c9, rfl, q9⟩ := h.sl (i := 9) rfl rfl
    simp only [List.length_map] at *
    exact ⟨a0, c0, a1, c1, a2, c2, a3, c3, a4, c4, a5, c5, r6, r7, a8, c8, a9, c9, h, h.load rfl, h.load rfl, h.load rfl, h.load rfl, h.load rfl, h.load rfl, h.load rfl, h.load rfl, h.load rfl, h.load rfl, q0, q1, q2, q3, q4, q5, q8, q9⟩
theorem St.keep {H H' : Heap} {B s : Nat} {σ : SS} (hs : St H B s σ) (hw : H.wf) (hx : HX H H') : St H' B s σ := hs.imp fun _ h => h.keep hw hx
theorem St.lt {H : Heap} {B s : Nat} {σ : SS} (hs : St H B s σ) (hw : H.wf) : s < H.next := by obtain ⟨V, h⟩ := hs; exact h.lt hw
theorem St.hx {H0 H H' : Heap} {B s : Nat} {σ : SS} (hs : St H B s σ) (h0 : HX H0 H) (hb : H0.next ≤ B) (hx : SX s H H') : HX H0 H' := by obtain ⟨V, h⟩ := hs; exact h.hx h0 hb hx
theorem St.mlo {H : Heap} {B s n : Nat} {σ : SS} (hs : St H B s σ) (hn : Mut H s n) : B ≤ n := by obtain ⟨V, h⟩ := hs; exact h.mlo hn
theorem St.mhi {H : Heap} {B s n : Nat} {σ : SS} (hs : St H B s σ) (hw : H.wf) (hn : Mut H s n) : n < H.next := by obtain ⟨V, h⟩ := hs; exact h.mhi hw hn
theorem St.ge {H : Heap} {B s : Nat} {σ : SS} (hs : St H B s σ) : B ≤ s := by obtain ⟨V, h⟩ := hs; exact h.ge
theorem zh4 {H : Heap} {B s : Nat} {σ : SS} (hs : St H B s σ) : EvF Tryd.prog okT 16 [.pointer (some ⟨s, 0, none⟩)] H fun v H' => v = .int .i64 σ.cells.length ∧ H' = H := by
  obtain ⟨a0, c0, a1, c1, a2, c2, a3, c3, a4, c4, a5, c5, r6, r7, a8, c8, a9, c9, h, l0, l1, l2, l3, l4, l5, l6, l7, l8, l9, b0, b1, b2, b3, b4, b5, b8, b9⟩ := hs.open
  refine EvF.enter rfl Tryd.func16 (by decide) rfl ?_
  repeat' (first | refine EvC.seq ?_ | refine EvC.scope ?_ | refine EvC.block ?_ | (refine EvC.skip ?_; try simp only [z04]) | (refine EvC.exit ?_) | (refine EvC.ret ?_; try simp only [z01, z00]) | (refine EvC.reg ?_; simp (config := { maxSteps := 2000000 }) (disch := first | omega | rfl) only [sB, initTm, Nat.reduceEqDiff, reduceCtorEq, z15, ld28, ln28, z05, z08, bEqP, l0]) | (refine EvC.condT ?_ ?_; simp (config := { maxSteps := 2000000 }) (disch := first | omega | rfl) only [sB, Nat.reduceEqDiff, reduceCtorEq]; refine z02 ?_) | (refine EvC.condF ?_ ?_; simp (config := { maxSteps := 2000000 }) (disch := first | omega | rfl) only [sB, Nat.reduceEqDiff, reduceCtorEq]; refine z02 ?_))
  exact z06 rfl (by simp only [sG, Nat.reduceEqDiff, reduceCtorEq] <;> rfl) ⟨rfl, rfl⟩
theorem zln {H : Heap} {B s : Nat} {σ : SS} (hs : St H B s σ) : EvF Tryd.prog okT 15 [.pointer (some ⟨s, 0, none⟩)] H fun v H' => v = .int .i64 σ.vars.length ∧ H' = H := by
  obtain ⟨a0, c0, a1, c1, a2, c2, a3, c3, a4, c4, a5, c5, r6, r7, a8, c8, a9, c9, h, l0, l1, l2, l3, l4, l5, l6, l7, l8, l9, b0, b1, b2, b3, b4, b5, b8, b9⟩ := hs.open
  refine EvF.enter rfl Tryd.func15 (by decide) rfl ?_
  repeat' (first | refine EvC.seq ?_ | refine EvC.scope ?_ | refine EvC.block ?_ | (refine EvC.skip ?_; try simp only [z04]) | (refine EvC.exit ?_) | (refine EvC.ret ?_; try simp only [z01, z00]) | (refine EvC.reg ?_; simp (config := { maxSteps := 2000000 }) (disch := first | omega | rfl) only [sB, initTm, Nat.reduceEqDiff, reduceCtorEq, z2e, ld47, ln47, z05, z08, bEqP, l2]) | (refine EvC.condT ?_ ?_; simp (config := { maxSteps := 2000000 }) (disch := first | omega | rfl) only [sB, Nat.reduceEqDiff, reduceCtorEq]; refine z02 ?_) | (refine EvC.condF ?_ ?_; simp (config := { maxSteps := 2000000 }) (disch := first | omega | rfl) only [sB, Nat.reduceEqDiff, reduceCtorEq]; refine z02 ?_))
  exact z06 rfl (by simp only [sG, Nat.reduceEqDiff, reduceCtorEq] <;> rfl) ⟨rfl, rfl⟩
theorem zbx {H : Heap} {B s : Nat} {σ : SS} {c : Int × Int} {o : Int} (hs : St H B s σ) (hw : H.wf) (hm : σ.cells.length + 1 ≤ most) (hm2 : σ.own.length + 1 ≤ most) :
    EvF Tryd.prog okT 22 [.pointer (some ⟨s, 0, none⟩), .agg ⟨two c⟩, .int .i64 o] H fun _ H' => St H' B s { σ with cells := σ.cells ++ [c], own := σ.own ++ [o] } ∧ SX s H H' := by
  refine EvF.enter rfl Tryd.func22 (by decide) rfl ?_
  (repeat refine EvC.seq ?_); refine EvC.reg ?_; simp (config := { maxSteps := 2000000 }) (disch := first | omega | rfl) only [sB, initTm, dBox, Nat.reduceEqDiff, Nat.reduceAdd, Value.cells, one, reduceCtorEq]
  obtain ⟨H1, e1, hx1, g1, n1, w1⟩ := new1 hw (.row (two c) 37)
  simp only [e1]
  have hs1 := hs.keep hw hx1
  obtain ⟨a0, c0, a1, c1, a2, c2, a3, c3, a4, c4, a5, c5, r6, r7, a8, c8, a9, c9, h, l0, l1, l2, l3, l4, l5, l6, l7, l8, l9, b0, b1, b2, b3, b4, b5, b8, b9⟩ := hs1.open
  have q1 := z14 g1
  repeat' (first | refine EvC.seq ?_ | refine EvC.scope ?_ | refine EvC.block ?_ | (refine EvC.skip ?_) | (refine EvC.exit ?_) | (refine EvC.ret ?_; try simp only [z01, z00]) | (refine EvC.drw [([(1, 0), (2, 0), (3, 0), (4, 0), (5, 0), (6, 0)], some 7), ([(0, 0), (8, 1), (9, 1)], some 10), ([], none)] ?_ ?_; kernel_rfl; simp (config := { maxSteps := 2000000 }) (disch := first | omega | rfl) only [sD, sB, Nat.reduceEqDiff, Nat.reduceAdd, Value.cells, one, reduceCtorEq, layC, z15, ld28, ld37, zm8, z05, z08, l0, q1, isAlloc, isRead, dalloc, reduceCtorEq]))
  obtain ⟨H2, e2, hx2, g2, w2⟩ := zg5 w1 11 6 (by omega) (.row (two c) 37)
  simp only [e2]
  obtain ⟨H3, k3, e3, g3, -, -, H4, e4, s4, x4⟩ := (h.keep w1 hx2).pushed (P := Tryd.prog) (i := 0) (c1 := 1) w2 ap28 rfl rfl (z14 g2).1 rfl rfl (by simpa using hm)
  simp only [List.set_cons_zero, List.set_cons_succ, List.length_map] at e3 e4
  have hs4 : St H4 B s { σ with cells := σ.cells ++ [c] } := ⟨_, by simpa [flds] using s4⟩
  clear s4
  obtain ⟨a0x, c0x, a1x, c1x, a2x, c2x, a3x, c3x, a4x, c4x, a5x, c5x, r6x, r7x, a8x, c8x, a9x, c9x, hx, l0x, l1x, l2x, l3x, l4x, l5x, l6x, l7x, l8x, l9x, b0x, b1x, b2x, b3x, b4x, b5x, b8x, b9x⟩ := hs4.open
  repeat' (first | refine EvC.seq ?_ | refine EvC.scope ?_ | refine EvC.block ?_ | (refine EvC.skip ?_) | (refine EvC.exit ?_) | (refine EvC.ret ?_; try simp only [z01, z00]) | (refine EvC.reg ?_; simp (config := { maxSteps := 2000000 }) (disch := first | omega | rfl) only [sB, Nat.reduceEqDiff, Value.cells, one, reduceCtorEq, layC, z5j, ld47, zg9, z05, z08, l1x]) | (refine zg1 ?_; simp (config := { maxSteps := 2000000 }) (disch := first | omega | rfl) only [sD, sB, Nat.reduceEqDiff, Nat.reduceAdd, one, reduceCtorEq, Nat.reduceLeDiff, z15, st28, z05, z08, e3, g3, e4, isAlloc, isRead, reduceCtorEq, z6u]))
  obtain ⟨H5, e5, hx5, g5, n5, w5⟩ := new1 x4.wf (.row (int1 o) 3)
  simp only [e5]
  obtain ⟨H6, k6, e6, g6, -, -, H7, e7, s7, x7⟩ := (hx.keep x4.wf hx5).pushed (P := Tryd.prog) (i := 1) (c1 := 1) w5 ap47 rfl rfl (z2t g5) rfl rfl (by simpa using hm2)
  simp only [List.set_cons_zero, List.set_cons_succ, List.length_map] at e6 e7
  have hs7 : St H7 B s { σ with cells := σ.cells ++ [c], own := σ.own ++ [o] } := ⟨_, by simpa [flds] using s7⟩
  repeat' (first | refine EvC.seq ?_ | refine EvC.scope ?_ | refine EvC.block ?_ | (refine EvC.skip ?_) | (refine EvC.exit ?_) | (refine EvC.ret ?_; try simp only [z01, z00]) | (refine z0l ?_; simp (config := { maxSteps := 2000000 }) (disch := first | omega | rfl) only [sB, Nat.reduceEqDiff, Nat.reduceAdd, one, reduceCtorEq, Nat.reduceLeDiff, z5j, st47, z05, z08, e6, g6, e7]))
  exact z27 rfl ⟨hs7, ((hx1.sx (hs.lt hw)).trans (hx2.sx (hs1.lt w1))).trans (x4.trans ((hx5.sx (hs4.lt x4.wf)).trans x7))⟩
end Go.Proofs.YthkogijbkachdaaDoor.hb
end

-- Sg3
section
namespace Go.Hb
open Go Go.RowKit
def gi (l : List Int) (v : Int) : Int := (l[v.toNat]?).getD 0
theorem z85 {l : List Int} {n : Nat} (h : n < l.length) : l[n]? = some (gi l n) := by
  unfold gi; rw [Int.toNat_natCast, List.getElem?_eq_getElem h]; rfl
def ci (l : List (Int × Int)) (v : Int) : Int × Int := (l[v.toNat]?).getD (0, 0)
theorem z3y {l : List (Int × Int)} {n : Nat} (h : n < l.length) : l[n]? = some (ci l n) := by
  unfold ci; rw [Int.toNat_natCast, List.getElem?_eq_getElem h]; rfl
theorem StR.el1 {H : Heap} {B s : Nat} {T : TypeId} {F : List Fld} {V : List Value} (h : StR H B s T F V) {i n c k : Nat} {a : Option Addr} {e : TypeId} {L : List (List Value)} {x : List Value} (hF : F[i]? = some (.sl e 1 L)) (hV : V[i]? = some (.slice a n c)) (hx : L[k]? = some x) :
    ∃ b, a = some ⟨b, 0, none⟩ ∧ OwnS H e 1 B L b c ∧ H.load ⟨b, k, none⟩ 1 = some x := by
  have := h.el hF hV hx
  simpa only [Nat.mul_one] using this
theorem StR.row {H : Heap} {B s : Nat} {T : TypeId} {F : List Fld} {V : List Value} (h : StR H B s T F V) {i n c k : Nat} {a : Option Addr} {e : TypeId} {w : Nat} {L : List (List Value)} (hF : F[i]? = some (.sl e w L)) (hV : V[i]? = some (.slice a n c)) (hk : k < L.length) :
    ∃ b cs, a = some ⟨b, 0, none⟩ ∧ OwnS H e w B L b c ∧ H.get b = some (.row cs e) ∧ L.length * w ≤ cs.length := by
  obtain ⟨b, rfl, o, ld⟩ := h.el hF hV (List.getElem?_eq_getElem hk)
  obtain ⟨cs, h1, h2, h3⟩ := o.row
  exact ⟨b, cs, rfl, o, h1, h2⟩
theorem StR.write {H : Heap} {B s : Nat} {T : TypeId} {F : List Fld} {V : List Value} (h : StR H B s T F V) (hw : H.wf) {i n c k b : Nat} {e : TypeId} {w : Nat} {L : List (List Value)} {cs y : List Value} (hF : F[i]? = some (.sl e w L)) (hV : V[i]? = some (.slice (some ⟨b, 0, none⟩) n c)) (hk : k < L.length)
    (hg : H.get b = some (.row cs e)) (hy : y.length = w) (ha : y.all one = true) :
    ∃ H2, H.put b (some (.row (splice cs (k * w) y) e)) = H2 ∧ StR H2 B s T (F.set i (.sl e w (L.set k y))) V ∧ SX s H H2 := by
  obtain ⟨b', e1, o, ld⟩ := h.el hF hV (List.getElem?_eq_getElem hk)
  cases e1
  have hb : b < H.next := hw _ _ hg
  have hn : n = L.length := by obtain ⟨a', c', e2, -⟩ := h.sl hF hV; cases e2; rfl
  subst hn
  have hk2 := (HK.refl (S := fun n => n = b) hw).put (.inl rfl) hb (some (.row (splice cs (k * w) y) e))
  have p := h.alter hw (H2 := H.put b (some (.row (splice cs (k * w) y) e))) hk2.wf (Nat.le_refl _) hV (fun n hn hne => by rw [get_put, if_neg (fun e => hne (by rw [e]; rfl))]) (f' := .sl e w (L.set k y)) (.inr ⟨b, c, o.set hg hk hy ha, by rw [List.length_set]⟩)
  exact ⟨_, rfl, p.1, p.2⟩
theorem StR.cut {H : Heap} {B s : Nat} {T : TypeId} {F : List Fld} {V : List Value} (h : StR H B s T F V) (hw : H.wf) {i n c m : Nat} {a : Option Addr} {e : TypeId} {w : Nat} {L : List (List Value)} (hF : F[i]? = some (.sl e w L)) (hV : V[i]? = some (.slice a n c)) (hm : m ≤ L.length) :
    ∃ H2, H.put s (some (.row (V.set i (.slice a m c)) T)) = H2 ∧ StR H2 B s T (F.set i (.sl e w (L.take m))) (V.set i (.slice a m c)) ∧ SX s H H2 := by
  have q := h.fld i _ _ hF hV
  have hb : ∀ n', blkOf (.slice a m c) = some n' → blkOf (.slice a n c) = some n' ∨ H.next ≤ n' := fun n' hn => .inl (by cases a <;> exact hn)
  have p := h.put hw (H2 := H) hw (Nat.le_refl _) hV (fun _ _ _ => rfl) (f' := .sl e w (L.take m)) (v' := .slice a m c) (RepO.takeR q hm) hb rfl
  exact ⟨_, rfl, p.1, p.2⟩
end Go.Hb
namespace Go.Proofs.YthkogijbkachdaaDoor.hb
open Go Go.RowKit Go.Hb
variable {ok : Ok}
set_option maxRecDepth 10000
attribute [local irreducible] LX LG EL STG SOP SGO SGD SAL SRD SEF SEG SLK SCK ES
def okV (σ : SS) (v : Int) : Prop := 0 ≤ v ∧ v < σ.vars.length ∧ 0 ≤ gi σ.vars v
instance {σ : SS} {v : Int} : Decidable (okV σ v) := inferInstanceAs (Decidable (_ ∧ _ ∧ _))
theorem zlo {H : Heap} {B s : Nat} {σ : SS} {v : Int} (hs : St H B s σ) : EvF Tryd.prog okT 26 [.pointer (some ⟨s, 0, none⟩), .int .i64 v] H fun r H' =>
    r = .tuple #[.int .i64 (if okV σ v then gi σ.vars v else 0), .int .i64 (if okV σ v then 0 else 133)] ∧ H' = H := by
  obtain ⟨a0, c0, a1, c1, a2, c2, a3, c3, a4, c4, a5, c5, r6, r7, a8, c8, a9, c9, h, l0, l1, l2, l3, l4, l5, l6, l7, l8, l9, b0, b1, b2, b3, b4, b5, b8, b9⟩ := hs.open
  refine EvF.enter rfl Tryd.func26 (by decide) rfl ?_
  by_cases h1 : v < 0
  · have d1 : decide (v < 0) = true := decide_eq_true h1
    repeat' (first | refine EvC.seq ?_ | refine EvC.scope ?_ | refine EvC.block ?_ | (refine EvC.skip ?_) | (refine EvC.exit ?_) | (refine EvC.ret ?_; try simp only [z01, z00]) | (refine EvC.reg ?_; simp (config := { maxSteps := 2000000 }) (disch := first | omega | rfl) only [sB, initTm, Nat.reduceEqDiff, reduceCtorEq, bEqP, d1]) | (refine EvC.condT ?_ ?_; simp (config := { maxSteps := 2000000 }) (disch := first | omega | rfl) only [sB, Nat.reduceEqDiff, reduceCtorEq]; refine z02 ?_) | (refine EvC.condF ?_ ?_; simp (config := { maxSteps := 2000000 }) (disch := first | omega | rfl) only [sB, Nat.reduceEqDiff, reduceCtorEq]; refine z02 ?_))
    refine z1i rfl (by simp only [sB, Nat.reduceEqDiff, reduceCtorEq] <;> rfl) (by simp only [sB, Nat.reduceEqDiff, reduceCtorEq] <;> rfl) ⟨?_, rfl⟩
    rw [if_neg (fun q => by have := q.1; omega), if_neg (fun q => by have := q.1; omega)]
  · have d1 : decide (v < 0) = false := decide_eq_false h1
    obtain ⟨n, rfl⟩ := Int.eq_ofNat_of_zero_le (Int.not_lt.1 h1)
    by_cases h2 : (n : Int) ≥ σ.vars.length
    · have d2 : decide ((n : Int) ≥ σ.vars.length) = true := decide_eq_true h2
      repeat' (first | refine EvC.seq ?_ | refine EvC.scope ?_ | refine EvC.block ?_ | (refine EvC.skip ?_) | (refine EvC.exit ?_) | (refine EvC.ret ?_; try simp only [z01, z00]) | (refine EvC.reg ?_; simp (config := { maxSteps := 2000000 }) (disch := first | omega | rfl) only [sB, initTm, Nat.reduceEqDiff, reduceCtorEq, z2e, ld47, ln47, z05, z08, bEqP, l2, d1, d2, Bool.false_eq_true]) | (refine EvC.condT ?_ ?_; simp (config := { maxSteps := 2000000 }) (disch := first | omega | rfl) only [sB, Nat.reduceEqDiff, reduceCtorEq]; refine z02 ?_) | (refine EvC.condF ?_ ?_; simp (config := { maxSteps := 2000000 }) (disch := first | omega | rfl) only [sB, Nat.reduceEqDiff, reduceCtorEq]; refine z02 ?_))
      refine z1i rfl (by simp only [sB, Nat.reduceEqDiff, reduceCtorEq] <;> rfl) (by simp only [sB, Nat.reduceEqDiff, reduceCtorEq] <;> rfl) ⟨?_, rfl⟩
      rw [if_neg (fun q => by have := q.2.1; omega), if_neg (fun q => by have := q.2.1; omega)]
    · have d2 : decide ((n : Int) ≥ σ.vars.length) = false := decide_eq_false h2
      have hn : n < σ.vars.length := by omega
      obtain ⟨b, rfl, o, ld⟩ := h.el1 (i := 2) (k := n) (x := int1 (gi σ.vars n)) rfl rfl (by rw [List.getElem?_map, z85 hn]; rfl)
      by_cases h3 : gi σ.vars n < 0
      · have d3 : decide (gi σ.vars n < 0) = true := decide_eq_true h3
        repeat' (first | refine EvC.seq ?_ | refine EvC.scope ?_ | refine EvC.block ?_ | (refine EvC.skip ?_) | (refine EvC.exit ?_) | (refine EvC.ret ?_; try simp only [z01, z00]) | (refine EvC.reg ?_; simp (config := { maxSteps := 2000000 }) (disch := first | omega | rfl) only [sB, initTm, Nat.reduceEqDiff, reduceCtorEq, z2e, ld47, ln47, ia47, ld3, z05, z08, bEqP, l2, d1, d2, d3, ld, Bool.false_eq_true]) | (refine EvC.condT ?_ ?_; simp (config := { maxSteps := 2000000 }) (disch := first | omega | rfl) only [sB, Nat.reduceEqDiff, reduceCtorEq]; refine z02 ?_) | (refine EvC.condF ?_ ?_; simp (config := { maxSteps := 2000000 }) (disch := first | omega | rfl) only [sB, Nat.reduceEqDiff, reduceCtorEq]; refine z02 ?_))
        refine z1i rfl (by simp only [sB, Nat.reduceEqDiff, reduceCtorEq] <;> rfl) (by simp only [sB, Nat.reduceEqDiff, reduceCtorEq] <;> rfl) ⟨?_, rfl⟩
        rw [if_neg (fun q => by have := q.2.2; omega), if_neg (fun q => by have := q.2.2; omega)]
      · have d3 : decide (gi σ.vars n < 0) = false := decide_eq_false h3
        repeat' (first | refine EvC.seq ?_ | refine EvC.scope ?_ | refine EvC.block ?_ | (refine EvC.skip ?_; try simp only [sA]) | (refine EvC.exit ?_) | (refine EvC.ret ?_; try simp only [z01, z00]) | (refine EvC.reg ?_; simp (config := { maxSteps := 2000000 }) (disch := first | omega | rfl) only [sB, initTm, Nat.reduceEqDiff, reduceCtorEq, z2e, ld47, ln47, ia47, ld3, z05, z08, bEqP, l2, d1, d2, d3, ld, Bool.false_eq_true]) | (refine EvC.condT ?_ ?_; simp (config := { maxSteps := 2000000 }) (disch := first | omega | rfl) only [sB, Nat.reduceEqDiff, reduceCtorEq]; refine z02 ?_) | (refine EvC.condF ?_ ?_; simp (config := { maxSteps := 2000000 }) (disch := first | omega | rfl) only [sB, Nat.reduceEqDiff, reduceCtorEq]; refine z02 ?_))
        refine z1i rfl (by simp only [sB, Nat.reduceEqDiff, reduceCtorEq] <;> rfl) (by simp only [sB, Nat.reduceEqDiff, reduceCtorEq] <;> rfl) ⟨?_, rfl⟩
        rw [if_pos ⟨by omega, by omega, by omega⟩, if_pos ⟨by omega, by omega, by omega⟩]
theorem zh5 {H : Heap} {B s : Nat} {σ : SS} (hs : St H B s σ) (hw : H.wf) (hm : σ.cells.length + 1 ≤ most) (hm1 : σ.own.length + 1 ≤ most) (hm2 : σ.vars.length + 1 ≤ most) (hm3 : σ.flags.length + 1 ≤ most) :
    EvF Tryd.prog okT 7 [.pointer (some ⟨s, 0, none⟩)] H fun r H' => r = .int .i64 σ.vars.length ∧
      St H' B s { σ with vars := σ.vars ++ [(σ.cells.length : Int)], flags := σ.flags ++ [false], cells := σ.cells ++ [(1, (σ.vars.length : Int))], own := σ.own ++ [(σ.vars.length : Int)] } ∧ SX s H H' := by
  obtain ⟨a0, c0, a1, c1, a2, c2, a3, c3, a4, c4, a5, c5, r6, r7, a8, c8, a9, c9, h, l0, l1, l2, l3, l4, l5, l6, l7, l8, l9, b0, b1, b2, b3, b4, b5, b8, b9⟩ := hs.open
  refine EvF.enter rfl Tryd.func7 (by decide) rfl ?_
  repeat' (first | refine EvC.seq ?_ | refine EvC.scope ?_ | refine EvC.block ?_ | (refine EvC.skip ?_; try simp only [z04]) | (refine EvC.exit ?_) | (refine EvC.ret ?_; try simp only [z01, z00]) | (refine EvC.reg ?_; simp (config := { maxSteps := 2000000 }) (disch := first | omega | rfl) only [sB, initTm, Nat.reduceEqDiff, reduceCtorEq, z2e, ld47, ln47, z05, z08, bEqP, l2]) | (refine EvC.drw [([(1, 0), (2, 0), (3, 0), (4, 0), (5, 0), (6, 0), (7, 0), (8, 0), (9, 0), (10, 0)], some 11), ([(0, 0), (12, 1), (13, 1)], some 14), ([], none)] ?_ ?_; kernel_rfl; simp (config := { maxSteps := 2000000 }) (disch := first | omega | rfl) only [sD, sB, Nat.reduceEqDiff, Nat.reduceAdd, Value.cells, one, reduceCtorEq, layC, z2e, ld47, z15, ld28, ln28, zg9, z05, z08, l2, l0, isAlloc, isRead, dalloc, reduceCtorEq]) | (refine EvC.condT ?_ ?_; simp (config := { maxSteps := 2000000 }) (disch := first | omega | rfl) only [sB, Nat.reduceEqDiff, reduceCtorEq]; refine z02 ?_) | (refine EvC.condF ?_ ?_; simp (config := { maxSteps := 2000000 }) (disch := first | omega | rfl) only [sB, Nat.reduceEqDiff, reduceCtorEq]; refine z02 ?_))
  obtain ⟨H2, e2, hx2, g2, w2⟩ := zg5 hw 15 10 (by omega) (.row (int1 σ.cells.length) 3)
  simp only [e2]
  obtain ⟨H3, k3, e3, g3, -, -, H4, e4, s4, x4⟩ := (h.keep hw hx2).pushed (P := Tryd.prog) (i := 2) (c1 := 1) w2 ap47 rfl rfl (z2t g2) rfl rfl (by simpa using hm2)
  simp only [List.set_cons_zero, List.set_cons_succ, List.length_map] at e3 e4
  have hs4 : St H4 B s { σ with vars := σ.vars ++ [(σ.cells.length : Int)] } := ⟨_, by simpa [flds] using s4⟩
  clear s4
  obtain ⟨a0x, c0x, a1x, c1x, a2x, c2x, a3x, c3x, a4x, c4x, a5x, c5x, r6x, r7x, a8x, c8x, a9x, c9x, hx, l0x, l1x, l2x, l3x, l4x, l5x, l6x, l7x, l8x, l9x, b0x, b1x, b2x, b3x, b4x, b5x, b8x, b9x⟩ := hs4.open
  repeat' (first | refine EvC.seq ?_ | refine EvC.scope ?_ | refine EvC.block ?_ | (refine EvC.skip ?_) | (refine EvC.exit ?_) | (refine EvC.ret ?_; try simp only [z01, z00]) | (refine EvC.reg ?_; simp (config := { maxSteps := 2000000 }) (disch := first | omega | rfl) only [sB, Nat.reduceEqDiff, Value.cells, one, reduceCtorEq, layC, z6y, ld59, zmb, z05, z08, l3x]) | (refine zg1 ?_; simp (config := { maxSteps := 2000000 }) (disch := first | omega | rfl) only [sD, sB, Nat.reduceEqDiff, Nat.reduceAdd, one, reduceCtorEq, Nat.reduceLeDiff, z2e, st47, z05, z08, e3, g3, e4, isAlloc, isRead, reduceCtorEq, z6u]))
  obtain ⟨H5, e5, hx5, g5, n5, w5⟩ := new1 x4.wf (.row (flg1 false) 4)
  simp only [e5]
  obtain ⟨H6, k6, e6, g6, -, -, H7, e7, s7, x7⟩ := (hx.keep x4.wf hx5).pushed (P := Tryd.prog) (i := 3) (c1 := 1) w5 ap59 rfl rfl (z2t g5) rfl rfl (by simpa using hm3)
  simp only [List.set_cons_zero, List.set_cons_succ, List.length_map] at e6 e7
  have hs7 : St H7 B s { σ with vars := σ.vars ++ [(σ.cells.length : Int)], flags := σ.flags ++ [false] } := ⟨_, by simpa [flds] using s7⟩
  clear s7
  repeat' (first | refine EvC.seq ?_ | refine EvC.scope ?_ | refine EvC.block ?_ | (refine EvC.skip ?_) | (refine EvC.exit ?_) | (refine EvC.ret ?_; try simp only [z01, z00]) | (refine EvC.reg ?_; simp (config := { maxSteps := 2000000 }) (disch := first | omega | rfl) only [sB, Nat.reduceEqDiff, Nat.reduceAdd, Value.cells, one, reduceCtorEq, Nat.reduceLeDiff, layC, bd37, cl22]) | (refine z0l ?_; simp (config := { maxSteps := 2000000 }) (disch := first | omega | rfl) only [sB, Nat.reduceEqDiff, Nat.reduceAdd, one, reduceCtorEq, Nat.reduceLeDiff, z6y, st59, z05, z08, e6, g6, e7]))
  refine (zbx (c := (1, (σ.vars.length : Int))) hs7 x7.wf hm hm1).mono ?_
  rintro r H8 ⟨hs8, x8⟩
  repeat' (first | refine EvC.seq ?_ | refine EvC.scope ?_ | refine EvC.block ?_ | (refine EvC.skip ?_) | (refine EvC.exit ?_) | (refine EvC.ret ?_; try simp only [z01, z00]) | (refine EvC.reg ?_; simp (config := { maxSteps := 2000000 }) (disch := first | omega | rfl) only [sB, Nat.reduceEqDiff, reduceCtorEq]))
  exact z06 rfl (by simp only [sG, Nat.reduceEqDiff, reduceCtorEq] <;> rfl) ⟨rfl, hs8, (hx2.sx (hs.lt hw)).trans (x4.trans ((hx5.sx (hs4.lt x4.wf)).trans (x7.trans x8)))⟩
theorem zeq {H : Heap} {B s : Nat} {σ : SS} {v : Int} (hs : St H B s σ) (hf : σ.flags.length = σ.vars.length) : EvF Tryd.prog okT 18 [.pointer (some ⟨s, 0, none⟩), .int .i64 v] H fun r H' =>
    r = .bool (if okV σ v then (σ.flags[v.toNat]?).getD false else false) ∧ H' = H := by
  obtain ⟨a0, c0, a1, c1, a2, c2, a3, c3, a4, c4, a5, c5, r6, r7, a8, c8, a9, c9, h, l0, l1, l2, l3, l4, l5, l6, l7, l8, l9, b0, b1, b2, b3, b4, b5, b8, b9⟩ := hs.open
  refine EvF.enter rfl Tryd.func18 (by decide) rfl ?_
  repeat' (first | refine EvC.seq ?_ | refine EvC.scope ?_ | refine EvC.block ?_ | (refine EvC.skip ?_) | (refine EvC.exit ?_) | (refine EvC.ret ?_; try simp only [z01, z00]) | (refine EvC.reg ?_; simp (config := { maxSteps := 2000000 }) (disch := first | omega | rfl) only [sB, initTm, Nat.reduceEqDiff, reduceCtorEq, cl26]))
  refine (zlo hs).mono ?_
  rintro r H' ⟨rfl, rfl⟩
  by_cases hv : okV σ v
  · obtain ⟨n, rfl⟩ := Int.eq_ofNat_of_zero_le hv.1
    have hn : n < σ.flags.length := by have := hv.2.1; omega
    obtain ⟨b, rfl, o, ld⟩ := h.el1 (i := 3) (k := n) (x := flg1 (σ.flags[n])) rfl rfl (by rw [List.getElem?_map, List.getElem?_eq_getElem hn]; rfl)
    simp only [if_pos hv]
    repeat' (first | refine EvC.seq ?_ | refine EvC.scope ?_ | refine EvC.block ?_ | (refine EvC.skip ?_) | (refine EvC.exit ?_) | (refine EvC.ret ?_; try simp only [z01, z00]) | (refine EvC.reg ?_; simp (config := { maxSteps := 2000000 }) (disch := first | omega | rfl) only [sB, Nat.reduceEqDiff, reduceCtorEq, z6y, ld59, ia59, ld4, z05, z08, l3, ld, z0y rfl]) | (refine z0l ?_; simp (config := { maxSteps := 2000000 }) (disch := first | omega | rfl) only [sB, Nat.reduceEqDiff, reduceCtorEq]))
    refine z06 rfl (by simp only [sB, Nat.reduceEqDiff, reduceCtorEq] <;> rfl) ⟨?_, rfl⟩
    rw [List.getElem?_eq_getElem hn]; rfl
  · simp only [if_neg hv]
    have d9 : ((133 : Int) == 0) = false := rfl
    repeat' (first | refine EvC.seq ?_ | refine EvC.scope ?_ | refine EvC.block ?_ | (refine EvC.skip ?_) | (refine EvC.exit ?_) | (refine EvC.ret ?_; try simp only [z01, z00]) | (refine EvC.reg ?_; simp (config := { maxSteps := 2000000 }) (disch := first | omega | rfl) only [sB, Nat.reduceEqDiff, reduceCtorEq, d9, Bool.false_eq_true]) | (refine z0l ?_; simp (config := { maxSteps := 2000000 }) (disch := first | omega | rfl) only [sB, Nat.reduceEqDiff, reduceCtorEq]))
    exact z06 rfl (by simp only [sG, Nat.reduceEqDiff, reduceCtorEq] <;> rfl) ⟨rfl, rfl⟩
theorem zer {H : Heap} {B s : Nat} {σ : SS} {v : Int} (hs : St H B s σ) : EvF Tryd.prog okT 30 [.pointer (some ⟨s, 0, none⟩), .int .i64 v] H fun r H' =>
    r = .int .i64 (if 0 ≤ v ∧ v < σ.marks.length then 0 else 132) ∧ H' = H := by
  obtain ⟨a0, c0, a1, c1, a2, c2, a3, c3, a4, c4, a5, c5, r6, r7, a8, c8, a9, c9, h, l0, l1, l2, l3, l4, l5, l6, l7, l8, l9, b0, b1, b2, b3, b4, b5, b8, b9⟩ := hs.open
  refine EvF.enter rfl Tryd.func30 (by decide) rfl ?_
  by_cases h1 : v < 0
  · have d1 : decide (v < 0) = true := decide_eq_true h1
    repeat' (first | refine EvC.seq ?_ | refine EvC.scope ?_ | refine EvC.block ?_ | (refine EvC.skip ?_) | (refine EvC.exit ?_) | (refine EvC.ret ?_; try simp only [z01, z00]) | (refine EvC.reg ?_; simp (config := { maxSteps := 2000000 }) (disch := first | omega | rfl) only [sB, initTm, Nat.reduceEqDiff, reduceCtorEq, bEqP, d1]) | (refine EvC.condT ?_ ?_; simp (config := { maxSteps := 2000000 }) (disch := first | omega | rfl) only [sB, Nat.reduceEqDiff, reduceCtorEq]; refine z02 ?_) | (refine EvC.condF ?_ ?_; simp (config := { maxSteps := 2000000 }) (disch := first | omega | rfl) only [sB, Nat.reduceEqDiff, reduceCtorEq]; refine z02 ?_))
    refine z06 rfl (by simp only [sB, Nat.reduceEqDiff, reduceCtorEq] <;> rfl) ⟨?_, rfl⟩
    rw [if_neg (by omega)]
  · have d1 : decide (v < 0) = false := decide_eq_false h1
    by_cases h2 : v ≥ σ.marks.length
    · have d2 : decide (v ≥ σ.marks.length) = true := decide_eq_true h2
      repeat' (first | refine EvC.seq ?_ | refine EvC.scope ?_ | refine EvC.block ?_ | (refine EvC.skip ?_) | (refine EvC.exit ?_) | (refine EvC.ret ?_; try simp only [z01, z00]) | (refine EvC.reg ?_; simp (config := { maxSteps := 2000000 }) (disch := first | omega | rfl) only [sB, initTm, Nat.reduceEqDiff, reduceCtorEq, z6z, ld62, ln62, z05, z08, bEqP, l9, d1, d2, Bool.false_eq_true]) | (refine EvC.condT ?_ ?_; simp (config := { maxSteps := 2000000 }) (disch := first | omega | rfl) only [sB, Nat.reduceEqDiff, reduceCtorEq]; refine z02 ?_) | (refine EvC.condF ?_ ?_; simp (config := { maxSteps := 2000000 }) (disch := first | omega | rfl) only [sB, Nat.reduceEqDiff, reduceCtorEq]; refine z02 ?_))
      refine z06 rfl (by simp only [sB, Nat.reduceEqDiff, reduceCtorEq] <;> rfl) ⟨?_, rfl⟩
      rw [if_neg (by omega)]
    · have d2 : decide (v ≥ σ.marks.length) = false := decide_eq_false h2
      repeat' (first | refine EvC.seq ?_ | refine EvC.scope ?_ | refine EvC.block ?_ | (refine EvC.skip ?_; try simp only [sA]) | (refine EvC.exit ?_) | (refine EvC.ret ?_; try simp only [z01, z00]) | (refine EvC.reg ?_; simp (config := { maxSteps := 2000000 }) (disch := first | omega | rfl) only [sB, initTm, Nat.reduceEqDiff, reduceCtorEq, z6z, ld62, ln62, z05, z08, bEqP, l9, d1, d2, Bool.false_eq_true]) | (refine EvC.condT ?_ ?_; simp (config := { maxSteps := 2000000 }) (disch := first | omega | rfl) only [sB, Nat.reduceEqDiff, reduceCtorEq]; refine z02 ?_) | (refine EvC.condF ?_ ?_; simp (config := { maxSteps := 2000000 }) (disch := first | omega | rfl) only [sB, Nat.reduceEqDiff, reduceCtorEq]; refine z02 ?_))
      refine z06 rfl (by simp only [sB, Nat.reduceEqDiff, reduceCtorEq] <;> rfl) ⟨?_, rfl⟩
      rw [if_pos (by omega)]
theorem zh6 {H : Heap} {B s : Nat} {σ : SS} (hs : St H B s σ) (hw : H.wf) (hm : σ.marks.length + 1 ≤ most) :
    EvF Tryd.prog okT 9 [.pointer (some ⟨s, 0, none⟩)] H fun r H' => r = .int .i64 σ.marks.length ∧
      St H' B s { σ with marks := σ.marks ++ [((σ.trail.length : Int), (σ.cells.length : Int), (σ.vars.length : Int))] } ∧ SX s H H' := by
  obtain ⟨a0, c0, a1, c1, a2, c2, a3, c3, a4, c4, a5, c5, r6, r7, a8, c8, a9, c9, h, l0, l1, l2, l3, l4, l5, l6, l7, l8, l9, b0, b1, b2, b3, b4, b5, b8, b9⟩ := hs.open
  refine EvF.enter rfl Tryd.func9 (by decide) rfl ?_
  repeat' (first | refine EvC.seq ?_ | refine EvC.scope ?_ | refine EvC.block ?_ | (refine EvC.skip ?_; try simp only [z04]) | (refine EvC.exit ?_) | (refine EvC.ret ?_; try simp only [z01, z00]) | (refine EvC.reg ?_; simp (config := { maxSteps := 2000000 }) (disch := first | omega | rfl) only [sB, initTm, Nat.reduceEqDiff, reduceCtorEq, bEqP]) | (refine EvC.drw [([(1, 0), (2, 0), (3, 0), (4, 0), (5, 0), (6, 0), (7, 0), (8, 0), (9, 0), (10, 0), (11, 0), (12, 0), (13, 0), (14, 0), (15, 0), (16, 0), (17, 0), (18, 0), (19, 0), (20, 0), (21, 0)], some 22), ([(0, 0), (23, 1), (24, 1)], some 25), ([], none)] ?_ ?_; kernel_rfl; simp (config := { maxSteps := 2000000 }) (disch := first | omega | rfl) only [sD, sB, Nat.reduceEqDiff, Nat.reduceAdd, Value.cells, one, reduceCtorEq, Nat.reduceLeDiff, layC, z6z, ld62, z70, ld61, ln61, z15, ld28, ln28, z2e, ld47, ln47, bd70, zmc, z05, z08, l8, l0, l2, l9, isAlloc, isRead, dalloc, reduceCtorEq]) | (refine EvC.condT ?_ ?_; simp (config := { maxSteps := 2000000 }) (disch := first | omega | rfl) only [sB, Nat.reduceEqDiff, reduceCtorEq]; refine z02 ?_) | (refine EvC.condF ?_ ?_; simp (config := { maxSteps := 2000000 }) (disch := first | omega | rfl) only [sB, Nat.reduceEqDiff, reduceCtorEq]; refine z02 ?_))
  obtain ⟨H2, e2, hx2, g2, w2⟩ := zg5 hw 26 21 (by omega) (.row (three ((σ.trail.length : Int), (σ.cells.length : Int), (σ.vars.length : Int))) 70)
  simp only [e2]
  obtain ⟨H3, k3, e3, g3, -, -, H4, e4, s4, x4⟩ := (h.keep hw hx2).pushed (P := Tryd.prog) (i := 9) (c1 := 1) w2 ap62 rfl rfl (zai g2).1 rfl rfl (by simpa using hm)
  simp only [List.set_cons_zero, List.set_cons_succ, List.length_map] at e3 e4
  have hs4 : St H4 B s { σ with marks := σ.marks ++ [((σ.trail.length : Int), (σ.cells.length : Int), (σ.vars.length : Int))] } := ⟨_, by simpa [flds] using s4⟩
  clear s4
  obtain ⟨a0x, c0x, a1x, c1x, a2x, c2x, a3x, c3x, a4x, c4x, a5x, c5x, r6x, r7x, a8x, c8x, a9x, c9x, hx, l0x, l1x, l2x, l3x, l4x, l5x, l6x, l7x, l8x, l9x, b0x, b1x, b2x, b3x, b4x, b5x, b8x, b9x⟩ := hs4.open
  have em : IntKind.i64.wrap (((σ.marks.length + 1 : Nat) : Int) - 1) = σ.marks.length := by rw [z0c] <;> simp only [most, maxLen] at * <;> omega
  simp only [List.length_append, List.length_singleton] at l9x
  repeat' (first | refine EvC.seq ?_ | refine EvC.scope ?_ | refine EvC.block ?_ | (refine EvC.skip ?_) | (refine EvC.exit ?_) | (refine EvC.ret ?_; try simp only [z01, z00]) | (refine EvC.reg ?_; simp (config := { maxSteps := 2000000 }) (disch := first | omega | rfl) only [sB, Nat.reduceEqDiff, reduceCtorEq, z6z, ld62, ln62, z05, z08, l9x, em]) | (refine zg1 ?_; simp (config := { maxSteps := 2000000 }) (disch := first | omega | rfl) only [sD, sB, Nat.reduceEqDiff, Nat.reduceAdd, one, reduceCtorEq, z6z, st62, z05, z08, e3, g3, e4, isAlloc, isRead, reduceCtorEq, z6u]))
  exact z06 rfl (by simp only [sG, Nat.reduceEqDiff, reduceCtorEq] <;> rfl) ⟨rfl, hs4, (hx2.sx (hs.lt hw)).trans x4⟩
end Go.Proofs.YthkogijbkachdaaDoor.hb
end

-- Sg7
section
namespace Go.Hb
open Go Go.RowKit
section
variable {P : Program} {kt : TypeId} {α : Type} {key : α → Value} {eqb : α → α → Bool}
theorem z86 (h : ∀ x a, pureRun P (Op.equal kt (key x) (key a)) = some (eqb x a)) (x : α) : ∀ (es : List MapEntry) (l : List α) (i : Nat), es.map (·.key) = l.map key →
    pureRun P (Instr.findAsking kt (key x) (keysOf es) i) = some ((l.findIdx? (eqb x)).map fun j => (i + j, .bool false))
  | [], [], i, _ => rfl
  | [], _ :: _, _, hk => by simp at hk
  | _ :: _, [], _, hk => by simp at hk
  | e :: es, a :: l, i, hk => by
    simp only [List.map_cons, List.cons.injEq] at hk
    have ih := z86 h x es l (i + 1) hk.2
    unfold keysOf at ih ⊢
    rw [List.map_cons]
    unfold Instr.findAsking
    simp only [hk.1]
    rw [z07, h, Option.bind_some, List.findIdx?_cons]
    cases hq : eqb x a with
    | true => rfl
    | false =>
      simp only [Bool.false_eq_true, if_false]
      rw [ih]
      cases l.findIdx? (eqb x) with
      | none => rfl
      | some j => simp only [Option.map_some, Option.some.injEq, Prod.mk.injEq, and_true]; omega
structure KeyOf (P : Program) (kt : TypeId) (key : α → Value) (eqb : α → α → Bool) : Prop where
  un : ∃ fs, P.underlying kt = some (.struct fs)
  eq : ∀ x a, pureRun P (Op.equal kt (key x) (key a)) = some (eqb x a)
  chk : ∀ emp x, pureRun P (Instr.checkKey emp 10000 kt (key x)) = some ()
  fl : ∀ x, flat (key x) = true
theorem zdh (K : KeyOf P kt key eqb) {emp : Bool} {es : List MapEntry} {l : List α} {x : α} (hk : es.map (·.key) = l.map key) : dfind P emp kt (key x) es = some (l.findIdx? (eqb x)) := by
  obtain ⟨fs, hu⟩ := K.un
  have hu' : pureRun P (underlying kt) = some (.struct fs) := z0e hu
  have h2 : pureRun P (Instr.findKey kt (key x) (keysOf es)) = some ((l.findIdx? (eqb x)).map fun j => (j, .bool false)) := by
    unfold Instr.findKey
    rw [z07, hu', Option.bind_some]
    have ha := z86 K.eq x es l 0 hk
    match es, l, hk with
    | [], [], _ => rfl
    | [], _ :: _, hk => simp at hk
    | _ :: _, [], hk => simp at hk
    | e :: es, a :: l, hk =>
      have hn : Instr.findNow (.struct fs) (key x) (keysOf (e :: es)) 0 = none := by
        unfold keysOf
        rw [List.map_cons]
        unfold Instr.findNow
        rfl
      rw [hn]
      simp only [Nat.zero_add] at ha
      exact ha
  unfold dfind
  rw [K.chk, h2, K.fl]
  simp only []
  cases l.findIdx? (eqb x) <;> rfl
theorem z87 {key : α → Value} : ∀ (l : List α) (k : Nat), (l.zipIdx k).map (fun p => key p.1) = l.map key
  | [], _ => rfl
  | a :: l, k => by rw [List.zipIdx_cons, List.map_cons, List.map_cons, z87 l (k + 1)]
theorem zh7 {es : List MapEntry} {l : List α} (h : es.map (fun e => (e.key, e.val)) = mapOf key l) : es.map (·.key) = l.map key := by
  have := congrArg (List.map Prod.fst) h
  rw [List.map_map] at this
  unfold mapOf at this
  rw [List.map_map] at this
  have e2 := z87 (key := key) l 0
  exact this.trans e2
theorem zmx {es : List MapEntry} {l : List α} (h : es.map (fun e => (e.key, e.val)) = mapOf key l) {j : Nat} (hj : j < l.length) : ∃ e, es[j]? = some e ∧ e.val = .int .i64 (j : Nat) := by
  have := congrArg (·[j]?) h
  unfold mapOf at this
  simp only [List.getElem?_map, List.getElem?_zipIdx, List.getElem?_eq_getElem hj, Option.map_some, Option.map_eq_some_iff, Prod.mk.injEq] at this
  obtain ⟨e, h1, h2, h3⟩ := this
  exact ⟨e, h1, by simpa using h3⟩
section
variable {t : TypeId} {et : TypeId} {H : Heap} {r clock : Nat} {es : List MapEntry} {l : List α} {x : α}
theorem zh8 (K : KeyOf P kt key eqb) (ht : P.underlying t = some (.map kt et)) (hz : pureRun P (zeroValue et) = some (.int .i64 0)) (hg : H.get r = some (.map es clock)) (h : es.map (fun e => (e.key, e.val)) = mapOf key l) :
    dLk P t (.map (some r)) (key x) true H = some (.val (.tuple #[.int .i64 (((l.findIdx? (eqb x)).getD 0 : Nat) : Int), .bool (l.findIdx? (eqb x)).isSome]) H) := by
  have hf : ∀ emp, dfind P emp kt (key x) es = some (l.findIdx? (eqb x)) := fun emp => zdh K (zh7 h)
  cases hi : l.findIdx? (eqb x) with
  | none =>
    simp only [dLk, dlookup, ht, hg, hf, hi, hz, flat, if_true]
    rfl
  | some j =>
    have hj : j < l.length := (List.findIdx?_eq_some_iff_getElem.1 hi).1
    obtain ⟨e, h1, h2⟩ := zmx h hj
    simp only [dLk, dlookup, ht, hg, hf, hi, h1, h2, if_true]
    rfl
theorem zh9 (K : KeyOf P kt key eqb) (ht : P.underlying t = some (.map kt et)) (hg : H.get r = some (.map es clock)) (h : es.map (fun e => (e.key, e.val)) = mapOf key l) (hn : l.findIdx? (eqb x) = none) :
    ∃ es' clock', dUp P t (.map (some r)) (key x) (.int .i64 (l.length : Nat)) H = some (.val undef (H.put r (some (.map es' clock')))) ∧ es'.map (fun e => (e.key, e.val)) = mapOf key (l ++ [x]) := by
  have hf : dfind P false kt (key x) es = some none := by rw [zdh K (zh7 h), hn]
  refine ⟨es ++ [{ key := key x, val := .int .i64 (l.length : Nat), born := clock }], clock + 1, by simp only [dUp, dupdate, ht, hg, hf], ?_⟩
  rw [List.map_append, h]
  unfold mapOf
  rw [List.zipIdx_append, List.map_append]
  simp
end
end
end Go.Hb
namespace Go.Proofs.YthkogijbkachdaaDoor.hb
open Go Go.RowKit Go.Hb
variable {ok : Ok}
set_option maxRecDepth 10000
attribute [local irreducible] LX LG EL STG SOP SGO SGD SAL SRD SEF SEG SLK SCK ES
theorem zne : Tryd.prog.stoodInHeld 94 = false := by kernel_rfl
theorem un94 : pureRun Tryd.prog (underlying 94) = some (.struct #[{ name := "kind", type := 3, offset := 0, embedded := false, tag := "", pkgPath := "hornbeam/store", byteOffset := 0 }, { name := "name", type := 9, offset := 1, embedded := false, tag := "", pkgPath := "hornbeam/store", byteOffset := 8 },
  { name := "num", type := 9, offset := 2, embedded := false, tag := "", pkgPath := "hornbeam/store", byteOffset := 24 }, { name := "bits", type := 30, offset := 3, embedded := false, tag := "", pkgPath := "hornbeam/store", byteOffset := 40 }]) := by kernel_rfl
theorem zmy {n : Nat} {cs : Array Value} {v : Value} (h : cs[n]? = some v) : pureRun Tryd.prog (part 30 cs n) = some v := by
  have h1 : pureRun Tryd.prog (isAgg 30) = some false := by kernel_rfl
  unfold part
  rw [z07, h1, Option.bind_some, h]; rfl
theorem zlp {d : Nat} {a b : Int} : pureRun Tryd.prog (Op.equalIn (d + 1) 30 (.int .u64 a) (.int .u64 b)) = some (a == b) := by
  have hu : pureRun Tryd.prog (underlying 30) = some (.int .u64) := by kernel_rfl
  unfold Op.equalIn
  rw [z07, hu, Option.bind_some]; rfl
def eqFun (x a : ByteArray × Int) : Bool := x.1 == a.1 && x.2 == a.2
def eqCst (x a : Tm) : Bool := x.kind == a.kind && (x.name == a.name && (x.num == a.num && x.bits == a.bits))
theorem zj4 (x a : Tm) : pureRun Tryd.prog (Op.equal 94 (ckey x) (ckey a)) = some (eqCst x a) := by
  show pureRun Tryd.prog (Op.equalIn (9999 + 1) _ _ _) = _
  unfold Op.equalIn
  rw [z07, un94, Option.bind_some]
  simp only []
  rw [z07, z4u, Option.bind_some, zne]
  simp only [Bool.false_eq_true, if_false]
  have p1 : ∀ t : Tm, pureRun Tryd.prog (part 3 ⟨[Value.int .i64 t.kind, .string t.name, .string t.num, .int .u64 t.bits]⟩ 0) = some (.int .i64 t.kind) := fun t => z76 rfl
  have p2 : ∀ t : Tm, pureRun Tryd.prog (part 9 ⟨[Value.int .i64 t.kind, .string t.name, .string t.num, .int .u64 t.bits]⟩ 1) = some (.string t.name) := fun t => zdg rfl
  have p3 : ∀ t : Tm, pureRun Tryd.prog (part 9 ⟨[Value.int .i64 t.kind, .string t.name, .string t.num, .int .u64 t.bits]⟩ 2) = some (.string t.num) := fun t => zdg rfl
  have p4 : ∀ t : Tm, pureRun Tryd.prog (part 30 ⟨[Value.int .i64 t.kind, .string t.name, .string t.num, .int .u64 t.bits]⟩ 3) = some (.int .u64 t.bits) := fun t => zmy rfl
  have e1 : pureRun Tryd.prog (Op.equalIn 9999 3 (.int .i64 x.kind) (.int .i64 a.kind)) = some (x.kind == a.kind) := z92
  have e2 : pureRun Tryd.prog (Op.equalIn 9999 9 (.string x.name) (.string a.name)) = some (x.name == a.name) := zbw
  have e3 : pureRun Tryd.prog (Op.equalIn 9999 9 (.string x.num) (.string a.num)) = some (x.num == a.num) := zbw
  have e4 : pureRun Tryd.prog (Op.equalIn 9999 30 (.int .u64 x.bits) (.int .u64 a.bits)) = some (x.bits == a.bits) := zlp
  have n1 : (("kind" : String) ≠ "_") = True := by simp
  have n2 : (("name" : String) ≠ "_") = True := by simp
  have n3 : (("num" : String) ≠ "_") = True := by simp
  have n4 : (("bits" : String) ≠ "_") = True := by simp
  unfold eqCst
  simp only [← Array.forIn_toList, List.forIn_cons, List.forIn_nil, z07, n1, n2, n3, n4, if_true, p1, e1, Option.bind_some]
  cases h1 : x.kind == a.kind with
  | false => simp [z07, z16]
  | true =>
    simp only [Bool.not_true, Bool.false_eq_true, if_false, z07, z16, Option.bind_some, p2, e2, Bool.true_and]
    cases h2 : x.name == a.name with
    | false => simp [z07, z16]
    | true =>
      simp only [Bool.not_true, Bool.false_eq_true, if_false, z07, z16, Option.bind_some, p3, e3, Bool.true_and]
      cases h3 : x.num == a.num with
      | false => simp [z07, z16]
      | true =>
        simp only [Bool.not_true, Bool.false_eq_true, if_false, z07, z16, Option.bind_some, p4, e4, Bool.true_and]
        cases h4 : x.bits == a.bits <;> simp [z07, z16]
theorem keyK : KeyOf Tryd.prog 49 fkey eqFun := ⟨⟨_, Tryd.underlying49⟩, fun _ _ => zmw, fun emp x => by kernel_rfl, fun x => rfl⟩
theorem keyT : KeyOf Tryd.prog 94 ckey eqCst := ⟨⟨_, Tryd.underlying94⟩, zj4, fun emp x => by kernel_rfl, fun x => rfl⟩
end Go.Proofs.YthkogijbkachdaaDoor.hb
end

-- Sg4
section
namespace Go.Hb
open Go Go.RowKit
inductive Der (cells : List (Int × Int)) : Nat → Int × Int → Int × Int → Prop
  | stop {c : Int × Int} : c.1 ≠ 2 → Der cells 0 c c
  | var {c : Int × Int} : c.1 = 2 → 0 ≤ c.2 → c.2 < cells.length → (ci cells c.2).1 = 1 → Der cells 0 c c
  | go {n : Nat} {c d : Int × Int} : c.1 = 2 → 0 ≤ c.2 → c.2 < cells.length → (ci cells c.2).1 ≠ 1 → Der cells n (ci cells c.2) d → Der cells (n + 1) c d
end Go.Hb
namespace Go.Proofs.YthkogijbkachdaaDoor.hb
open Go Go.RowKit Go.Hb
variable {ok : Ok}
set_option maxRecDepth 10000
attribute [local irreducible] LX LG EL STG SOP SGO SGD SAL SRD SEF SEG SLK SCK ES
def mayS (σ : SS) (c : Int × Int) : Bool :=
  if c.1 = 3 then decide (0 ≤ c.2 ∧ c.2 < σ.consts.length) else if c.1 = 2 ∨ c.1 = 4 then decide ((0 ≤ c.2 ∧ c.2 < σ.cells.length) ∧ ((c.1 = 2) ↔ (0 ≤ gi σ.own c.2)) ∧ gi σ.own c.2 ≠ -2) else false
set_option maxHeartbeats 4000000 in
theorem zkj {H : Heap} {B s : Nat} {σ : SS} {c : Int × Int} (hs : St H B s σ) (hw : H.wf) (ho : σ.own.length = σ.cells.length) :
    EvF Tryd.prog okT 23 [.pointer (some ⟨s, 0, none⟩), .agg ⟨two c⟩] H fun r H' => r = .bool (mayS σ c) ∧ HX H H' := by
  refine EvF.enter rfl Tryd.func23 (by decide) rfl ?_
  (repeat refine EvC.seq ?_); refine EvC.reg ?_; simp (config := { maxSteps := 2000000 }) (disch := first | omega | rfl) only [sB, initTm, dBox, Value.cells, one, reduceCtorEq]
  obtain ⟨H1, e1, hx1, g1, n1, w1⟩ := new1 hw (.row (two c) 37)
  simp only [e1]
  have hs1 := hs.keep hw hx1
  have q1 := z14 g1
  obtain ⟨a0, c0, a1, c1, a2, c2, a3, c3, a4, c4, a5, c5, r6, r7, a8, c8, a9, c9, h, l0, l1, l2, l3, l4, l5, l6, l7, l8, l9, b0, b1, b2, b3, b4, b5, b8, b9⟩ := hs1.open
  by_cases k3 : c.1 = 3
  · by_cases h1 : c.2 ≥ 0
    · have d1 : decide (c.2 ≥ 0) = true := decide_eq_true h1
      repeat' (first | refine EvC.seq ?_ | refine EvC.scope ?_ | refine EvC.block ?_ | (refine EvC.skip ?_) | (refine EvC.exit ?_) | (refine EvC.ret ?_; try simp only [z01, z00]) | (refine EvC.reg ?_; simp (config := { maxSteps := 2000000 }) (disch := first | omega | rfl) only [sB, Nat.reduceEqDiff, reduceCtorEq, z0z, ld3, q1, z0y k3]) | (refine EvC.drw (id := 3) [([(0, 0), (1, 0), (2, 0), (3, 0), (4, 0), (5, 0), (6, 0), (7, 0), (8, 0), (9, 0), (10, 0), (11, 0), (12, 0), (13, 0)], none)] ?_ ?_; kernel_rfl; simp (config := { maxSteps := 2000000 }) (disch := first | omega | rfl) only [sD, sB, Nat.reduceEqDiff, Nat.reduceAdd, reduceCtorEq, ld3, z1u, za9, ld22, ln22, z05, z08, l4, q1, d1, isAlloc, isRead, reduceCtorEq]) | (refine EvC.condT ?_ ?_; simp (config := { maxSteps := 2000000 }) (disch := first | omega | rfl) only [sB, Nat.reduceEqDiff, reduceCtorEq]; refine z02 ?_))
      refine z06 rfl (by simp only [sB, Nat.reduceEqDiff, reduceCtorEq] <;> rfl) ⟨?_, hx1.trans ((HX.refl w1).bump _)⟩
      simp [mayS, k3, h1]
    · have d1 : decide (c.2 ≥ 0) = false := decide_eq_false h1
      repeat' (first | refine EvC.seq ?_ | refine EvC.scope ?_ | refine EvC.block ?_ | (refine EvC.skip ?_) | (refine EvC.exit ?_) | (refine EvC.ret ?_; try simp only [z01, z00]) | (refine EvC.reg ?_; simp (config := { maxSteps := 2000000 }) (disch := first | omega | rfl) only [sB, Nat.reduceEqDiff, reduceCtorEq, z0z, ld3, q1, z0y k3]) | (refine EvC.drw (id := 3) [([(0, 0), (1, 0), (2, 0), (3, 0), (4, 0), (5, 0), (6, 0), (7, 0), (8, 0), (9, 0), (10, 0), (11, 0), (12, 0), (13, 0)], none)] ?_ ?_; kernel_rfl; simp (config := { maxSteps := 2000000 }) (disch := first | omega | rfl) only [sD, sB, Nat.reduceEqDiff, Nat.reduceAdd, reduceCtorEq, ld3, z1u, q1, d1, isAlloc, isRead, reduceCtorEq]) | (refine EvC.condT ?_ ?_; simp (config := { maxSteps := 2000000 }) (disch := first | omega | rfl) only [sB, Nat.reduceEqDiff, reduceCtorEq]; refine z02 ?_))
      refine z06 rfl (by simp only [sB, Nat.reduceEqDiff, reduceCtorEq] <;> rfl) ⟨?_, hx1.trans ((HX.refl w1).bump _)⟩
      simp [mayS, k3, h1]
  by_cases k24 : c.1 = 2 ∨ c.1 = 4
  · by_cases h1 : c.2 ≥ 0
    · have d1 : decide (c.2 ≥ 0) = true := decide_eq_true h1
      by_cases h2 : c.2 < σ.cells.length
      · have d2 : decide (c.2 < σ.cells.length) = true := decide_eq_true h2
        obtain ⟨n, en⟩ := Int.eq_ofNat_of_zero_le h1
        have hn : n < σ.own.length := by omega
        obtain ⟨b, rfl, o, ld⟩ := h.el1 (i := 1) (k := n) (x := int1 (gi σ.own n)) rfl rfl (by rw [List.getElem?_map, z85 hn]; rfl)
        have hm : mayS σ c = decide (((c.1 = 2) ↔ (0 ≤ gi σ.own n)) ∧ gi σ.own n ≠ -2) := by
          unfold mayS
          rw [if_neg k3, if_pos k24, ← en]
          simp [h1, h2]
        rw [en] at q1 d1 d2
        rcases k24 with k2 | k4
        · by_cases h3 : gi σ.own n ≥ 0
          · have d3 : decide (gi σ.own n ≥ 0) = true := decide_eq_true h3
            have d4 : (gi σ.own n != -2) = true := by simp; omega
            repeat' (first | refine EvC.seq ?_ | refine EvC.scope ?_ | refine EvC.block ?_ | (refine EvC.skip ?_; try simp only [z04]) | (refine EvC.exit ?_) | (refine EvC.ret ?_; try simp only [z01, z00]) | (refine EvC.reg ?_; simp (config := { maxSteps := 2000000 }) (disch := first | omega | rfl) only [sB, Nat.reduceEqDiff, reduceCtorEq, z0z, ld3, q1, z0n k3, z0y k2]) | (refine EvC.drw (id := 6) [([(0, 0), (1, 0), (2, 0), (3, 0), (4, 0), (5, 0), (6, 0), (7, 0), (8, 0), (9, 0), (10, 0), (11, 0), (12, 0), (13, 0), (14, 0), (15, 0), (16, 0), (17, 0), (18, 0), (19, 0), (20, 0), (21, 0), (22, 0), (23, 0), (24, 0), (25, 0), (26, 0), (27, 0), (28, 0), (29, 0), (30, 0), (31, 0), (32, 0), (33, 0), (34, 0), (35, 0), (36, 0), (37, 0), (38, 0), (39, 0)], none)] ?_ ?_; kernel_rfl; simp (config := { maxSteps := 2000000 }) (disch := first | omega | rfl) only [sD, sB, Nat.reduceEqDiff, Nat.reduceAdd, reduceCtorEq, z0z, ld3, z1u, z15, ld28, ln28, z5j, ld47, ia47, z05, z08, l0, l1, q1, z0y k2, d1, d2, d3, d4, ld, bEqB Tryd.underlying4, beq_self_eq_true, isAlloc, isRead, reduceCtorEq]) | (refine EvC.condT ?_ ?_; simp (config := { maxSteps := 2000000 }) (disch := first | omega | rfl) only [sB, Nat.reduceEqDiff, reduceCtorEq]; refine z02 ?_) | (refine EvC.condF ?_ ?_; simp (config := { maxSteps := 2000000 }) (disch := first | omega | rfl) only [sB, Nat.reduceEqDiff, reduceCtorEq]; refine z02 ?_))
            refine z06 rfl (by simp only [sB, Nat.reduceEqDiff, reduceCtorEq] <;> rfl) ⟨?_, hx1.trans ((HX.refl w1).bump _)⟩
            rw [hm, decide_eq_true ⟨⟨fun _ => h3, fun _ => k2⟩, by omega⟩]
          · have d3 : decide (gi σ.own n ≥ 0) = false := decide_eq_false h3
            have d4 : (true == false) = false := rfl
            repeat' (first | refine EvC.seq ?_ | refine EvC.scope ?_ | refine EvC.block ?_ | (refine EvC.skip ?_; try simp only [z04]) | (refine EvC.exit ?_) | (refine EvC.ret ?_; try simp only [z01, z00]) | (refine EvC.reg ?_; simp (config := { maxSteps := 2000000 }) (disch := first | omega | rfl) only [sB, Nat.reduceEqDiff, reduceCtorEq, z0z, ld3, q1, z0n k3, z0y k2]) | (refine EvC.drw (id := 6) [([(0, 0), (1, 0), (2, 0), (3, 0), (4, 0), (5, 0), (6, 0), (7, 0), (8, 0), (9, 0), (10, 0), (11, 0), (12, 0), (13, 0), (14, 0), (15, 0), (16, 0), (17, 0), (18, 0), (19, 0), (20, 0), (21, 0), (22, 0), (23, 0), (24, 0), (25, 0), (26, 0), (27, 0), (28, 0), (29, 0), (30, 0), (31, 0), (32, 0), (33, 0), (34, 0), (35, 0), (36, 0), (37, 0), (38, 0), (39, 0)], none)] ?_ ?_; kernel_rfl; simp (config := { maxSteps := 2000000 }) (disch := first | omega | rfl) only [sD, sB, Nat.reduceEqDiff, Nat.reduceAdd, reduceCtorEq, z0z, ld3, z1u, z15, ld28, ln28, z5j, ld47, ia47, z05, z08, l0, l1, q1, z0y k2, d1, d2, d3, d4, ld, bEqB Tryd.underlying4, Bool.false_eq_true, isAlloc, isRead, reduceCtorEq]) | (refine EvC.condT ?_ ?_; simp (config := { maxSteps := 2000000 }) (disch := first | omega | rfl) only [sB, Nat.reduceEqDiff, reduceCtorEq]; refine z02 ?_) | (refine EvC.condF ?_ ?_; simp (config := { maxSteps := 2000000 }) (disch := first | omega | rfl) only [sB, Nat.reduceEqDiff, reduceCtorEq]; refine z02 ?_))
            refine z06 rfl (by simp only [sB, Nat.reduceEqDiff, reduceCtorEq] <;> rfl) ⟨?_, hx1.trans ((HX.refl w1).bump _)⟩
            rw [hm, decide_eq_false (fun q => h3 (q.1.1 k2))]
        · have k2 : ¬ c.1 = 2 := by omega
          by_cases h3 : gi σ.own n ≥ 0
          · have d3 : decide (gi σ.own n ≥ 0) = true := decide_eq_true h3
            have d4 : (false == true) = false := rfl
            repeat' (first | refine EvC.seq ?_ | refine EvC.scope ?_ | refine EvC.block ?_ | (refine EvC.skip ?_) | (refine EvC.exit ?_) | (refine EvC.ret ?_; try simp only [z01, z00]) | (refine EvC.reg ?_; simp (config := { maxSteps := 2000000 }) (disch := first | omega | rfl) only [sB, Nat.reduceEqDiff, reduceCtorEq, z0z, ld3, q1, z0n k3, z0n k2, z0y k4]) | (refine EvC.drw (id := 6) [([(0, 0), (1, 0), (2, 0), (3, 0), (4, 0), (5, 0), (6, 0), (7, 0), (8, 0), (9, 0), (10, 0), (11, 0), (12, 0), (13, 0), (14, 0), (15, 0), (16, 0), (17, 0), (18, 0), (19, 0), (20, 0), (21, 0), (22, 0), (23, 0), (24, 0), (25, 0), (26, 0), (27, 0), (28, 0), (29, 0), (30, 0), (31, 0), (32, 0), (33, 0), (34, 0), (35, 0), (36, 0), (37, 0), (38, 0), (39, 0)], none)] ?_ ?_; kernel_rfl; simp (config := { maxSteps := 2000000 }) (disch := first | omega | rfl) only [sD, sB, Nat.reduceEqDiff, Nat.reduceAdd, reduceCtorEq, z0z, ld3, z1u, z15, ld28, ln28, z5j, ld47, ia47, z05, z08, l0, l1, q1, z0n k2, d1, d2, d3, d4, ld, bEqB Tryd.underlying4, Bool.false_eq_true, isAlloc, isRead, reduceCtorEq]) | (refine EvC.condT ?_ ?_; simp (config := { maxSteps := 2000000 }) (disch := first | omega | rfl) only [sB, Nat.reduceEqDiff, reduceCtorEq]; refine z02 ?_) | (refine EvC.condF ?_ ?_; simp (config := { maxSteps := 2000000 }) (disch := first | omega | rfl) only [sB, Nat.reduceEqDiff, reduceCtorEq]; refine z02 ?_))
            refine z06 rfl (by simp only [sB, Nat.reduceEqDiff, reduceCtorEq] <;> rfl) ⟨?_, hx1.trans ((HX.refl w1).bump _)⟩
            rw [hm, decide_eq_false (fun q => k2 (q.1.2 h3))]
          · have d3 : decide (gi σ.own n ≥ 0) = false := decide_eq_false h3
            have d4 : (false == false) = true := rfl
            by_cases h4 : gi σ.own n = -2
            · have d5 : (gi σ.own n != -2) = false := by simp [h4]
              repeat' (first | refine EvC.seq ?_ | refine EvC.scope ?_ | refine EvC.block ?_ | (refine EvC.skip ?_) | (refine EvC.exit ?_) | (refine EvC.ret ?_; try simp only [z01, z00]) | (refine EvC.reg ?_; simp (config := { maxSteps := 2000000 }) (disch := first | omega | rfl) only [sB, Nat.reduceEqDiff, reduceCtorEq, z0z, ld3, q1, z0n k3, z0n k2, z0y k4]) | (refine EvC.drw (id := 6) [([(0, 0), (1, 0), (2, 0), (3, 0), (4, 0), (5, 0), (6, 0), (7, 0), (8, 0), (9, 0), (10, 0), (11, 0), (12, 0), (13, 0), (14, 0), (15, 0), (16, 0), (17, 0), (18, 0), (19, 0), (20, 0), (21, 0), (22, 0), (23, 0), (24, 0), (25, 0), (26, 0), (27, 0), (28, 0), (29, 0), (30, 0), (31, 0), (32, 0), (33, 0), (34, 0), (35, 0), (36, 0), (37, 0), (38, 0), (39, 0)], none)] ?_ ?_; kernel_rfl; simp (config := { maxSteps := 2000000 }) (disch := first | omega | rfl) only [sD, sB, Nat.reduceEqDiff, Nat.reduceAdd, reduceCtorEq, z0z, ld3, z1u, z15, ld28, ln28, z5j, ld47, ia47, z05, z08, l0, l1, q1, z0n k2, d1, d2, d3, d4, d5, ld, bEqB Tryd.underlying4, isAlloc, isRead, reduceCtorEq]) | (refine EvC.condT ?_ ?_; simp (config := { maxSteps := 2000000 }) (disch := first | omega | rfl) only [sB, Nat.reduceEqDiff, reduceCtorEq]; refine z02 ?_) | (refine EvC.condF ?_ ?_; simp (config := { maxSteps := 2000000 }) (disch := first | omega | rfl) only [sB, Nat.reduceEqDiff, reduceCtorEq]; refine z02 ?_))
              refine z06 rfl (by simp only [sB, Nat.reduceEqDiff, reduceCtorEq] <;> rfl) ⟨?_, hx1.trans ((HX.refl w1).bump _)⟩
              rw [hm, decide_eq_false (fun q => q.2 h4)]
            · have d5 : (gi σ.own n != -2) = true := by simp [h4]
              repeat' (first | refine EvC.seq ?_ | refine EvC.scope ?_ | refine EvC.block ?_ | (refine EvC.skip ?_) | (refine EvC.exit ?_) | (refine EvC.ret ?_; try simp only [z01, z00]) | (refine EvC.reg ?_; simp (config := { maxSteps := 2000000 }) (disch := first | omega | rfl) only [sB, Nat.reduceEqDiff, reduceCtorEq, z0z, ld3, q1, z0n k3, z0n k2, z0y k4]) | (refine EvC.drw (id := 6) [([(0, 0), (1, 0), (2, 0), (3, 0), (4, 0), (5, 0), (6, 0), (7, 0), (8, 0), (9, 0), (10, 0), (11, 0), (12, 0), (13, 0), (14, 0), (15, 0), (16, 0), (17, 0), (18, 0), (19, 0), (20, 0), (21, 0), (22, 0), (23, 0), (24, 0), (25, 0), (26, 0), (27, 0), (28, 0), (29, 0), (30, 0), (31, 0), (32, 0), (33, 0), (34, 0), (35, 0), (36, 0), (37, 0), (38, 0), (39, 0)], none)] ?_ ?_; kernel_rfl; simp (config := { maxSteps := 2000000 }) (disch := first | omega | rfl) only [sD, sB, Nat.reduceEqDiff, Nat.reduceAdd, reduceCtorEq, z0z, ld3, z1u, z15, ld28, ln28, z5j, ld47, ia47, z05, z08, l0, l1, q1, z0n k2, d1, d2, d3, d4, d5, ld, bEqB Tryd.underlying4, isAlloc, isRead, reduceCtorEq]) | (refine EvC.condT ?_ ?_; simp (config := { maxSteps := 2000000 }) (disch := first | omega | rfl) only [sB, Nat.reduceEqDiff, reduceCtorEq]; refine z02 ?_) | (refine EvC.condF ?_ ?_; simp (config := { maxSteps := 2000000 }) (disch := first | omega | rfl) only [sB, Nat.reduceEqDiff, reduceCtorEq]; refine z02 ?_))
              refine z06 rfl (by simp only [sB, Nat.reduceEqDiff, reduceCtorEq] <;> rfl) ⟨?_, hx1.trans ((HX.refl w1).bump _)⟩
              rw [hm, decide_eq_true ⟨⟨fun q => absurd q k2, fun q => absurd q h3⟩, h4⟩]
      · have d2 : decide (c.2 < σ.cells.length) = false := decide_eq_false h2
        have hm : mayS σ c = false := by
          unfold mayS
          rw [if_neg k3, if_pos k24]
          exact decide_eq_false fun q => h2 q.1.2
        rcases k24 with k2 | k4
        · repeat' (first | refine EvC.seq ?_ | refine EvC.scope ?_ | refine EvC.block ?_ | (refine EvC.skip ?_; try simp only [z04]) | (refine EvC.exit ?_) | (refine EvC.ret ?_; try simp only [z01, z00]) | (refine EvC.reg ?_; simp (config := { maxSteps := 2000000 }) (disch := first | omega | rfl) only [sB, Nat.reduceEqDiff, reduceCtorEq, z0z, ld3, q1, z0n k3, z0y k2]) | (refine EvC.drw (id := 6) [([(0, 0), (1, 0), (2, 0), (3, 0), (4, 0), (5, 0), (6, 0), (7, 0), (8, 0), (9, 0), (10, 0), (11, 0), (12, 0), (13, 0), (14, 0), (15, 0), (16, 0), (17, 0), (18, 0), (19, 0), (20, 0), (21, 0), (22, 0), (23, 0), (24, 0), (25, 0), (26, 0), (27, 0), (28, 0), (29, 0), (30, 0), (31, 0), (32, 0), (33, 0), (34, 0), (35, 0), (36, 0), (37, 0), (38, 0), (39, 0)], none)] ?_ ?_; kernel_rfl; simp (config := { maxSteps := 2000000 }) (disch := first | omega | rfl) only [sD, sB, Nat.reduceEqDiff, Nat.reduceAdd, reduceCtorEq, ld3, z1u, z15, ld28, ln28, z05, z08, l0, q1, d1, d2, Bool.false_eq_true, isAlloc, isRead, reduceCtorEq]) | (refine EvC.condT ?_ ?_; simp (config := { maxSteps := 2000000 }) (disch := first | omega | rfl) only [sB, Nat.reduceEqDiff, reduceCtorEq]; refine z02 ?_) | (refine EvC.condF ?_ ?_; simp (config := { maxSteps := 2000000 }) (disch := first | omega | rfl) only [sB, Nat.reduceEqDiff, reduceCtorEq]; refine z02 ?_))
          exact z06 rfl (by simp only [sB, Nat.reduceEqDiff, reduceCtorEq] <;> rfl) ⟨by rw [hm], hx1.trans ((HX.refl w1).bump _)⟩
        · have k2 : ¬ c.1 = 2 := by omega
          repeat' (first | refine EvC.seq ?_ | refine EvC.scope ?_ | refine EvC.block ?_ | (refine EvC.skip ?_) | (refine EvC.exit ?_) | (refine EvC.ret ?_; try simp only [z01, z00]) | (refine EvC.reg ?_; simp (config := { maxSteps := 2000000 }) (disch := first | omega | rfl) only [sB, Nat.reduceEqDiff, reduceCtorEq, z0z, ld3, q1, z0n k3, z0n k2, z0y k4]) | (refine EvC.drw (id := 6) [([(0, 0), (1, 0), (2, 0), (3, 0), (4, 0), (5, 0), (6, 0), (7, 0), (8, 0), (9, 0), (10, 0), (11, 0), (12, 0), (13, 0), (14, 0), (15, 0), (16, 0), (17, 0), (18, 0), (19, 0), (20, 0), (21, 0), (22, 0), (23, 0), (24, 0), (25, 0), (26, 0), (27, 0), (28, 0), (29, 0), (30, 0), (31, 0), (32, 0), (33, 0), (34, 0), (35, 0), (36, 0), (37, 0), (38, 0), (39, 0)], none)] ?_ ?_; kernel_rfl; simp (config := { maxSteps := 2000000 }) (disch := first | omega | rfl) only [sD, sB, Nat.reduceEqDiff, Nat.reduceAdd, reduceCtorEq, ld3, z1u, z15, ld28, ln28, z05, z08, l0, q1, d1, d2, Bool.false_eq_true, isAlloc, isRead, reduceCtorEq]) | (refine EvC.condT ?_ ?_; simp (config := { maxSteps := 2000000 }) (disch := first | omega | rfl) only [sB, Nat.reduceEqDiff, reduceCtorEq]; refine z02 ?_) | (refine EvC.condF ?_ ?_; simp (config := { maxSteps := 2000000 }) (disch := first | omega | rfl) only [sB, Nat.reduceEqDiff, reduceCtorEq]; refine z02 ?_))
          exact z06 rfl (by simp only [sB, Nat.reduceEqDiff, reduceCtorEq] <;> rfl) ⟨by rw [hm], hx1.trans ((HX.refl w1).bump _)⟩
    · have d1 : decide (c.2 ≥ 0) = false := decide_eq_false h1
      have hm : mayS σ c = false := by
        unfold mayS
        rw [if_neg k3, if_pos k24]
        exact decide_eq_false fun q => h1 q.1.1
      rcases k24 with k2 | k4
      · repeat' (first | refine EvC.seq ?_ | refine EvC.scope ?_ | refine EvC.block ?_ | (refine EvC.skip ?_; try simp only [z04]) | (refine EvC.exit ?_) | (refine EvC.ret ?_; try simp only [z01, z00]) | (refine EvC.reg ?_; simp (config := { maxSteps := 2000000 }) (disch := first | omega | rfl) only [sB, Nat.reduceEqDiff, reduceCtorEq, z0z, ld3, q1, z0n k3, z0y k2]) | (refine EvC.drw (id := 6) [([(0, 0), (1, 0), (2, 0), (3, 0), (4, 0), (5, 0), (6, 0), (7, 0), (8, 0), (9, 0), (10, 0), (11, 0), (12, 0), (13, 0), (14, 0), (15, 0), (16, 0), (17, 0), (18, 0), (19, 0), (20, 0), (21, 0), (22, 0), (23, 0), (24, 0), (25, 0), (26, 0), (27, 0), (28, 0), (29, 0), (30, 0), (31, 0), (32, 0), (33, 0), (34, 0), (35, 0), (36, 0), (37, 0), (38, 0), (39, 0)], none)] ?_ ?_; kernel_rfl; simp (config := { maxSteps := 2000000 }) (disch := first | omega | rfl) only [sD, sB, Nat.reduceEqDiff, Nat.reduceAdd, reduceCtorEq, ld3, z1u, q1, d1, Bool.false_eq_true, isAlloc, isRead, reduceCtorEq]) | (refine EvC.condT ?_ ?_; simp (config := { maxSteps := 2000000 }) (disch := first | omega | rfl) only [sB, Nat.reduceEqDiff, reduceCtorEq]; refine z02 ?_) | (refine EvC.condF ?_ ?_; simp (config := { maxSteps := 2000000 }) (disch := first | omega | rfl) only [sB, Nat.reduceEqDiff, reduceCtorEq]; refine z02 ?_))
        exact z06 rfl (by simp only [sB, Nat.reduceEqDiff, reduceCtorEq] <;> rfl) ⟨by rw [hm], hx1.trans ((HX.refl w1).bump _)⟩
      · have k2 : ¬ c.1 = 2 := by omega
        repeat' (first | refine EvC.seq ?_ | refine EvC.scope ?_ | refine EvC.block ?_ | (refine EvC.skip ?_) | (refine EvC.exit ?_) | (refine EvC.ret ?_; try simp only [z01, z00]) | (refine EvC.reg ?_; simp (config := { maxSteps := 2000000 }) (disch := first | omega | rfl) only [sB, Nat.reduceEqDiff, reduceCtorEq, z0z, ld3, q1, z0n k3, z0n k2, z0y k4]) | (refine EvC.drw (id := 6) [([(0, 0), (1, 0), (2, 0), (3, 0), (4, 0), (5, 0), (6, 0), (7, 0), (8, 0), (9, 0), (10, 0), (11, 0), (12, 0), (13, 0), (14, 0), (15, 0), (16, 0), (17, 0), (18, 0), (19, 0), (20, 0), (21, 0), (22, 0), (23, 0), (24, 0), (25, 0), (26, 0), (27, 0), (28, 0), (29, 0), (30, 0), (31, 0), (32, 0), (33, 0), (34, 0), (35, 0), (36, 0), (37, 0), (38, 0), (39, 0)], none)] ?_ ?_; kernel_rfl; simp (config := { maxSteps := 2000000 }) (disch := first | omega | rfl) only [sD, sB, Nat.reduceEqDiff, Nat.reduceAdd, reduceCtorEq, ld3, z1u, q1, d1, Bool.false_eq_true, isAlloc, isRead, reduceCtorEq]) | (refine EvC.condT ?_ ?_; simp (config := { maxSteps := 2000000 }) (disch := first | omega | rfl) only [sB, Nat.reduceEqDiff, reduceCtorEq]; refine z02 ?_) | (refine EvC.condF ?_ ?_; simp (config := { maxSteps := 2000000 }) (disch := first | omega | rfl) only [sB, Nat.reduceEqDiff, reduceCtorEq]; refine z02 ?_))
        exact z06 rfl (by simp only [sB, Nat.reduceEqDiff, reduceCtorEq] <;> rfl) ⟨by rw [hm], hx1.trans ((HX.refl w1).bump _)⟩
  · have k2 : ¬ c.1 = 2 := fun q => k24 (.inl q)
    have k4 : ¬ c.1 = 4 := fun q => k24 (.inr q)
    have hm : mayS σ c = false := by
      unfold mayS
      rw [if_neg k3, if_neg k24]
    repeat' (first | refine EvC.seq ?_ | refine EvC.scope ?_ | refine EvC.block ?_ | (refine EvC.skip ?_; try simp only [sA]) | (refine EvC.exit ?_) | (refine EvC.ret ?_; try simp only [z01, z00]) | (refine EvC.reg ?_; simp (config := { maxSteps := 2000000 }) (disch := first | omega | rfl) only [sB, Nat.reduceEqDiff, reduceCtorEq, z0z, ld3, q1, z0n k3, z0n k2, z0n k4]) | (refine EvC.condT ?_ ?_; simp (config := { maxSteps := 2000000 }) (disch := first | omega | rfl) only [sB, Nat.reduceEqDiff, reduceCtorEq]; refine z02 ?_) | (refine EvC.condF ?_ ?_; simp (config := { maxSteps := 2000000 }) (disch := first | omega | rfl) only [sB, Nat.reduceEqDiff, reduceCtorEq]; refine z02 ?_))
    exact z06 rfl (by simp only [sB, Nat.reduceEqDiff, reduceCtorEq] <;> rfl) ⟨by rw [hm], hx1⟩
end Go.Proofs.YthkogijbkachdaaDoor.hb
end

-- Sg5
section
namespace Go.Hb
open Go Go.RowKit
theorem zlq {H : Heap} (hw : H.wf) (n i : Nat) (hi : i < n) (A D : Blk) : ∃ H2, (Heap.put ⟨H.next + n, H.t⟩ (H.next + i) (some A)).put (H.next + i) (some D) = H2 ∧ HX H H2 ∧ H2.get (H.next + i) = some D ∧ H2.wf := by
  have hx := (((HX.refl hw).bump n).put (i := H.next + i) (Nat.le_add_right _ _) (show H.next + i < H.next + n by omega) (some A)).put (i := H.next + i) (Nat.le_add_right _ _) (show H.next + i < H.next + n by omega) (some D)
  exact ⟨_, rfl, hx, by rw [get_put, if_pos rfl], hx.wf⟩
end Go.Hb
namespace Go.Proofs.YthkogijbkachdaaDoor.hb
open Go Go.RowKit Go.Hb
variable {ok : Ok}
set_option maxRecDepth 10000
attribute [local irreducible] LX LG EL STG SOP SGO SGD SAL SRD SEF SEG SLK SCK ES
set_option maxHeartbeats 4000000 in
theorem zdi {H : Heap} {B s : Nat} {σ : SS} {m : Nat} {c d : Int × Int} (hs : St H B s σ) (hw : H.wf) (hd : Der σ.cells m c d) :
    EvF Tryd.prog okT 32 [.pointer (some ⟨s, 0, none⟩), .agg ⟨two c⟩] H fun r H' => r = .agg ⟨two d⟩ ∧ HX H H' := by
  refine EvF.enter rfl Tryd.func32 (by decide) rfl ?_
  (repeat refine EvC.seq ?_); refine EvC.reg ?_; simp (config := { maxSteps := 2000000 }) (disch := first | omega | rfl) only [sB, initTm, dBox, dAlloc, Value.cells, one, reduceCtorEq, zr37]
  obtain ⟨H1, e1, hx1, g1, g1', n1, w1⟩ := new2 hw (.row (two c) 37) (.row (two (0, 0)) 37)
  simp only [e1]
  (repeat refine EvC.seq ?_); refine EvC.block ?_
  refine EvC.loop (fun k st => ∃ tm H' e, st = ⟨tm, [], H'⟩ ∧ tm.get 0 = some (.pointer (some ⟨s, 0, none⟩)) ∧ tm.get 3 = some (.pointer (some ⟨H.next, 0, none⟩)) ∧ tm.get 4 = some (.pointer (some ⟨H.next + 1, 0, none⟩)) ∧
      Der σ.cells k e d ∧ HX H H' ∧ H'.get H.next = some (.row (two e) 37) ∧ H'.get (H.next + 1) = some (.row (two (0, 0)) 37)) ?_ m _ ?_
  · rintro k st ⟨tm, H', e, rfl, t0, t3, t4, hd', hx', g3, g4⟩
    have q3 := z14 g3
    have hs' := hs.keep hw hx'
    obtain ⟨a0, c0, a1, c1, a2, c2, a3, c3, a4, c4, a5, c5, r6, r7, a8, c8, a9, c9, h, l0, l1, l2, l3, l4, l5, l6, l7, l8, l9, b0, b1, b2, b3, b4, b5, b8, b9⟩ := hs'.open
    cases hd' with
    | stop k2 =>
      repeat' (first | refine EvC.seq ?_ | refine EvC.scope ?_ | refine EvC.block ?_ | (refine EvC.skip ?_; try simp only [z04]) | (refine EvC.exit ?_; try simp only [sB, Nat.reduceEqDiff, reduceCtorEq]) | (refine EvC.ret ?_; try simp only [z01, z00]) | (refine EvC.reg ?_; simp (config := { maxSteps := 2000000 }) (disch := first | omega | rfl) only [sB, Nat.reduceEqDiff, Nat.reduceAdd, one, z0z, ld3, ld37, st37, t3, t4, q3, g4, z0n k2]) | (refine EvC.condT ?_ ?_; simp (config := { maxSteps := 2000000 }) (disch := first | omega | rfl) only [sB, Nat.reduceEqDiff]; refine z02 ?_) | (refine EvC.condF ?_ ?_; simp (config := { maxSteps := 2000000 }) (disch := first | omega | rfl) only [sB, Nat.reduceEqDiff]; refine z02 ?_))
      exact z0q rfl (by simp only [sB, Nat.reduceEqDiff, t4] <;> rfl) (by simp only [sB, Nat.reduceAdd, cutC, ld37] <;> rfl) ⟨rfl, hx'.pt (by omega) g4 _⟩
    | var k2 h1 h2 h3 =>
      obtain ⟨n, en⟩ := Int.eq_ofNat_of_zero_le h1
      have hn : n < σ.cells.length := by omega
      rw [en] at h3
      obtain ⟨b, rfl, o, ld⟩ := h.el (i := 0) (k := n) (x := two (ci σ.cells n)) rfl rfl (by rw [List.getElem?_map, z3y hn]; rfl)
      rw [en] at q3
      obtain ⟨H2, e2, hx2, g2, w2⟩ := zlq hx'.wf 10 8 (by omega) (.row [.int .i64 0, .int .i64 0] 37) (.row (two (ci σ.cells n)) 37)
      have q2 := z14 g2
      have g4' := hx2.get hx'.wf g4
      have q3' := z14 (hx2.get hx'.wf g3)
      rw [en] at q3'
      repeat' (first | refine EvC.seq ?_ | refine EvC.scope ?_ | refine EvC.block ?_ | (refine EvC.skip ?_; try simp only [sA]) | (refine EvC.exit ?_; try simp only [sB, Nat.reduceEqDiff, reduceCtorEq]) | (refine EvC.ret ?_; try simp only [z01, z00]) | (refine EvC.reg ?_; simp (config := { maxSteps := 2000000 }) (disch := first | omega | rfl) only [sB, Nat.reduceEqDiff, Nat.reduceAdd, one, z0z, ld3, ld37, st37, t3, t4, q3, q3', g4', q2, z0y k2, z1l h3]) | (refine EvC.drw [([(0, 0), (1, 0), (2, 0), (3, 0), (4, 0), (5, 0), (6, 0), (7, 0), (8, 0)], some 9), ([], none)] ?_ ?_; kernel_rfl; simp (config := { maxSteps := 2000000 }) (disch := first | omega | rfl) only [sD, sB, dAlloc, Nat.reduceEqDiff, Nat.reduceAdd, one, reduceCtorEq, zr37, ld3, z15, ld28, z1u, ia28, ld37, st37, z05, z08, t0, t3, q3, l0, ld, e2, isAlloc, isRead, dalloc, reduceCtorEq]) | (refine EvC.condT ?_ ?_; simp (config := { maxSteps := 2000000 }) (disch := first | omega | rfl) only [sB, Nat.reduceEqDiff]; refine z02 ?_) | (refine EvC.condF ?_ ?_; simp (config := { maxSteps := 2000000 }) (disch := first | omega | rfl) only [sB, Nat.reduceEqDiff]; refine z02 ?_))
      refine z0q rfl (by simp only [sB, Nat.reduceEqDiff, t4] <;> rfl) (by simp only [sB, Nat.reduceAdd, cutC, ld37] <;> rfl) ⟨?_, (hx'.trans hx2).pt (by omega) g4' _⟩
      rw [← en]
    | go k2 h1 h2 h3 hd2 =>
      obtain ⟨n, en⟩ := Int.eq_ofNat_of_zero_le h1
      have hn : n < σ.cells.length := by omega
      rw [en] at h3 hd2
      obtain ⟨b, rfl, o, ld⟩ := h.el (i := 0) (k := n) (x := two (ci σ.cells n)) rfl rfl (by rw [List.getElem?_map, z3y hn]; rfl)
      rw [en] at q3
      obtain ⟨H2, e2, hx2, g2, w2⟩ := zlq hx'.wf 10 8 (by omega) (.row [.int .i64 0, .int .i64 0] 37) (.row (two (ci σ.cells n)) 37)
      have q2 := z14 g2
      have g4' := hx2.get hx'.wf g4
      have g3' := hx2.get hx'.wf g3
      have q3' := z14 g3'
      rw [en] at q3'
      repeat' (first | refine EvC.seq ?_ | refine EvC.scope ?_ | refine EvC.block ?_ | (refine EvC.skip ?_) | (refine EvC.exit ?_; try simp only [sB, Nat.reduceEqDiff, reduceCtorEq]) | (refine EvC.ret ?_; try simp only [z01, z00]) | (refine EvC.reg ?_; simp (config := { maxSteps := 2000000 }) (disch := first | omega | rfl) only [sB, Nat.reduceEqDiff, Nat.reduceAdd, one, z0z, ld3, ld37, st37, t3, q3, g3', q2, z0y k2, z4o h3]) | (refine EvC.drw [([(0, 0), (1, 0), (2, 0), (3, 0), (4, 0), (5, 0), (6, 0), (7, 0), (8, 0)], some 9), ([], none)] ?_ ?_; kernel_rfl; simp (config := { maxSteps := 2000000 }) (disch := first | omega | rfl) only [sD, sB, dAlloc, Nat.reduceEqDiff, Nat.reduceAdd, one, reduceCtorEq, zr37, ld3, z15, ld28, z1u, ia28, ld37, st37, z05, z08, t0, t3, q3, l0, ld, e2, isAlloc, isRead, dalloc, reduceCtorEq]) | (refine EvC.condT ?_ ?_; simp (config := { maxSteps := 2000000 }) (disch := first | omega | rfl) only [sB, Nat.reduceEqDiff]; refine z02 ?_))
      have hx3 := (hx'.trans hx2).pt (by omega) g3' (some (.row (two (ci σ.cells n)) 37))
      refine ⟨_, Nat.lt_succ_self _, _, _, ci σ.cells n, rfl, (by simp only [sG, reduceCtorEq, t0] <;> rfl), (by simp only [sG, Nat.reduceEqDiff, t3] <;> rfl), (by simp only [sG, Nat.reduceEqDiff, t4] <;> rfl), hd2, hx3, by rw [get_put, if_pos rfl], by rw [get_put, if_neg (by omega)]; exact g4'⟩
  · exact ⟨_, _, c, rfl, (by simp only [sG, reduceCtorEq] <;> rfl), (by simp only [sG, Nat.reduceEqDiff, reduceCtorEq] <;> rfl), (by simp only [sG, Nat.reduceEqDiff, reduceCtorEq] <;> rfl), hd, hx1, g1, g1'⟩
set_option maxHeartbeats 4000000 in
theorem zha {H : Heap} {B s : Nat} {σ : SS} {c : Int × Int} (hs : St H B s σ) (hw : H.wf) (ho : σ.own.length = σ.cells.length) (hd : mayS σ c = true → ∃ m d, Der σ.cells m c d) :
    EvF Tryd.prog okT 29 [.pointer (some ⟨s, 0, none⟩), .agg ⟨two c⟩] H fun r H' => ∃ d e, r = .tuple ⟨[.agg ⟨two d⟩, .int .i64 e]⟩ ∧ (if mayS σ c = true then e = 0 ∧ ∃ m, Der σ.cells m c d else e = 130 ∧ d = (0, 0)) ∧ HX H H' := by
  refine EvF.enter rfl Tryd.func29 (by decide) rfl ?_
  (repeat refine EvC.seq ?_); refine EvC.reg ?_; simp (config := { maxSteps := 2000000 }) (disch := first | omega | rfl) only [sB, initTm, dBox, dAlloc, Value.cells, one, reduceCtorEq, zr37]
  obtain ⟨H1, e1, hx1, g1, g1', n1, w1⟩ := new2 hw (.row (two c) 37) (.row (two (0, 0)) 37)
  simp only [e1]
  have q1 := z14 g1
  repeat' (first | refine EvC.seq ?_ | refine EvC.scope ?_ | refine EvC.block ?_ | (refine EvC.skip ?_) | (refine EvC.exit ?_) | (refine EvC.ret ?_; try simp only [z01, z00]) | (refine EvC.reg ?_; simp (config := { maxSteps := 2000000 }) (disch := first | omega | rfl) only [sB, Nat.reduceEqDiff, reduceCtorEq, ld37, cl23, bEqP, q1]) | (refine EvC.condT ?_ ?_; simp (config := { maxSteps := 2000000 }) (disch := first | omega | rfl) only [sB, Nat.reduceEqDiff, reduceCtorEq]; refine z02 ?_) | (refine EvC.condF ?_ ?_; simp (config := { maxSteps := 2000000 }) (disch := first | omega | rfl) only [sB, Nat.reduceEqDiff, reduceCtorEq]; refine z02 ?_))
  refine (zkj (hs.keep hw hx1) w1 ho).mono ?_
  rintro r H2 ⟨rfl, hx2⟩
  have q2 := z14 (hx2.get w1 g1)
  have g2' := hx2.get w1 g1'
  by_cases hm : mayS σ c = true
  · obtain ⟨m, d, hd'⟩ := hd hm
    rw [hm]
    repeat' (first | refine EvC.seq ?_ | refine EvC.scope ?_ | refine EvC.block ?_ | (refine EvC.skip ?_; try simp only [sA]) | (refine EvC.exit ?_) | (refine EvC.ret ?_; try simp only [z01, z00]) | (refine EvC.reg ?_; simp (config := { maxSteps := 2000000 }) (disch := first | omega | rfl) only [sB, Nat.reduceEqDiff, reduceCtorEq, ld37, cl32, q2]) | (refine z0l ?_; simp (config := { maxSteps := 2000000 }) (disch := first | omega | rfl) only [sB, Nat.reduceEqDiff, reduceCtorEq, Bool.not_true]) | (refine EvC.condT ?_ ?_; simp (config := { maxSteps := 2000000 }) (disch := first | omega | rfl) only [sB, Nat.reduceEqDiff, reduceCtorEq]; refine z02 ?_) | (refine EvC.condF ?_ ?_; simp (config := { maxSteps := 2000000 }) (disch := first | omega | rfl) only [sB, Nat.reduceEqDiff, reduceCtorEq]; refine z02 ?_))
    refine (zdi (hs.keep hw (hx1.trans hx2)) hx2.wf hd').mono ?_
    rintro r H3 ⟨rfl, hx3⟩
    have g3' := hx3.get hx2.wf g2'
    repeat' (first | refine EvC.seq ?_ | refine EvC.scope ?_ | refine EvC.block ?_ | (refine EvC.skip ?_) | (refine EvC.exit ?_) | (refine EvC.ret ?_; try simp only [z01, z00]) | (refine z0l ?_; simp (config := { maxSteps := 2000000 }) (disch := first | omega | rfl) only [sB, Nat.reduceAdd, one, st37, g3']))
    refine z0f rfl (by simp only [sB, Nat.reduceEqDiff, reduceCtorEq] <;> rfl) (by simp only [sB, Nat.reduceAdd, cutC, ld37] <;> rfl) (by simp only [sG, Nat.reduceEqDiff, reduceCtorEq] <;> rfl) ⟨d, 0, rfl, ⟨rfl, m, hd'⟩, ((hx1.trans hx2).trans hx3).pt (by omega) g3' _⟩
  · rw [Bool.not_eq_true] at hm
    rw [hm]
    repeat' (first | refine EvC.seq ?_ | refine EvC.scope ?_ | refine EvC.block ?_ | (refine EvC.skip ?_) | (refine EvC.exit ?_) | (refine EvC.ret ?_; try simp only [z01, z00]) | (refine EvC.reg ?_; simp (config := { maxSteps := 2000000 }) (disch := first | omega | rfl) only [sB, Nat.reduceEqDiff, Nat.reduceAdd, Value.cells, one, reduceCtorEq, layC, bd37, st37, g2']) | (refine z0l ?_; simp (config := { maxSteps := 2000000 }) (disch := first | omega | rfl) only [sB, Nat.reduceEqDiff, reduceCtorEq, Bool.not_false]) | (refine EvC.condT ?_ ?_; simp (config := { maxSteps := 2000000 }) (disch := first | omega | rfl) only [sB, Nat.reduceEqDiff, reduceCtorEq]; refine z02 ?_))
    refine z0f rfl (by simp only [sB, Nat.reduceEqDiff, reduceCtorEq] <;> rfl) (by simp only [sB, Nat.reduceAdd, cutC, ld37] <;> rfl) (by simp only [sG, Nat.reduceEqDiff, reduceCtorEq] <;> rfl) ⟨(0, 0), 130, rfl, ⟨rfl, rfl⟩, (hx1.trans hx2).pt (by omega) g2' _⟩
def freeS (σ : SS) (v : Int) : Int := if okV σ v then (if (ci σ.cells (gi σ.vars v)).1 = 1 then 0 else 133) else 133
def VarB (σ : SS) : Prop := ∀ n : Nat, n < σ.vars.length → gi σ.vars n < σ.cells.length
set_option maxHeartbeats 4000000 in
theorem zhb {H : Heap} {B s : Nat} {σ : SS} {v : Int} (hs : St H B s σ) (hb : VarB σ) : EvF Tryd.prog okT 28 [.pointer (some ⟨s, 0, none⟩), .int .i64 v] H fun r H' => r = .int .i64 (freeS σ v) ∧ H' = H := by
  obtain ⟨a0, c0, a1, c1, a2, c2, a3, c3, a4, c4, a5, c5, r6, r7, a8, c8, a9, c9, h, l0, l1, l2, l3, l4, l5, l6, l7, l8, l9, b0, b1, b2, b3, b4, b5, b8, b9⟩ := hs.open
  refine EvF.enter rfl Tryd.func28 (by decide) rfl ?_
  repeat' (first | refine EvC.seq ?_ | refine EvC.scope ?_ | refine EvC.block ?_ | (refine EvC.skip ?_) | (refine EvC.exit ?_) | (refine EvC.ret ?_; try simp only [z01, z00]) | (refine EvC.reg ?_; simp (config := { maxSteps := 2000000 }) (disch := first | omega | rfl) only [sB, initTm, Nat.reduceEqDiff, reduceCtorEq, cl26]))
  refine (zlo hs).mono ?_
  rintro r H' ⟨rfl, rfl⟩
  by_cases hv : okV σ v
  · obtain ⟨n, en⟩ := Int.eq_ofNat_of_zero_le hv.1
    have hn : n < σ.vars.length := by have := hv.2.1; omega
    obtain ⟨k, ek⟩ := Int.eq_ofNat_of_zero_le hv.2.2
    have hk : k < σ.cells.length := by have := hb n hn; rw [← en, ek] at this; omega
    obtain ⟨b, rfl, o, ld⟩ := h.el (i := 0) (k := k) (x := two (ci σ.cells k)) rfl rfl (by rw [List.getElem?_map, z3y hk]; rfl)
    have l1' : H'.load ⟨b, k * 2, none⟩ 1 = some [.int .i64 (ci σ.cells k).1] := o.part (i := k) (j := 0) (n := 1) (x := two (ci σ.cells k)) (by rw [List.getElem?_map, z3y hk]; rfl) (by omega)
    simp only [if_pos hv, ek]
    by_cases h1 : (ci σ.cells k).1 = 1
    · repeat' (first | refine EvC.seq ?_ | refine EvC.scope ?_ | refine EvC.block ?_ | (refine EvC.skip ?_; try simp only [z04]) | (refine EvC.exit ?_) | (refine EvC.ret ?_; try simp only [z01, z00]) | (refine EvC.reg ?_; simp (config := { maxSteps := 2000000 }) (disch := first | omega | rfl) only [sB, Nat.reduceEqDiff, reduceCtorEq, z15, ld28, ia28, z0z, ld3, z05, z08, l0, l1', z0y rfl, z1l h1]) | (refine z0l ?_; simp (config := { maxSteps := 2000000 }) (disch := first | omega | rfl) only [sB, Nat.reduceEqDiff, reduceCtorEq]) | (refine EvC.condT ?_ ?_; simp (config := { maxSteps := 2000000 }) (disch := first | omega | rfl) only [sB, Nat.reduceEqDiff, reduceCtorEq]; refine z02 ?_) | (refine EvC.condF ?_ ?_; simp (config := { maxSteps := 2000000 }) (disch := first | omega | rfl) only [sB, Nat.reduceEqDiff, reduceCtorEq]; refine z02 ?_))
      refine z06 rfl (by simp only [sB, Nat.reduceEqDiff, reduceCtorEq] <;> rfl) ⟨?_, rfl⟩
      rw [freeS, if_pos hv, ek, if_pos h1]
    · repeat' (first | refine EvC.seq ?_ | refine EvC.scope ?_ | refine EvC.block ?_ | (refine EvC.skip ?_) | (refine EvC.exit ?_) | (refine EvC.ret ?_; try simp only [z01, z00]) | (refine EvC.reg ?_; simp (config := { maxSteps := 2000000 }) (disch := first | omega | rfl) only [sB, Nat.reduceEqDiff, reduceCtorEq, z15, ld28, ia28, z0z, ld3, z05, z08, l0, l1', z0y rfl, z4o h1]) | (refine z0l ?_; simp (config := { maxSteps := 2000000 }) (disch := first | omega | rfl) only [sB, Nat.reduceEqDiff, reduceCtorEq]) | (refine EvC.condT ?_ ?_; simp (config := { maxSteps := 2000000 }) (disch := first | omega | rfl) only [sB, Nat.reduceEqDiff, reduceCtorEq]; refine z02 ?_))
      refine z06 rfl (by simp only [sB, Nat.reduceEqDiff, reduceCtorEq] <;> rfl) ⟨?_, rfl⟩
      rw [freeS, if_pos hv, ek, if_neg h1]
  · simp only [if_neg hv]
    have d9 : ((133 : Int) == 0) = false := rfl
    repeat' (first | refine EvC.seq ?_ | refine EvC.scope ?_ | refine EvC.block ?_ | (refine EvC.skip ?_; try simp only [z04]) | (refine EvC.exit ?_) | (refine EvC.ret ?_; try simp only [z01, z00]) | (refine EvC.reg ?_; simp (config := { maxSteps := 2000000 }) (disch := first | omega | rfl) only [sB, Nat.reduceEqDiff, reduceCtorEq, d9, Bool.false_eq_true]) | (refine z0l ?_; simp (config := { maxSteps := 2000000 }) (disch := first | omega | rfl) only [sB, Nat.reduceEqDiff, reduceCtorEq]) | (refine EvC.condT ?_ ?_; simp (config := { maxSteps := 2000000 }) (disch := first | omega | rfl) only [sB, Nat.reduceEqDiff, reduceCtorEq]; refine z02 ?_) | (refine EvC.condF ?_ ?_; simp (config := { maxSteps := 2000000 }) (disch := first | omega | rfl) only [sB, Nat.reduceEqDiff, reduceCtorEq]; refine z02 ?_))
    refine z06 rfl (by simp only [sB, Nat.reduceEqDiff, reduceCtorEq] <;> rfl) ⟨?_, rfl⟩
    rw [freeS, if_neg hv]
end Go.Proofs.YthkogijbkachdaaDoor.hb
end

-- Tw
section
namespace Go.Hb
open Go Go.RowKit
section
variable {P : Program} {ok : Ok} {x : Ctx} {ops : Array Oper} {base : Nat}
theorem EvS.mono {K K' : St → Prop} (hk : ∀ st, K st → K' st) : ∀ (S : List (List (Nat × Nat) × Option Nat)) (hs : List Heap) (tm : Tr Value) (ds : List Deferred), EvS P ok x ops base S hs tm ds K → EvS P ok x ops base S hs tm ds K'
  | [], _, _, _, h => h
  | (L, none) :: _, hs, tm, ds, h => by
    obtain ⟨G, gs, e, h⟩ := h
    exact ⟨G, gs, e, h.mono (fun _ _ q => hk _ q)⟩
  | (L, some e) :: S, hs, tm, ds, h => by
    obtain ⟨G, gs, o, e, ho, h⟩ := h
    refine ⟨G, gs, o, e, ho, h.mono (fun tm1 H1 q => ?_)⟩
    rcases q with ⟨hw, q⟩ | ⟨hw, q⟩
    · exact .inl ⟨hw, EvS.mono hk S _ _ _ q⟩
    · exact .inr ⟨hw, q.mono fun v ds1 H2 q => EvS.mono hk S _ _ _ q⟩
def stgs (ops : Array Oper) (es : List Nat) (done : Nat) : List (List (Nat × Nat) × Option Nat) :=
  (schedGo ops.size (Region.before ops) (effsOf ops) es done).map fun p => (p.1.map fun i => (i, effsIn (effsOf ops) ((Region.before ops).getD i 0)), p.2)
theorem zaj {K : St → Prop} {b : Array Nat} {effs : List Nat} {e : Nat} {es : List Nat} {done : Nat} {hs : List Heap} {tm : Tr Value} {ds : List Deferred} (ht : noTwin b es = true)
    (h : EvS P ok x ops base ((schedGo ops.size b effs (e :: es) done).map fun p => (p.1.map fun i => (i, effsIn effs (b.getD i 0)), p.2)) hs tm ds K) :
    Upon (fun n => dstage P ok n x ops b effs base (e :: es) done hs tm ds) K := by
  obtain ⟨G, gs, o, rfl, ho, h⟩ := h
  have ho' : ops[e]? = some o := by simpa using ho
  obtain ⟨tm1, H1, en, hk⟩ := z30 _ _ _ h
  rcases hk with ⟨hw, hk⟩ | ⟨hw, hk⟩
  · refine Upon.go (fun n => ?_) (z4j es _ _ _ ds ht hk)
    rw [dstage]
    simp only at en
    simp only [en, ho', hw]
    cases o.dst <;> rfl
  · refine Upon.step (fun n r => match r with | .val v ds1 H2 => ddraw P ok n x ops b effs base es (done ||| b.getD e 0 ||| 2 ^ e) (H2 :: G :: gs) (putD tm1 o.dst v) ds1 | _ => none) (fun n r hr => ?_) hk ?_
    · rw [dstage]
      simp only at en
      simp only [en, ho', hw, hr]
      cases r <;> cases o.dst <;> rfl
    · rintro r ⟨v, ds1, H2, rfl, hk⟩
      exact z4j es _ _ _ ds1 ht hk
theorem z5n : ∀ (L : List Value), (∀ v ∈ L, cellEq v v = true) → cellsEq L L = true
  | [], _ => rfl
  | v :: L, h => by rw [cellsEq, h v (by simp), z5n L fun u hu => h u (by simp [hu])]; rfl
theorem z77 {L : List Value} {e : TypeId} (h : ∀ v ∈ L, cellEq v v = true) : blkEq (some (.row L e)) (some (.row L e)) = true := by
  show (Nat.beq e e && cellsEq L L) = true
  rw [z5n L h, Nat.beq_refl]; rfl
theorem zj5 {p q : Nat} {st st' : St} (ht : (ops.toList.all fun o => match o.dst with | some d => slotEq (st.tm.get d) (st'.tm.get d) | none => true) = true) (hH : ∀ n, st'.H.get n = st.H.get n)
    (hp : blkEq (st.H.get p) (st.H.get p) = true) (hq : blkEq (st.H.get q) (st.H.get q) = true) (hb : ∀ i, i < ops.size → blkEq (st.H.get (base + i)) (st.H.get (base + i)) = true) : agree ops base p q st st' = true := by
  unfold agree
  simp only [hH]
  refine Bool.and_eq_true_iff.2 ⟨Bool.and_eq_true_iff.2 ⟨Bool.and_eq_true_iff.2 ⟨ht, hp⟩, hq⟩, ?_⟩
  rw [List.all_eq_true]
  intro i hi
  exact hb i (List.mem_range.1 hi)
def stB (ops : Array Oper) (e : Nat) (tm : Tr Value) : Option Nat := match ops[e]? with
  | some o => stBlk o (ev tm)
  | none => none
theorem zlr {K : St → Prop} {b : Array Nat} {effs : List Nat} {e f : Nat} {done p q : Nat} {G : Heap} {gs : List Heap} {tm : Tr Value} {ds : List Deferred} (ht : twin b [e, f] = some (e, f))
    (hp : EvN P ops base (G :: gs) ((pending (List.range ops.size) effs (b.getD e 0) done).map fun i => (i, effsIn effs (b.getD i 0))) tm G fun t _ => stB ops e t = some p)
    (hq : EvN P ops base (G :: gs) ((pending (List.range ops.size) effs (b.getD f 0) done).map fun i => (i, effsIn effs (b.getD i 0))) tm G fun t _ => stB ops f t = some q)
    (h : EvS P ok x ops base ((schedGo ops.size b effs [e, f] done).map fun p => (p.1.map fun i => (i, effsIn effs (b.getD i 0)), p.2)) (G :: gs) tm ds fun st =>
      EvS P ok x ops base ((schedGo ops.size b effs [f, e] done).map fun p => (p.1.map fun i => (i, effsIn effs (b.getD i 0)), p.2)) (G :: gs) tm ds fun st' => agree ops base p q st st' = true ∧ K st) :
    EvDr P ok x ops b effs base [e, f] done (G :: gs) tm ds K := by
  obtain ⟨N, st, h1, h⟩ := zaj (by rfl) h
  obtain ⟨N2, st', h2, hag, hk⟩ := zaj (by rfl) h
  obtain ⟨t1, G1, e1, k1⟩ := z30 _ _ _ hp
  obtain ⟨t2, G2, e2, k2⟩ := z30 _ _ _ hq
  have hd : dtwin P ops b effs base done (G :: gs) tm e f = some (p, q) := by
    unfold dtwin
    unfold stB at k1 k2
    simp only [e1, e2]
    cases ho : ops[e]? with
    | none => rw [ho] at k1; cases k1
    | some o =>
      cases ho2 : ops[f]? with
      | none => rw [ho2] at k2; cases k2
      | some o2 =>
        rw [ho] at k1
        rw [ho2] at k2
        simp only at k1 k2
        simp only [k1, k2]
  refine ⟨max N N2 + 1, st, fun n hn => ?_, hk⟩
  obtain ⟨m, rfl⟩ : ∃ m, n = m + 1 := ⟨n - 1, by omega⟩
  show ddraw P ok (m + 1) x ops b effs base [e, f] done (G :: gs) tm ds = _
  rw [ddraw]
  simp only [ht, h1 m (by omega), h2 m (by omega), hd, hag, if_true]
theorem EvC.drwT {id a e f : Nat} {tm : Tr Value} {ds : List Deferred} {H : Heap} {Q : Ex → St → Prop} (L0 Le Lf : List (Nat × Nat)) (S1 S2 : List (List (Nat × Nat) × Option Nat)) (done : Nat) (hE : effsOf ops = [a, e, f]) (ht : twin (Region.before ops) [e, f] = some (e, f))
    (h0 : (pending (List.range ops.size) (effsOf ops) ((Region.before ops).getD a 0) 0).map (fun i => (i, effsIn (effsOf ops) ((Region.before ops).getD i 0))) = L0) (hdn : 0 ||| (Region.before ops).getD a 0 ||| 2 ^ a = done)
    (h1 : stgs ops [e, f] done = S1) (h2 : stgs ops [f, e] done = S2)
    (he : (pending (List.range ops.size) (effsOf ops) ((Region.before ops).getD e 0) done).map (fun i => (i, effsIn (effsOf ops) ((Region.before ops).getD i 0))) = Le)
    (hf : (pending (List.range ops.size) (effsOf ops) ((Region.before ops).getD f 0) done).map (fun i => (i, effsIn (effsOf ops) ((Region.before ops).getD i 0))) = Lf)
    (h : ES P ok x ops H.next [(L0, some a), ([], none)] ⟨H.next + ops.size, H.t⟩ [] tm ds fun tm1 ds1 H1 => ∃ p q,
      ES P ok x ops H.next [(Le, none)] H1 [⟨H.next + ops.size, H.t⟩] tm1 ds1 (fun t _ _ => stB ops e t = some p) ∧ ES P ok x ops H.next [(Lf, none)] H1 [⟨H.next + ops.size, H.t⟩] tm1 ds1 (fun t _ _ => stB ops f t = some q) ∧
      ES P ok x ops H.next S1 H1 [⟨H.next + ops.size, H.t⟩] tm1 ds1 fun tm2 ds2 H2 => ES P ok x ops H.next S2 H1 [⟨H.next + ops.size, H.t⟩] tm1 ds1 fun tm3 ds3 H3 => agree ops H.next p q ⟨tm2, ds2, H2⟩ ⟨tm3, ds3, H3⟩ = true ∧ Q .normal ⟨tm2, ds2, H2⟩) :
    EvC P ok x (.region id ops true) ⟨tm, ds, H⟩ Q := by
  subst h0 h1 h2 he hf
  have h' := EvS.of_ES _ _ _ _ _ h
  have key : EvDr P ok x ops (Region.before ops) (effsOf ops) H.next [a, e, f] 0 [⟨H.next + ops.size, H.t⟩] tm ds (Q .normal) := by
    refine Upon.go (f := fun n => dstage P ok n x ops (Region.before ops) (effsOf ops) H.next [a, e, f] 0 [⟨H.next + ops.size, H.t⟩] tm ds) (fun n => by rw [ddraw]; rfl) ?_
    obtain ⟨G, gs, o, hG, ho, h'⟩ := h'
    cases hG
    have ho' : ops[a]? = some o := by simpa using ho
    obtain ⟨tm1, H1, en, hk⟩ := z30 _ _ _ h'
    have fin : ∀ (tm2 : Tr Value) (ds2 : List Deferred) (H2 : Heap), EvS P ok x ops H.next [([], none)] [H2, ⟨H.next + ops.size, H.t⟩] tm2 ds2 (fun st => ∃ p q,
        ES P ok x ops H.next [((pending (List.range ops.size) (effsOf ops) ((Region.before ops).getD e 0) done).map (fun i => (i, effsIn (effsOf ops) ((Region.before ops).getD i 0))), none)] st.H [⟨H.next + ops.size, H.t⟩] st.tm st.ds (fun t _ _ => stB ops e t = some p) ∧
        ES P ok x ops H.next [((pending (List.range ops.size) (effsOf ops) ((Region.before ops).getD f 0) done).map (fun i => (i, effsIn (effsOf ops) ((Region.before ops).getD i 0))), none)] st.H [⟨H.next + ops.size, H.t⟩] st.tm st.ds (fun t _ _ => stB ops f t = some q) ∧
        ES P ok x ops H.next (stgs ops [e, f] done) st.H [⟨H.next + ops.size, H.t⟩] st.tm st.ds fun tm2 ds2 H2 => ES P ok x ops H.next (stgs ops [f, e] done) st.H [⟨H.next + ops.size, H.t⟩] st.tm st.ds fun tm3 ds3 H3 => agree ops H.next p q ⟨tm2, ds2, H2⟩ ⟨tm3, ds3, H3⟩ = true ∧ Q .normal ⟨tm2, ds2, H2⟩) →
        EvDr P ok x ops (Region.before ops) (effsOf ops) H.next [e, f] done [H2, ⟨H.next + ops.size, H.t⟩] tm2 ds2 (Q .normal) := by
      rintro tm2 ds2 H2 ⟨G, gs, hG, p, q, hp, hq, hst⟩
      cases hG
      refine zlr (p := p) (q := q) ht ?_ ?_ ?_
      · obtain ⟨G, gs, hG, r⟩ := EvS.of_ES _ _ _ _ _ hp
        cases hG; exact r
      · obtain ⟨G, gs, hG, r⟩ := EvS.of_ES _ _ _ _ _ hq
        cases hG; exact r
      · refine EvS.mono ?_ _ _ _ _ (EvS.of_ES _ _ _ _ _ hst)
        intro st hst
        exact EvS.of_ES _ _ _ _ _ hst
    rcases hk with ⟨hw, hk⟩ | ⟨hw, hk⟩
    · refine Upon.go (fun n => ?_) (fin _ _ _ hk)
      rw [dstage]
      try simp only at en
      simp only [en, ho', hw, hdn]
      cases o.dst <;> rfl
    · refine Upon.step (fun n r => match r with | .val v ds1 H2 => ddraw P ok n x ops (Region.before ops) (effsOf ops) H.next [e, f] (0 ||| (Region.before ops).getD a 0 ||| 2 ^ a) (H2 :: [⟨H.next + ops.size, H.t⟩]) (putD tm1 o.dst v) ds1 | _ => none) (fun n r hr => ?_) hk ?_
      · rw [dstage]
        try simp only at en
        simp only [en, ho', hw, hr]
        cases r <;> cases o.dst <;> rfl
      · rintro r ⟨v, ds1, H2, rfl, hk⟩
        rw [hdn]
        exact fin _ _ _ hk
  refine Upon.step (fun n st1 => some (.normal, st1)) (fun n r hr => ?_) key ?_
  · have e : dcode P ok (n + 1) x (.region id ops true) ⟨tm, ds, H⟩ = (match ddraw P ok n x ops (Region.before ops) (effsOf ops) H.next (effsOf ops) 0 [⟨H.next + ops.size, H.t⟩] tm ds with
        | some st1 => some (.normal, st1)
        | none => none) := by
      rw [dcode]; rfl
    rw [hE] at hr
    rw [e, hE, hr]
  · intro r hq
    exact ⟨0, _, fun n _ => rfl, hq⟩
end
end Go.Hb
end

-- Sg8
section
namespace Go.Proofs.YthkogijbkachdaaDoor.hb
open Go Go.RowKit Go.Hb
variable {ok : Ok}
set_option maxRecDepth 10000
attribute [local irreducible] LX LG EL STG SOP SGO SGD SAL SRD SEF SEG SLK SCK ES
theorem _root_.Go.Hb.HX.mut {H H' : Heap} {s n : Nat} (h : HX H H') (hs : s < H.next) (q : Mut H' s n) : Mut H s n := by
  rcases q with q | ⟨V, T, hg, q⟩
  · exact .inl q
  · exact .inr ⟨V, T, (h.keep s hs).symm.trans hg, q⟩
theorem St.fresh {H H' : Heap} {B s n : Nat} {σ : SS} (hs : St H B s σ) (hw : H.wf) (hx : HX H H') (hn : H.next ≤ n) : ¬ Mut H' s n := fun q => by
  have := hs.mhi hw (HX.mut hx (hs.lt hw) q); omega
theorem _root_.Go.Hb.SX.own {H H' : Heap} {s n : Nat} {D : Blk} (hx : SX s H H') (hw : H.wf) (hm : ¬ Mut H s n) (hg : H.get n = some D) : H'.get n = some D := (hx.get (hw _ _ hg) hm).trans hg
theorem _root_.Go.Hb.StR.beside {H : Heap} {B s : Nat} {T : TypeId} {F : List Fld} {V : List Value} (h : StR H B s T F V) (hw : H.wf) {H' : Heap} {S : Nat → Prop} (hk : HK S H H') (hd : ∀ n, S n → ¬ Mut H s n) : StR H' B s T F V ∧ ∀ n, Mut H' s n → Mut H s n := by
  have hg : ∀ n, Mut H s n → H'.get n = H.get n := fun n hn => hk.keep n (h.mhi hw hn) fun q => hd n q hn
  have ho : H'.get s = some (.row V T) := (hg s (.inl rfl)).trans h.obj
  refine ⟨⟨ho, h.ge, h.len, fun i f v hf hv => ?_, h.apart, h.off, h.ones⟩, fun n hn => ?_⟩
  · exact (h.fld i f v hf hv).heap (fun n hn => hg n (.inr ⟨V, T, h.obj, v, List.mem_of_getElem? hv, hn⟩)) hk.next
  · rcases hn with q | ⟨V', T', hg', q⟩
    · exact .inl q
    · rw [ho] at hg'; cases hg'; exact .inr ⟨V, T, h.obj, q⟩
theorem St.beside {H H' : Heap} {B s : Nat} {σ : SS} (hs : St H B s σ) (hw : H.wf) {S : Nat → Prop} (hk : HK S H H') (hd : ∀ n, S n → ¬ Mut H s n) : St H' B s σ ∧ ∀ n, Mut H' s n → Mut H s n := by
  obtain ⟨V, h⟩ := hs
  have := h.beside hw hk hd
  exact ⟨⟨V, this.1⟩, this.2⟩
theorem _root_.Go.Hb.SX.box {A C : Heap} {s n : Nat} (h : SX s A C) (hn : A.next ≤ n) (hl : n < C.next) (hm : ¬ Mut C s n) (D : Option Blk) : SX s A (C.put n D) :=
  ⟨h.hk.put (.inr hn) hl D, fun m q => by
    refine h.mt m ?_
    rcases q with q | ⟨V, T, hg, q⟩
    · exact .inl q
    · rw [get_put, if_neg (fun e => hm (.inl e.symm))] at hg
      exact .inr ⟨V, T, hg, q⟩⟩
theorem _root_.Go.Hb.row4c {H : Heap} {p : Nat} {T : TypeId} {x y z u : Value} (h : H.get p = some (.row [x, y, z, u] T)) : H.load ⟨p, 0, none⟩ 4 = some [x, y, z, u] := by
  simp only [Heap.load, Heap.cells, h]; rfl
abbrev zero6s : List Value := [.int .i64 0, .string ⟨#[]⟩, .string ⟨#[]⟩, .int .u64 0, .int .i64 0, .slice none 0 0]
def atomicS (σ : SS) (t : Tm) : SS × Nat := match σ.consts.findIdx? (eqCst t) with
  | some j => (σ, j)
  | none => ({ σ with consts := σ.consts ++ [t] }, σ.consts.length)
def functorS (σ : SS) (k : ByteArray × Int) : SS × Nat := match σ.funs.findIdx? (eqFun k) with
  | some j => (σ, j)
  | none => ({ σ with funs := σ.funs ++ [k] }, σ.funs.length)
theorem mapK : Tryd.prog.underlying 58 = some (.map 49 3) := Tryd.underlying58
theorem mapC : Tryd.prog.underlying 57 = some (.map 94 3) := Tryd.underlying57
theorem zI : pureRun Tryd.prog (zeroValue 3) = some (.int .i64 0) := by kernel_rfl
set_option maxHeartbeats 4000000 in
theorem zes {H : Heap} {B s : Nat} {σ : SS} {k : ByteArray × Int} (hs : St H B s σ) (hw : H.wf) (hm : σ.funs.length + 1 ≤ most) :
    EvF Tryd.prog okT 36 [.pointer (some ⟨s, 0, none⟩), .agg ⟨keyC k⟩] H fun r H' => r = .int .i64 ((functorS σ k).2 : Nat) ∧ St H' B s (functorS σ k).1 ∧ SX s H H' := by
  have hs0 := hs.lt hw
  refine EvF.enter rfl Tryd.func36 (by decide) rfl ?_
  (repeat refine EvC.seq ?_); refine EvC.reg ?_; simp (config := { maxSteps := 2000000 }) (disch := first | omega | rfl) only [sB, initTm, dBox, Value.cells, one, reduceCtorEq]
  obtain ⟨H1, e1, hx1, g1, n1, w1⟩ := new1 hw (.row (keyC k) 49)
  simp only [e1]
  have q1 := z14 g1
  have hs1 := hs.keep hw hx1
  obtain ⟨H2, e2, hx2, w2⟩ := z36 w1 11
  have hs2 := hs1.keep w1 hx2
  obtain ⟨a0, c0, a1, c1, a2, c2, a3, c3, a4, c4, a5, c5, r6, r7, a8, c8, a9, c9, h, l0, l1, l2, l3, l4, l5, l6, l7, l8, l9, b0, b1, b2, b3, b4, b5, b8, b9⟩ := hs2.open
  have q2 := z14 (hx2.get w1 g1)
  obtain ⟨r, es, clock, er, hr1, hr2, hg, hM⟩ := h.fld 7 _ _ rfl rfl
  cases er
  have elk := zh8 (x := k) (H := H2) keyK mapK zI hg hM
  cases hf : σ.funs.findIdx? (eqFun k) with
  | some j =>
    have efs : functorS σ k = (σ, j) := by rw [functorS, hf]
    rw [hf] at elk
    simp only [Option.getD_some, Option.isSome_some] at elk
    repeat' (first | refine EvC.seq ?_ | refine EvC.scope ?_ | refine EvC.block ?_ | (refine EvC.skip ?_; try simp only [z04]) | (refine EvC.exit ?_) | (refine EvC.ret ?_; try simp only [z01, z00]) | (refine EvC.reg ?_; simp (config := { maxSteps := 2000000 }) (disch := first | omega | rfl) only [sB, Nat.reduceEqDiff, reduceCtorEq, Bool.not_true]) | (refine EvC.drw (id := 1) [([(0, 0), (1, 0), (2, 0), (3, 0), (4, 0), (5, 0), (6, 0), (7, 0), (8, 0), (9, 0), (10, 0)], none)] ?_ ?_; kernel_rfl; simp (config := { maxSteps := 2000000 }) (disch := first | omega | rfl) only [sD, sB, Nat.reduceEqDiff, Nat.reduceAdd, reduceCtorEq, zgd, ld58, ld49, z05, z08, e2, q2, l7, z21, elk, isAlloc, isRead, reduceCtorEq]) | (refine EvC.condT ?_ ?_; simp (config := { maxSteps := 2000000 }) (disch := first | omega | rfl) only [sB, Nat.reduceEqDiff, reduceCtorEq]; refine z02 ?_) | (refine EvC.condF ?_ ?_; simp (config := { maxSteps := 2000000 }) (disch := first | omega | rfl) only [sB, Nat.reduceEqDiff, reduceCtorEq]; refine z02 ?_))
    refine z06 rfl (by simp only [sB, Nat.reduceEqDiff, reduceCtorEq] <;> rfl) ?_
    rw [efs]
    exact ⟨rfl, hs2, (hx1.trans hx2).sx hs0⟩
  | none =>
    have efs : functorS σ k = ({ σ with funs := σ.funs ++ [k] }, σ.funs.length) := by rw [functorS, hf]
    rw [hf] at elk
    simp only [Option.getD_none, Option.isSome_none] at elk
    obtain ⟨H3, e3, hx3, w3⟩ := z36 w2 7
    have h3 := h.keep w2 hx3
    have q3 := z14 (hx3.get w2 (hx2.get w1 g1))
    have l7' := h3.load (i := 7) rfl
    obtain ⟨es', ck', eup, hM'⟩ := zh9 (x := k) (H := H3) keyK mapK (hx3.get w2 hg) hM hf
    obtain ⟨H4, e4⟩ : ∃ H4, H3.put r7 (some (.map es' ck')) = H4 := ⟨_, rfl⟩
    have n4 : H4.next = H3.next := by rw [← e4]; rfl
    have w4 : H4.wf := by rw [← e4]; exact ((HK.refl (S := fun n => n = r7) w3).put (.inl rfl) (Nat.lt_of_lt_of_le hr2 hx3.next) _).wf
    have p4 := h3.alter w3 (H2 := H4) w4 (Nat.le_of_eq n4.symm) (i := 7) (v := .map (some r7)) rfl (fun n hn hne => by rw [← e4, get_put, if_neg (fun e => hne (by rw [e]; rfl))]) (f' := .mp (mapOf fkey (σ.funs ++ [k])))
      ⟨r7, es', ck', rfl, hr1, Nat.lt_of_lt_of_le hr2 (Nat.le_trans hx3.next (Nat.le_of_eq n4.symm)), by rw [← e4, get_put, if_pos rfl], hM'⟩
    obtain ⟨h4, x4⟩ := p4
    obtain ⟨H6, e6, hx6, g6, w6⟩ := zg5 w4 11 6 (by omega) (.row (keyC k) 49)
    have q5 := z14 ((x4.own w3 (hs.fresh hw (hx1.trans (hx2.trans hx3)) (Nat.le_refl _)) (hx3.get w2 (hx2.get w1 g1))))
    have l5' := h4.load (i := 5) rfl
    obtain ⟨H7, k7, e7, g7, -, -, H8, e8, s8, x8⟩ := (h4.keep w4 hx6).pushed (P := Tryd.prog) (i := 5) (c1 := 1) w6 ap60 rfl rfl (z14 g6).1 rfl rfl (by simpa using hm)
    simp only [List.set_cons_zero, List.set_cons_succ, List.length_map] at e7 e8
    have hs8 : St H8 B s { σ with funs := σ.funs ++ [k] } := ⟨_, by simpa [flds] using s8⟩
    repeat' (first | refine EvC.seq ?_ | refine EvC.scope ?_ | refine EvC.block ?_ | (refine EvC.skip ?_) | (refine EvC.exit ?_) | (refine EvC.ret ?_; try simp only [z01, z00]) | (refine EvC.reg ?_; simp (config := { maxSteps := 2000000 }) (disch := first | omega | rfl) only [sB, Nat.reduceEqDiff, reduceCtorEq, zga, ld60, ln60, z05, z08, l5, Bool.not_false]) | (refine EvC.drw (id := 1) [([(0, 0), (1, 0), (2, 0), (3, 0), (4, 0), (5, 0), (6, 0), (7, 0), (8, 0), (9, 0), (10, 0)], none)] ?_ ?_; kernel_rfl; simp (config := { maxSteps := 2000000 }) (disch := first | omega | rfl) only [sD, sB, Nat.reduceEqDiff, Nat.reduceAdd, reduceCtorEq, zgd, ld58, ld49, z05, z08, e2, q2, l7, z21, elk, isAlloc, isRead, reduceCtorEq]) | (refine EvC.drw (id := 4) [([(0, 0), (1, 0), (2, 0), (3, 0), (4, 0), (5, 0)], some 6), ([], none)] ?_ ?_; kernel_rfl; simp (config := { maxSteps := 2000000 }) (disch := first | omega | rfl) only [sD, sB, Nat.reduceEqDiff, Nat.reduceAdd, reduceCtorEq, zgd, ld58, ld49, z05, z08, e3, e4, q3, l7', z35, eup, isAlloc, isRead, reduceCtorEq]) | (refine EvC.drw (id := 5) [([(1, 0), (2, 0), (3, 0), (4, 0), (5, 0), (6, 0)], some 7), ([(0, 0), (8, 1), (9, 1)], some 10), ([], none)] ?_ ?_; kernel_rfl; simp (config := { maxSteps := 2000000 }) (disch := first | omega | rfl) only [sD, sB, Nat.reduceEqDiff, Nat.reduceAdd, Value.cells, one, reduceCtorEq, Nat.reduceLeDiff, layC, ld49, zga, ld60, zmg, st60, z05, z08, e6, q5, l5', e7, g7, e8, isAlloc, isRead, dalloc, reduceCtorEq, z6u]) | (refine EvC.condT ?_ ?_; simp (config := { maxSteps := 2000000 }) (disch := first | omega | rfl) only [sB, Nat.reduceEqDiff, reduceCtorEq]; refine z02 ?_))
    refine z06 rfl (by simp only [sB, Nat.reduceEqDiff, reduceCtorEq] <;> rfl) ?_
    rw [efs]
    exact ⟨rfl, hs8, ((hx1.trans (hx2.trans hx3)).sx hs0).trans (x4.trans ((hx6.sx (h4.lt w4)).trans x8))⟩
set_option maxHeartbeats 4000000 in
theorem zhc {H : Heap} {B s : Nat} {σ : SS} {t : Tm} {a : Option Addr} {c : Nat} (hs : St H B s σ) (hw : H.wf) (ht : t.args = []) (hm : σ.consts.length + 1 ≤ most) :
    EvF Tryd.prog okT 35 [.pointer (some ⟨s, 0, none⟩), .agg ⟨six t a c⟩] H fun r H' => r = .int .i64 ((atomicS σ t).2 : Nat) ∧ St H' B s (atomicS σ t).1 ∧ SX s H H' := by
  have hs0 := hs.lt hw
  refine EvF.enter rfl Tryd.func35 (by decide) rfl ?_
  (repeat refine EvC.seq ?_); refine EvC.reg ?_; simp (config := { maxSteps := 2000000 }) (disch := first | omega | rfl) only [sB, initTm, dBox, Value.cells, one, reduceCtorEq]
  obtain ⟨H1, e1, hx1, g1, n1, w1⟩ := new1 hw (.row (six t a c) 32)
  simp only [e1]
  have q1 := row6 g1
  obtain ⟨Ha, ea, hxa, ga, na, wa⟩ := z29 w1 (.row [.int .i64 0, .string ByteArray.empty, .string ByteArray.empty, .int .u64 0] 94) (.row [.int .i64 t.kind, .string t.name, .string t.num, .int .u64 t.bits] 94)
  (repeat refine EvC.seq ?_); refine EvC.reg ?_; simp (config := { maxSteps := 2000000 }) (disch := first | omega | rfl) only [sB, dAlloc, Nat.reduceEqDiff, Nat.reduceAdd, Value.cells, one, reduceCtorEq, Nat.reduceLeDiff, layC, z3a, ld3, z5k, ld9, z82, za7, ld30, bd94, zr94, st94, q1, ea]
  have hsa := hs.keep hw (hx1.trans hxa)
  obtain ⟨H2, e2, hx2, w2⟩ := z36 wa 11
  have hs2 := hsa.keep wa hx2
  obtain ⟨a0, c0, a1, c1, a2, c2, a3, c3, a4, c4, a5, c5, r6, r7, a8, c8, a9, c9, h, l0, l1, l2, l3, l4, l5, l6, l7, l8, l9, b0, b1, b2, b3, b4, b5, b8, b9⟩ := hs2.open
  have q2 := row4c (hx2.get wa ga)
  obtain ⟨r, es, clock, er, hr1, hr2, hg, hM⟩ := h.fld 6 _ _ rfl rfl
  cases er
  have elk := zh8 (x := t) (H := H2) keyT mapC zI hg hM
  cases hf : σ.consts.findIdx? (eqCst t) with
  | some j =>
    have efs : atomicS σ t = (σ, j) := by rw [atomicS, hf]
    rw [hf] at elk
    simp only [Option.getD_some, Option.isSome_some] at elk
    repeat' (first | refine EvC.seq ?_ | refine EvC.scope ?_ | refine EvC.block ?_ | (refine EvC.skip ?_; try simp only [z04]) | (refine EvC.exit ?_) | (refine EvC.ret ?_; try simp only [z01, z00]) | (refine EvC.reg ?_; simp (config := { maxSteps := 2000000 }) (disch := first | omega | rfl) only [sB, Nat.reduceEqDiff, reduceCtorEq, Bool.not_true]) | (refine EvC.drw (id := 2) [([(0, 0), (1, 0), (2, 0), (3, 0), (4, 0), (5, 0), (6, 0), (7, 0), (8, 0), (9, 0), (10, 0)], none)] ?_ ?_; kernel_rfl; simp (config := { maxSteps := 2000000 }) (disch := first | omega | rfl) only [sD, sB, Nat.reduceEqDiff, Nat.reduceAdd, reduceCtorEq, zgc, ld57, ld94, z05, z08, e2, q2, l6, z21, elk, isAlloc, isRead, reduceCtorEq]) | (refine EvC.condT ?_ ?_; simp (config := { maxSteps := 2000000 }) (disch := first | omega | rfl) only [sB, Nat.reduceEqDiff, reduceCtorEq]; refine z02 ?_) | (refine EvC.condF ?_ ?_; simp (config := { maxSteps := 2000000 }) (disch := first | omega | rfl) only [sB, Nat.reduceEqDiff, reduceCtorEq]; refine z02 ?_))
    refine z06 rfl (by simp only [sB, Nat.reduceEqDiff, reduceCtorEq] <;> rfl) ?_
    rw [efs]
    exact ⟨rfl, hs2, (hx1.trans (hxa.trans hx2)).sx hs0⟩
  | none =>
    have efs : atomicS σ t = ({ σ with consts := σ.consts ++ [t] }, σ.consts.length) := by rw [atomicS, hf]
    rw [hf] at elk
    simp only [Option.getD_none, Option.isSome_none] at elk
    obtain ⟨H3, e3, hx3, w3⟩ := z36 w2 7
    have h3 := h.keep w2 hx3
    have q3 := row4c (hx3.get w2 (hx2.get wa ga))
    have l6' := h3.load (i := 6) rfl
    obtain ⟨es', ck', eup, hM'⟩ := zh9 (x := t) (H := H3) keyT mapC (hx3.get w2 hg) hM hf
    obtain ⟨H4, e4⟩ : ∃ H4, H3.put r6 (some (.map es' ck')) = H4 := ⟨_, rfl⟩
    have n4 : H4.next = H3.next := by rw [← e4]; rfl
    have w4 : H4.wf := by rw [← e4]; exact ((HK.refl (S := fun n => n = r6) w3).put (.inl rfl) (Nat.lt_of_lt_of_le hr2 hx3.next) _).wf
    have p4 := h3.alter w3 (H2 := H4) w4 (Nat.le_of_eq n4.symm) (i := 6) (v := .map (some r6)) rfl (fun n hn hne => by rw [← e4, get_put, if_neg (fun e => hne (by rw [e]; rfl))]) (f' := .mp (mapOf ckey (σ.consts ++ [t])))
      ⟨r6, es', ck', rfl, hr1, Nat.lt_of_lt_of_le hr2 (Nat.le_trans hx3.next (Nat.le_of_eq n4.symm)), by rw [← e4, get_put, if_pos rfl], hM'⟩
    obtain ⟨h4, x4⟩ := p4
    have hx13 := hxa.trans (hx2.trans hx3)
    have nb : ¬ Mut H3 s H.next := hs.fresh hw (hx1.trans hx13) (Nat.le_refl _)
    have gb4 := x4.own w3 nb (hx13.get w1 g1)
    have nb4 : ¬ Mut H4 s H.next := fun q => by rcases x4.mt _ q with q | q; exact nb q; (have := hx13.lt w1 g1; omega)
    have hk5 := (HK.refl (S := fun n => n = H.next) w4).put (.inl rfl) (w4 _ _ gb4) (some (.row (six0 t) 32))
    obtain ⟨h5, x5⟩ := h4.beside w4 hk5 (fun n q => q ▸ nb4)
    have hR : six0 t = [.int .i64 t.kind, .string t.name, .string t.num, .int .u64 t.bits, .int .i64 t.var, .slice none 0 0] := by show six t none 0 = _; rw [six, ht]; rfl
    obtain ⟨H5, e5⟩ : ∃ H5, H4.put H.next (some (.row (six0 t) 32)) = H5 := ⟨_, rfl⟩
    have g5 : H5.get H.next = some (.row (six0 t) 32) := by rw [← e5, get_put, if_pos rfl]
    rw [e5] at h5 hk5 x5
    rw [hR] at e5 g5
    have w5 := hk5.wf
    have q5 := row6 g5
    have l4' := h5.load (i := 4) rfl
    obtain ⟨H6, e6, hx6, g6, w6⟩ := zg5 w5 13 6 (by omega) (.row zero6s 32)
    have h6 := h5.keep w5 hx6
    have hB6 : B ≤ H6.next := Nat.le_trans h6.ge (Nat.le_of_lt (h6.lt w6))
    obtain ⟨H7, c7, e7, o7, n7, w7, k7, r7'⟩ := (h6.fld 4 _ _ rfl rfl).push (P := Tryd.prog) (t := 22) (c1 := 1) w6 ap22 (row6 g6).2.2.2.2.2.2 rfl rfl (by simpa using hm) hB6
    rw [List.length_map] at e7
    obtain ⟨cs, gc, hle, -⟩ := o7.row
    have hlen : (σ.consts.map six0 ++ [zero6s]).length = σ.consts.length + 1 := by simp
    have o8 := o7.set gc (i := σ.consts.length) (y := six0 t) (by rw [hlen]; omega) rfl rfl
    have es : (σ.consts.map six0 ++ [zero6s]).set σ.consts.length (six0 t) = σ.consts.map six0 ++ [six0 t] := by
      have : σ.consts.length = (σ.consts.map six0).length := by simp
      rw [this, List.set_append_right _ _ (Nat.le_refl _), Nat.sub_self]; rfl
    rw [es] at o8
    obtain ⟨H8, e8⟩ : ∃ H8, H7.put H6.next (some (.row (Hb.splice cs (σ.consts.length * 6) (six0 t)) 32)) = H8 := ⟨_, rfl⟩
    have w8 : H8.wf := by rw [← e8]; exact ((HK.refl (S := fun n => n = H6.next) w7).put (.inl rfl) (by omega) _).wf
    have n8 : H8.next = H7.next := by rw [← e8]; rfl
    have p8 := h6.put w6 (H2 := H8) w8 (by omega) (i := 4) rfl (fun n hn hne => by rw [← e8, get_put, if_neg (by omega)]; exact k7 n hn hne) (f' := .sl 32 6 (σ.consts.map six0 ++ [six0 t])) (v' := .slice (some ⟨H6.next, 0, none⟩) (σ.consts.length + 1) c7)
      (.inr ⟨H6.next, c7, e8 ▸ o8, by simp⟩) (fun n hn => .inr (by cases hn; exact Nat.le_refl _)) rfl
    obtain ⟨s9, x9⟩ := p8
    simp only [List.set_cons_zero, List.set_cons_succ] at s9 x9
    obtain ⟨H9, e9⟩ : ∃ H9, H8.put s (some (.row [.slice a0 σ.cells.length c0, .slice a1 σ.own.length c1, .slice a2 σ.vars.length c2, .slice a3 σ.flags.length c3, .slice (some ⟨H6.next, 0, none⟩) (σ.consts.length + 1) c7, .slice a5 σ.funs.length c5, .map (some r6), .map (some r7), .slice a8 σ.trail.length c8, .slice a9 σ.marks.length c9] 64)) = H9 := ⟨_, rfl⟩
    rw [e9] at s9 x9
    have hs9 : St H9 B s { σ with consts := σ.consts ++ [t] } := ⟨_, by simpa [flds] using s9⟩
    rw [hR] at e8
    have hs6' := h6.lt w6
    have hle' : σ.consts.length * 6 + 6 ≤ cs.length := by rw [hlen] at hle; omega
    have gs8 : H8.get s = _ := (show H8.get s = H6.get s by rw [← e8, get_put, if_neg (by omega)]; exact k7 s hs6' (h6.off 4 _ rfl)).trans h6.obj
    repeat' (first | refine EvC.seq ?_ | refine EvC.scope ?_ | refine EvC.block ?_ | (refine EvC.skip ?_) | (refine EvC.exit ?_) | (refine EvC.ret ?_; try simp only [z01, z00]) | (refine EvC.reg ?_; simp (config := { maxSteps := 2000000 }) (disch := first | omega | rfl) only [sB, Nat.reduceEqDiff, Nat.reduceAdd, one, reduceCtorEq, za9, ld22, ln22, z3h, st22, z05, z08, e5, l4, gb4, Bool.not_false]) | (refine EvC.drw (id := 2) [([(0, 0), (1, 0), (2, 0), (3, 0), (4, 0), (5, 0), (6, 0), (7, 0), (8, 0), (9, 0), (10, 0)], none)] ?_ ?_; kernel_rfl; simp (config := { maxSteps := 2000000 }) (disch := first | omega | rfl) only [sD, sB, Nat.reduceEqDiff, Nat.reduceAdd, reduceCtorEq, zgc, ld57, ld94, z05, z08, e2, q2, l6, z21, elk, isAlloc, isRead, reduceCtorEq]) | (refine EvC.drw (id := 5) [([(0, 0), (1, 0), (2, 0), (3, 0), (4, 0), (5, 0)], some 6), ([], none)] ?_ ?_; kernel_rfl; simp (config := { maxSteps := 2000000 }) (disch := first | omega | rfl) only [sD, sB, Nat.reduceEqDiff, Nat.reduceAdd, reduceCtorEq, zgc, ld57, ld94, z05, z08, e3, e4, q3, l6', z35, eup, isAlloc, isRead, reduceCtorEq]) | (refine EvC.condT ?_ ?_; simp (config := { maxSteps := 2000000 }) (disch := first | omega | rfl) only [sB, Nat.reduceEqDiff, reduceCtorEq]; refine z02 ?_))
    refine EvC.drwT [(0, 0), (1, 0), (2, 0), (3, 0), (4, 0), (5, 0), (6, 0)] [(8, 1)] [(10, 1), (11, 1)] [([(8, 1)], some 9), ([(10, 1), (11, 1)], some 12), ([], none)] [([(10, 1), (11, 1)], some 12), ([(8, 1)], some 9), ([], none)] 255 (a := 7) (e := 9) (f := 12) (by kernel_rfl) (by kernel_rfl) (by kernel_rfl) (by kernel_rfl) (by kernel_rfl) (by kernel_rfl) (by kernel_rfl) (by kernel_rfl) ?_
    simp (config := { maxSteps := 2000000 }) (disch := first | omega | rfl) only [sD, sB, Nat.reduceEqDiff, Nat.reduceAdd, Value.cells, one, reduceCtorEq, layC, za9, ld22, ln22, st22, ld32, zg8, ia22, st32, z05, z08, q5, l4', e6, e7, isAlloc, isRead, dalloc, reduceCtorEq]
    have ne1 : (H6.next = s) = False := eq_false (by omega)
    have ne2 : (s = H6.next) = False := eq_false (by omega)
    have gs7 : H7.get s = _ := (k7 s hs6' (h6.off 4 _ rfl)).trans h6.obj
    have hp : stB #[] 0 Tr.nil = none := rfl
    refine ⟨H6.next, s, ?_, ?_, ?_⟩
    · simp only [sB, stB, List.getElem?_toArray, stBlk, Nat.reduceEqDiff, reduceCtorEq]
    · simp only [sB, stB, List.getElem?_toArray, stBlk, Nat.reduceEqDiff, reduceCtorEq]
    simp (config := { maxSteps := 2000000 }) (disch := first | omega | rfl) only [sD, sB, Nat.reduceEqDiff, Nat.reduceAdd, one, reduceCtorEq, Nat.reduceLeDiff, za9, st22, ia22, st32, z05, z08, gc, hle', gs7, gs8, ne1, e8, e9, isAlloc, isRead, reduceCtorEq, z6u]
    refine ⟨?_, ?_⟩
    · refine zj5 ?_ (fun n => ?_) ?_ ?_ (fun i hi => ?_)
      · simp only [sV, sB, slotEq, cellEq, Bool.true_or, Nat.reduceEqDiff, reduceCtorEq]
      · show ((H7.put s _).put H6.next _).get n = H9.get n
        rw [← e9, ← e8]
        simp only [get_put]
        by_cases q1 : n = s
        · rw [if_neg (by omega), if_pos q1, if_pos q1]
        · by_cases q2 : n = H6.next
          · rw [if_pos q2, if_neg q1, if_pos q2]
          · rw [if_neg q2, if_neg q1, if_neg q1, if_neg q2]
      · show blkEq (H9.get H6.next) (H9.get H6.next) = true
        have : H9.get H6.next = some (.row (σ.consts.map six0 ++ [six0 t]).flatten 32) := by
          rw [← e9, get_put, if_neg (by omega), ← e8, get_put, if_pos rfl, ← hR]
          rw [r7'] at gc
          cases gc
          rw [z8r (s := 6) (σ.consts.map six0 ++ [zero6s]) σ.consts.length (six0 t) (fun x hx => o7.sz x hx) rfl (by rw [hlen]; omega), es]
        rw [this]
        refine z77 fun v hv => ?_
        obtain ⟨l, h1, h2⟩ := List.mem_flatten.1 hv
        obtain ⟨u, rfl⟩ : ∃ u : Tm, l = six0 u := by
          rcases List.mem_append.1 h1 with h1 | h1
          · obtain ⟨u, -, rfl⟩ := List.mem_map.1 h1; exact ⟨u, rfl⟩
          · rw [List.mem_singleton] at h1; exact ⟨t, h1⟩
        simp only [six0, List.mem_cons, List.not_mem_nil, or_false] at h2
        rcases h2 with rfl | rfl | rfl | rfl | rfl | rfl <;> simp [cellEq, veq]
      · show blkEq (H9.get s) (H9.get s) = true
        rw [s9.obj]
        refine z77 fun v hv => ?_
        simp only [List.mem_cons, List.not_mem_nil, or_false] at hv
        rcases hv with rfl | rfl | rfl | rfl | rfl | rfl | rfl | rfl | rfl | rfl <;> simp [cellEq, veq]
      · show blkEq (H9.get (H5.next + i)) (H9.get (H5.next + i)) = true
        have n6 : H6.next = H5.next + 13 := by rw [← e6]; rfl
        have hi' : i < 13 := hi
        have hv5 : blkOf (.slice a4 σ.consts.length c4) ≠ some (H5.next + i) := fun q => by
          have := ((h5.fld 4 _ _ rfl rfl).lo q).2; omega
        have hs5 := h5.lt w5
        have e : H9.get (H5.next + i) = H6.get (H5.next + i) := by
          rw [← e9, get_put, if_neg (by omega), ← e8, get_put, if_neg (by omega)]
          exact k7 _ (by omega) hv5
        rw [e, ← e6, get_put]
        split
        · refine z77 fun v hv => ?_
          simp only [List.mem_cons, List.not_mem_nil, or_false] at hv
          rcases hv with rfl | rfl | rfl | rfl | rfl | rfl <;> simp [cellEq, veq]
        · have : Heap.get ⟨H5.next + 13, H5.t⟩ (H5.next + i) = none := by
            cases hq : H5.get (H5.next + i) with
            | none => exact hq
            | some D => exact absurd (w5 _ _ hq) (by omega)
          rw [this]; rfl
    · repeat' (first | refine EvC.seq ?_ | refine EvC.scope ?_ | refine EvC.block ?_ | (refine EvC.skip ?_) | (refine EvC.exit ?_) | (refine EvC.ret ?_; try simp only [z01, z00]) | (refine EvC.reg ?_; simp (config := { maxSteps := 2000000 }) (disch := first | omega | rfl) only [sB, Nat.reduceEqDiff, reduceCtorEq]))
      refine z06 rfl (by simp only [sB, Nat.reduceEqDiff, reduceCtorEq] <;> rfl) ?_
      rw [efs]
      have x5' := (((hx1.trans hx13).sx hs0).trans x4).box (Nat.le_refl _) (w4 _ _ gb4) nb4 (some (.row (six0 t) 32))
      rw [hR, e5] at x5'
      exact ⟨rfl, hs9, x5'.trans ((hx6.sx (h5.lt w5)).trans x9)⟩
end Go.Proofs.YthkogijbkachdaaDoor.hb
end

-- Sg6
section
namespace Go.Hb
open Go Go.RowKit
theorem Der.det {cells : List (Int × Int)} {n : Nat} {c d : Int × Int} (h : Der cells n c d) : ∀ {m : Nat} {e : Int × Int}, Der cells m c e → d = e := by
  induction h with
  | stop h1 => intro m e k; cases k with
    | stop _ => rfl
    | var _ _ _ _ => rfl
    | go k1 => exact absurd k1 h1
  | var h1 h2 h3 h4 => intro m e k; cases k with
    | stop _ => rfl
    | var _ _ _ _ => rfl
    | go _ _ _ k4 => exact absurd h4 k4
  | go h1 h2 h3 h4 _ ih => intro m e k; cases k with
    | stop k1 => exact absurd h1 k1
    | var _ _ _ k4 => exact absurd k4 h4
    | go _ _ _ _ k5 => exact ih k5
noncomputable def dr (cells : List (Int × Int)) (c : Int × Int) : Int × Int := open Classical in if h : ∃ p : Nat × (Int × Int), Der cells p.1 c p.2 then (Classical.choose h).2 else c
theorem zby {cells : List (Int × Int)} {n : Nat} {c d : Int × Int} (h : Der cells n c d) : dr cells c = d := by
  have hx : ∃ p : Nat × (Int × Int), Der cells p.1 c p.2 := ⟨(n, d), h⟩
  unfold dr
  rw [dif_pos hx]
  exact (Classical.choose_spec hx).det h
end Go.Hb
namespace Go.Proofs.YthkogijbkachdaaDoor.hb
open Go Go.RowKit Go.Hb
variable {ok : Ok}
set_option maxRecDepth 10000
attribute [local irreducible] LX LG EL STG SOP SGO SGD SAL SRD SEF SEG SLK SCK ES
def flagS (σ : SS) (v : Int) : SS × Int := if freeS σ v ≠ 0 then (σ, freeS σ v) else if (σ.flags[v.toNat]?).getD false = true then (σ, 0) else ({ σ with flags := σ.flags.set v.toNat true, trail := σ.trail ++ [(1, v)] }, 0)
noncomputable def bindS (σ : SS) (v : Int) (c : Int × Int) : SS × Int := if freeS σ v ≠ 0 then (σ, freeS σ v) else if mayS σ c = false then (σ, 130) else if dr σ.cells c = (2, gi σ.vars v) then (σ, 1) else
  ({ σ with cells := σ.cells.set (gi σ.vars v).toNat (dr σ.cells c), trail := σ.trail ++ [(0, v)] }, 0)
theorem z3u {σ : SS} {v : Int} (h : freeS σ v = 0) : okV σ v ∧ (ci σ.cells (gi σ.vars v)).1 = 1 := by
  unfold freeS at h
  split at h
  · split at h
    · exact ⟨by assumption, by assumption⟩
    · omega
  · omega
set_option maxHeartbeats 4000000 in
theorem zls {H : Heap} {B s : Nat} {σ : SS} {v : Int} (hs : St H B s σ) (hw : H.wf) (hb : VarB σ) (hf : σ.flags.length = σ.vars.length) (hm : σ.trail.length + 1 ≤ most) :
    EvF Tryd.prog okT 17 [.pointer (some ⟨s, 0, none⟩), .int .i64 v] H fun r H' => r = .int .i64 (flagS σ v).2 ∧ St H' B s (flagS σ v).1 ∧ SX s H H' := by
  obtain ⟨a0, c0, a1, c1, a2, c2, a3, c3, a4, c4, a5, c5, r6, r7, a8, c8, a9, c9, h, l0, l1, l2, l3, l4, l5, l6, l7, l8, l9, b0, b1, b2, b3, b4, b5, b8, b9⟩ := hs.open
  refine EvF.enter rfl Tryd.func17 (by decide) rfl ?_
  repeat' (first | refine EvC.seq ?_ | refine EvC.scope ?_ | refine EvC.block ?_ | (refine EvC.skip ?_) | (refine EvC.exit ?_) | (refine EvC.ret ?_; try simp only [z01, z00]) | (refine EvC.reg ?_; simp (config := { maxSteps := 2000000 }) (disch := first | omega | rfl) only [sB, initTm, Nat.reduceEqDiff, reduceCtorEq, cl28]))
  refine (zhb hs hb).mono ?_
  rintro r H' ⟨rfl, rfl⟩
  by_cases h0 : freeS σ v = 0
  · obtain ⟨hv, -⟩ := z3u h0
    obtain ⟨n, rfl⟩ := Int.eq_ofNat_of_zero_le hv.1
    have hn : n < σ.flags.length := by have := hv.2.1; omega
    obtain ⟨b, cs, rfl, o, gb, hle⟩ := h.row (i := 3) (k := n) rfl rfl (by simpa using hn)
    obtain ⟨b', e1, -, ld⟩ := h.el1 (i := 3) (k := n) (x := flg1 (σ.flags[n])) rfl rfl (by rw [List.getElem?_map, List.getElem?_eq_getElem hn]; rfl)
    cases e1
    cases hfl : σ.flags[n] with
    | true =>
      rw [hfl] at ld
      have hfl' : flagS σ n = (σ, 0) := by rw [flagS, if_neg (by omega), if_pos (by rw [Int.toNat_natCast, List.getElem?_eq_getElem hn, hfl]; rfl)]
      repeat' (first | refine EvC.seq ?_ | refine EvC.scope ?_ | refine EvC.block ?_ | (refine EvC.skip ?_; try simp only [z04]) | (refine EvC.exit ?_) | (refine EvC.ret ?_; try simp only [z01, z00]) | (refine EvC.reg ?_; simp (config := { maxSteps := 2000000 }) (disch := first | omega | rfl) only [sB, Nat.reduceEqDiff, reduceCtorEq, z6y, ld59, ia59, ld4, z05, z08, l3, ld, z1l h0, Bool.not_true]) | (refine EvC.condT ?_ ?_; simp (config := { maxSteps := 2000000 }) (disch := first | omega | rfl) only [sB, Nat.reduceEqDiff, reduceCtorEq]; refine z02 ?_) | (refine EvC.condF ?_ ?_; simp (config := { maxSteps := 2000000 }) (disch := first | omega | rfl) only [sB, Nat.reduceEqDiff, reduceCtorEq]; refine z02 ?_))
      refine z06 rfl (by simp only [sB, Nat.reduceEqDiff, reduceCtorEq] <;> rfl) ?_
      rw [hfl']
      exact ⟨rfl, hs, SX.refl hw⟩
    | false =>
      rw [hfl] at ld
      have hfl' : flagS σ n = ({ σ with flags := σ.flags.set n true, trail := σ.trail ++ [(1, (n : Int))] }, 0) := by rw [flagS, if_neg (by omega), if_neg (by rw [Int.toNat_natCast, List.getElem?_eq_getElem hn, hfl]; simp)]; rfl
      obtain ⟨H2, e2, s2, x2⟩ := h.write (i := 3) (k := n) (y := flg1 true) hw rfl rfl (by simpa using hn) gb rfl rfl
      have hs2 : St H2 B s { σ with flags := σ.flags.set n true } := ⟨_, by simpa [flds, List.map_set] using s2⟩
      clear s2
      rw [Nat.mul_one] at e2
      have hle' : n + 1 ≤ cs.length := by rw [List.length_map] at hle; omega
      obtain ⟨a0x, c0x, a1x, c1x, a2x, c2x, a3x, c3x, a4x, c4x, a5x, c5x, r6x, r7x, a8x, c8x, a9x, c9x, hx, l0x, l1x, l2x, l3x, l4x, l5x, l6x, l7x, l8x, l9x, b0x, b1x, b2x, b3x, b4x, b5x, b8x, b9x⟩ := hs2.open
      repeat' (first | refine EvC.seq ?_ | refine EvC.scope ?_ | refine EvC.block ?_ | (refine EvC.skip ?_; try simp only [z04]) | (refine EvC.exit ?_) | (refine EvC.ret ?_; try simp only [z01, z00]) | (refine EvC.reg ?_; simp (config := { maxSteps := 2000000 }) (disch := first | omega | rfl) only [sB, Nat.reduceEqDiff, Nat.reduceAdd, Value.cells, one, reduceCtorEq, Nat.reduceLeDiff, layC, z6y, ld59, ia59, ld4, st4, z70, ld61, bd78, zk8, z05, z08, l3, ld, gb, e2, hle', l8x, z1l h0, Bool.not_false]) | (refine EvC.condT ?_ ?_; simp (config := { maxSteps := 2000000 }) (disch := first | omega | rfl) only [sB, Nat.reduceEqDiff, reduceCtorEq]; refine z02 ?_) | (refine EvC.condF ?_ ?_; simp (config := { maxSteps := 2000000 }) (disch := first | omega | rfl) only [sB, Nat.reduceEqDiff, reduceCtorEq]; refine z02 ?_))
      obtain ⟨H5, e5, hx5, g5, n5, w5⟩ := new1 x2.wf (.row (two (1, (n : Int))) 78)
      simp only [e5]
      obtain ⟨H6, k6, e6, g6, -, -, H7, e7, s7, x7⟩ := (hx.keep x2.wf hx5).pushed (P := Tryd.prog) (i := 8) (c1 := 1) w5 ap61 rfl rfl (z14 g5).1 rfl rfl (by simpa using hm)
      simp only [List.set_cons_zero, List.set_cons_succ, List.length_map] at e6 e7
      have hs7 : St H7 B s { σ with flags := σ.flags.set n true, trail := σ.trail ++ [(1, (n : Int))] } := ⟨_, by simpa [flds, List.map_set] using s7⟩
      clear s7
      repeat' (first | refine EvC.seq ?_ | refine EvC.scope ?_ | refine EvC.block ?_ | (refine EvC.skip ?_) | (refine EvC.exit ?_) | (refine EvC.ret ?_; try simp only [z01, z00]) | (refine EvC.reg ?_; simp (config := { maxSteps := 2000000 }) (disch := first | omega | rfl) only [sA]) | (refine z0l ?_; simp (config := { maxSteps := 2000000 }) (disch := first | omega | rfl) only [sB, Nat.reduceEqDiff, Nat.reduceAdd, one, reduceCtorEq, Nat.reduceLeDiff, z70, st61, z05, z08, e6, g6, e7]))
      refine z06 rfl (by simp only [sB, Nat.reduceEqDiff, reduceCtorEq] <;> rfl) ?_
      rw [hfl']
      exact ⟨rfl, hs7, x2.trans ((hx5.sx (hs2.lt x2.wf)).trans x7)⟩
  · have hfl' : flagS σ v = (σ, freeS σ v) := by rw [flagS, if_pos h0]
    repeat' (first | refine EvC.seq ?_ | refine EvC.scope ?_ | refine EvC.block ?_ | (refine EvC.skip ?_) | (refine EvC.exit ?_) | (refine EvC.ret ?_; try simp only [z01, z00]) | (refine EvC.reg ?_; simp (config := { maxSteps := 2000000 }) (disch := first | omega | rfl) only [sB, Nat.reduceEqDiff, reduceCtorEq, z4o h0]) | (refine EvC.condT ?_ ?_; simp (config := { maxSteps := 2000000 }) (disch := first | omega | rfl) only [sB, Nat.reduceEqDiff, reduceCtorEq]; refine z02 ?_))
    refine z06 rfl (by simp only [sB, Nat.reduceEqDiff, reduceCtorEq] <;> rfl) ?_
    rw [hfl']
    exact ⟨rfl, hs, SX.refl hw⟩
theorem zj6 {a b n m : Int} : pureRun Tryd.prog (Op.equal 37 (.agg ⟨[.int .i64 a, .int .i64 n]⟩) (.agg ⟨[.int .i64 b, .int .i64 m]⟩)) = some (a == b && n == m) := by
  have sih : Tryd.prog.stoodInHeld 37 = false := by kernel_rfl
  have un : pureRun Tryd.prog (underlying 37) = some (.struct #[{ name := "Tag", type := 3, offset := 0, embedded := false, tag := "", pkgPath := "", byteOffset := 0 }, { name := "Val", type := 3, offset := 1, embedded := false, tag := "", pkgPath := "", byteOffset := 8 }]) := by kernel_rfl
  show pureRun Tryd.prog (Op.equalIn (9999 + 1) _ _ _) = _
  unfold Op.equalIn
  rw [z07, un, Option.bind_some]
  simp only []
  rw [z07, z4u, Option.bind_some, sih]
  simp only [Bool.false_eq_true, if_false]
  have p1 : pureRun Tryd.prog (part 3 ⟨[Value.int IntKind.i64 a, Value.int IntKind.i64 n]⟩ 0) = some (.int .i64 a) := z76 rfl
  have p2 : pureRun Tryd.prog (part 3 ⟨[Value.int IntKind.i64 b, Value.int IntKind.i64 m]⟩ 0) = some (.int .i64 b) := z76 rfl
  have p3 : pureRun Tryd.prog (part 3 ⟨[Value.int IntKind.i64 a, Value.int IntKind.i64 n]⟩ 1) = some (.int .i64 n) := z76 rfl
  have p4 : pureRun Tryd.prog (part 3 ⟨[Value.int IntKind.i64 b, Value.int IntKind.i64 m]⟩ 1) = some (.int .i64 m) := z76 rfl
  have e1 : pureRun Tryd.prog (Op.equalIn 9999 3 (.int .i64 a) (.int .i64 b)) = some (a == b) := z92
  have e2 : pureRun Tryd.prog (Op.equalIn 9999 3 (.int .i64 n) (.int .i64 m)) = some (n == m) := z92
  have nn : (("Tag" : String) ≠ "_") = True := by simp
  have na : (("Val" : String) ≠ "_") = True := by simp
  simp only [← Array.forIn_toList, List.forIn_cons, List.forIn_nil, z07, nn, na, if_true, p1, p2, e1, Option.bind_some]
  cases hab : a == b with
  | false => simp [z07, z16]
  | true =>
    simp only [Bool.not_true, Bool.false_eq_true, if_false, z07, z16, Option.bind_some, p3, p4, e2]
    cases hnm : n == m <;> simp [z07, z16]
theorem zbz {H : Heap} {x y : Operand} {a b n m : Int} : dBin Tryd.prog .eql 37 x y (.agg ⟨[.int .i64 a, .int .i64 n]⟩) (.agg ⟨[.int .i64 b, .int .i64 m]⟩) H = some (.val (.bool (a == b && n == m)) H) := by
  have g : (Tryd.prog.eqGuardType Tryd.prog.depth 37) = false := by kernel_rfl
  simp only [dBin, dnil, flat, flatL, eqGuard, binOp]
  simp only [Bool.and_self, Bool.not_true, Bool.not_false, Bool.false_eq_true, if_false, flat, z07, z4u, Option.bind_some, g, if_true, z16, zj6]
set_option maxHeartbeats 8000000 in
theorem zlt {H : Heap} {B s : Nat} {σ : SS} {v : Int} {c : Int × Int} (hs : St H B s σ) (hw : H.wf) (hb : VarB σ) (ho : σ.own.length = σ.cells.length) (hd : mayS σ c = true → ∃ m d, Der σ.cells m c d) (hm : σ.trail.length + 1 ≤ most) :
    EvF Tryd.prog okT 11 [.pointer (some ⟨s, 0, none⟩), .int .i64 v, .agg ⟨two c⟩] H fun r H' => r = .int .i64 (bindS σ v c).2 ∧ St H' B s (bindS σ v c).1 ∧ SX s H H' := by
  have hs0 := hs.lt hw
  refine EvF.enter rfl Tryd.func11 (by decide) rfl ?_
  (repeat refine EvC.seq ?_); refine EvC.reg ?_; simp (config := { maxSteps := 2000000 }) (disch := first | omega | rfl) only [sB, initTm, dBox, Nat.reduceEqDiff, Nat.reduceAdd, Value.cells, one, reduceCtorEq]
  obtain ⟨H1, e1, hx1, g1, n1, w1⟩ := new1 hw (.row (two c) 37)
  simp only [e1]
  have q1 := z14 g1
  have hs1 := hs.keep hw hx1
  repeat' (first | refine EvC.seq ?_ | refine EvC.scope ?_ | refine EvC.block ?_ | (refine EvC.skip ?_) | (refine EvC.exit ?_) | (refine EvC.ret ?_; try simp only [z01, z00]) | (refine EvC.reg ?_; simp (config := { maxSteps := 2000000 }) (disch := first | omega | rfl) only [sB, Nat.reduceEqDiff, reduceCtorEq, cl28]))
  refine (zhb hs1 hb).mono ?_
  rintro r H' ⟨rfl, rfl⟩
  by_cases h0 : freeS σ v = 0
  · obtain ⟨hv, -⟩ := z3u h0
    obtain ⟨n, rfl⟩ := Int.eq_ofNat_of_zero_le hv.1
    have hn : n < σ.vars.length := by have := hv.2.1; omega
    obtain ⟨k, ek⟩ := Int.eq_ofNat_of_zero_le hv.2.2
    have hk : k < σ.cells.length := by have := hb n hn; rw [ek] at this; omega
    repeat' (first | refine EvC.seq ?_ | refine EvC.scope ?_ | refine EvC.block ?_ | (refine EvC.skip ?_; try simp only [z04]) | (refine EvC.exit ?_) | (refine EvC.ret ?_; try simp only [z01, z00]) | (refine EvC.reg ?_; simp (config := { maxSteps := 2000000 }) (disch := first | omega | rfl) only [sB, Nat.reduceEqDiff, reduceCtorEq, ld37, cl29, q1, z1l h0]) | (refine EvC.condT ?_ ?_; simp (config := { maxSteps := 2000000 }) (disch := first | omega | rfl) only [sB, Nat.reduceEqDiff, reduceCtorEq]; refine z02 ?_) | (refine EvC.condF ?_ ?_; simp (config := { maxSteps := 2000000 }) (disch := first | omega | rfl) only [sB, Nat.reduceEqDiff, reduceCtorEq]; refine z02 ?_))
    refine (zha hs1 w1 ho hd).mono ?_
    rintro r H2 ⟨d, e, rfl, hde, hx2⟩
    have hs2 := hs1.keep w1 hx2
    by_cases hmay : mayS σ c = true
    · rw [if_pos hmay] at hde
      obtain ⟨rfl, m, hde⟩ := hde
      have edr := zby hde
      obtain ⟨H3, e3, hx3, g3, n3, w3⟩ := z29 hx2.wf (.row [.int .i64 0, .int .i64 0] 37) (.row (two d) 37)
      have hs3 := hs2.keep hx2.wf hx3
      obtain ⟨H4, e4, hx4, w4⟩ := z36 w3 11
      have hs4 := hs3.keep w3 hx4
      have q3 := z14 g3
      have q4 := z14 (hx4.get w3 g3)
      obtain ⟨a0, c0, a1, c1, a2, c2, a3, c3, a4, c4, a5, c5, r6, r7, a8, c8, a9, c9, h, l0, l1, l2, l3, l4, l5, l6, l7, l8, l9, b0, b1, b2, b3, b4, b5, b8, b9⟩ := hs4.open
      obtain ⟨b, rfl, o, ld⟩ := h.el1 (i := 2) (k := n) (x := int1 (gi σ.vars n)) rfl rfl (by rw [List.getElem?_map, z85 hn]; rfl)
      rw [ek] at ld
      by_cases heq : d = (2, (k : Int))
      · have hfl' : bindS σ n c = (σ, 1) := by rw [bindS, if_neg (by omega), if_neg (by simp [hmay]), edr, ek, if_pos heq]
        have d8 : (d.1 == 2 && d.2 == (k : Int)) = true := by rw [heq]; simp
        repeat' (first | refine EvC.seq ?_ | refine EvC.scope ?_ | refine EvC.block ?_ | (refine EvC.skip ?_) | (refine EvC.exit ?_) | (refine EvC.ret ?_; try simp only [z01, z00]) | (refine EvC.reg ?_; simp (config := { maxSteps := 2000000 }) (disch := first | omega | rfl) only [sB, Nat.reduceEqDiff, reduceCtorEq, z1l rfl]) | (refine EvC.drw (id := 7) [([(0, 0), (1, 0), (2, 0), (3, 0), (4, 0), (5, 0), (6, 0), (7, 0), (8, 0), (9, 0), (10, 0)], none)] ?_ ?_; kernel_rfl; simp (config := { maxSteps := 2000000 }) (disch := first | omega | rfl) only [sD, sB, Nat.reduceEqDiff, Nat.reduceAdd, Value.cells, one, reduceCtorEq, Nat.reduceLeDiff, layC, ld37, z2e, ld47, ia47, ld3, bd37, z05, z08, e4, q4, l2, ld, zbz, d8, isAlloc, isRead, reduceCtorEq]) | (refine z0l ?_; simp (config := { maxSteps := 2000000 }) (disch := first | omega | rfl) only [sB, dAlloc, Nat.reduceEqDiff, Nat.reduceAdd, one, reduceCtorEq, zr37, st37, e3]) | (refine EvC.condT ?_ ?_; simp (config := { maxSteps := 2000000 }) (disch := first | omega | rfl) only [sB, Nat.reduceEqDiff, reduceCtorEq]; refine z02 ?_) | (refine EvC.condF ?_ ?_; simp (config := { maxSteps := 2000000 }) (disch := first | omega | rfl) only [sB, Nat.reduceEqDiff, reduceCtorEq]; refine z02 ?_))
        refine z06 rfl (by simp only [sB, Nat.reduceEqDiff, reduceCtorEq] <;> rfl) ?_
        rw [hfl']
        exact ⟨rfl, hs4, (hx1.trans (hx2.trans (hx3.trans hx4))).sx hs0⟩
      · have d8 : (d.1 == 2 && d.2 == (k : Int)) = false := by
          rw [Bool.and_eq_false_iff, beq_eq_false_iff_ne, beq_eq_false_iff_ne]
          by_cases q : d.1 = 2
          · exact .inr fun q2 => heq (Prod.ext q q2)
          · exact .inl q
        have hfl' : bindS σ n c = ({ σ with cells := σ.cells.set k d, trail := σ.trail ++ [(0, (n : Int))] }, 0) := by rw [bindS, if_neg (by omega), if_neg (by simp [hmay]), edr, ek, if_neg heq]; rfl
        obtain ⟨H5, e5, hx5, w5⟩ := z36 w4 14
        have h5 := h.keep w4 hx5
        have q5 := z14 (hx5.get w4 (hx4.get w3 g3))
        have l0' := h5.load (i := 0) rfl
        have l2' := h5.load (i := 2) rfl
        obtain ⟨b2, e1', o2, ld2⟩ := h5.el1 (i := 2) (k := n) (x := int1 (gi σ.vars n)) rfl rfl (by rw [List.getElem?_map, z85 hn]; rfl)
        cases e1'
        rw [ek] at ld2
        obtain ⟨b3, cs, rfl, o3, gb, hle⟩ := h5.row (i := 0) (k := k) rfl rfl (by simpa using hk)
        obtain ⟨H6, e6, s6, x6⟩ := h5.write (i := 0) (k := k) (y := two d) w5 rfl rfl (by simpa using hk) gb rfl rfl
        have hs6 : St H6 B s { σ with cells := σ.cells.set k d } := ⟨_, by simpa [flds, List.map_set] using s6⟩
        clear s6
        have hle' : k * 2 + 2 ≤ cs.length := by rw [List.length_map] at hle; omega
        obtain ⟨a0z, c0z, a1z, c1z, a2z, c2z, a3z, c3z, a4z, c4z, a5z, c5z, r6z, r7z, a8z, c8z, a9z, c9z, hz, l0z, l1z, l2z, l3z, l4z, l5z, l6z, l7z, l8z, l9z, b0z, b1z, b2z, b3z, b4z, b5z, b8z, b9z⟩ := hs6.open
        repeat' (first | refine EvC.seq ?_ | refine EvC.scope ?_ | refine EvC.block ?_ | (refine EvC.skip ?_; try simp only [sA]) | (refine EvC.exit ?_) | (refine EvC.ret ?_; try simp only [z01, z00]) | (refine EvC.reg ?_; simp (config := { maxSteps := 2000000 }) (disch := first | omega | rfl) only [sB, Nat.reduceEqDiff, Nat.reduceAdd, Value.cells, one, reduceCtorEq, Nat.reduceLeDiff, layC, z70, ld61, bd78, zk8, z05, z08, z1l rfl, l8z]) | (refine EvC.drw (id := 7) [([(0, 0), (1, 0), (2, 0), (3, 0), (4, 0), (5, 0), (6, 0), (7, 0), (8, 0), (9, 0), (10, 0)], none)] ?_ ?_; kernel_rfl; simp (config := { maxSteps := 2000000 }) (disch := first | omega | rfl) only [sD, sB, Nat.reduceEqDiff, Nat.reduceAdd, Value.cells, one, reduceCtorEq, Nat.reduceLeDiff, layC, ld37, z2e, ld47, ia47, ld3, bd37, z05, z08, e4, q4, l2, ld, zbz, d8, isAlloc, isRead, reduceCtorEq]) | (refine EvC.drw (id := 9) [([(0, 0), (1, 0), (2, 0), (3, 0), (4, 0), (5, 0), (6, 0), (7, 0), (8, 0), (9, 0), (10, 0), (11, 0), (12, 0)], some 13), ([], none)] ?_ ?_; kernel_rfl; simp (config := { maxSteps := 2000000 }) (disch := first | omega | rfl) only [sD, sB, Nat.reduceEqDiff, Nat.reduceAdd, one, reduceCtorEq, ld37, st37, z2e, ld47, ia47, ld3, z15, ld28, ia28, z05, z08, e5, q5, l0', l2', ld2, gb, hle', e6, isAlloc, isRead, reduceCtorEq]) | (refine z0l ?_; simp (config := { maxSteps := 2000000 }) (disch := first | omega | rfl) only [sB, dAlloc, Nat.reduceEqDiff, Nat.reduceAdd, one, reduceCtorEq, zr37, st37, e3]) | (refine EvC.condT ?_ ?_; simp (config := { maxSteps := 2000000 }) (disch := first | omega | rfl) only [sB, Nat.reduceEqDiff, reduceCtorEq]; refine z02 ?_) | (refine EvC.condF ?_ ?_; simp (config := { maxSteps := 2000000 }) (disch := first | omega | rfl) only [sB, Nat.reduceEqDiff, reduceCtorEq]; refine z02 ?_))
        obtain ⟨H7, e7, hx7, g7, n7, w7⟩ := new1 x6.wf (.row (two (0, (n : Int))) 78)
        simp only [e7]
        obtain ⟨H8, k8, e8, g8, -, -, H9, e9, s9, x9⟩ := (hz.keep x6.wf hx7).pushed (P := Tryd.prog) (i := 8) (c1 := 1) w7 ap61 rfl rfl (z14 g7).1 rfl rfl (by simpa using hm)
        simp only [List.set_cons_zero, List.set_cons_succ, List.length_map] at e8 e9
        have hs9 : St H9 B s { σ with cells := σ.cells.set k d, trail := σ.trail ++ [(0, (n : Int))] } := ⟨_, by simpa [flds, List.map_set] using s9⟩
        clear s9
        repeat' (first | refine EvC.seq ?_ | refine EvC.scope ?_ | refine EvC.block ?_ | (refine EvC.skip ?_) | (refine EvC.exit ?_) | (refine EvC.ret ?_; try simp only [z01, z00]) | (refine EvC.reg ?_; simp (config := { maxSteps := 2000000 }) (disch := first | omega | rfl) only [sA]) | (refine z0l ?_; simp (config := { maxSteps := 2000000 }) (disch := first | omega | rfl) only [sB, Nat.reduceEqDiff, Nat.reduceAdd, one, reduceCtorEq, Nat.reduceLeDiff, z70, st61, z05, z08, e8, g8, e9]))
        refine z06 rfl (by simp only [sB, Nat.reduceEqDiff, reduceCtorEq] <;> rfl) ?_
        rw [hfl']
        exact ⟨rfl, hs9, ((hx1.trans (hx2.trans (hx3.trans (hx4.trans hx5)))).sx hs0).trans (x6.trans ((hx7.sx (hs6.lt x6.wf)).trans x9))⟩
    · rw [if_neg hmay] at hde
      obtain ⟨rfl, rfl⟩ := hde
      have d9 : ((130 : Int) != 0) = true := rfl
      have hfl' : bindS σ n c = (σ, 130) := by rw [bindS, if_neg (by omega), if_pos (by simpa using hmay)]
      repeat' (first | refine EvC.seq ?_ | refine EvC.scope ?_ | refine EvC.block ?_ | (refine EvC.skip ?_) | (refine EvC.exit ?_) | (refine EvC.ret ?_; try simp only [z01, z00]) | (refine EvC.reg ?_; simp (config := { maxSteps := 2000000 }) (disch := first | omega | rfl) only [sB, Nat.reduceEqDiff, reduceCtorEq, d9]) | (refine z0l ?_; simp (config := { maxSteps := 2000000 }) (disch := first | omega | rfl) only [sB, dAlloc, Nat.reduceEqDiff, Nat.reduceAdd, one, reduceCtorEq, zr37, st37]) | (refine EvC.condT ?_ ?_; simp (config := { maxSteps := 2000000 }) (disch := first | omega | rfl) only [sB, Nat.reduceEqDiff, reduceCtorEq]; refine z02 ?_))
      refine z06 rfl (by simp only [sB, Nat.reduceEqDiff, reduceCtorEq] <;> rfl) ?_
      rw [hfl']
      have hx3 := ((HX.refl hx2.wf).new (some (.row [.int .i64 0, .int .i64 0] 37))).put (Nat.le_refl _) (Nat.lt_succ_self _) (some (.row (two (0, 0)) 37))
      exact ⟨rfl, hs2.keep hx2.wf hx3, (hx1.trans (hx2.trans hx3)).sx hs0⟩
  · have hfl' : bindS σ v c = (σ, freeS σ v) := by rw [bindS, if_pos h0]
    repeat' (first | refine EvC.seq ?_ | refine EvC.scope ?_ | refine EvC.block ?_ | (refine EvC.skip ?_) | (refine EvC.exit ?_) | (refine EvC.ret ?_; try simp only [z01, z00]) | (refine EvC.reg ?_; simp (config := { maxSteps := 2000000 }) (disch := first | omega | rfl) only [sB, Nat.reduceEqDiff, reduceCtorEq, z4o h0]) | (refine EvC.condT ?_ ?_; simp (config := { maxSteps := 2000000 }) (disch := first | omega | rfl) only [sB, Nat.reduceEqDiff, reduceCtorEq]; refine z02 ?_))
    refine z06 rfl (by simp only [sB, Nat.reduceEqDiff, reduceCtorEq] <;> rfl) ?_
    rw [hfl']
    exact ⟨rfl, hs1, hx1.sx hs0⟩
end Go.Proofs.YthkogijbkachdaaDoor.hb
end

-- Sg11
section
namespace Go.Proofs.YthkogijbkachdaaDoor.hb
open Go Go.RowKit Go.Hb
variable {ok : Ok}
set_option maxRecDepth 10000
attribute [local irreducible] LX LG EL STG SOP SGO SGD SAL SRD SEF SEG SLK SCK ES
abbrev e0 : ByteArray := ByteArray.empty
def zeroTm : Tm := .mk 0 e0 e0 0 0 []
def varTm (n : Int) : Tm := .mk 1 e0 e0 0 n []
def stepT (f : (Int × Int) → Nat → Tm × Nat) (g : Nat → Int × Int) (p : List Tm × Nat) (i : Nat) : List Tm × Nat := if p.2 ≤ 4000 then (p.1 ++ [(f (g i) p.2).1], (f (g i) p.2).2) else p
noncomputable def toldF (σ : SS) : Nat → (Int × Int) → Nat → Tm × Nat
  | 0, _, n => (zeroTm, n)
  | k + 1, c, n => if (dr σ.cells c).1 = 2 then (varTm (ci σ.cells (dr σ.cells c).2).2, n + 1) else if (dr σ.cells c).1 = 3 then ((σ.consts[(dr σ.cells c).2.toNat]?).getD zeroTm, n + 1) else
    (.mk 5 ((σ.funs[(ci σ.cells (dr σ.cells c).2).2.toNat]?).getD (e0, 0)).1 e0 0 0 ((List.range ((σ.funs[(ci σ.cells (dr σ.cells c).2).2.toNat]?).getD (e0, 0)).2.toNat).foldl (stepT (toldF σ k) fun i => ci σ.cells ((dr σ.cells c).2 + 1 + i)) ([], n + 1)).1,
     ((List.range ((σ.funs[(ci σ.cells (dr σ.cells c).2).2.toNat]?).getD (e0, 0)).2.toNat).foldl (stepT (toldF σ k) fun i => ci σ.cells ((dr σ.cells c).2 + 1 + i)) ([], n + 1)).2)
theorem zlu {k : Int} {s u : ByteArray} {b v : Int} {l : List Tm} : (Tm.mk k s u b v l).args = l := _root_.id rfl
inductive ShOk (σ : SS) (d : Int × Int) : Prop
  | var : d.1 = 2 → 0 ≤ d.2 → d.2 < σ.cells.length → i64 (ci σ.cells d.2).2 → ShOk σ d
  | con : d.1 = 3 → 0 ≤ d.2 → d.2 < σ.consts.length → ShOk σ d
  | str (f : Nat) : d.1 = 4 → 0 ≤ d.2 → d.2 < σ.cells.length → (ci σ.cells d.2).2 = (f : Int) → (hf : f < σ.funs.length) → 0 ≤ σ.funs[f].2 → σ.funs[f].2 ≤ 1000 → (∀ i : Nat, (i : Int) < σ.funs[f].2 → d.2 + 1 + i < σ.cells.length ∧ mayS σ (ci σ.cells (d.2 + 1 + i)) = true) → ShOk σ d
structure TOk (σ : SS) : Prop where
  go : ∀ c, mayS σ c = true → ∃ m d, Der σ.cells m c d ∧ ShOk σ d
  con : ∀ t ∈ σ.consts, Bd t ∧ t.args = []
  fn : ∀ k ∈ σ.funs, k.1.size ≤ maxLen
  few : σ.cells.length ≤ most
theorem zak {f : (Int × Int) → Nat → Tm × Nat} {g : Nat → Int × Int} {p : List Tm × Nat} (h : ¬ p.2 ≤ 4000) : ∀ l : List Nat, l.foldl (stepT f g) p = p
  | [] => rfl
  | i :: l => by
    have e : stepT f g p i = p := by unfold stepT; rw [if_neg h]
    rw [List.foldl_cons, e, zak h l]
theorem zhd {f : (Int × Int) → Nat → Tm × Nat} {g : Nat → Int × Int} {p : List Tm × Nat} {i n : Nat} (hi : i ≤ n) (h : ¬ ((List.range i).foldl (stepT f g) p).2 ≤ 4000) : (List.range n).foldl (stepT f g) p = (List.range i).foldl (stepT f g) p := by
  obtain ⟨k, rfl⟩ := Nat.exists_eq_add_of_le hi
  rw [List.range_add, List.foldl_append, zak h]
theorem z93 (σ : SS) : ∀ (k : Nat) (c : Int × Int) (n : Nat), n ≤ 4000 → n ≤ (toldF σ k c n).2 ∧ (toldF σ k c n).2 ≤ 4001
  | 0, c, n, h => by rw [toldF]; simp only; omega
  | k + 1, c, n, h => by
    have key : ∀ (g : Nat → Int × Int) (l : List Nat) (p : List Tm × Nat), p.2 ≤ 4001 → p.2 ≤ (l.foldl (stepT (toldF σ k) g) p).2 ∧ (l.foldl (stepT (toldF σ k) g) p).2 ≤ 4001 := by
      intro g l
      induction l with
      | nil => intro p hp; exact ⟨Nat.le_refl _, hp⟩
      | cons i l ih =>
        intro p hp
        rw [List.foldl_cons]
        by_cases q : p.2 ≤ 4000
        · have e : stepT (toldF σ k) g p i = (p.1 ++ [(toldF σ k (g i) p.2).1], (toldF σ k (g i) p.2).2) := by unfold stepT; rw [if_pos q]
          have h1 := z93 σ k (g i) p.2 q
          have h2 := ih (stepT (toldF σ k) g p i) (by rw [e]; exact h1.2)
          rw [e] at h2 ⊢
          simp only at h2 ⊢
          omega
        · have e : stepT (toldF σ k) g p i = p := by unfold stepT; rw [if_neg q]
          rw [e]; exact ih p hp
    rw [toldF]
    split
    · simp only; omega
    · split
      · simp only; omega
      · have := key (fun i => ci σ.cells ((dr σ.cells c).2 + 1 + i)) (List.range ((σ.funs[(ci σ.cells (dr σ.cells c).2).2.toNat]?).getD (e0, 0)).2.toNat) ([], n + 1) (by simp only; omega)
        simp only at this ⊢
        omega
theorem zdj {f : (Int × Int) → Nat → Tm × Nat} {g : Nat → Int × Int} : ∀ (i : Nat) (n : Nat), (∀ j, j < i → ((List.range j).foldl (stepT f g) ([], n)).2 ≤ 4000) → ((List.range i).foldl (stepT f g) ([], n)).1.length = i
  | 0, _, _ => rfl
  | i + 1, n, hj => by
    have h1 := hj i (Nat.lt_succ_self _)
    have ih := zdj (f := f) (g := g) i n fun j hji => hj j (Nat.lt_succ_of_lt hji)
    rw [List.range_succ, List.foldl_append, List.foldl_cons, List.foldl_nil]
    generalize (List.range i).foldl (stepT f g) ([], n) = p at *
    unfold stepT
    rw [if_pos h1]
    simp only [List.length_append, List.length_singleton]
    rw [ih]
theorem zal {f : (Int × Int) → Nat → Tm × Nat} {g : Nat → Int × Int} {i n : Nat} {acc : List Tm} {m : Nat} (h : (List.range i).foldl (stepT f g) ([], n) = (acc, m)) (hm : m ≤ 4000) :
    (List.range (i + 1)).foldl (stepT f g) ([], n) = (acc ++ [(f (g i) m).1], (f (g i) m).2) := by
  rw [List.range_succ, List.foldl_append, List.foldl_cons, List.foldl_nil, h]
  unfold stepT
  rw [if_pos hm]
set_option maxHeartbeats 8000000 in
theorem zlv {B s pn : Nat} {σ : SS} (hT : TOk σ) : ∀ (k : Nat) {c : Int × Int} {n : Nat} {H : Heap}, n ≤ 4000 → 4001 - n ≤ k → mayS σ c = true → St H B s σ → H.wf → H.get pn = some (.row [.int .i64 (n : Nat)] 3) → ¬ Mut H s pn →
    EvF Tryd.prog okT 24 [.pointer (some ⟨s, 0, none⟩), .agg ⟨two c⟩, .pointer (some ⟨pn, 0, none⟩)] H fun r H' => ∃ cs, r = .agg ⟨cs⟩ ∧ RepF H' 32 (Rg H.next H'.next) (toldF σ k c n).1 cs ∧ H'.get pn = some (.row [.int .i64 ((toldF σ k c n).2 : Nat)] 3) ∧ HK (fun n => n = pn) H H' := by
  intro k
  induction k with
  | zero => intro c n H h1 h2; omega
  | succ k ih =>
  intro c n H hn hk hmay hs hw gn hmn
  have hs0 := hs.lt hw
  have ln := hw _ _ gn
  obtain ⟨m, d, hd, hsh⟩ := hT.go c hmay
  have ed := zby hd
  refine EvF.enter rfl Tryd.func24 (by decide) rfl ?_
  (repeat refine EvC.seq ?_); refine EvC.reg ?_; simp (config := { maxSteps := 2000000 }) (disch := first | omega | rfl) only [sB, initTm, dBox, dAlloc, Nat.reduceEqDiff, Nat.reduceAdd, Value.cells, one, reduceCtorEq, zr32]
  obtain ⟨H1, e1, hx1, g1, g1', n1, w1⟩ := new2 hw (.row (two c) 37) (.row zero6 32)
  simp only [e1]
  have q1 := z14 g1
  have gn1 := hx1.get hw gn
  have qn1 := z2t gn1
  have ewn : IntKind.i64.wrap ((n : Int) + 1) = ((n + 1 : Nat) : Int) := by rw [z0c] <;> omega
  obtain ⟨H2, e2⟩ : ∃ H2, H1.put pn (some (.row [.int .i64 ((n + 1 : Nat) : Int)] 3)) = H2 := ⟨_, rfl⟩
  have hk2 : HK (fun n => n = pn) H H2 := by rw [← e2]; exact HK.put (S := fun n => n = pn) (hx1.hk _) (.inl rfl) (hx1.lt hw gn) _
  have w2 := hk2.wf
  have g2 : H2.get H.next = some (.row (two c) 37) := by rw [← e2, get_put, if_neg (by omega)]; exact g1
  have g2' : H2.get (H.next + 1) = some (.row zero6 32) := by rw [← e2, get_put, if_neg (by omega)]; exact g1'
  have gn2 : H2.get pn = some (.row [.int .i64 ((n + 1 : Nat) : Int)] 3) := by rw [← e2, get_put, if_pos rfl]
  obtain ⟨hs2, -⟩ := hs.beside hw hk2 fun n e => e ▸ hmn
  have q2 := z14 g2
  repeat' (first | refine EvC.seq ?_ | refine EvC.scope ?_ | refine EvC.block ?_ | (refine EvC.skip ?_) | (refine EvC.exit ?_) | (refine EvC.ret ?_; try simp only [z01, z00]) | (refine EvC.reg ?_; simp (config := { maxSteps := 2000000 }) (disch := first | omega | rfl) only [sB, dAlloc, Nat.reduceEqDiff, one, reduceCtorEq, ld3, st3, ld37, cl32, zr37, z05, z08, qn1, gn1, ewn, e2, q2]))
  refine (zdi hs2 w2 hd).mono ?_
  rintro r H3 ⟨rfl, hx3⟩
  obtain ⟨H4, e4, hx4, g4, n4, w4⟩ := z29 hx3.wf (.row [.int .i64 0, .int .i64 0] 37) (.row (two d) 37)
  have q4 := z14 g4
  have hx24 := hx3.trans hx4
  have hs4 := hs2.keep w2 hx24
  have g4' := hx24.get w2 g2'
  have gn4 := hx24.get w2 gn2
  have hk4 := hk2.trans (hx24.hk _)
  cases hsh with
  | var d2 h1 h2 h3 =>
    obtain ⟨v, ev⟩ := Int.eq_ofNat_of_zero_le h1
    have hv : v < σ.cells.length := by omega
    obtain ⟨H5, e5, hx5, w5⟩ := z36 w4 11
    have hs5 := hs4.keep w4 hx5
    obtain ⟨a0, c0, a1, c1, a2, c2, a3, c3, a4, c4, a5, c5, r6, r7, a8, c8, a9, c9, h, l0, l1, l2, l3, l4, l5, l6, l7, l8, l9, b0, b1, b2, b3, b4, b5, b8, b9⟩ := hs5.open
    obtain ⟨b, rfl, o, ld⟩ := h.el (i := 0) (k := v) (x := two (ci σ.cells v)) rfl rfl (by rw [List.getElem?_map, z3y hv]; rfl)
    have lp := o.part (i := v) (j := 1) (n := 1) (x := two (ci σ.cells v)) (by rw [List.getElem?_map, z3y hv]; rfl) (by omega)
    have q5 := z14 (hx5.get w4 g4)
    rw [ev] at q5
    have g5' := hx5.get w4 g4'
    repeat' (first | refine EvC.seq ?_ | refine EvC.scope ?_ | refine EvC.block ?_ | (refine EvC.skip ?_) | (refine EvC.exit ?_) | (refine EvC.ret ?_; try simp only [z01, z00]) | (refine EvC.reg ?_; simp (config := { maxSteps := 2000000 }) (disch := first | omega | rfl) only [sB, Nat.reduceEqDiff, reduceCtorEq, ld3, z0z, q4, z0y d2]) | (refine EvC.drw (id := 5) [([(0, 0), (1, 0), (2, 0), (3, 0), (4, 0), (5, 0), (6, 0), (7, 0), (8, 0), (9, 0)], some 10), ([], none)] ?_ ?_; kernel_rfl; simp (config := { maxSteps := 2000000 }) (disch := first | omega | rfl) only [sD, sB, Nat.reduceEqDiff, Nat.reduceAdd, Value.cells, one, reduceCtorEq, Nat.reduceLeDiff, layC, ld3, z15, ld28, z1u, ia28, bd32, st32, z05, z08, e5, q5, l0, lp, g5', isAlloc, isRead, reduceCtorEq]) | (refine z0l ?_; simp (config := { maxSteps := 2000000 }) (disch := first | omega | rfl) only [sB, Nat.reduceAdd, one, st37, e4]) | (refine EvC.condT ?_ ?_; simp (config := { maxSteps := 2000000 }) (disch := first | omega | rfl) only [sB, Nat.reduceEqDiff, reduceCtorEq]; refine z02 ?_))
    refine z0q rfl (by simp only [sB, Nat.reduceEqDiff, reduceCtorEq] <;> rfl) (by simp only [sB, Nat.reduceAdd, cutC, ld32] <;> rfl) ?_
    have et : toldF σ (k + 1) c n = (varTm (ci σ.cells v).2, n + 1) := by rw [toldF, ed, if_pos d2, ev]
    rw [et]
    have hk5 := hk4.trans (hx5.hk (fun n => n = pn))
    have hk6 := hk5.put (i := H.next + 1) (.inr (by omega)) (w5 _ _ g5') (some (.row (six (varTm (ci σ.cells v).2) none 0) 32))
    refine ⟨_, rfl, ⟨none, 0, rfl, ⟨by show i64 1; exact ⟨by decide, by decide⟩, Nat.zero_le _, Nat.zero_le _, by show u64 0; exact ⟨by decide, by decide⟩, by rw [ev] at h3; exact h3⟩, .nil _⟩, ?_, hk6⟩
    rw [get_put, if_neg (by omega)]; exact hx5.get w4 gn4
  | con d3 h1 h2 =>
    have d2 : ¬ d.1 = 2 := by omega
    obtain ⟨v, ev⟩ := Int.eq_ofNat_of_zero_le h1
    have hv : v < σ.consts.length := by omega
    obtain ⟨H5, e5, hx5, w5⟩ := z36 w4 9
    have hs5 := hs4.keep w4 hx5
    obtain ⟨a0, c0, a1, c1, a2, c2, a3, c3, a4, c4, a5, c5, r6, r7, a8, c8, a9, c9, h, l0, l1, l2, l3, l4, l5, l6, l7, l8, l9, b0, b1, b2, b3, b4, b5, b8, b9⟩ := hs5.open
    obtain ⟨b, rfl, o, ld⟩ := h.el (i := 4) (k := v) (x := six0 σ.consts[v]) rfl rfl (by rw [List.getElem?_map, List.getElem?_eq_getElem hv]; rfl)
    have q5 := z14 (hx5.get w4 g4)
    rw [ev] at q5
    have g5' := hx5.get w4 g4'
    have hcon := hT.con _ (List.getElem_mem hv)
    repeat' (first | refine EvC.seq ?_ | refine EvC.scope ?_ | refine EvC.block ?_ | (refine EvC.skip ?_) | (refine EvC.exit ?_) | (refine EvC.ret ?_; try simp only [z01, z00]) | (refine EvC.reg ?_; simp (config := { maxSteps := 2000000 }) (disch := first | omega | rfl) only [sB, Nat.reduceEqDiff, reduceCtorEq, ld3, z0z, q4, z0n d2, z0y d3]) | (refine EvC.drw (id := 7) [([(0, 0), (1, 0), (2, 0), (3, 0), (4, 0), (5, 0), (6, 0), (7, 0)], some 8), ([], none)] ?_ ?_; kernel_rfl; simp (config := { maxSteps := 2000000 }) (disch := first | omega | rfl) only [sD, sB, Nat.reduceEqDiff, Nat.reduceAdd, one, reduceCtorEq, ld3, z1u, st32, za9, ld22, ia22, ld32, z05, z08, e5, q5, l4, ld, g5', isAlloc, isRead, reduceCtorEq]) | (refine z0l ?_; simp (config := { maxSteps := 2000000 }) (disch := first | omega | rfl) only [sB, Nat.reduceAdd, one, st37, e4]) | (refine EvC.condT ?_ ?_; simp (config := { maxSteps := 2000000 }) (disch := first | omega | rfl) only [sB, Nat.reduceEqDiff, reduceCtorEq]; refine z02 ?_) | (refine EvC.condF ?_ ?_; simp (config := { maxSteps := 2000000 }) (disch := first | omega | rfl) only [sB, Nat.reduceEqDiff, reduceCtorEq]; refine z02 ?_))
    refine z0q rfl (by simp only [sB, Nat.reduceEqDiff, reduceCtorEq] <;> rfl) (by simp only [sB, Nat.reduceAdd, cutC, ld32] <;> rfl) ?_
    have et : toldF σ (k + 1) c n = (σ.consts[v], n + 1) := by rw [toldF, ed, if_neg d2, if_pos d3, ev, Int.toNat_natCast, List.getElem?_eq_getElem hv]; rfl
    rw [et]
    have hk5 := hk4.trans (hx5.hk (fun n => n = pn))
    have hk6 := hk5.put (i := H.next + 1) (.inr (by omega)) (w5 _ _ g5') (some (.row (six0 σ.consts[v]) 32))
    refine ⟨_, rfl, ⟨none, 0, rfl, hcon.1, by rw [hcon.2]; exact .nil _⟩, ?_, hk6⟩
    rw [get_put, if_neg (by omega)]; exact hx5.get w4 gn4
  | str f d4 h1 h2 h3 hf h5 h6 h7 =>
    have d2 : ¬ d.1 = 2 := by omega
    have d3 : ¬ d.1 = 3 := by omega
    obtain ⟨v, ev⟩ := Int.eq_ofNat_of_zero_le h1
    have hv : v < σ.cells.length := by omega
    have hs4' := hs4.keep w4 ((HX.refl w4).bump 17)
    obtain ⟨a0, c0, a1, c1, a2, c2, a3, c3, a4, c4, a5, c5, r6, r7, a8, c8, a9, c9, h, l0, l1, l2, l3, l4, l5, l6, l7, l8, l9, b0, b1, b2, b3, b4, b5, b8, b9⟩ := hs4'.open
    obtain ⟨b, rfl, o, ld⟩ := h.el (i := 0) (k := v) (x := two (ci σ.cells v)) rfl rfl (by rw [List.getElem?_map, z3y hv]; rfl)
    have lp := o.part (i := v) (j := 1) (n := 1) (x := two (ci σ.cells v)) (by rw [List.getElem?_map, z3y hv]; rfl) (by omega)
    rw [ev] at h3
    obtain ⟨b5, rfl, o5, ld5⟩ := h.el (i := 5) (k := f) (x := keyC σ.funs[f]) rfl rfl (by rw [List.getElem?_map, List.getElem?_eq_getElem hf]; rfl)
    have q5 := q4
    rw [ev] at q5
    simp only [z3g] at l0 l5 ld ld5 lp
    simp only [List.drop_succ_cons, List.drop_zero, List.take_succ_cons, List.take_zero, h3] at lp
    repeat' (first | refine EvC.seq ?_ | refine EvC.scope ?_ | refine EvC.block ?_ | (refine EvC.skip ?_; try simp only [sA]) | (refine EvC.exit ?_) | (refine EvC.ret ?_; try simp only [z01, z00]) | (refine EvC.reg ?_; simp (config := { maxSteps := 2000000 }) (disch := first | omega | rfl) only [sB, dAlloc, Nat.reduceEqDiff, Nat.reduceAdd, Value.cells, one, reduceCtorEq, cutC, Nat.reduceLeDiff, layC, zr32, ld3, z0z, bd32, st32, zmf, ld9, q5, z0n d2, z0n d3]) | (refine EvC.drw (id := 8) [([(0, 0), (1, 0), (2, 0), (3, 0), (4, 0), (5, 0), (6, 0), (7, 0), (8, 0), (9, 0), (10, 0), (11, 0), (12, 0), (13, 0), (14, 0), (15, 0)], some 16), ([], none)] ?_ ?_; kernel_rfl; simp (config := { maxSteps := 2000000 }) (disch := first | omega | rfl) only [sD, sB, dAlloc, Nat.reduceEqDiff, Nat.reduceAdd, one, reduceCtorEq, ld3, z15, ld28, z1u, ia28, zga, ld60, ia60, ld49, zr49, st49, z05, z08, q5, l0, l5, lp, ld5, isAlloc, isRead, dalloc, reduceCtorEq]) | (refine z0l ?_; simp (config := { maxSteps := 2000000 }) (disch := first | omega | rfl) only [sB, Nat.reduceAdd, one, st37, e4]) | (refine EvC.condT ?_ ?_; simp (config := { maxSteps := 2000000 }) (disch := first | omega | rfl) only [sB, Nat.reduceEqDiff, reduceCtorEq]; refine z02 ?_) | (refine EvC.condF ?_ ?_; simp (config := { maxSteps := 2000000 }) (disch := first | omega | rfl) only [sB, Nat.reduceEqDiff, reduceCtorEq]; refine z02 ?_))
    obtain ⟨H5, e5, hx5, g5, w5⟩ := zlq w4 17 15 (by omega) (.row [.string e0, .int .i64 0] 49) (.row (keyC σ.funs[f]) 49)
    have n5 : H5.next = H4.next + 17 := by rw [← e5]; rfl
    obtain ⟨H6, e6, hx6, g6, n6, w6⟩ := z29 w5 (.row zero6 32) (.row [.int .i64 5, .string σ.funs[f].1, .string e0, .int .u64 0, .int .i64 0, .slice none 0 0] 32)
    rw [n5] at e6 g6
    obtain ⟨N, eN⟩ := Int.eq_ofNat_of_zero_le h5
    have hmm : most = 1048576 := rfl
    have hfew := hT.few
    have hx46 := hx5.trans hx6
    have hk6 := hk4.trans (hx46.hk (fun n => n = pn))
    have hs6 := hs4.keep w4 hx46
    have hl4 := hx4.next
    have hl3 := hx3.next
    have hln2 : H2.next = H1.next := by rw [← e2]; rfl
    generalize hg : (fun i : Nat => ci σ.cells (d.2 + 1 + i)) = g
    have hgi : ∀ i : Nat, g i = ci σ.cells (d.2 + 1 + i) := fun i => by rw [← hg]
    have hmn6 : ∀ {G : Heap}, HK (fun n => n = pn) H G → ¬ Mut G s pn := fun hkG q => hmn ((hs.beside hw hkG fun n e => e ▸ hmn).2 _ q)
    refine EvC.loop (fun j st => ∃ tm H' i acc m a c, st = ⟨tm, [], H'⟩ ∧ j = N - i ∧ i ≤ N ∧ tm.get 0 = some (.pointer (some ⟨s, 0, none⟩)) ∧ tm.get 2 = some (.pointer (some ⟨pn, 0, none⟩)) ∧ tm.get 6 = some (.pointer (some ⟨H.next + 1, 0, none⟩)) ∧ tm.get 7 = some (.pointer (some ⟨H3.next, 0, none⟩)) ∧
        tm.get 8 = some (.pointer (some ⟨H4.next + 15, 0, none⟩)) ∧ tm.get 9 = some (.pointer (some ⟨H4.next + 17, 0, none⟩)) ∧ tm.get 10 = some (.int .i64 (i : Nat)) ∧ (List.range i).foldl (stepT (toldF σ k) g) ([], n + 1) = (acc, m) ∧ n + 1 ≤ m ∧ m ≤ 4001 ∧ (∀ j, j < i → ((List.range j).foldl (stepT (toldF σ k) g) ([], n + 1)).2 ≤ 4000) ∧
        H'.get pn = some (.row [.int .i64 (m : Nat)] 3) ∧ H'.get (H.next + 1) = some (.row zero6 32) ∧ H'.get H3.next = some (.row (two d) 37) ∧ H'.get (H4.next + 15) = some (.row (keyC σ.funs[f]) 49) ∧
        H'.get (H4.next + 17) = some (.row (six (.mk 5 σ.funs[f].1 e0 0 0 acc) a c) 32) ∧ FL H' 32 (Rg H6.next H'.next) acc a c ∧ HK (fun n => n = pn) H H' ∧ H6.next ≤ H'.next) ?_ N _ ?_
    · rintro j st ⟨tm, H', i, acc, m, a, c', rfl, rfl, hi, t0, t2, t6, t7, t8, t9, t10, hP, hm1, hm2, hall, gnG, g6G, g7G, g8G, g9G, hfl, hkG, hnG⟩
      have wG := hkG.wf
      have q8 := z14 g8G
      rw [eN] at q8
      have qn := z2t gnG
      have hcmp : toldF σ (k + 1) c n = (.mk 5 σ.funs[f].1 e0 0 0 ((List.range N).foldl (stepT (toldF σ k) g) ([], n + 1)).1, ((List.range N).foldl (stepT (toldF σ k) g) ([], n + 1)).2) := by
        rw [toldF, ed, if_neg d2, if_neg d3, ev, h3, Int.toNat_natCast, List.getElem?_eq_getElem hf, Option.getD_some, eN, Int.toNat_natCast, ← ev, hg]
      have hbd : Bd (.mk 5 σ.funs[f].1 e0 0 0 acc) := ⟨by show i64 5; exact ⟨by decide, by decide⟩, hT.fn _ (List.getElem_mem hf), Nat.zero_le _, by show u64 0; exact ⟨by decide, by decide⟩, by show i64 0; exact ⟨by decide, by decide⟩⟩
      have hfin : (List.range N).foldl (stepT (toldF σ k) g) ([], n + 1) = (acc, m) → ∃ cs, Value.agg ⟨six (.mk 5 σ.funs[f].1 e0 0 0 acc) a c'⟩ = .agg ⟨cs⟩ ∧ RepF (H'.put (H.next + 1) (some (.row (six (.mk 5 σ.funs[f].1 e0 0 0 acc) a c') 32))) 32 (Rg H.next (H'.put (H.next + 1) (some (.row (six (.mk 5 σ.funs[f].1 e0 0 0 acc) a c') 32))).next) (toldF σ (k + 1) c n).1 cs ∧
          (H'.put (H.next + 1) (some (.row (six (.mk 5 σ.funs[f].1 e0 0 0 acc) a c') 32))).get pn = some (.row [.int .i64 ((toldF σ (k + 1) c n).2 : Nat)] 3) ∧ HK (fun n => n = pn) H (H'.put (H.next + 1) (some (.row (six (.mk 5 σ.funs[f].1 e0 0 0 acc) a c') 32))) := fun he => by
        rw [hcmp, he]
        refine ⟨_, rfl, ⟨a, c', rfl, hbd, ?_⟩, ?_, hkG.put (.inr (by omega)) (wG _ _ g6G) _⟩
        · refine (hfl.heap (fun x hx hl => ?_) wG).sub fun x hx => ?_
          · have := hx.1; rw [get_put, if_neg (by omega)]
          · have := hx.1; have := hx.2; rw [z0s]; exact ⟨by omega, by omega⟩
        · rw [get_put, if_neg (by omega)]; exact gnG
      by_cases hlt : i < N
      · by_cases h4 : m ≤ 4000
        · have d5 : decide ((m : Int) ≤ 4000) = true := decide_eq_true (by omega)
          have h7i := h7 i (by omega)
          have hvi : v + 1 + i < σ.cells.length := by have := h7i.1; omega
          have hsG := (hs.beside hw hkG fun n e => e ▸ hmn).1
          obtain ⟨Hc, ec, hxc, wc⟩ := z36 wG 20
          have hsc := hsG.keep wG hxc
          obtain ⟨a0y, c0y, a1y, c1y, a2y, c2y, a3y, c3y, a4y, c4y, a5y, c5y, r6y, r7y, a8y, c8y, a9y, c9y, hy, l0y, l1y, l2y, l3y, l4y, l5y, l6y, l7y, l8y, l9y, b0y, b1y, b2y, b3y, b4y, b5y, b8y, b9y⟩ := hsc.open
          have egi : g i = ci σ.cells ((v + 1 + i : Nat) : Int) := by rw [hgi, ev]; congr 1
          obtain ⟨b9, rfl, o9, ld9⟩ := hy.el (i := 0) (k := v + 1 + i) (x := two (g i)) rfl rfl (by rw [List.getElem?_map, z3y hvi, egi]; rfl)
          have q7 := z14 (hxc.get wG g7G)
          rw [ev] at q7
          have ew1 : IntKind.i64.wrap ((v : Int) + 1) = ((v + 1 : Nat) : Int) := by rw [z0c] <;> omega
          have ew2 : IntKind.i64.wrap (((v + 1 : Nat) : Int) + (i : Int)) = ((v + 1 + i : Nat) : Int) := by rw [z0c] <;> omega
          have ew3 : IntKind.i64.wrap ((i : Int) + 1) = ((i + 1 : Nat) : Int) := by rw [z0c] <;> omega
          repeat' (first | refine EvC.seq ?_ | refine EvC.scope ?_ | refine EvC.block ?_ | (refine EvC.skip ?_; try simp only [z04]) | (refine EvC.exit ?_) | (refine EvC.ret ?_; try simp only [z01, z00]) | (refine EvC.reg ?_; simp (config := { maxSteps := 2000000 }) (disch := first | omega | rfl) only [sB, Nat.reduceEqDiff, ld3, zgb, z05, z08, t2, t8, t10, q8, qn, decl hlt, d5]) | (refine EvC.drw (id := 13) [([(2, 0), (3, 0), (4, 0), (5, 0), (6, 0), (7, 0), (8, 0), (9, 0), (10, 0), (11, 0), (12, 0), (13, 0), (14, 0)], some 15), ([(0, 0), (1, 0), (16, 1)], some 17), ([(18, 2)], some 19), ([], none)] ?_ ?_; kernel_rfl; simp (config := { maxSteps := 2000000 }) (disch := first | omega | rfl) only [sD, sB, Nat.reduceEqDiff, Nat.reduceAdd, reduceCtorEq, ld3, ld37, z15, ld28, z1u, ia28, cl24, z05, z08, t0, t2, t7, t10, ec, l0y, q7, ew1, ew2, ld9, isAlloc, isRead, reduceCtorEq]) | (refine EvC.condT ?_ ?_; simp (config := { maxSteps := 2000000 }) (disch := first | omega | rfl) only [sB, Nat.reduceEqDiff]; refine z02 ?_))
          refine (ih (c := g i) (n := m) h4 (by omega) (by rw [hgi]; exact h7i.2) hsc wc (hxc.get wG gnG) (hmn6 (hkG.trans (hxc.hk _)))).mono ?_
          rintro r Hd ⟨cs, rfl, ⟨a2, c2, rfl, hbd2, hfl2⟩, gnd, hkd⟩
          have hnc : Hc.next = H'.next + 20 := by rw [← ec]
          have hnd := hkd.next
          have wd := hkd.wf
          have q9 := row6 g9G
          have g9d : Hd.get (H4.next + 17) = some (.row (six (.mk 5 σ.funs[f].1 e0 0 0 acc) a c') 32) := hkd.get wc (hxc.get wG g9G) (by omega)
          have q9d := row6 g9d
          obtain ⟨He, ee⟩ : ∃ He, Hd.put (H'.next + 16) (some (.row (six (toldF σ k (g i) m).1 a2 c2) 32)) = He := ⟨_, rfl⟩
          have hke : HK (fun n => n = H'.next + 16) Hd He := by rw [← ee]; exact (HK.refl (S := fun n => n = H'.next + 16) wd).put (.inl rfl) (by omega) _
          have we := hke.wf
          have ne : He.next = Hd.next := by rw [← ee]; rfl
          have ge : He.get (H'.next + 16) = some (.row (six (toldF σ k (g i) m).1 a2 c2) 32) := by rw [← ee, get_put, if_pos rfl]
          have hle := z93 σ k (g i) m h4
          have hlen : acc.length = i := by have := zdj (f := toldF σ k) (g := g) i (n + 1) hall; rw [hP] at this; exact this
          have h64 : i < 1000 := by omega
          have hflE : FL He 32 (Rg H6.next H'.next) acc a c' := hfl.heap (fun x hx hl => by
            have := hx.1; have := hx.2
            rw [hke.keep x (by omega) (by omega), hkd.keep x (by omega) (by omega), hxc.keep x (by omega)]) wG
          have hflU : FL He 32 (Rg Hc.next Hd.next) (toldF σ k (g i) m).1.args a2 c2 := hfl2.heap (fun x hx hl => by
            have := hx.1; have := hx.2
            rw [hke.keep x (by omega) (by omega)]) wd
          obtain ⟨Hf, ef, hfl3, hkf, nf⟩ := FL.push (P := Tryd.prog) (S2 := Rg H6.next (He.next + 1)) (c1 := 1) ap22 hflE we (row6 ge).2.2.2.2.2.2 hflU hbd2 (fun x h1 h2 => by have := h1.1; have := h2.2; omega) (fun x h => by have := h.2; omega) (fun x h => by have := h.2; omega) (by unfold most; omega)
            (fun x h => by rcases h with h | h | h; exact ⟨h.1, by have := h.2; omega⟩; exact ⟨by have := h.1; omega, by have := h.2; omega⟩; exact ⟨by omega, by omega⟩)
          have g9f : Hf.get (H4.next + 17) = some (.row (six (.mk 5 σ.funs[f].1 e0 0 0 acc) a c') 32) := hkf.get we (hke.get wd g9d (by omega)) (fun h => by have := h.1; omega)
          have q9c := row6 (hxc.get wG g9G)
          repeat' (first | refine EvC.seq ?_ | refine EvC.scope ?_ | refine EvC.block ?_ | (refine EvC.skip ?_) | (refine EvC.exit ?_) | (refine EvC.ret ?_; try simp only [z01, z00]) | (refine EvC.reg ?_; simp (config := { maxSteps := 2000000 }) (disch := first | omega | rfl) only [sB, Nat.reduceEqDiff, t10, ew3]) | (refine za5 ?_; simp (config := { maxSteps := 2000000 }) (disch := first | omega | rfl) only [sV, sD, sB, Nat.reduceEqDiff, Nat.reduceAdd, Value.cells, one, reduceCtorEq, layC, ld22, z3h, zg8, st22, t9, q9c, q9d, ee, ef, g9f, zlu, isAlloc, isRead, dalloc, reduceCtorEq]))
          have wf := hkf.wf
          have lf9 := wf _ _ g9f
          have hnf := hkf.next
          have hput : ∀ D, HK (fun n => n = H4.next + 17) Hf (Hf.put (H4.next + 17) D) := fun D => (HK.refl (S := fun n => n = H4.next + 17) wf).put (.inl rfl) lf9 D
          have hold : ∀ x D, x < H6.next → x ≠ pn → x ≠ H4.next + 17 → (Hf.put (H4.next + 17) D).get x = H'.get x := fun x D h1 h2 h3 => by
            rw [(hput D).keep x (by omega) h3, hkf.keep x (by omega) (fun h => by have := h.1; omega), hke.keep x (by omega) (by omega), hkd.keep x (by omega) h2, hxc.keep x (by omega)]
          have hpn : ∀ D, (Hf.put (H4.next + 17) D).get pn = Hd.get pn := fun D => by
            rw [(hput D).keep pn (by omega) (by omega), hkf.keep pn (by omega) (fun h => by have := h.1; omega), hke.keep pn (by omega) (by omega)]
          refine ⟨_, by omega, _, _, i + 1, acc ++ [(toldF σ k (g i) m).1], (toldF σ k (g i) m).2, some ⟨He.next, 0, none⟩, acc.length + 1, rfl, rfl, by omega, (by simp only [sG, reduceCtorEq, t0] <;> rfl), (by simp only [sG, Nat.reduceEqDiff, t2] <;> rfl), (by simp only [sG, Nat.reduceEqDiff, t6] <;> rfl), (by simp only [sG, Nat.reduceEqDiff, t7] <;> rfl), (by simp only [sG, Nat.reduceEqDiff, t8] <;> rfl), (by simp only [sG, Nat.reduceEqDiff, t9] <;> rfl), (by simp only [sG, Nat.reduceEqDiff] <;> rfl), zal hP h4, by omega, hle.2, fun j hj => ?_, by rw [hpn]; exact gnd, by rw [hold _ _ (by omega) (by omega) (by omega)]; exact g6G, by rw [hold _ _ (by omega) (by omega) (by omega)]; exact g7G, by rw [hold _ _ (by omega) (by omega) (by omega)]; exact g8G, ?_, ?_, ?_, ?_⟩
          · by_cases hji : j < i
            · exact hall j hji
            · obtain rfl : j = i := by omega
              rw [hP]; exact h4
          · rw [get_put, if_pos rfl]
            show some (Blk.row [_, _, _, _, _, .slice (some ⟨He.next, 0, none⟩) (acc.length + 1) (acc.length + 1)] _) = some (Blk.row [_, _, _, _, _, .slice (some ⟨He.next, 0, none⟩) (acc ++ [(toldF σ k (g i) m).1]).length (acc.length + 1)] _)
            rw [List.length_append]; rfl
          · refine (hfl3.heap (fun x hx _ => ?_) wf).sub fun x hx => ⟨hx.1, ?_⟩
            · have := hx.1; rw [get_put, if_neg (by omega)]
            · have := hx.2; rw [z0s]; omega
          · refine ⟨by rw [z0s]; omega, fun x h1 h2 => ?_, (hput _).wf⟩
            rw [hold x _ (by omega) h2 (by omega)]
            exact hkG.keep x h1 h2
          · rw [z0s]; omega
        · have d5 : decide ((m : Int) ≤ 4000) = false := decide_eq_false (by omega)
          have q9 := row6 g9G
          repeat' (first | refine EvC.seq ?_ | refine EvC.scope ?_ | refine EvC.block ?_ | (refine EvC.skip ?_) | (refine EvC.exit ?_; try simp only [sB]) | (refine EvC.ret ?_; try simp only [z01, z00]) | (refine EvC.reg ?_; simp (config := { maxSteps := 2000000 }) (disch := first | omega | rfl) only [sB, Nat.reduceEqDiff, Nat.reduceAdd, one, ld3, st32, ld32, zgb, z05, z08, t2, t6, t8, t9, t10, q8, qn, q9, g6G, decl hlt, d5]) | (refine EvC.condT ?_ ?_; simp (config := { maxSteps := 2000000 }) (disch := first | omega | rfl) only [sB, Nat.reduceEqDiff]; refine z02 ?_) | (refine EvC.condF ?_ ?_; simp (config := { maxSteps := 2000000 }) (disch := first | omega | rfl) only [sB, Nat.reduceEqDiff]; refine z02 ?_))
          exact z0q rfl (by simp only [sB, Nat.reduceEqDiff, t6] <;> rfl) (by simp only [sB, Nat.reduceAdd, cutC, ld32] <;> rfl) (hfin (by rw [zhd hi (by rw [hP]; exact h4), hP]))
      · obtain rfl : i = N := by omega
        have q9 := row6 g9G
        repeat' (first | refine EvC.seq ?_ | refine EvC.scope ?_ | refine EvC.block ?_ | (refine EvC.skip ?_) | (refine EvC.exit ?_; try simp only [sB]) | (refine EvC.ret ?_; try simp only [z01, z00]) | (refine EvC.reg ?_; simp (config := { maxSteps := 2000000 }) (disch := first | omega | rfl) only [sB, Nat.reduceEqDiff, Nat.reduceAdd, one, ld3, st32, ld32, zgb, t6, t8, t9, t10, q8, q9, g6G, decn hlt, Bool.false_eq_true]) | (refine EvC.condT ?_ ?_; simp (config := { maxSteps := 2000000 }) (disch := first | omega | rfl) only [sB, Nat.reduceEqDiff]; refine z02 ?_) | (refine EvC.condF ?_ ?_; simp (config := { maxSteps := 2000000 }) (disch := first | omega | rfl) only [sB, Nat.reduceEqDiff]; refine z02 ?_))
        exact z0q rfl (by simp only [sB, Nat.reduceEqDiff, t6] <;> rfl) (by simp only [sB, Nat.reduceAdd, cutC, ld32] <;> rfl) (hfin hP)
    · have hc0 : (0 : Nat) < 1 := by omega
      simp only [e5, e6]
      have gn6 := hx46.get w4 gn4
      refine ⟨_, _, 0, [], n + 1, none, 0, rfl, rfl, by omega, (by simp only [sG, reduceCtorEq] <;> rfl), (by simp only [sG, Nat.reduceEqDiff, reduceCtorEq] <;> rfl), (by simp only [sG, Nat.reduceEqDiff, reduceCtorEq] <;> rfl), (by simp only [sG, Nat.reduceEqDiff, reduceCtorEq] <;> rfl), (by simp only [sG, Nat.reduceEqDiff, reduceCtorEq] <;> rfl), (by simp only [sG, Nat.reduceEqDiff, reduceCtorEq] <;> rfl), (by simp only [sB, Nat.reduceEqDiff, reduceCtorEq] <;> rfl), rfl, Nat.le_refl _, by omega, fun j hj => by omega, gn6, hx46.get w4 g4', hx46.get w4 g4, hx6.get w5 g5, g6, .nil _, hk6, Nat.le_refl _⟩
end Go.Proofs.YthkogijbkachdaaDoor.hb
end

-- Sg12
section
namespace Go.Proofs.YthkogijbkachdaaDoor.hb
open Go Go.RowKit Go.Hb
variable {ok : Ok}
set_option maxRecDepth 10000
attribute [local irreducible] LX LG EL STG SOP SGO SGD SAL SRD SEF SEG SLK SCK ES
noncomputable def termS (σ : SS) (c : Int × Int) : Tm × Int := if mayS σ c = false then (zeroTm, 130) else if 4000 < (toldF σ 4001 c 0).2 then (zeroTm, 131) else ((toldF σ 4001 c 0).1, 0)
theorem z78 {H : Heap} {S : Nat → Prop} : RepF H 32 S zeroTm (six zeroTm none 0) := ⟨none, 0, rfl, ⟨by show i64 0; exact ⟨by decide, by decide⟩, Nat.zero_le _, Nat.zero_le _, by show u64 0; exact ⟨by decide, by decide⟩, by show i64 0; exact ⟨by decide, by decide⟩⟩, .nil _⟩
set_option maxHeartbeats 8000000 in
theorem zhe {H : Heap} {B s : Nat} {σ : SS} {c : Int × Int} (hT : TOk σ) (ho : σ.own.length = σ.cells.length) (hs : St H B s σ) (hw : H.wf) :
    EvF Tryd.prog okT 8 [.pointer (some ⟨s, 0, none⟩), .agg ⟨two c⟩] H fun r H' => ∃ cs, r = .tuple ⟨[.agg ⟨cs⟩, .int .i64 (termS σ c).2]⟩ ∧ RepF H' 32 (Rg H.next H'.next) (termS σ c).1 cs ∧ HX H H' := by
  have hs0 := hs.lt hw
  refine EvF.enter rfl Tryd.func8 (by decide) rfl ?_
  (repeat refine EvC.seq ?_); refine EvC.reg ?_; simp (config := { maxSteps := 2000000 }) (disch := first | omega | rfl) only [sB, initTm, dBox, dAlloc, Value.cells, one, reduceCtorEq, zr32]
  obtain ⟨H1, e1, hx1, g1, g1', n1, w1⟩ := new2 hw (.row (two c) 37) (.row zero6 32)
  simp only [e1]
  have q1 := z14 g1
  repeat' (first | refine EvC.seq ?_ | refine EvC.scope ?_ | refine EvC.block ?_ | (refine EvC.skip ?_) | (refine EvC.exit ?_) | (refine EvC.ret ?_; try simp only [z01, z00]) | (refine EvC.reg ?_; simp (config := { maxSteps := 2000000 }) (disch := first | omega | rfl) only [sB, Nat.reduceEqDiff, reduceCtorEq, ld37, cl23, bEqP, q1]) | (refine EvC.condT ?_ ?_; simp (config := { maxSteps := 2000000 }) (disch := first | omega | rfl) only [sB, Nat.reduceEqDiff, reduceCtorEq]; refine z02 ?_) | (refine EvC.condF ?_ ?_; simp (config := { maxSteps := 2000000 }) (disch := first | omega | rfl) only [sB, Nat.reduceEqDiff, reduceCtorEq]; refine z02 ?_))
  refine (zkj (hs.keep hw hx1) w1 ho).mono ?_
  rintro r H2 ⟨rfl, hx2⟩
  have q2 := z14 (hx2.get w1 g1)
  have g2' := hx2.get w1 g1'
  have hx12 := hx1.trans hx2
  have hl2 := hx2.next
  cases hm : mayS σ c with
  | false =>
    have et : termS σ c = (zeroTm, 130) := by rw [termS, if_pos hm]
    repeat' (first | refine EvC.seq ?_ | refine EvC.scope ?_ | refine EvC.block ?_ | (refine EvC.skip ?_) | (refine EvC.exit ?_) | (refine EvC.ret ?_; try simp only [z01, z00]) | (refine EvC.reg ?_; simp (config := { maxSteps := 2000000 }) (disch := first | omega | rfl) only [sB, Nat.reduceEqDiff, Nat.reduceAdd, Value.cells, one, reduceCtorEq, layC, bd32, st32, g2']) | (refine z0l ?_; simp (config := { maxSteps := 2000000 }) (disch := first | omega | rfl) only [sB, Nat.reduceEqDiff, reduceCtorEq, Bool.not_false]) | (refine EvC.condT ?_ ?_; simp (config := { maxSteps := 2000000 }) (disch := first | omega | rfl) only [sB, Nat.reduceEqDiff, reduceCtorEq]; refine z02 ?_))
    rw [et]
    have hput := hx12.pt (i := H.next + 1) (by omega) g2' (some (.row zero6 32))
    exact z0f rfl (by simp only [sB, Nat.reduceEqDiff, reduceCtorEq] <;> rfl) (by simp only [sB, Nat.reduceAdd, cutC, ld32] <;> rfl) (by simp only [sG, Nat.reduceEqDiff, reduceCtorEq] <;> rfl) ⟨_, rfl, z78, hput⟩
  | true =>
    have w2 := hx2.wf
    obtain ⟨H3, e3, hx3, g3, n3, w3⟩ := z29 w2 (.row [.int .i64 0] 3) (.row [.int .i64 0] 3)
    have hx13 := hx12.trans hx3
    have hs3 := hs.keep hw hx13
    have q3 := z14 (hx3.get w2 (hx2.get w1 g1))
    have g3' := hx3.get w2 g2'
    have nm3 := hs.fresh hw hx13 (n := H2.next) (by omega)
    repeat' (first | refine EvC.seq ?_ | refine EvC.scope ?_ | refine EvC.block ?_ | (refine EvC.skip ?_; try simp only [sA]) | (refine EvC.exit ?_) | (refine EvC.ret ?_; try simp only [z01, z00]) | (refine EvC.reg ?_; simp (config := { maxSteps := 2000000 }) (disch := first | omega | rfl) only [sB, dAlloc, Nat.reduceEqDiff, one, reduceCtorEq, zr32, ld37, zr3, st3, cl24, e3, q3]) | (refine z0l ?_; simp (config := { maxSteps := 2000000 }) (disch := first | omega | rfl) only [sB, Nat.reduceEqDiff, reduceCtorEq, Bool.not_true]) | (refine EvC.condT ?_ ?_; simp (config := { maxSteps := 2000000 }) (disch := first | omega | rfl) only [sB, Nat.reduceEqDiff, reduceCtorEq]; refine z02 ?_) | (refine EvC.condF ?_ ?_; simp (config := { maxSteps := 2000000 }) (disch := first | omega | rfl) only [sB, Nat.reduceEqDiff, reduceCtorEq]; refine z02 ?_))
    refine (zlv (n := 0) hT 4001 (by omega) (by omega) hm hs3 w3 g3 nm3).mono ?_
    rintro r H4 ⟨cs, rfl, hrF, gn4, hk4⟩
    obtain ⟨a2, c2, rfl, hbd, hfl⟩ := hrF
    have g4' := hk4.get w3 g3' (by omega)
    have hle := z93 σ 4001 c 0 (by omega)
    have w4 := hk4.wf
    have hn4 := hk4.next
    obtain ⟨H5, e5, hx5, g5, n5, w5⟩ := z29 w4 (.row zero6 32) (.row (six (toldF σ 4001 c 0).1 a2 c2) 32)
    have q5 := row6 g5
    have qn5 := z2t (hx5.get w4 gn4)
    have g5' := hx5.get w4 g4'
    have hxk : HX H H4 := hx13.then hk4 fun n hn e => by omega
    have hx5' := hxk.trans hx5
    have hflF : ∀ D, FL (H5.put (H.next + 1) D) 32 (Rg H.next (H5.put (H.next + 1) D).next) (toldF σ 4001 c 0).1.args a2 c2 := fun D => by
      refine ((hfl.keep hx5 w4).heap (fun x hx _ => ?_) w5).sub fun x hx => ?_
      · have := hx.1; rw [get_put, if_neg (by omega)]
      · have h1 := hx.1; have h2 := hx.2; have := hx5.next; rw [z0s]; exact ⟨by omega, by omega⟩
    by_cases h4 : 4000 < (toldF σ 4001 c 0).2
    · have d4 : decide (((toldF σ 4001 c 0).2 : Int) > 4000) = true := decide_eq_true (by omega)
      have et : termS σ c = (zeroTm, 131) := by rw [termS, if_neg (by rw [hm]; simp), if_pos h4]
      repeat' (first | refine EvC.seq ?_ | refine EvC.scope ?_ | refine EvC.block ?_ | (refine EvC.skip ?_) | (refine EvC.exit ?_) | (refine EvC.ret ?_; try simp only [z01, z00]) | (refine EvC.reg ?_; simp (config := { maxSteps := 2000000 }) (disch := first | omega | rfl) only [sB, Nat.reduceEqDiff, Nat.reduceAdd, Value.cells, one, reduceCtorEq, layC, bd32, st32, ld3, qn5, g5', d4]) | (refine z0l ?_; simp (config := { maxSteps := 2000000 }) (disch := first | omega | rfl) only [sB, Nat.reduceAdd, one, st32, e5]) | (refine EvC.condT ?_ ?_; simp (config := { maxSteps := 2000000 }) (disch := first | omega | rfl) only [sB, Nat.reduceEqDiff, reduceCtorEq]; refine z02 ?_))
      rw [et]
      exact z0f rfl (by simp only [sB, Nat.reduceEqDiff, reduceCtorEq] <;> rfl) (by simp only [sB, Nat.reduceAdd, cutC, ld32] <;> rfl) (by simp only [sG, Nat.reduceEqDiff, reduceCtorEq] <;> rfl) ⟨_, rfl, z78, hx5'.pt (by omega) g5' _⟩
    · have d4 : decide (((toldF σ 4001 c 0).2 : Int) > 4000) = false := decide_eq_false (by omega)
      have et : termS σ c = ((toldF σ 4001 c 0).1, 0) := by rw [termS, if_neg (by rw [hm]; simp), if_neg h4]
      repeat' (first | refine EvC.seq ?_ | refine EvC.scope ?_ | refine EvC.block ?_ | (refine EvC.skip ?_; try simp only [z04]) | (refine EvC.exit ?_) | (refine EvC.ret ?_; try simp only [z01, z00]) | (refine EvC.reg ?_; simp (config := { maxSteps := 2000000 }) (disch := first | omega | rfl) only [sB, Nat.reduceEqDiff, Nat.reduceAdd, one, reduceCtorEq, st32, ld3, ld32, q5, qn5, g5', d4]) | (refine z0l ?_; simp (config := { maxSteps := 2000000 }) (disch := first | omega | rfl) only [sB, Nat.reduceAdd, one, st32, e5]) | (refine EvC.condT ?_ ?_; simp (config := { maxSteps := 2000000 }) (disch := first | omega | rfl) only [sB, Nat.reduceEqDiff, reduceCtorEq]; refine z02 ?_) | (refine EvC.condF ?_ ?_; simp (config := { maxSteps := 2000000 }) (disch := first | omega | rfl) only [sB, Nat.reduceEqDiff, reduceCtorEq]; refine z02 ?_))
      rw [et]
      exact z0f rfl (by simp only [sB, Nat.reduceEqDiff, reduceCtorEq] <;> rfl) (by simp only [sB, Nat.reduceAdd, cutC, ld32] <;> rfl) (by simp only [sG, Nat.reduceEqDiff, reduceCtorEq] <;> rfl) ⟨_, rfl, ⟨a2, c2, rfl, hbd, hflF _⟩, hx5'.pt (by omega) g5' _⟩
end Go.Proofs.YthkogijbkachdaaDoor.hb
end

-- Nd
section
namespace Go.Proofs.YthkogijbkachdaaDoor.hb
open Go Go.RowKit Go.Hb
def nd : Tm → Nat
  | .mk _ _ _ _ _ l => 1 + ndL l
where ndL : List Tm → Nat
  | [] => 0
  | t :: l => nd t + ndL l
theorem z2a (t : Tm) : nd t = 1 + nd.ndL t.args := by obtain ⟨k, s, u, b, v, l⟩ := t; rw [nd]; rfl
theorem z79 : ∀ (l : List Tm), (∀ t ∈ l, ∀ n, n ≤ cnt t n) → ∀ n, n ≤ cntL l n
  | [], _, n => by rw [cntL]; exact Nat.le_refl _
  | t :: l, h, n => by
    rw [cntL]
    split
    · exact Nat.le_refl _
    · exact Nat.le_trans (h t (by simp) n) (z79 l (fun u hu => h u (List.mem_cons_of_mem _ hu)) _)
theorem zdk : ∀ (m : Nat) (t : Tm), SizeOf.sizeOf t < m → ∀ n, n + 1 ≤ cnt t n
  | 0, _, h, _ => by omega
  | m + 1, t, h, n => by
    rw [z5v]
    exact z79 _ (fun u hu k => by have := zdk m u (by have := z0u hu; omega) k; omega) _
theorem zhf : ∀ (l : List Tm), (∀ t ∈ l, ∀ n, cnt t n ≤ 4000 → cnt t n = n + nd t) → ∀ n, cntL l n ≤ 4000 → cntL l n = n + nd.ndL l
  | [], _, n, _ => by rw [cntL, nd.ndL]; rfl
  | t :: l, h, n, hn => by
    rw [cntL] at hn ⊢
    split at hn
    · omega
    · rename_i h4
      rw [if_neg h4]
      have hm : cnt t n ≤ cntL l (cnt t n) := z79 l (fun u _ k => by have := zdk _ u (Nat.lt_succ_self _) k; omega) _
      rw [zhf l (fun u hu => h u (List.mem_cons_of_mem _ hu)) _ hn, h t (by simp) n (by omega), nd.ndL]
      omega
theorem zhg : ∀ (m : Nat) (t : Tm), SizeOf.sizeOf t < m → ∀ n, cnt t n ≤ 4000 → cnt t n = n + nd t
  | 0, _, h, _, _ => by omega
  | m + 1, t, h, n, hn => by
    rw [z5v] at hn ⊢
    rw [zhf _ (fun u hu k => zhg m u (by have := z0u hu; omega) k) _ hn, z2a]; omega
end Go.Proofs.YthkogijbkachdaaDoor.hb
end
