import Derived.Test.YtopekindmbjeoaaDoorM3
import Derived.Test.YtopekindmbjeoaaDoorM6
import Derived.Test.YtopekindmbjeoaaDoorM5
/- Lemmas on the program's own code, towards the laws of this folder, part 7. Conditions: as each lemma says. -/
section
namespace Go.Proofs.hq
open Go Go.RowKit Go.Hb
variable {ok : Ok}
set_option maxRecDepth 10000
attribute [local irreducible] LX LG EL STG SOP SGO SGD SAL SRD SEF SEG SLK SCK ES
theorem z2n {k : Int} {t : Tm} {l : List Tm} (h2 : k ≠ 2) (h3 : k ≠ 3) (h4 : ¬ (k = 4 ∧ l.length = 2)) (h5 : ¬ (k = 5 ∧ l.length = 2)) (h6 : ¬ (k = 6 ∧ l.length = 2)) (h6' : ¬ (k = 6 ∧ l.length = 3)) (h7 : ¬ (k = 7 ∧ l.length = 1)) : tellB k t l = atmT sTrue := by
 unfold tellB
 rw [if_neg h2, if_neg h3, if_neg h4, if_neg h5, if_neg h6, if_neg h6', if_neg h7]
theorem z2x {H : Heap} {S : Nat → Prop} {s : ByteArray} (h : s.size ≤ maxLen) : RepS H S (atmT s) (six (atmT s) none 0) :=
 RepS.leaf ⟨by show i64 2; decide, h, by show ByteArray.empty.size ≤ _; decide, by show u64 0; decide, by show i64 0; decide⟩ rfl (Nat.zero_le _) fun _ => rfl
theorem z3m {H : Heap} {S : Nat → Prop} {s : ByteArray} {x y : Tm} {a a' : Option Addr} {c c' b : Nat} (hs : s.size ≤ maxLen) (hg : H.get b = some (.row (six x a c ++ six y a' c') 25)) (hS : S b) (hw : H.wf) (hx : RepS H S x (six x a c)) (hy : RepS H S y (six y a' c')) :
  RepS H S (cmpT s [x, y]) (six (cmpT s [x, y]) (some ⟨b, 0, none⟩) 2) :=
 RepS.row (t := cmpT s [x, y]) (z4e hs) rfl hg hS (hw _ _ hg) (Nat.le_refl _) (Nat.le_refl _) (by decide) fun j hj => by
  match j, hj with
  | 0, _ => exact hx
  | 1, _ => exact hy
theorem LT.el {H : Heap} {T : TypeId} {E : Nat → Prop} {l : List Tm} {a : Option Addr} {c : Nat} (h : LT H T E l a c) {i : Nat} (hi : i < l.length) :
  ∃ b a' c', a = some ⟨b, 0, none⟩ ∧ H.load ⟨b, i * 6, none⟩ 6 = some (six l[i] a' c') ∧ RepS H E l[i] (six l[i] a' c') ∧ b < H.next := by
 rcases h with ⟨rfl, -, -⟩ | ⟨b, cells, rfl, h1, h2, h3, h4, h5, h6, h7⟩
 ·exact absurd hi (Nat.not_lt_zero _)
 ·have hr := h7 i _ (List.getElem?_eq_getElem hi)
  obtain ⟨a', c', cells', e, -⟩ := hr.rep.six
  refine ⟨b, a', c', rfl, ?_, e ▸ hr, h5⟩
  unfold Heap.load Heap.cells
  simp only [h3, e]
  rfl
set_option maxHeartbeats 16000000 in
theorem zk2 {m : Nat} : ∀ {u : Bdy} {cs : List Value} {S : Nat → Prop} {H : Heap}, SizeOf.sizeOf u < m → RepBI H S u cs → FewB 1000000 u → (∀ n, S n → n < H.next) → H.wf →
  EvF Tryd.prog okT 29 [.agg ⟨cs⟩] H fun v H' => HX H H' ∧ ∃ out, v = .agg ⟨out⟩ ∧ RepS H' (fun n => S n ∨ (H.next ≤ n ∧ n < H'.next)) (toldB u) out := by
 induction m with
 | zero => intro u cs S H h; omega
 | succ m ih =>
 intro u cs S H hsz r hfew hS hw
 have hlen := hfew.len
 have ean : apOk Tryd.prog 23 25 6 := ap23
 obtain ⟨ta, tc, a, c, cells, rfl, hk, hr, hlc, hcm, hel⟩ := r.inv
 refine EvF.enter rfl Tryd.func29 (by decide) rfl ?_
 (repeat refine EvC.seq ?_); refine EvC.reg ?_; simp (config := { maxSteps := 2000000 }) (disch := first | omega | rfl) only [sB, initTm, dBox, dAlloc, Value.cells, one, zr25]
 obtain ⟨H2, e2, hx2, gb, gq, hn2, hw2⟩ := new2 hw (.row (eightT u.kind u.term ta tc a u.sub.length c) 30) (.row zero6 25)
 simp only [e2]
 clear e2
 have qb := row8 gb
 have hmx : u.sub.length ≤ 9223372036854775807 := by omega
 (repeat refine EvC.seq ?_); refine EvC.reg ?_; simp (config := { maxSteps := 2000000 }) (disch := first | omega | rfl) only [sA]
 (repeat refine EvC.seq ?_); refine EvC.reg ?_; simp (config := { maxSteps := 2000000 }) (disch := first | omega | rfl) only [sB, Nat.reduceEqDiff, reduceCtorEq, z2c, ld28, ln28, qb]
 refine EvC.join (fun st => ∃ tm G ao co, st = ⟨tm, [], G⟩ ∧ tm.get 1 = some (.pointer (some ⟨H.next, 0, none⟩)) ∧ tm.get 2 = some (.pointer (some ⟨H.next + 1, 0, none⟩)) ∧ tm.get 3 = some (.slice ao u.sub.length co) ∧
  G.get H.next = some (.row (eightT u.kind u.term ta tc a u.sub.length c) 30) ∧ G.get (H.next + 1) = some (.row zero6 25) ∧
  LT G 25 (fun n => (S n ∨ (H.next + 2 ≤ n ∧ n < G.next)) ∧ ao ≠ some ⟨n, 0, none⟩) (u.sub.map toldB) ao co ∧ (∀ n, ao = some ⟨n, 0, none⟩ → H.next + 2 ≤ n ∧ n < G.next) ∧ HX H G) ?_ ?_
 ·refine EvC.block (EvC.loop (fun k' st => ∃ tm G i ao co, st = ⟨tm, [], G⟩ ∧ k' = u.sub.length - i ∧ i ≤ u.sub.length ∧ tm.get 1 = some (.pointer (some ⟨H.next, 0, none⟩)) ∧ tm.get 2 = some (.pointer (some ⟨H.next + 1, 0, none⟩)) ∧ tm.get 3 = some (.slice ao i co) ∧
   tm.get 7 = some (.slice a u.sub.length c) ∧ tm.get 8 = some (.int .i64 u.sub.length) ∧ tm.get 9 = some (.int .i64 (i : Nat)) ∧
   G.get H.next = some (.row (eightT u.kind u.term ta tc a u.sub.length c) 30) ∧ G.get (H.next + 1) = some (.row zero6 25) ∧
   LT G 25 (fun n => (S n ∨ (H.next + 2 ≤ n ∧ n < G.next)) ∧ ao ≠ some ⟨n, 0, none⟩) ((u.sub.take i).map toldB) ao co ∧ (∀ n, ao = some ⟨n, 0, none⟩ → H.next + 2 ≤ n ∧ n < G.next) ∧ HX H G) ?_ u.sub.length _ ?_)
  rotate_left
  ·exact ⟨_, _, 0, none, 0, rfl, rfl, Nat.zero_le _, (by simp only [sG, Nat.reduceEqDiff, reduceCtorEq] <;> rfl), (by simp only [sG, Nat.reduceEqDiff, reduceCtorEq] <;> rfl), (by simp only [sG, Nat.reduceEqDiff, reduceCtorEq] <;> rfl), (by simp only [sG, Nat.reduceEqDiff, reduceCtorEq] <;> rfl), (by simp only [sG, Nat.reduceEqDiff, reduceCtorEq] <;> rfl), (by simp only [sB, Nat.reduceEqDiff, reduceCtorEq] <;> rfl), gb, gq, .nil, fun n h => (by cases h), hx2⟩
  rintro k' st ⟨tm, G, i, ao, co, rfl, rfl, hi, t1, t2, t3, t7, t8, t9, gbG, gqG, hlt', hao, hxG⟩
  have hwG := hxG.wf
  by_cases hlt : i < u.sub.length
  rotate_left
  ·repeat' (first | refine EvC.seq ?_ | refine EvC.scope ?_ | refine EvC.block ?_ | (refine EvC.skip ?_) | (refine EvC.exit ?_; try simp only [sB]) | (refine EvC.ret ?_; try simp only [z01, z00]) | (refine EvC.reg ?_; simp (config := { maxSteps := 2000000 }) (disch := first | omega | rfl) only [sA, t8, t9, decn hlt]) | (refine EvC.condT ?_ ?_; simp (config := { maxSteps := 2000000 }) (disch := first | omega | rfl) only [sB]; refine z06 ?_) | (refine EvC.condF ?_ ?_; simp (config := { maxSteps := 2000000 }) (disch := first | omega | rfl) only [sB]; refine z06 ?_))
   obtain rfl : i = u.sub.length := by omega
   rw [List.take_length] at hlt'
   exact ⟨_, _, ao, co, rfl, (by simp only [sG, Nat.reduceEqDiff, t1] <;> rfl), (by simp only [sG, Nat.reduceEqDiff, t2] <;> rfl), (by simp only [sG, Nat.reduceEqDiff, t3] <;> rfl), gbG, gqG, hlt', hao, hxG⟩
  obtain ⟨b, o, rfl, hSb, hbl, hld, hri⟩ := hel i hlt
  obtain ⟨ta1, tc1, a1, c1, cells1, e1, -⟩ := hri.inv
  rw [e1] at hld hri
  have hld1 := hxG.load hw hld
  (repeat refine EvC.seq ?_); refine EvC.reg ?_; simp (config := { maxSteps := 2000000 }) (disch := first | omega | rfl) only [sA, t8, t9, decl hlt]
  (repeat refine EvC.seq ?_); refine EvC.condT (by simp (config := { maxSteps := 2000000 }) (disch := first | omega | rfl) only [sB]) ?_; (try refine EvC.skip ?_); (try simp only [z02, z03])
  refine EvC.seq ?_
  refine EvC.block ?_
  (repeat refine EvC.seq ?_); refine EvC.reg ?_; simp (config := { maxSteps := 2000000 }) (disch := first | omega | rfl) only [sB, dAlloc, Nat.reduceEqDiff, Nat.reduceAdd, one, ia28, ld30, zr30, st30, t7, t9, hld1]
  obtain ⟨H4, e4, hx4, g5, hn4, hw4⟩ := z0w hwG (.row zero8 30) (.row (eightT u.sub[i].kind u.sub[i].term ta1 tc1 a1 u.sub[i].sub.length c1) 30)
  simp only [e4]
  clear e4
  have q5 := row8 g5
  have hxf := hxG.trans hx4
  (repeat refine EvC.seq ?_); refine EvC.reg ?_; simp (config := { maxSteps := 2000000 }) (disch := first | omega | rfl) only [sB, Nat.reduceEqDiff, Nat.reduceAdd, Value.cells, layC, ld30, cl29, z59, t3, q5]
  have hsz1 := Bdy.size u u.sub[i] (List.getElem_mem _)
  refine (ih (u := u.sub[i]) (by omega) (hri.to fun n hn hl => ⟨hxf.keep n hl, hn, Nat.lt_of_lt_of_le hl hxf.next⟩) (hfew.sub _ (List.getElem_mem _)) (fun n hn => Nat.lt_of_lt_of_le (hS n hn) hxf.next) hw4).mono ?_
  rintro v H5 ⟨hx5, out, rfl, hrep⟩
  obtain ⟨t6, k6, cells6, rfl, -⟩ := hrep.rep.six
  try simp (config := { maxSteps := 2000000 }) (disch := first | omega | rfl) only [sB, Nat.reduceEqDiff, Nat.reduceAdd, one]
  obtain ⟨H6, e6, hx6, g6, hn6, hw6⟩ := new1 hx5.wf (.row (six (toldB u.sub[i]) t6 k6) 25)
  simp only [e6]
  clear e6
  have hx46 := hx4.trans (hx5.trans hx6)
  have n4 := hx4.next
  have n5 := hx5.next
  have nG := hxG.next
  have lqG := hwG _ _ gqG
  have etl : ((u.sub.take i).map toldB).length = i := by rw [List.length_map, List.length_take]; omega
  obtain ⟨H7, e7, hlt7, hk7, hn7⟩ := LT.push (P := Tryd.prog) (t := 23) (E' := fun n => (S n ∨ (H.next + 2 ≤ n ∧ n < H6.next + 1)) ∧ (some ⟨H6.next, 0, none⟩ : Option Addr) ≠ some ⟨n, 0, none⟩) (E2 := fun n => S n ∨ (H4.next ≤ n ∧ n < H5.next)) (u := toldB u.sub[i]) (c1 := 1) ean
   (hlt'.to (H' := H6) (E' := fun n => (S n ∨ (H.next + 2 ≤ n ∧ n < G.next)) ∧ ao ≠ some ⟨n, 0, none⟩) (fun n _ hl => hx46.keep n hl) hx46.next (fun n hn => hn) fun n hn h => h.2 hn) hw6 (ld1 g6 rfl) (hrep.to fun n hn hl => ⟨hx6.keep n hl, hn, by omega⟩)
   (fun n hn ha => by
    have h1 := hao n ha
    rcases hn with hn | hn
    ·have := hS n hn; omega
    ·omega) (fun n hn => by
    rcases hn.1 with h | h
    ·have := hS n h; omega
    ·omega) (fun n hn => by
    rcases hn with h | h
    ·have := hS n h; omega
    ·omega) (by rw [etl]; unfold most; omega) (fun n hn => by
    rcases hn with ⟨h, _⟩ | h
    ·refine ⟨h.imp_right fun h => ⟨h.1, by omega⟩, fun e => ?_⟩
     injection e with e; injection e with e
     rcases h with h | h
     ·have := hS n h; omega
     ·omega
    ·refine ⟨h.imp_right fun h => ⟨by omega, by omega⟩, fun e => ?_⟩
     injection e with e; injection e with e
     rcases h with h | h
     ·have := hS n h; omega
     ·omega) (fun h => h.2 rfl)
  rw [etl] at e7 hlt7
  have ha1 : ao ≠ some ⟨H.next, 0, none⟩ := fun h => by have := hao _ h; omega
  have ha2 : ao ≠ some ⟨H.next + 1, 0, none⟩ := fun h => by have := hao _ h; omega
  have gb7 := hk7.get hw6 (hx46.get hwG gbG) ha1
  have gq7 := hk7.get hw6 (hx46.get hwG gqG) ha2
  have hx7 : HX H H7 := (hxG.trans hx46).then hk7 fun n hn h => by have := hao _ h; omega
  repeat' (first | refine EvC.seq ?_ | refine EvC.scope ?_ | refine EvC.block ?_ | (refine EvC.skip ?_) | (refine EvC.exit ?_) | (refine EvC.ret ?_; try simp only [z01, z00]) | (refine EvC.reg ?_; simp (config := { maxSteps := 2000000 }) (disch := first | omega | rfl) only [sB, Nat.reduceEqDiff, t9, z0c]) | (refine z0i ?_; simp (config := { maxSteps := 2000000 }) (disch := first | omega | rfl) only [sB, Nat.reduceEqDiff, e7]))
  refine ⟨u.sub.length - (i + 1), by omega, _, _, i + 1, some ⟨H6.next, 0, none⟩, i + 1, rfl, rfl, by omega, (by simp only [sG, Nat.reduceEqDiff, t1] <;> rfl), (by simp only [sG, Nat.reduceEqDiff, t2] <;> rfl), (by simp only [sG, Nat.reduceEqDiff] <;> rfl), (by simp only [sG, Nat.reduceEqDiff, t7] <;> rfl), (by simp only [sG, Nat.reduceEqDiff, t8] <;> rfl), (by simp only [sB, Nat.reduceEqDiff] <;> rfl), gb7, gq7, ?_, fun n h => by injection h with h; injection h with h; omega, hx7⟩
  rw [← List.take_append_getElem hlt, List.map_append, hn7]
  exact hlt7
 rintro st ⟨tm, G, ao, co, rfl, t1, t2, t3, gb, gq, hlt', hao, hxG⟩
 have qb := row8 gb
 have htold := zem u
 have hll : (u.sub.map toldB).length = u.sub.length := List.length_map _
 have hww := hxG.wf
 have lq := hww _ _ gq
 have hcm' : co ≤ maxLen := by
  rcases hlt' with ⟨-, -, rfl⟩ | ⟨b, cells, -, -, h, -⟩
  ·exact Nat.zero_le _
  ·exact h
 have hrG : RepS G S u.term (six u.term ta tc) := hr.to fun n hn hl => ⟨hxG.keep n hl, hn, Nat.lt_of_lt_of_le hl hxG.next⟩
 simp only [z02]
 (repeat refine EvC.seq ?_)
 refine EvC.block ?_
 generalize hL : u.sub.map toldB = L at htold hll hlt'
 by_cases k2 : u.kind = 2
 ·(repeat refine EvC.seq ?_); refine EvC.reg ?_; simp (config := { maxSteps := 2000000 }) (disch := first | omega | rfl) only [sB, Nat.reduceEqDiff, z1m, ld3, t1, qb, z0j k2]
  (repeat refine EvC.seq ?_); refine EvC.condT (by simp (config := { maxSteps := 2000000 }) (disch := first | omega | rfl) only [sB, Nat.reduceEqDiff]) ?_; (try refine EvC.skip ?_); (try simp only [z02, z03])
  (repeat refine EvC.seq ?_); refine EvC.reg ?_; simp (config := { maxSteps := 2000000 }) (disch := first | omega | rfl) only [sB, Nat.reduceEqDiff, cl39]
  refine (z6h hww).mono ?_
  rintro v H5 ⟨rfl, hx5⟩
  have n5 := hx5.next
  have nG := hxG.next
  have gq5 := hx5.get hww gq
  repeat' (first | refine EvC.seq ?_ | refine EvC.scope ?_ | refine EvC.block ?_ | (refine EvC.skip ?_) | (refine EvC.exit ?_) | (refine EvC.ret ?_; try simp only [z01, z00]) | (refine z0i ?_; simp (config := { maxSteps := 2000000 }) (disch := first | omega | rfl) only [sB, Nat.reduceAdd, one, st25, t2, gq5]))
  refine z0a rfl (by simp only [sB, Nat.reduceEqDiff, t2] <;> rfl) (by simp only [sB, Nat.reduceAdd, cutC, ld25] <;> rfl) ⟨(hxG.trans hx5).pt (by omega) gq5 _, _, rfl, ?_⟩
  rw [htold, tellB, if_pos k2]
  exact z2x (by decide)
 (repeat refine EvC.seq ?_); refine EvC.reg ?_; simp (config := { maxSteps := 2000000 }) (disch := first | omega | rfl) only [sB, Nat.reduceEqDiff, z1m, ld3, t1, qb, z0l k2]
 (repeat refine EvC.seq ?_); refine EvC.condF (by simp (config := { maxSteps := 2000000 }) (disch := first | omega | rfl) only [sB, Nat.reduceEqDiff]) ?_; (try refine EvC.skip ?_); (try simp only [z02, z03])
 refine EvC.frame (fun tm => tm.get 1 = some (.pointer (some ⟨H.next, 0, none⟩)) ∧ tm.get 2 = some (.pointer (some ⟨H.next + 1, 0, none⟩)) ∧ tm.get 3 = some (.slice ao u.sub.length co)) ⟨(by simp only [sG, Nat.reduceEqDiff, t1] <;> rfl), (by simp only [sG, Nat.reduceEqDiff, t2] <;> rfl), (by simp only [sG, Nat.reduceEqDiff, t3] <;> rfl)⟩ ?_
 clear t1 t2 t3 tm
 rintro tm ⟨t1, t2, t3⟩
 by_cases k3 : u.kind = 3
 ·(repeat refine EvC.seq ?_); refine EvC.reg ?_; simp (config := { maxSteps := 2000000 }) (disch := first | omega | rfl) only [sB, Nat.reduceEqDiff, z1m, ld3, t1, qb, z0j k3]
  (repeat refine EvC.seq ?_); refine EvC.condT (by simp (config := { maxSteps := 2000000 }) (disch := first | omega | rfl) only [sB, Nat.reduceEqDiff]) ?_; (try refine EvC.skip ?_); (try simp only [z02, z03])
  have nG := hxG.next
  repeat' (first | refine EvC.seq ?_ | refine EvC.scope ?_ | refine EvC.block ?_ | (refine EvC.skip ?_) | (refine EvC.exit ?_) | (refine EvC.ret ?_; try simp only [z01, z00]) | (refine EvC.reg ?_; simp (config := { maxSteps := 2000000 }) (disch := first | omega | rfl) only [sB, Nat.reduceEqDiff, Nat.reduceAdd, one, st25, z3s, ld25, t1, t2, qb, gq]))
  refine z0a rfl (by simp only [sB, Nat.reduceEqDiff, t2] <;> rfl) (by simp only [sB, Nat.reduceAdd, cutC, ld25] <;> rfl) ⟨hxG.pt (by omega) gq _, _, rfl, ?_⟩
  rw [htold, tellB, if_neg k2, if_pos k3]
  refine hrG.to fun n hn hl => ?_
  have := hS n hn
  exact ⟨by rw [get_put, if_neg (by omega)], .inl hn, by rw [z07]; exact hl⟩
 (repeat refine EvC.seq ?_); refine EvC.reg ?_; simp (config := { maxSteps := 2000000 }) (disch := first | omega | rfl) only [sB, Nat.reduceEqDiff, z1m, ld3, t1, qb, z0l k3]
 (repeat refine EvC.seq ?_); refine EvC.condF (by simp (config := { maxSteps := 2000000 }) (disch := first | omega | rfl) only [sB, Nat.reduceEqDiff]) ?_; (try refine EvC.skip ?_); (try simp only [z02, z03])
 refine EvC.frame (fun tm => tm.get 1 = some (.pointer (some ⟨H.next, 0, none⟩)) ∧ tm.get 2 = some (.pointer (some ⟨H.next + 1, 0, none⟩)) ∧ tm.get 3 = some (.slice ao u.sub.length co)) ⟨(by simp only [sG, Nat.reduceEqDiff, t1] <;> rfl), (by simp only [sG, Nat.reduceEqDiff, t2] <;> rfl), (by simp only [sG, Nat.reduceEqDiff, t3] <;> rfl)⟩ ?_
 clear t1 t2 t3 tm
 rintro tm ⟨t1, t2, t3⟩
 by_cases k4 : u.kind = 4 ∧ L.length = 2
 ·have hl' : (u.sub.length : Int) = 2 := by omega
  (repeat refine EvC.seq ?_); refine EvC.reg ?_; simp (config := { maxSteps := 2000000 }) (disch := first | omega | rfl) only [sB, Nat.reduceEqDiff, z1m, ld3, ln23, t1, t3, qb, z0j k4.1, z0j hl']
  (repeat refine EvC.seq ?_); refine EvC.condT (by simp (config := { maxSteps := 2000000 }) (disch := first | omega | rfl) only [sB, Nat.reduceEqDiff]) ?_; (try refine EvC.skip ?_); (try simp only [z02, z03])
  (repeat refine EvC.seq ?_); refine EvC.reg ?_; simp (config := { maxSteps := 2000000 }) (disch := first | omega | rfl) only [sB, Nat.reduceEqDiff, cl44, t3]
  refine (z2h hww).mono ?_
  rintro v H5 ⟨rfl, hx5⟩
  have n5 := hx5.next
  have nG := hxG.next
  have gq5 := hx5.get hww gq
  repeat' (first | refine EvC.seq ?_ | refine EvC.scope ?_ | refine EvC.block ?_ | (refine EvC.skip ?_) | (refine EvC.exit ?_) | (refine EvC.ret ?_; try simp only [z01, z00]) | (refine z0i ?_; simp (config := { maxSteps := 2000000 }) (disch := first | omega | rfl) only [sB, Nat.reduceAdd, one, st25, t2, gq5]))
  refine z0a rfl (by simp only [sB, Nat.reduceEqDiff, t2] <;> rfl) (by simp only [sB, Nat.reduceAdd, cutC, ld25] <;> rfl) ⟨(hxG.trans hx5).pt (by omega) gq5 _, _, rfl, ?_⟩
  rw [htold, tellB, if_neg k2, if_neg k3, if_pos k4]
  have hcmp : RepS G (fun n => S n ∨ (H.next + 2 ≤ n ∧ n < G.next)) (cmpT sCma L) (six (cmpT sCma L) ao co) := hlt'.comp (by decide) (fun n hn => hn.1) (fun n hn => .inr (hao n hn)) hcm'
  have e6 : six (cmpT sCma L) ao co = [.int .i64 5, .string sCma, .string ByteArray.empty, .int .u64 0, .int .i64 0, .slice ao u.sub.length co] := by show [_, _, _, _, _, Value.slice ao L.length co] = _; rw [hll]; rfl
  rw [e6] at hcmp
  refine hcmp.to fun n hn hl => ?_
  have hne : n ≠ H.next + 1 := by
   rcases hn with h | h
   ·have := hS n h; omega
   ·omega
  exact ⟨by rw [get_put, if_neg hne]; exact hx5.keep n hl, hn.imp_right fun h => ⟨by omega, by rw [z07]; omega⟩, by rw [z07]; omega⟩
 refine EvC.cut (fun st => ∃ tm', st = ⟨tm', [], G⟩ ∧ tm'.get 1 = some (.pointer (some ⟨H.next, 0, none⟩)) ∧ tm'.get 2 = some (.pointer (some ⟨H.next + 1, 0, none⟩)) ∧ tm'.get 3 = some (.slice ao u.sub.length co) ∧ tm'.get 30 = some (.bool false)) ?_ ?_
 ·by_cases kk : u.kind = 4
  ·have hl' : (u.sub.length : Int) ≠ 2 := fun h => k4 ⟨kk, by omega⟩
   (repeat refine EvC.seq ?_); refine EvC.reg ?_; simp (config := { maxSteps := 2000000 }) (disch := first | omega | rfl) only [sB, Nat.reduceEqDiff, z1m, ld3, ln23, t1, t3, qb, z0j kk, z0l hl']
   exact ⟨_, rfl, (by simp only [sG, Nat.reduceEqDiff, t1] <;> rfl), (by simp only [sG, Nat.reduceEqDiff, t2] <;> rfl), (by simp only [sG, Nat.reduceEqDiff, t3] <;> rfl), by first | (simp only [sG, Nat.reduceEqDiff]; rfl) | simp only [sG, Nat.reduceEqDiff]⟩
  ·(repeat refine EvC.seq ?_); refine EvC.reg ?_; simp (config := { maxSteps := 2000000 }) (disch := first | omega | rfl) only [sB, Nat.reduceEqDiff, z1m, ld3, t1, qb, z0l kk, Bool.false_eq_true]
   exact ⟨_, rfl, (by simp only [sG, Nat.reduceEqDiff, t1] <;> rfl), (by simp only [sG, Nat.reduceEqDiff, t2] <;> rfl), (by simp only [sG, Nat.reduceEqDiff, t3] <;> rfl), by first | (simp only [sG, Nat.reduceEqDiff]; rfl) | simp only [sG, Nat.reduceEqDiff]⟩
 clear t1 t2 t3 tm
 rintro st ⟨tm, rfl, t1, t2, t3, tc⟩
 (repeat refine EvC.seq ?_); refine EvC.condF (by simp (config := { maxSteps := 2000000 }) (disch := first | omega | rfl) only [sA, tc]) ?_; (try refine EvC.skip ?_); (try simp only [z02, z03])
 clear tc
 by_cases k5 : u.kind = 5 ∧ L.length = 2
 ·have hl' : (u.sub.length : Int) = 2 := by omega
  (repeat refine EvC.seq ?_); refine EvC.reg ?_; simp (config := { maxSteps := 2000000 }) (disch := first | omega | rfl) only [sB, Nat.reduceEqDiff, z1m, ld3, ln23, t1, t3, qb, z0j k5.1, z0j hl']
  (repeat refine EvC.seq ?_); refine EvC.condT (by simp (config := { maxSteps := 2000000 }) (disch := first | omega | rfl) only [sB, Nat.reduceEqDiff]) ?_; (try refine EvC.skip ?_); (try simp only [z02, z03])
  (repeat refine EvC.seq ?_); refine EvC.reg ?_; simp (config := { maxSteps := 2000000 }) (disch := first | omega | rfl) only [sB, Nat.reduceEqDiff, cl44, t3]
  refine (z2h hww).mono ?_
  rintro v H5 ⟨rfl, hx5⟩
  have n5 := hx5.next
  have nG := hxG.next
  have gq5 := hx5.get hww gq
  repeat' (first | refine EvC.seq ?_ | refine EvC.scope ?_ | refine EvC.block ?_ | (refine EvC.skip ?_) | (refine EvC.exit ?_) | (refine EvC.ret ?_; try simp only [z01, z00]) | (refine z0i ?_; simp (config := { maxSteps := 2000000 }) (disch := first | omega | rfl) only [sB, Nat.reduceAdd, one, st25, t2, gq5]))
  refine z0a rfl (by simp only [sB, Nat.reduceEqDiff, t2] <;> rfl) (by simp only [sB, Nat.reduceAdd, cutC, ld25] <;> rfl) ⟨(hxG.trans hx5).pt (by omega) gq5 _, _, rfl, ?_⟩
  rw [htold, tellB, if_neg k2, if_neg k3, if_neg k4, if_pos k5]
  have hcmp : RepS G (fun n => S n ∨ (H.next + 2 ≤ n ∧ n < G.next)) (cmpT sSem L) (six (cmpT sSem L) ao co) := hlt'.comp (by decide) (fun n hn => hn.1) (fun n hn => .inr (hao n hn)) hcm'
  have e6 : six (cmpT sSem L) ao co = [.int .i64 5, .string sSem, .string ByteArray.empty, .int .u64 0, .int .i64 0, .slice ao u.sub.length co] := by show [_, _, _, _, _, Value.slice ao L.length co] = _; rw [hll]; rfl
  rw [e6] at hcmp
  refine hcmp.to fun n hn hl => ?_
  have hne : n ≠ H.next + 1 := by
   rcases hn with h | h
   ·have := hS n h; omega
   ·omega
  exact ⟨by rw [get_put, if_neg hne]; exact hx5.keep n hl, hn.imp_right fun h => ⟨by omega, by rw [z07]; omega⟩, by rw [z07]; omega⟩
 refine EvC.cut (fun st => ∃ tm', st = ⟨tm', [], G⟩ ∧ tm'.get 1 = some (.pointer (some ⟨H.next, 0, none⟩)) ∧ tm'.get 2 = some (.pointer (some ⟨H.next + 1, 0, none⟩)) ∧ tm'.get 3 = some (.slice ao u.sub.length co) ∧ tm'.get 41 = some (.bool false)) ?_ ?_
 ·by_cases kk : u.kind = 5
  ·have hl' : (u.sub.length : Int) ≠ 2 := fun h => k5 ⟨kk, by omega⟩
   (repeat refine EvC.seq ?_); refine EvC.reg ?_; simp (config := { maxSteps := 2000000 }) (disch := first | omega | rfl) only [sB, Nat.reduceEqDiff, z1m, ld3, ln23, t1, t3, qb, z0j kk, z0l hl']
   exact ⟨_, rfl, (by simp only [sG, Nat.reduceEqDiff, t1] <;> rfl), (by simp only [sG, Nat.reduceEqDiff, t2] <;> rfl), (by simp only [sG, Nat.reduceEqDiff, t3] <;> rfl), by first | (simp only [sG, Nat.reduceEqDiff]; rfl) | simp only [sG, Nat.reduceEqDiff]⟩
  ·(repeat refine EvC.seq ?_); refine EvC.reg ?_; simp (config := { maxSteps := 2000000 }) (disch := first | omega | rfl) only [sB, Nat.reduceEqDiff, z1m, ld3, t1, qb, z0l kk, Bool.false_eq_true]
   exact ⟨_, rfl, (by simp only [sG, Nat.reduceEqDiff, t1] <;> rfl), (by simp only [sG, Nat.reduceEqDiff, t2] <;> rfl), (by simp only [sG, Nat.reduceEqDiff, t3] <;> rfl), by first | (simp only [sG, Nat.reduceEqDiff]; rfl) | simp only [sG, Nat.reduceEqDiff]⟩
 clear t1 t2 t3 tm
 rintro st ⟨tm, rfl, t1, t2, t3, tc⟩
 (repeat refine EvC.seq ?_); refine EvC.condF (by simp (config := { maxSteps := 2000000 }) (disch := first | omega | rfl) only [sA, tc]) ?_; (try refine EvC.skip ?_); (try simp only [z02, z03])
 clear tc
 by_cases k6 : u.kind = 6 ∧ L.length = 2
 ·have hl' : (u.sub.length : Int) = 2 := by omega
  (repeat refine EvC.seq ?_); refine EvC.reg ?_; simp (config := { maxSteps := 2000000 }) (disch := first | omega | rfl) only [sB, Nat.reduceEqDiff, z1m, ld3, ln23, t1, t3, qb, z0j k6.1, z0j hl']
  (repeat refine EvC.seq ?_); refine EvC.condT (by simp (config := { maxSteps := 2000000 }) (disch := first | omega | rfl) only [sB, Nat.reduceEqDiff]) ?_; (try refine EvC.skip ?_); (try simp only [z02, z03])
  (repeat refine EvC.seq ?_); refine EvC.reg ?_; simp (config := { maxSteps := 2000000 }) (disch := first | omega | rfl) only [sB, Nat.reduceEqDiff, cl44, t3]
  refine (z2h hww).mono ?_
  rintro v H5 ⟨rfl, hx5⟩
  have n5 := hx5.next
  have nG := hxG.next
  have gq5 := hx5.get hww gq
  repeat' (first | refine EvC.seq ?_ | refine EvC.scope ?_ | refine EvC.block ?_ | (refine EvC.skip ?_) | (refine EvC.exit ?_) | (refine EvC.ret ?_; try simp only [z01, z00]) | (refine z0i ?_; simp (config := { maxSteps := 2000000 }) (disch := first | omega | rfl) only [sB, Nat.reduceAdd, one, st25, t2, gq5]))
  refine z0a rfl (by simp only [sB, Nat.reduceEqDiff, t2] <;> rfl) (by simp only [sB, Nat.reduceAdd, cutC, ld25] <;> rfl) ⟨(hxG.trans hx5).pt (by omega) gq5 _, _, rfl, ?_⟩
  rw [htold, tellB, if_neg k2, if_neg k3, if_neg k4, if_neg k5, if_pos k6]
  have hcmp : RepS G (fun n => S n ∨ (H.next + 2 ≤ n ∧ n < G.next)) (cmpT sArr L) (six (cmpT sArr L) ao co) := hlt'.comp (by decide) (fun n hn => hn.1) (fun n hn => .inr (hao n hn)) hcm'
  have e6 : six (cmpT sArr L) ao co = [.int .i64 5, .string sArr, .string ByteArray.empty, .int .u64 0, .int .i64 0, .slice ao u.sub.length co] := by show [_, _, _, _, _, Value.slice ao L.length co] = _; rw [hll]; rfl
  rw [e6] at hcmp
  refine hcmp.to fun n hn hl => ?_
  have hne : n ≠ H.next + 1 := by
   rcases hn with h | h
   ·have := hS n h; omega
   ·omega
  exact ⟨by rw [get_put, if_neg hne]; exact hx5.keep n hl, hn.imp_right fun h => ⟨by omega, by rw [z07]; omega⟩, by rw [z07]; omega⟩
 refine EvC.cut (fun st => ∃ tm', st = ⟨tm', [], G⟩ ∧ tm'.get 1 = some (.pointer (some ⟨H.next, 0, none⟩)) ∧ tm'.get 2 = some (.pointer (some ⟨H.next + 1, 0, none⟩)) ∧ tm'.get 3 = some (.slice ao u.sub.length co) ∧ tm'.get 52 = some (.bool false)) ?_ ?_
 ·by_cases kk : u.kind = 6
  ·have hl' : (u.sub.length : Int) ≠ 2 := fun h => k6 ⟨kk, by omega⟩
   (repeat refine EvC.seq ?_); refine EvC.reg ?_; simp (config := { maxSteps := 2000000 }) (disch := first | omega | rfl) only [sB, Nat.reduceEqDiff, z1m, ld3, ln23, t1, t3, qb, z0j kk, z0l hl']
   exact ⟨_, rfl, (by simp only [sG, Nat.reduceEqDiff, t1] <;> rfl), (by simp only [sG, Nat.reduceEqDiff, t2] <;> rfl), (by simp only [sG, Nat.reduceEqDiff, t3] <;> rfl), by first | (simp only [sG, Nat.reduceEqDiff]; rfl) | simp only [sG, Nat.reduceEqDiff]⟩
  ·(repeat refine EvC.seq ?_); refine EvC.reg ?_; simp (config := { maxSteps := 2000000 }) (disch := first | omega | rfl) only [sB, Nat.reduceEqDiff, z1m, ld3, t1, qb, z0l kk, Bool.false_eq_true]
   exact ⟨_, rfl, (by simp only [sG, Nat.reduceEqDiff, t1] <;> rfl), (by simp only [sG, Nat.reduceEqDiff, t2] <;> rfl), (by simp only [sG, Nat.reduceEqDiff, t3] <;> rfl), by first | (simp only [sG, Nat.reduceEqDiff]; rfl) | simp only [sG, Nat.reduceEqDiff]⟩
 clear t1 t2 t3 tm
 rintro st ⟨tm, rfl, t1, t2, t3, tc⟩
 (repeat refine EvC.seq ?_); refine EvC.condF (by simp (config := { maxSteps := 2000000 }) (disch := first | omega | rfl) only [sA, tc]) ?_; (try refine EvC.skip ?_); (try simp only [z02, z03])
 clear tc
 by_cases k6t : u.kind = 6 ∧ L.length = 3
 ·have hl' : (u.sub.length : Int) = 3 := by omega
  obtain ⟨x, y, z, hxy⟩ : ∃ x y z, L = [x, y, z] := by
   match L, k6t.2 with
   | [x, y, z], _ => exact ⟨x, y, z, rfl⟩
  subst hxy
  obtain ⟨b, a1, c1, rfl, l0, r1, hbl⟩ := hlt'.el (i := 0) (by show 0 < 3; decide)
  obtain ⟨b', a2, c2, e2, l1, r2, -⟩ := hlt'.el (i := 1) (by show 1 < 3; decide)
  cases e2
  obtain ⟨b'', a3, c3, e3, l2, r3, -⟩ := hlt'.el (i := 2) (by show 2 < 3; decide)
  cases e3
  simp only [List.getElem_cons_zero, List.getElem_cons_succ, Nat.zero_mul, Nat.one_mul] at l0 l1 l2 r1 r2 r3
  have nG := hxG.next
  obtain ⟨L4, eL4⟩ : ∃ L4, six x a1 c1 ++ six y a2 c2 = L4 := ⟨_, rfl⟩
  have eL4' := eL4
  simp only [six, List.cons_append, List.nil_append] at eL4'
  obtain ⟨H4, e4⟩ : ∃ H4, (⟨G.next + 14, G.t⟩ : Heap).put (G.next + 6) (some (.row L4 25)) = H4 := ⟨_, rfl⟩
  have hx4 : HX G H4 := by rw [← e4]; exact (((HX.refl hww).bump 14).put (by omega) (by show _ < G.next + 14; omega) _)
  have n4 : H4.next = G.next + 14 := by rw [← e4]; rfl
  have g4 : H4.get (G.next + 6) = some (.row L4 25) := by rw [← e4, get_put, if_pos rfl]
  have nb6 : (b = G.next + 6) = False := by simp; omega
  (repeat refine EvC.seq ?_); refine EvC.reg ?_; simp (config := { maxSteps := 2000000 }) (disch := first | omega | rfl) only [sB, Nat.reduceEqDiff, z1m, ld3, ln23, t1, t3, qb, z0j k6t.1, z0j hl']
  (repeat refine EvC.seq ?_); refine EvC.condT (by simp (config := { maxSteps := 2000000 }) (disch := first | omega | rfl) only [sB, Nat.reduceEqDiff]) ?_; (try refine EvC.skip ?_); (try simp only [z02, z03])
  (repeat refine EvC.seq ?_); refine EvC.drw [([(0, 0), (1, 0), (2, 0), (3, 0), (4, 0), (5, 0), (6, 0)], some 7), ([(8, 0), (9, 0), (10, 0), (11, 1)], some 12), ([], some 13), ([], none)] (by kernel_rfl) ?_; simp (config := { maxSteps := 2000000 }) (disch := first | omega | rfl) only [sD, sB, Nat.reduceEqDiff, Nat.reduceAdd, Value.cells, one, reduceCtorEq, Nat.reduceLeDiff, layC, Int.reduceToNat, ld25, cl44, zb0, isAlloc, isRead, dalloc, reduceCtorEq, t3, l0, l1, iz23, Nat.zero_mul, Nat.one_mul, eL4', e4]
  refine (z2h hx4.wf).mono ?_
  rintro v H5 ⟨rfl, hx5⟩
  have n5 := hx5.next
  have l2' := hx5.load hx4.wf (hx4.load hww l2)
  obtain ⟨L6, eL6⟩ : ∃ L6, six (cmpT sArr [x, y]) (some ⟨G.next + 6, 0, none⟩) 2 ++ six z a3 c3 = L6 := ⟨_, rfl⟩
  have eL6' : [.int .i64 5, .string sArr, .string ByteArray.empty, .int .u64 0, .int .i64 0, .slice (some ⟨G.next + 6, 0, none⟩) 2 2, .int .i64 z.kind, .string z.name, .string z.num, .int .u64 z.bits, .int .i64 z.var, .slice a3 z.args.length c3] = L6 := eL6
  obtain ⟨H6, e6⟩ : ∃ H6, H5.put (G.next + 11) (some (.row L6 25)) = H6 := ⟨_, rfl⟩
  have hx6 : HX G H6 := by rw [← e6]; exact (hx4.trans hx5).put (by omega) (by omega) _
  have n6 : H6.next = H5.next := by rw [← e6]; rfl
  have g6 : H6.get (G.next + 11) = some (.row L6 25) := by rw [← e6, get_put, if_pos rfl]
  have g46 : H6.get (G.next + 6) = some (.row L4 25) := by rw [← e6, get_put, if_neg (by omega)]; exact hx5.get hx4.wf g4
  have l24 := hx4.load hww l2
  repeat' (first | refine EvC.seq ?_ | refine EvC.scope ?_ | refine EvC.block ?_ | (refine EvC.skip ?_) | (refine EvC.exit ?_) | (refine EvC.ret ?_; try simp only [z01, z00]) | (refine z1b ?_; simp (config := { maxSteps := 2000000 }) (disch := first | omega | rfl) only [sV, sD, sB, Nat.reduceEqDiff, Nat.reduceAdd, Value.cells, one, reduceCtorEq, Nat.reduceLeDiff, layC, Int.reduceToNat, ld25, cl44, zb0, t3, l2, l2', iz23, Nat.reduceMul, eL6', e6, isAlloc, isRead, dalloc, reduceCtorEq]))
  refine (z2h hx6.wf).mono ?_
  rintro v H7 ⟨rfl, hx7⟩
  have n7 := hx7.next
  have hx67 := hx6.trans hx7
  have gq7 := hx67.get hww gq
  repeat' (first | refine EvC.seq ?_ | refine EvC.scope ?_ | refine EvC.block ?_ | (refine EvC.skip ?_) | (refine EvC.exit ?_) | (refine EvC.ret ?_; try simp only [z01, z00]) | (refine z1b ?_; simp (config := { maxSteps := 2000000 }) (disch := first | omega | rfl) only [sD, sB, Nat.reduceEqDiff, Nat.reduceAdd, one, st25, t2, gq7]))
  refine z0a rfl (by simp only [sB, Nat.reduceEqDiff, t2] <;> rfl) (by simp only [sB, Nat.reduceAdd, cutC, ld25] <;> rfl) ⟨(hxG.trans hx67).pt (by omega) gq7 _, _, rfl, ?_⟩
  have k4' : ¬ (u.kind = 4 ∧ [x, y, z].length = 2) := k4
  rw [htold, tellB, if_neg k2, if_neg k3, if_neg k4, if_neg k5, if_neg k6, if_pos k6t]
  have rr : ∀ {w : Tm} {cs : List Value}, RepS G (fun n => (S n ∨ (H.next + 2 ≤ n ∧ n < G.next)) ∧ (some ⟨b, 0, none⟩ : Option Addr) ≠ some ⟨n, 0, none⟩) w cs → RepS H7 (fun n => (S n ∨ (H.next + 2 ≤ n ∧ n < H7.next))) w cs := fun h => h.to fun n hn hl => ⟨hx67.keep n hl, hn.1.imp_right fun h => ⟨h.1, by omega⟩, by omega⟩
  subst eL4 eL6
  have ho : RepS H7 (fun n => (S n ∨ (H.next + 2 ≤ n ∧ n < H7.next))) (cmpT sSem [cmpT sArr [x, y], z]) (six (cmpT sSem [cmpT sArr [x, y], z]) (some ⟨G.next + 11, 0, none⟩) 2) :=
   z3m (by decide) (hx7.get hx6.wf g6) (.inr ⟨by omega, by omega⟩) hx7.wf (z3m (by decide) (hx7.get hx6.wf g46) (.inr ⟨by omega, by omega⟩) hx7.wf (rr r1) (rr r2)) (rr r3)
  refine ho.to fun n hn hl => ?_
  have hne : n ≠ H.next + 1 := by
   rcases hn with h | h
   ·have := hS n h; omega
   ·omega
  exact ⟨by rw [get_put, if_neg hne], hn.imp_right fun h => ⟨by omega, by rw [z07]; omega⟩, by rw [z07]; omega⟩
 refine EvC.cut (fun st => ∃ tm', st = ⟨tm', [], G⟩ ∧ tm'.get 1 = some (.pointer (some ⟨H.next, 0, none⟩)) ∧ tm'.get 2 = some (.pointer (some ⟨H.next + 1, 0, none⟩)) ∧ tm'.get 3 = some (.slice ao u.sub.length co) ∧ tm'.get 63 = some (.bool false)) ?_ ?_
 ·by_cases kk : u.kind = 6
  ·have hl' : (u.sub.length : Int) ≠ 3 := fun h => k6t ⟨kk, by omega⟩
   (repeat refine EvC.seq ?_); refine EvC.reg ?_; simp (config := { maxSteps := 2000000 }) (disch := first | omega | rfl) only [sB, Nat.reduceEqDiff, z1m, ld3, ln23, t1, t3, qb, z0j kk, z0l hl']
   exact ⟨_, rfl, (by simp only [sG, Nat.reduceEqDiff, t1] <;> rfl), (by simp only [sG, Nat.reduceEqDiff, t2] <;> rfl), (by simp only [sG, Nat.reduceEqDiff, t3] <;> rfl), by first | (simp only [sG, Nat.reduceEqDiff]; rfl) | simp only [sG, Nat.reduceEqDiff]⟩
  ·(repeat refine EvC.seq ?_); refine EvC.reg ?_; simp (config := { maxSteps := 2000000 }) (disch := first | omega | rfl) only [sB, Nat.reduceEqDiff, z1m, ld3, t1, qb, z0l kk, Bool.false_eq_true]
   exact ⟨_, rfl, (by simp only [sG, Nat.reduceEqDiff, t1] <;> rfl), (by simp only [sG, Nat.reduceEqDiff, t2] <;> rfl), (by simp only [sG, Nat.reduceEqDiff, t3] <;> rfl), by first | (simp only [sG, Nat.reduceEqDiff]; rfl) | simp only [sG, Nat.reduceEqDiff]⟩
 clear t1 t2 t3 tm
 rintro st ⟨tm, rfl, t1, t2, t3, tc⟩
 (repeat refine EvC.seq ?_); refine EvC.condF (by simp (config := { maxSteps := 2000000 }) (disch := first | omega | rfl) only [sA, tc]) ?_; (try refine EvC.skip ?_); (try simp only [z02, z03])
 clear tc
 by_cases k7 : u.kind = 7 ∧ L.length = 1
 ·have hl' : (u.sub.length : Int) = 1 := by omega
  obtain ⟨x, hxy⟩ : ∃ x, L = [x] := by
   match L, k7.2 with
   | [x], _ => exact ⟨x, rfl⟩
  subst hxy
  obtain ⟨b, a1, c1, rfl, l0, r1, hbl⟩ := hlt'.el (i := 0) (by show 0 < 1; decide)
  simp only [List.getElem_cons_zero, Nat.zero_mul] at l0 r1
  have nG := hxG.next
  obtain ⟨L4, eL4⟩ : ∃ L4, six u.term ta tc ++ six x a1 c1 = L4 := ⟨_, rfl⟩
  have eL4' := eL4
  simp only [six, List.cons_append, List.nil_append] at eL4'
  obtain ⟨H4, e4⟩ : ∃ H4, (⟨G.next + 8, G.t⟩ : Heap).put (G.next + 5) (some (.row L4 25)) = H4 := ⟨_, rfl⟩
  have hx4 : HX G H4 := by rw [← e4]; exact (((HX.refl hww).bump 8).put (by omega) (by show _ < G.next + 8; omega) _)
  have n4 : H4.next = G.next + 8 := by rw [← e4]; rfl
  have g4 : H4.get (G.next + 5) = some (.row L4 25) := by rw [← e4, get_put, if_pos rfl]
  (repeat refine EvC.seq ?_); refine EvC.reg ?_; simp (config := { maxSteps := 2000000 }) (disch := first | omega | rfl) only [sB, Nat.reduceEqDiff, z1m, ld3, ln23, t1, t3, qb, z0j k7.1, z0j hl']
  (repeat refine EvC.seq ?_); refine EvC.condT (by simp (config := { maxSteps := 2000000 }) (disch := first | omega | rfl) only [sB, Nat.reduceEqDiff]) ?_; (try refine EvC.skip ?_); (try simp only [z02, z03])
  (repeat refine EvC.seq ?_); refine EvC.drw [([(0, 0), (1, 0), (2, 0), (3, 0), (4, 0), (5, 0)], some 6), ([], some 7), ([], none)] (by kernel_rfl) ?_; simp (config := { maxSteps := 2000000 }) (disch := first | omega | rfl) only [sD, sB, Nat.reduceEqDiff, Nat.reduceAdd, Value.cells, one, reduceCtorEq, Nat.reduceLeDiff, layC, Int.reduceToNat, z3s, ld25, cl44, zb0, isAlloc, isRead, dalloc, reduceCtorEq, t1, t3, qb, l0, iz23, Nat.zero_mul, eL4', e4]
  refine (z2h hx4.wf).mono ?_
  rintro v H5 ⟨rfl, hx5⟩
  have n5 := hx5.next
  have hx45 := hx4.trans hx5
  have gq5 := hx45.get hww gq
  repeat' (first | refine EvC.seq ?_ | refine EvC.scope ?_ | refine EvC.block ?_ | (refine EvC.skip ?_) | (refine EvC.exit ?_) | (refine EvC.ret ?_; try simp only [z01, z00]) | (refine z1b ?_; simp (config := { maxSteps := 2000000 }) (disch := first | omega | rfl) only [sD, sB, Nat.reduceEqDiff, Nat.reduceAdd, one, st25, t2, gq5]))
  refine z0a rfl (by simp only [sB, Nat.reduceEqDiff, t2] <;> rfl) (by simp only [sB, Nat.reduceAdd, cutC, ld25] <;> rfl) ⟨(hxG.trans hx45).pt (by omega) gq5 _, _, rfl, ?_⟩
  rw [htold, tellB, if_neg k2, if_neg k3, if_neg k4, if_neg k5, if_neg k6, if_neg k6t, if_pos k7]
  subst eL4
  have ho : RepS H5 (fun n => (S n ∨ (H.next + 2 ≤ n ∧ n < H5.next))) (cmpT sCol [u.term, x]) (six (cmpT sCol [u.term, x]) (some ⟨G.next + 5, 0, none⟩) 2) :=
   z3m (by decide) (hx5.get hx4.wf g4) (.inr ⟨by omega, by omega⟩) hx5.wf (hrG.to fun n hn hl => ⟨hx45.keep n hl, .inl hn, by omega⟩) (r1.to fun n hn hl => ⟨hx45.keep n hl, hn.1.imp_right fun h => ⟨h.1, by omega⟩, by omega⟩)
  refine ho.to fun n hn hl => ?_
  have hne : n ≠ H.next + 1 := by
   rcases hn with h | h
   ·have := hS n h; omega
   ·omega
  exact ⟨by rw [get_put, if_neg hne], hn.imp_right fun h => ⟨by omega, by rw [z07]; omega⟩, by rw [z07]; omega⟩
 refine EvC.join (fun st => ∃ tm', st = ⟨tm', [], G⟩ ∧ tm'.get 2 = some (.pointer (some ⟨H.next + 1, 0, none⟩))) ?_ ?_
 ·by_cases kk : u.kind = 7
  ·have hl' : (u.sub.length : Int) ≠ 1 := fun h => k7 ⟨kk, by omega⟩
   repeat' (first | refine EvC.seq ?_ | refine EvC.scope ?_ | refine EvC.block ?_ | (refine EvC.skip ?_; try simp only [z02]) | (refine EvC.exit ?_) | (refine EvC.ret ?_; try simp only [z01, z00]) | (refine EvC.reg ?_; simp (config := { maxSteps := 2000000 }) (disch := first | omega | rfl) only [sB, Nat.reduceEqDiff, z1m, ld3, ln23, t1, t3, qb, z0j kk, z0l hl']) | (refine EvC.condT ?_ ?_; simp (config := { maxSteps := 2000000 }) (disch := first | omega | rfl) only [sB, Nat.reduceEqDiff]; refine z06 ?_) | (refine EvC.condF ?_ ?_; simp (config := { maxSteps := 2000000 }) (disch := first | omega | rfl) only [sB, Nat.reduceEqDiff]; refine z06 ?_))
   exact ⟨_, rfl, (by simp only [sG, Nat.reduceEqDiff, t2] <;> rfl)⟩
  ·repeat' (first | refine EvC.seq ?_ | refine EvC.scope ?_ | refine EvC.block ?_ | (refine EvC.skip ?_; try simp only [z02]) | (refine EvC.exit ?_) | (refine EvC.ret ?_; try simp only [z01, z00]) | (refine EvC.reg ?_; simp (config := { maxSteps := 2000000 }) (disch := first | omega | rfl) only [sB, Nat.reduceEqDiff, z1m, ld3, t1, qb, z0l kk, Bool.false_eq_true]) | (refine EvC.condT ?_ ?_; simp (config := { maxSteps := 2000000 }) (disch := first | omega | rfl) only [sB, Nat.reduceEqDiff]; refine z06 ?_) | (refine EvC.condF ?_ ?_; simp (config := { maxSteps := 2000000 }) (disch := first | omega | rfl) only [sB, Nat.reduceEqDiff]; refine z06 ?_))
   exact ⟨_, rfl, (by simp only [sG, Nat.reduceEqDiff, t2] <;> rfl)⟩
 rintro st ⟨tm, rfl, t2⟩
 (repeat refine EvC.seq ?_); refine EvC.reg ?_; simp (config := { maxSteps := 2000000 }) (disch := first | omega | rfl) only [sB, Nat.reduceEqDiff, cl39]
 refine (z6h hww).mono ?_
 rintro v H5 ⟨rfl, hx5⟩
 have n5 := hx5.next
 have nG := hxG.next
 have gq5 := hx5.get hww gq
 repeat' (first | refine EvC.seq ?_ | refine EvC.scope ?_ | refine EvC.block ?_ | (refine EvC.skip ?_) | (refine EvC.exit ?_) | (refine EvC.ret ?_; try simp only [z01, z00]) | (refine z0i ?_; simp (config := { maxSteps := 2000000 }) (disch := first | omega | rfl) only [sB, Nat.reduceAdd, one, st25, t2, gq5]))
 refine z0a rfl (by simp only [sB, Nat.reduceEqDiff, t2] <;> rfl) (by simp only [sB, Nat.reduceAdd, cutC, ld25] <;> rfl) ⟨(hxG.trans hx5).pt (by omega) gq5 _, _, rfl, ?_⟩
 rw [htold, z2n k2 k3 k4 k5 k6 k6t k7]
 exact z2x (by decide)
set_option maxHeartbeats 2000000 in
theorem zk3 {s : ByteArray} {H : Heap} (hs : s.size ≤ maxLen) (hw : H.wf) :
  EvF Tryd.prog okT 30 [.string s] H fun v H' => HX H H' ∧ RepES H' (Rg H.next H'.next) (.ball (resT s)) v := by
 refine EvF.enter rfl Tryd.func30 (by decide) rfl ?_
 (repeat refine EvC.seq ?_); refine EvC.reg ?_; simp (config := { maxSteps := 2000000 }) (disch := first | omega | rfl) only [sA, initTm]
 (repeat refine EvC.seq ?_); refine EvC.reg ?_; simp (config := { maxSteps := 2000000 }) (disch := first | omega | rfl) only [sB, Nat.reduceEqDiff, Nat.reduceAdd, Value.cells, reduceCtorEq, layC, cl39, z59]
 refine (z6h hw).mono ?_
 rintro v H3 ⟨rfl, hx3⟩
 have n3 := hx3.next
 repeat' (first | refine EvC.seq ?_ | refine EvC.scope ?_ | refine EvC.block ?_ | (refine EvC.skip ?_) | (refine EvC.exit ?_) | (refine EvC.ret ?_; try simp only [z01, z00]) | (refine z0i ?_; simp (config := { maxSteps := 2000000 }) (disch := first | omega | rfl) only [sB, Nat.reduceEqDiff, Nat.reduceAdd, one, reduceCtorEq, cl44, cl41]))
 obtain ⟨H4, e4, hx4, g4, hn4, hw4⟩ := new1 hx3.wf (.row (six (atmT s) none 0) 25)
 simp only [e4]
 refine (z2h hw4).mono ?_
 rintro v H5 ⟨rfl, hx5⟩
 have n5 := hx5.next
 have g5 := hx5.get hw4 g4
 have hr : RepS H5 (fun n => n = H3.next) (resT s) (six (resT s) (some ⟨H3.next, 0, none⟩) 1) := RepS.row (t := resT s) (z4e (by decide)) rfl g5 rfl (hx5.wf _ _ g5) (Nat.le_refl _) (Nat.le_refl _) (by decide) fun j hj => by
  match j, hj with
  | 0, _ => exact z2x hs
 repeat' (first | refine EvC.seq ?_ | refine EvC.scope ?_ | refine EvC.block ?_ | (refine EvC.skip ?_) | (refine EvC.exit ?_) | (refine EvC.ret ?_; try simp only [z01, z00]))
 refine (zep hr hx5.wf (fun n hn => by omega)).mono ?_
 rintro v H6 ⟨hx6, he⟩
 have n6 := hx6.next
 repeat' (first | refine EvC.seq ?_ | refine EvC.scope ?_ | refine EvC.block ?_ | (refine EvC.skip ?_) | (refine EvC.exit ?_) | (refine EvC.ret ?_; try simp only [z01, z00]))
 refine z05 rfl (by simp only [sG, Nat.reduceEqDiff, reduceCtorEq] <;> rfl) ⟨((hx3.trans hx4).trans hx5).trans hx6, he.to fun n hn hl => ⟨rfl, ?_, hl⟩⟩
 rcases hn with rfl | hn
 ·exact ⟨by omega, by omega⟩
 ·exact ⟨by omega, by omega⟩
set_option maxHeartbeats 4000000 in
theorem zih {s : ByteArray} {t : Tm} {cs : List Value} {H : Heap} (hs : s.size ≤ maxLen) (r0 : RepT H t cs) (hc : checkS t = 0) (hw : H.wf) :
  EvF Tryd.prog okT 26 [.string s, .agg ⟨cs⟩] H fun v H' => HX H H' ∧ RepES H' (Rg H.next H'.next) (.ball (typeT s t)) v := by
 obtain ⟨a, c, cells, rfl, -⟩ := r0.six
 refine EvF.enter rfl Tryd.func26 (by decide) rfl ?_
 (repeat refine EvC.seq ?_); refine EvC.reg ?_; simp (config := { maxSteps := 2000000 }) (disch := first | omega | rfl) only [sB, initTm, dBox, Value.cells, one, reduceCtorEq]
 obtain ⟨H2, e2, hx2, gt, hn2, hw2⟩ := new1 hw (.row (six t a c) 25)
 simp only [e2]
 clear e2
 have qt := row6 gt
 (repeat refine EvC.seq ?_); refine EvC.drw [([(0, 0)], some 1), ([(2, 0)], some 3), ([(4, 2)], some 5), ([], some 6), ([(7, 4)], none)] (by kernel_rfl) ?_; simp (config := { maxSteps := 2000000 }) (disch := first | omega | rfl) only [sD, sB, Nat.reduceEqDiff, Nat.reduceAdd, reduceCtorEq, cl39, isAlloc, isRead, reduceCtorEq]
 have hxb : HX H2 ⟨H2.next + 8, H2.t⟩ := (HX.refl hw2).bump 8
 refine (z6h hxb.wf).mono ?_
 rintro v H3 ⟨rfl, hx3⟩
 have n3 : H2.next + 8 ≤ H3.next := hx3.next
 have qt3 := row6 (hx3.get hxb.wf (show (⟨H2.next + 8, H2.t⟩ : Heap).get H.next = _ from gt))
 have hx23 := hxb.trans hx3
 have hxh3 := hx2.trans hx23
 repeat' (first | refine EvC.seq ?_ | refine EvC.scope ?_ | refine EvC.block ?_ | (refine EvC.skip ?_) | (refine EvC.exit ?_) | (refine EvC.ret ?_; try simp only [z01, z00]) | (refine z1b ?_; simp (config := { maxSteps := 2000000 }) (disch := first | omega | rfl) only [sV, sD, sB, Nat.reduceEqDiff, reduceCtorEq, ld25, cl37, qt, qt3, isAlloc, isRead, reduceCtorEq]))
 refine (zcy (r0.mono hxh3 hw) hc hx3.wf).mono ?_
 rintro v H4 ⟨hx4, out, rfl, hot⟩
 obtain ⟨a4, c4, cells4, rfl, -⟩ := hot.rep.six
 have n4 := hx4.next
 obtain ⟨L, eL⟩ : ∃ L, six (atmT s) none 0 ++ six t a4 c4 = L := ⟨_, rfl⟩
 have eL' := eL
 simp only [six, List.cons_append, List.nil_append] at eL'
 obtain ⟨H5, e5⟩ : ∃ H5, H4.put (H2.next + 4) (some (.row L 25)) = H5 := ⟨_, rfl⟩
 have hx5 : HX H H5 := by rw [← e5]; exact (hxh3.trans hx4).put (by omega) (by omega) _
 have n5 : H5.next = H4.next := by rw [← e5]; rfl
 have g5 : H5.get (H2.next + 4) = some (.row L 25) := by rw [← e5, get_put, if_pos rfl]
 repeat' (first | refine EvC.seq ?_ | refine EvC.scope ?_ | refine EvC.block ?_ | (refine EvC.skip ?_) | (refine EvC.exit ?_) | (refine EvC.ret ?_; try simp only [z01, z00]) | (refine z1b ?_; simp (config := { maxSteps := 2000000 }) (disch := first | omega | rfl) only [sD, sB, Nat.reduceEqDiff, Nat.reduceAdd, Value.cells, one, reduceCtorEq, Nat.reduceLeDiff, layC, zb0, cl44, eL', e5, isAlloc, dalloc, reduceCtorEq]))
 refine (z2h hx5.wf).mono ?_
 rintro v H6 ⟨rfl, hx6⟩
 have n6 := hx6.next
 have g6 := hx6.get hx5.wf g5
 subst eL
 have hr : RepS H6 (fun n => n = H2.next + 4 ∨ (H3.next ≤ n ∧ n < H4.next)) (typeT s t) (six (typeT s t) (some ⟨H2.next + 4, 0, none⟩) 2) := z3m (by decide) g6 (.inl rfl) hx6.wf (z2x hs) (hot.1.to fun n hn hl => by
  have h1 : H3.next ≤ n := hn.1
  have h2 : n < H4.next := hn.2
  exact ⟨by rw [hx6.keep n (by omega), ← e5, get_put, if_neg (by omega)], .inr ⟨h1, h2⟩, by omega⟩)
 repeat' (first | refine EvC.seq ?_ | refine EvC.scope ?_ | refine EvC.block ?_ | (refine EvC.skip ?_) | (refine EvC.exit ?_) | (refine EvC.ret ?_; try simp only [z01, z00]) | (refine z1b ?_; simp (config := { maxSteps := 2000000 }) (disch := first | omega | rfl) only [sD, sB, Nat.reduceEqDiff, reduceCtorEq, cl41, reduceCtorEq]))
 refine (zep hr hx6.wf (fun n hn => by rcases hn with hn | hn <;> omega)).mono ?_
 rintro v H7 ⟨hx7, he⟩
 have n7 := hx7.next
 repeat' (first | refine EvC.seq ?_ | refine EvC.scope ?_ | refine EvC.block ?_ | (refine EvC.skip ?_) | (refine EvC.exit ?_) | (refine EvC.ret ?_; try simp only [z01, z00]) | (refine z1b ?_; simp (config := { maxSteps := 2000000 }) (disch := first | omega | rfl) only [sD, sB, Nat.reduceEqDiff, Nat.reduceAdd, reduceCtorEq, isAlloc, isRead, reduceCtorEq]))
 refine z05 rfl (by simp only [sG, Nat.reduceEqDiff, reduceCtorEq] <;> rfl) ⟨(hx5.trans hx6).trans hx7, he.to fun n hn hl => ⟨rfl, ?_, hl⟩⟩
 rcases hn with (rfl | hn) | hn
 ·exact ⟨by omega, by omega⟩
 ·exact ⟨by omega, by omega⟩
 ·exact ⟨by omega, by omega⟩
theorem zii {P : Program} {tm : Tr Value} {H : Heap} {K : Tr Value → Heap → Prop} (h : K tm H) : EPl P [] tm H K := h
theorem zox {x y : Operand} {H : Heap} : dBin Tryd.prog .neq 20 x y .nilIface .nilIface H = some (.val (.bool false) H) := by
 cases x <;> cases y <;> kernel_rfl
theorem zlh : taZ Tryd.prog 62 = some (.agg ⟨[]⟩) := by kernel_rfl
theorem z2y {n : Nat} : decide (((n : Nat) : Int) > 4000) = decide (4000 < n) := by
 by_cases h : 4000 < n
 ·rw [decide_eq_true h, decide_eq_true (by omega)]
 ·rw [decide_eq_false h, decide_eq_false (by omega)]
set_option maxHeartbeats 8000000 in
theorem zbw {fn : Func} {tm : Tr Value} {K : Value → Heap → Prop} {p1 p2 p3 : Nat} {H : Heap} (hK : ∀ H', HX H H' → EvM Tryd.prog okT fn tm [] none H' K) (hw : H.wf) :
  EvM Tryd.prog okT fn tm [⟨.fn (.func 25) #[.pointer (some ⟨p1, 0, none⟩), .pointer (some ⟨p2, 0, none⟩), .pointer (some ⟨p3, 0, none⟩)], #[]⟩] none H K := by
 refine EvM.recov Tryd.func25 (by decide) (by kernel_rfl) rfl rfl rfl rfl rfl ?_
 refine ⟨rfl, _, _, z41, zii ?_⟩
 refine EvSq.cons ?_
 (repeat refine EvC.seq ?_); refine EvC.reg ?_; simp (config := { maxSteps := 2000000 }) (disch := first | omega | rfl) only [sB, initTm, dAlloc, Nat.reduceEqDiff, Nat.reduceAdd, reduceCtorEq, zr62, st62, drecov, z29, zmx zlh]
 (repeat refine EvC.seq ?_); refine EvC.reg ?_; simp (config := { maxSteps := 2000000 }) (disch := first | omega | rfl) only [sB, Nat.reduceEqDiff, reduceCtorEq]
 (repeat refine EvC.seq ?_); refine EvC.condF (by simp (config := { maxSteps := 2000000 }) (disch := first | omega | rfl) only [sB, Nat.reduceEqDiff, reduceCtorEq]) ?_; (try refine EvC.skip ?_); (try simp only [z02, z03])
 (repeat refine EvC.seq ?_); refine EvC.reg ?_; simp (config := { maxSteps := 2000000 }) (disch := first | omega | rfl) only [sB, Nat.reduceEqDiff, reduceCtorEq, zox]
 (repeat refine EvC.seq ?_); refine EvC.condF (by simp (config := { maxSteps := 2000000 }) (disch := first | omega | rfl) only [sB, Nat.reduceEqDiff, reduceCtorEq]) ?_; (try refine EvC.skip ?_); (try simp only [z02, z03])
 refine EvSq.nil ⟨.inl rfl, rfl, ?_⟩
 exact hK _ (((HX.refl hw).new _).put (Nat.le_refl _) (Nat.lt_succ_self _) _)
theorem zk4 : (drecov (some stopCh)).1 = .iface 62 (.agg #[]) := rfl
theorem zk5 : dsettle (drecov (some stopCh)).2 = none := rfl
set_option maxHeartbeats 8000000 in
theorem zij {fn : Func} {tm : Tr Value} {K : Value → Heap → Prop} {p1 p2 p3 : Nat} {t : Tm} {a : Option Addr} {c : Nat} {cs8 : List Value} {v3 : Value} {H : Heap} (hl8 : cs8.length = 8) (r : RepT H t (six t a c)) (hc : checkS t = 0) (g1 : H.get p1 = some (.row (six t a c) 25)) (g2 : H.get p2 = some (.row cs8 30)) (g3 : H.get p3 = some (.row [v3] 32)) (h23 : p2 ≠ p3)
  (hK : ∀ H' ev, HX H H' → RepES H' (Rg H.next H'.next) (.ball (typeT sCallable t)) ev → EvM Tryd.prog okT fn tm [] none ((H'.put p2 (some (.row zero8 30))).put p3 (some (.row [ev] 32))) K) (hw : H.wf) :
  EvM Tryd.prog okT fn tm [⟨.fn (.func 25) #[.pointer (some ⟨p1, 0, none⟩), .pointer (some ⟨p2, 0, none⟩), .pointer (some ⟨p3, 0, none⟩)], #[]⟩] (some stopCh) H K := by
 refine EvM.recov Tryd.func25 (by decide) (by kernel_rfl) rfl rfl rfl rfl rfl ?_
 rw [zk4, zk5]
 refine ⟨rfl, _, _, z41, zii ?_⟩
 refine EvSq.cons ?_
 (repeat refine EvC.seq ?_); refine EvC.reg ?_; simp (config := { maxSteps := 2000000 }) (disch := first | omega | rfl) only [sB, initTm, dAlloc, Nat.reduceEqDiff, Nat.reduceAdd, reduceCtorEq, zr62, st62, z29, zcw zlh]
 obtain ⟨H2, e2, hx2, -, hn2, hw2⟩ := z0w hw (.row [] 62) (.row [] 62)
 simp only [e2]
 clear e2
 have g12 := hx2.get hw g1
 have q1 := row6 g12
 (repeat refine EvC.seq ?_); refine EvC.reg ?_; simp (config := { maxSteps := 2000000 }) (disch := first | omega | rfl) only [sB, Nat.reduceEqDiff, reduceCtorEq]
 (repeat refine EvC.seq ?_); refine EvC.condT (by simp (config := { maxSteps := 2000000 }) (disch := first | omega | rfl) only [sB, Nat.reduceEqDiff, reduceCtorEq]) ?_; (try refine EvC.skip ?_); (try simp only [z02, z03])
 (repeat refine EvC.seq ?_); refine EvC.reg ?_; simp (config := { maxSteps := 2000000 }) (disch := first | omega | rfl) only [sB, Nat.reduceEqDiff, Nat.reduceAdd, Value.cells, reduceCtorEq, layC, bd30, ld25, cl26, st30, q1]
 refine (zih (s := sCallable) (by decide) (r.mono hx2 hw) hc hw2).mono ?_
 rintro v H3 ⟨hx3, he⟩
 have hx23 := hx2.trans hx3
 have n2 := hx2.next
 have n3 := hx3.next
 have g23 := hx23.get hw g2
 have g33 := hx23.get hw g3
 have hl2 := hx23.wf _ _ g23
 obtain ⟨pb, ab, cb, rfl, -, -⟩ := he.rep
 have e32 : (p3 = p2) = False := by simp; exact fun h => h23 h.symm
 have d8 : List.drop 8 cs8 = [] := List.drop_eq_nil_of_le (by omega)
 have d81 : (8 ≤ cs8.length) = True := by simp; omega
 repeat' (first | refine EvC.seq ?_ | refine EvC.scope ?_ | refine EvC.block ?_ | (refine EvC.skip ?_) | (refine EvC.exit ?_) | (refine EvC.ret ?_; try simp only [z01, z00]) | (refine z0i ?_; simp (config := { maxSteps := 2000000 }) (disch := first | omega | rfl) only [sB, Nat.reduceEqDiff, Nat.reduceAdd, one, reduceCtorEq, st32, g23, g33, e32, d8, d81]))
 refine EvSq.nil ⟨.inl rfl, rfl, ?_⟩
 refine hK H3 _ hx23 (he.to fun n hn hl => ⟨rfl, ⟨by have := hn.1; omega, hn.2⟩, hl⟩)
end Go.Proofs.hq
end

section
namespace Go.Hb
open Go Go.RowKit
theorem z5h {P : Program} {ok : Ok} {fn : Func} {tm : Tr Value} {H : Heap} {K : Value → Heap → Prop} {a b : Tmp} {t t' : TypeId} {ad bd : Addr} {v u : Value} (h : fn.results.toList = [.cell a t, .cell b t']) (ha : tm.get a = some (.pointer (some ad))) (hv : dLoad P t (.pointer (some ad)) H = some (.val v H))
  (hb : tm.get b = some (.pointer (some bd))) (hu : dLoad P t' (.pointer (some bd)) H = some (.val u H)) (hk : K (.tuple ⟨[v, u]⟩) H) : EvM P ok fn tm [] none H K := by
 refine EvM.now (v := .tuple ⟨[v, u]⟩) ?_ hk
 have key : ∀ {t : TypeId} {ad : Addr} {v : Value}, dLoad P t (.pointer (some ad)) H = some (.val v H) → dload P t ad H = some v := fun {t ad v} hd => by
  unfold dLoad at hd
  simp only at hd
  cases h1 : dload P t ad H with
  | none => rw [h1] at hd; simp at hd
  | some w => rw [h1] at hd; simp at hd; rw [hd]
 simp [dres, h, dresL, dres1, ha, hb, key hv, key hu]
end Go.Hb
namespace Go.Proofs.hq
open Go Go.RowKit Go.Hb
variable {ok : Ok}
set_option maxRecDepth 10000
attribute [local irreducible] LX LG EL STG SOP SGO SGD SAL SRD SEF SEG SLK SCK ES
theorem z9q {n : Nat} : Few n zeroT := .mk (Nat.zero_le _) fun u hu => by cases hu
theorem zer {t : Tm} (h : Few 64 t) : Few 64 (cmpT sCall [t]) := .mk (by show 1 ≤ 64; decide) fun u hu => by
 have : u = t := by simpa [cmpT, Tm.args] using hu
 rw [this]; exact h
theorem z6i {t : Tm} (h : Fine t) : Few 64 t := Fine.few _ (Nat.lt_succ_self _) h
theorem FewB.leaf {n : Nat} {k : Int} {t : Tm} (h : Few n t) : FewB n (.mk k t []) := .mk (Nat.zero_le _) h fun u hu => by cases hu
theorem zbx {f : Tm → Option Bdy} {n : Nat} : ∀ {l : List Tm} {bs : List Bdy}, (∀ t ∈ l, ∀ b, f t = some b → FewB n b) → subBL f l = some bs → ∀ b ∈ bs, FewB n b
 | [], bs, _, h => by cases h; intro b hb; cases hb
 | u :: l, bs, hf, h => by
  rw [subBL] at h
  split at h
  ·rename_i c cs h1 h2
   cases h
   intro b hb
   rcases List.mem_cons.1 hb with rfl | hb
   ·exact hf u (by simp) _ h1
   ·exact zbx (fun t ht => hf t (List.mem_cons_of_mem _ ht)) h2 b hb
  ·cases h
theorem z5i {f : Tm → Option Bdy} {n : Nat} {k : Int} {l : List Tm} {b : Bdy} (hl : l.length ≤ n) (hf : ∀ t ∈ l, ∀ b, f t = some b → FewB n b) (h : subBF f k l = some b) : FewB n b := by
 unfold subBF at h
 cases hs : subBL f l with
 | none => rw [hs] at h; cases h
 | some bs =>
  rw [hs] at h
  cases h
  exact .mk (by show bs.length ≤ n; rw [zeq hs]; exact hl) z9q (zbx hf hs)
theorem z8s {t : Tm} {i : Nat} (h : i < t.args.length) : t.at i ∈ t.args := by
 unfold Tm.at
 rw [List.getD_eq_getElem?_getD, List.getElem?_eq_getElem h]
 exact List.getElem_mem h
theorem z7s : ∀ {m : Nat} {t : Tm} {b : Bdy}, Fine t → bodyF m t = some b → FewB 64 b
 | 0, t, b, _, h => by cases h
 | m + 1, t, b, hf, h => by
  have ih : ∀ u, Fine u → ∀ b, bodyF m u = some b → FewB 64 b := fun u hu b hb => z7s hu hb
  have hl := z45 hf
  have hargs : ∀ u ∈ t.args, ∀ b, bodyF m u = some b → FewB 64 b := fun u hu => ih u (hf.args u hu)
  rw [bodyF] at h
  split at h
  ·cases h
  split at h
  ·cases h; exact .leaf (zer (z6i hf))
  split at h
  ·cases h; exact .leaf z9q
  split at h
  ·cases h; exact .leaf z9q
  split at h
  ·rename_i hF
   unfold withinF at h
   split at h
   ·cases h
   split at h
   ·cases h; exact .leaf (zer (z6i hf))
   cases hb : bodyF m (t.at 1) with
   | none => rw [hb] at h; cases h
   | some c =>
    rw [hb] at h
    cases h
    refine .mk (by show 1 ≤ 64; decide) (z6i (hf.args _ (z8s (by rw [hF.2.2]; decide)))) fun u hu => ?_
    have : u = c := by simpa [Bdy.sub] using hu
    subst this
    exact hargs _ (z8s (by rw [hF.2.2]; decide)) _ hb
  split at h
  ·exact z5i hl hargs h
  split at h
  ·exact z5i hl hargs h
  split at h
  ·rename_i hF
   have hx := hf.args _ (z8s (i := 0) (by rw [hF.1.2.2]; decide))
   refine z5i (by show 3 ≤ 64; decide) (fun u hu => ?_) h
   have hu' : u ∈ (t.at 0).args ∨ u ∈ t.args := by
    simp only [List.mem_cons, List.not_mem_nil, or_false] at hu
    rcases hu with rfl | rfl | rfl
    ·exact .inl (z8s (by rw [hF.2.2.2]; decide))
    ·exact .inl (z8s (by rw [hF.2.2.2]; decide))
    ·exact .inr (z8s (by rw [hF.1.2.2]; decide))
   rcases hu' with hu | hu
   ·exact ih u (hx.args u hu)
   ·exact hargs u hu
  split at h
  ·exact z5i hl hargs h
  ·cases h; exact .leaf (z6i hf)
theorem FewB.up {n m : Nat} {b : Bdy} (f : FewB n b) (h : n ≤ m) : FewB m b := by
 induction f with
 | mk h1 h2 _ ih => exact .mk (Nat.le_trans h1 h) (h2.up h) ih
def ReadyEnd (H : Heap) (t : Tm) (v : Value) (H' : Heap) : Prop := HX H H' ∧ ∃ out ev, v = .tuple ⟨[.agg ⟨out⟩, ev]⟩ ∧ OB H' 30 25 (Rg H.next H'.next) (readyS t).1 out ∧ RepES H' (Rg H.next H'.next) (readyS t).2 ev
set_option maxHeartbeats 16000000 in
theorem zby {t : Tm} {cs : List Value} {H : Heap} (r0 : RepT H t cs) (hw : H.wf) : EvF Tryd.prog okT 7 [.agg ⟨cs⟩] H (ReadyEnd H t) := by
 obtain ⟨a, c, cells, rfl, -⟩ := r0.six
 refine EvF.enterM rfl Tryd.func7 (by decide) rfl ?_
 (repeat refine EvC.seq ?_); refine EvC.reg ?_; simp (config := { maxSteps := 2000000 }) (disch := first | omega | rfl) only [sB, initTm, dBox, dAlloc, Value.cells, one, zr30, zr32]
 obtain ⟨H2, e2, hx2, gt, gb, ge, hn2, hw2⟩ := zmo hw (.row (six t a c) 25) (.row zero8 30) (.row [.nilIface] 32)
 simp only [e2]
 clear e2
 have ge : H2.get (H.next + 1 + 1) = some (.row [.nilIface] 32) := ge
 have qt := row6 gt
 have hlt := hw2 _ _ ge
 (repeat refine EvC.seq ?_); refine EvC.reg ?_; simp (config := { maxSteps := 2000000 }) (disch := first | omega | rfl) only [sB, Nat.reduceEqDiff, reduceCtorEq, ld25, cl24, qt]
 refine (z4p t _ _ (r0.mono hx2 hw) hw2).mono ?_
 rintro v H3 ⟨rfl, hx3⟩
 have gt3 := hx3.get hw2 gt
 have gb3 := hx3.get hw2 gb
 have ge3 := hx3.get hw2 ge
 have hx := hx2.trans hx3
 have n3 := hx3.next
 have hww := hx.wf
 have qb3 := row8 gb3
 have qt3 := row6 gt3
 have ne1 : (H.next + 2 = H.next + 1) = False := by simp
 by_cases h0 : checkS t = 0
 rotate_left
 ·repeat' (first | refine EvC.seq ?_ | refine EvC.scope ?_ | refine EvC.block ?_ | (refine EvC.skip ?_) | (refine EvC.exit ?_) | (refine EvC.ret ?_; try simp only [z01, z00]) | (refine EvC.reg ?_; simp (config := { maxSteps := 2000000 }) (disch := first | omega | rfl) only [sB, Nat.reduceEqDiff, Nat.reduceAdd, one, reduceCtorEq, ld30, st30, st32, z3o h0, gb3, ge3, qb3, z1j, z9o zmy, ne1]) | (refine EvC.condT ?_ ?_; simp (config := { maxSteps := 2000000 }) (disch := first | omega | rfl) only [sB, Nat.reduceEqDiff, reduceCtorEq]; refine z06 ?_))
  have hrs : readyS t = (zeroB, .num (checkS t)) := by unfold readyS; rw [if_pos h0]
  refine z5h rfl (by simp only [sB, Nat.reduceEqDiff, reduceCtorEq] <;> rfl) (by simp only [sB, Nat.reduceAdd, cutC, ld30, neu] <;> rfl) (by simp only [sB, Nat.reduceEqDiff, reduceCtorEq] <;> rfl) (by simp only [sB, Nat.reduceEqDiff, cutC, ld32] <;> rfl) ⟨(hx.pt (by omega) gb3 _).pt (i := H.next + 1 + 1) (by omega) (by rw [get_put, if_neg (by omega)]; exact ge3) _, _, _, rfl, ?_, ?_⟩
  ·rw [hrs]; exact OB.nil (by decide)
  ·rw [hrs]; exact RepES.num
 (repeat refine EvC.seq ?_); refine EvC.reg ?_; simp (config := { maxSteps := 2000000 }) (disch := first | omega | rfl) only [sB, Nat.reduceEqDiff, reduceCtorEq, z2g h0]
 (repeat refine EvC.seq ?_); refine EvC.condF (by simp (config := { maxSteps := 2000000 }) (disch := first | omega | rfl) only [sB, Nat.reduceEqDiff, reduceCtorEq]) ?_; (try refine EvC.skip ?_); (try simp only [z02, z03])
 (repeat refine EvC.seq ?_); refine EvC.reg ?_; simp (config := { maxSteps := 2000000 }) (disch := first | omega | rfl) only [sB, Nat.reduceEqDiff, reduceCtorEq, List.map_toArray, zft, zib, zo8]
 have hlt3 := hww _ _ ge3
 cases ho : bodyF (SizeOf.sizeOf t + 1) t with
 | none =>
  have hrs : readyS t = (zeroB, .ball (typeT sCallable t)) := by unfold readyS; rw [if_neg (fun h => h h0), ho]
  (repeat refine EvC.seq ?_); refine EvC.regP 1 _ rfl rfl ?_; simp (config := { maxSteps := 2000000 }) (disch := first | omega | rfl) only [sB, Nat.reduceEqDiff, reduceCtorEq, ld25, cl27, z5u, qt3]
  refine EvG.toP (z9p _ (Nat.lt_succ_self _) (r0.mono hx hw) h0 hww) ?_
  rintro e H5 ⟨hx5, he⟩
  rw [ho] at he
  refine ⟨_, he, ?_⟩
  have hxf := hx.trans hx5
  have n5 := hx5.next
  have gb5 := hx5.get hww gb3
  have ge5 := hx5.get hww ge3
  refine zij (H := H5) (cs8 := zero8) rfl (r0.mono hxf hw) h0 (hx5.get hww gt3) gb5 ge5 (by omega) (fun H6 ev hx6 he6 => ?_) hxf.wf
  have gb6 := hx6.get hxf.wf gb5
  have ge6 := hx6.get hxf.wf ge5
  have n6 := hx6.next
  have hx16 := hxf.trans hx6
  refine z5h rfl (by simp only [sB, Nat.reduceEqDiff, reduceCtorEq] <;> rfl) (by simp only [sB, Nat.reduceAdd, cutC, ld30, neu] <;> rfl) (by simp only [sB, Nat.reduceEqDiff, reduceCtorEq] <;> rfl) (by simp only [sB, Nat.reduceEqDiff, cutC, ld32] <;> rfl) ⟨(hx16.pt (by omega) gb6 _).pt (i := H.next + 1 + 1) (by omega) (by rw [get_put, if_neg (by omega)]; exact ge6) _, _, _, rfl, ?_, ?_⟩
  ·rw [hrs]; exact OB.nil (by decide)
  ·rw [hrs]
   refine he6.to fun n hn hl => ?_
   have := hn.1
   exact ⟨by rw [get_put, if_neg (by omega), get_put, if_neg (by omega)], ⟨by omega, by rw [z07, z07]; exact hl⟩, by rw [z07, z07]; exact hl⟩
 | some bd =>
  (repeat refine EvC.seq ?_); refine EvC.reg ?_; simp (config := { maxSteps := 2000000 }) (disch := first | omega | rfl) only [sB, Nat.reduceEqDiff, reduceCtorEq, ld25, cl27, qt3]
  refine EvG.toF (z9p _ (Nat.lt_succ_self _) (r0.mono hx hw) h0 hww) ?_
  rintro e H5 ⟨hx5, he⟩
  rw [ho] at he
  obtain ⟨out, rfl, hob⟩ := he
  refine ⟨_, rfl, ?_⟩
  obtain ⟨ta, tc, sa, sc, rfl⟩ := hob.rep.eight
  have hxf := hx.trans hx5
  have n5 := hx5.next
  have gb5 := hx5.get hww gb3
  have ge5 := hx5.get hww ge3
  try simp (config := { maxSteps := 2000000 }) (disch := first | omega | rfl) only [sB, Nat.reduceAdd, one, st30, gb5]
  obtain ⟨H6, e6⟩ : ∃ H6, H5.put (H.next + 1) (some (.row (eightT bd.kind bd.term ta tc sa bd.sub.length sc) 30)) = H6 := ⟨_, rfl⟩
  simp only [e6]
  have hx6 : HX H H6 := by rw [← e6]; exact hxf.pt (by omega) gb5 _
  have n6 : H6.next = H5.next := by rw [← e6]; rfl
  have gb6 : H6.get (H.next + 1) = some (.row (eightT bd.kind bd.term ta tc sa bd.sub.length sc) 30) := by rw [← e6, get_put, if_pos rfl]
  have ge6 : H6.get (H.next + 1 + 1) = some (.row [.nilIface] 32) := by rw [← e6, get_put, if_neg (by omega)]; exact ge5
  have qb6 := row8 gb6
  have hob6 : OB H6 30 25 (Rg H3.next H5.next) bd (eightT bd.kind bd.term ta tc sa bd.sub.length sc) := hob.to (fun n hn hl => ⟨by have := hn.1; rw [← e6, get_put, if_neg (by omega)], by omega⟩) fun _ hn => hn
  have hfew := (z7s (z0y.1 h0).2 ho).up (m := 1000000) (by decide)
  (repeat refine EvC.seq ?_); refine EvC.reg ?_; simp (config := { maxSteps := 2000000 }) (disch := first | omega | rfl) only [sB, Nat.reduceEqDiff, reduceCtorEq, ld30, cl29, cl28, qb6]
  refine (zk2 (Nat.lt_succ_self _) hob6.bi hfew (fun n hn => by have := hn.2; omega) hx6.wf).mono ?_
  rintro v H7 ⟨hx7, outT, rfl, hrT⟩
  repeat' (first | refine EvC.seq ?_ | refine EvC.scope ?_ | refine EvC.block ?_ | (refine EvC.skip ?_) | (refine EvC.exit ?_) | (refine EvC.ret ?_; try simp only [z01, z00]))
  refine (z3j _ _ _ hrT.rep hx7.wf).mono ?_
  rintro v H8 ⟨rfl, hx8⟩
  have hx68 := hx7.trans hx8
  have n7 := hx7.next
  have n8 := hx8.next
  have gb8 := hx68.get hx6.wf gb6
  have ge8 := hx68.get hx6.wf ge6
  have qb8 := row8 gb8
  have hx18 := hx6.trans hx68
  try simp (config := { maxSteps := 2000000 }) (disch := first | omega | rfl) only [sA]
  by_cases h4 : 4000 < cnt (toldB bd) 0
  ·have hd : decide (((cnt (toldB bd) 0 : Nat) : Int) > 4000) = true := by rw [z2y]; exact decide_eq_true h4
   have hrs : readyS t = (zeroB, .ball (resT sNodes)) := by unfold readyS; rw [if_neg (fun h => h h0), ho]; simp only; rw [if_pos h4]
   (repeat refine EvC.seq ?_); refine EvC.condT (by simp (config := { maxSteps := 2000000 }) (disch := first | omega | rfl) only [sB, Nat.reduceEqDiff, reduceCtorEq, hd]) ?_; (try refine EvC.skip ?_); (try simp only [z02, z03])
   (repeat refine EvC.seq ?_); refine EvC.reg ?_; simp (config := { maxSteps := 2000000 }) (disch := first | omega | rfl) only [sB, Nat.reduceEqDiff, Nat.reduceAdd, Value.cells, reduceCtorEq, layC, st30, bd30, cl30]
   refine (zk3 (s := sNodes) (by decide) hx18.wf).mono ?_
   rintro v H9 ⟨hx9, he9⟩
   obtain ⟨pb, ab, cb, rfl, -, -⟩ := he9.rep
   have n9 := hx9.next
   have gb9 := hx9.get hx18.wf gb8
   have ge9 := hx9.get hx18.wf ge8
   repeat' (first | refine EvC.seq ?_ | refine EvC.scope ?_ | refine EvC.block ?_ | (refine EvC.skip ?_) | (refine EvC.exit ?_) | (refine EvC.ret ?_; try simp only [z01, z00]) | (refine z0i ?_; simp (config := { maxSteps := 2000000 }) (disch := first | omega | rfl) only [sB, Nat.reduceEqDiff, Nat.reduceAdd, one, reduceCtorEq, st32, gb9, ge9, ne1]))
   obtain ⟨H9', e9⟩ : ∃ H9', (H9.put (H.next + 1) (some (.row zero8 30))).put (H.next + 1 + 1) (some (.row [.iface 72 (.pointer (some ⟨pb, 0, none⟩))] 32)) = H9' := ⟨_, rfl⟩
   have g1 : H9'.get (H.next + 1) = some (.row zero8 30) := by rw [← e9, get_put, if_neg (by omega), get_put, if_pos rfl]
   have g2 : H9'.get (H.next + 1 + 1) = some (.row [.iface 72 (.pointer (some ⟨pb, 0, none⟩))] 32) := by rw [← e9, get_put, if_pos rfl]
   have hx9' : HX H H9' := by rw [← e9]; exact ((hx18.trans hx9).pt (by omega) gb9 _).pt (i := H.next + 1 + 1) (by omega) (by rw [get_put, if_neg (by omega)]; exact ge9) _
   have n9' : H9'.next = H9.next := by rw [← e9]; rfl
   have he9' : RepES H9' (Rg H8.next H9.next) (.ball (resT sNodes)) (.iface 72 (.pointer (some ⟨pb, 0, none⟩))) := he9.to fun n hn hl => ⟨by have := hn.1; rw [← e9, get_put, if_neg (by omega), get_put, if_neg (by omega)], hn, by omega⟩
   simp only [e9]
   refine zbw (H := H9') (fun H10 hx10 => ?_) hx9'.wf
   have g1' := hx10.get hx9'.wf g1
   have q1' := row8 g1'
   have q2' := row1 (hx10.get hx9'.wf g2)
   have n10 := hx10.next
   refine z5h rfl (by simp only [sB, Nat.reduceEqDiff, reduceCtorEq] <;> rfl) (by simp only [sA, ld30, q1'] <;> rfl) (by simp only [sB, Nat.reduceEqDiff, reduceCtorEq] <;> rfl) (by simp only [sA, ld32, q2'] <;> rfl) ⟨hx9'.trans hx10, _, _, rfl, ?_, ?_⟩
   ·rw [hrs]; exact OB.nil (by decide)
   ·rw [hrs]
    exact he9'.to fun n hn hl => ⟨hx10.keep n hl, ⟨by have := hn.1; omega, by have := hn.2; omega⟩, by omega⟩
  ·have hd : decide (((cnt (toldB bd) 0 : Nat) : Int) > 4000) = false := by rw [z2y]; exact decide_eq_false h4
   have hrs : readyS t = (bd, .ok) := by unfold readyS; rw [if_neg (fun h => h h0), ho]; simp only; rw [if_neg h4]
   (repeat refine EvC.seq ?_); refine EvC.condF (by simp (config := { maxSteps := 2000000 }) (disch := first | omega | rfl) only [sB, Nat.reduceEqDiff, reduceCtorEq, hd]) ?_; (try refine EvC.skip ?_); (try simp only [z02, z03])
   repeat' (first | refine EvC.seq ?_ | refine EvC.scope ?_ | refine EvC.block ?_ | (refine EvC.skip ?_) | (refine EvC.exit ?_) | (refine EvC.ret ?_; try simp only [z01, z00]) | (refine EvC.reg ?_; simp (config := { maxSteps := 2000000 }) (disch := first | omega | rfl) only [sB, Nat.reduceEqDiff, Nat.reduceAdd, one, reduceCtorEq, ld30, st30, zoi, gb8, ge8, qb8, ne1]))
   obtain ⟨H9', e9⟩ : ∃ H9', (H8.put (H.next + 1) (some (.row (eightT bd.kind bd.term ta tc sa bd.sub.length sc) 30))).put (H.next + 1 + 1) (some (.row [.nilIface] 32)) = H9' := ⟨_, rfl⟩
   have g1 : H9'.get (H.next + 1) = some (.row (eightT bd.kind bd.term ta tc sa bd.sub.length sc) 30) := by rw [← e9, get_put, if_neg (by omega), get_put, if_pos rfl]
   have g2 : H9'.get (H.next + 1 + 1) = some (.row [.nilIface] 32) := by rw [← e9, get_put, if_pos rfl]
   have hx9' : HX H H9' := by rw [← e9]; exact (hx18.pt (by omega) gb8 _).pt (i := H.next + 1 + 1) (by omega) (by rw [get_put, if_neg (by omega)]; exact ge8) _
   have n9' : H9'.next = H8.next := by rw [← e9]; rfl
   have hob9 : OB H9' 30 25 (Rg H3.next H5.next) bd (eightT bd.kind bd.term ta tc sa bd.sub.length sc) := hob6.to (fun n hn hl => ⟨by have := hn.1; rw [← e9, get_put, if_neg (by omega), get_put, if_neg (by omega)]; exact hx68.keep n hl, by omega⟩) fun _ hn => hn
   simp only [e9]
   refine zbw (H := H9') (fun H10 hx10 => ?_) hx9'.wf
   have g1' := hx10.get hx9'.wf g1
   have q1' := row8 g1'
   have q2' := row1 (hx10.get hx9'.wf g2)
   have n10 := hx10.next
   refine z5h rfl (by simp only [sB, Nat.reduceEqDiff, reduceCtorEq] <;> rfl) (by simp only [sA, ld30, q1'] <;> rfl) (by simp only [sB, Nat.reduceEqDiff, reduceCtorEq] <;> rfl) (by simp only [sA, ld32, q2'] <;> rfl) ⟨hx9'.trans hx10, _, _, rfl, ?_, ?_⟩
   ·rw [hrs]
    exact (hob9.keep hx10).sub fun n hn => ⟨by have := hn.1; omega, by have := hn.2; omega⟩
   ·rw [hrs]; exact RepES.fine
end Go.Proofs.hq
end

section
namespace Go.Proofs.hq
open Go Go.RowKit Go.Hb
variable {ok : Ok}
set_option maxRecDepth 10000
attribute [local irreducible] LX LG EL STG SOP SGO SGD SAL SRD SEF SEG SLK SCK ES
theorem few6 {t : Tm} (h : checkS t = 0) : Few 1000000 t := (Fine.few _ (Nat.lt_succ_self _) (z0y.1 h).2).up (by decide)
theorem z4a {t : Tm} {cs : List Value} {H : Heap} (r : RepT H t cs) (hf : Few 1000000 t) (hw : H.wf) : EvF Tryd.prog okT 6 [.agg ⟨cs⟩] H fun v H' => HX H H' ∧ ∃ out, v = .agg ⟨out⟩ ∧ OT H' (Rg H.next H'.next) t out :=
 (zml (Nat.lt_succ_self _) r hf hw).mono fun v H' ⟨cs', hv, hr, hx⟩ => ⟨hx, cs', hv, RepF.toS hr hx.wf, RepF.top hr hx.wf⟩
theorem zik {t : Tm} {cs : List Value} {H : Heap} (r : RepT H t cs) (hw : H.wf) : EvF Tryd.prog okT 56 [.agg ⟨cs⟩] H fun v H' => v = .bool (decide (isNum t)) ∧ HX H H' := by
 obtain ⟨a, c, cells, rfl, -⟩ := r.six
 refine EvF.enter rfl Tryd.func56 (by decide) rfl ?_
 (repeat refine EvC.seq ?_); refine EvC.reg ?_; simp (config := { maxSteps := 2000000 }) (disch := first | omega | rfl) only [sB, initTm, dBox, Value.cells, one]
 obtain ⟨H2, e2, hx2, gt, hn2, hw2⟩ := new1 hw (.row (six t a c) 25)
 simp only [e2]
 have qt := row6 gt
 by_cases n3 : t.kind = 3
 ·have hd : decide (isNum t) = true := decide_eq_true (.inl n3)
  repeat' (first | refine EvC.seq ?_ | refine EvC.scope ?_ | refine EvC.block ?_ | (refine EvC.skip ?_) | (refine EvC.exit ?_) | (refine EvC.ret ?_; try simp only [z01, z00]) | (refine EvC.reg ?_; simp (config := { maxSteps := 2000000 }) (disch := first | omega | rfl) only [sB, Nat.reduceEqDiff, reduceCtorEq, z0e, ld3, qt, z0j n3]))
  exact z05 rfl (by simp only [sB, Nat.reduceEqDiff, reduceCtorEq] <;> rfl) ⟨by rw [hd], hx2⟩
 by_cases n4 : t.kind = 4
 ·have hd : decide (isNum t) = true := decide_eq_true (.inr n4)
  repeat' (first | refine EvC.seq ?_ | refine EvC.scope ?_ | refine EvC.block ?_ | (refine EvC.skip ?_) | (refine EvC.exit ?_) | (refine EvC.ret ?_; try simp only [z01, z00]) | (refine EvC.reg ?_; simp (config := { maxSteps := 2000000 }) (disch := first | omega | rfl) only [sB, Nat.reduceEqDiff, reduceCtorEq, z0e, ld3, qt, z0l n3, z0j n4, Bool.false_eq_true]))
  exact z05 rfl (by simp only [sB, Nat.reduceEqDiff, reduceCtorEq] <;> rfl) ⟨by rw [hd], hx2⟩
 ·have hd : decide (isNum t) = false := decide_eq_false fun h => by rcases h with h | h; exact n3 h; exact n4 h
  repeat' (first | refine EvC.seq ?_ | refine EvC.scope ?_ | refine EvC.block ?_ | (refine EvC.skip ?_) | (refine EvC.exit ?_) | (refine EvC.ret ?_; try simp only [z01, z00]) | (refine EvC.reg ?_; simp (config := { maxSteps := 2000000 }) (disch := first | omega | rfl) only [sB, Nat.reduceEqDiff, reduceCtorEq, z0e, ld3, qt, z0l n3, z0l n4, Bool.false_eq_true]))
  exact z05 rfl (by simp only [sB, Nat.reduceEqDiff, reduceCtorEq] <;> rfl) ⟨by rw [hd], hx2⟩
theorem z8t {t : Tm} {cs : List Value} {s : ByteArray} {H : Heap} (r : RepT H t cs) (hw : H.wf) :
  EvF Tryd.prog okT 58 [.agg ⟨cs⟩, .string s] H fun v H' => v = .bool (decide (isF t s)) ∧ HX H H' := by
 obtain ⟨a, c, cells, rfl, -⟩ := r.six
 refine EvF.enter rfl Tryd.func58 (by decide) rfl ?_
 (repeat refine EvC.seq ?_); refine EvC.reg ?_; simp (config := { maxSteps := 2000000 }) (disch := first | omega | rfl) only [sB, initTm, dBox, Value.cells, one, reduceCtorEq]
 obtain ⟨H2, e2, hx2, gt, hn2, hw2⟩ := new1 hw (.row (six t a c) 25)
 simp only [e2]
 have qt := row6 gt
 by_cases k5 : t.kind = 5
 rotate_left
 ·have hd : decide (isF t s) = false := decide_eq_false fun h => k5 h.1
  repeat' (first | refine EvC.seq ?_ | refine EvC.scope ?_ | refine EvC.block ?_ | (refine EvC.skip ?_) | (refine EvC.exit ?_) | (refine EvC.ret ?_; try simp only [z01, z00]) | (refine EvC.reg ?_; simp (config := { maxSteps := 2000000 }) (disch := first | omega | rfl) only [sB, Nat.reduceEqDiff, reduceCtorEq, z0e, ld3, qt, z0l k5, Bool.false_eq_true]))
  exact z05 rfl (by simp only [sB, Nat.reduceEqDiff, reduceCtorEq] <;> rfl) ⟨by rw [hd], hx2⟩
 by_cases kn : t.name = s
 rotate_left
 ·have hd : decide (isF t s) = false := decide_eq_false fun h => kn h.2.1
  repeat' (first | refine EvC.seq ?_ | refine EvC.scope ?_ | refine EvC.block ?_ | (refine EvC.skip ?_) | (refine EvC.exit ?_) | (refine EvC.ret ?_; try simp only [z01, z00]) | (refine EvC.reg ?_; simp (config := { maxSteps := 2000000 }) (disch := first | omega | rfl) only [sB, Nat.reduceEqDiff, reduceCtorEq, z0e, ld3, z1v, ld9, qt, z0j k5, z0v, z8p kn, Bool.false_eq_true]))
  exact z05 rfl (by simp only [sB, Nat.reduceEqDiff, reduceCtorEq] <;> rfl) ⟨by rw [hd], hx2⟩
 by_cases k2 : t.args.length = 2
 ·have hd : decide (isF t s) = true := decide_eq_true ⟨k5, kn, k2⟩
  have k2' : (t.args.length : Int) = 2 := by omega
  repeat' (first | refine EvC.seq ?_ | refine EvC.scope ?_ | refine EvC.block ?_ | (refine EvC.skip ?_) | (refine EvC.exit ?_) | (refine EvC.ret ?_; try simp only [z01, z00]) | (refine EvC.reg ?_; simp (config := { maxSteps := 2000000 }) (disch := first | omega | rfl) only [sB, Nat.reduceEqDiff, reduceCtorEq, z0e, ld3, z1v, ld9, z0o, ld23, ln23, qt, z0j k5, z0v, z67 kn, z0j k2']))
  exact z05 rfl (by simp only [sB, Nat.reduceEqDiff, reduceCtorEq] <;> rfl) ⟨by rw [hd], hx2⟩
 ·have hd : decide (isF t s) = false := decide_eq_false fun h => k2 h.2.2
  have k2' : (t.args.length : Int) ≠ 2 := by omega
  repeat' (first | refine EvC.seq ?_ | refine EvC.scope ?_ | refine EvC.block ?_ | (refine EvC.skip ?_) | (refine EvC.exit ?_) | (refine EvC.ret ?_; try simp only [z01, z00]) | (refine EvC.reg ?_; simp (config := { maxSteps := 2000000 }) (disch := first | omega | rfl) only [sB, Nat.reduceEqDiff, reduceCtorEq, z0e, ld3, z1v, ld9, z0o, ld23, ln23, qt, z0j k5, z0v, z67 kn, z0l k2']))
  exact z05 rfl (by simp only [sB, Nat.reduceEqDiff, reduceCtorEq] <;> rfl) ⟨by rw [hd], hx2⟩
theorem zk6 {s : ByteArray} {H : Heap} (hw : H.wf) : EvF Tryd.prog okT 21 [.string s] H fun v H' => v = .agg ⟨six (atmT s) none 0⟩ ∧ HX H H' := by
 refine EvF.enter rfl Tryd.func21 (by decide) rfl ?_
 repeat' (first | refine EvC.seq ?_ | refine EvC.scope ?_ | refine EvC.block ?_ | (refine EvC.skip ?_) | (refine EvC.exit ?_) | (refine EvC.ret ?_; try simp only [z01, z00]) | (refine EvC.reg ?_; simp (config := { maxSteps := 2000000 }) (disch := first | omega | rfl) only [sB, initTm, dAlloc, Nat.reduceEqDiff, Nat.reduceAdd, Value.cells, one, reduceCtorEq, Nat.reduceLeDiff, layC, zr25, bd25, st25]))
 exact z0a rfl (by simp only [sB, Nat.reduceEqDiff, reduceCtorEq] <;> rfl) (by simp only [sB, Nat.reduceAdd, cutC, ld25] <;> rfl) ⟨rfl, ((HX.refl hw).new _).put (Nat.le_refl _) (Nat.lt_succ_self _) _⟩
set_option maxHeartbeats 2000000 in
theorem zes {t : Tm} {cs : List Value} {H : Heap} (r0 : RepT H t cs) (hc : checkS t = 0) (hw : H.wf) :
  EvF Tryd.prog okT 57 [.agg ⟨cs⟩] H fun v H' => HX H H' ∧ ∃ out, v = .agg ⟨out⟩ ∧ OB H' 30 25 (Rg H.next H'.next) (callB t) out := by
 obtain ⟨a, c, cells, rfl, -⟩ := r0.six
 refine EvF.enter rfl Tryd.func57 (by decide) rfl ?_
 (repeat refine EvC.seq ?_); refine EvC.reg ?_; simp (config := { maxSteps := 2000000 }) (disch := first | omega | rfl) only [sB, initTm, dBox, dAlloc, Value.cells, one, zr30]
 obtain ⟨H2, e2, hx2, gt, gq, hn2, hw2⟩ := new2 hw (.row (six t a c) 25) (.row zero8 30)
 simp only [e2]
 clear e2
 have qt := row6 gt
 (repeat refine EvC.seq ?_); refine EvC.reg ?_; simp (config := { maxSteps := 2000000 }) (disch := first | omega | rfl) only [sB, Nat.reduceEqDiff, Nat.reduceAdd, Value.cells, reduceCtorEq, layC, ld25, cl6, z59, qt]
 refine (z4a (r0.mono hx2 hw) (few6 hc) hw2).mono ?_
 rintro v H3 ⟨hx3, out, rfl, hot⟩
 obtain ⟨a3, c3, z8k, rfl, -⟩ := hot.rep.six
 have gq3 := hx3.get hw2 gq
 repeat' (first | refine EvC.seq ?_ | refine EvC.scope ?_ | refine EvC.block ?_ | (refine EvC.skip ?_) | (refine EvC.exit ?_) | (refine EvC.ret ?_; try simp only [z01, z00]) | (refine z0i ?_; simp (config := { maxSteps := 2000000 }) (disch := first | omega | rfl) only [sB, Nat.reduceEqDiff, Nat.reduceAdd, Value.cells, one, reduceCtorEq, Nat.reduceLeDiff, layC, cl20, bd30]))
 obtain ⟨H4, e4, hx4, g4, hn4, hw4⟩ := new1 hx3.wf (.row (six t a3 c3) 25)
 simp only [e4]
 refine (F_ev (cs := six t a3 c3) (by decide) (by decide) (ld1 g4 rfl) rfl hw4).mono ?_
 rintro v H5 ⟨rfl, g5, n5', hx5⟩
 have gq5 := hx5.get hw4 (hx4.get hx3.wf gq3)
 have n3 := hx3.next
 have n5 := hx5.next
 have hx35 := hx4.trans hx5
 repeat' (first | refine EvC.seq ?_ | refine EvC.scope ?_ | refine EvC.block ?_ | (refine EvC.skip ?_) | (refine EvC.exit ?_) | (refine EvC.ret ?_; try simp only [z01, z00]) | (refine z0i ?_; simp (config := { maxSteps := 2000000 }) (disch := first | omega | rfl) only [sB, Nat.reduceEqDiff, Nat.reduceAdd, one, reduceCtorEq, Nat.reduceLeDiff, st30, gq5]))
 refine z0a rfl (by simp only [sB, Nat.reduceEqDiff, reduceCtorEq] <;> rfl) (by simp only [sB, Nat.reduceAdd, cutC, ld30] <;> rfl) ⟨((hx2.trans hx3).trans hx35).pt (by omega) gq5 _, _, rfl, ?_⟩
 have ho : OT H5 (fun n => Rg H.next H5.next n ∧ n ≠ H.next + 1) (cmpT sCall [t]) (six (cmpT sCall [t]) (some ⟨H4.next + 2, 0, none⟩) 1) := by
  refine OT.comp (by decide) g5 ⟨⟨by omega, by omega⟩, by omega⟩ (Nat.le_refl _) (Nat.le_refl _) (by decide) hx5.wf fun j hj => ?_
  match j, hj with
  | 0, _ => exact hot.1.to fun n hn hl => ⟨hx35.keep n hl, ⟨⟨by have := hn.1; omega, by omega⟩, by have := hn.1; omega⟩, by omega⟩
 refine OB.to (S := fun n => Rg H.next H5.next n ∧ n ≠ H.next + 1) (.leaf _ 3 _ _ (by decide) ho.1 ho.2) (fun n hn hl => ⟨by rw [get_put, if_neg hn.2], by rw [z07]; exact hl⟩) fun n hn => ⟨hn.1.1, by rw [z07]; exact hn.1.2⟩
def RBEnd (H : Heap) (o : Option Bdy) (v : Value) (H' : Heap) : Prop := HX H H' ∧ ∃ out bd, v = .tuple ⟨[.agg ⟨out⟩, .bool o.isSome]⟩ ∧ OB H' 30 25 (Rg H.next H'.next) bd out ∧ ∀ b, o = some b → bd = b
def RBodyP (m : Nat) : Prop := ∀ (t : Tm) (cs : List Value) (H : Heap), SizeOf.sizeOf t < m → RepT H t cs → checkS t = 0 → H.wf → EvF Tryd.prog okT 34 [.agg ⟨cs⟩] H (RBEnd H (bodyF m t))
set_option maxHeartbeats 8000000 in
theorem z5j {m : Nat} (hb : RBodyP m) {k : Int} {l : List Tm} {a : Option Addr} {c : Nat} {cells : Nat → List Value} {H : Heap} (hk : i64 k) (rl : RepL H l a c cells) (hl : l.length ≤ 64) (hs : ∀ t ∈ l, SizeOf.sizeOf t < m ∧ checkS t = 0) (hw : H.wf) :
  EvF Tryd.prog okT 60 [.int .i64 k, .slice a l.length c] H (RBEnd H (subBF (bodyF m) k l)) := by
 have apB : apOk Tryd.prog 28 30 8 := ap28
 refine EvF.enter rfl Tryd.func60 (by decide) rfl ?_
 (repeat refine EvC.seq ?_); refine EvC.reg ?_; simp (config := { maxSteps := 2000000 }) (disch := first | omega | rfl) only [sA, initTm, dAlloc, zr30]
 obtain ⟨H2, e2, hx2, g4, hn2, hw2⟩ := new1 hw (.row zero8 30)
 simp only [e2]
 clear e2
 (repeat refine EvC.seq ?_); refine EvC.reg ?_; simp (config := { maxSteps := 2000000 }) (disch := first | omega | rfl) only [sB, dAlloc, Nat.reduceEqDiff, Nat.reduceAdd, Value.cells, one, reduceCtorEq, Nat.reduceLeDiff, layC, zr30, bd30, st30]
 obtain ⟨H3, e3, hx3, g5, hn3, hw3⟩ := z0w hw2 (.row zero8 30) (.row [.int .i64 k, .int .i64 0, .string ByteArray.empty, .string ByteArray.empty, .int .u64 0, .int .i64 0, .slice none 0 0, .slice none 0 0] 30)
 simp only [e3]
 clear e3
 rw [hn2] at g5 hn3
 have g5 : H3.get (H.next + 1) = some (.row (eightT k zeroT none 0 none 0 0) 30) := g5
 have g4 := hx3.get hw2 g4
 have hx := hx2.trans hx3
 have hmax := rl.max
 (repeat refine EvC.seq ?_); refine EvC.reg ?_; simp (config := { maxSteps := 2000000 }) (disch := first | omega | rfl) only [sA]
 refine EvC.join (fun st => ∃ tm G bs ao co, st = ⟨tm, [], G⟩ ∧ tm.get 4 = some (.pointer (some ⟨H.next, 0, none⟩)) ∧ tm.get 6 = some (.pointer (some ⟨H.next + 1, 0, none⟩)) ∧ G.get H.next = some (.row zero8 30) ∧
  G.get (H.next + 1) = some (.row (eightT k zeroT none 0 ao bs.length co) 30) ∧ subBL (bodyF m) l = some bs ∧ OBL G 30 25 (fun n => H.next + 2 ≤ n ∧ n < G.next) bs ao co ∧ HX H G) ?_ ?_
 ·refine EvC.block (EvC.loop (fun k' st => ∃ tm G i bs ao co, st = ⟨tm, [], G⟩ ∧ k' = l.length - i ∧ i ≤ l.length ∧ bs.length = i ∧ tm.get 1 = some (.slice a l.length c) ∧ tm.get 4 = some (.pointer (some ⟨H.next, 0, none⟩)) ∧ tm.get 6 = some (.pointer (some ⟨H.next + 1, 0, none⟩)) ∧
   tm.get 7 = some (.int .i64 (i : Nat)) ∧ G.get H.next = some (.row zero8 30) ∧ G.get (H.next + 1) = some (.row (eightT k zeroT none 0 ao i co) 30) ∧
   subBL (bodyF m) (l.take i) = some bs ∧ OBL G 30 25 (fun n => H.next + 2 ≤ n ∧ n < G.next) bs ao co ∧ HX H G) ?_ l.length _ ?_)
  rotate_left
  ·exact ⟨_, _, 0, [], none, 0, rfl, rfl, Nat.zero_le _, rfl, (by simp only [sG, Nat.reduceEqDiff, reduceCtorEq] <;> rfl), (by simp only [sG, Nat.reduceEqDiff, reduceCtorEq] <;> rfl), by rw [← hn2]; first | (simp only [sG, Nat.reduceEqDiff, reduceCtorEq]; rfl) | simp only [sG, Nat.reduceEqDiff, reduceCtorEq], (by simp only [sB, Nat.reduceEqDiff, reduceCtorEq] <;> rfl), g4, g5, rfl, .nil, hx⟩
  rintro k' st ⟨tm, G, i, bs, ao, co, rfl, rfl, hi, hbl, t1, t4, t6, t7, g4G, g5G, hsub, hobl, hxG⟩
  have hwG := hxG.wf
  by_cases hlt : i < l.length
  rotate_left
  ·repeat' (first | refine EvC.seq ?_ | refine EvC.scope ?_ | refine EvC.block ?_ | (refine EvC.skip ?_) | (refine EvC.exit ?_; try simp only [sB]) | (refine EvC.ret ?_; try simp only [z01, z00]) | (refine EvC.reg ?_; simp (config := { maxSteps := 2000000 }) (disch := first | omega | rfl) only [sB, Nat.reduceEqDiff, ln23, t1, t7, decn hlt]) | (refine EvC.condT ?_ ?_; simp (config := { maxSteps := 2000000 }) (disch := first | omega | rfl) only [sB, Nat.reduceEqDiff]; refine z06 ?_) | (refine EvC.condF ?_ ?_; simp (config := { maxSteps := 2000000 }) (disch := first | omega | rfl) only [sB, Nat.reduceEqDiff]; refine z06 ?_))
   obtain rfl : i = l.length := by omega
   rw [List.take_length] at hsub
   exact ⟨_, _, bs, ao, co, rfl, (by simp only [sG, Nat.reduceEqDiff, t4] <;> rfl), (by simp only [sG, Nat.reduceEqDiff, t6] <;> rfl), g4G, by rw [hbl]; exact g5G, hsub, hobl, hxG⟩
  obtain ⟨b, o, a1, c1, rfl, hld, hr1⟩ := rl.el hlt
  have hld1 := hxG.load hw hld
  have hsi := hs l[i] (List.getElem_mem _)
  subst hbl
  have q5G := row8 g5G
  (repeat refine EvC.seq ?_); refine EvC.reg ?_; simp (config := { maxSteps := 2000000 }) (disch := first | omega | rfl) only [sB, Nat.reduceEqDiff, ln23, t1, t7, decl hlt]
  (repeat refine EvC.seq ?_); refine EvC.condT (by simp (config := { maxSteps := 2000000 }) (disch := first | omega | rfl) only [sB, Nat.reduceEqDiff]) ?_; (try refine EvC.skip ?_); (try simp only [z02, z03])
  refine EvC.seq ?_
  refine EvC.block ?_
  (repeat refine EvC.seq ?_); refine EvC.reg ?_; simp (config := { maxSteps := 2000000 }) (disch := first | omega | rfl) only [sB, Nat.reduceEqDiff, ia23, ld25, cl34, t1, t7, hld1]
  refine (hb l[bs.length] _ G hsi.1 (hr1.mono hxG hw) hsi.2 hwG).mono ?_
  rintro v H5 ⟨hx5, out, bd, rfl, hob, hbd⟩
  obtain ⟨ta, tc, sa, sc, rfl⟩ := hob.rep.eight
  have n5 := hx5.next
  try simp (config := { maxSteps := 2000000 }) (disch := first | omega | rfl) only [sB, dAlloc, Nat.reduceEqDiff, Nat.reduceAdd, one, zr30, st30]
  obtain ⟨H6, e6, hx6, g6, hn6, hw6⟩ := z0w hx5.wf (.row zero8 30) (.row (eightT bd.kind bd.term ta tc sa bd.sub.length sc) 30)
  simp only [e6]
  clear e6
  have hx46 := hx5.trans hx6
  have g46 := hx46.get hwG g4G
  have g56 := hx46.get hwG g5G
  have q6 := row8 g6
  have q56 := row8 g56
  have hlg := hwG _ _ g5G
  cases hbi : bodyF m l[bs.length] with
  | none =>
   rw [hbi] at hbd
   (repeat refine EvC.seq ?_); refine EvC.reg ?_; simp (config := { maxSteps := 2000000 }) (disch := first | omega | rfl) only [sB, Nat.reduceEqDiff]
   (repeat refine EvC.seq ?_); refine EvC.condT (by simp (config := { maxSteps := 2000000 }) (disch := first | omega | rfl) only [sB, Nat.reduceEqDiff, Option.isSome_none, Bool.not_false]) ?_; (try refine EvC.skip ?_); (try simp only [z02, z03])
   repeat' (first | refine EvC.seq ?_ | refine EvC.scope ?_ | refine EvC.block ?_ | (refine EvC.skip ?_) | (refine EvC.exit ?_) | (refine EvC.ret ?_; try simp only [z01, z00]) | (refine EvC.reg ?_; simp (config := { maxSteps := 2000000 }) (disch := first | omega | rfl) only [sB, Nat.reduceEqDiff, Nat.reduceAdd, Value.cells, one, layC, bd30, st30, t4, g46]))
   refine z0b rfl (by simp only [sB, Nat.reduceEqDiff, t4] <;> rfl) (by simp only [sB, Nat.reduceAdd, cutC, ld30] <;> rfl) (by simp only [sB, Nat.reduceEqDiff] <;> rfl) ⟨(hxG.trans hx46).pt (Nat.le_refl _) g46 _, _, zeroB, ?_, OB.nil (by decide), ?_⟩
   ·rw [show subBF (bodyF m) k l = none from by unfold subBF; rw [z5g (List.getElem_mem _) hbi]; rfl]; rfl
   ·intro b hb
    rw [show subBF (bodyF m) k l = none from by unfold subBF; rw [z5g (List.getElem_mem _) hbi]; rfl] at hb
    cases hb
  | some bd' =>
   obtain rfl := hbd bd' hbi
   (repeat refine EvC.seq ?_); refine EvC.reg ?_; simp (config := { maxSteps := 2000000 }) (disch := first | omega | rfl) only [sB, Nat.reduceEqDiff]
   (repeat refine EvC.seq ?_); refine EvC.condF (by simp (config := { maxSteps := 2000000 }) (disch := first | omega | rfl) only [sB, Nat.reduceEqDiff, Option.isSome_some, Bool.not_true]) ?_; (try refine EvC.skip ?_); (try simp only [z02, z03])
   refine EvC.reg ?_
   try simp (config := { maxSteps := 2000000 }) (disch := first | omega | rfl) only [sB, Nat.reduceEqDiff, Nat.reduceAdd, Value.cells, one, layC, z2c, ld28, ld30, ze8, t6, q56, q6]
   obtain ⟨H7, e7, hx7, g7, hn7, hw7⟩ := new1 hw6 (.row (eightT bd.kind bd.term ta tc sa bd.sub.length sc) 30)
   simp only [e7]
   clear e7
   have hx47 := hx46.trans hx7
   have n7 := hx7.next
   obtain ⟨H8, e8, hobl8, hk8, hn8⟩ := OBL.push (N := Rg G.next H5.next) (S2 := fun n => H.next + 2 ≤ n ∧ n < H7.next + 1) (c1 := 1) apB (hobl.keep hx47) hw7 (ld1 g7 rfl) ((hob.keep hx6).keep hx7) (fun n hn hs => by have : G.next ≤ n := hn.1; have := hs.2; omega) (fun n hn => by have := hn.2; omega)
    (fun n hn => by have := hn.2; omega) (by unfold most; omega) (fun n hn => by
     rcases hn with hn | hn | hn
     ·exact ⟨hn.1, by omega⟩
     ·exact ⟨by have : G.next ≤ n := hn.1; omega, by have := hn.2; omega⟩
     ·exact ⟨by omega, by omega⟩)
   have g58 := hk8.get hw7 (hx47.get hwG g5G) (fun hs => by have := hs.1; omega)
   have g48 := hk8.get hw7 (hx47.get hwG g4G) (fun hs => by have := hs.1; omega)
   have hx8 : HX H H8 := (hxG.trans hx47).then hk8 fun n hn hs => by have := hs.1; omega
   repeat' (first | refine EvC.seq ?_ | refine EvC.scope ?_ | refine EvC.block ?_ | (refine EvC.skip ?_) | (refine EvC.exit ?_) | (refine EvC.ret ?_; try simp only [z01, z00]) | (refine EvC.reg ?_; simp (config := { maxSteps := 2000000 }) (disch := first | omega | rfl) only [sB, Nat.reduceEqDiff, t7, z0c]) | (refine z0i ?_; simp (config := { maxSteps := 2000000 }) (disch := first | omega | rfl) only [sB, Nat.reduceEqDiff, Nat.reduceAdd, one, z2c, st28, t6, e8, g58]))
   refine ⟨l.length - (bs.length + 1), by omega, _, _, bs.length + 1, bs ++ [bd], some ⟨H7.next, 0, none⟩, bs.length + 1, rfl, rfl, by omega, by simp, (by simp only [sG, Nat.reduceEqDiff, t1] <;> rfl), (by simp only [sG, Nat.reduceEqDiff, t4] <;> rfl), (by simp only [sG, Nat.reduceEqDiff, t6] <;> rfl), (by simp only [sB, Nat.reduceEqDiff] <;> rfl), by rw [get_put, if_neg (by omega)]; exact g48, by rw [get_put, if_pos rfl],
    by rw [← List.take_append_getElem hlt]; exact z4s hsub hbi, hobl8.to (fun n hn hl => ⟨by rw [get_put, if_neg (by omega)], by rw [z07]; exact hl⟩) fun n hn => ⟨hn.1, by rw [z07, hn8]; exact hn.2⟩, hx8.pt (by omega) g58 _⟩
 ·rintro st ⟨tm, G, bs, ao, co, rfl, t4, t6, g4G, g5G, hsub, hobl, hxG⟩
  have q5 := row8 g5G
  repeat' (first | refine EvC.seq ?_ | refine EvC.scope ?_ | refine EvC.block ?_ | (refine EvC.skip ?_) | (refine EvC.exit ?_) | (refine EvC.ret ?_; try simp only [z01, z00]) | (refine EvC.reg ?_; simp (config := { maxSteps := 2000000 }) (disch := first | omega | rfl) only [sB, Nat.reduceEqDiff, Nat.reduceAdd, one, st30, ld30, t4, t6, q5, g4G]))
  have hsb : subBF (bodyF m) k l = some (.mk k zeroT bs) := by unfold subBF; rw [hsub]; rfl
  refine z0b rfl (by simp only [sB, Nat.reduceEqDiff, t4] <;> rfl) (by simp only [sB, Nat.reduceAdd, cutC, ld30] <;> rfl) (by simp only [sB, Nat.reduceEqDiff] <;> rfl) ⟨hxG.pt (Nat.le_refl _) g4G _, _, .mk k zeroT bs, by rw [hsb]; rfl, OBL.mk (ts := six zeroT none 0) (hobl.to (fun n hn hl => ⟨by rw [get_put, if_neg (by omega)], by rw [z07]; exact hl⟩) fun n hn => ⟨by omega, by rw [z07]; exact hn.2⟩) hk (RepS.leaf zcx rfl (Nat.zero_le _) (fun _ => rfl)) rfl, fun b hb => by rw [hsb] at hb; cases hb; rfl⟩
theorem OBL.one {H : Heap} {TB TT : TypeId} {S N : Nat → Prop} {u : Bdy} {cs : List Value} {b : Nat} (hg : H.get b = some (.row cs TB)) (hu : OB H TB TT N u cs) (hw : H.wf) (hS : S b) (hN : ∀ n, N n → S n) (hb : ¬ N b) : OBL H TB TT S [u] (some ⟨b, 0, none⟩) 1 := by
 obtain ⟨hone, hlen⟩ := hu.rep.ones
 refine .inr ⟨b, cs, fun _ => N, rfl, Nat.le_refl _, by decide, hg, hS, hw _ _ hg, by simp [hlen], fun i v hv => ?_, fun i _ => hb, fun i n _ hn => hN n hn, fun i j n hi hj _ _ => by simp at hi hj; omega⟩
 match i, hv with
 | 0, hv =>
  cases hv
  rw [Nat.zero_mul, List.drop_zero, List.take_of_length_le (by omega)]
  exact hu
theorem repX {H : Heap} {x : Tm} {a : Option Addr} {c : Nat} {S : Nat → Prop} (r : RepT H x (six x a c)) (hx : x.args = []) {H' : Heap} : RepS H' S x (six x a c) := by
 obtain ⟨ax, cx, cellsx, ee, -, -, -, -, -, rlx⟩ := r.six
 obtain ⟨-, -, -, -, -, rfl, rfl⟩ := z7l ee
 exact RepS.leaf r.bd hx rlx.cap fun h => (rlx.nil h).2
set_option maxHeartbeats 8000000 in
theorem zfv {m : Nat} (hb : RBodyP m) {t : Tm} {cs : List Value} {H : Heap} (hs : SizeOf.sizeOf t < m + 1) (r : RepT H t cs) (h2 : t.args.length = 2) (hc : checkS t = 0) (hw : H.wf) :
  EvF Tryd.prog okT 59 [.agg ⟨cs⟩] H (RBEnd H (withinF (bodyF m) t)) := by
 have r0 := r
 obtain ⟨a, c, cells, rfl, -, -, -, -, -, rl⟩ := r.six
 obtain ⟨x, y, hxy⟩ : ∃ x y, t.args = [x, y] := by
  match hl : t.args, h2 with
  | [x, y], _ => exact ⟨x, y, rfl⟩
 have ex : t.at 0 = x := by unfold Tm.at; rw [hxy]; rfl
 have ey : t.at 1 = y := by unfold Tm.at; rw [hxy]; rfl
 have g0 : t.args[0]'(by omega) = x := by simp [hxy]
 have g1 : t.args[1]'(by omega) = y := by simp [hxy]
 obtain ⟨b, o, a1, c1, rfl, hld0, hr0⟩ := rl.el (i := 0) (by omega)
 obtain ⟨b', o', a2, c2, e2, hld1, hr1⟩ := rl.el (i := 1) (by omega)
 cases e2
 rw [g0] at hld0 hr0
 rw [g1] at hld1 hr1
 simp only [Nat.zero_mul, Nat.add_zero, Nat.one_mul] at hld0 hld1
 have hcx := z1a hc (u := x) (by rw [hxy]; simp)
 have hcy := z1a hc (u := y) (by rw [hxy]; simp)
 have hsy : SizeOf.sizeOf y < SizeOf.sizeOf t := z0h (by rw [hxy]; simp)
 refine EvF.enter rfl Tryd.func59 (by decide) rfl ?_
 (repeat refine EvC.seq ?_); refine EvC.reg ?_; simp (config := { maxSteps := 2000000 }) (disch := first | omega | rfl) only [sB, initTm, dBox, dAlloc, Value.cells, one, zr30]
 obtain ⟨H2, e2, hx2, gt, gq, hn2, hw2⟩ := new2 hw (.row (six t (some ⟨b, o, none⟩) c) 25) (.row zero8 30)
 simp only [e2]
 clear e2
 have qt := row6 gt
 have l0 := hx2.load hw hld0
 (repeat refine EvC.seq ?_); refine EvC.reg ?_; simp (config := { maxSteps := 2000000 }) (disch := first | omega | rfl) only [sB, dAlloc, Nat.reduceEqDiff, Nat.reduceAdd, one, reduceCtorEq, Int.reduceToNat, z0o, ld23, ld25, zr25, st25, qt, l0, iz23, Nat.zero_mul]
 obtain ⟨H3, e3, hx3, gx, hn3, hw3⟩ := z0w hw2 (.row zero6 25) (.row (six x a1 c1) 25)
 simp only [e3]
 clear e3
 have qt3 := row6 (hx3.get hw2 gt)
 have l1 := (hx2.trans hx3).load hw hld1
 (repeat refine EvC.seq ?_); refine EvC.reg ?_; simp (config := { maxSteps := 2000000 }) (disch := first | omega | rfl) only [sB, dAlloc, Nat.reduceEqDiff, Nat.reduceAdd, one, reduceCtorEq, Int.reduceToNat, z0o, ld23, ld25, zr25, st25, qt3, l1, iz23, Nat.one_mul]
 obtain ⟨H4, e4, hx4, gy, hn4, hw4⟩ := z0w hw3 (.row zero6 25) (.row (six y a2 c2) 25)
 simp only [e4]
 clear e4
 have hx34 := hx3.trans hx4
 have gx := hx4.get hw3 gx
 have gt := hx34.get hw2 gt
 have gq := hx34.get hw2 gq
 have hx := hx2.trans hx34
 have qy := row6 gy
 (repeat refine EvC.seq ?_)
 refine EvC.meet (fun st => ∃ tm G, st = ⟨tm, [], G⟩ ∧ tm.get 1 = some (.pointer (some ⟨H.next, 0, none⟩)) ∧ tm.get 2 = some (.pointer (some ⟨H.next + 1, 0, none⟩)) ∧ tm.get 4 = some (.pointer (some ⟨H2.next, 0, none⟩)) ∧ tm.get 5 = some (.pointer (some ⟨H3.next, 0, none⟩)) ∧
  tm.get 27 = some (.bool (decide (isNum y ∨ (x.kind ≠ 2 ∧ x.kind ≠ 1)))) ∧ G.get H.next = some (.row (six t (some ⟨b, o, none⟩) c) 25) ∧ G.get (H.next + 1) = some (.row zero8 30) ∧ G.get H2.next = some (.row (six x a1 c1) 25) ∧ G.get H3.next = some (.row (six y a2 c2) 25) ∧ HX H G) ?_ ?_
 ·(repeat refine EvC.seq ?_); refine EvC.reg ?_; simp (config := { maxSteps := 2000000 }) (disch := first | omega | rfl) only [sB, Nat.reduceEqDiff, reduceCtorEq, ld25, cl56, qy]
  refine (zik (hr1.mono hx hw) hx.wf).mono ?_
  rintro v H5 ⟨rfl, hx5⟩
  have gx5 := hx5.get hx.wf gx
  have qx5 := row6 gx5
  by_cases hn : isNum y
  ·have hd : decide (isNum y) = true := decide_eq_true hn
   have hdd : decide (isNum y ∨ (x.kind ≠ 2 ∧ x.kind ≠ 1)) = true := decide_eq_true (.inl hn)
   try simp (config := { maxSteps := 2000000 }) (disch := first | omega | rfl) only [sB, Nat.reduceEqDiff, reduceCtorEq, hd]
   exact ⟨_, _, rfl, (by simp only [sG, Nat.reduceEqDiff, reduceCtorEq] <;> rfl), (by simp only [sG, Nat.reduceEqDiff, reduceCtorEq] <;> rfl), (by simp only [sG, Nat.reduceEqDiff, reduceCtorEq] <;> rfl), (by simp only [sG, Nat.reduceEqDiff, reduceCtorEq] <;> rfl), by rw [hdd]; first | (simp only [sG, Nat.reduceEqDiff, reduceCtorEq]; rfl) | simp only [sG, Nat.reduceEqDiff, reduceCtorEq], hx5.get hx.wf gt, hx5.get hx.wf gq, gx5, hx5.get hx.wf gy, hx.trans hx5⟩
  have hd : decide (isNum y) = false := decide_eq_false hn
  by_cases x2 : x.kind = 2
  ·have hdd : decide (isNum y ∨ (x.kind ≠ 2 ∧ x.kind ≠ 1)) = false := decide_eq_false fun h => by rcases h with h | h; exact hn h; exact h.1 x2
   try simp (config := { maxSteps := 2000000 }) (disch := first | omega | rfl) only [sB, Nat.reduceEqDiff, reduceCtorEq, z0e, ld3, hd, qx5, z2g x2, Bool.false_eq_true]
   exact ⟨_, _, rfl, (by simp only [sG, Nat.reduceEqDiff, reduceCtorEq] <;> rfl), (by simp only [sG, Nat.reduceEqDiff, reduceCtorEq] <;> rfl), (by simp only [sG, Nat.reduceEqDiff, reduceCtorEq] <;> rfl), (by simp only [sG, Nat.reduceEqDiff, reduceCtorEq] <;> rfl), by rw [hdd]; first | (simp only [sG, Nat.reduceEqDiff, reduceCtorEq]; rfl) | simp only [sG, Nat.reduceEqDiff, reduceCtorEq], hx5.get hx.wf gt, hx5.get hx.wf gq, gx5, hx5.get hx.wf gy, hx.trans hx5⟩
  by_cases x1 : x.kind = 1
  ·have hdd : decide (isNum y ∨ (x.kind ≠ 2 ∧ x.kind ≠ 1)) = false := decide_eq_false fun h => by rcases h with h | h; exact hn h; exact h.2 x1
   try simp (config := { maxSteps := 2000000 }) (disch := first | omega | rfl) only [sB, Nat.reduceEqDiff, reduceCtorEq, z0e, ld3, hd, qx5, z3o x2, z2g x1, Bool.false_eq_true]
   exact ⟨_, _, rfl, (by simp only [sG, Nat.reduceEqDiff, reduceCtorEq] <;> rfl), (by simp only [sG, Nat.reduceEqDiff, reduceCtorEq] <;> rfl), (by simp only [sG, Nat.reduceEqDiff, reduceCtorEq] <;> rfl), (by simp only [sG, Nat.reduceEqDiff, reduceCtorEq] <;> rfl), by rw [hdd]; first | (simp only [sG, Nat.reduceEqDiff, reduceCtorEq]; rfl) | simp only [sG, Nat.reduceEqDiff, reduceCtorEq], hx5.get hx.wf gt, hx5.get hx.wf gq, gx5, hx5.get hx.wf gy, hx.trans hx5⟩
  ·have hdd : decide (isNum y ∨ (x.kind ≠ 2 ∧ x.kind ≠ 1)) = true := decide_eq_true (.inr ⟨x2, x1⟩)
   try simp (config := { maxSteps := 2000000 }) (disch := first | omega | rfl) only [sB, Nat.reduceEqDiff, reduceCtorEq, z0e, ld3, hd, qx5, z3o x2, z3o x1, Bool.false_eq_true]
   exact ⟨_, _, rfl, (by simp only [sG, Nat.reduceEqDiff, reduceCtorEq] <;> rfl), (by simp only [sG, Nat.reduceEqDiff, reduceCtorEq] <;> rfl), (by simp only [sG, Nat.reduceEqDiff, reduceCtorEq] <;> rfl), (by simp only [sG, Nat.reduceEqDiff, reduceCtorEq] <;> rfl), by rw [hdd]; first | (simp only [sG, Nat.reduceEqDiff, reduceCtorEq]; rfl) | simp only [sG, Nat.reduceEqDiff, reduceCtorEq], hx5.get hx.wf gt, hx5.get hx.wf gq, gx5, hx5.get hx.wf gy, hx.trans hx5⟩
 clear hw4 hw3 hx3 hx4 hx34 hn3 hn4 qt qt3 qy l0 l1 gt gq gx gy hx
 rintro st ⟨tm, G, rfl, t1, t2, t4, t5, tc, gt, gq, gx, gy, hx⟩
 have hwG := hx.wf
 have qx := row6 gx
 have qy := row6 gy
 have qt := row6 gt
 have lq := hwG _ _ gq
 have nG := hx.next
 simp only [z02]
 by_cases hbad : isNum y ∨ (x.kind ≠ 2 ∧ x.kind ≠ 1)
 ·have hd := decide_eq_true hbad
  have hwn : withinF (bodyF m) t = none := by unfold withinF; rw [ex, ey, if_pos hbad]
  (repeat refine EvC.seq ?_); refine EvC.condT (by simp (config := { maxSteps := 2000000 }) (disch := first | omega | rfl) only [sA, tc, hd]) ?_; (try refine EvC.skip ?_); (try simp only [z02, z03])
  repeat' (first | refine EvC.seq ?_ | refine EvC.scope ?_ | refine EvC.block ?_ | (refine EvC.skip ?_) | (refine EvC.exit ?_) | (refine EvC.ret ?_; try simp only [z01, z00]) | (refine EvC.reg ?_; simp (config := { maxSteps := 2000000 }) (disch := first | omega | rfl) only [sB, Nat.reduceEqDiff, Nat.reduceAdd, Value.cells, one, layC, bd30, st30, t2, gq]))
  refine z0b rfl (by simp only [sB, Nat.reduceEqDiff, t2] <;> rfl) (by simp only [sB, Nat.reduceAdd, cutC, ld30] <;> rfl) (by simp only [sB, Nat.reduceEqDiff] <;> rfl) ⟨hx.pt (by omega) gq _, _, zeroB, by rw [hwn]; rfl, OB.nil (by decide), fun b h => by rw [hwn] at h; cases h⟩
 have hd := decide_eq_false hbad
 (repeat refine EvC.seq ?_); refine EvC.condF (by simp (config := { maxSteps := 2000000 }) (disch := first | omega | rfl) only [sA, tc, hd]) ?_; (try refine EvC.skip ?_); (try simp only [z02, z03])
 clear hd tc
 by_cases hcl : x.kind = 1 ∨ y.kind = 1
 ·have hwn : withinF (bodyF m) t = some (callB t) := by unfold withinF; rw [ex, ey, if_neg hbad, if_pos hcl]
  (repeat refine EvC.seq ?_)
  refine EvC.meet (fun st => ∃ tm', st = ⟨tm', [], G⟩ ∧ tm'.get 1 = some (.pointer (some ⟨H.next, 0, none⟩)) ∧ tm'.get 2 = some (.pointer (some ⟨H.next + 1, 0, none⟩)) ∧ tm'.get 36 = some (.bool true)) ?_ ?_
  ·by_cases x1 : x.kind = 1
   ·(repeat refine EvC.seq ?_); refine EvC.reg ?_; simp (config := { maxSteps := 2000000 }) (disch := first | omega | rfl) only [sB, Nat.reduceEqDiff, z0e, ld3, t4, qx, z0j x1]
    exact ⟨_, rfl, (by simp only [sG, Nat.reduceEqDiff, t1] <;> rfl), (by simp only [sG, Nat.reduceEqDiff, t2] <;> rfl), by first | (simp only [sG, Nat.reduceEqDiff]; rfl) | simp only [sG, Nat.reduceEqDiff]⟩
   ·have y1 := hcl.resolve_left x1
    (repeat refine EvC.seq ?_); refine EvC.reg ?_; simp (config := { maxSteps := 2000000 }) (disch := first | omega | rfl) only [sB, Nat.reduceEqDiff, z0e, ld3, t4, t5, qx, qy, z0l x1, z0j y1, Bool.false_eq_true]
    exact ⟨_, rfl, (by simp only [sG, Nat.reduceEqDiff, t1] <;> rfl), (by simp only [sG, Nat.reduceEqDiff, t2] <;> rfl), by first | (simp only [sG, Nat.reduceEqDiff]; rfl) | simp only [sG, Nat.reduceEqDiff]⟩
  rintro st ⟨tm, rfl, t1, t2, t36⟩
  simp only [z02]
  (repeat refine EvC.seq ?_); refine EvC.condT (by simp (config := { maxSteps := 2000000 }) (disch := first | omega | rfl) only [sA, t36]) ?_; (try refine EvC.skip ?_); (try simp only [z02, z03])
  (repeat refine EvC.seq ?_); refine EvC.reg ?_; simp (config := { maxSteps := 2000000 }) (disch := first | omega | rfl) only [sB, Nat.reduceEqDiff, ld25, cl57, t1, qt]
  refine (zes (r0.mono hx hw) hc hwG).mono ?_
  rintro v H5 ⟨hx5, out, rfl, hob⟩
  obtain ⟨ta, tc, sa, sc, rfl⟩ := hob.rep.eight
  have gq5 := hx5.get hwG gq
  have n5 := hx5.next
  repeat' (first | refine EvC.seq ?_ | refine EvC.scope ?_ | refine EvC.block ?_ | (refine EvC.skip ?_) | (refine EvC.exit ?_) | (refine EvC.ret ?_; try simp only [z01, z00]) | (refine z0i ?_; simp (config := { maxSteps := 2000000 }) (disch := first | omega | rfl) only [sB, Nat.reduceAdd, one, st30, t2, gq5]))
  refine z0b rfl (by simp only [sB, Nat.reduceEqDiff, t2] <;> rfl) (by simp only [sB, Nat.reduceAdd, cutC, ld30] <;> rfl) (by simp only [sB, Nat.reduceEqDiff] <;> rfl) ⟨(hx.trans hx5).pt (by omega) gq5 _, _, callB t, by rw [hwn]; rfl, hob.to (fun n hn hl => ⟨by have := hn.1; rw [get_put, if_neg (by omega)], by rw [z07]; exact hl⟩) fun n hn => ⟨by have := hn.1; omega, by rw [z07]; exact hn.2⟩, fun b h => by rw [hwn] at h; cases h; rfl⟩
 have x1 : ¬ x.kind = 1 := fun h => hcl (.inl h)
 have y1 : ¬ y.kind = 1 := fun h => hcl (.inr h)
 have hwn : withinF (bodyF m) t = (bodyF m y).map fun b => .mk 7 x [b] := by unfold withinF; rw [ex, ey, if_neg hbad, if_neg hcl]
 have hx2k : x.kind = 2 := by
  by_cases h : x.kind = 2
  ·exact h
  ·exact absurd (.inr ⟨h, x1⟩) hbad
 have hxa : x.args = [] := by
  have k := z3v (z0y.1 hcx).2.node
  exact (z2w k.2.2.1).2.2.2.2 (by omega)
 (repeat refine EvC.seq ?_); refine EvC.reg ?_; simp (config := { maxSteps := 2000000 }) (disch := first | omega | rfl) only [sB, Nat.reduceEqDiff, z0e, ld3, t4, t5, qx, qy, z0l x1, z0l y1, Bool.false_eq_true]
 (repeat refine EvC.seq ?_); refine EvC.condF (by simp (config := { maxSteps := 2000000 }) (disch := first | omega | rfl) only [sB, Nat.reduceEqDiff]) ?_; (try refine EvC.skip ?_); (try simp only [z02, z03])
 (repeat refine EvC.seq ?_); refine EvC.reg ?_; simp (config := { maxSteps := 2000000 }) (disch := first | omega | rfl) only [sB, Nat.reduceEqDiff, ld25, cl34, t5, qy]
 refine (hb y _ G (by omega) (hr1.mono hx hw) hcy hwG).mono ?_
 rintro v H5 ⟨hx5, out, bd, rfl, hob, hbd⟩
 obtain ⟨ta, tc, sa, sc, rfl⟩ := hob.rep.eight
 have n5 := hx5.next
 try simp (config := { maxSteps := 2000000 }) (disch := first | omega | rfl) only [sB, dAlloc, Nat.reduceEqDiff, Nat.reduceAdd, one, zr30, st30]
 obtain ⟨H6, e6, hx6, g6, hn6, hw6⟩ := z0w hx5.wf (.row zero8 30) (.row (eightT bd.kind bd.term ta tc sa bd.sub.length sc) 30)
 simp only [e6]
 clear e6
 have hxf := (hx.trans hx5).trans hx6
 have hx56 := hx5.trans hx6
 have q6 := row8 g6
 have qx6 := row6 (hx56.get hwG gx)
 have gq6 := hx56.get hwG gq
 have lq6 := hw6 _ _ gq6
 (repeat refine EvC.seq ?_); refine EvC.drw [([(0, 0)], some 1), ([(2, 0), (3, 0), (4, 1)], some 6), ([(5, 0), (7, 2)], none)] (by kernel_rfl) ?_; simp (config := { maxSteps := 2000000 }) (disch := first | omega | rfl) only [sD, sB, Nat.reduceEqDiff, Nat.reduceAdd, reduceCtorEq, ld25, cl6, isAlloc, isRead, reduceCtorEq, t4, qx6]
 have hxb : HX H6 ⟨H6.next + 8, H6.t⟩ := (HX.refl hw6).bump 8
 refine (z4a ((hr0.mono hxf hw).mono hxb hw6) (few6 hcx) hxb.wf).mono ?_
 rintro v H7 ⟨hx7, outx, rfl, hot⟩
 obtain ⟨a7, c7, cells7, rfl, -⟩ := hot.rep.six
 have n7 : H6.next + 8 ≤ H7.next := hx7.next
 have hx67 := hxb.trans hx7
 have q67 := row8 (hx67.get hw6 g6)
 obtain ⟨H8, e8⟩ : ∃ H8, H7.put (H6.next + 3) (some (.row (eightT bd.kind bd.term ta tc sa bd.sub.length sc) 30)) = H8 := ⟨_, rfl⟩
 have hx8 : HX H6 H8 := by rw [← e8]; exact hx67.put (by omega) (by omega) _
 have n8 : H8.next = H7.next := by rw [← e8]; rfl
 have g8 : H8.get (H6.next + 3) = some (.row (eightT bd.kind bd.term ta tc sa bd.sub.length sc) 30) := by rw [← e8, get_put, if_pos rfl]
 have gq8 := hx8.get hw6 gq6
 repeat' (first | refine EvC.seq ?_ | refine EvC.scope ?_ | refine EvC.block ?_ | (refine EvC.skip ?_) | (refine EvC.exit ?_) | (refine EvC.ret ?_; try simp only [z01, z00]) | (refine z1b ?_; simp (config := { maxSteps := 2000000 }) (disch := first | omega | rfl) only [sV, sD, sB, Nat.reduceEqDiff, Nat.reduceAdd, Value.cells, one, reduceCtorEq, Nat.reduceLeDiff, layC, bd30, st30, ld30, ze8, t2, q6, q67, e8, gq8, isAlloc, isRead, dalloc, reduceCtorEq]))
 have hfin := (hxf.trans hx8).pt (i := H.next + 1) (by omega) gq8 (some (.row (eightT 7 x a7 c7 (some ⟨H6.next + 3, 0, none⟩) 1 1) 30))
 have hob8 : OB H8 30 25 (Rg G.next H5.next) bd (eightT bd.kind bd.term ta tc sa bd.sub.length sc) := ((hob.keep hx6).keep hx8)
 have hobf : OB (H8.put (H.next + 1) (some (.row (eightT 7 x a7 c7 (some ⟨H6.next + 3, 0, none⟩) 1 1) 30))) 30 25 (Rg H.next H8.next) (.mk 7 x [bd]) (eightT 7 x a7 c7 (some ⟨H6.next + 3, 0, none⟩) 1 1) := by
  have h1 : OBL H8 30 25 (fun n => Rg H.next H8.next n ∧ n ≠ H.next + 1) [bd] (some ⟨H6.next + 3, 0, none⟩) 1 := OBL.one g8 hob8 hx8.wf ⟨⟨by omega, by omega⟩, by omega⟩ (fun n hn => ⟨⟨by have := hn.1; omega, by have := hn.2; omega⟩, by have := hn.1; omega⟩) (fun h => by have := h.2; omega)
  exact OBL.mk (k := 7) (t := x) (ts := six x a7 c7) (h1.to (fun n hn hl => ⟨by rw [get_put, if_neg hn.2], by rw [z07]; exact hl⟩) fun n hn => hn.1) (by decide) (repX hot.rep hxa) hxa
 cases hby : bodyF m y with
 | none =>
  rw [hby] at hwn
  refine z0b rfl (by simp only [sB, Nat.reduceEqDiff, t2] <;> rfl) (by simp only [sB, Nat.reduceAdd, cutC, ld30] <;> rfl) (by simp only [sB, Nat.reduceEqDiff] <;> rfl) ⟨hfin, _, .mk 7 x [bd], by rw [hwn]; rfl, hobf, fun b h => by rw [hwn] at h; cases h⟩
 | some bd' =>
  rw [hby] at hwn
  obtain rfl := hbd bd' hby
  refine z0b rfl (by simp only [sB, Nat.reduceEqDiff, t2] <;> rfl) (by simp only [sB, Nat.reduceAdd, cutC, ld30] <;> rfl) (by simp only [sB, Nat.reduceEqDiff] <;> rfl) ⟨hfin, _, .mk 7 x [bd], by rw [hwn]; rfl, hobf, fun b h => by rw [hwn] at h; cases h; rfl⟩
set_option maxHeartbeats 16000000 in
theorem zil {m : Nat} (hb : RBodyP m) {t : Tm} {cs : List Value} {H : Heap} (hs : SizeOf.sizeOf t < m + 1) (r : RepT H t cs) (hc : checkS t = 0) (hw : H.wf) :
  EvF Tryd.prog okT 34 [.agg ⟨cs⟩] H (RBEnd H (bodyF (m + 1) t)) := by
 have r0 := r
 have hf := (z0y.1 hc).2
 have hfew := z45 hf
 have hlf : ∀ {u : Tm}, u ∈ t.args → SizeOf.sizeOf u < m ∧ checkS u = 0 := fun hu => ⟨by have := z0h hu; omega, z1a hc hu⟩
 obtain ⟨a, c, cells, rfl, -, -, -, -, -, rl⟩ := r.six
 refine EvF.enter rfl Tryd.func34 (by decide) rfl ?_
 (repeat refine EvC.seq ?_); refine EvC.reg ?_; simp (config := { maxSteps := 2000000 }) (disch := first | omega | rfl) only [sB, initTm, dBox, dAlloc, Value.cells, one, zr30]
 obtain ⟨H2, e2, hx, gt, gq, hn2, hw2⟩ := new2 hw (.row (six t a c) 25) (.row zero8 30)
 simp only [e2]
 clear e2
 have qt := row6 gt
 (repeat refine EvC.seq ?_); refine EvC.reg ?_; simp (config := { maxSteps := 2000000 }) (disch := first | omega | rfl) only [sB, Nat.reduceEqDiff, reduceCtorEq, ld25, cl56, qt]
 refine (zik (r0.mono hx hw) hx.wf).mono ?_
 clear qt
 rintro v H3 ⟨rfl, hx3⟩
 replace gt := hx3.get hx.wf gt
 replace gq := hx3.get hx.wf gq
 replace hx := hx.trans hx3
 clear hx3
 have qt := row6 gt
 have lt := hx.wf _ _ gq
 by_cases hn : isNum t
 ·have hd : decide (isNum t) = true := decide_eq_true hn
  have hbd : bodyF (m + 1) t = none := zbu hn
  try simp (config := { maxSteps := 2000000 }) (disch := first | omega | rfl) only []
  (repeat refine EvC.seq ?_); refine EvC.condT (by simp (config := { maxSteps := 2000000 }) (disch := first | omega | rfl) only [sB, Nat.reduceEqDiff, reduceCtorEq, hd]) ?_; (try refine EvC.skip ?_); (try simp only [z02, z03])
  repeat' (first | refine EvC.seq ?_ | refine EvC.scope ?_ | refine EvC.block ?_ | (refine EvC.skip ?_) | (refine EvC.exit ?_) | (refine EvC.ret ?_; try simp only [z01, z00]) | (refine EvC.reg ?_; simp (config := { maxSteps := 2000000 }) (disch := first | omega | rfl) only [sB, Nat.reduceEqDiff, Nat.reduceAdd, Value.cells, one, reduceCtorEq, layC, bd30, st30, gq]))
  refine z0b rfl (by simp only [sB, Nat.reduceEqDiff, reduceCtorEq] <;> rfl) (by simp only [sB, Nat.reduceAdd, cutC, ld30] <;> rfl) (by simp only [sB, Nat.reduceEqDiff, reduceCtorEq] <;> rfl) ⟨hx.pt (by omega) gq _, _, zeroB, by rw [hbd]; rfl, OB.nil (by decide), fun b h => by rw [hbd] at h; cases h⟩
 have hd : decide (isNum t) = false := decide_eq_false hn
 try simp (config := { maxSteps := 2000000 }) (disch := first | omega | rfl) only []
 (repeat refine EvC.seq ?_); refine EvC.condF (by simp (config := { maxSteps := 2000000 }) (disch := first | omega | rfl) only [sB, Nat.reduceEqDiff, reduceCtorEq, hd]) ?_; (try refine EvC.skip ?_); (try simp only [z02, z03])
 clear hd
 refine EvC.frame (fun tm => tm.get 1 = some (.pointer (some ⟨H.next, 0, none⟩)) ∧ tm.get 2 = some (.pointer (some ⟨H.next + 1, 0, none⟩))) ⟨(by simp only [sG, Nat.reduceEqDiff, reduceCtorEq] <;> rfl), (by simp only [sG, Nat.reduceEqDiff, reduceCtorEq] <;> rfl)⟩ ?_
 rintro tm ⟨t1, t2⟩
 by_cases k1 : t.kind = 1
 ·have hbd : bodyF (m + 1) t = some (callB t) := by rw [bodyF, if_neg hn, if_pos k1]
  (repeat refine EvC.seq ?_); refine EvC.reg ?_; simp (config := { maxSteps := 2000000 }) (disch := first | omega | rfl) only [sB, Nat.reduceEqDiff, z0e, ld3, t1, qt, z0j k1]
  (repeat refine EvC.seq ?_); refine EvC.condT (by simp (config := { maxSteps := 2000000 }) (disch := first | omega | rfl) only [sB, Nat.reduceEqDiff]) ?_; (try refine EvC.skip ?_); (try simp only [z02, z03])
  (repeat refine EvC.seq ?_); refine EvC.reg ?_; simp (config := { maxSteps := 2000000 }) (disch := first | omega | rfl) only [sB, Nat.reduceEqDiff, ld25, cl57, t1, qt]
  refine (zes (r0.mono hx hw) hc hx.wf).mono ?_
  rintro v H5 ⟨hx5, out, rfl, hob⟩
  obtain ⟨ta, tc, sa, sc, rfl⟩ := hob.rep.eight
  have gq5 := hx5.get hx.wf gq
  have n5 := hx5.next
  have nx := hx.next
  repeat' (first | refine EvC.seq ?_ | refine EvC.scope ?_ | refine EvC.block ?_ | (refine EvC.skip ?_) | (refine EvC.exit ?_) | (refine EvC.ret ?_; try simp only [z01, z00]) | (refine z0i ?_; simp (config := { maxSteps := 2000000 }) (disch := first | omega | rfl) only [sB, Nat.reduceAdd, one, st30, t2, gq5]))
  refine z0b rfl (by simp only [sB, Nat.reduceEqDiff, t2] <;> rfl) (by simp only [sB, Nat.reduceAdd, cutC, ld30] <;> rfl) (by simp only [sB, Nat.reduceEqDiff] <;> rfl) ⟨(hx.trans hx5).pt (by omega) gq5 _, _, callB t, by rw [hbd]; rfl, ?_, fun b h => by rw [hbd] at h; cases h; rfl⟩
  exact hob.to (fun n hn hl => ⟨by have := hn.1; rw [get_put, if_neg (by omega)], by rw [z07]; exact hl⟩) fun n hn => ⟨by have := hn.1; omega, by rw [z07]; exact hn.2⟩
 (repeat refine EvC.seq ?_); refine EvC.reg ?_; simp (config := { maxSteps := 2000000 }) (disch := first | omega | rfl) only [sB, Nat.reduceEqDiff, z0e, ld3, t1, qt, z0l k1]
 (repeat refine EvC.seq ?_); refine EvC.condF (by simp (config := { maxSteps := 2000000 }) (disch := first | omega | rfl) only [sB, Nat.reduceEqDiff]) ?_; (try refine EvC.skip ?_); (try simp only [z02, z03])
 refine EvC.frame (fun tm => tm.get 1 = some (.pointer (some ⟨H.next, 0, none⟩)) ∧ tm.get 2 = some (.pointer (some ⟨H.next + 1, 0, none⟩))) ⟨(by simp only [sG, Nat.reduceEqDiff, t1] <;> rfl), (by simp only [sG, Nat.reduceEqDiff, t2] <;> rfl)⟩ ?_
 clear t1 t2 tm
 rintro tm ⟨t1, t2⟩
 by_cases ktrue : t.kind = 2 ∧ t.name = sTrue
 ·have hbd : bodyF (m + 1) t = some (.mk 1 zeroT []) := by rw [bodyF, if_neg hn, if_neg k1, if_pos ktrue]
  (repeat refine EvC.seq ?_); refine EvC.reg ?_; simp (config := { maxSteps := 2000000 }) (disch := first | omega | rfl) only [sB, Nat.reduceEqDiff, z0e, ld3, z1v, ld9, t1, qt, z0j ktrue.1, z0v, z67 ktrue.2]
  (repeat refine EvC.seq ?_); refine EvC.condT (by simp (config := { maxSteps := 2000000 }) (disch := first | omega | rfl) only [sB, Nat.reduceEqDiff]) ?_; (try refine EvC.skip ?_); (try simp only [z02, z03])
  have lq := hx.wf _ _ gq
  repeat' (first | refine EvC.seq ?_ | refine EvC.scope ?_ | refine EvC.block ?_ | (refine EvC.skip ?_) | (refine EvC.exit ?_) | (refine EvC.ret ?_; try simp only [z01, z00]) | (refine EvC.reg ?_; simp (config := { maxSteps := 2000000 }) (disch := first | omega | rfl) only [sB, Nat.reduceEqDiff, Nat.reduceAdd, Value.cells, one, Nat.reduceLeDiff, layC, bd30, st30, t2, gq]))
  refine z0b rfl (by simp only [sB, Nat.reduceEqDiff, t2] <;> rfl) (by simp only [sB, Nat.reduceAdd, cutC, ld30] <;> rfl) (by simp only [sB, Nat.reduceEqDiff] <;> rfl) ⟨hx.pt (by omega) gq _, _, .mk 1 zeroT [], by rw [hbd]; rfl, OB.nil (by decide), fun b h => by rw [hbd] at h; cases h; rfl⟩
 (repeat refine EvC.seq ?_)
 refine EvC.meet (fun st => ∃ tm', st = ⟨tm', [], H3⟩ ∧ tm'.get 1 = some (.pointer (some ⟨H.next, 0, none⟩)) ∧ tm'.get 2 = some (.pointer (some ⟨H.next + 1, 0, none⟩)) ∧ tm'.get 19 = some (.bool false)) ?_ ?_
 ·by_cases k2 : t.kind = 2
  ·have kn : t.name ≠ sTrue := fun h => ktrue ⟨k2, h⟩
   (repeat refine EvC.seq ?_); refine EvC.reg ?_; simp (config := { maxSteps := 2000000 }) (disch := first | omega | rfl) only [sB, Nat.reduceEqDiff, z0e, ld3, z1v, ld9, t1, qt, z0j k2, z0v, z8p kn]
   exact ⟨_, rfl, (by simp only [sG, Nat.reduceEqDiff, t1] <;> rfl), (by simp only [sG, Nat.reduceEqDiff, t2] <;> rfl), by first | (simp only [sG, Nat.reduceEqDiff]; rfl) | simp only [sG, Nat.reduceEqDiff]⟩
  ·(repeat refine EvC.seq ?_); refine EvC.reg ?_; simp (config := { maxSteps := 2000000 }) (disch := first | omega | rfl) only [sB, Nat.reduceEqDiff, z0e, ld3, t1, qt, z0l k2, Bool.false_eq_true]
   exact ⟨_, rfl, (by simp only [sG, Nat.reduceEqDiff, t1] <;> rfl), (by simp only [sG, Nat.reduceEqDiff, t2] <;> rfl), by first | (simp only [sG, Nat.reduceEqDiff]; rfl) | simp only [sG, Nat.reduceEqDiff]⟩
 clear t1 t2 tm
 rintro st ⟨tm, rfl, t1, t2, tc⟩
 simp only [z02]
 (repeat refine EvC.seq ?_); refine EvC.condF (by simp (config := { maxSteps := 2000000 }) (disch := first | omega | rfl) only [sA, tc]) ?_; (try refine EvC.skip ?_); (try simp only [z02, z03])
 clear tc
 by_cases kexc : t.kind = 2 ∧ t.name = sExc
 ·have hbd : bodyF (m + 1) t = some (.mk 2 zeroT []) := by rw [bodyF, if_neg hn, if_neg k1, if_neg ktrue, if_pos kexc]
  (repeat refine EvC.seq ?_); refine EvC.reg ?_; simp (config := { maxSteps := 2000000 }) (disch := first | omega | rfl) only [sB, Nat.reduceEqDiff, z0e, ld3, z1v, ld9, t1, qt, z0j kexc.1, z0v, z67 kexc.2]
  (repeat refine EvC.seq ?_); refine EvC.condT (by simp (config := { maxSteps := 2000000 }) (disch := first | omega | rfl) only [sB, Nat.reduceEqDiff]) ?_; (try refine EvC.skip ?_); (try simp only [z02, z03])
  have lq := hx.wf _ _ gq
  repeat' (first | refine EvC.seq ?_ | refine EvC.scope ?_ | refine EvC.block ?_ | (refine EvC.skip ?_) | (refine EvC.exit ?_) | (refine EvC.ret ?_; try simp only [z01, z00]) | (refine EvC.reg ?_; simp (config := { maxSteps := 2000000 }) (disch := first | omega | rfl) only [sB, Nat.reduceEqDiff, Nat.reduceAdd, Value.cells, one, Nat.reduceLeDiff, layC, bd30, st30, t2, gq]))
  refine z0b rfl (by simp only [sB, Nat.reduceEqDiff, t2] <;> rfl) (by simp only [sB, Nat.reduceAdd, cutC, ld30] <;> rfl) (by simp only [sB, Nat.reduceEqDiff] <;> rfl) ⟨hx.pt (by omega) gq _, _, .mk 2 zeroT [], by rw [hbd]; rfl, OB.nil (by decide), fun b h => by rw [hbd] at h; cases h; rfl⟩
 (repeat refine EvC.seq ?_)
 refine EvC.meet (fun st => ∃ tm', st = ⟨tm', [], H3⟩ ∧ tm'.get 1 = some (.pointer (some ⟨H.next, 0, none⟩)) ∧ tm'.get 2 = some (.pointer (some ⟨H.next + 1, 0, none⟩)) ∧ tm'.get 28 = some (.bool false)) ?_ ?_
 ·by_cases k2 : t.kind = 2
  ·have kn : t.name ≠ sExc := fun h => kexc ⟨k2, h⟩
   (repeat refine EvC.seq ?_); refine EvC.reg ?_; simp (config := { maxSteps := 2000000 }) (disch := first | omega | rfl) only [sB, Nat.reduceEqDiff, z0e, ld3, z1v, ld9, t1, qt, z0j k2, z0v, z8p kn]
   exact ⟨_, rfl, (by simp only [sG, Nat.reduceEqDiff, t1] <;> rfl), (by simp only [sG, Nat.reduceEqDiff, t2] <;> rfl), by first | (simp only [sG, Nat.reduceEqDiff]; rfl) | simp only [sG, Nat.reduceEqDiff]⟩
  ·(repeat refine EvC.seq ?_); refine EvC.reg ?_; simp (config := { maxSteps := 2000000 }) (disch := first | omega | rfl) only [sB, Nat.reduceEqDiff, z0e, ld3, t1, qt, z0l k2, Bool.false_eq_true]
   exact ⟨_, rfl, (by simp only [sG, Nat.reduceEqDiff, t1] <;> rfl), (by simp only [sG, Nat.reduceEqDiff, t2] <;> rfl), by first | (simp only [sG, Nat.reduceEqDiff]; rfl) | simp only [sG, Nat.reduceEqDiff]⟩
 clear t1 t2 tm
 rintro st ⟨tm, rfl, t1, t2, tc⟩
 simp only [z02]
 (repeat refine EvC.seq ?_); refine EvC.condF (by simp (config := { maxSteps := 2000000 }) (disch := first | omega | rfl) only [sA, tc]) ?_; (try refine EvC.skip ?_); (try simp only [z02, z03])
 clear tc
 (repeat refine EvC.seq ?_); refine EvC.reg ?_; simp (config := { maxSteps := 2000000 }) (disch := first | omega | rfl) only [sB, ld25, cl58, t1, qt]
 refine (z8t (s := sCol) (r0.mono hx hw) hx.wf).mono ?_
 clear qt
 rintro v G1 ⟨rfl, hx3⟩
 replace gt := hx3.get hx.wf gt
 replace gq := hx3.get hx.wf gq
 replace hx := hx.trans hx3
 clear hx3
 have qt := row6 gt
 by_cases hF : isF t sCol
 ·have hd : decide (isF t sCol) = true := decide_eq_true hF
  have hbd : bodyF (m + 1) t = withinF (bodyF m) t := by rw [bodyF, if_neg hn, if_neg k1, if_neg ktrue, if_neg kexc, if_pos hF]
  try simp (config := { maxSteps := 2000000 }) (disch := first | omega | rfl) only []
  (repeat refine EvC.seq ?_); refine EvC.condT (by simp (config := { maxSteps := 2000000 }) (disch := first | omega | rfl) only [sB, Nat.reduceEqDiff, hd]) ?_; (try refine EvC.skip ?_); (try simp only [z02, z03])
  (repeat refine EvC.seq ?_); refine EvC.reg ?_; simp (config := { maxSteps := 2000000 }) (disch := first | omega | rfl) only [sB, Nat.reduceEqDiff, ld25, cl59, t1, qt]
  refine (zfv hb hs (r0.mono hx hw) hF.2.2 hc hx.wf).mono ?_
  rintro v H5 ⟨hx5, out, bd, rfl, hob, hbdd⟩
  obtain ⟨ta, tc, sa, sc, rfl⟩ := hob.rep.eight
  have gq5 := hx5.get hx.wf gq
  have n5 := hx5.next
  have nx := hx.next
  have lq := hx.wf _ _ gq
  repeat' (first | refine EvC.seq ?_ | refine EvC.scope ?_ | refine EvC.block ?_ | (refine EvC.skip ?_) | (refine EvC.exit ?_) | (refine EvC.ret ?_; try simp only [z01, z00]) | (refine z0i ?_; simp (config := { maxSteps := 2000000 }) (disch := first | omega | rfl) only [sB, Nat.reduceEqDiff, Nat.reduceAdd, one, st30, t2, gq5]))
  refine z0b rfl (by simp only [sB, Nat.reduceEqDiff, t2] <;> rfl) (by simp only [sB, Nat.reduceAdd, cutC, ld30] <;> rfl) (by simp only [sB, Nat.reduceEqDiff] <;> rfl) ⟨(hx.trans hx5).pt (by omega) gq5 _, _, bd, by rw [hbd], ?_, fun b h => hbdd b (by rw [← hbd]; exact h)⟩
  exact hob.to (fun n hn hl => ⟨by have := hn.1; rw [get_put, if_neg (by omega)], by rw [z07]; exact hl⟩) fun n hn => ⟨by have := hn.1; omega, by rw [z07]; exact hn.2⟩
 have fcol := hF
 clear hF
 have hd : decide (isF t sCol) = false := decide_eq_false fcol
 try simp (config := { maxSteps := 2000000 }) (disch := first | omega | rfl) only []
 (repeat refine EvC.seq ?_); refine EvC.condF (by simp (config := { maxSteps := 2000000 }) (disch := first | omega | rfl) only [sB, Nat.reduceEqDiff, hd]) ?_; (try refine EvC.skip ?_); (try simp only [z02, z03])
 clear hd
 refine EvC.frame (fun tm => tm.get 1 = some (.pointer (some ⟨H.next, 0, none⟩)) ∧ tm.get 2 = some (.pointer (some ⟨H.next + 1, 0, none⟩))) ⟨(by simp only [sG, Nat.reduceEqDiff, t1] <;> rfl), (by simp only [sG, Nat.reduceEqDiff, t2] <;> rfl)⟩ ?_
 clear t1 t2 tm
 rintro tm ⟨t1, t2⟩
 (repeat refine EvC.seq ?_); refine EvC.reg ?_; simp (config := { maxSteps := 2000000 }) (disch := first | omega | rfl) only [sB, ld25, cl58, t1, qt]
 refine (z8t (s := sCma) (r0.mono hx hw) hx.wf).mono ?_
 clear qt
 rintro v G2 ⟨rfl, hx3⟩
 replace gt := hx3.get hx.wf gt
 replace gq := hx3.get hx.wf gq
 replace hx := hx.trans hx3
 clear hx3
 have qt := row6 gt
 by_cases hF : isF t sCma
 ·have hd : decide (isF t sCma) = true := decide_eq_true hF
  have hbd : bodyF (m + 1) t = subBF (bodyF m) 4 t.args := by rw [bodyF, if_neg hn, if_neg k1, if_neg ktrue, if_neg kexc, if_neg fcol, if_pos hF]
  try simp (config := { maxSteps := 2000000 }) (disch := first | omega | rfl) only []
  (repeat refine EvC.seq ?_); refine EvC.condT (by simp (config := { maxSteps := 2000000 }) (disch := first | omega | rfl) only [sB, Nat.reduceEqDiff, hd]) ?_; (try refine EvC.skip ?_); (try simp only [z02, z03])
  (repeat refine EvC.seq ?_); refine EvC.reg ?_; simp (config := { maxSteps := 2000000 }) (disch := first | omega | rfl) only [sB, Nat.reduceEqDiff, z0o, ld23, cl60, t1, qt]
  refine (z5j hb (k := 4) (by decide) (rl.mono hx hw) hfew (fun u hu => hlf hu) hx.wf).mono ?_
  rintro v H5 ⟨hx5, out, bd, rfl, hob, hbdd⟩
  obtain ⟨ta, tc, sa, sc, rfl⟩ := hob.rep.eight
  have gq5 := hx5.get hx.wf gq
  have n5 := hx5.next
  have nx := hx.next
  have lq := hx.wf _ _ gq
  repeat' (first | refine EvC.seq ?_ | refine EvC.scope ?_ | refine EvC.block ?_ | (refine EvC.skip ?_) | (refine EvC.exit ?_) | (refine EvC.ret ?_; try simp only [z01, z00]) | (refine z0i ?_; simp (config := { maxSteps := 2000000 }) (disch := first | omega | rfl) only [sB, Nat.reduceEqDiff, Nat.reduceAdd, one, st30, t2, gq5]))
  refine z0b rfl (by simp only [sB, Nat.reduceEqDiff, t2] <;> rfl) (by simp only [sB, Nat.reduceAdd, cutC, ld30] <;> rfl) (by simp only [sB, Nat.reduceEqDiff] <;> rfl) ⟨(hx.trans hx5).pt (by omega) gq5 _, _, bd, by rw [hbd], ?_, fun b h => hbdd b (by rw [← hbd]; exact h)⟩
  exact hob.to (fun n hn hl => ⟨by have := hn.1; rw [get_put, if_neg (by omega)], by rw [z07]; exact hl⟩) fun n hn => ⟨by have := hn.1; omega, by rw [z07]; exact hn.2⟩
 have fcma := hF
 clear hF
 have hd : decide (isF t sCma) = false := decide_eq_false fcma
 try simp (config := { maxSteps := 2000000 }) (disch := first | omega | rfl) only []
 (repeat refine EvC.seq ?_); refine EvC.condF (by simp (config := { maxSteps := 2000000 }) (disch := first | omega | rfl) only [sB, Nat.reduceEqDiff, hd]) ?_; (try refine EvC.skip ?_); (try simp only [z02, z03])
 clear hd
 refine EvC.frame (fun tm => tm.get 1 = some (.pointer (some ⟨H.next, 0, none⟩)) ∧ tm.get 2 = some (.pointer (some ⟨H.next + 1, 0, none⟩))) ⟨(by simp only [sG, Nat.reduceEqDiff, t1] <;> rfl), (by simp only [sG, Nat.reduceEqDiff, t2] <;> rfl)⟩ ?_
 clear t1 t2 tm
 rintro tm ⟨t1, t2⟩
 (repeat refine EvC.seq ?_); refine EvC.reg ?_; simp (config := { maxSteps := 2000000 }) (disch := first | omega | rfl) only [sB, ld25, cl58, t1, qt]
 refine (z8t (s := sArr) (r0.mono hx hw) hx.wf).mono ?_
 clear qt
 rintro v G3 ⟨rfl, hx3⟩
 replace gt := hx3.get hx.wf gt
 replace gq := hx3.get hx.wf gq
 replace hx := hx.trans hx3
 clear hx3
 have qt := row6 gt
 by_cases hF : isF t sArr
 ·have hd : decide (isF t sArr) = true := decide_eq_true hF
  have hbd : bodyF (m + 1) t = subBF (bodyF m) 6 t.args := by rw [bodyF, if_neg hn, if_neg k1, if_neg ktrue, if_neg kexc, if_neg fcol, if_neg fcma, if_pos hF]
  try simp (config := { maxSteps := 2000000 }) (disch := first | omega | rfl) only []
  (repeat refine EvC.seq ?_); refine EvC.condT (by simp (config := { maxSteps := 2000000 }) (disch := first | omega | rfl) only [sB, Nat.reduceEqDiff, hd]) ?_; (try refine EvC.skip ?_); (try simp only [z02, z03])
  (repeat refine EvC.seq ?_); refine EvC.reg ?_; simp (config := { maxSteps := 2000000 }) (disch := first | omega | rfl) only [sB, Nat.reduceEqDiff, z0o, ld23, cl60, t1, qt]
  refine (z5j hb (k := 6) (by decide) (rl.mono hx hw) hfew (fun u hu => hlf hu) hx.wf).mono ?_
  rintro v H5 ⟨hx5, out, bd, rfl, hob, hbdd⟩
  obtain ⟨ta, tc, sa, sc, rfl⟩ := hob.rep.eight
  have gq5 := hx5.get hx.wf gq
  have n5 := hx5.next
  have nx := hx.next
  have lq := hx.wf _ _ gq
  repeat' (first | refine EvC.seq ?_ | refine EvC.scope ?_ | refine EvC.block ?_ | (refine EvC.skip ?_) | (refine EvC.exit ?_) | (refine EvC.ret ?_; try simp only [z01, z00]) | (refine z0i ?_; simp (config := { maxSteps := 2000000 }) (disch := first | omega | rfl) only [sB, Nat.reduceEqDiff, Nat.reduceAdd, one, st30, t2, gq5]))
  refine z0b rfl (by simp only [sB, Nat.reduceEqDiff, t2] <;> rfl) (by simp only [sB, Nat.reduceAdd, cutC, ld30] <;> rfl) (by simp only [sB, Nat.reduceEqDiff] <;> rfl) ⟨(hx.trans hx5).pt (by omega) gq5 _, _, bd, by rw [hbd], ?_, fun b h => hbdd b (by rw [← hbd]; exact h)⟩
  exact hob.to (fun n hn hl => ⟨by have := hn.1; rw [get_put, if_neg (by omega)], by rw [z07]; exact hl⟩) fun n hn => ⟨by have := hn.1; omega, by rw [z07]; exact hn.2⟩
 have farr := hF
 clear hF
 have hd : decide (isF t sArr) = false := decide_eq_false farr
 try simp (config := { maxSteps := 2000000 }) (disch := first | omega | rfl) only []
 (repeat refine EvC.seq ?_); refine EvC.condF (by simp (config := { maxSteps := 2000000 }) (disch := first | omega | rfl) only [sB, Nat.reduceEqDiff, hd]) ?_; (try refine EvC.skip ?_); (try simp only [z02, z03])
 clear hd
 refine EvC.frame (fun tm => tm.get 1 = some (.pointer (some ⟨H.next, 0, none⟩)) ∧ tm.get 2 = some (.pointer (some ⟨H.next + 1, 0, none⟩))) ⟨(by simp only [sG, Nat.reduceEqDiff, t1] <;> rfl), (by simp only [sG, Nat.reduceEqDiff, t2] <;> rfl)⟩ ?_
 clear t1 t2 tm
 rintro tm ⟨t1, t2⟩
 (repeat refine EvC.seq ?_)
 refine EvC.meet (fun st => ∃ tm' G', st = ⟨tm', [], G'⟩ ∧ tm'.get 1 = some (.pointer (some ⟨H.next, 0, none⟩)) ∧ tm'.get 2 = some (.pointer (some ⟨H.next + 1, 0, none⟩)) ∧ tm'.get 58 = some (.bool (decide (isF t sSem ∧ isF (t.at 0) sArr))) ∧ G'.get H.next = some (.row (six t a c) 25) ∧ G'.get (H.next + 1) = some (.row zero8 30) ∧ HX H G') ?_ ?_
 ·(repeat refine EvC.seq ?_); refine EvC.reg ?_; simp (config := { maxSteps := 2000000 }) (disch := first | omega | rfl) only [sB, Nat.reduceEqDiff, ld25, cl58, t1, qt]
  refine (z8t (s := sSem) (r0.mono hx hw) hx.wf).mono ?_
  clear qt
  rintro v H3 ⟨rfl, hx3⟩
  replace gt := hx3.get hx.wf gt
  replace gq := hx3.get hx.wf gq
  replace hx := hx.trans hx3
  clear hx3
  have qt := row6 gt
  by_cases hse : isF t sSem
  rotate_left
  ·have fsa : decide (isF t sSem ∧ isF (t.at 0) sArr) = false := decide_eq_false fun h => hse h.1
   have hd : decide (isF t sSem) = false := decide_eq_false hse
   try simp (config := { maxSteps := 2000000 }) (disch := first | omega | rfl) only [sB, Nat.reduceEqDiff, hd, Bool.false_eq_true]
   exact ⟨_, _, rfl, (by simp only [sG, Nat.reduceEqDiff, t1] <;> rfl), (by simp only [sG, Nat.reduceEqDiff, t2] <;> rfl), by rw [fsa]; first | (simp only [sG, Nat.reduceEqDiff]; rfl) | simp only [sG, Nat.reduceEqDiff], gt, gq, hx⟩
  have hd : decide (isF t sSem) = true := decide_eq_true hse
  obtain ⟨x, y, hxy⟩ : ∃ x y, t.args = [x, y] := by
   match hl : t.args, hse.2.2 with
   | [x, y], _ => exact ⟨x, y, rfl⟩
  have ex : t.at 0 = x := by unfold Tm.at; rw [hxy]; rfl
  have hl2 : t.args.length = 2 := hse.2.2
  have i0 : t.args[0]'(by omega) = x := by simp [hxy]
  obtain ⟨b, o, a1, c1, rfl, hld0, hr0⟩ := rl.el (i := 0) (by omega)
  rw [i0] at hld0 hr0
  simp only [Nat.zero_mul, Nat.add_zero, Nat.one_mul] at hld0
  have l0 := hx.load hw hld0
  try simp (config := { maxSteps := 2000000 }) (disch := first | omega | rfl) only [sB, Nat.reduceEqDiff, Int.reduceToNat, ld25, cl58, z0o, ld23, hd, t1, qt, l0, iz23, Nat.zero_mul]
  refine (z8t (s := sArr) (hr0.mono hx hw) hx.wf).mono ?_
  clear qt
  rintro v H4 ⟨rfl, hx3⟩
  have hde : decide (isF t sSem ∧ isF (t.at 0) sArr) = decide (isF x sArr) := by rw [ex]; simp [hse]
  try simp (config := { maxSteps := 2000000 }) (disch := first | omega | rfl) only []
  exact ⟨_, _, rfl, (by simp only [sG, Nat.reduceEqDiff, t1] <;> rfl), (by simp only [sG, Nat.reduceEqDiff, t2] <;> rfl), by rw [hde]; first | (simp only [sG, Nat.reduceEqDiff]; rfl) | simp only [sG, Nat.reduceEqDiff], hx3.get hx.wf gt, hx3.get hx.wf gq, hx.trans hx3⟩
 clear t1 t2 tm gt gq hx qt
 rintro st ⟨tm, G, rfl, t1, t2, tc, gt, gq, hx⟩
 simp only [z02]
 have qt := row6 gt
 by_cases fsa : isF t sSem ∧ isF (t.at 0) sArr
 ·have hd : decide (isF t sSem ∧ isF (t.at 0) sArr) = true := decide_eq_true fsa
  obtain ⟨x, y, hxy⟩ : ∃ x y, t.args = [x, y] := by
   match hl : t.args, fsa.1.2.2 with
   | [x, y], _ => exact ⟨x, y, rfl⟩
  have ex : t.at 0 = x := by unfold Tm.at; rw [hxy]; rfl
  have ey : t.at 1 = y := by unfold Tm.at; rw [hxy]; rfl
  have hl2 : t.args.length = 2 := fsa.1.2.2
  have fx : isF x sArr := ex ▸ fsa.2
  obtain ⟨p, q, hpq⟩ : ∃ p q, x.args = [p, q] := by
   match hl : x.args, fx.2.2 with
   | [p, q], _ => exact ⟨p, q, rfl⟩
  have ep : (t.at 0).at 0 = p := by rw [ex]; unfold Tm.at; rw [hpq]; rfl
  have eq : (t.at 0).at 1 = q := by rw [ex]; unfold Tm.at; rw [hpq]; rfl
  have hx2 : x.args.length = 2 := fx.2.2
  have i0 : t.args[0]'(by omega) = x := by simp [hxy]
  have i1 : t.args[1]'(by omega) = y := by simp [hxy]
  have j0 : x.args[0]'(by omega) = p := by simp [hpq]
  have j1 : x.args[1]'(by omega) = q := by simp [hpq]
  obtain ⟨b, o, a1, c1, rfl, hld0, hr0⟩ := rl.el (i := 0) (by omega)
  obtain ⟨b', o', a2, c2, e2, hld1, hr1⟩ := rl.el (i := 1) (by omega)
  cases e2
  rw [i0] at hld0 hr0
  rw [i1] at hld1 hr1
  obtain ⟨ax, cx, cellsx, ee, -, -, -, -, -, rlx⟩ := hr0.six
  obtain ⟨-, -, -, -, -, rfl, rfl⟩ := z7l ee
  obtain ⟨bx, ox, a3, c3, rfl, hld2, hr2⟩ := rlx.el (i := 0) (by omega)
  obtain ⟨b'', o'', a4, c4, e4, hld3, hr3⟩ := rlx.el (i := 1) (by omega)
  cases e4
  rw [j0] at hld2 hr2
  rw [j1] at hld3 hr3
  simp only [Nat.zero_mul, Nat.add_zero, Nat.one_mul] at hld0 hld1 hld2 hld3
  have l0 := ldA5 (hx.load hw hld0)
  have l1 := hx.load hw hld1
  have l2 := hx.load hw hld2
  have l3 := hx.load hw hld3
  obtain ⟨L, eL⟩ : ∃ L, six p a3 c3 ++ six q a4 c4 ++ six y a2 c2 = L := ⟨_, rfl⟩
  obtain ⟨Hq, e5⟩ : ∃ Hq, (⟨G.next + 24, G.t⟩ : Heap).put (G.next + 18) (some (.row L 25)) = Hq := ⟨_, rfl⟩
  have hxq : HX G Hq := by rw [← e5]; exact (((HX.refl hx.wf).bump 24).put (by omega) (by show _ < G.next + 24; omega) _)
  have gL : Hq.get (G.next + 18) = some (.row L 25) := by rw [← e5, get_put, if_pos rfl]
  have gq5 := hxq.get hx.wf gq
  have gt5 := hxq.get hx.wf gt
  have hxf := hx.trans hxq
  have rl3 : RepL Hq [p, q, y] (some ⟨G.next + 18, 0, none⟩) 3 (fun i => (L.drop (i * 6)).take 6) := RepL.of_row gL (fun i hi => rfl) (fun i u hu => by
    match i, hu with
    | 0, hu => cases hu; rw [← eL]; exact hr2.mono hxf hw
    | 1, hu => cases hu; rw [← eL]; exact hr3.mono hxf hw
    | 2, hu => cases hu; rw [← eL]; exact hr1.mono hxf hw) (Nat.le_refl _) (by decide)
  have hmx : x ∈ t.args := by rw [hxy]; simp
  have hmy : y ∈ t.args := by rw [hxy]; simp
  have hcx := z1a hc hmx
  have hxl := z0h hmx
  have hcon := z5j hb (k := 6) (by decide) rl3 (by show 3 ≤ 64; decide) (fun u hu => by
    have hux : u ∈ x.args ∨ u = y := by
     rw [hpq]
     simp only [List.mem_cons, List.not_mem_nil, or_false] at hu ⊢
     rcases hu with h | h | h
     ·exact .inl (.inl h)
     ·exact .inl (.inr h)
     ·exact .inr h
    rcases hux with hu | rfl
    ·exact ⟨by have := z0h hu; omega, z1a hcx hu⟩
    ·exact hlf hmy) hxq.wf
  have hbd : bodyF (m + 1) t = subBF (bodyF m) 6 [p, q, y] := by rw [bodyF, if_neg hn, if_neg k1, if_neg ktrue, if_neg kexc, if_neg fcol, if_neg fcma, if_neg farr, if_pos fsa, ep, eq, ey]
  have nx := hx.next
  have lq := hx.wf _ _ gq
  have eL' := eL
  simp only [six, List.cons_append, List.nil_append] at eL'
  have neq : (H.next + 1 = G.next + 18) = False := by simp; omega
  have gq5' := gq5
  (repeat refine EvC.seq ?_); refine EvC.condT (by simp (config := { maxSteps := 2000000 }) (disch := first | omega | rfl) only [sA, tc, hd]) ?_; (try refine EvC.skip ?_); (try simp only [z02, z03])
  clear tc
  (repeat refine EvC.seq ?_); refine EvC.drw [([(0, 0), (1, 0), (2, 0), (3, 0), (4, 0), (5, 0), (6, 0), (7, 0), (8, 0), (9, 0), (10, 0), (11, 0), (12, 0), (13, 0), (14, 0), (15, 0), (16, 0), (17, 0), (18, 0)], some 19), ([(20, 1), (21, 1)], some 22), ([(23, 2)], none)] (by kernel_rfl) ?_; simp (config := { maxSteps := 2000000 }) (disch := first | omega | rfl) only [sD, sB, Nat.reduceEqDiff, Nat.reduceAdd, Value.cells, one, reduceCtorEq, Nat.reduceLeDiff, layC, Int.reduceToNat, ld25, z0o, ld23, cl60, zh1, isAlloc, isRead, dalloc, reduceCtorEq, t1, qt, l0, l1, l2, l3, iz23, Nat.zero_mul, Nat.one_mul, eL', e5]
  refine hcon.mono ?_
  rintro v H5 ⟨hx5, out, bd, rfl, hob, hbdd⟩
  obtain ⟨ta, tc, sa, sc, rfl⟩ := hob.rep.eight
  have gq5 := hx5.get hxq.wf gq5'
  have n5 := hx5.next
  have nx := hxf.next
  have lq := hxq.wf _ _ gq5'
  repeat' (first | refine EvC.seq ?_ | refine EvC.scope ?_ | refine EvC.block ?_ | (refine EvC.skip ?_) | (refine EvC.exit ?_) | (refine EvC.ret ?_; try simp only [z01, z00]) | (refine z1b ?_; simp (config := { maxSteps := 2000000 }) (disch := first | omega | rfl) only [sD, sB, Nat.reduceEqDiff, Nat.reduceAdd, one, st30, t2, gq5, isAlloc, isRead]))
  refine z0b rfl (by simp only [sB, Nat.reduceEqDiff, t2] <;> rfl) (by simp only [sB, Nat.reduceAdd, cutC, ld30] <;> rfl) (by simp only [sB, Nat.reduceEqDiff] <;> rfl) ⟨(hxf.trans hx5).pt (by omega) gq5 _, _, bd, by rw [hbd], ?_, fun b h => hbdd b (by rw [← hbd]; exact h)⟩
  exact hob.to (fun n hn hl => ⟨by have := hn.1; rw [get_put, if_neg (by omega)], by rw [z07]; exact hl⟩) fun n hn => ⟨by have := hn.1; omega, by rw [z07]; exact hn.2⟩
 have hd : decide (isF t sSem ∧ isF (t.at 0) sArr) = false := decide_eq_false fsa
 (repeat refine EvC.seq ?_); refine EvC.condF (by simp (config := { maxSteps := 2000000 }) (disch := first | omega | rfl) only [sA, tc, hd]) ?_; (try refine EvC.skip ?_); (try simp only [z02, z03])
 clear tc hd
 (repeat refine EvC.seq ?_); refine EvC.reg ?_; simp (config := { maxSteps := 2000000 }) (disch := first | omega | rfl) only [sB, ld25, cl58, t1, qt]
 refine (z8t (s := sSem) (r0.mono hx hw) hx.wf).mono ?_
 clear qt
 rintro v G4 ⟨rfl, hx3⟩
 replace gt := hx3.get hx.wf gt
 replace gq := hx3.get hx.wf gq
 replace hx := hx.trans hx3
 clear hx3
 have qt := row6 gt
 by_cases hF : isF t sSem
 ·have hd : decide (isF t sSem) = true := decide_eq_true hF
  have hbd : bodyF (m + 1) t = subBF (bodyF m) 5 t.args := by rw [bodyF, if_neg hn, if_neg k1, if_neg ktrue, if_neg kexc, if_neg fcol, if_neg fcma, if_neg farr, if_neg fsa, if_pos hF]
  try simp (config := { maxSteps := 2000000 }) (disch := first | omega | rfl) only []
  (repeat refine EvC.seq ?_); refine EvC.condT (by simp (config := { maxSteps := 2000000 }) (disch := first | omega | rfl) only [sB, Nat.reduceEqDiff, hd]) ?_; (try refine EvC.skip ?_); (try simp only [z02, z03])
  (repeat refine EvC.seq ?_); refine EvC.reg ?_; simp (config := { maxSteps := 2000000 }) (disch := first | omega | rfl) only [sB, Nat.reduceEqDiff, z0o, ld23, cl60, t1, qt]
  refine (z5j hb (k := 5) (by decide) (rl.mono hx hw) hfew (fun u hu => hlf hu) hx.wf).mono ?_
  rintro v H5 ⟨hx5, out, bd, rfl, hob, hbdd⟩
  obtain ⟨ta, tc, sa, sc, rfl⟩ := hob.rep.eight
  have gq5 := hx5.get hx.wf gq
  have n5 := hx5.next
  have nx := hx.next
  have lq := hx.wf _ _ gq
  repeat' (first | refine EvC.seq ?_ | refine EvC.scope ?_ | refine EvC.block ?_ | (refine EvC.skip ?_) | (refine EvC.exit ?_) | (refine EvC.ret ?_; try simp only [z01, z00]) | (refine z0i ?_; simp (config := { maxSteps := 2000000 }) (disch := first | omega | rfl) only [sB, Nat.reduceEqDiff, Nat.reduceAdd, one, st30, t2, gq5]))
  refine z0b rfl (by simp only [sB, Nat.reduceEqDiff, t2] <;> rfl) (by simp only [sB, Nat.reduceAdd, cutC, ld30] <;> rfl) (by simp only [sB, Nat.reduceEqDiff] <;> rfl) ⟨(hx.trans hx5).pt (by omega) gq5 _, _, bd, by rw [hbd], ?_, fun b h => hbdd b (by rw [← hbd]; exact h)⟩
  exact hob.to (fun n hn hl => ⟨by have := hn.1; rw [get_put, if_neg (by omega)], by rw [z07]; exact hl⟩) fun n hn => ⟨by have := hn.1; omega, by rw [z07]; exact hn.2⟩
 have fsem := hF
 clear hF
 have hd : decide (isF t sSem) = false := decide_eq_false fsem
 try simp (config := { maxSteps := 2000000 }) (disch := first | omega | rfl) only []
 (repeat refine EvC.seq ?_); refine EvC.condF (by simp (config := { maxSteps := 2000000 }) (disch := first | omega | rfl) only [sB, Nat.reduceEqDiff, hd]) ?_; (try refine EvC.skip ?_); (try simp only [z02, z03])
 clear hd
 refine EvC.frame (fun tm => tm.get 1 = some (.pointer (some ⟨H.next, 0, none⟩)) ∧ tm.get 2 = some (.pointer (some ⟨H.next + 1, 0, none⟩))) ⟨(by simp only [sG, Nat.reduceEqDiff, t1] <;> rfl), (by simp only [sG, Nat.reduceEqDiff, t2] <;> rfl)⟩ ?_
 clear t1 t2 tm
 rintro tm ⟨t1, t2⟩
 have hbd : bodyF (m + 1) t = some (.mk 3 t []) := by rw [bodyF, if_neg hn, if_neg k1, if_neg ktrue, if_neg kexc, if_neg fcol, if_neg fcma, if_neg farr, if_neg fsa, if_neg fsem]
 (repeat refine EvC.seq ?_); refine EvC.reg ?_; simp (config := { maxSteps := 2000000 }) (disch := first | omega | rfl) only [sB, Nat.reduceEqDiff, Nat.reduceAdd, Value.cells, one, Nat.reduceLeDiff, layC, ld25, bd30, cl6, t1, qt]
 refine (z4a (r0.mono hx hw) (few6 hc) hx.wf).mono ?_
 rintro v H5 ⟨hx5, out, rfl, hot⟩
 obtain ⟨ta, tc, cellst, rfl, -⟩ := hot.rep.six
 have gq5 := hx5.get hx.wf gq
 have n5 := hx5.next
 have nx := hx.next
 have lq := hx.wf _ _ gq
 repeat' (first | refine EvC.seq ?_ | refine EvC.scope ?_ | refine EvC.block ?_ | (refine EvC.skip ?_) | (refine EvC.exit ?_) | (refine EvC.ret ?_; try simp only [z01, z00]) | (refine z0i ?_; simp (config := { maxSteps := 2000000 }) (disch := first | omega | rfl) only [sB, Nat.reduceEqDiff, Nat.reduceAdd, one, Nat.reduceLeDiff, st30, t2, gq5]))
 have hot' : OT (H5.put (H.next + 1) (some (.row (eightT 3 t ta tc none 0 0) 30))) (Rg H.next H5.next) t (six t ta tc) := hot.to fun n hn hl => ⟨by have := hn.1; rw [get_put, if_neg (by omega)], ⟨by have := hn.1; omega, hl⟩, by rw [z07]; exact hl⟩
 exact z0b rfl (by simp only [sB, Nat.reduceEqDiff, t2] <;> rfl) (by simp only [sB, Nat.reduceAdd, cutC, ld30] <;> rfl) (by simp only [sB, Nat.reduceEqDiff] <;> rfl) ⟨(hx.trans hx5).pt (by omega) gq5 _, _, .mk 3 t [], by rw [hbd]; rfl, .leaf _ 3 t (six t ta tc) (by decide) hot'.1 hot'.2, fun b h => by rw [hbd] at h; cases h; rfl⟩
theorem z9r : ∀ m : Nat, RBodyP m
 | 0 => fun t cs H h => absurd h (Nat.not_lt_zero _)
 | m + 1 => fun t cs H hs r hc hw => zil (z9r m) hs r hc hw
set_option maxHeartbeats 16000000 in
theorem zk7 {m : Nat} : ∀ {u : Bdy} {cs : List Value} {S : Nat → Prop} {H : Heap}, SizeOf.sizeOf u < m → RepBI H S u cs → FewB 1000000 u → (∀ n, S n → n < H.next) → H.wf →
  EvF Tryd.prog okT 54 [.agg ⟨cs⟩] H fun v H' => HX H H' ∧ ∃ out, v = .agg ⟨out⟩ ∧ RepS H' (fun n => S n ∨ (H.next ≤ n ∧ n < H'.next)) (toldB u) out := by
 induction m with
 | zero => intro u cs S H h; omega
 | succ m ih =>
 intro u cs S H hsz r hfew hS hw
 have hlen := hfew.len
 have ean : apOk Tryd.prog 23 25 6 := ap23
 obtain ⟨ta, tc, a, c, cells, rfl, hk, hr, hlc, hcm, hel⟩ := r.inv
 refine EvF.enter rfl Tryd.func54 (by decide) rfl ?_
 (repeat refine EvC.seq ?_); refine EvC.reg ?_; simp (config := { maxSteps := 2000000 }) (disch := first | omega | rfl) only [sB, initTm, dBox, dAlloc, Value.cells, one, zr25]
 obtain ⟨H2, e2, hx2, gb, gq, hn2, hw2⟩ := new2 hw (.row (eightT u.kind u.term ta tc a u.sub.length c) 30) (.row zero6 25)
 simp only [e2]
 clear e2
 have qb := row8 gb
 have hmx : u.sub.length ≤ 9223372036854775807 := by omega
 (repeat refine EvC.seq ?_); refine EvC.reg ?_; simp (config := { maxSteps := 2000000 }) (disch := first | omega | rfl) only [sA]
 (repeat refine EvC.seq ?_); refine EvC.reg ?_; simp (config := { maxSteps := 2000000 }) (disch := first | omega | rfl) only [sA]
 refine EvC.join (fun st => ∃ tm G ao co, st = ⟨tm, [], G⟩ ∧ tm.get 1 = some (.pointer (some ⟨H.next, 0, none⟩)) ∧ tm.get 2 = some (.pointer (some ⟨H.next + 1, 0, none⟩)) ∧ tm.get 3 = some (.slice ao u.sub.length co) ∧
  G.get H.next = some (.row (eightT u.kind u.term ta tc a u.sub.length c) 30) ∧ G.get (H.next + 1) = some (.row zero6 25) ∧
  LT G 25 (fun n => (S n ∨ (H.next + 2 ≤ n ∧ n < G.next)) ∧ ao ≠ some ⟨n, 0, none⟩) (u.sub.map toldB) ao co ∧ (∀ n, ao = some ⟨n, 0, none⟩ → H.next + 2 ≤ n ∧ n < G.next) ∧ HX H G) ?_ ?_
 ·refine EvC.block (EvC.loop (fun k' st => ∃ tm G i ao co, st = ⟨tm, [], G⟩ ∧ k' = u.sub.length - i ∧ i ≤ u.sub.length ∧ tm.get 1 = some (.pointer (some ⟨H.next, 0, none⟩)) ∧ tm.get 2 = some (.pointer (some ⟨H.next + 1, 0, none⟩)) ∧ tm.get 3 = some (.slice ao i co) ∧
   tm.get 4 = some (.int .i64 (i : Nat)) ∧
   G.get H.next = some (.row (eightT u.kind u.term ta tc a u.sub.length c) 30) ∧ G.get (H.next + 1) = some (.row zero6 25) ∧
   LT G 25 (fun n => (S n ∨ (H.next + 2 ≤ n ∧ n < G.next)) ∧ ao ≠ some ⟨n, 0, none⟩) ((u.sub.take i).map toldB) ao co ∧ (∀ n, ao = some ⟨n, 0, none⟩ → H.next + 2 ≤ n ∧ n < G.next) ∧ HX H G) ?_ u.sub.length _ ?_)
  rotate_left
  ·exact ⟨_, _, 0, none, 0, rfl, rfl, Nat.zero_le _, (by simp only [sG, Nat.reduceEqDiff, reduceCtorEq] <;> rfl), (by simp only [sG, Nat.reduceEqDiff, reduceCtorEq] <;> rfl), (by simp only [sG, Nat.reduceEqDiff, reduceCtorEq] <;> rfl), (by simp only [sB, Nat.reduceEqDiff, reduceCtorEq] <;> rfl), gb, gq, .nil, fun n h => (by cases h), hx2⟩
  rintro k' st ⟨tm, G, i, ao, co, rfl, rfl, hi, t1, t2, t3, t4, gbG, gqG, hlt', hao, hxG⟩
  have qbG := row8 gbG
  have hwG := hxG.wf
  by_cases hlt : i < u.sub.length
  rotate_left
  ·repeat' (first | refine EvC.seq ?_ | refine EvC.scope ?_ | refine EvC.block ?_ | (refine EvC.skip ?_) | (refine EvC.exit ?_; try simp only [sB]) | (refine EvC.ret ?_; try simp only [z01, z00]) | (refine EvC.reg ?_; simp (config := { maxSteps := 2000000 }) (disch := first | omega | rfl) only [sB, Nat.reduceEqDiff, z2c, ld28, ln28, t1, t4, qbG, decn hlt]) | (refine EvC.condT ?_ ?_; simp (config := { maxSteps := 2000000 }) (disch := first | omega | rfl) only [sB, Nat.reduceEqDiff]; refine z06 ?_) | (refine EvC.condF ?_ ?_; simp (config := { maxSteps := 2000000 }) (disch := first | omega | rfl) only [sB, Nat.reduceEqDiff]; refine z06 ?_))
   obtain rfl : i = u.sub.length := by omega
   rw [List.take_length] at hlt'
   exact ⟨_, _, ao, co, rfl, (by simp only [sG, Nat.reduceEqDiff, t1] <;> rfl), (by simp only [sG, Nat.reduceEqDiff, t2] <;> rfl), (by simp only [sG, Nat.reduceEqDiff, t3] <;> rfl), gbG, gqG, hlt', hao, hxG⟩
  obtain ⟨b, o, rfl, hSb, hbl, hld, hri⟩ := hel i hlt
  obtain ⟨ta1, tc1, a1, c1, cells1, e1, -⟩ := hri.inv
  rw [e1] at hld hri
  have hld1 := hxG.load hw hld
  (repeat refine EvC.seq ?_); refine EvC.reg ?_; simp (config := { maxSteps := 2000000 }) (disch := first | omega | rfl) only [sB, Nat.reduceEqDiff, z2c, ld28, ln28, t1, t4, qbG, decl hlt]
  (repeat refine EvC.seq ?_); refine EvC.condT (by simp (config := { maxSteps := 2000000 }) (disch := first | omega | rfl) only [sB, Nat.reduceEqDiff]) ?_; (try refine EvC.skip ?_); (try simp only [z02, z03])
  refine EvC.seq ?_
  refine EvC.block ?_
  (repeat refine EvC.seq ?_); refine EvC.reg ?_; simp (config := { maxSteps := 2000000 }) (disch := first | omega | rfl) only [sB, Nat.reduceEqDiff, Nat.reduceAdd, Value.cells, layC, z2c, ld28, ia28, ld30, cl54, z59, t1, t3, t4, qbG, hld1]
  have hsz1 := Bdy.size u u.sub[i] (List.getElem_mem _)
  refine (ih (u := u.sub[i]) (by omega) (hri.to fun n hn hl => ⟨hxG.keep n hl, hn, Nat.lt_of_lt_of_le hl hxG.next⟩) (hfew.sub _ (List.getElem_mem _)) (fun n hn => Nat.lt_of_lt_of_le (hS n hn) hxG.next) hwG).mono ?_
  rintro v H5 ⟨hx5, out, rfl, hrep⟩
  obtain ⟨t6, k6, cells6, rfl, -⟩ := hrep.rep.six
  try simp (config := { maxSteps := 2000000 }) (disch := first | omega | rfl) only [sB, Nat.reduceEqDiff, Nat.reduceAdd, one]
  obtain ⟨H6, e6, hx6, g6, hn6, hw6⟩ := new1 hx5.wf (.row (six (toldB u.sub[i]) t6 k6) 25)
  simp only [e6]
  clear e6
  have hx46 := hx5.trans hx6
  have n5 := hx5.next
  have nG := hxG.next
  have lqG := hwG _ _ gqG
  have etl : ((u.sub.take i).map toldB).length = i := by rw [List.length_map, List.length_take]; omega
  obtain ⟨H7, e7, hlt7, hk7, hn7⟩ := LT.push (P := Tryd.prog) (t := 23) (E' := fun n => (S n ∨ (H.next + 2 ≤ n ∧ n < H6.next + 1)) ∧ (some ⟨H6.next, 0, none⟩ : Option Addr) ≠ some ⟨n, 0, none⟩) (E2 := fun n => S n ∨ (G.next ≤ n ∧ n < H5.next)) (u := toldB u.sub[i]) (c1 := 1) ean
   (hlt'.to (H' := H6) (E' := fun n => (S n ∨ (H.next + 2 ≤ n ∧ n < G.next)) ∧ ao ≠ some ⟨n, 0, none⟩) (fun n _ hl => hx46.keep n hl) hx46.next (fun n hn => hn) fun n hn h => h.2 hn) hw6 (ld1 g6 rfl) (hrep.to fun n hn hl => ⟨hx6.keep n hl, hn, by omega⟩)
   (fun n hn ha => by
    have h1 := hao n ha
    rcases hn with hn | hn
    ·have := hS n hn; omega
    ·omega) (fun n hn => by
    rcases hn.1 with h | h
    ·have := hS n h; omega
    ·omega) (fun n hn => by
    rcases hn with h | h
    ·have := hS n h; omega
    ·omega) (by rw [etl]; unfold most; omega) (fun n hn => by
    rcases hn with ⟨h, _⟩ | h
    ·refine ⟨h.imp_right fun h => ⟨h.1, by omega⟩, fun e => ?_⟩
     injection e with e; injection e with e
     rcases h with h | h
     ·have := hS n h; omega
     ·omega
    ·refine ⟨h.imp_right fun h => ⟨by omega, by omega⟩, fun e => ?_⟩
     injection e with e; injection e with e
     rcases h with h | h
     ·have := hS n h; omega
     ·omega) (fun h => h.2 rfl)
  rw [etl] at e7 hlt7
  have ha1 : ao ≠ some ⟨H.next, 0, none⟩ := fun h => by have := hao _ h; omega
  have ha2 : ao ≠ some ⟨H.next + 1, 0, none⟩ := fun h => by have := hao _ h; omega
  have gb7 := hk7.get hw6 (hx46.get hwG gbG) ha1
  have gq7 := hk7.get hw6 (hx46.get hwG gqG) ha2
  have hx7 : HX H H7 := (hxG.trans hx46).then hk7 fun n hn h => by have := hao _ h; omega
  repeat' (first | refine EvC.seq ?_ | refine EvC.scope ?_ | refine EvC.block ?_ | (refine EvC.skip ?_) | (refine EvC.exit ?_) | (refine EvC.ret ?_; try simp only [z01, z00]) | (refine EvC.reg ?_; simp (config := { maxSteps := 2000000 }) (disch := first | omega | rfl) only [sB, Nat.reduceEqDiff, t4, z0c]) | (refine z0i ?_; simp (config := { maxSteps := 2000000 }) (disch := first | omega | rfl) only [sB, Nat.reduceEqDiff, e7]))
  refine ⟨u.sub.length - (i + 1), by omega, _, _, i + 1, some ⟨H6.next, 0, none⟩, i + 1, rfl, rfl, by omega, (by simp only [sG, Nat.reduceEqDiff, t1] <;> rfl), (by simp only [sG, Nat.reduceEqDiff, t2] <;> rfl), (by simp only [sG, Nat.reduceEqDiff] <;> rfl), (by simp only [sB, Nat.reduceEqDiff] <;> rfl), gb7, gq7, ?_, fun n h => by injection h with h; injection h with h; omega, hx7⟩
  rw [← List.take_append_getElem hlt, List.map_append, hn7]
  exact hlt7
 rintro st ⟨tm, G, ao, co, rfl, t1, t2, t3, gb, gq, hlt', hao, hxG⟩
 have qb := row8 gb
 have htold := zem u
 have hll : (u.sub.map toldB).length = u.sub.length := List.length_map _
 have hww := hxG.wf
 have lq := hww _ _ gq
 have hcm' : co ≤ maxLen := by
  rcases hlt' with ⟨-, -, rfl⟩ | ⟨b, cells, -, -, h, -⟩
  ·exact Nat.zero_le _
  ·exact h
 have hrG : RepS G S u.term (six u.term ta tc) := hr.to fun n hn hl => ⟨hxG.keep n hl, hn, Nat.lt_of_lt_of_le hl hxG.next⟩
 have nG := hxG.next
 simp only [z02]
 generalize hL : u.sub.map toldB = L at htold hll hlt'
 (repeat refine EvC.seq ?_); refine EvC.reg ?_; simp (config := { maxSteps := 2000000 }) (disch := first | omega | rfl) only [sB, z1m, ld3, t1, qb]
 refine EvC.join (fun st => ∃ tm', st = ⟨tm', [], G⟩ ∧ tm'.get 2 = some (.pointer (some ⟨H.next + 1, 0, none⟩)) ∧ toldB u = atmT sTrue) ?_ ?_
 rotate_left
 ·rintro st ⟨tm, rfl, t2, htr⟩
  (repeat refine EvC.seq ?_); refine EvC.reg ?_; simp (config := { maxSteps := 2000000 }) (disch := first | omega | rfl) only [sB, Nat.reduceEqDiff, cl21]
  refine (zk6 hww).mono ?_
  rintro v H5 ⟨rfl, hx5⟩
  have n5 := hx5.next
  have gq5 := hx5.get hww gq
  repeat' (first | refine EvC.seq ?_ | refine EvC.scope ?_ | refine EvC.block ?_ | (refine EvC.skip ?_) | (refine EvC.exit ?_) | (refine EvC.ret ?_; try simp only [z01, z00]) | (refine z0i ?_; simp (config := { maxSteps := 2000000 }) (disch := first | omega | rfl) only [sB, Nat.reduceAdd, one, st25, t2, gq5]))
  refine z0a rfl (by simp only [sB, Nat.reduceEqDiff, t2] <;> rfl) (by simp only [sB, Nat.reduceAdd, cutC, ld25] <;> rfl) ⟨(hxG.trans hx5).pt (by omega) gq5 _, _, rfl, ?_⟩
  rw [htr]
  exact z2x (by decide)
 refine EvC.block ?_
 by_cases k2 : u.kind = 2
 ·(repeat refine EvC.seq ?_); refine EvC.reg ?_; simp (config := { maxSteps := 2000000 }) (disch := first | omega | rfl) only [sB, Nat.reduceEqDiff, z0j k2]
  (repeat refine EvC.seq ?_); refine EvC.condT (by simp (config := { maxSteps := 2000000 }) (disch := first | omega | rfl) only [sB, Nat.reduceEqDiff]) ?_; (try refine EvC.skip ?_); (try simp only [z02, z03])
  (repeat refine EvC.seq ?_); refine EvC.reg ?_; simp (config := { maxSteps := 2000000 }) (disch := first | omega | rfl) only [sB, Nat.reduceEqDiff, cl21]
  refine (zk6 hww).mono ?_
  rintro v H5 ⟨rfl, hx5⟩
  have n5 := hx5.next
  have gq5 := hx5.get hww gq
  repeat' (first | refine EvC.seq ?_ | refine EvC.scope ?_ | refine EvC.block ?_ | (refine EvC.skip ?_) | (refine EvC.exit ?_) | (refine EvC.ret ?_; try simp only [z01, z00]) | (refine z0i ?_; simp (config := { maxSteps := 2000000 }) (disch := first | omega | rfl) only [sB, Nat.reduceAdd, one, st25, t2, gq5]))
  refine z0a rfl (by simp only [sB, Nat.reduceEqDiff, t2] <;> rfl) (by simp only [sB, Nat.reduceAdd, cutC, ld25] <;> rfl) ⟨(hxG.trans hx5).pt (by omega) gq5 _, _, rfl, ?_⟩
  rw [htold, tellB, if_pos k2]
  exact z2x (by decide)
 (repeat refine EvC.seq ?_); refine EvC.reg ?_; simp (config := { maxSteps := 2000000 }) (disch := first | omega | rfl) only [sB, Nat.reduceEqDiff, z0l k2]
 (repeat refine EvC.seq ?_); refine EvC.condF (by simp (config := { maxSteps := 2000000 }) (disch := first | omega | rfl) only [sB, Nat.reduceEqDiff]) ?_; (try refine EvC.skip ?_); (try simp only [z02, z03])
 by_cases k3 : u.kind = 3
 ·(repeat refine EvC.seq ?_); refine EvC.reg ?_; simp (config := { maxSteps := 2000000 }) (disch := first | omega | rfl) only [sB, Nat.reduceEqDiff, z0j k3]
  (repeat refine EvC.seq ?_); refine EvC.condT (by simp (config := { maxSteps := 2000000 }) (disch := first | omega | rfl) only [sB, Nat.reduceEqDiff]) ?_; (try refine EvC.skip ?_); (try simp only [z02, z03])
  (repeat refine EvC.seq ?_); refine EvC.reg ?_; simp (config := { maxSteps := 2000000 }) (disch := first | omega | rfl) only [sB, Nat.reduceEqDiff, z3s, ld25, cl6, t1, qb]
  refine (z4a hrG.rep (hfew.term) hww).mono ?_
  rintro v H5 ⟨hx5, out, rfl, hot⟩
  obtain ⟨a5, c5, cells5, rfl, -⟩ := hot.rep.six
  have n5 := hx5.next
  have gq5 := hx5.get hww gq
  repeat' (first | refine EvC.seq ?_ | refine EvC.scope ?_ | refine EvC.block ?_ | (refine EvC.skip ?_) | (refine EvC.exit ?_) | (refine EvC.ret ?_; try simp only [z01, z00]) | (refine z0i ?_; simp (config := { maxSteps := 2000000 }) (disch := first | omega | rfl) only [sB, Nat.reduceAdd, one, st25, t2, gq5]))
  refine z0a rfl (by simp only [sB, Nat.reduceEqDiff, t2] <;> rfl) (by simp only [sB, Nat.reduceAdd, cutC, ld25] <;> rfl) ⟨(hxG.trans hx5).pt (by omega) gq5 _, _, rfl, ?_⟩
  rw [htold, tellB, if_neg k2, if_pos k3]
  refine hot.1.to fun n hn hl => ?_
  have h1 : G.next ≤ n := hn.1
  exact ⟨by rw [get_put, if_neg (by omega)], .inr ⟨by omega, by rw [z07]; exact hl⟩, by rw [z07]; exact hl⟩
 (repeat refine EvC.seq ?_); refine EvC.reg ?_; simp (config := { maxSteps := 2000000 }) (disch := first | omega | rfl) only [sB, Nat.reduceEqDiff, z0l k3]
 (repeat refine EvC.seq ?_); refine EvC.condF (by simp (config := { maxSteps := 2000000 }) (disch := first | omega | rfl) only [sB, Nat.reduceEqDiff]) ?_; (try refine EvC.skip ?_); (try simp only [z02, z03])
 by_cases kk4 : u.kind = 4
 ·(repeat refine EvC.seq ?_); refine EvC.reg ?_; simp (config := { maxSteps := 2000000 }) (disch := first | omega | rfl) only [sB, Nat.reduceEqDiff, z0j kk4]
  (repeat refine EvC.seq ?_); refine EvC.condT (by simp (config := { maxSteps := 2000000 }) (disch := first | omega | rfl) only [sB, Nat.reduceEqDiff]) ?_; (try refine EvC.skip ?_); (try simp only [z02, z03])
  by_cases l4 : L.length = 2
  ·have k4 : u.kind = 4 ∧ L.length = 2 := ⟨kk4, l4⟩
   have hl' : (u.sub.length : Int) = 2 := by omega
   rcases hlt' with ⟨h, -⟩ | ⟨b, cells, rfl, p1, p2, p3, p4, p5, p6, p7⟩
   ·rw [h] at l4; cases l4
   have hcl : G.load ⟨b, 0, none⟩ (L.length * 6) = some (cells.take (L.length * 6)) := by
    unfold Heap.load Heap.cells
    simp only [p3, List.drop_zero]
    rw [if_pos (by rw [Nat.beq_eq, List.length_take]; omega)]
   rw [hll] at hcl
   have hone : (cells.take (u.sub.length * 6)).all one = true := by
    rw [← hll]
    exact z1r _ p6 fun i hi => (z4r (p7 i _ (List.getElem?_eq_getElem hi)).rep).1
   (repeat refine EvC.seq ?_); refine EvC.reg ?_; simp (config := { maxSteps := 2000000 }) (disch := first | omega | rfl) only [sB, Nat.reduceEqDiff, ln23, t3, z0j hl']
   (repeat refine EvC.seq ?_); refine EvC.condT (by simp (config := { maxSteps := 2000000 }) (disch := first | omega | rfl) only [sB, Nat.reduceEqDiff]) ?_; (try refine EvC.skip ?_); (try simp only [z02, z03])
   (repeat refine EvC.seq ?_); refine EvC.reg ?_; simp (config := { maxSteps := 2000000 }) (disch := first | omega | rfl) only [sB, Nat.reduceEqDiff, cl20, t3]
   refine (F_ev (by omega) (by omega) hcl hone hww).mono ?_
   rintro v H5 ⟨rfl, g5, n5, hx5⟩
   have gq5 := hx5.get hww gq
   repeat' (first | refine EvC.seq ?_ | refine EvC.scope ?_ | refine EvC.block ?_ | (refine EvC.skip ?_) | (refine EvC.exit ?_) | (refine EvC.ret ?_; try simp only [z01, z00]) | (refine z0i ?_; simp (config := { maxSteps := 2000000 }) (disch := first | omega | rfl) only [sB, Nat.reduceAdd, one, st25, t2, gq5]))
   refine z0a rfl (by simp only [sB, Nat.reduceEqDiff, t2] <;> rfl) (by simp only [sB, Nat.reduceAdd, cutC, ld25] <;> rfl) ⟨(hxG.trans hx5).pt (by omega) gq5 _, _, rfl, ?_⟩
   rw [htold, tellB, if_neg k2, if_neg k3, if_pos k4]
   have hcmp : RepS H5 (fun n => S n ∨ (H.next + 2 ≤ n ∧ n < H5.next)) (cmpT sCma L) (six (cmpT sCma L) (some ⟨G.next + 2, 0, none⟩) L.length) := RepS.row (t := cmpT sCma L) (z4e (by decide)) rfl g5 (.inr ⟨by omega, by omega⟩) (by omega) (by show L.length * 6 ≤ _; rw [List.length_take]; omega) (Nat.le_refl _) (by show L.length ≤ maxLen; exact Nat.le_trans p1 p2) fun j hj => by
    have hj' : j < L.length := hj
    have e : ((cells.take (u.sub.length * 6)).drop (j * 6)).take 6 = (cells.drop (j * 6)).take 6 := by
     rw [List.drop_take, List.take_take]; congr 1; omega
    rw [e]
    exact (p7 j _ (List.getElem?_eq_getElem hj')).to fun n hn hl => ⟨hx5.keep n hl, hn.1.imp_right fun h => ⟨h.1, by omega⟩, by omega⟩
   have e6 : six (cmpT sCma L) (some ⟨G.next + 2, 0, none⟩) L.length = [.int .i64 5, .string sCma, .string ByteArray.empty, .int .u64 0, .int .i64 0, .slice (some ⟨G.next + 2, 0, none⟩) u.sub.length u.sub.length] := by show [_, _, _, _, _, Value.slice _ L.length L.length] = _; rw [hll]; rfl
   rw [e6] at hcmp
   refine hcmp.to fun n hn hl => ?_
   have hne : n ≠ H.next + 1 := by
    rcases hn with h | h
    ·have := hS n h; omega
    ·omega
   exact ⟨by rw [get_put, if_neg hne], hn.imp_right fun h => ⟨by omega, by rw [z07]; omega⟩, by rw [z07]; omega⟩
  ·have hl' : (u.sub.length : Int) ≠ 2 := by omega
   repeat' (first | refine EvC.seq ?_ | refine EvC.scope ?_ | refine EvC.block ?_ | (refine EvC.skip ?_; try simp only [sA]) | (refine EvC.exit ?_) | (refine EvC.ret ?_; try simp only [z01, z00]) | (refine EvC.reg ?_; simp (config := { maxSteps := 2000000 }) (disch := first | omega | rfl) only [sB, Nat.reduceEqDiff, ln23, t3, z0l hl']) | (refine EvC.condT ?_ ?_; simp (config := { maxSteps := 2000000 }) (disch := first | omega | rfl) only [sB, Nat.reduceEqDiff]; refine z06 ?_) | (refine EvC.condF ?_ ?_; simp (config := { maxSteps := 2000000 }) (disch := first | omega | rfl) only [sB, Nat.reduceEqDiff]; refine z06 ?_))
   refine ⟨_, rfl, (by simp only [sG, Nat.reduceEqDiff, t2] <;> rfl), ?_⟩
   rw [htold]
   exact z2n k2 k3 (fun h => by have := h.1; first | exact l4 h.2 | omega) (fun h => by have := h.1; first | exact l5 h.2 | omega) (fun h => by have := h.1; omega) (fun h => by have := h.1; omega) (fun h => by have := h.1; omega)
 (repeat refine EvC.seq ?_); refine EvC.reg ?_; simp (config := { maxSteps := 2000000 }) (disch := first | omega | rfl) only [sB, Nat.reduceEqDiff, z0l kk4]
 (repeat refine EvC.seq ?_); refine EvC.condF (by simp (config := { maxSteps := 2000000 }) (disch := first | omega | rfl) only [sB, Nat.reduceEqDiff]) ?_; (try refine EvC.skip ?_); (try simp only [z02, z03])
 by_cases kk5 : u.kind = 5
 ·(repeat refine EvC.seq ?_); refine EvC.reg ?_; simp (config := { maxSteps := 2000000 }) (disch := first | omega | rfl) only [sB, Nat.reduceEqDiff, z0j kk5]
  (repeat refine EvC.seq ?_); refine EvC.condT (by simp (config := { maxSteps := 2000000 }) (disch := first | omega | rfl) only [sB, Nat.reduceEqDiff]) ?_; (try refine EvC.skip ?_); (try simp only [z02, z03])
  by_cases l5 : L.length = 2
  ·have k5 : u.kind = 5 ∧ L.length = 2 := ⟨kk5, l5⟩
   have hl' : (u.sub.length : Int) = 2 := by omega
   rcases hlt' with ⟨h, -⟩ | ⟨b, cells, rfl, p1, p2, p3, p4, p5, p6, p7⟩
   ·rw [h] at l5; cases l5
   have hcl : G.load ⟨b, 0, none⟩ (L.length * 6) = some (cells.take (L.length * 6)) := by
    unfold Heap.load Heap.cells
    simp only [p3, List.drop_zero]
    rw [if_pos (by rw [Nat.beq_eq, List.length_take]; omega)]
   rw [hll] at hcl
   have hone : (cells.take (u.sub.length * 6)).all one = true := by
    rw [← hll]
    exact z1r _ p6 fun i hi => (z4r (p7 i _ (List.getElem?_eq_getElem hi)).rep).1
   (repeat refine EvC.seq ?_); refine EvC.reg ?_; simp (config := { maxSteps := 2000000 }) (disch := first | omega | rfl) only [sB, Nat.reduceEqDiff, ln23, t3, z0j hl']
   (repeat refine EvC.seq ?_); refine EvC.condT (by simp (config := { maxSteps := 2000000 }) (disch := first | omega | rfl) only [sB, Nat.reduceEqDiff]) ?_; (try refine EvC.skip ?_); (try simp only [z02, z03])
   (repeat refine EvC.seq ?_); refine EvC.reg ?_; simp (config := { maxSteps := 2000000 }) (disch := first | omega | rfl) only [sB, Nat.reduceEqDiff, cl20, t3]
   refine (F_ev (by omega) (by omega) hcl hone hww).mono ?_
   rintro v H5 ⟨rfl, g5, n5, hx5⟩
   have gq5 := hx5.get hww gq
   repeat' (first | refine EvC.seq ?_ | refine EvC.scope ?_ | refine EvC.block ?_ | (refine EvC.skip ?_) | (refine EvC.exit ?_) | (refine EvC.ret ?_; try simp only [z01, z00]) | (refine z0i ?_; simp (config := { maxSteps := 2000000 }) (disch := first | omega | rfl) only [sB, Nat.reduceAdd, one, st25, t2, gq5]))
   refine z0a rfl (by simp only [sB, Nat.reduceEqDiff, t2] <;> rfl) (by simp only [sB, Nat.reduceAdd, cutC, ld25] <;> rfl) ⟨(hxG.trans hx5).pt (by omega) gq5 _, _, rfl, ?_⟩
   rw [htold, tellB, if_neg k2, if_neg k3, if_neg fun h => absurd h.1 kk4, if_pos k5]
   have hcmp : RepS H5 (fun n => S n ∨ (H.next + 2 ≤ n ∧ n < H5.next)) (cmpT sSem L) (six (cmpT sSem L) (some ⟨G.next + 2, 0, none⟩) L.length) := RepS.row (t := cmpT sSem L) (z4e (by decide)) rfl g5 (.inr ⟨by omega, by omega⟩) (by omega) (by show L.length * 6 ≤ _; rw [List.length_take]; omega) (Nat.le_refl _) (by show L.length ≤ maxLen; exact Nat.le_trans p1 p2) fun j hj => by
    have hj' : j < L.length := hj
    have e : ((cells.take (u.sub.length * 6)).drop (j * 6)).take 6 = (cells.drop (j * 6)).take 6 := by
     rw [List.drop_take, List.take_take]; congr 1; omega
    rw [e]
    exact (p7 j _ (List.getElem?_eq_getElem hj')).to fun n hn hl => ⟨hx5.keep n hl, hn.1.imp_right fun h => ⟨h.1, by omega⟩, by omega⟩
   have e6 : six (cmpT sSem L) (some ⟨G.next + 2, 0, none⟩) L.length = [.int .i64 5, .string sSem, .string ByteArray.empty, .int .u64 0, .int .i64 0, .slice (some ⟨G.next + 2, 0, none⟩) u.sub.length u.sub.length] := by show [_, _, _, _, _, Value.slice _ L.length L.length] = _; rw [hll]; rfl
   rw [e6] at hcmp
   refine hcmp.to fun n hn hl => ?_
   have hne : n ≠ H.next + 1 := by
    rcases hn with h | h
    ·have := hS n h; omega
    ·omega
   exact ⟨by rw [get_put, if_neg hne], hn.imp_right fun h => ⟨by omega, by rw [z07]; omega⟩, by rw [z07]; omega⟩
  ·have hl' : (u.sub.length : Int) ≠ 2 := by omega
   repeat' (first | refine EvC.seq ?_ | refine EvC.scope ?_ | refine EvC.block ?_ | (refine EvC.skip ?_; try simp only [sA]) | (refine EvC.exit ?_) | (refine EvC.ret ?_; try simp only [z01, z00]) | (refine EvC.reg ?_; simp (config := { maxSteps := 2000000 }) (disch := first | omega | rfl) only [sB, Nat.reduceEqDiff, ln23, t3, z0l hl']) | (refine EvC.condT ?_ ?_; simp (config := { maxSteps := 2000000 }) (disch := first | omega | rfl) only [sB, Nat.reduceEqDiff]; refine z06 ?_) | (refine EvC.condF ?_ ?_; simp (config := { maxSteps := 2000000 }) (disch := first | omega | rfl) only [sB, Nat.reduceEqDiff]; refine z06 ?_))
   refine ⟨_, rfl, (by simp only [sG, Nat.reduceEqDiff, t2] <;> rfl), ?_⟩
   rw [htold]
   exact z2n k2 k3 (fun h => by have := h.1; first | exact l4 h.2 | omega) (fun h => by have := h.1; first | exact l5 h.2 | omega) (fun h => by have := h.1; omega) (fun h => by have := h.1; omega) (fun h => by have := h.1; omega)
 (repeat refine EvC.seq ?_); refine EvC.reg ?_; simp (config := { maxSteps := 2000000 }) (disch := first | omega | rfl) only [sB, Nat.reduceEqDiff, z0l kk5]
 (repeat refine EvC.seq ?_); refine EvC.condF (by simp (config := { maxSteps := 2000000 }) (disch := first | omega | rfl) only [sB, Nat.reduceEqDiff]) ?_; (try refine EvC.skip ?_); (try simp only [z02, z03])
 by_cases kk6 : u.kind = 6
 ·(repeat refine EvC.seq ?_); refine EvC.reg ?_; simp (config := { maxSteps := 2000000 }) (disch := first | omega | rfl) only [sB, Nat.reduceEqDiff, z0j kk6]
  (repeat refine EvC.seq ?_); refine EvC.condT (by simp (config := { maxSteps := 2000000 }) (disch := first | omega | rfl) only [sB, Nat.reduceEqDiff]) ?_; (try refine EvC.skip ?_); (try simp only [z02, z03])
  by_cases l6 : L.length = 2
  ·have k6 : u.kind = 6 ∧ L.length = 2 := ⟨kk6, l6⟩
   have hl' : (u.sub.length : Int) = 2 := by omega
   rcases hlt' with ⟨h, -⟩ | ⟨b, cells, rfl, p1, p2, p3, p4, p5, p6, p7⟩
   ·rw [h] at l6; cases l6
   have hcl : G.load ⟨b, 0, none⟩ (L.length * 6) = some (cells.take (L.length * 6)) := by
    unfold Heap.load Heap.cells
    simp only [p3, List.drop_zero]
    rw [if_pos (by rw [Nat.beq_eq, List.length_take]; omega)]
   rw [hll] at hcl
   have hone : (cells.take (u.sub.length * 6)).all one = true := by
    rw [← hll]
    exact z1r _ p6 fun i hi => (z4r (p7 i _ (List.getElem?_eq_getElem hi)).rep).1
   (repeat refine EvC.seq ?_); refine EvC.reg ?_; simp (config := { maxSteps := 2000000 }) (disch := first | omega | rfl) only [sB, Nat.reduceEqDiff, ln23, t3, z0j hl']
   (repeat refine EvC.seq ?_); refine EvC.condT (by simp (config := { maxSteps := 2000000 }) (disch := first | omega | rfl) only [sB, Nat.reduceEqDiff]) ?_; (try refine EvC.skip ?_); (try simp only [z02, z03])
   (repeat refine EvC.seq ?_); refine EvC.reg ?_; simp (config := { maxSteps := 2000000 }) (disch := first | omega | rfl) only [sB, Nat.reduceEqDiff, cl20, t3]
   refine (F_ev (by omega) (by omega) hcl hone hww).mono ?_
   rintro v H5 ⟨rfl, g5, n5, hx5⟩
   have gq5 := hx5.get hww gq
   repeat' (first | refine EvC.seq ?_ | refine EvC.scope ?_ | refine EvC.block ?_ | (refine EvC.skip ?_) | (refine EvC.exit ?_) | (refine EvC.ret ?_; try simp only [z01, z00]) | (refine z0i ?_; simp (config := { maxSteps := 2000000 }) (disch := first | omega | rfl) only [sB, Nat.reduceAdd, one, st25, t2, gq5]))
   refine z0a rfl (by simp only [sB, Nat.reduceEqDiff, t2] <;> rfl) (by simp only [sB, Nat.reduceAdd, cutC, ld25] <;> rfl) ⟨(hxG.trans hx5).pt (by omega) gq5 _, _, rfl, ?_⟩
   rw [htold, tellB, if_neg k2, if_neg k3, if_neg fun h => absurd h.1 kk4, if_neg fun h => absurd h.1 kk5, if_pos k6]
   have hcmp : RepS H5 (fun n => S n ∨ (H.next + 2 ≤ n ∧ n < H5.next)) (cmpT sArr L) (six (cmpT sArr L) (some ⟨G.next + 2, 0, none⟩) L.length) := RepS.row (t := cmpT sArr L) (z4e (by decide)) rfl g5 (.inr ⟨by omega, by omega⟩) (by omega) (by show L.length * 6 ≤ _; rw [List.length_take]; omega) (Nat.le_refl _) (by show L.length ≤ maxLen; exact Nat.le_trans p1 p2) fun j hj => by
    have hj' : j < L.length := hj
    have e : ((cells.take (u.sub.length * 6)).drop (j * 6)).take 6 = (cells.drop (j * 6)).take 6 := by
     rw [List.drop_take, List.take_take]; congr 1; omega
    rw [e]
    exact (p7 j _ (List.getElem?_eq_getElem hj')).to fun n hn hl => ⟨hx5.keep n hl, hn.1.imp_right fun h => ⟨h.1, by omega⟩, by omega⟩
   have e6 : six (cmpT sArr L) (some ⟨G.next + 2, 0, none⟩) L.length = [.int .i64 5, .string sArr, .string ByteArray.empty, .int .u64 0, .int .i64 0, .slice (some ⟨G.next + 2, 0, none⟩) u.sub.length u.sub.length] := by show [_, _, _, _, _, Value.slice _ L.length L.length] = _; rw [hll]; rfl
   rw [e6] at hcmp
   refine hcmp.to fun n hn hl => ?_
   have hne : n ≠ H.next + 1 := by
    rcases hn with h | h
    ·have := hS n h; omega
    ·omega
   exact ⟨by rw [get_put, if_neg hne], hn.imp_right fun h => ⟨by omega, by rw [z07]; omega⟩, by rw [z07]; omega⟩
  ·have hl' : (u.sub.length : Int) ≠ 2 := by omega
   by_cases l6t : L.length = 3
   ·have hl3 : (u.sub.length : Int) = 3 := by omega
    obtain ⟨x, y, z, hxy⟩ : ∃ x y z, L = [x, y, z] := by
     match L, l6t with
     | [x, y, z], _ => exact ⟨x, y, z, rfl⟩
    subst hxy
    obtain ⟨b, a1, c1, rfl, l0, r1, hbl⟩ := hlt'.el (i := 0) (by show 0 < 3; decide)
    obtain ⟨b', a2, c2, e2, l1, r2, -⟩ := hlt'.el (i := 1) (by show 1 < 3; decide)
    cases e2
    obtain ⟨b'', a3, c3, e3, l2, r3, -⟩ := hlt'.el (i := 2) (by show 2 < 3; decide)
    cases e3
    simp only [List.getElem_cons_zero, List.getElem_cons_succ, Nat.zero_mul, Nat.one_mul] at l0 l1 l2 r1 r2 r3
    rcases hlt' with ⟨h, -⟩ | ⟨b', cells, e, p1, p2, p3, p4, p5, p6, p7⟩
    ·cases h
    cases e
    have hco : 3 ≤ co := p1
    have hcl : (⟨G.next + 8, G.t⟩ : Heap).load ⟨b, 0, none⟩ (2 * 6) = some (cells.take 12) := by
     have p6' : 3 * 6 ≤ cells.length := p6
     show G.load _ _ = _
     unfold Heap.load Heap.cells
     simp only [p3, List.drop_zero]
     rw [if_pos (by rw [Nat.beq_eq, List.length_take]; omega)]
    have hone : (cells.take 12).all one = true := z1r 2 (by have p6' : 3 * 6 ≤ cells.length := p6; omega) fun i hi => (z4r (p7 i _ (List.getElem?_eq_getElem (by show i < 3; omega))).rep).1
    have hxb : HX G ⟨G.next + 8, G.t⟩ := (HX.refl hww).bump 8
    (repeat refine EvC.seq ?_); refine EvC.reg ?_; simp (config := { maxSteps := 2000000 }) (disch := first | omega | rfl) only [sB, Nat.reduceEqDiff, ln23, t3, z0l hl']
    (repeat refine EvC.seq ?_); refine EvC.condF (by simp (config := { maxSteps := 2000000 }) (disch := first | omega | rfl) only [sB, Nat.reduceEqDiff]) ?_; (try refine EvC.skip ?_); (try simp only [z02, z03])
    (repeat refine EvC.seq ?_); refine EvC.reg ?_; simp (config := { maxSteps := 2000000 }) (disch := first | omega | rfl) only [sB, Nat.reduceEqDiff, ln23, t3, z0j hl3]
    (repeat refine EvC.seq ?_); refine EvC.condT (by simp (config := { maxSteps := 2000000 }) (disch := first | omega | rfl) only [sB, Nat.reduceEqDiff]) ?_; (try refine EvC.skip ?_); (try simp only [z02, z03])
    have hs2 : ∀ {H' : Heap}, dSl Tryd.prog 23 (.slice (some ⟨b, 0, none⟩) u.sub.length co) none (some (.int .i64 2)) none H' = some (.val (.slice (some ⟨b, 0, none⟩) 2 co) H') := zdw (m := 2) sl23 (by omega)
    (repeat refine EvC.seq ?_); refine EvC.drw [([(0, 0), (1, 0)], some 2), ([(3, 0), (4, 0), (5, 0)], some 6), ([], some 7), ([], none)] (by kernel_rfl) ?_; simp (config := { maxSteps := 2000000 }) (disch := first | omega | rfl) only [sD, sB, Nat.reduceEqDiff, Nat.reduceAdd, reduceCtorEq, cl20, isAlloc, isRead, reduceCtorEq, t3, hs2]
    refine (F_ev (n := 2) (by decide) (by decide) hcl hone hxb.wf).mono ?_
    rintro v H5 ⟨rfl, g5, n5, hx5⟩
    have n5' : H5.next = G.next + 8 + 3 := n5
    have hx5G := hxb.trans hx5
    have l25 := hx5G.load hww l2
    repeat' (first | refine EvC.seq ?_ | refine EvC.scope ?_ | refine EvC.block ?_ | (refine EvC.skip ?_) | (refine EvC.exit ?_) | (refine EvC.ret ?_; try simp only [z01, z00]) | (refine z1b ?_; simp (config := { maxSteps := 2000000 }) (disch := first | omega | rfl) only [sV, sD, sB, Nat.reduceEqDiff, reduceCtorEq, Int.reduceToNat, ld25, cl19, t3, l2, l25, iz23, Nat.reduceMul, isAlloc, isRead, reduceCtorEq]))
    refine (zmp (s := sSem) (t := cmpT sArr [x, y]) (a := some ⟨G.next + 8 + 2, 0, none⟩) (c := 2) (u := z) (a' := a3) (c' := c3) hx5.wf).mono ?_
    rintro v H6 ⟨b6, rfl, g6, lo6, hi6, hx6⟩
    have hx56 := hx5G.trans hx6
    have gq6 := hx56.get hww gq
    repeat' (first | refine EvC.seq ?_ | refine EvC.scope ?_ | refine EvC.block ?_ | (refine EvC.skip ?_) | (refine EvC.exit ?_) | (refine EvC.ret ?_; try simp only [z01, z00]) | (refine z1b ?_; simp (config := { maxSteps := 2000000 }) (disch := first | omega | rfl) only [sD, sB, Nat.reduceEqDiff, Nat.reduceAdd, one, st25, t2, gq6]))
    refine z0a rfl (by simp only [sB, Nat.reduceEqDiff, t2] <;> rfl) (by simp only [sB, Nat.reduceAdd, cutC, ld25] <;> rfl) ⟨(hxG.trans hx56).pt (by omega) gq6 _, _, rfl, ?_⟩
    have htt : toldB u = cmpT sSem [cmpT sArr [x, y], z] := by
     rw [htold, tellB, if_neg k2, if_neg k3, if_neg (fun h => kk4 h.1), if_neg (fun h => kk5 h.1), if_neg (fun h => by have := h.2; omega), if_pos ⟨kk6, l6t⟩]; rfl
    rw [htt]
    have rr : ∀ {w : Tm} {cs : List Value}, RepS G (fun n => (S n ∨ (H.next + 2 ≤ n ∧ n < G.next)) ∧ (some ⟨b, 0, none⟩ : Option Addr) ≠ some ⟨n, 0, none⟩) w cs → RepS H6 (fun n => (S n ∨ (H.next + 2 ≤ n ∧ n < H6.next))) w cs := fun h => h.to fun n hn hl => ⟨hx56.keep n hl, hn.1.imp_right fun h => ⟨h.1, by omega⟩, by omega⟩
    have g56 := hx6.get hx5.wf g5
    have hxyr : RepS H6 (fun n => (S n ∨ (H.next + 2 ≤ n ∧ n < H6.next))) (cmpT sArr [x, y]) (six (cmpT sArr [x, y]) (some ⟨G.next + 8 + 2, 0, none⟩) 2) :=
     RepS.row (t := cmpT sArr [x, y]) (z4e (by decide)) rfl g56 (.inr ⟨by omega, by omega⟩) (by omega) (by show 2 * 6 ≤ _; rw [List.length_take]; have p6' : 3 * 6 ≤ cells.length := p6; omega) (Nat.le_refl _) (by decide) fun j hj => by
      have hj' : j < 2 := hj
      have e : ((cells.take 12).drop (j * 6)).take 6 = (cells.drop (j * 6)).take 6 := by
       rw [List.drop_take, List.take_take]; congr 1; omega
      rw [e]
      match j, hj' with
      | 0, _ => exact rr (p7 0 _ rfl)
      | 1, _ => exact rr (p7 1 _ rfl)
    have ho : RepS H6 (fun n => (S n ∨ (H.next + 2 ≤ n ∧ n < H6.next))) (cmpT sSem [cmpT sArr [x, y], z]) (six (cmpT sSem [cmpT sArr [x, y], z]) (some ⟨b6, 0, none⟩) 2) := z3m (by decide) g6 (.inr ⟨by omega, hi6⟩) hx6.wf hxyr (rr r3)
    refine ho.to fun n hn hl => ?_
    have hne : n ≠ H.next + 1 := by
     rcases hn with h | h
     ·have := hS n h; omega
     ·omega
    exact ⟨by rw [get_put, if_neg hne], hn.imp_right fun h => ⟨by omega, by rw [z07]; omega⟩, by rw [z07]; omega⟩
   ·have hl3 : (u.sub.length : Int) ≠ 3 := by omega
    repeat' (first | refine EvC.seq ?_ | refine EvC.scope ?_ | refine EvC.block ?_ | (refine EvC.skip ?_; try simp only [sA]) | (refine EvC.exit ?_) | (refine EvC.ret ?_; try simp only [z01, z00]) | (refine EvC.reg ?_; simp (config := { maxSteps := 2000000 }) (disch := first | omega | rfl) only [sB, Nat.reduceEqDiff, ln23, t3, z0l hl', z0l hl3]) | (refine EvC.condT ?_ ?_; simp (config := { maxSteps := 2000000 }) (disch := first | omega | rfl) only [sB, Nat.reduceEqDiff]; refine z06 ?_) | (refine EvC.condF ?_ ?_; simp (config := { maxSteps := 2000000 }) (disch := first | omega | rfl) only [sB, Nat.reduceEqDiff]; refine z06 ?_))
    refine ⟨_, rfl, (by simp only [sG, Nat.reduceEqDiff, t2] <;> rfl), ?_⟩
    rw [htold]
    exact z2n k2 k3 (fun h => kk4 h.1) (fun h => kk5 h.1) (fun h => l6 h.2) (fun h => l6t h.2) (fun h => by have := h.1; omega)
 (repeat refine EvC.seq ?_); refine EvC.reg ?_; simp (config := { maxSteps := 2000000 }) (disch := first | omega | rfl) only [sB, Nat.reduceEqDiff, z0l kk6]
 (repeat refine EvC.seq ?_); refine EvC.condF (by simp (config := { maxSteps := 2000000 }) (disch := first | omega | rfl) only [sB, Nat.reduceEqDiff]) ?_; (try refine EvC.skip ?_); (try simp only [z02, z03])
 by_cases kk7 : u.kind = 7
 ·(repeat refine EvC.seq ?_); refine EvC.reg ?_; simp (config := { maxSteps := 2000000 }) (disch := first | omega | rfl) only [sB, Nat.reduceEqDiff, z0j kk7]
  (repeat refine EvC.seq ?_); refine EvC.condT (by simp (config := { maxSteps := 2000000 }) (disch := first | omega | rfl) only [sB, Nat.reduceEqDiff]) ?_; (try refine EvC.skip ?_); (try simp only [z02, z03])
  by_cases l7 : L.length = 1
  ·have hl' : (u.sub.length : Int) = 1 := by omega
   obtain ⟨x, hxy⟩ : ∃ x, L = [x] := by
    match L, l7 with
    | [x], _ => exact ⟨x, rfl⟩
   subst hxy
   obtain ⟨b, a1, c1, rfl, l0, r1, hbl⟩ := hlt'.el (i := 0) (by show 0 < 1; decide)
   simp only [List.getElem_cons_zero, Nat.zero_mul] at l0 r1
   have hxb : HX G ⟨G.next + 7, G.t⟩ := (HX.refl hww).bump 7
   (repeat refine EvC.seq ?_); refine EvC.reg ?_; simp (config := { maxSteps := 2000000 }) (disch := first | omega | rfl) only [sB, Nat.reduceEqDiff, ln23, t3, z0j hl']
   (repeat refine EvC.seq ?_); refine EvC.condT (by simp (config := { maxSteps := 2000000 }) (disch := first | omega | rfl) only [sB, Nat.reduceEqDiff]) ?_; (try refine EvC.skip ?_); (try simp only [z02, z03])
   (repeat refine EvC.seq ?_); refine EvC.drw [([(0, 0), (1, 0), (2, 0), (3, 0), (4, 0)], some 5), ([], some 6), ([], none)] (by kernel_rfl) ?_; simp (config := { maxSteps := 2000000 }) (disch := first | omega | rfl) only [sD, sB, Nat.reduceEqDiff, Nat.reduceAdd, reduceCtorEq, Int.reduceToNat, z3s, ld25, cl19, isAlloc, isRead, reduceCtorEq, t1, t3, qb, l0, iz23, Nat.zero_mul]
   refine (zmp (s := sCol) (t := u.term) (a := ta) (c := tc) (u := x) (a' := a1) (c' := c1) hxb.wf).mono ?_
   rintro v H6 ⟨b6, rfl, g6, lo6, hi6, hx6⟩
   have lo6' : G.next + 7 ≤ b6 := lo6
   have hx56 := hxb.trans hx6
   have gq6 := hx56.get hww gq
   have n6 : G.next + 7 ≤ H6.next := hx6.next
   repeat' (first | refine EvC.seq ?_ | refine EvC.scope ?_ | refine EvC.block ?_ | (refine EvC.skip ?_) | (refine EvC.exit ?_) | (refine EvC.ret ?_; try simp only [z01, z00]) | (refine z1b ?_; simp (config := { maxSteps := 2000000 }) (disch := first | omega | rfl) only [sD, sB, Nat.reduceEqDiff, Nat.reduceAdd, one, st25, t2, gq6]))
   refine z0a rfl (by simp only [sB, Nat.reduceEqDiff, t2] <;> rfl) (by simp only [sB, Nat.reduceAdd, cutC, ld25] <;> rfl) ⟨(hxG.trans hx56).pt (by omega) gq6 _, _, rfl, ?_⟩
   have htt : toldB u = cmpT sCol [u.term, x] := by
    rw [htold, tellB, if_neg k2, if_neg k3, if_neg (fun h => kk4 h.1), if_neg (fun h => kk5 h.1), if_neg (fun h => kk6 h.1), if_neg (fun h => kk6 h.1), if_pos ⟨kk7, l7⟩]; rfl
   rw [htt]
   have ho : RepS H6 (fun n => (S n ∨ (H.next + 2 ≤ n ∧ n < H6.next))) (cmpT sCol [u.term, x]) (six (cmpT sCol [u.term, x]) (some ⟨b6, 0, none⟩) 2) := z3m (by decide) g6 (.inr ⟨by omega, hi6⟩) hx6.wf (hrG.to fun n hn hl => ⟨hx56.keep n hl, .inl hn, by omega⟩) (r1.to fun n hn hl => ⟨hx56.keep n hl, hn.1.imp_right fun h => ⟨h.1, by omega⟩, by omega⟩)
   refine ho.to fun n hn hl => ?_
   have hne : n ≠ H.next + 1 := by
    rcases hn with h | h
    ·have := hS n h; omega
    ·omega
   exact ⟨by rw [get_put, if_neg hne], hn.imp_right fun h => ⟨by omega, by rw [z07]; omega⟩, by rw [z07]; omega⟩
  ·have hl' : (u.sub.length : Int) ≠ 1 := by omega
   repeat' (first | refine EvC.seq ?_ | refine EvC.scope ?_ | refine EvC.block ?_ | (refine EvC.skip ?_; try simp only [sA]) | (refine EvC.exit ?_) | (refine EvC.ret ?_; try simp only [z01, z00]) | (refine EvC.reg ?_; simp (config := { maxSteps := 2000000 }) (disch := first | omega | rfl) only [sB, Nat.reduceEqDiff, ln23, t3, z0l hl']) | (refine EvC.condT ?_ ?_; simp (config := { maxSteps := 2000000 }) (disch := first | omega | rfl) only [sB, Nat.reduceEqDiff]; refine z06 ?_) | (refine EvC.condF ?_ ?_; simp (config := { maxSteps := 2000000 }) (disch := first | omega | rfl) only [sB, Nat.reduceEqDiff]; refine z06 ?_))
   refine ⟨_, rfl, (by simp only [sG, Nat.reduceEqDiff, t2] <;> rfl), ?_⟩
   rw [htold]
   exact z2n k2 k3 (fun h => kk4 h.1) (fun h => kk5 h.1) (fun h => kk6 h.1) (fun h => kk6 h.1) (fun h => l7 h.2)
 repeat' (first | refine EvC.seq ?_ | refine EvC.scope ?_ | refine EvC.block ?_ | (refine EvC.skip ?_; try simp only [sA]) | (refine EvC.exit ?_) | (refine EvC.ret ?_; try simp only [z01, z00]) | (refine EvC.reg ?_; simp (config := { maxSteps := 2000000 }) (disch := first | omega | rfl) only [sB, Nat.reduceEqDiff, z0l kk7]) | (refine EvC.condT ?_ ?_; simp (config := { maxSteps := 2000000 }) (disch := first | omega | rfl) only [sB, Nat.reduceEqDiff]; refine z06 ?_) | (refine EvC.condF ?_ ?_; simp (config := { maxSteps := 2000000 }) (disch := first | omega | rfl) only [sB, Nat.reduceEqDiff]; refine z06 ?_))
 refine ⟨_, rfl, (by simp only [sG, Nat.reduceEqDiff, t2] <;> rfl), ?_⟩
 rw [htold]
 exact z2n k2 k3 (fun h => kk4 h.1) (fun h => kk5 h.1) (fun h => kk6 h.1) (fun h => kk6 h.1) (fun h => kk7 h.1)
abbrev saidT (e : Int) (b : Bool) (t : Tm) (a : Option Addr) (c : Nat) : List Value := [.int .i64 e, .bool b, .int .i64 t.kind, .string t.name, .string t.num, .int .u64 t.bits, .int .i64 t.var, .slice a t.args.length c]
abbrev said0 : List Value := [.int .i64 0, .bool false, .int .i64 0, .string ByteArray.empty, .string ByteArray.empty, .int .u64 0, .int .i64 0, .slice none 0 0]
def RSaid (H : Heap) (S : Nat → Prop) : Er → List Value → Prop
 | .ok, cs => cs = said0
 | .num e, cs => e ≠ 0 ∧ cs = [.int .i64 e, .bool false, .int .i64 0, .string ByteArray.empty, .string ByteArray.empty, .int .u64 0, .int .i64 0, .slice none 0 0]
 | .ball t, cs => ∃ a c, cs = saidT 0 true t a c ∧ RepS H S t (six t a c)
theorem RSaid.to {H H2 : Heap} {S S2 : Nat → Prop} {e : Er} {cs : List Value} (h : RSaid H S e cs) (hk : ∀ n, S n → n < H.next → H2.get n = H.get n ∧ S2 n ∧ n < H2.next) : RSaid H2 S2 e cs := by
 cases e with
 | ok => exact h
 | num e => exact h
 | ball t => obtain ⟨a, c, h1, h2⟩ := h; exact ⟨a, c, h1, h2.to hk⟩
theorem RSaid.cells {H : Heap} {S : Nat → Prop} {e : Er} {cs : List Value} (h : RSaid H S e cs) : ∃ n b t a c, cs = saidT n b t a c := by
 cases e with
 | ok => exact ⟨0, false, zeroT, none, 0, h⟩
 | num e => exact ⟨e, false, zeroT, none, 0, h.2⟩
 | ball t => obtain ⟨a, c, h1, h2⟩ := h; exact ⟨0, true, t, a, c, h1⟩
theorem rowS {H : Heap} {p : Nat} {T : TypeId} {x0 x1 x2 x3 x4 x5 x6 x7 : Value} (h : H.get p = some (Blk.row [x0, x1, x2, x3, x4, x5, x6, x7] T)) :
  H.load ⟨p, 0, none⟩ 1 = some [x0] ∧ H.load ⟨p, 1, none⟩ 1 = some [x1] ∧ H.load ⟨p, 2, none⟩ 6 = some [x2, x3, x4, x5, x6, x7] ∧ H.load ⟨p, 0, none⟩ 8 = some [x0, x1, x2, x3, x4, x5, x6, x7] := by
 refine ⟨?_, ?_, ?_, ?_⟩ <;> simp only [Heap.load, Heap.cells, h] <;> rfl
theorem zet {t : Tm} {a : Option Addr} {c : Nat} {S : Nat → Prop} {H : Heap} (r : RepS H S t (six t a c)) (hS : ∀ n, S n → n < H.next) (hw : H.wf) :
  EvF Tryd.prog okT 46 [.agg ⟨six t a c⟩] H fun v H' => HX H H' ∧ v = .agg ⟨saidT 0 true t a c⟩ ∧ RepS H' S t (six t a c) := by
 refine EvF.enter rfl Tryd.func46 (by decide) rfl ?_
 (repeat refine EvC.seq ?_); refine EvC.reg ?_; simp (config := { maxSteps := 2000000 }) (disch := first | omega | rfl) only [sB, initTm, dBox, dAlloc, Value.cells, one, zr37]
 obtain ⟨H2, e2, hx2, gt, gs, hn2, hw2⟩ := new2 hw (.row (six t a c) 25) (.row said0 37)
 simp only [e2]
 clear e2
 have qt := row6 gt
 repeat' (first | refine EvC.seq ?_ | refine EvC.scope ?_ | refine EvC.block ?_ | (refine EvC.skip ?_) | (refine EvC.exit ?_) | (refine EvC.ret ?_; try simp only [z01, z00]) | (refine EvC.reg ?_; simp (config := { maxSteps := 2000000 }) (disch := first | omega | rfl) only [sB, Nat.reduceEqDiff, Nat.reduceAdd, Value.cells, one, reduceCtorEq, Nat.reduceLeDiff, layC, ld25, bd37, st37, qt, gs]))
 have hx := hx2.pt (i := H.next + 1) (by omega) gs (some (.row (saidT 0 true t a c) 37))
 exact z0a rfl (by simp only [sB, Nat.reduceEqDiff, reduceCtorEq] <;> rfl) (by simp only [sB, Nat.reduceAdd, cutC, ld37] <;> rfl) ⟨hx, rfl, r.to fun n hn hl => ⟨hx.keep n hl, hn, Nat.lt_of_lt_of_le hl hx.next⟩⟩
set_option maxHeartbeats 4000000 in
theorem zk8 {s : ByteArray} {t : Tm} {cs : List Value} {H : Heap} (hs : s.size ≤ maxLen) (r0 : RepT H t cs) (hf : Few 1000000 t) (hw : H.wf) :
  EvF Tryd.prog okT 23 [.string s, .agg ⟨cs⟩] H fun v H' => HX H H' ∧ ∃ out, v = .agg ⟨out⟩ ∧ RSaid H' (Rg H.next H'.next) (.ball (typeT s t)) out := by
 obtain ⟨a, c, cells, rfl, -⟩ := r0.six
 refine EvF.enter rfl Tryd.func23 (by decide) rfl ?_
 (repeat refine EvC.seq ?_); refine EvC.reg ?_; simp (config := { maxSteps := 2000000 }) (disch := first | omega | rfl) only [sB, initTm, dBox, dAlloc, Value.cells, one, reduceCtorEq, zr37]
 obtain ⟨H2, e2, hx2, gt, gs, hn2, hw2⟩ := new2 hw (.row (six t a c) 25) (.row said0 37)
 simp only [e2]
 clear e2
 have qt := row6 gt
 (repeat refine EvC.seq ?_); refine EvC.drw [([(0, 0)], some 1), ([(2, 0)], some 3), ([], some 4), ([], some 5), ([], some 6), ([], none)] (by kernel_rfl) ?_; simp (config := { maxSteps := 2000000 }) (disch := first | omega | rfl) only [sD, sB, Nat.reduceEqDiff, Nat.reduceAdd, reduceCtorEq, cl21, isAlloc, isRead, reduceCtorEq]
 have hxb : HX H2 ⟨H2.next + 7, H2.t⟩ := (HX.refl hw2).bump 7
 refine (zk6 hxb.wf).mono ?_
 rintro v H3 ⟨rfl, hx3⟩
 have n3 : H2.next + 7 ≤ H3.next := hx3.next
 have hx23 := hxb.trans hx3
 have qt3 := row6 (hx23.get hw2 gt)
 have hxh3 := hx2.trans hx23
 repeat' (first | refine EvC.seq ?_ | refine EvC.scope ?_ | refine EvC.block ?_ | (refine EvC.skip ?_) | (refine EvC.exit ?_) | (refine EvC.ret ?_; try simp only [z01, z00]) | (refine z1b ?_; simp (config := { maxSteps := 2000000 }) (disch := first | omega | rfl) only [sV, sD, sB, Nat.reduceEqDiff, reduceCtorEq, ld25, cl6, qt, qt3, isAlloc, isRead, reduceCtorEq]))
 refine (z4a (r0.mono hxh3 hw) hf hx3.wf).mono ?_
 rintro v H4 ⟨hx4, out, rfl, hot⟩
 obtain ⟨a4, c4, cells4, rfl, -⟩ := hot.rep.six
 have n4 := hx4.next
 repeat' (first | refine EvC.seq ?_ | refine EvC.scope ?_ | refine EvC.block ?_ | (refine EvC.skip ?_) | (refine EvC.exit ?_) | (refine EvC.ret ?_; try simp only [z01, z00]) | (refine z1b ?_; simp (config := { maxSteps := 2000000 }) (disch := first | omega | rfl) only [sD, sB, Nat.reduceEqDiff, reduceCtorEq, cl19, reduceCtorEq]))
 refine (zmp (s := sTypeE) (t := atmT s) (a := none) (c := 0) (u := t) (a' := a4) (c' := c4) hx4.wf).mono ?_
 rintro v H5 ⟨b5, rfl, g5, lo5, hi5, hx5⟩
 have hr : RepS H5 (fun n => n = b5 ∨ (H3.next ≤ n ∧ n < H4.next)) (typeT s t) (six (typeT s t) (some ⟨b5, 0, none⟩) 2) := z3m (by decide) g5 (.inl rfl) hx5.wf (z2x hs) (hot.1.to fun n hn hl => ⟨hx5.keep n hl, .inr hn, by have := hx5.next; omega⟩)
 have n5 := hx5.next
 repeat' (first | refine EvC.seq ?_ | refine EvC.scope ?_ | refine EvC.block ?_ | (refine EvC.skip ?_) | (refine EvC.exit ?_) | (refine EvC.ret ?_; try simp only [z01, z00]) | (refine z1b ?_; simp (config := { maxSteps := 2000000 }) (disch := first | omega | rfl) only [sD, sB, Nat.reduceEqDiff, reduceCtorEq, cl46, reduceCtorEq]))
 refine (zet (a := some ⟨b5, 0, none⟩) (c := 2) hr (fun n hn => by rcases hn with rfl | hn <;> omega) hx5.wf).mono ?_
 rintro v H6 ⟨hx6, rfl, hr6⟩
 have hx46 := (hx23.trans hx4).trans (hx5.trans hx6)
 have gs6 := hx46.get hw2 gs
 have n6 := hx6.next
 repeat' (first | refine EvC.seq ?_ | refine EvC.scope ?_ | refine EvC.block ?_ | (refine EvC.skip ?_) | (refine EvC.exit ?_) | (refine EvC.ret ?_; try simp only [z01, z00]) | (refine z1b ?_; simp (config := { maxSteps := 2000000 }) (disch := first | omega | rfl) only [sD, sB, Nat.reduceEqDiff, Nat.reduceAdd, one, reduceCtorEq, st37, gs6, reduceCtorEq]))
 refine z0a rfl (by simp only [sB, Nat.reduceEqDiff, reduceCtorEq] <;> rfl) (by simp only [sB, Nat.reduceAdd, cutC, ld37] <;> rfl) ⟨(hx2.trans hx46).pt (i := H.next + 1) (by omega) gs6 _, _, rfl, some ⟨b5, 0, none⟩, 2, rfl, hr6.to fun n hn hl => ?_⟩
 have hn2 : H.next + 2 ≤ n ∧ n < H6.next := by rcases hn with rfl | hn <;> omega
 exact ⟨by rw [get_put, if_neg (by omega)], ⟨by omega, by rw [z07]; omega⟩, by rw [z07]; omega⟩
set_option maxHeartbeats 4000000 in
theorem zn0 {s : ByteArray} {H : Heap} (hs : s.size ≤ maxLen) (hw : H.wf) :
  EvF Tryd.prog okT 55 [.string s] H fun v H' => HX H H' ∧ ∃ out, v = .agg ⟨out⟩ ∧ RSaid H' (Rg H.next H'.next) (.ball (resT s)) out := by
 refine EvF.enter rfl Tryd.func55 (by decide) rfl ?_
 (repeat refine EvC.seq ?_); refine EvC.reg ?_; simp (config := { maxSteps := 2000000 }) (disch := first | omega | rfl) only [sA, initTm, dAlloc, zr37]
 obtain ⟨H2, e2, hx2, gs, hn2, hw2⟩ := new1 hw (.row said0 37)
 simp only [e2]
 clear e2
 (repeat refine EvC.seq ?_); refine EvC.reg ?_; simp (config := { maxSteps := 2000000 }) (disch := first | omega | rfl) only [sB, Nat.reduceEqDiff, Nat.reduceAdd, Value.cells, reduceCtorEq, layC, cl21, z59]
 refine (zk6 hw2).mono ?_
 rintro v H3 ⟨rfl, hx3⟩
 have n3 := hx3.next
 repeat' (first | refine EvC.seq ?_ | refine EvC.scope ?_ | refine EvC.block ?_ | (refine EvC.skip ?_) | (refine EvC.exit ?_) | (refine EvC.ret ?_; try simp only [z01, z00]) | (refine z0i ?_; simp (config := { maxSteps := 2000000 }) (disch := first | omega | rfl) only [sB, Nat.reduceEqDiff, Nat.reduceAdd, one, reduceCtorEq, cl20, cl46]))
 obtain ⟨H4, e4, hx4, g4, hn4, hw4⟩ := new1 hx3.wf (.row (six (atmT s) none 0) 25)
 simp only [e4]
 refine (F_ev (cs := six (atmT s) none 0) (by decide) (by decide) (ld1 g4 rfl) rfl hw4).mono ?_
 rintro v H5 ⟨rfl, g5, n5', hx5⟩
 have hr : RepS H5 (fun n => n = H4.next + 2) (resT s) (six (resT s) (some ⟨H4.next + 2, 0, none⟩) 1) := RepS.row (t := resT s) (z4e (by decide)) rfl g5 rfl (hx5.wf _ _ g5) (Nat.le_refl _) (Nat.le_refl _) (by decide) fun j hj => by
  match j, hj with
  | 0, _ => exact z2x hs
 repeat' (first | refine EvC.seq ?_ | refine EvC.scope ?_ | refine EvC.block ?_ | (refine EvC.skip ?_) | (refine EvC.exit ?_) | (refine EvC.ret ?_; try simp only [z01, z00]))
 refine (zet (a := some ⟨H4.next + 2, 0, none⟩) (c := 1) hr (fun n hn => by omega) hx5.wf).mono ?_
 rintro v H6 ⟨hx6, rfl, hr6⟩
 have hx26 := ((hx3.trans hx4).trans hx5).trans hx6
 have gs6 := hx26.get hw2 gs
 have n6 := hx6.next
 repeat' (first | refine EvC.seq ?_ | refine EvC.scope ?_ | refine EvC.block ?_ | (refine EvC.skip ?_) | (refine EvC.exit ?_) | (refine EvC.ret ?_; try simp only [z01, z00]) | (refine z0i ?_; simp (config := { maxSteps := 2000000 }) (disch := first | omega | rfl) only [sB, Nat.reduceAdd, one, st37, gs6]))
 refine z0a rfl (by simp only [sB, Nat.reduceEqDiff, reduceCtorEq] <;> rfl) (by simp only [sB, Nat.reduceAdd, cutC, ld37] <;> rfl) ⟨(hx2.trans hx26).pt (i := H.next) (by omega) gs6 _, _, rfl, some ⟨H4.next + 2, 0, none⟩, 1, rfl, hr6.to fun n hn hl => ?_⟩
 exact ⟨by rw [get_put, if_neg (by omega)], ⟨by omega, by rw [z07]; omega⟩, by rw [z07]; omega⟩
def noneB : Er → Bool
 | .ok => true
 | _ => false
theorem zk9 {e : Er} {S : Nat → Prop} {cs : List Value} {H : Heap} (h : RSaid H S e cs) (hw : H.wf) : EvF Tryd.prog okT 33 [.agg ⟨cs⟩] H fun v H' => v = .bool (noneB e) ∧ HX H H' := by
 cases e with
 | ok =>
  obtain rfl : cs = said0 := h
  refine EvF.enter rfl Tryd.func33 (by decide) rfl ?_
  (repeat refine EvC.seq ?_); refine EvC.reg ?_; simp (config := { maxSteps := 2000000 }) (disch := first | omega | rfl) only [sB, initTm, dBox, Value.cells, one]
  obtain ⟨H2, e2, hx2, gs, hn2, hw2⟩ := new1 hw (.row said0 37)
  simp only [e2]
  have qs := rowS gs
  repeat' (first | refine EvC.seq ?_ | refine EvC.scope ?_ | refine EvC.block ?_ | (refine EvC.skip ?_) | (refine EvC.exit ?_) | (refine EvC.ret ?_; try simp only [z01, z00]) | (refine EvC.reg ?_; simp (config := { maxSteps := 2000000 }) (disch := first | omega | rfl) only [sB, Nat.reduceEqDiff, reduceCtorEq, zax, ld35, zaw, ld4, qs, z0j]))
  exact z05 rfl (by simp only [sB, Nat.reduceEqDiff, reduceCtorEq] <;> rfl) ⟨rfl, hx2⟩
 | num e =>
  obtain ⟨he, rfl⟩ := h
  refine EvF.enter rfl Tryd.func33 (by decide) rfl ?_
  (repeat refine EvC.seq ?_); refine EvC.reg ?_; simp (config := { maxSteps := 2000000 }) (disch := first | omega | rfl) only [sB, initTm, dBox, Value.cells, one]
  obtain ⟨H2, e2, hx2, gs, hn2, hw2⟩ := new1 hw (.row [.int .i64 e, .bool false, .int .i64 0, .string ByteArray.empty, .string ByteArray.empty, .int .u64 0, .int .i64 0, .slice none 0 0] 37)
  simp only [e2]
  have qs := rowS gs
  repeat' (first | refine EvC.seq ?_ | refine EvC.scope ?_ | refine EvC.block ?_ | (refine EvC.skip ?_) | (refine EvC.exit ?_) | (refine EvC.ret ?_; try simp only [z01, z00]) | (refine EvC.reg ?_; simp (config := { maxSteps := 2000000 }) (disch := first | omega | rfl) only [sB, Nat.reduceEqDiff, reduceCtorEq, zax, ld35, qs, z0l he, Bool.false_eq_true]))
  exact z05 rfl (by simp only [sB, Nat.reduceEqDiff, reduceCtorEq] <;> rfl) ⟨rfl, hx2⟩
 | ball t =>
  obtain ⟨a, c, rfl, -⟩ := h
  refine EvF.enter rfl Tryd.func33 (by decide) rfl ?_
  (repeat refine EvC.seq ?_); refine EvC.reg ?_; simp (config := { maxSteps := 2000000 }) (disch := first | omega | rfl) only [sB, initTm, dBox, Value.cells, one]
  obtain ⟨H2, e2, hx2, gs, hn2, hw2⟩ := new1 hw (.row (saidT 0 true t a c) 37)
  simp only [e2]
  have qs := rowS gs
  repeat' (first | refine EvC.seq ?_ | refine EvC.scope ?_ | refine EvC.block ?_ | (refine EvC.skip ?_) | (refine EvC.exit ?_) | (refine EvC.ret ?_; try simp only [z01, z00]) | (refine EvC.reg ?_; simp (config := { maxSteps := 2000000 }) (disch := first | omega | rfl) only [sB, Nat.reduceEqDiff, reduceCtorEq, zax, ld35, zaw, ld4, qs, z0j, Bool.not_true]))
  exact z05 rfl (by simp only [sB, Nat.reduceEqDiff, reduceCtorEq] <;> rfl) ⟨rfl, hx2⟩
noncomputable def madeE (t : Tm) : Er := match bodyF (SizeOf.sizeOf t + 1) t with
 | none => .ball (typeT sCallable t)
 | some b => if 4000 < cnt (toldB b) 0 then .ball (resT sNodes) else .ok
set_option maxHeartbeats 8000000 in
theorem zka {t : Tm} {cs : List Value} {H : Heap} (r0 : RepT H t cs) (hc : checkS t = 0) (hw : H.wf) :
  EvF Tryd.prog okT 32 [.agg ⟨cs⟩] H fun v H' => HX H H' ∧ ∃ out, v = .agg ⟨out⟩ ∧ RSaid H' (Rg H.next H'.next) (madeE t) out := by
 obtain ⟨a, c, cells, rfl, -⟩ := r0.six
 refine EvF.enter rfl Tryd.func32 (by decide) rfl ?_
 (repeat refine EvC.seq ?_); refine EvC.reg ?_; simp (config := { maxSteps := 2000000 }) (disch := first | omega | rfl) only [sB, initTm, dBox, dAlloc, Value.cells, one, zr37]
 obtain ⟨H2, e2, hx2, gt, gs, hn2, hw2⟩ := new2 hw (.row (six t a c) 25) (.row said0 37)
 simp only [e2]
 clear e2
 have qt := row6 gt
 (repeat refine EvC.seq ?_); refine EvC.reg ?_; simp (config := { maxSteps := 2000000 }) (disch := first | omega | rfl) only [sB, Nat.reduceEqDiff, reduceCtorEq, ld25, cl34, qt]
 refine (z9r _ t _ H2 (Nat.lt_succ_self _) (r0.mono hx2 hw) hc hw2).mono ?_
 rintro v H3 ⟨hx3, out, bd, rfl, hob, hbd⟩
 obtain ⟨ta, tc, sa, sc, rfl⟩ := hob.rep.eight
 have n3 := hx3.next
 try simp (config := { maxSteps := 2000000 }) (disch := first | omega | rfl) only [sB, dAlloc, Nat.reduceEqDiff, Nat.reduceAdd, one, reduceCtorEq, zr30, st30]
 obtain ⟨H4, e4, hx4, g4, hn4, hw4⟩ := z0w hx3.wf (.row zero8 30) (.row (eightT bd.kind bd.term ta tc sa bd.sub.length sc) 30)
 simp only [e4]
 clear e4
 have hx24 := hx3.trans hx4
 have gs4 := hx24.get hw2 gs
 have qt4 := row6 (hx24.get hw2 gt)
 have q4 := row8 g4
 have hxf := hx2.trans hx24
 cases ho : bodyF (SizeOf.sizeOf t + 1) t with
 | none =>
  have hm : madeE t = .ball (typeT sCallable t) := by unfold madeE; rw [ho]
  (repeat refine EvC.seq ?_); refine EvC.reg ?_; simp (config := { maxSteps := 2000000 }) (disch := first | omega | rfl) only [sB, Nat.reduceEqDiff, reduceCtorEq]
  (repeat refine EvC.seq ?_); refine EvC.condT (by simp (config := { maxSteps := 2000000 }) (disch := first | omega | rfl) only [sB, Nat.reduceEqDiff, reduceCtorEq, Option.isSome_none, Bool.not_false]) ?_; (try refine EvC.skip ?_); (try simp only [z02, z03])
  (repeat refine EvC.seq ?_); refine EvC.reg ?_; simp (config := { maxSteps := 2000000 }) (disch := first | omega | rfl) only [sB, Nat.reduceEqDiff, reduceCtorEq, ld25, cl23, qt4]
  refine (zk8 (s := sCallable) (by decide) (r0.mono hxf hw) (few6 hc) hw4).mono ?_
  rintro v H5 ⟨hx5, outS, rfl, hsd⟩
  obtain ⟨en, eb, et, ea, ec, rfl⟩ := hsd.cells
  have gs5 := hx5.get hw4 gs4
  have n5 := hx5.next
  repeat' (first | refine EvC.seq ?_ | refine EvC.scope ?_ | refine EvC.block ?_ | (refine EvC.skip ?_) | (refine EvC.exit ?_) | (refine EvC.ret ?_; try simp only [z01, z00]) | (refine z0i ?_; simp (config := { maxSteps := 2000000 }) (disch := first | omega | rfl) only [sB, Nat.reduceAdd, one, st37, gs5]))
  refine z0a rfl (by simp only [sB, Nat.reduceEqDiff, reduceCtorEq] <;> rfl) (by simp only [sB, Nat.reduceAdd, cutC, ld37] <;> rfl) ⟨(hxf.trans hx5).pt (i := H.next + 1) (by omega) gs5 _, _, rfl, ?_⟩
  rw [hm]
  refine hsd.to fun n hn hl => ?_
  have := hn.1
  exact ⟨by rw [get_put, if_neg (by omega)], ⟨by omega, by rw [z07]; exact hl⟩, by rw [z07]; exact hl⟩
 | some bd' =>
  obtain rfl := hbd bd' ho
  have hfew := (z7s (z0y.1 hc).2 ho).up (m := 1000000) (by decide)
  (repeat refine EvC.seq ?_); refine EvC.reg ?_; simp (config := { maxSteps := 2000000 }) (disch := first | omega | rfl) only [sB, Nat.reduceEqDiff, reduceCtorEq]
  (repeat refine EvC.seq ?_); refine EvC.condF (by simp (config := { maxSteps := 2000000 }) (disch := first | omega | rfl) only [sB, Nat.reduceEqDiff, reduceCtorEq, Option.isSome_some, Bool.not_true]) ?_; (try refine EvC.skip ?_); (try simp only [z02, z03])
  (repeat refine EvC.seq ?_); refine EvC.reg ?_; simp (config := { maxSteps := 2000000 }) (disch := first | omega | rfl) only [sB, Nat.reduceEqDiff, reduceCtorEq, ld30, cl54, cl52, q4]
  have hob4 := hob.keep hx4
  refine (zk7 (Nat.lt_succ_self _) hob4.bi hfew (fun n hn => by have := hn.2; omega) hw4).mono ?_
  rintro v H5 ⟨hx5, outT, rfl, hrT⟩
  repeat' (first | refine EvC.seq ?_ | refine EvC.scope ?_ | refine EvC.block ?_ | (refine EvC.skip ?_) | (refine EvC.exit ?_) | (refine EvC.ret ?_; try simp only [z01, z00]))
  refine (z66 _ _ _ hrT.rep hx5.wf).mono ?_
  rintro v H6 ⟨rfl, hx6⟩
  have hx46 := hx5.trans hx6
  have gs6 := hx46.get hw4 gs4
  have n5 := hx5.next
  have n6 := hx6.next
  have hxg := hxf.trans hx46
  try simp (config := { maxSteps := 2000000 }) (disch := first | omega | rfl) only [sA]
  by_cases h4 : 4000 < cnt (toldB bd) 0
  ·have hd : decide (((cnt (toldB bd) 0 : Nat) : Int) > 4000) = true := by rw [z2y]; exact decide_eq_true h4
   have hm : madeE t = .ball (resT sNodes) := by unfold madeE; rw [ho]; simp only; rw [if_pos h4]
   (repeat refine EvC.seq ?_); refine EvC.condT (by simp (config := { maxSteps := 2000000 }) (disch := first | omega | rfl) only [sB, Nat.reduceEqDiff, reduceCtorEq, hd]) ?_; (try refine EvC.skip ?_); (try simp only [z02, z03])
   (repeat refine EvC.seq ?_); refine EvC.reg ?_; simp (config := { maxSteps := 2000000 }) (disch := first | omega | rfl) only [sB, Nat.reduceEqDiff, reduceCtorEq, cl55]
   refine (zn0 (s := sNodes) (by decide) hx46.wf).mono ?_
   rintro v H7 ⟨hx7, outS, rfl, hsd⟩
   obtain ⟨en, eb, et, ea, ec, rfl⟩ := hsd.cells
   have gs7 := hx7.get hx46.wf gs6
   have n7 := hx7.next
   repeat' (first | refine EvC.seq ?_ | refine EvC.scope ?_ | refine EvC.block ?_ | (refine EvC.skip ?_) | (refine EvC.exit ?_) | (refine EvC.ret ?_; try simp only [z01, z00]) | (refine z0i ?_; simp (config := { maxSteps := 2000000 }) (disch := first | omega | rfl) only [sB, Nat.reduceAdd, one, st37, gs7]))
   refine z0a rfl (by simp only [sB, Nat.reduceEqDiff, reduceCtorEq] <;> rfl) (by simp only [sB, Nat.reduceAdd, cutC, ld37] <;> rfl) ⟨(hxg.trans hx7).pt (i := H.next + 1) (by omega) gs7 _, _, rfl, ?_⟩
   rw [hm]
   refine hsd.to fun n hn hl => ?_
   have := hn.1
   exact ⟨by rw [get_put, if_neg (by omega)], ⟨by omega, by rw [z07]; exact hl⟩, by rw [z07]; exact hl⟩
  ·have hd : decide (((cnt (toldB bd) 0 : Nat) : Int) > 4000) = false := by rw [z2y]; exact decide_eq_false h4
   have hm : madeE t = .ok := by unfold madeE; rw [ho]; simp only; rw [if_neg h4]
   (repeat refine EvC.seq ?_); refine EvC.condF (by simp (config := { maxSteps := 2000000 }) (disch := first | omega | rfl) only [sB, Nat.reduceEqDiff, reduceCtorEq, hd]) ?_; (try refine EvC.skip ?_); (try simp only [z02, z03])
   repeat' (first | refine EvC.seq ?_ | refine EvC.scope ?_ | refine EvC.block ?_ | (refine EvC.skip ?_) | (refine EvC.exit ?_) | (refine EvC.ret ?_; try simp only [z01, z00]) | (refine EvC.reg ?_; simp (config := { maxSteps := 2000000 }) (disch := first | omega | rfl) only [sB, Nat.reduceEqDiff, Nat.reduceAdd, Value.cells, one, reduceCtorEq, layC, st37, bd37, gs6]))
   refine z0a rfl (by simp only [sB, Nat.reduceEqDiff, reduceCtorEq] <;> rfl) (by simp only [sB, Nat.reduceAdd, cutC, ld37] <;> rfl) ⟨hxg.pt (i := H.next + 1) (by omega) gs6 _, _, rfl, ?_⟩
   rw [hm]; rfl
def RReadyEnd (H : Heap) (t : Tm) (v : Value) (H' : Heap) : Prop := HX H H' ∧ ∃ out sd, v = .tuple ⟨[.agg ⟨out⟩, .agg ⟨sd⟩]⟩ ∧ OB H' 30 25 (Rg H.next H'.next) (readyS t).1 out ∧ RSaid H' (Rg H.next H'.next) (readyS t).2 sd
theorem zfw {t : Tm} (hc : checkS t = 0) : (readyS t).2 = madeE t ∧ (madeE t ≠ .ok → (readyS t).1 = zeroB) ∧ (madeE t = .ok → bodyF (SizeOf.sizeOf t + 1) t = some (readyS t).1) := by
 unfold readyS madeE
 rw [if_neg (fun h => h hc)]
 cases bodyF (SizeOf.sizeOf t + 1) t with
 | none => exact ⟨rfl, fun _ => rfl, fun h => by cases h⟩
 | some b =>
  simp only
  split
  ·exact ⟨rfl, fun _ => rfl, fun h => by cases h⟩
  ·exact ⟨rfl, fun h => absurd rfl h, fun _ => rfl⟩
theorem z9s {P : Program} {ok : Ok} {fn : Func} {tm : Tr Value} {H : Heap} {K : Value → Heap → Prop} {a b : Tmp} {t t' : TypeId} {ad bd : Addr} {v u : Value} (h : fn.results.toList = [.cell a t, .cell b t']) (ha : tm.get a = some (.pointer (some ad))) (hv : dLoad P t (.pointer (some ad)) H = some (.val v H))
  (hb : tm.get b = some (.pointer (some bd))) (hu : dLoad P t' (.pointer (some bd)) H = some (.val u H)) (hk : K (.tuple ⟨[v, u]⟩) H) : Ex.leave P ok fn K .ret ⟨tm, [], H⟩ := by
 refine EvV.now (v := .tuple ⟨[v, u]⟩) ?_ hk
 have key : ∀ {t : TypeId} {ad : Addr} {v : Value}, dLoad P t (.pointer (some ad)) H = some (.val v H) → dload P t ad H = some v := fun {t ad v} hd => by
  unfold dLoad at hd
  simp only at hd
  cases h1 : dload P t ad H with
  | none => rw [h1] at hd; simp at hd
  | some w => rw [h1] at hd; simp at hd; rw [hd]
 simp [dres, h, dresL, dres1, ha, hb, key hv, key hu]
set_option maxHeartbeats 8000000 in
theorem zim {t : Tm} {cs : List Value} {H : Heap} (r0 : RepT H t cs) (hw : H.wf) : EvF Tryd.prog okT 8 [.agg ⟨cs⟩] H (RReadyEnd H t) := by
 obtain ⟨a, c, cells, rfl, -⟩ := r0.six
 refine EvF.enter rfl Tryd.func8 (by decide) rfl ?_
 (repeat refine EvC.seq ?_); refine EvC.reg ?_; simp (config := { maxSteps := 2000000 }) (disch := first | omega | rfl) only [sB, initTm, dBox, dAlloc, Value.cells, one, zr30, zr37]
 obtain ⟨H2, e2, hx2, gt, gb, gs, hn2, hw2⟩ := zmo hw (.row (six t a c) 25) (.row zero8 30) (.row said0 37)
 simp only [e2]
 clear e2
 have gs : H2.get (H.next + 1 + 1) = some (.row said0 37) := gs
 have qt := row6 gt
 (repeat refine EvC.seq ?_); refine EvC.reg ?_; simp (config := { maxSteps := 2000000 }) (disch := first | omega | rfl) only [sB, Nat.reduceEqDiff, reduceCtorEq, ld25, cl31, qt]
 refine (zbg t _ _ (r0.mono hx2 hw) hw2).mono ?_
 rintro v H3 ⟨rfl, hx3⟩
 have gt3 := hx3.get hw2 gt
 have gb3 := hx3.get hw2 gb
 have gs3 := hx3.get hw2 gs
 have hx := hx2.trans hx3
 have n3 := hx3.next
 have hww := hx.wf
 have qt3 := row6 gt3
 have ne1 : (H.next + 2 = H.next + 1) = False := by simp
 by_cases h0 : checkS t = 0
 rotate_left
 ·have hrs : readyS t = (zeroB, .num (checkS t)) := by unfold readyS; rw [if_pos h0]
  repeat' (first | refine EvC.seq ?_ | refine EvC.scope ?_ | refine EvC.block ?_ | (refine EvC.skip ?_) | (refine EvC.exit ?_) | (refine EvC.ret ?_; try simp only [z01, z00]) | (refine EvC.reg ?_; simp (config := { maxSteps := 2000000 }) (disch := first | omega | rfl) only [sB, Nat.reduceEqDiff, Nat.reduceAdd, Value.cells, one, reduceCtorEq, Nat.reduceLeDiff, layC, bd30, bd37, st30, st37, z3o h0, gb3, gs3, ne1, neu, neu']) | (refine EvC.condT ?_ ?_; simp (config := { maxSteps := 2000000 }) (disch := first | omega | rfl) only [sB, Nat.reduceEqDiff, reduceCtorEq, neu']; refine z06 ?_))
  refine z9s rfl (by simp only [sB, Nat.reduceEqDiff, reduceCtorEq] <;> rfl) (by simp only [sB, Nat.reduceAdd, cutC, ld30, neu] <;> rfl) (by simp only [sB, Nat.reduceEqDiff, reduceCtorEq] <;> rfl) (by simp only [sB, Nat.reduceEqDiff, Nat.reduceAdd, cutC, ld37] <;> rfl) ⟨(hx.pt (i := H.next + 1) (by omega) gb3 _).pt (i := H.next + 1 + 1) (by omega) (by rw [get_put, if_neg (by omega)]; exact gs3) _, _, _, rfl, ?_, ?_⟩
  ·rw [hrs]; exact OB.nil (by decide)
  ·rw [hrs]; exact ⟨h0, rfl⟩
 obtain ⟨hm2, hm1, hmb⟩ := zfw h0
 (repeat refine EvC.seq ?_); refine EvC.reg ?_; simp (config := { maxSteps := 2000000 }) (disch := first | omega | rfl) only [sB, Nat.reduceEqDiff, reduceCtorEq, z2g h0]
 (repeat refine EvC.seq ?_); refine EvC.condF (by simp (config := { maxSteps := 2000000 }) (disch := first | omega | rfl) only [sB, Nat.reduceEqDiff, reduceCtorEq]) ?_; (try refine EvC.skip ?_); (try simp only [z02, z03])
 (repeat refine EvC.seq ?_); refine EvC.reg ?_; simp (config := { maxSteps := 2000000 }) (disch := first | omega | rfl) only [sB, dAlloc, Nat.reduceEqDiff, reduceCtorEq, zr37, ld25, cl32, qt3]
 refine (zka (r0.mono hx hw) h0 hww).mono ?_
 rintro v H4 ⟨hx4, outM, rfl, hsd⟩
 obtain ⟨en, eb, et, ea, ec, rfl⟩ := hsd.cells
 have n4 := hx4.next
 try simp (config := { maxSteps := 2000000 }) (disch := first | omega | rfl) only [sB, Nat.reduceAdd, one, st37]
 obtain ⟨H5, e5, hx5, g5, hn5, hw5⟩ := z0w hx4.wf (.row said0 37) (.row (saidT en eb et ea ec) 37)
 simp only [e5]
 clear e5
 have q5 := rowS g5
 have hx45 := hx4.trans hx5
 have hsd5 : RSaid H5 (Rg H3.next H4.next) (madeE t) (saidT en eb et ea ec) := hsd.to fun n hn hl => ⟨hx5.keep n hl, hn, by omega⟩
 (repeat refine EvC.seq ?_); refine EvC.reg ?_; simp (config := { maxSteps := 2000000 }) (disch := first | omega | rfl) only [sB, Nat.reduceEqDiff, reduceCtorEq, ld37, cl33, q5]
 refine (zk9 hsd5 hw5).mono ?_
 rintro v H6 ⟨rfl, hx6⟩
 have hx36 := hx45.trans hx6
 have n6 := hx6.next
 have gb6 := hx36.get hww gb3
 have gs6 := hx36.get hww gs3
 have q6 := rowS (hx6.get hw5 g5)
 have qt6 := row6 (hx36.get hww gt3)
 have hxf := hx.trans hx36
 have hw6 := hx6.wf
 by_cases hmo : madeE t = .ok
 ·have hnn : noneB (madeE t) = true := by rw [hmo]; rfl
  try simp (config := { maxSteps := 2000000 }) (disch := first | omega | rfl) only []
  (repeat refine EvC.seq ?_); refine EvC.reg ?_; simp (config := { maxSteps := 2000000 }) (disch := first | omega | rfl) only [sB, Nat.reduceEqDiff, reduceCtorEq]
  (repeat refine EvC.seq ?_); refine EvC.condF (by simp (config := { maxSteps := 2000000 }) (disch := first | omega | rfl) only [sB, Nat.reduceEqDiff, reduceCtorEq, hnn, Bool.not_true]) ?_; (try refine EvC.skip ?_); (try simp only [z02, z03])
  (repeat refine EvC.seq ?_); refine EvC.reg ?_; simp (config := { maxSteps := 2000000 }) (disch := first | omega | rfl) only [sB, Nat.reduceEqDiff, reduceCtorEq, ld25, cl34, qt6]
  refine (z9r _ t _ H6 (Nat.lt_succ_self _) (r0.mono hxf hw) h0 hw6).mono ?_
  rintro v H7 ⟨hx7, out, bd, rfl, hob, hbd⟩
  obtain rfl := hbd _ (hmb hmo)
  obtain ⟨ta, tc, sa, sc, rfl⟩ := hob.rep.eight
  have n7 := hx7.next
  try simp (config := { maxSteps := 2000000 }) (disch := first | omega | rfl) only [sB, dAlloc, Nat.reduceEqDiff, Nat.reduceAdd, one, reduceCtorEq, zr30, st30]
  obtain ⟨H8, e8, hx8, g8, hn8, hw8⟩ := z0w hx7.wf (.row zero8 30) (.row (eightT (readyS t).1.kind (readyS t).1.term ta tc sa (readyS t).1.sub.length sc) 30)
  simp only [e8]
  clear e8
  have q8 := row8 g8
  have hx68 := hx7.trans hx8
  have gb8 := hx68.get hw6 gb6
  have gs8 := hx68.get hw6 gs6
  have lgs := hw8 _ _ gs8
  have n8 := hx8.next
  repeat' (first | refine EvC.seq ?_ | refine EvC.scope ?_ | refine EvC.block ?_ | (refine EvC.skip ?_) | (refine EvC.exit ?_) | (refine EvC.ret ?_; try simp only [z01, z00]) | (refine EvC.reg ?_; simp (config := { maxSteps := 2000000 }) (disch := first | omega | rfl) only [sB, Nat.reduceEqDiff, Nat.reduceAdd, Value.cells, one, reduceCtorEq, layC, bd37, st30, st37, ld30, q8, gb8, gs8, ne1, neu, neu']))
  refine z9s rfl (by simp only [sB, Nat.reduceEqDiff, reduceCtorEq] <;> rfl) (by simp only [sB, Nat.reduceAdd, cutC, ld30, neu] <;> rfl) (by simp only [sB, Nat.reduceEqDiff, reduceCtorEq] <;> rfl) (by simp only [sB, Nat.reduceEqDiff, Nat.reduceAdd, cutC, ld37] <;> rfl) ⟨((hxf.trans hx68).pt (i := H.next + 1) (by omega) gb8 _).pt (i := H.next + 1 + 1) (by omega) (by rw [get_put, if_neg (by omega)]; exact gs8) _, _, _, rfl, ?_, ?_⟩
  ·refine (hob.keep hx8).to (fun n hn hl => ⟨by have := hn.1; rw [get_put, if_neg (by omega), get_put, if_neg (by omega)], by rw [z07, z07]; exact hl⟩) fun n hn => ⟨by have := hn.1; omega, by rw [z07, z07]; have := hn.2; omega⟩
  ·rw [hm2, hmo]; rfl
 ·have hnn : noneB (madeE t) = false := by
   cases h : madeE t with
   | ok => exact absurd h hmo
   | num e => rfl
   | ball t => rfl
  try simp (config := { maxSteps := 2000000 }) (disch := first | omega | rfl) only []
  (repeat refine EvC.seq ?_); refine EvC.reg ?_; simp (config := { maxSteps := 2000000 }) (disch := first | omega | rfl) only [sB, Nat.reduceEqDiff, reduceCtorEq]
  (repeat refine EvC.seq ?_); refine EvC.condT (by simp (config := { maxSteps := 2000000 }) (disch := first | omega | rfl) only [sB, Nat.reduceEqDiff, reduceCtorEq, hnn, Bool.not_false]) ?_; (try refine EvC.skip ?_); (try simp only [z02, z03])
  have ne5 : (H4.next = H.next + 1) = False := by simp; omega
  have ne6 : (H4.next = H.next + 2) = False := by simp; omega
  repeat' (first | refine EvC.seq ?_ | refine EvC.scope ?_ | refine EvC.block ?_ | (refine EvC.skip ?_) | (refine EvC.exit ?_) | (refine EvC.ret ?_; try simp only [z01, z00]) | (refine EvC.drw [([(0, 0)], some 2), ([(1, 0)], some 3), ([], none)] ?_ ?_; kernel_rfl; simp (config := { maxSteps := 2000000 }) (disch := first | omega | rfl) only [sV, sD, sB, Nat.reduceEqDiff, Nat.reduceAdd, Value.cells, one, reduceCtorEq, cutC, layC, bd30, st30, st37, ld37, gb6, gs6, q6, ne1, ne5, neu, neu', isAlloc, isRead, reduceCtorEq]))
  have gk := fun (n : Nat) (hl : n < H6.next) => (z9b (H := H6) (n := H6.next + 4) (i := n))
  have gx : HX H { H6 with next := H6.next + 4 } := hxf.bump 4
  have gb7 := (gk _ (hw6 _ _ gb6)).trans gb6
  have gs7 := (gk _ (hw6 _ _ gs6)).trans gs6
  refine z9s rfl (by simp only [sB, Nat.reduceEqDiff, reduceCtorEq] <;> rfl) (by simp only [sB, Nat.reduceAdd, cutC, ld30, neu] <;> rfl) (by simp only [sB, Nat.reduceEqDiff, reduceCtorEq] <;> rfl) (by simp only [sB, Nat.reduceEqDiff, Nat.reduceAdd, cutC, ld37] <;> rfl) ⟨(gx.pt (i := H.next + 1) (by omega) gb7 _).pt (i := H.next + 1 + 1) (by omega) (by rw [get_put, if_neg (by omega)]; exact gs7) _, _, _, rfl, ?_, ?_⟩
  ·rw [hm1 hmo]; exact OB.nil (by decide)
  ·rw [hm2]
   exact hsd5.to fun n hn hl => by
    have := hn.1
    have h1 := hx6.keep n hl
    have h2 := hx6.next
    have h3 := gk n (by omega)
    exact ⟨by rw [get_put, if_neg (by omega), get_put, if_neg (by omega)]; exact h3.trans h1, ⟨by omega, by rw [z07, z07]; show n < H6.next + 4; omega⟩, by rw [z07, z07]; show n < H6.next + 4; omega⟩
end Go.Proofs.hq
end
