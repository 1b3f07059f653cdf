import Derived.Test.YtlllbkjiadcloaaDoorM3
import Derived.Test.YtlllbkjiadcloaaDoorM6
/- Lemmas on the program's own code, towards the laws of this folder, part 7. Conditions: as each lemma says. -/
-- V8
section
/- Lists together: the reference's. -/
namespace Go.Hb
open Go Go.RowKit
theorem new3b {H : Heap} (hw : H.wf) (A B C : Blk) : ∃ H2, ((H.new (some A)).new (some B)).new (some C) = H2 ∧ HX H H2 ∧ H2.get H.next = some A ∧ H2.get (H.next + 1) = some B ∧ H2.get (H.next + 2) = some C ∧ H2.next = H.next + 3 ∧ H2.wf := by
  obtain ⟨H2, e2, hx, g1, g2, hn, hw2⟩ := new2 hw A B
  obtain ⟨H3, e3, hx3, g3, hn3, hw3⟩ := new1 hw2 C
  rw [hn] at g3 hn3
  exact ⟨H3, by rw [e2, e3], hx.trans hx3, hx3.get hw2 g1, hx3.get hw2 g2, g3, hn3, hw3⟩
end Go.Hb
namespace Go.Proofs.YtlllbkjiadcloaaDoor.hb
open Go Go.RowKit Go.Hb
variable {ok : Ok}
set_option maxRecDepth 10000
attribute [local irreducible] LX LG EL STG SOP SGO SGD SAL SRD SEF SEG SLK SCK ES
-- @veq
-- hornbeamref02.F
theorem F_ev {s : ByteArray} {ad : Addr} {n c : Nat} {cs : List Value} {H : Heap} (hn : 0 < n) (hm : n ≤ 1000) (hl : H.load ad (n * 6) = some cs) (hone : cs.all one = true) (hw : H.wf) :
    EvF Tryd.prog okT 45 [.string s, .slice (some ad) n c] H fun v H' => v = .agg ⟨[.int .i64 5, .string s, .string ByteArray.empty, .int .u64 0, .int .i64 0, .slice (some ⟨H.next + 2, 0, none⟩) n n]⟩ ∧ H'.get (H.next + 2) = some (.row cs 26) ∧ H'.next = H.next + 3 ∧ HX H H' := by
  have ean : apOk Tryd.prog 24 26 6 := ap24
  refine EvF.enter rfl Tryd.func45 (by decide) rfl ?_
  (repeat refine EvC.seq ?_); refine EvC.reg ?_; simp (config := { maxSteps := 2000000 }) (disch := first | omega | rfl) only [sA, initTm, dAlloc, zr26]
  obtain ⟨H2, e2, hx2, g2, hn2, hw2⟩ := new1 hw (.row zero6 26)
  simp only [e2]
  repeat' (first | refine EvC.seq ?_ | refine EvC.scope ?_ | refine EvC.block ?_ | (refine EvC.skip ?_) | (refine EvC.exit ?_) | (refine EvC.ret ?_; try simp only [thenC_ret, inBlock_ret]) | (refine EvC.reg ?_; simp (config := { maxSteps := 2000000 }) (disch := first | omega | rfl) only [sA, Nat.reduceEqDiff, Value.cells, reduceCtorEq, if_true, if_false, layC, bs24_0]))
  obtain ⟨H3, e3, hx3, g3, hn3, hw3⟩ := new1 hw2 (.row [] 26)
  simp only [e3]
  have e7 : dAp Tryd.prog #[24, 24] (.slice (some ⟨H2.next, 0, none⟩) 0 0) (.slice (some ad) n c) H3 = _ := dAp_row ean hn (by unfold most; omega) ((hx2.trans hx3).load hw hl) hone g3 (by simp) rfl
  have hx4 : HX H ((H3.put H2.next none).new (some (.row cs 26))) := ((hx2.trans hx3).put (by omega) (by omega) none).new _
  have g4 : ((H3.put H2.next none).new (some (.row cs 26))).get H3.next = some (.row cs 26) := gt_new_eq
  have g4' : ((H3.put H2.next none).new (some (.row cs 26))).get H.next = some (.row zero6 26) := by
    rw [gt_new_lt (by rw [next_put]; omega), gt_put_ne (by omega)]; exact hx3.get hw2 g2
  obtain ⟨H4, e4⟩ : ∃ H4, (H3.put H2.next none).new (some (.row cs 26)) = H4 := ⟨_, rfl⟩
  have hn4 : H4.next = H3.next + 1 := by rw [← e4]; rfl
  have e8 : (H3.put H2.next none).new (some (.row (List.take (0 * 6) [] ++ cs) 26)) = H4 := e4
  rw [e8] at e7
  rw [e4] at hx4 g4 g4'
  have en : H3.next = H.next + 2 := by omega
  repeat' (first | refine EvC.seq ?_ | refine EvC.scope ?_ | refine EvC.block ?_ | (refine EvC.skip ?_) | (refine EvC.exit ?_) | (refine EvC.ret ?_; try simp only [thenC_ret, inBlock_ret]) | (refine LX_go ?_; simp (config := { maxSteps := 2000000 }) (disch := first | omega | rfl) only [sA, Nat.reduceEqDiff, Nat.reduceAdd, Value.cells, one, reduceCtorEq, if_true, if_false, Nat.reduceLeDiff, layC, bd26, st26, e7, g4']))
  refine leave_cell rfl (by first | (simp only [sA, Nat.reduceEqDiff, reduceCtorEq, if_true, if_false]; rfl) | simp only []) (by first | (simp only [sA, Nat.reduceAdd, if_true, cutC, ld26]; rfl) | simp only []) ⟨by rw [en], ?_, ?_, hx4.pt (Nat.le_refl _) g4' _⟩
  · rw [get_put, if_neg (by omega), ← en]; exact g4
  · rw [next_put]; omega

-- hornbeamref02.F2
theorem F2_ev {s : ByteArray} {t u : Tm} {a a' : Option Addr} {c c' : Nat} {H : Heap} (hw : H.wf) :
    EvF Tryd.prog okT 93 [.string s, .agg ⟨six t a c⟩, .agg ⟨six u a' c'⟩] H fun v H' => ∃ b, v = .agg ⟨[.int .i64 5, .string s, .string ByteArray.empty, .int .u64 0, .int .i64 0, .slice (some ⟨b, 0, none⟩) 2 2]⟩ ∧
      H'.get b = some (.row (six t a c ++ six u a' c') 26) ∧ H.next ≤ b ∧ b < H'.next ∧ HX H H' := by
  refine EvF.enter rfl Tryd.func93 (by decide) rfl ?_
  (repeat refine EvC.seq ?_); refine EvC.reg ?_; simp (config := { maxSteps := 2000000 }) (disch := first | omega | rfl) only [sA, initTm, dBox, dAlloc, Nat.reduceEqDiff, Nat.reduceAdd, Value.cells, one, reduceCtorEq, if_true, if_false, zr26]
  obtain ⟨H2, e2, hx2, gp, gq, gr, hn2, hw2⟩ := new3b hw (.row (six t a c) 26) (.row (six u a' c') 26) (.row zero6 26)
  simp only [e2]
  have q1 := row6 gp
  have q2 := row6 gq
  repeat' (first | refine EvC.seq ?_ | refine EvC.scope ?_ | refine EvC.block ?_ | (refine EvC.skip ?_) | (refine EvC.exit ?_) | (refine EvC.ret ?_; try simp only [thenC_ret, inBlock_ret]) | (refine EvC.reg ?_; simp (config := { maxSteps := 2000000 }) (disch := first | omega | rfl) only [sA, Nat.reduceEqDiff, Nat.reduceAdd, Value.cells, one, reduceCtorEq, if_true, if_false, Nat.reduceLeDiff, layC, ld26, bs24_2, cl45, q1, q2]))
  obtain ⟨H3, e3, hx3, g3, hn3, hw3⟩ := new1 hw2 (.row (six t a c ++ six u a' c') 26)
  have e3' := e3
  simp only [six, List.cons_append, List.nil_append] at e3'
  simp only [e3']
  have l3 : H3.load ⟨H2.next, 0, none⟩ (2 * 6) = some (six t a c ++ six u a' c') := by unfold Heap.load Heap.cells; simp only [g3]; rfl
  refine (F_ev (by omega) (by omega) l3 rfl hw3).mono ?_
  rintro v H4 ⟨rfl, g4, hn4, hx4⟩
  have gr4 := hx4.get hw3 (hx3.get hw2 gr)
  have hx24 := (hx2.trans hx3).trans hx4
  repeat' (first | refine EvC.seq ?_ | refine EvC.scope ?_ | refine EvC.block ?_ | (refine EvC.skip ?_) | (refine EvC.exit ?_) | (refine EvC.ret ?_; try simp only [thenC_ret, inBlock_ret]) | (refine LX_go ?_; simp (config := { maxSteps := 2000000 }) (disch := first | omega | rfl) only [sA, Nat.reduceAdd, one, if_true, st26, gr4]))
  exact leave_cell rfl (by first | (simp only [sA, Nat.reduceEqDiff, reduceCtorEq, if_true, if_false]; rfl) | simp only []) (by first | (simp only [sA, Nat.reduceAdd, if_true, cutC, ld26]; rfl) | simp only [sA, Nat.reduceAdd, if_true, cutC, ld26]) ⟨H3.next + 2, rfl, by rw [get_put, if_neg (by omega)]; exact g4, by omega, by rw [next_put]; omega, hx24.pt (by omega) gr4 _⟩

-- hornbeamref02.Listed
set_option maxHeartbeats 4000000 in
theorem listed_ev {l : List Tm} {e : Tm} {a : Option Addr} {c : Nat} {cells : Nat → List Value} {cs : List Value} {H : Heap} (rl : RepL H l a c cells) (r : RepT H e cs) (hf : ∀ t ∈ l, Fine t) (hfe : Fine e) (hw : H.wf) :
    EvF Tryd.prog okT 63 [.slice a l.length c, .agg ⟨cs⟩] H fun v H' => ∃ out, v = .agg ⟨out⟩ ∧ RepF H' 26 (Rg H.next H'.next) (listed l e) out ∧ HX H H' := by
  have r0 := r
  obtain ⟨ae, ce, cellse, rfl, -⟩ := r.six
  have hm := rl.max
  have few : ∀ {t : Tm}, Fine t → Few 1000000 t := fun {t} h => (Fine.few _ (Nat.lt_succ_self _) h).up (by omega)
  refine EvF.enter rfl Tryd.func63 (by decide) rfl ?_
  (repeat refine EvC.seq ?_); refine EvC.reg ?_; simp (config := { maxSteps := 2000000 }) (disch := first | omega | rfl) only [sA, initTm, dBox, dAlloc, Value.cells, one, reduceCtorEq, if_true, if_false, zr26]
  obtain ⟨H2, e2, hx2, gp, gq, hn2, hw2⟩ := new2 hw (.row (six e ae ce) 26) (.row zero6 26)
  simp only [e2]
  have q1 := row6 gp
  repeat' (first | refine EvC.seq ?_ | refine EvC.scope ?_ | refine EvC.block ?_ | (refine EvC.skip ?_) | (refine EvC.exit ?_) | (refine EvC.ret ?_; try simp only [thenC_ret, inBlock_ret]) | (refine EvC.reg ?_; simp (config := { maxSteps := 2000000 }) (disch := first | omega | rfl) only [sA, dAlloc, Nat.reduceEqDiff, reduceCtorEq, if_true, if_false, zr26, ld26, cl34, q1]))
  refine (ownR_ev (Nat.lt_succ_self _) (r0.mono hx2 hw) (few hfe) hw2).mono ?_
  rintro v H3 ⟨co, rfl, ⟨ao, ko, rfl, hbe, hfo⟩, hx3⟩
  have hx23 := hx2.trans hx3
  repeat' (first | refine EvC.seq ?_ | refine EvC.scope ?_ | refine EvC.block ?_ | (refine EvC.skip ?_) | (refine EvC.exit ?_) | (refine EvC.ret ?_; try simp only [thenC_ret, inBlock_ret]) | (refine EvC.reg ?_; simp (config := { maxSteps := 2000000 }) (disch := first | omega | rfl) only [sA, Nat.reduceEqDiff, reduceCtorEq, if_true, if_false, ln24, wrap_i64]) | (refine LX_go ?_; simp (config := { maxSteps := 2000000 }) (disch := first | omega | rfl) only [sA, Nat.reduceAdd, one, if_true, st26]))
  obtain ⟨H4, e4, hx4, g4, hn4, hw4⟩ := newput hx3.wf (.row zero6 26) (.row (six e ao ko) 26)
  simp only [e4]
  have hx24 := hx23.trans hx4
  have n3 := hx3.next
  refine EvC.loop (fun k st => ∃ tm G aj cj, st = ⟨tm, [], G⟩ ∧ k ≤ l.length ∧ tm.get 0 = some (.slice a l.length c) ∧ tm.get 4 = some (.pointer (some ⟨H.next + 1, 0, none⟩)) ∧ tm.get 5 = some (.pointer (some ⟨H3.next, 0, none⟩)) ∧ tm.get 6 = some (.int .i64 ((k : Nat) - 1 : Int)) ∧
    G.get (H.next + 1) = some (.row zero6 26) ∧ G.get H3.next = some (.row (six (listed (l.drop k) e) aj cj) 26) ∧
    FL G 26 (fun n => (H2.next ≤ n ∧ n < H3.next) ∨ (H3.next < n ∧ n < G.next)) (listed (l.drop k) e).args aj cj ∧ Bd (listed (l.drop k) e) ∧ HX H G) ?_ l.length _ ?_
  · rintro k st ⟨tm, G, aj, cj, rfl, hk, t0, t4, t5, t6, gqG, gtG, hfl, hbj, hxG⟩
    have q5 := row6 gtG
    cases k with
    | zero =>
      rw [List.drop_zero] at q5 hfl hbj
      have hd : decide ((((0 : Nat) : Int) - 1) ≥ 0) = false := by decide
      have hltG := hxG.wf _ _ gqG
      repeat' (first | refine EvC.seq ?_ | refine EvC.scope ?_ | refine EvC.block ?_ | (refine EvC.skip ?_) | (refine EvC.exit ?_; try simp only [sA, if_true]) | (refine EvC.ret ?_; try simp only [thenC_ret, inBlock_ret]) | (refine EvC.reg ?_; simp (config := { maxSteps := 2000000 }) (disch := first | omega | rfl) only [sA, Nat.reduceEqDiff, Nat.reduceAdd, one, if_true, if_false, ld26, st26, t4, t5, t6, hd, q5, gqG]) | (refine EvC.condT ?_ ?_; simp (config := { maxSteps := 2000000 }) (disch := first | omega | rfl) only [sA, Nat.reduceEqDiff, if_true, if_false]; refine EvC_go ?_) | (refine EvC.condF ?_ ?_; simp (config := { maxSteps := 2000000 }) (disch := first | omega | rfl) only [sA, Nat.reduceEqDiff, if_true, if_false]; refine EvC_go ?_))
      refine leave_cell rfl (by first | (simp only [sA, Nat.reduceEqDiff, if_false, t4]; rfl) | simp only []) (by first | (simp only [sA, Nat.reduceAdd, if_true, cutC, ld26]; rfl) | simp only [sA, Nat.reduceAdd, if_true, cutC, ld26]) ⟨_, rfl, ⟨aj, cj, rfl, hbj, (hfl.heap (fun n hn _ => ?_) hxG.wf).sub fun n hn => ?_⟩, hxG.pt (by omega) gqG _⟩
      · rw [get_put, if_neg (by rcases hn with hn | hn <;> omega)]
      · refine ⟨by rcases hn with hn | hn <;> omega, ?_⟩
        have := hxG.wf _ _ gtG
        rw [next_put]
        rcases hn with hn | hn <;> omega
    | succ k =>
      have ek : (((k + 1 : Nat) : Int) - 1) = (k : Nat) := by omega
      rw [ek] at t6
      have hd : decide (((k : Nat) : Int) ≥ 0) = true := decide_eq_true (by omega)
      have hlt : k < l.length := by omega
      obtain ⟨b, o, a1, c1, rfl, hld, hr1⟩ := rl.el hlt
      have hld1 := hxG.load hw hld
      repeat' (first | refine EvC.seq ?_ | refine EvC.scope ?_ | refine EvC.block ?_ | (refine EvC.skip ?_; try simp only [thenC_normal]) | (refine EvC.exit ?_) | (refine EvC.ret ?_; try simp only [thenC_ret, inBlock_ret]) | (refine EvC.reg ?_; simp (config := { maxSteps := 2000000 }) (disch := first | omega | rfl) only [sA, if_true, t6, hd]) | (refine EvC.drw [([(0, 0), (1, 0), (2, 0), (3, 0)], some 4), ([(5, 0)], some 6), ([], some 7), ([], none)] ?_ ?_; kernel_rfl; simp (config := { maxSteps := 2000000 }) (disch := first | omega | rfl) only [sD, sA, Nat.reduceEqDiff, Nat.reduceAdd, reduceCtorEq, if_true, if_false, ld26, cl34, ia24, t0, t6, hld1, isAlloc, isRead, reduceCtorEq]) | (refine EvC.condT ?_ ?_; simp (config := { maxSteps := 2000000 }) (disch := first | omega | rfl) only [sA, Nat.reduceEqDiff, if_true, if_false]; refine EvC_go ?_))
      have hxb := hxG.bump 8
      refine (ownR_ev (Nat.lt_succ_self _) (hr1.mono hxb hw) (few (hf _ (List.getElem_mem _))) hxb.wf).mono ?_
      rintro v G5 ⟨co2, rfl, ⟨ao2, ko2, rfl, hb5, hf5⟩, hx5⟩
      have hb85 := ((HX.refl hxG.wf).bump 8).trans hx5
      have n5 : G.next + 8 ≤ G5.next := hx5.next
      have gt5 := hb85.get hxG.wf gtG
      have q5' := row6 gt5
      repeat' (first | refine EvC.seq ?_ | refine EvC.scope ?_ | refine EvC.block ?_ | (refine EvC.skip ?_) | (refine EvC.exit ?_) | (refine EvC.ret ?_; try simp only [thenC_ret, inBlock_ret]) | (refine SCK_go ?_; simp (config := { maxSteps := 2000000 }) (disch := first | omega | rfl) only [sV, sD, sA, Nat.reduceEqDiff, reduceCtorEq, if_true, if_false, ld26, cl93, t5, q5, q5', isAlloc, isRead, reduceCtorEq]))
      refine (F2_ev hx5.wf).mono ?_
      rintro v G6 ⟨bb, rfl, g6, hb1, hb2, hx6⟩
      have hx56 := hb85.trans hx6
      have gt6 := hx56.get hxG.wf gtG
      have gq6 := hx56.get hxG.wf gqG
      have hltr := hxG.wf _ _ gtG
      have hltq := hxG.wf _ _ gqG
      repeat' (first | refine EvC.seq ?_ | refine EvC.scope ?_ | refine EvC.block ?_ | (refine EvC.skip ?_) | (refine EvC.exit ?_) | (refine EvC.ret ?_; try simp only [thenC_ret, inBlock_ret]) | (refine EvC.reg ?_; simp (config := { maxSteps := 2000000 }) (disch := first | omega | rfl) only [sA, Nat.reduceEqDiff, if_true, if_false, t6, wrap_i64]) | (refine SCK_go ?_; simp (config := { maxSteps := 2000000 }) (disch := first | omega | rfl) only [sD, sA, Nat.reduceEqDiff, Nat.reduceAdd, one, if_true, if_false, st26, t5, gt6]))
      have hlist : listed (l.drop k) e = .mk 5 dot ByteArray.empty 0 0 [l[k], listed (l.drop (k + 1)) e] := by
        rw [List.drop_eq_getElem_cons hlt]; rfl
      have n6 := hx6.next
      refine ⟨k, by omega, _, _, some ⟨bb, 0, none⟩, 2, rfl, by omega, (by first | (simp only [Tr.get_put, reduceCtorEq, if_false, t0]; rfl) | simp only [Tr.get_put, reduceCtorEq, if_false, t0]), (by first | (simp only [Tr.get_put, Nat.reduceEqDiff, if_false, t4]; rfl) | simp only [Tr.get_put, Nat.reduceEqDiff, if_false, t4]), (by first | (simp only [Tr.get_put, Nat.reduceEqDiff, if_false, t5]; rfl) | simp only [Tr.get_put, Nat.reduceEqDiff, if_false, t5]), (by first | (simp only [Tr.get_put, Nat.reduceEqDiff, if_true, if_false]; rfl) | simp only [Tr.get_put, Nat.reduceEqDiff, if_true, if_false]), ?_, ?_, ?_, ?_, (hxG.trans hx56).pt (by omega) gt6 _⟩
      · rw [get_put, if_neg (by omega)]; exact gq6
      · rw [hlist, get_put, if_pos rfl]; rfl
      · rw [hlist]
        refine FL.pair (S1 := Rg (G.next + 8) G5.next) (S2 := fun n => (H2.next ≤ n ∧ n < H3.next) ∨ (H3.next < n ∧ n < G.next)) (hf5.heap (fun n hn hl => ?_) hx5.wf) (hfl.heap (fun n hn hl => ?_) hxG.wf) hb5 hbj ?_ ?_ ?_ ?_ ?_ ?_ ?_
        · have : G.next + 8 ≤ n := hn.1
          rw [get_put, if_neg (by omega), hx6.keep n hl]
        · rw [get_put, if_neg (by rcases hn with hn | hn <;> omega), hx56.keep n hl]
        · rw [get_put, if_neg (by omega)]; exact g6
        · right; exact ⟨by omega, by rw [next_put]; exact hb2⟩
        · rintro ⟨h1, h2⟩; omega
        · rintro (h | h) <;> omega
        · rintro n ⟨h1, h2⟩
          have : G.next + 8 ≤ n := h1
          right; exact ⟨by omega, by rw [next_put]; omega⟩
        · rintro n (h | h)
          · exact .inl h
          · right; exact ⟨h.1, by rw [next_put]; omega⟩
        · rintro n ⟨h1, h2⟩ (h | h)
          · have : G.next + 8 ≤ n := h1; omega
          · have : G.next + 8 ≤ n := h1; omega
      · rw [hlist]; exact bd_pair
  · refine ⟨_, _, ao, ko, rfl, Nat.le_refl _, (by first | (simp only [Tr.get_put, reduceCtorEq, if_true, if_false]; rfl) | simp only [Tr.get_put, reduceCtorEq, if_true, if_false]), (by first | (simp only [Tr.get_put, Nat.reduceEqDiff, reduceCtorEq, if_true, if_false]; rfl) | simp only [Tr.get_put, Nat.reduceEqDiff, reduceCtorEq, if_true, if_false]), (by first | (simp only [Tr.get_put, Nat.reduceEqDiff, reduceCtorEq, if_true, if_false]; rfl) | simp only [Tr.get_put, Nat.reduceEqDiff, reduceCtorEq, if_true, if_false]), (by first | (simp only [Tr.get_put, Nat.reduceEqDiff, reduceCtorEq, if_true, if_false]; rfl) | simp only [Tr.get_put, Nat.reduceEqDiff, reduceCtorEq, if_true, if_false]), hx4.get hx3.wf (hx3.get hw2 gq), ?_, ?_, ?_, hx24⟩
    · rw [List.drop_of_length_le (Nat.le_refl _)]; exact g4
    · rw [List.drop_of_length_le (Nat.le_refl _)]; exact (hfo.keep hx4 hx3.wf).sub fun n hn => .inl hn
    · rw [List.drop_of_length_le (Nat.le_refl _)]; exact hbe

-- hornbeamref02.List
set_option maxHeartbeats 4000000 in
theorem listR_ev {l : List Tm} {e : Tm} {a : Option Addr} {c : Nat} {cells : Nat → List Value} {cs : List Value} {H : Heap} (rl : RepL H l a c cells) (r : RepT H e cs) (hw : H.wf) :
    EvF Tryd.prog okT 22 [.slice a l.length c, .agg ⟨cs⟩] H fun v H' => ∃ out, v = .tuple #[.agg ⟨out⟩, .int .i64 (listE l e)] ∧ RepF H' 26 (Rg H.next H'.next) (listT l e) out ∧ HX H H' := by
  have r0 := r
  obtain ⟨ae, ce, cellse, rfl, -⟩ := r.six
  have hmx := rl.max
  refine EvF.enter rfl Tryd.func22 (by decide) rfl ?_
  (repeat refine EvC.seq ?_); refine EvC.reg ?_; simp (config := { maxSteps := 2000000 }) (disch := first | omega | rfl) only [sA, initTm, dBox, dAlloc, Value.cells, one, reduceCtorEq, if_true, if_false, zr26]
  obtain ⟨H2, e2, hx2, gp, gq, hn2, hw2⟩ := new2 hw (.row (six e ae ce) 26) (.row zero6 26)
  simp only [e2]
  clear e2
  have q1 := row6 gp
  repeat' (first | refine EvC.seq ?_ | refine EvC.scope ?_ | refine EvC.block ?_ | (refine EvC.skip ?_) | (refine EvC.exit ?_) | (refine EvC.ret ?_; try simp only [thenC_ret, inBlock_ret]) | (refine EvC.reg ?_; simp (config := { maxSteps := 2000000 }) (disch := first | omega | rfl) only [sA, Nat.reduceEqDiff, reduceCtorEq, if_true, if_false, cl54]))
  refine (checksR_ev (rl.mono hx2 hw) hw2).mono ?_
  rintro v H3 ⟨rfl, hx3⟩
  have gp3 := hx3.get hw2 gp
  have gq3 := hx3.get hw2 gq
  have hx23 := hx2.trans hx3
  have q1 := row6 gp3
  try simp (config := { maxSteps := 2000000 }) (disch := first | omega | rfl) only []
  (repeat refine EvC.seq ?_); refine EvC.reg ?_; simp (config := { maxSteps := 2000000 }) (disch := first | omega | rfl) only [sA, Nat.reduceEqDiff, reduceCtorEq, if_true, if_false]
  refine EvC.join (fun st => ∃ tm H', st = ⟨tm, [], H'⟩ ∧ tm.get 0 = some (.slice a l.length c) ∧ tm.get 3 = some (.pointer (some ⟨H.next, 0, none⟩)) ∧ tm.get 4 = some (.pointer (some ⟨H.next + 1, 0, none⟩)) ∧ tm.get 6 = some (.int .i64 (orZ (chkL l) (checkS e))) ∧
      H'.get H.next = some (.row (six e ae ce) 26) ∧ H'.get (H.next + 1) = some (.row zero6 26) ∧ HX H H') ?_ ?_
  · by_cases h0 : chkL l = 0
    · repeat' (first | refine EvC.seq ?_ | refine EvC.scope ?_ | refine EvC.block ?_ | (refine EvC.skip ?_) | (refine EvC.exit ?_) | (refine EvC.ret ?_; try simp only [thenC_ret, inBlock_ret]) | (refine EvC.reg ?_; simp (config := { maxSteps := 2000000 }) (disch := first | omega | rfl) only [sA, Nat.reduceEqDiff, reduceCtorEq, if_true, if_false, ld26, cl16, ieq_t h0, q1]) | (refine EvC.condT ?_ ?_; simp (config := { maxSteps := 2000000 }) (disch := first | omega | rfl) only [sA, Nat.reduceEqDiff, reduceCtorEq, if_true, if_false, ieq_t h0]; refine EvC_go ?_))
      refine (checkR_tells e _ _ (r0.mono hx23 hw) hx23.wf).mono ?_
      rintro v H4 ⟨rfl, hx4⟩
      repeat' (first | refine EvC.seq ?_ | refine EvC.scope ?_ | refine EvC.block ?_ | (refine EvC.skip ?_) | (refine EvC.exit ?_) | (refine EvC.ret ?_; try simp only [thenC_ret, inBlock_ret]))
      exact ⟨_, _, rfl, (by first | (simp only [Tr.get_put, reduceCtorEq, if_true, if_false]; rfl) | simp only [Tr.get_put, reduceCtorEq, if_true, if_false]), (by first | (simp only [Tr.get_put, Nat.reduceEqDiff, reduceCtorEq, if_true, if_false]; rfl) | simp only [Tr.get_put, Nat.reduceEqDiff, reduceCtorEq, if_true, if_false]), (by first | (simp only [Tr.get_put, Nat.reduceEqDiff, reduceCtorEq, if_true, if_false]; rfl) | simp only [Tr.get_put, Nat.reduceEqDiff, reduceCtorEq, if_true, if_false]), by rw [orZ, if_pos h0]; first | (simp only [Tr.get_put, Nat.reduceEqDiff, reduceCtorEq, if_true, if_false]; rfl) | simp only [Tr.get_put, Nat.reduceEqDiff, reduceCtorEq, if_true, if_false], hx4.get hx23.wf gp3, hx4.get hx23.wf gq3, hx23.trans hx4⟩
    · repeat' (first | refine EvC.seq ?_ | refine EvC.scope ?_ | refine EvC.block ?_ | (refine EvC.skip ?_; try simp only [thenC_normal, ieq_f h0]) | (refine EvC.exit ?_) | (refine EvC.ret ?_; try simp only [thenC_ret, inBlock_ret]) | (refine EvC.condT ?_ ?_; simp (config := { maxSteps := 2000000 }) (disch := first | omega | rfl) only [sA, Nat.reduceEqDiff, reduceCtorEq, if_true, if_false, ieq_f h0]; refine EvC_go ?_) | (refine EvC.condF ?_ ?_; simp (config := { maxSteps := 2000000 }) (disch := first | omega | rfl) only [sA, Nat.reduceEqDiff, reduceCtorEq, if_true, if_false, ieq_f h0]; refine EvC_go ?_))
      exact ⟨_, _, rfl, (by first | (simp only [Tr.get_put, reduceCtorEq, if_true, if_false]; rfl) | simp only [Tr.get_put, reduceCtorEq, if_true, if_false]), (by first | (simp only [Tr.get_put, Nat.reduceEqDiff, reduceCtorEq, if_true, if_false]; rfl) | simp only [Tr.get_put, Nat.reduceEqDiff, reduceCtorEq, if_true, if_false]), (by first | (simp only [Tr.get_put, Nat.reduceEqDiff, reduceCtorEq, if_true, if_false]; rfl) | simp only [Tr.get_put, Nat.reduceEqDiff, reduceCtorEq, if_true, if_false]), by rw [orZ, if_neg h0]; first | (simp only [Tr.get_put, Nat.reduceEqDiff, reduceCtorEq, if_true, if_false]; rfl) | simp only [Tr.get_put, Nat.reduceEqDiff, reduceCtorEq, if_true, if_false], gp3, gq3, hx23⟩
  rintro st ⟨tm, H5, rfl, t0, t3, t4, t6, gp5, gq5, hx5⟩
  have q1 := row6 gp5
  by_cases hE : orZ (chkL l) (checkS e) = 0
  rotate_left
  · repeat' (first | refine EvC.seq ?_ | refine EvC.scope ?_ | refine EvC.block ?_ | (refine EvC.skip ?_) | (refine EvC.exit ?_) | (refine EvC.ret ?_; try simp only [thenC_ret, inBlock_ret]) | (refine EvC.reg ?_; simp (config := { maxSteps := 2000000 }) (disch := first | omega | rfl) only [sA, Nat.reduceEqDiff, Nat.reduceAdd, Value.cells, one, if_true, if_false, layC, bd26, st26, t4, t6, ine_t hE, gq5]) | (refine EvC.condT ?_ ?_; simp (config := { maxSteps := 2000000 }) (disch := first | omega | rfl) only [sA, Nat.reduceEqDiff, if_true, if_false]; refine EvC_go ?_))
    refine leave_cell_two rfl (by first | (simp only [sA, Nat.reduceEqDiff, if_false, t4]; rfl) | simp only []) (by first | (simp only [sA, Nat.reduceAdd, if_true, cutC, ld26]; rfl) | simp only []) (by first | (simp only [sA, Nat.reduceEqDiff, if_true, if_false]; rfl) | simp only []) ⟨zero6, ?_, ?_, hx5.pt (by omega) gq5 _⟩
    · rw [listE, if_neg hE]
    · rw [listT, listE, if_neg hE, if_neg hE]; exact repF_zero
  have hcl : chkL l = 0 := (orZ_zero.1 hE).1
  have hce : checkS e = 0 := (orZ_zero.1 hE).2
  repeat' (first | refine EvC.seq ?_ | refine EvC.scope ?_ | refine EvC.block ?_ | (refine EvC.skip ?_; try simp only [thenC_normal]) | (refine EvC.exit ?_) | (refine EvC.ret ?_; try simp only [thenC_ret, inBlock_ret]) | (refine EvC.reg ?_; simp (config := { maxSteps := 2000000 }) (disch := first | omega | rfl) only [sA, Nat.reduceEqDiff, if_true, if_false, ld26, cl14, t3, t6, ine_f hE, q1]) | (refine EvC.condT ?_ ?_; simp (config := { maxSteps := 2000000 }) (disch := first | omega | rfl) only [sA, Nat.reduceEqDiff, if_true, if_false]; refine EvC_go ?_) | (refine EvC.condF ?_ ?_; simp (config := { maxSteps := 2000000 }) (disch := first | omega | rfl) only [sA, Nat.reduceEqDiff, if_true, if_false]; refine EvC_go ?_))
  refine (nodesR_tells e _ _ (r0.mono hx5 hw) hx5.wf).mono ?_
  rintro v H6 ⟨rfl, hx6⟩
  have gp6 := hx6.get hx5.wf gp5
  have gq6 := hx6.get hx5.wf gq5
  have hx6 := hx5.trans hx6
  try simp (config := { maxSteps := 2000000 }) (disch := first | omega | rfl) only []
  (repeat refine EvC.seq ?_); refine EvC.reg ?_; simp (config := { maxSteps := 2000000 }) (disch := first | omega | rfl) only [sA]
  refine EvC.meet (fun st => ∃ tm H', st = ⟨tm, [], H'⟩ ∧ tm.get 0 = some (.slice a l.length c) ∧ tm.get 3 = some (.pointer (some ⟨H.next, 0, none⟩)) ∧ tm.get 4 = some (.pointer (some ⟨H.next + 1, 0, none⟩)) ∧
      tm.get 7 = some (.int .i64 (totN l (cnt e 0) : Nat)) ∧ H'.get H.next = some (.row (six e ae ce) 26) ∧ H'.get (H.next + 1) = some (.row zero6 26) ∧ HX H H') ?_ ?_
  · refine EvC.block (EvC.loop (fun k st => ∃ tm H' i n, st = ⟨tm, [], H'⟩ ∧ k = l.length - i ∧ i ≤ l.length ∧ n ≤ 8002 ∧ totN (l.drop i) n = totN l (cnt e 0) ∧ tm.get 0 = some (.slice a l.length c) ∧ tm.get 3 = some (.pointer (some ⟨H.next, 0, none⟩)) ∧ tm.get 4 = some (.pointer (some ⟨H.next + 1, 0, none⟩)) ∧
      tm.get 7 = some (.int .i64 (n : Nat)) ∧ tm.get 8 = some (.int .i64 (i : Nat)) ∧ H'.get H.next = some (.row (six e ae ce) 26) ∧ H'.get (H.next + 1) = some (.row zero6 26) ∧ HX H H') ?_ l.length _ ?_)
    · rintro k st ⟨tm, H', i, n, rfl, rfl, hi, hn8, htot, t0, t3, t4, t7, t8, gp', gq', hx'⟩
      by_cases hlt : i < l.length
      · obtain ⟨b, o, a1, c1, rfl, hld, hr1⟩ := rl.el hlt
        have hld1 := hx'.load hw hld
        by_cases hov : 4000 < n
        · have hd : decide ((n : Int) ≤ 4000) = false := decide_eq_false (by omega)
          repeat' (first | refine EvC.seq ?_ | refine EvC.scope ?_ | refine EvC.block ?_ | (refine EvC.skip ?_) | (refine EvC.exit ?_; try simp only [sA, reduceCtorEq, if_true]) | (refine EvC.ret ?_; try simp only [thenC_ret, inBlock_ret]) | (refine EvC.reg ?_; simp (config := { maxSteps := 2000000 }) (disch := first | omega | rfl) only [sA, Nat.reduceEqDiff, reduceCtorEq, if_true, if_false, ln24, t0, t8, decl hlt, t7, hd]) | (refine EvC.condT ?_ ?_; simp (config := { maxSteps := 2000000 }) (disch := first | omega | rfl) only [sA, Nat.reduceEqDiff, if_true, if_false]; refine EvC_go ?_) | (refine EvC.condF ?_ ?_; simp (config := { maxSteps := 2000000 }) (disch := first | omega | rfl) only [sA, Nat.reduceEqDiff, if_true, if_false]; refine EvC_go ?_))
          exact ⟨_, _, rfl, (by first | (simp only [Tr.get_put, reduceCtorEq, if_false, t0]; rfl) | simp only [Tr.get_put, reduceCtorEq, if_false, t0]), (by first | (simp only [Tr.get_put, Nat.reduceEqDiff, if_false, t3]; rfl) | simp only [Tr.get_put, Nat.reduceEqDiff, if_false, t3]), (by first | (simp only [Tr.get_put, Nat.reduceEqDiff, if_false, t4]; rfl) | simp only [Tr.get_put, Nat.reduceEqDiff, if_false, t4]), by rw [← htot, totN_over hov]; first | (simp only [Tr.get_put, Nat.reduceEqDiff, if_false, t7]; rfl) | simp only [Tr.get_put, Nat.reduceEqDiff, if_false, t7], gp', gq', hx'⟩
        · have hd : decide ((n : Int) ≤ 4000) = true := decide_eq_true (by omega)
          repeat' (first | refine EvC.seq ?_ | refine EvC.scope ?_ | refine EvC.block ?_ | (refine EvC.skip ?_; try simp only [thenC_normal]) | (refine EvC.exit ?_) | (refine EvC.ret ?_; try simp only [thenC_ret, inBlock_ret]) | (refine EvC.reg ?_; simp (config := { maxSteps := 2000000 }) (disch := first | omega | rfl) only [sA, Nat.reduceEqDiff, reduceCtorEq, if_true, if_false, ld26, cl14, ln24, ia24, t0, t8, decl hlt, hld1, t7, hd, wrap_i64]) | (refine EvC.condT ?_ ?_; simp (config := { maxSteps := 2000000 }) (disch := first | omega | rfl) only [sA, Nat.reduceEqDiff, if_true, if_false]; refine EvC_go ?_))
          refine (nodesR_tells l[i] _ _ (hr1.mono hx' hw) hx'.wf).mono ?_
          rintro v H8 ⟨rfl, hx8⟩
          have hcap := cnt_cap l[i]
          repeat' (first | refine EvC.seq ?_ | refine EvC.scope ?_ | refine EvC.block ?_ | (refine EvC.skip ?_) | (refine EvC.exit ?_) | (refine EvC.ret ?_; try simp only [thenC_ret, inBlock_ret]) | (refine EvC.reg ?_; simp (config := { maxSteps := 2000000 }) (disch := first | omega | rfl) only [sA, Nat.reduceEqDiff, if_true, if_false, t8, wrap_i64]) | (refine LX_go ?_; simp (config := { maxSteps := 2000000 }) (disch := first | omega | rfl) only [sA, Nat.reduceEqDiff, if_true, if_false, wrap_i64]))
          exact ⟨l.length - (i + 1), by omega, _, _, i + 1, n + (1 + cnt l[i] 0), rfl, rfl, by omega, by omega, by rw [← htot, totN_drop hlt (by omega)], (by first | (simp only [Tr.get_put, reduceCtorEq, if_false, t0]; rfl) | simp only [Tr.get_put, reduceCtorEq, if_false, t0]), (by first | (simp only [Tr.get_put, Nat.reduceEqDiff, if_false, t3]; rfl) | simp only [Tr.get_put, Nat.reduceEqDiff, if_false, t3]), (by first | (simp only [Tr.get_put, Nat.reduceEqDiff, if_false, t4]; rfl) | simp only [Tr.get_put, Nat.reduceEqDiff, if_false, t4]), by rw [show ((n + (1 + cnt l[i] 0) : Nat) : Int) = (n : Int) + 1 + (cnt l[i] 0 : Nat) by omega]; first | (simp only [Tr.get_put, Nat.reduceEqDiff, if_true, if_false]; rfl) | simp only [Tr.get_put, Nat.reduceEqDiff, if_true, if_false], (by first | (simp only [sA, Nat.reduceEqDiff, if_true, if_false]; rfl) | simp only []), hx8.get hx'.wf gp', hx8.get hx'.wf gq', hx'.trans hx8⟩
      · repeat' (first | refine EvC.seq ?_ | refine EvC.scope ?_ | refine EvC.block ?_ | (refine EvC.skip ?_) | (refine EvC.exit ?_; try simp only [sA, reduceCtorEq, if_true]) | (refine EvC.ret ?_; try simp only [thenC_ret, inBlock_ret]) | (refine EvC.reg ?_; simp (config := { maxSteps := 2000000 }) (disch := first | omega | rfl) only [sA, Nat.reduceEqDiff, reduceCtorEq, if_true, if_false, ln24, t0, t8, decn hlt, Bool.false_eq_true]) | (refine EvC.condT ?_ ?_; simp (config := { maxSteps := 2000000 }) (disch := first | omega | rfl) only [sA, Nat.reduceEqDiff, if_true, if_false]; refine EvC_go ?_) | (refine EvC.condF ?_ ?_; simp (config := { maxSteps := 2000000 }) (disch := first | omega | rfl) only [sA, Nat.reduceEqDiff, if_true, if_false]; refine EvC_go ?_))
        rw [List.drop_of_length_le (by omega), totN] at htot
        exact ⟨_, _, rfl, (by first | (simp only [Tr.get_put, reduceCtorEq, if_false, t0]; rfl) | simp only [Tr.get_put, reduceCtorEq, if_false, t0]), (by first | (simp only [Tr.get_put, Nat.reduceEqDiff, if_false, t3]; rfl) | simp only [Tr.get_put, Nat.reduceEqDiff, if_false, t3]), (by first | (simp only [Tr.get_put, Nat.reduceEqDiff, if_false, t4]; rfl) | simp only [Tr.get_put, Nat.reduceEqDiff, if_false, t4]), by rw [← htot]; first | (simp only [Tr.get_put, Nat.reduceEqDiff, if_false, t7]; rfl) | simp only [Tr.get_put, Nat.reduceEqDiff, if_false, t7], gp', gq', hx'⟩
    · exact ⟨_, _, 0, cnt e 0, rfl, rfl, by omega, by have := cnt_cap e; omega, rfl, (by first | (simp only [Tr.get_put, reduceCtorEq, if_false, t0]; rfl) | simp only [Tr.get_put, reduceCtorEq, if_false, t0]), (by first | (simp only [Tr.get_put, Nat.reduceEqDiff, if_false, t3]; rfl) | simp only [Tr.get_put, Nat.reduceEqDiff, if_false, t3]), (by first | (simp only [Tr.get_put, Nat.reduceEqDiff, if_false, t4]; rfl) | simp only [Tr.get_put, Nat.reduceEqDiff, if_false, t4]), (by first | (simp only [Tr.get_put, Nat.reduceEqDiff, if_true, if_false]; rfl) | simp only [Tr.get_put, Nat.reduceEqDiff, if_true, if_false]), (by first | (simp only [sA, Nat.reduceEqDiff, if_true, if_false]; rfl) | simp only []), gp6, gq6, hx6⟩
  · rintro st ⟨tm, H', rfl, t0, t3, t4, t7, gp', gq', hx'⟩
    have q1 := row6 gp'
    by_cases hov : 4000 < totN l (cnt e 0)
    · have hd : decide ((totN l (cnt e 0) : Int) > 4000) = true := decide_eq_true (by omega)
      repeat' (first | refine EvC.seq ?_ | refine EvC.scope ?_ | refine EvC.block ?_ | (refine EvC.skip ?_) | (refine EvC.exit ?_) | (refine EvC.ret ?_; try simp only [thenC_ret, inBlock_ret]) | (refine EvC.reg ?_; simp (config := { maxSteps := 2000000 }) (disch := first | omega | rfl) only [sA, Nat.reduceEqDiff, Nat.reduceAdd, Value.cells, one, if_true, if_false, layC, bd26, st26, t4, t7, hd, gq']) | (refine EvC.condT ?_ ?_; simp (config := { maxSteps := 2000000 }) (disch := first | omega | rfl) only [sA, Nat.reduceEqDiff, if_true, if_false]; refine EvC_go ?_))
      have hlE : listE l e = 24 := by rw [listE, if_pos hE, if_pos hov]
      refine leave_cell_two rfl (by first | (simp only [sA, Nat.reduceEqDiff, if_false, t4]; rfl) | simp only []) (by first | (simp only [sA, Nat.reduceAdd, if_true, cutC, ld26]; rfl) | simp only []) (by first | (simp only [sA, Nat.reduceEqDiff, if_true, if_false]; rfl) | simp only []) ⟨zero6, by rw [hlE], ?_, hx'.pt (by omega) gq' _⟩
      rw [listT, hlE, if_neg (by omega)]; exact repF_zero
    · have hd : decide ((totN l (cnt e 0) : Int) > 4000) = false := decide_eq_false (by omega)
      repeat' (first | refine EvC.seq ?_ | refine EvC.scope ?_ | refine EvC.block ?_ | (refine EvC.skip ?_; try simp only [thenC_normal]) | (refine EvC.exit ?_) | (refine EvC.ret ?_; try simp only [thenC_ret, inBlock_ret]) | (refine EvC.reg ?_; simp (config := { maxSteps := 2000000 }) (disch := first | omega | rfl) only [sA, Nat.reduceEqDiff, reduceCtorEq, if_true, if_false, ld26, cl63, t0, t3, t4, t7, hd, q1]) | (refine EvC.condT ?_ ?_; simp (config := { maxSteps := 2000000 }) (disch := first | omega | rfl) only [sA, Nat.reduceEqDiff, if_true, if_false]; refine EvC_go ?_) | (refine EvC.condF ?_ ?_; simp (config := { maxSteps := 2000000 }) (disch := first | omega | rfl) only [sA, Nat.reduceEqDiff, if_true, if_false]; refine EvC_go ?_))
      have hff : ∀ t ∈ l, Fine t := fun t ht => (check_zero.1 (chkL_zero hcl t ht)).2
      refine (listed_ev (rl.mono hx' hw) (r0.mono hx' hw) hff (check_zero.1 hce).2 hx'.wf).mono ?_
      rintro v H8 ⟨co, rfl, ⟨ao, ko, rfl, hbe, hfo⟩, hx8⟩
      have gq8 := hx8.get hx'.wf gq'
      have hlE : listE l e = 0 := by rw [listE, if_pos hE, if_neg hov]
      have hltq := hx'.wf _ _ gq'
      repeat' (first | refine EvC.seq ?_ | refine EvC.scope ?_ | refine EvC.block ?_ | (refine EvC.skip ?_) | (refine EvC.exit ?_) | (refine EvC.ret ?_; try simp only [thenC_ret, inBlock_ret]) | (refine LX_go ?_; simp (config := { maxSteps := 2000000 }) (disch := first | omega | rfl) only [sA, Nat.reduceAdd, one, if_true, st26, gq8]))
      refine leave_cell_two rfl (by first | (simp only [sA, Nat.reduceEqDiff, if_false, t4]; rfl) | simp only []) (by first | (simp only [sA, Nat.reduceAdd, if_true, cutC, ld26]; rfl) | simp only []) (by first | (simp only [sA, Nat.reduceEqDiff, if_true, if_false]; rfl) | simp only []) ⟨_, by rw [hlE], ?_, (hx'.trans hx8).pt (by omega) gq8 _⟩
      rw [listT, if_pos hlE]
      refine ⟨ao, ko, rfl, hbe, (hfo.heap (fun n hn _ => ?_) hx8.wf).sub fun n hn => ⟨by have := hn.1; omega, hn.2⟩⟩
      have := hn.1
      rw [get_put, if_neg (by omega)]
end Go.Proofs.YtlllbkjiadcloaaDoor.hb
end

-- V9
section
/- Lists apart. -/
namespace Go.Hb
open Go Go.RowKit
section
variable {P : Program} {ok : Ok} {fn : Func} {tm : Tr Value} {H : Heap} {K : Value → Heap → Prop}
theorem leave_tc {a q : Tmp} {t : TypeId} {ad : Addr} {v u : Value} (h : fn.results.toList = [.tmp q, .cell a t]) (hu : tm.get q = some u) (hv : tm.get a = some (.pointer (some ad))) (hd : dLoad P t (.pointer (some ad)) H = some (.val v H))
    (hk : K (.tuple ⟨[u, v]⟩) H) : Ex.leave P ok fn K .ret ⟨tm, [], H⟩ := by
  refine EvV.now (v := .tuple ⟨[u, v]⟩) ?_ hk
  have hl : dload P t ad H = some v := by
    unfold dLoad at hd
    simp only at hd
    cases h1 : dload P t ad H with
    | none => rw [h1] at hd; simp at hd
    | some w => rw [h1] at hd; simp at hd; rw [hd]
  simp [dres, h, dresL, dres1, hv, hl, hu]
theorem leave_tct {a q p : Tmp} {t : TypeId} {ad : Addr} {v u y : Value} (h : fn.results.toList = [.tmp q, .cell a t, .tmp p]) (hu : tm.get q = some u) (hv : tm.get a = some (.pointer (some ad))) (hd : dLoad P t (.pointer (some ad)) H = some (.val v H)) (hy : tm.get p = some y)
    (hk : K (.tuple ⟨[u, v, y]⟩) H) : Ex.leave P ok fn K .ret ⟨tm, [], H⟩ := by
  refine EvV.now (v := .tuple ⟨[u, v, y]⟩) ?_ hk
  have hl : dload P t ad H = some v := by
    unfold dLoad at hd
    simp only at hd
    cases h1 : dload P t ad H with
    | none => rw [h1] at hd; simp at hd
    | some w => rw [h1] at hd; simp at hd; rw [hd]
  simp [dres, h, dresL, dres1, hv, hl, hu, hy]
end
end Go.Hb
namespace Go.Proofs.YtlllbkjiadcloaaDoor.hb
open Go Go.RowKit Go.Hb
variable {ok : Ok}
set_option maxRecDepth 10000
attribute [local irreducible] LX LG EL STG SOP SGO SGD SAL SRD SEF SEG SLK SCK ES
-- @veq
/-- a list's elements, and what stands at its end -/
def elL : Tm → List Tm
  | .mk k s _ _ _ [x, y] => if k = 5 ∧ s = dot then x :: elL y else []
  | _ => []
def elR : Tm → Tm
  | .mk k s u b v [x, y] => if k = 5 ∧ s = dot then elR y else .mk k s u b v [x, y]
  | t => t
def isCons (t : Tm) : Prop := t.kind = 5 ∧ t.name = dot ∧ t.args.length = 2
theorem el_cons {t : Tm} (h : isCons t) : ∃ x y, t.args = [x, y] ∧ elL t = x :: elL y ∧ elR t = elR y := by
  obtain ⟨k, s, u, b, v, l⟩ := t
  obtain ⟨h1, h2, h3⟩ := h
  simp only [Tm.kind, Tm.name, Tm.args] at h1 h2 h3
  match l, h3 with
  | [x, y], _ => exact ⟨x, y, rfl, by rw [elL, if_pos ⟨h1, h2⟩], by rw [elR, if_pos ⟨h1, h2⟩]⟩
theorem el_none {t : Tm} (h : ¬ isCons t) : elL t = [] ∧ elR t = t := by
  obtain ⟨k, s, u, b, v, l⟩ := t
  simp only [isCons, Tm.kind, Tm.name, Tm.args] at h
  match l with
  | [] => exact ⟨rfl, rfl⟩
  | [_] => exact ⟨rfl, rfl⟩
  | _ :: _ :: _ :: _ => exact ⟨rfl, rfl⟩
  | [x, y] =>
    have hn : ¬ (k = 5 ∧ s = dot) := fun q => h ⟨q.1, q.2, rfl⟩
    exact ⟨by rw [elL, if_neg hn], by rw [elR, if_neg hn]⟩
theorem elL_few : ∀ (m : Nat) (t : Tm), SizeOf.sizeOf t < m → (elL t).length ≤ SizeOf.sizeOf t
  | 0, _, h => by omega
  | m + 1, t, h => by
    by_cases hc : isCons t
    · obtain ⟨x, y, he, h1, h2⟩ := el_cons hc
      rw [h1, List.length_cons]
      have hy : SizeOf.sizeOf y < SizeOf.sizeOf t := mem_args_size (by rw [he]; simp)
      have := elL_few m y (by omega)
      omega
    · rw [(el_none hc).1]; exact Nat.zero_le _
theorem dot_eq {s : ByteArray} (h : s = dot) : (s.data.toList == (⟨#[46]⟩ : ByteArray).data.toList) = true := by rw [h]; exact beq_self_eq_true _
theorem dot_ne {s : ByteArray} (h : s ≠ dot) : (s.data.toList == (⟨#[46]⟩ : ByteArray).data.toList) = false := by
  rw [beq_eq_false_iff_ne]
  intro q
  exact h (toList_inj (by rw [toList_data, toList_data]; exact q))
/-- all nodes -/
def nd : Tm → Nat
  | .mk _ _ _ _ _ l => 1 + ndL l
where ndL : List Tm → Nat
  | [] => 0
  | t :: l => nd t + ndL l
theorem nd_args (t : Tm) : nd t = 1 + nd.ndL t.args := by obtain ⟨k, s, u, b, v, l⟩ := t; rw [nd]; rfl
theorem cntL_mono : ∀ (l : List Tm), (∀ t ∈ l, ∀ n, n ≤ cnt t n) → ∀ n, n ≤ cntL l n
  | [], _, n => by rw [cntL]; exact Nat.le_refl _
  | t :: l, h, n => by
    rw [cntL]
    split
    · exact Nat.le_refl _
    · exact Nat.le_trans (h t (by simp) n) (cntL_mono l (fun u hu => h u (List.mem_cons_of_mem _ hu)) _)
theorem cnt_mono : ∀ (m : Nat) (t : Tm), SizeOf.sizeOf t < m → ∀ n, n + 1 ≤ cnt t n
  | 0, _, h, _ => by omega
  | m + 1, t, h, n => by
    rw [cnt_args]
    exact cntL_mono _ (fun u hu k => by have := cnt_mono m u (by have := mem_args_size hu; omega) k; omega) _
theorem cntL_nd : ∀ (l : List Tm), (∀ t ∈ l, ∀ n, cnt t n ≤ 4000 → cnt t n = n + nd t) → ∀ n, cntL l n ≤ 4000 → cntL l n = n + nd.ndL l
  | [], _, n, _ => by rw [cntL, nd.ndL]; rfl
  | t :: l, h, n, hn => by
    rw [cntL] at hn ⊢
    split at hn
    · omega
    · rename_i h4
      rw [if_neg h4]
      have hm : cnt t n ≤ cntL l (cnt t n) := cntL_mono l (fun u _ k => by have := cnt_mono _ u (Nat.lt_succ_self _) k; omega) _
      rw [cntL_nd l (fun u hu => h u (List.mem_cons_of_mem _ hu)) _ hn, h t (by simp) n (by omega), nd.ndL]
      omega
theorem cnt_nd : ∀ (m : Nat) (t : Tm), SizeOf.sizeOf t < m → ∀ n, cnt t n ≤ 4000 → cnt t n = n + nd t
  | 0, _, h, _, _ => by omega
  | m + 1, t, h, n, hn => by
    rw [cnt_args] at hn ⊢
    rw [cntL_nd _ (fun u hu k => cnt_nd m u (by have := mem_args_size hu; omega) k) _ hn, nd_args]; omega
theorem elL_nd : ∀ (m : Nat) (t : Tm), SizeOf.sizeOf t < m → (elL t).length ≤ nd t
  | 0, _, h => by omega
  | m + 1, t, h => by
    by_cases hc : isCons t
    · obtain ⟨x, y, he, h1, h2⟩ := el_cons hc
      have hy : SizeOf.sizeOf y < SizeOf.sizeOf t := mem_args_size (by rw [he]; simp)
      have := elL_nd m y (by omega)
      rw [h1, List.length_cons, nd_args, he, nd.ndL, nd.ndL, nd.ndL]; omega
    · rw [(el_none hc).1]; exact Nat.zero_le _
theorem elL_few4 {t : Tm} (h : checkS t = 0) : (elL t).length ≤ 4000 := by
  have h1 := (check_zero.1 h).1
  have h2 := cnt_nd _ t (Nat.lt_succ_self _) 0 h1
  have h3 := elL_nd _ t (Nat.lt_succ_self _)
  omega

theorem six_inj {t u : Tm} {a a' : Option Addr} {c c' : Nat} (h : six t a c = six u a' c') : t.kind = u.kind ∧ t.name = u.name ∧ t.num = u.num ∧ t.bits = u.bits ∧ t.var = u.var ∧ a = a' ∧ c = c' := by
  simp only [six, List.cons.injEq, Value.int.injEq, Value.string.injEq, Value.slice.injEq, true_and, and_true] at h
  exact ⟨h.1, h.2.1, h.2.2.1, h.2.2.2.1, h.2.2.2.2.1, h.2.2.2.2.2.1, h.2.2.2.2.2.2.2⟩

-- term.Elements
set_option maxHeartbeats 8000000 in
theorem elements_ev {t : Tm} {cs : List Value} {H : Heap} (r : RepT H t cs) (hw : H.wf) :
    EvF Tryd.prog okT 24 [.agg ⟨cs⟩] H fun v H' => HX H H' ∧ ∃ m a c out, v = .tuple #[.slice a (if checkS t = 0 then elL t else []).length c, .agg ⟨out⟩, .int .i64 (checkS t)] ∧
      FL H' 26 (Rg H.next m) (if checkS t = 0 then elL t else []) a c ∧ RepF H' 26 (Rg m H'.next) (if checkS t = 0 then elR t else zeroT) out ∧ H.next ≤ m ∧ m ≤ H'.next := by
  have r0 := r
  obtain ⟨ae, ce, cellse, rfl, -⟩ := r.six
  have ean : apOk Tryd.prog 24 26 6 := ap24
  refine EvF.enter rfl Tryd.func24 (by decide) rfl ?_
  (repeat refine EvC.seq ?_); refine EvC.reg ?_; simp (config := { maxSteps := 2000000 }) (disch := first | omega | rfl) only [sA, initTm, dBox, dAlloc, Value.cells, one, if_true, zr26]
  obtain ⟨H2, e2, hx2, gp, gq, hn2, hw2⟩ := new2 hw (.row (six t ae ce) 26) (.row zero6 26)
  simp only [e2]
  clear e2
  have q1 := row6 gp
  repeat' (first | refine EvC.seq ?_ | refine EvC.scope ?_ | refine EvC.block ?_ | (refine EvC.skip ?_) | (refine EvC.exit ?_) | (refine EvC.ret ?_; try simp only [thenC_ret, inBlock_ret]) | (refine EvC.reg ?_; simp (config := { maxSteps := 2000000 }) (disch := first | omega | rfl) only [sA, Nat.reduceEqDiff, reduceCtorEq, if_true, if_false, ld26, cl15, q1]))
  refine (check_tells t _ _ (r0.mono hx2 hw) hw2).mono ?_
  rintro v H3 ⟨rfl, hx3⟩
  have gp3 := hx3.get hw2 gp
  have gq3 := hx3.get hw2 gq
  have hx23 := hx2.trans hx3
  have n3 := hx3.next
  by_cases h0 : checkS t = 0
  rotate_left
  · repeat' (first | refine EvC.seq ?_ | refine EvC.scope ?_ | refine EvC.block ?_ | (refine EvC.skip ?_) | (refine EvC.exit ?_) | (refine EvC.ret ?_; try simp only [thenC_ret, inBlock_ret]) | (refine EvC.reg ?_; simp (config := { maxSteps := 2000000 }) (disch := first | omega | rfl) only [sA, Nat.reduceEqDiff, Nat.reduceAdd, Value.cells, one, reduceCtorEq, if_true, if_false, layC, bd26, st26, ine_t h0, gq3]) | (refine EvC.condT ?_ ?_; simp (config := { maxSteps := 2000000 }) (disch := first | omega | rfl) only [sA, Nat.reduceEqDiff, reduceCtorEq, if_true, if_false]; refine EvC_go ?_))
    refine leave_tct rfl (by first | (simp only [sA, Nat.reduceEqDiff, reduceCtorEq, if_true, if_false]; rfl) | simp only []) (by first | (simp only [sA, Nat.reduceEqDiff, reduceCtorEq, if_true, if_false]; rfl) | simp only []) (by first | (simp only [sA, Nat.reduceAdd, if_true, cutC, ld26]; rfl) | simp only []) (by first | (simp only [sA, Nat.reduceEqDiff, reduceCtorEq, if_true, if_false]; rfl) | simp only []) ⟨hx23.pt (by omega) gq3 _, H.next, none, 0, zero6, ?_, ?_, ?_, Nat.le_refl _, ?_⟩
    · rw [if_neg h0]; rfl
    · rw [if_neg h0]; exact .nil _
    · rw [if_neg h0]; exact repF_zero
    · rw [next_put]; omega
  repeat' (first | refine EvC.seq ?_ | refine EvC.scope ?_ | refine EvC.block ?_ | (refine EvC.skip ?_; try simp only [thenC_normal]) | (refine EvC.exit ?_) | (refine EvC.ret ?_; try simp only [thenC_ret, inBlock_ret]) | (refine EvC.reg ?_; simp (config := { maxSteps := 2000000 }) (disch := first | omega | rfl) only [sA, Nat.reduceEqDiff, reduceCtorEq, if_true, if_false, ine_f h0]) | (refine EvC.condT ?_ ?_; simp (config := { maxSteps := 2000000 }) (disch := first | omega | rfl) only [sA, Nat.reduceEqDiff, reduceCtorEq, if_true, if_false]; refine EvC_go ?_) | (refine EvC.condF ?_ ?_; simp (config := { maxSteps := 2000000 }) (disch := first | omega | rfl) only [sA, Nat.reduceEqDiff, reduceCtorEq, if_true, if_false]; refine EvC_go ?_))
  rw [if_pos h0, if_pos h0]
  have hfew := elL_few4 h0
  have hfine := (check_zero.1 h0).2
  refine EvC.loop (fun k st => ∃ tm G cur pre ac cc ao co, st = ⟨tm, [], G⟩ ∧ k = SizeOf.sizeOf cur ∧ tm.get 1 = some (.pointer (some ⟨H.next, 0, none⟩)) ∧ tm.get 3 = some (.pointer (some ⟨H.next + 1, 0, none⟩)) ∧ tm.get 6 = some (.slice ao pre.length co) ∧
    G.get H.next = some (.row (six cur ac cc) 26) ∧ G.get (H.next + 1) = some (.row zero6 26) ∧ RepT H cur (six cur ac cc) ∧ Fine cur ∧ pre ++ elL cur = elL t ∧ elR cur = elR t ∧
    FL G 26 (fun n => H.next + 2 ≤ n ∧ n < G.next) pre ao co ∧ HX H G) ?_ (SizeOf.sizeOf t) _ ?_
  · rintro k st ⟨tm, G, cur, pre, ac, cc, ao, co, rfl, rfl, t1, t3, t6, gpG, gqG, rc, fc, hpre, hend, hfl, hxG⟩
    have q1 := row6 gpG
    have hltq := hxG.wf _ _ gqG
    obtain ⟨bb, hbb⟩ : ∃ b : Bool, (b = true ↔ isCons cur) := ⟨@decide (isCons cur) (Classical.propDecidable _), @decide_eq_true_iff _ (Classical.propDecidable _)⟩
    (repeat refine EvC.seq ?_)
    refine EvC.join (fun st => ∃ tm', st = ⟨tm', [], G⟩ ∧ tm'.get 1 = some (.pointer (some ⟨H.next, 0, none⟩)) ∧ tm'.get 3 = some (.pointer (some ⟨H.next + 1, 0, none⟩)) ∧ tm'.get 6 = some (.slice ao pre.length co) ∧ tm'.get 26 = some (.bool bb)) ?_ ?_
    · by_cases k5 : cur.kind = 5
      rotate_left
      · have hb : bb = false := by cases bb; rfl; exact absurd (hbb.1 rfl).1 k5
        repeat' (first | refine EvC.seq ?_ | refine EvC.scope ?_ | refine EvC.block ?_ | (refine EvC.skip ?_) | (refine EvC.exit ?_) | (refine EvC.ret ?_; try simp only [thenC_ret, inBlock_ret]) | (refine EvC.reg ?_; simp (config := { maxSteps := 2000000 }) (disch := first | omega | rfl) only [sA, Nat.reduceEqDiff, if_true, if_false, fa26_0, ld3, t1, q1, ieq_f k5, Bool.false_eq_true]))
        exact ⟨_, rfl, (by first | (simp only [Tr.get_put, Nat.reduceEqDiff, if_false, t1]; rfl) | simp only [Tr.get_put, Nat.reduceEqDiff, if_false, t1]), (by first | (simp only [Tr.get_put, Nat.reduceEqDiff, if_false, t3]; rfl) | simp only [Tr.get_put, Nat.reduceEqDiff, if_false, t3]), (by first | (simp only [Tr.get_put, Nat.reduceEqDiff, if_false, t6]; rfl) | simp only [Tr.get_put, Nat.reduceEqDiff, if_false, t6]), by rw [hb]; first | (simp only [Tr.get_put, Nat.reduceEqDiff, if_true, if_false]; rfl) | simp only [Tr.get_put, Nat.reduceEqDiff, if_true, if_false]⟩
      by_cases kn : cur.name = dot
      rotate_left
      · have hb : bb = false := by cases bb; rfl; exact absurd (hbb.1 rfl).2.1 kn
        repeat' (first | refine EvC.seq ?_ | refine EvC.scope ?_ | refine EvC.block ?_ | (refine EvC.skip ?_) | (refine EvC.exit ?_) | (refine EvC.ret ?_; try simp only [thenC_ret, inBlock_ret]) | (refine EvC.reg ?_; simp (config := { maxSteps := 2000000 }) (disch := first | omega | rfl) only [sA, Nat.reduceEqDiff, if_true, if_false, fa26_0, ld3, fa26_1, ld9, t1, q1, ieq_t k5, bEqS_data, dot_ne kn, Bool.false_eq_true]))
        exact ⟨_, rfl, (by first | (simp only [Tr.get_put, Nat.reduceEqDiff, if_false, t1]; rfl) | simp only [Tr.get_put, Nat.reduceEqDiff, if_false, t1]), (by first | (simp only [Tr.get_put, Nat.reduceEqDiff, if_false, t3]; rfl) | simp only [Tr.get_put, Nat.reduceEqDiff, if_false, t3]), (by first | (simp only [Tr.get_put, Nat.reduceEqDiff, if_false, t6]; rfl) | simp only [Tr.get_put, Nat.reduceEqDiff, if_false, t6]), by rw [hb]; first | (simp only [Tr.get_put, Nat.reduceEqDiff, if_true, if_false]; rfl) | simp only [Tr.get_put, Nat.reduceEqDiff, if_true, if_false]⟩
      by_cases k2 : cur.args.length = 2
      · have hb : bb = true := hbb.2 ⟨k5, kn, k2⟩
        have k2' : (cur.args.length : Int) = 2 := by omega
        repeat' (first | refine EvC.seq ?_ | refine EvC.scope ?_ | refine EvC.block ?_ | (refine EvC.skip ?_) | (refine EvC.exit ?_) | (refine EvC.ret ?_; try simp only [thenC_ret, inBlock_ret]) | (refine EvC.reg ?_; simp (config := { maxSteps := 2000000 }) (disch := first | omega | rfl) only [sA, Nat.reduceEqDiff, if_true, if_false, fa26_0, ld3, fa26_1, ld9, fa26_5, ld24, ln24, t1, q1, ieq_t k5, bEqS_data, dot_eq kn, ieq_t k2']))
        exact ⟨_, rfl, (by first | (simp only [Tr.get_put, Nat.reduceEqDiff, if_false, t1]; rfl) | simp only [Tr.get_put, Nat.reduceEqDiff, if_false, t1]), (by first | (simp only [Tr.get_put, Nat.reduceEqDiff, if_false, t3]; rfl) | simp only [Tr.get_put, Nat.reduceEqDiff, if_false, t3]), (by first | (simp only [Tr.get_put, Nat.reduceEqDiff, if_false, t6]; rfl) | simp only [Tr.get_put, Nat.reduceEqDiff, if_false, t6]), by rw [hb]; first | (simp only [Tr.get_put, Nat.reduceEqDiff, if_true, if_false]; rfl) | simp only [Tr.get_put, Nat.reduceEqDiff, if_true, if_false]⟩
      · have hb : bb = false := by cases bb; rfl; exact absurd (hbb.1 rfl).2.2 k2
        have k2' : (cur.args.length : Int) ≠ 2 := by omega
        repeat' (first | refine EvC.seq ?_ | refine EvC.scope ?_ | refine EvC.block ?_ | (refine EvC.skip ?_) | (refine EvC.exit ?_) | (refine EvC.ret ?_; try simp only [thenC_ret, inBlock_ret]) | (refine EvC.reg ?_; simp (config := { maxSteps := 2000000 }) (disch := first | omega | rfl) only [sA, Nat.reduceEqDiff, if_true, if_false, fa26_0, ld3, fa26_1, ld9, fa26_5, ld24, ln24, t1, q1, ieq_t k5, bEqS_data, dot_eq kn, ieq_f k2']))
        exact ⟨_, rfl, (by first | (simp only [Tr.get_put, Nat.reduceEqDiff, if_false, t1]; rfl) | simp only [Tr.get_put, Nat.reduceEqDiff, if_false, t1]), (by first | (simp only [Tr.get_put, Nat.reduceEqDiff, if_false, t3]; rfl) | simp only [Tr.get_put, Nat.reduceEqDiff, if_false, t3]), (by first | (simp only [Tr.get_put, Nat.reduceEqDiff, if_false, t6]; rfl) | simp only [Tr.get_put, Nat.reduceEqDiff, if_false, t6]), by rw [hb]; first | (simp only [Tr.get_put, Nat.reduceEqDiff, if_true, if_false]; rfl) | simp only [Tr.get_put, Nat.reduceEqDiff, if_true, if_false]⟩
    rintro st ⟨tm, rfl, t1, t3, t6, t26⟩
    simp only [thenC_normal]
    cases bb with
    | true =>
      have hc := hbb.1 rfl
      obtain ⟨x, y, hxy, hl1, hl2⟩ := el_cons hc
      have rcl := rc
      obtain ⟨a0, c0, cells0, h6, -, -, -, -, -, rl⟩ := rc.six
      obtain ⟨-, -, -, -, -, rfl, rfl⟩ := six_inj h6
      have hlen2 : cur.args.length = 2 := hc.2.2
      have g0 : cur.args[0]'(by omega) = x := by simp [hxy]
      have g1 : cur.args[1]'(by omega) = y := by simp [hxy]
      obtain ⟨b, o, a1, c1, rfl, hld0, hr0⟩ := rl.el (i := 0) (by omega)
      obtain ⟨b', o', a2, c2, e2, hld1, hr1⟩ := rl.el (i := 1) (by omega)
      cases e2
      rw [g0] at hld0 hr0
      rw [g1] at hld1 hr1
      simp only [Nat.zero_mul, Nat.add_zero, Nat.one_mul] at hld0 hld1
      have l0 := hxG.load hw hld0
      have l1 := hxG.load hw hld1
      repeat' (first | refine EvC.seq ?_ | refine EvC.scope ?_ | refine EvC.block ?_ | (refine EvC.skip ?_; try simp only [thenC_normal]) | (refine EvC.exit ?_) | (refine EvC.ret ?_; try simp only [thenC_ret, inBlock_ret]) | (refine EvC.reg ?_; simp (config := { maxSteps := 2000000 }) (disch := first | omega | rfl) only [sA, Nat.reduceEqDiff, Nat.reduceAdd, Value.cells, if_true, if_false, layC, Int.reduceToNat, ld26, fa26_5, ld24, cl61, bs24_1, t1, t6, q1, l0, iz24, Nat.zero_mul]) | (refine EvC.condT ?_ ?_; simp (config := { maxSteps := 2000000 }) (disch := first | omega | rfl) only [sA, t26]; refine EvC_go ?_))
      have hfx : Fine x := fc.args x (by rw [hxy]; simp)
      have hfy : Fine y := fc.args y (by rw [hxy]; simp)
      refine (ownT_ev (Nat.lt_succ_self _) (hr0.mono hxG hw) hfx hxG.wf).mono ?_
      rintro v H5 ⟨co5, rfl, ⟨ao5, ko5, rfl, hb5, hf5⟩, hx5⟩
      have n5 := hx5.next
      repeat' (first | refine EvC.seq ?_ | refine EvC.scope ?_ | refine EvC.block ?_ | (refine EvC.skip ?_) | (refine EvC.exit ?_) | (refine EvC.ret ?_; try simp only [thenC_ret, inBlock_ret]) | (refine LX_go ?_; simp (config := { maxSteps := 2000000 }) (disch := first | omega | rfl) only [sA, Nat.reduceEqDiff, Nat.reduceAdd, one, if_true, if_false]))
      obtain ⟨H6, e6, hx6, g6, hn6, hw6⟩ := new1 hx5.wf (.row (six x ao5 ko5) 26)
      simp only [e6]
      have hx56 := hx5.trans hx6
      have hplen : pre.length + 1 ≤ 4000 := by
        have := congrArg List.length hpre
        rw [List.length_append, hl1, List.length_cons] at this
        omega
      obtain ⟨H7, e7, hf7, hk7, hn7⟩ := FL.push (S := fun n => H.next + 2 ≤ n ∧ n < G.next) (N := Rg G.next H5.next) (S2 := fun n => H.next + 2 ≤ n ∧ n < H6.next + 1) (c1 := 1) ean (hfl.keep hx56 hxG.wf) hw6 (row6 g6).2.2.2.2.2.2 (hf5.keep hx6 hx5.wf) hb5
        (fun n hn hs => by have := hn.1; omega) (fun n hn => by omega) (fun n hn => by have := hn.2; omega) (by unfold most; omega) (fun n hn => by
          rcases hn with hn | hn | hn
          · exact ⟨hn.1, by omega⟩
          · exact ⟨by have := hn.1; omega, by have := hn.2; omega⟩
          · exact ⟨by omega, by omega⟩)
      have hx7 : HX H H7 := (hxG.trans hx56).then hk7 fun n hn hs => by have := hs.1; omega
      have gp7 := hk7.get hw6 (hx56.get hxG.wf gpG) (fun hs => by have := hs.1; omega)
      have gq7 := hk7.get hw6 (hx56.get hxG.wf gqG) (fun hs => by have := hs.1; omega)
      have l1' := hx7.load hw hld1
      have q7 := row6 gp7
      repeat' (first | refine EvC.seq ?_ | refine EvC.scope ?_ | refine EvC.block ?_ | (refine EvC.skip ?_) | (refine EvC.exit ?_) | (refine EvC.ret ?_; try simp only [thenC_ret, inBlock_ret]) | (refine EvC.reg ?_; simp (config := { maxSteps := 2000000 }) (disch := first | omega | rfl) only [sA, Nat.reduceEqDiff, Nat.reduceAdd, one, if_true, if_false, Int.reduceToNat, ld26, st26, fa26_5, ld24, t1, q7, l1', gp7, iz24, Nat.one_mul]) | (refine LX_go ?_; simp (config := { maxSteps := 2000000 }) (disch := first | omega | rfl) only [sA, Nat.reduceEqDiff, if_true, if_false, e7]))
      refine ⟨SizeOf.sizeOf y, mem_args_size (by rw [hxy]; simp), _, _, y, pre ++ [x], a2, c2, some ⟨H6.next, 0, none⟩, pre.length + 1, rfl, rfl, (by first | (simp only [Tr.get_put, Nat.reduceEqDiff, if_false, t1]; rfl) | simp only [Tr.get_put, Nat.reduceEqDiff, if_false, t1]), (by first | (simp only [Tr.get_put, Nat.reduceEqDiff, if_false, t3]; rfl) | simp only [Tr.get_put, Nat.reduceEqDiff, if_false, t3]), by rw [List.length_append]; first | (simp only [sA, Nat.reduceEqDiff, if_true, if_false]; rfl) | simp only [sA, Nat.reduceEqDiff, if_true, if_false], by rw [get_put, if_pos rfl], by rw [get_put, if_neg (by omega)]; exact gq7, hr1, hfy, by rw [← hpre, hl1]; simp, by rw [← hend, hl2],
        (hf7.heap (fun n hn _ => ?_) hx7.wf).sub fun n hn => ⟨hn.1, by rw [next_put, hn7]; exact hn.2⟩, hx7.pt (Nat.le_refl _) gp7 _⟩
      have := hn.1
      rw [get_put, if_neg (by omega)]
    | false =>
      have hc : ¬ isCons cur := fun h => by have := hbb.2 h; cases this
      obtain ⟨hl1, hl2⟩ := el_none hc
      rw [hl1, List.append_nil] at hpre
      repeat' (first | refine EvC.seq ?_ | refine EvC.scope ?_ | refine EvC.block ?_ | (refine EvC.skip ?_) | (refine EvC.exit ?_; try simp only [sA, if_true]) | (refine EvC.ret ?_; try simp only [thenC_ret, inBlock_ret]) | (refine EvC.reg ?_; simp (config := { maxSteps := 2000000 }) (disch := first | omega | rfl) only [sA, Nat.reduceEqDiff, if_true, if_false, ld26, cl61, t1, t6, q1]) | (refine EvC.condT ?_ ?_; simp (config := { maxSteps := 2000000 }) (disch := first | omega | rfl) only [sA, t26]; refine EvC_go ?_) | (refine EvC.condF ?_ ?_; simp (config := { maxSteps := 2000000 }) (disch := first | omega | rfl) only [sA, t26]; refine EvC_go ?_))
      refine (ownT_ev (Nat.lt_succ_self _) (rc.mono hxG hw) fc hxG.wf).mono ?_
      rintro v H8 ⟨co8, rfl, ⟨ao2, ko, rfl, hbe, hfo⟩, hx8⟩
      have gq8 := hx8.get hxG.wf gqG
      have n8 := hx8.next
      repeat' (first | refine EvC.seq ?_ | refine EvC.scope ?_ | refine EvC.block ?_ | (refine EvC.skip ?_) | (refine EvC.exit ?_) | (refine EvC.ret ?_; try simp only [thenC_ret, inBlock_ret]) | (refine LX_go ?_; simp (config := { maxSteps := 2000000 }) (disch := first | omega | rfl) only [sA, Nat.reduceAdd, one, if_true, st26, t3, gq8]))
      have hcur : cur = elR t := by rw [← hend, hl2]
      rw [← hpre, ← hcur]
      refine leave_tct rfl (by first | (simp only [sA, Nat.reduceEqDiff, if_true, if_false]; rfl) | simp only []) (by first | (simp only [sA, Nat.reduceEqDiff, if_false, t3]; rfl) | simp only []) (by first | (simp only [sA, Nat.reduceAdd, if_true, cutC, ld26]; rfl) | simp only []) (by first | (simp only [sA, Nat.reduceEqDiff, if_true, if_false]; rfl) | simp only []) ⟨(hxG.trans hx8).pt (by omega) gq8 _, G.next, ao, co, six cur ao2 ko, ?_, ?_, ⟨ao2, ko, rfl, hbe, ?_⟩, hxG.next, ?_⟩
      · rw [h0]
      · refine (hfl.heap (fun n hn hl => ?_) hxG.wf).sub fun n hn => ⟨by omega, hn.2⟩
        rw [get_put, if_neg (by omega)]; exact hx8.keep n hl
      · refine hfo.heap (fun n hn hl => ?_) hx8.wf
        have := hn.1
        rw [get_put, if_neg (by omega)]
      · rw [next_put]; exact n8
  · exact ⟨_, _, t, [], ae, ce, none, 0, rfl, rfl, (by first | (simp only [Tr.get_put, Nat.reduceEqDiff, reduceCtorEq, if_true, if_false]; rfl) | simp only [Tr.get_put, Nat.reduceEqDiff, reduceCtorEq, if_true, if_false]), (by first | (simp only [Tr.get_put, Nat.reduceEqDiff, reduceCtorEq, if_true, if_false]; rfl) | simp only [Tr.get_put, Nat.reduceEqDiff, reduceCtorEq, if_true, if_false]), (by first | (simp only [sA, Nat.reduceEqDiff, reduceCtorEq, if_true, if_false]; rfl) | simp only [sA, Nat.reduceEqDiff, reduceCtorEq, if_true, if_false]), gp3, gq3, r0, hfine, rfl, rfl, .nil _, hx23⟩
end Go.Proofs.YtlllbkjiadcloaaDoor.hb
end

-- V10
section
/- Lists apart: the reference's. -/
namespace Go.Proofs.YtlllbkjiadcloaaDoor.hb
open Go Go.RowKit Go.Hb
variable {ok : Ok}
set_option maxRecDepth 10000
attribute [local irreducible] LX LG EL STG SOP SGO SGD SAL SRD SEF SEG SLK SCK ES
-- @veq
-- hornbeamref02.Elements
set_option maxHeartbeats 8000000 in
theorem elementsR_ev {t : Tm} {cs : List Value} {H : Heap} (r : RepT H t cs) (h0 : checkS t = 0) (hw : H.wf) :
    EvF Tryd.prog okT 25 [.agg ⟨cs⟩] H fun v H' => HX H H' ∧ ∃ m a c out, v = .tuple #[.slice a (elL t).length c, .agg ⟨out⟩] ∧
      FL H' 26 (Rg H.next m) (elL t) a c ∧ RepF H' 26 (Rg m H'.next) (elR t) out ∧ H.next ≤ m ∧ m ≤ H'.next := by
  have r0 := r
  have few : ∀ {t : Tm}, Fine t → Few 1000000 t := fun {t} h => (Fine.few _ (Nat.lt_succ_self _) h).up (by omega)
  obtain ⟨ae, ce, cellse, rfl, -⟩ := r.six
  have ean : apOk Tryd.prog 24 26 6 := ap24
  have hfew := elL_few4 h0
  have hfine := (check_zero.1 h0).2
  refine EvF.enter rfl Tryd.func25 (by decide) rfl ?_
  (repeat refine EvC.seq ?_); refine EvC.reg ?_; simp (config := { maxSteps := 2000000 }) (disch := first | omega | rfl) only [sA, initTm, dBox, dAlloc, Value.cells, one, if_true, zr26]
  obtain ⟨H2, e2, hx2, gp, gq, hn2, hw2⟩ := new2 hw (.row (six t ae ce) 26) (.row zero6 26)
  simp only [e2]
  clear e2
  repeat' (first | refine EvC.seq ?_ | refine EvC.scope ?_ | refine EvC.block ?_ | (refine EvC.skip ?_) | (refine EvC.exit ?_) | (refine EvC.ret ?_; try simp only [thenC_ret, inBlock_ret]) | (refine EvC.reg ?_; simp (config := { maxSteps := 2000000 }) (disch := first | omega | rfl) only [sA]))
  refine EvC.loop (fun k st => ∃ tm G cur pre ac cc ao co, st = ⟨tm, [], G⟩ ∧ k = SizeOf.sizeOf cur ∧ tm.get 1 = some (.pointer (some ⟨H.next, 0, none⟩)) ∧ tm.get 3 = some (.pointer (some ⟨H.next + 1, 0, none⟩)) ∧ tm.get 4 = some (.slice ao pre.length co) ∧
    G.get H.next = some (.row (six cur ac cc) 26) ∧ G.get (H.next + 1) = some (.row zero6 26) ∧ RepT H cur (six cur ac cc) ∧ Fine cur ∧ pre ++ elL cur = elL t ∧ elR cur = elR t ∧
    FL G 26 (fun n => H.next + 2 ≤ n ∧ n < G.next) pre ao co ∧ HX H G) ?_ (SizeOf.sizeOf t) _ ?_
  · rintro k st ⟨tm, G, cur, pre, ac, cc, ao, co, rfl, rfl, t1, t3, t6, gpG, gqG, rc, fc, hpre, hend, hfl, hxG⟩
    have q1 := row6 gpG
    have hltq := hxG.wf _ _ gqG
    obtain ⟨bb, hbb⟩ : ∃ b : Bool, (b = true ↔ isCons cur) := ⟨@decide (isCons cur) (Classical.propDecidable _), @decide_eq_true_iff _ (Classical.propDecidable _)⟩
    (repeat refine EvC.seq ?_)
    refine EvC.join (fun st => ∃ tm', st = ⟨tm', [], G⟩ ∧ tm'.get 1 = some (.pointer (some ⟨H.next, 0, none⟩)) ∧ tm'.get 3 = some (.pointer (some ⟨H.next + 1, 0, none⟩)) ∧ tm'.get 4 = some (.slice ao pre.length co) ∧ tm'.get 18 = some (.bool bb)) ?_ ?_
    · by_cases k5 : cur.kind = 5
      rotate_left
      · have hb : bb = false := by cases bb; rfl; exact absurd (hbb.1 rfl).1 k5
        repeat' (first | refine EvC.seq ?_ | refine EvC.scope ?_ | refine EvC.block ?_ | (refine EvC.skip ?_) | (refine EvC.exit ?_) | (refine EvC.ret ?_; try simp only [thenC_ret, inBlock_ret]) | (refine EvC.reg ?_; simp (config := { maxSteps := 2000000 }) (disch := first | omega | rfl) only [sA, Nat.reduceEqDiff, if_true, if_false, fa26_0, ld3, t1, q1, ieq_f k5, Bool.false_eq_true]))
        exact ⟨_, rfl, (by first | (simp only [Tr.get_put, Nat.reduceEqDiff, if_false, t1]; rfl) | simp only [Tr.get_put, Nat.reduceEqDiff, if_false, t1]), (by first | (simp only [Tr.get_put, Nat.reduceEqDiff, if_false, t3]; rfl) | simp only [Tr.get_put, Nat.reduceEqDiff, if_false, t3]), (by first | (simp only [Tr.get_put, Nat.reduceEqDiff, if_false, t6]; rfl) | simp only [Tr.get_put, Nat.reduceEqDiff, if_false, t6]), by rw [hb]; first | (simp only [Tr.get_put, Nat.reduceEqDiff, if_true, if_false]; rfl) | simp only [Tr.get_put, Nat.reduceEqDiff, if_true, if_false]⟩
      by_cases kn : cur.name = dot
      rotate_left
      · have hb : bb = false := by cases bb; rfl; exact absurd (hbb.1 rfl).2.1 kn
        repeat' (first | refine EvC.seq ?_ | refine EvC.scope ?_ | refine EvC.block ?_ | (refine EvC.skip ?_) | (refine EvC.exit ?_) | (refine EvC.ret ?_; try simp only [thenC_ret, inBlock_ret]) | (refine EvC.reg ?_; simp (config := { maxSteps := 2000000 }) (disch := first | omega | rfl) only [sA, Nat.reduceEqDiff, if_true, if_false, fa26_0, ld3, fa26_1, ld9, t1, q1, ieq_t k5, bEqS_data, dot_ne kn, Bool.false_eq_true]))
        exact ⟨_, rfl, (by first | (simp only [Tr.get_put, Nat.reduceEqDiff, if_false, t1]; rfl) | simp only [Tr.get_put, Nat.reduceEqDiff, if_false, t1]), (by first | (simp only [Tr.get_put, Nat.reduceEqDiff, if_false, t3]; rfl) | simp only [Tr.get_put, Nat.reduceEqDiff, if_false, t3]), (by first | (simp only [Tr.get_put, Nat.reduceEqDiff, if_false, t6]; rfl) | simp only [Tr.get_put, Nat.reduceEqDiff, if_false, t6]), by rw [hb]; first | (simp only [Tr.get_put, Nat.reduceEqDiff, if_true, if_false]; rfl) | simp only [Tr.get_put, Nat.reduceEqDiff, if_true, if_false]⟩
      by_cases k2 : cur.args.length = 2
      · have hb : bb = true := hbb.2 ⟨k5, kn, k2⟩
        have k2' : (cur.args.length : Int) = 2 := by omega
        repeat' (first | refine EvC.seq ?_ | refine EvC.scope ?_ | refine EvC.block ?_ | (refine EvC.skip ?_) | (refine EvC.exit ?_) | (refine EvC.ret ?_; try simp only [thenC_ret, inBlock_ret]) | (refine EvC.reg ?_; simp (config := { maxSteps := 2000000 }) (disch := first | omega | rfl) only [sA, Nat.reduceEqDiff, if_true, if_false, fa26_0, ld3, fa26_1, ld9, fa26_5, ld24, ln24, t1, q1, ieq_t k5, bEqS_data, dot_eq kn, ieq_t k2']))
        exact ⟨_, rfl, (by first | (simp only [Tr.get_put, Nat.reduceEqDiff, if_false, t1]; rfl) | simp only [Tr.get_put, Nat.reduceEqDiff, if_false, t1]), (by first | (simp only [Tr.get_put, Nat.reduceEqDiff, if_false, t3]; rfl) | simp only [Tr.get_put, Nat.reduceEqDiff, if_false, t3]), (by first | (simp only [Tr.get_put, Nat.reduceEqDiff, if_false, t6]; rfl) | simp only [Tr.get_put, Nat.reduceEqDiff, if_false, t6]), by rw [hb]; first | (simp only [Tr.get_put, Nat.reduceEqDiff, if_true, if_false]; rfl) | simp only [Tr.get_put, Nat.reduceEqDiff, if_true, if_false]⟩
      · have hb : bb = false := by cases bb; rfl; exact absurd (hbb.1 rfl).2.2 k2
        have k2' : (cur.args.length : Int) ≠ 2 := by omega
        repeat' (first | refine EvC.seq ?_ | refine EvC.scope ?_ | refine EvC.block ?_ | (refine EvC.skip ?_) | (refine EvC.exit ?_) | (refine EvC.ret ?_; try simp only [thenC_ret, inBlock_ret]) | (refine EvC.reg ?_; simp (config := { maxSteps := 2000000 }) (disch := first | omega | rfl) only [sA, Nat.reduceEqDiff, if_true, if_false, fa26_0, ld3, fa26_1, ld9, fa26_5, ld24, ln24, t1, q1, ieq_t k5, bEqS_data, dot_eq kn, ieq_f k2']))
        exact ⟨_, rfl, (by first | (simp only [Tr.get_put, Nat.reduceEqDiff, if_false, t1]; rfl) | simp only [Tr.get_put, Nat.reduceEqDiff, if_false, t1]), (by first | (simp only [Tr.get_put, Nat.reduceEqDiff, if_false, t3]; rfl) | simp only [Tr.get_put, Nat.reduceEqDiff, if_false, t3]), (by first | (simp only [Tr.get_put, Nat.reduceEqDiff, if_false, t6]; rfl) | simp only [Tr.get_put, Nat.reduceEqDiff, if_false, t6]), by rw [hb]; first | (simp only [Tr.get_put, Nat.reduceEqDiff, if_true, if_false]; rfl) | simp only [Tr.get_put, Nat.reduceEqDiff, if_true, if_false]⟩
    rintro st ⟨tm, rfl, t1, t3, t6, t26⟩
    simp only [thenC_normal]
    cases bb with
    | true =>
      have hc := hbb.1 rfl
      obtain ⟨x, y, hxy, hl1, hl2⟩ := el_cons hc
      have rcl := rc
      obtain ⟨a0, c0, cells0, h6, -, -, -, -, -, rl⟩ := rc.six
      obtain ⟨-, -, -, -, -, rfl, rfl⟩ := six_inj h6
      have hlen2 : cur.args.length = 2 := hc.2.2
      have g0 : cur.args[0]'(by omega) = x := by simp [hxy]
      have g1 : cur.args[1]'(by omega) = y := by simp [hxy]
      obtain ⟨b, o, a1, c1, rfl, hld0, hr0⟩ := rl.el (i := 0) (by omega)
      obtain ⟨b', o', a2, c2, e2, hld1, hr1⟩ := rl.el (i := 1) (by omega)
      cases e2
      rw [g0] at hld0 hr0
      rw [g1] at hld1 hr1
      simp only [Nat.zero_mul, Nat.add_zero, Nat.one_mul] at hld0 hld1
      have l0 := hxG.load hw hld0
      have l1 := hxG.load hw hld1
      repeat' (first | refine EvC.seq ?_ | refine EvC.scope ?_ | refine EvC.block ?_ | (refine EvC.skip ?_; try simp only [thenC_normal]) | (refine EvC.exit ?_) | (refine EvC.ret ?_; try simp only [thenC_ret, inBlock_ret]) | (refine EvC.reg ?_; simp (config := { maxSteps := 2000000 }) (disch := first | omega | rfl) only [sA, Nat.reduceEqDiff, Nat.reduceAdd, Value.cells, if_true, if_false, layC, Int.reduceToNat, fa26_5, ld24, ld26, cl34, bs24_1, t1, t6, q1, l0, iz24, Nat.zero_mul]) | (refine EvC.condT ?_ ?_; simp (config := { maxSteps := 2000000 }) (disch := first | omega | rfl) only [sA, t26]; refine EvC_go ?_))
      have hfx : Fine x := fc.args x (by rw [hxy]; simp)
      have hfy : Fine y := fc.args y (by rw [hxy]; simp)
      refine (ownR_ev (Nat.lt_succ_self _) (hr0.mono hxG hw) (few hfx) hxG.wf).mono ?_
      rintro v H5 ⟨co5, rfl, ⟨ao5, ko5, rfl, hb5, hf5⟩, hx5⟩
      have n5 := hx5.next
      repeat' (first | refine EvC.seq ?_ | refine EvC.scope ?_ | refine EvC.block ?_ | (refine EvC.skip ?_) | (refine EvC.exit ?_) | (refine EvC.ret ?_; try simp only [thenC_ret, inBlock_ret]) | (refine LX_go ?_; simp (config := { maxSteps := 2000000 }) (disch := first | omega | rfl) only [sA, Nat.reduceEqDiff, Nat.reduceAdd, one, if_true, if_false]))
      obtain ⟨H6, e6, hx6, g6, hn6, hw6⟩ := new1 hx5.wf (.row (six x ao5 ko5) 26)
      simp only [e6]
      have hx56 := hx5.trans hx6
      have hplen : pre.length + 1 ≤ 4000 := by
        have := congrArg List.length hpre
        rw [List.length_append, hl1, List.length_cons] at this
        omega
      obtain ⟨H7, e7, hf7, hk7, hn7⟩ := FL.push (S := fun n => H.next + 2 ≤ n ∧ n < G.next) (N := Rg G.next H5.next) (S2 := fun n => H.next + 2 ≤ n ∧ n < H6.next + 1) (c1 := 1) ean (hfl.keep hx56 hxG.wf) hw6 (row6 g6).2.2.2.2.2.2 (hf5.keep hx6 hx5.wf) hb5
        (fun n hn hs => by have := hn.1; omega) (fun n hn => by omega) (fun n hn => by have := hn.2; omega) (by unfold most; omega) (fun n hn => by
          rcases hn with hn | hn | hn
          · exact ⟨hn.1, by omega⟩
          · exact ⟨by have := hn.1; omega, by have := hn.2; omega⟩
          · exact ⟨by omega, by omega⟩)
      have hx7 : HX H H7 := (hxG.trans hx56).then hk7 fun n hn hs => by have := hs.1; omega
      have gp7 := hk7.get hw6 (hx56.get hxG.wf gpG) (fun hs => by have := hs.1; omega)
      have gq7 := hk7.get hw6 (hx56.get hxG.wf gqG) (fun hs => by have := hs.1; omega)
      have l1' := hx7.load hw hld1
      have q7 := row6 gp7
      repeat' (first | refine EvC.seq ?_ | refine EvC.scope ?_ | refine EvC.block ?_ | (refine EvC.skip ?_) | (refine EvC.exit ?_) | (refine EvC.ret ?_; try simp only [thenC_ret, inBlock_ret]) | (refine EvC.reg ?_; simp (config := { maxSteps := 2000000 }) (disch := first | omega | rfl) only [sA, Nat.reduceEqDiff, Nat.reduceAdd, one, if_true, if_false, Int.reduceToNat, fa26_5, ld24, ld26, st26, t1, q7, l1', gp7, iz24, Nat.one_mul]) | (refine LX_go ?_; simp (config := { maxSteps := 2000000 }) (disch := first | omega | rfl) only [sA, Nat.reduceEqDiff, if_true, if_false, e7]))
      refine ⟨SizeOf.sizeOf y, mem_args_size (by rw [hxy]; simp), _, _, y, pre ++ [x], a2, c2, some ⟨H6.next, 0, none⟩, pre.length + 1, rfl, rfl, (by first | (simp only [Tr.get_put, Nat.reduceEqDiff, if_false, t1]; rfl) | simp only [Tr.get_put, Nat.reduceEqDiff, if_false, t1]), (by first | (simp only [Tr.get_put, Nat.reduceEqDiff, if_false, t3]; rfl) | simp only [Tr.get_put, Nat.reduceEqDiff, if_false, t3]), by rw [List.length_append]; first | (simp only [sA, Nat.reduceEqDiff, if_true, if_false]; rfl) | simp only [sA, Nat.reduceEqDiff, if_true, if_false], by rw [get_put, if_pos rfl], by rw [get_put, if_neg (by omega)]; exact gq7, hr1, hfy, by rw [← hpre, hl1]; simp, by rw [← hend, hl2],
        (hf7.heap (fun n hn _ => ?_) hx7.wf).sub fun n hn => ⟨hn.1, by rw [next_put, hn7]; exact hn.2⟩, hx7.pt (Nat.le_refl _) gp7 _⟩
      have := hn.1
      rw [get_put, if_neg (by omega)]
    | false =>
      have hc : ¬ isCons cur := fun h => by have := hbb.2 h; cases this
      obtain ⟨hl1, hl2⟩ := el_none hc
      rw [hl1, List.append_nil] at hpre
      repeat' (first | refine EvC.seq ?_ | refine EvC.scope ?_ | refine EvC.block ?_ | (refine EvC.skip ?_) | (refine EvC.exit ?_; try simp only [sA, if_true]) | (refine EvC.ret ?_; try simp only [thenC_ret, inBlock_ret]) | (refine EvC.reg ?_; simp (config := { maxSteps := 2000000 }) (disch := first | omega | rfl) only [sA, Nat.reduceEqDiff, if_true, if_false, ld26, cl34, t1, t6, q1]) | (refine EvC.condT ?_ ?_; simp (config := { maxSteps := 2000000 }) (disch := first | omega | rfl) only [sA, t26]; refine EvC_go ?_) | (refine EvC.condF ?_ ?_; simp (config := { maxSteps := 2000000 }) (disch := first | omega | rfl) only [sA, t26]; refine EvC_go ?_))
      refine (ownR_ev (Nat.lt_succ_self _) (rc.mono hxG hw) (few fc) hxG.wf).mono ?_
      rintro v H8 ⟨co8, rfl, ⟨ao2, ko, rfl, hbe, hfo⟩, hx8⟩
      have gq8 := hx8.get hxG.wf gqG
      have n8 := hx8.next
      repeat' (first | refine EvC.seq ?_ | refine EvC.scope ?_ | refine EvC.block ?_ | (refine EvC.skip ?_) | (refine EvC.exit ?_) | (refine EvC.ret ?_; try simp only [thenC_ret, inBlock_ret]) | (refine LX_go ?_; simp (config := { maxSteps := 2000000 }) (disch := first | omega | rfl) only [sA, Nat.reduceAdd, one, if_true, st26, t3, gq8]))
      have hcur : cur = elR t := by rw [← hend, hl2]
      rw [← hpre, ← hcur]
      refine leave_tc rfl (by first | (simp only [sA, Nat.reduceEqDiff, if_true, if_false]; rfl) | simp only []) (by first | (simp only [sA, Nat.reduceEqDiff, if_false, t3]; rfl) | simp only []) (by first | (simp only [sA, Nat.reduceAdd, if_true, cutC, ld26]; rfl) | simp only []) ⟨(hxG.trans hx8).pt (by omega) gq8 _, G.next, ao, co, six cur ao2 ko, ?_, ?_, ⟨ao2, ko, rfl, hbe, ?_⟩, hxG.next, ?_⟩
      · rfl
      · refine (hfl.heap (fun n hn hl => ?_) hxG.wf).sub fun n hn => ⟨by omega, hn.2⟩
        rw [get_put, if_neg (by omega)]; exact hx8.keep n hl
      · refine hfo.heap (fun n hn hl => ?_) hx8.wf
        have := hn.1
        rw [get_put, if_neg (by omega)]
      · rw [next_put]; exact n8
  · exact ⟨_, _, t, [], ae, ce, none, 0, rfl, rfl, (by first | (simp only [Tr.get_put, Nat.reduceEqDiff, reduceCtorEq, if_true, if_false]; rfl) | simp only [Tr.get_put, Nat.reduceEqDiff, reduceCtorEq, if_true, if_false]), (by first | (simp only [Tr.get_put, Nat.reduceEqDiff, reduceCtorEq, if_true, if_false]; rfl) | simp only [Tr.get_put, Nat.reduceEqDiff, reduceCtorEq, if_true, if_false]), (by first | (simp only [sA, Nat.reduceEqDiff, reduceCtorEq, if_true, if_false]; rfl) | simp only [sA, Nat.reduceEqDiff, reduceCtorEq, if_true, if_false]), gp, gq, r0, hfine, rfl, rfl, .nil _, hx2⟩
end Go.Proofs.YtlllbkjiadcloaaDoor.hb
end

-- Y11
section
/- The law of checks. -/
namespace Go.Proofs.YtlllbkjiadcloaaDoor.hb
open Go Go.RowKit Go.Hb
variable {ok : Ok}
set_option maxRecDepth 10000
attribute [local irreducible] LX LG EL STG SOP SGO SGD SAL SRD SEF SEG SLK SCK ES
theorem veq_term {k b v : Int} {s u : ByteArray} {a : Option Addr} {n c : Nat} : veq (.agg ⟨[.int .i64 k, .string s, .string u, .int .u64 b, .int .i64 v, .slice a n c]⟩) (.agg ⟨[.int .i64 k, .string s, .string u, .int .u64 b, .int .i64 v, .slice a n c]⟩) = true := by
  simp [veq, veqL]
theorem awake_tells {H : Heap} (hw : H.wf) : EvF Tryd.prog okT 12 [] H fun v H' => v = .bool true ∧ HX H H' := awake_ev hw

-- hornbeamlaw02.TermChecks
set_option maxHeartbeats 2000000 in
theorem termChecks_ev {t : Tm} {cs : List Value} {H : Heap} (r : RepT H t cs) (hw : H.wf) : EvF Tryd.prog okT 4 [.agg ⟨cs⟩] H fun v _ => v = .bool true := by
  have r0 := r
  obtain ⟨a, c, cells, rfl, b1, b2, b3, b4, b5, rl⟩ := r.inv
  have hx0 := (HX.refl hw).new (some (Blk.row [Value.int IntKind.i64 t.kind, Value.string t.name, Value.string t.num, Value.int IntKind.u64 t.bits, Value.int IntKind.i64 t.var, Value.slice a t.args.length c] 26))
  refine EvF.enter rfl Tryd.func4 (by decide) rfl ?_
  repeat' (first | refine EvC.seq ?_ | refine EvC.scope ?_ | refine EvC.block ?_ | (refine EvC.skip ?_) | (refine EvC.exit ?_) | (refine EvC.ret ?_; try simp only [thenC_ret, inBlock_ret]) | (refine EvC.reg ?_; simp (config := { maxSteps := 2000000 }) (disch := first | omega | rfl) only [sA, initTm, dBox, Nat.reduceEqDiff, Value.cells, one, reduceCtorEq, if_true, if_false, cl12]))
  have hl0 : (H.new (some (Blk.row [Value.int IntKind.i64 t.kind, Value.string t.name, Value.string t.num, Value.int IntKind.u64 t.bits, Value.int IntKind.i64 t.var, Value.slice a t.args.length c] 26))).load ⟨H.next, 0, none⟩ 6 = some [Value.int IntKind.i64 t.kind, Value.string t.name, Value.string t.num, Value.int IntKind.u64 t.bits, Value.int IntKind.i64 t.var, Value.slice a t.args.length c] := ld_new_eq
  refine (awake_tells hx0.wf).mono ?_
  rintro v H1 ⟨rfl, hx1⟩
  have hl1 := hx1.load hx0.wf hl0
  repeat' (first | refine EvC.seq ?_ | refine EvC.scope ?_ | refine EvC.block ?_ | (refine EvC.skip ?_) | (refine EvC.exit ?_) | (refine EvC.ret ?_; try simp only [thenC_ret, inBlock_ret]) | (refine EvC.drw [([(0, 0), (1, 0), (2, 0)], some 3), ([(4, 0)], some 5), ([(6, 2), (7, 2), (8, 2), (9, 2)], some 10), ([(11, 2)], some 12), ([(13, 4), (14, 4), (15, 4)], none)] ?_ ?_; kernel_rfl; simp (config := { maxSteps := 2000000 }) (disch := first | omega | rfl) only [sD, sA, Nat.reduceEqDiff, Nat.reduceAdd, reduceCtorEq, if_true, if_false, ld26, cl13, hl1, isAlloc, isRead, reduceCtorEq]))
  have hw1 := hx1.wf
  have hb1 := (HX.refl hw1).bump 16
  have r1 := (r0.mono hx0 hw).mono hx1 hx0.wf
  have r1b := r1.mono hb1 hw1
  refine (nodes_tells t _ _ r1b hb1.wf).mono ?_
  rintro v H2 ⟨rfl, hx2⟩
  have hl2 := hx2.load hb1.wf (show (⟨H1.next + 16, H1.t⟩ : Heap).load _ _ = _ from hl1)
  repeat' (first | refine EvC.seq ?_ | refine EvC.scope ?_ | refine EvC.block ?_ | (refine EvC.skip ?_) | (refine EvC.exit ?_) | (refine EvC.ret ?_; try simp only [thenC_ret, inBlock_ret]) | (refine SCK_go ?_; simp (config := { maxSteps := 2000000 }) (disch := first | omega | rfl) only [sD, sA, Nat.reduceEqDiff, reduceCtorEq, if_true, if_false, ld26, cl14, hl1, hl2, veq_term, isAlloc, isRead, reduceCtorEq]))
  refine (nodesR_tells t _ _ (r1b.mono hx2 hb1.wf) hx2.wf).mono ?_
  rintro v H3 ⟨rfl, hx3⟩
  have hl3 := hx3.load hx2.wf hl2
  repeat' (first | refine EvC.seq ?_ | refine EvC.scope ?_ | refine EvC.block ?_ | (refine EvC.skip ?_) | (refine EvC.exit ?_) | (refine EvC.ret ?_; try simp only [thenC_ret, inBlock_ret]) | (refine SCK_go ?_; simp (config := { maxSteps := 2000000 }) (disch := first | omega | rfl) only [sD, sA, Nat.reduceEqDiff, Nat.reduceAdd, reduceCtorEq, if_true, if_false, ld26, cl15, hl3, ieq_t, isAlloc, isRead, reduceCtorEq]))
  refine (check_tells t _ _ ((r1b.mono hx2 hb1.wf).mono hx3 hx2.wf) hx3.wf).mono ?_
  rintro v H4 ⟨rfl, hx4⟩
  have hl4 := hx4.load hx3.wf hl3
  repeat' (first | refine EvC.seq ?_ | refine EvC.scope ?_ | refine EvC.block ?_ | (refine EvC.skip ?_) | (refine EvC.exit ?_) | (refine EvC.ret ?_; try simp only [thenC_ret, inBlock_ret]) | (refine SCK_go ?_; simp (config := { maxSteps := 2000000 }) (disch := first | omega | rfl) only [sD, sA, Nat.reduceEqDiff, Nat.reduceAdd, reduceCtorEq, if_true, if_false, ld26, cl16, hl3, hl4, veq_term, isAlloc, isRead, reduceCtorEq]))
  refine (checkR_tells t _ _ (((r1b.mono hx2 hb1.wf).mono hx3 hx2.wf).mono hx4 hx3.wf) hx4.wf).mono ?_
  rintro v H5 ⟨rfl, hx5⟩
  repeat' (first | refine EvC.seq ?_ | refine EvC.scope ?_ | refine EvC.block ?_ | (refine EvC.skip ?_) | (refine EvC.exit ?_) | (refine EvC.ret ?_; try simp only [thenC_ret, inBlock_ret]) | (refine SCK_go ?_; simp (config := { maxSteps := 2000000 }) (disch := first | omega | rfl) only [sD, sA, Nat.reduceEqDiff, Nat.reduceAdd, reduceCtorEq, if_true, if_false, ieq_t, isAlloc, isRead, reduceCtorEq]))
  exact leave_one rfl (by first | (simp only [Tr.get_put, Nat.reduceEqDiff, reduceCtorEq, if_true, if_false]; rfl) | simp only [Tr.get_put, Nat.reduceEqDiff, reduceCtorEq, if_true, if_false]) rfl
end Go.Proofs.YtlllbkjiadcloaaDoor.hb
end

-- V11
section
/- The law of lists. -/
namespace Go.Hb
open Go Go.RowKit
theorem FL.repA {H : Heap} {T : TypeId} {S : Nat → Prop} {l : List Tm} {a : Option Addr} {c : Nat} (h : FL H T S l a c) (hw : H.wf) : ∃ cells, ∀ G : Heap, (∀ n, S n → n < H.next → G.get n = H.get n) → RepL G l a c cells := by
  cases h with
  | nil => exact ⟨fun _ => [], fun G _ => ⟨Nat.le_refl _, Nat.zero_le _, fun _ => ⟨rfl, rfl⟩, fun i ad hi => by simp at hi, fun i t h => by simp at h⟩⟩
  | row _ _ b c cells Si ai ci h1 h2 h3 h4 h5 h6 h7 h8 h9 h10 h11 =>
    refine ⟨fun i => (cells.drop (i * 6)).take 6, fun G hk => RepL.of_row (by rw [hk b h7 (hw b _ h3)]; exact h3) (fun i hi => rfl) (fun i t ht => ?_) h1 h2⟩
    show RepT G t ((cells.drop (i * 6)).take 6)
    rw [h5 i t ht]
    exact RepF.rep (T := T) (S := Si i) ⟨ai i, ci i, rfl, h6 i t ht, (h11 i t ht).heap (fun n hn hl => hk n (h9 i n (List.getElem?_eq_some_iff.1 ht).1 hn) hl) hw⟩
end Go.Hb
namespace Go.Proofs.YtlllbkjiadcloaaDoor.hb
open Go Go.RowKit Go.Hb
variable {ok : Ok}
set_option maxRecDepth 10000
attribute [local irreducible] LX LG EL STG SOP SGO SGD SAL SRD SEF SEG SLK SCK ES
-- @veq
theorem few_fine {t : Tm} (h : Fine t) : Few 1000000 t := (Fine.few _ (Nat.lt_succ_self _) h).up (by omega)
theorem few_zero : Few 1000000 zeroT := .mk (by simp [zeroT, Tm.args]) fun u hu => by simp [zeroT, Tm.args] at hu
theorem few_listed : ∀ {l : List Tm} {e : Tm}, (∀ t ∈ l, Fine t) → Fine e → Few 1000000 (listed l e)
  | [], e, _, h => few_fine h
  | t :: l, e, hl, h => by
    refine .mk (by simp [listed, Tm.args]) fun u hu => ?_
    simp only [listed, List.foldr_cons, Tm.args, List.mem_cons, List.not_mem_nil, or_false] at hu
    rcases hu with rfl | rfl
    · exact few_fine (hl _ (by simp))
    · exact few_listed (fun t ht => hl t (List.mem_cons_of_mem _ ht)) h
theorem few_listT {l : List Tm} {e : Tm} : Few 1000000 (listT l e) := by
  unfold listT
  split
  · rename_i h
    unfold listE at h
    split at h
    · rename_i h1
      exact few_listed (fun t ht => (check_zero.1 (chkL_zero (orZ_zero.1 h1).1 t ht)).2) (check_zero.1 (orZ_zero.1 h1).2).2
    · rename_i h1; exact absurd h h1
  · exact few_zero
theorem elL_fine : ∀ (m : Nat) {t : Tm}, SizeOf.sizeOf t < m → Fine t → (∀ u ∈ elL t, Fine u) ∧ Fine (elR t)
  | 0, _, h, _ => by omega
  | m + 1, t, h, f => by
    by_cases hc : isCons t
    · obtain ⟨x, y, he, h1, h2⟩ := el_cons hc
      have hy : SizeOf.sizeOf y < SizeOf.sizeOf t := mem_args_size (by rw [he]; simp)
      have ih := elL_fine m (t := y) (by omega) (f.args y (by rw [he]; simp))
      rw [h1, h2]
      refine ⟨fun u hu => ?_, ih.2⟩
      rcases List.mem_cons.1 hu with rfl | hu
      · exact f.args _ (by rw [he]; simp)
      · exact ih.1 u hu
    · rw [(el_none hc).1, (el_none hc).2]; exact ⟨fun u hu => by simp at hu, f⟩
theorem eqT_self (t : Tm) : eqT t t = true := eqT_t rfl
theorem eqL_self (l : List Tm) : eqL l l = true := eqL_t rfl

-- hornbeamlaw02.TermLists
set_option maxHeartbeats 16000000 in
theorem termLists_ev {l : List Tm} {e : Tm} {a : Option Addr} {c : Nat} {cells : Nat → List Value} {cs : List Value} {H : Heap} (rl : RepL H l a c cells) (r : RepT H e cs) (hw : H.wf) :
    EvF Tryd.prog okT 7 [.slice a l.length c, .agg ⟨cs⟩] H fun v _ => v = .bool true := by
  have r0 := r
  obtain ⟨ae, ce, cellse, rfl, -⟩ := r.six
  refine EvF.enter rfl Tryd.func7 (by decide) rfl ?_
  (repeat refine EvC.seq ?_); refine EvC.reg ?_; simp (config := { maxSteps := 2000000 }) (disch := first | omega | rfl) only [sA, initTm, dBox, Value.cells, one, reduceCtorEq, if_true, if_false]
  obtain ⟨A0, e0, hx, gp, hn0, w0⟩ := new1 hw (.row (six e ae ce) 26)
  simp only [e0]
  clear e0
  repeat' (first | refine EvC.seq ?_ | refine EvC.scope ?_ | refine EvC.block ?_ | (refine EvC.skip ?_) | (refine EvC.exit ?_) | (refine EvC.ret ?_; try simp only [thenC_ret, inBlock_ret]) | (refine EvC.reg ?_; simp (config := { maxSteps := 2000000 }) (disch := first | omega | rfl) only [sA, Nat.reduceEqDiff, reduceCtorEq, if_true, if_false, cl12]))
  refine (awake_tells w0).mono ?_
  rintro v A1 ⟨rfl, k1⟩
  have gp := k1.get w0 gp
  have hx := hx.trans k1
  have q1 := row6 gp
  repeat' (first | refine EvC.seq ?_ | refine EvC.scope ?_ | refine EvC.block ?_ | (refine EvC.skip ?_) | (refine EvC.exit ?_) | (refine EvC.ret ?_; try simp only [thenC_ret, inBlock_ret]) | (refine EvC.reg ?_; simp (config := { maxSteps := 2000000 }) (disch := first | omega | rfl) only [sA, Nat.reduceEqDiff, reduceCtorEq, if_true, if_false, ld26, cl21, q1]))
  -- the program's, once
  refine (list_ev (rl.mono hx hw) (r0.mono hx hw) hx.wf).mono ?_
  rintro v A2 ⟨oa, rfl, ⟨aa, ca, rfl, bX, fa⟩, k2⟩
  have gp := k2.get hx.wf gp
  have n12 := k2.next
  have hx := hx.trans k2
  have lt0 := hx.wf _ _ gp
  have ne1 : (H.next = A2.next) = False := by simp; omega
  have q1 := row6 gp
  repeat' (first | refine EvC.seq ?_ | refine EvC.scope ?_ | refine EvC.block ?_ | (refine EvC.skip ?_) | (refine EvC.exit ?_) | (refine EvC.ret ?_; try simp only [thenC_ret, inBlock_ret]) | (refine EvC.reg ?_; simp (config := { maxSteps := 2000000 }) (disch := first | omega | rfl) only [sA, Nat.reduceEqDiff, Nat.reduceAdd, reduceCtorEq, if_true, if_false, cutC, ld26, cl21, q1, ne1]) | (refine LX_go ?_; simp (config := { maxSteps := 2000000 }) (disch := first | omega | rfl) only [sA, dAlloc, Nat.reduceEqDiff, Nat.reduceAdd, one, reduceCtorEq, if_true, if_false, zr26, st26]))
  obtain ⟨A3, e3, k3, ga, n3, w3⟩ := newput hx.wf (.row zero6 26) (.row (six (listT l e) aa ca) 26)
  simp only [e3]
  clear e3
  have fa := fa.keep k3 hx.wf
  have gp := k3.get hx.wf gp
  have hx := hx.trans k3
  -- again
  refine (list_ev (rl.mono hx hw) (r0.mono hx hw) hx.wf).mono ?_
  rintro v A4 ⟨ob, rfl, ⟨ab, cb, rfl, -, fb⟩, k4⟩
  have n34 := k4.next
  have fa := fa.keep k4 hx.wf
  have gp := k4.get hx.wf gp
  have ga := k4.get hx.wf ga
  have hx := hx.trans k4
  have ne2 : (H.next = A4.next) = False := by simp; omega
  have q1 := row6 gp
  repeat' (first | refine EvC.seq ?_ | refine EvC.scope ?_ | refine EvC.block ?_ | (refine EvC.skip ?_) | (refine EvC.exit ?_) | (refine EvC.ret ?_; try simp only [thenC_ret, inBlock_ret]) | (refine EvC.reg ?_; simp (config := { maxSteps := 2000000 }) (disch := first | omega | rfl) only [sA, Nat.reduceEqDiff, Nat.reduceAdd, reduceCtorEq, if_true, if_false, cutC, ld26, cl22, q1, ne2]) | (refine LX_go ?_; simp (config := { maxSteps := 2000000 }) (disch := first | omega | rfl) only [sA, dAlloc, Nat.reduceEqDiff, Nat.reduceAdd, one, reduceCtorEq, if_true, if_false, zr26, st26]))
  obtain ⟨A5, e5, k5, gb, n5, w5⟩ := newput hx.wf (.row zero6 26) (.row (six (listT l e) ab cb) 26)
  simp only [e5]
  clear e5
  have fa := fa.keep k5 hx.wf
  have fb := fb.keep k5 hx.wf
  have gp := k5.get hx.wf gp
  have ga := k5.get hx.wf ga
  have hx := hx.trans k5
  -- the reference's
  refine (listR_ev (rl.mono hx hw) (r0.mono hx hw) hx.wf).mono ?_
  rintro v A6 ⟨ow, rfl, ⟨aw, cw, rfl, -, fw⟩, k6⟩
  have n56 := k6.next
  have fa := fa.keep k6 hx.wf
  have fb := fb.keep k6 hx.wf
  have ga := k6.get hx.wf ga
  have gb := k6.get hx.wf gb
  have hx := hx.trans k6
  have ne3 : (A2.next = A6.next) = False := by simp; omega
  have qa := row6 ga
  repeat' (first | refine EvC.seq ?_ | refine EvC.scope ?_ | refine EvC.block ?_ | (refine EvC.skip ?_) | (refine EvC.exit ?_) | (refine EvC.ret ?_; try simp only [thenC_ret, inBlock_ret]) | (refine EvC.reg ?_; simp (config := { maxSteps := 2000000 }) (disch := first | omega | rfl) only [sA, Nat.reduceEqDiff, Nat.reduceAdd, reduceCtorEq, if_true, if_false, cutC, ld26, cl20, qa, ne3]) | (refine LX_go ?_; simp (config := { maxSteps := 2000000 }) (disch := first | omega | rfl) only [sA, dAlloc, Nat.reduceEqDiff, Nat.reduceAdd, one, reduceCtorEq, if_true, if_false, zr26, st26]))
  obtain ⟨A7, e7, k7, gw, n7, w7⟩ := newput hx.wf (.row zero6 26) (.row (six (listT l e) aw cw) 26)
  simp only [e7]
  clear e7
  have fa := fa.keep k7 hx.wf
  have fb := fb.keep k7 hx.wf
  have fw := fw.keep k7 hx.wf
  have ga := k7.get hx.wf ga
  have gb := k7.get hx.wf gb
  have hx := hx.trans k7
  refine (same_tells (RepF.rep ⟨aa, ca, rfl, bX, fa⟩) (RepF.rep ⟨aw, cw, rfl, bX, fw⟩) hx.wf).mono ?_
  rintro v A8 ⟨rfl, k8⟩
  have n78 := k8.next
  have fa := fa.keep k8 hx.wf
  have fb := fb.keep k8 hx.wf
  have fw := fw.keep k8 hx.wf
  have ga := k8.get hx.wf ga
  have gb := k8.get hx.wf gb
  have gw := k8.get hx.wf gw
  have hx := hx.trans k8
  have qa := row6 ga
  have hX : Few 1000000 (listT l e) := few_listT
  generalize listT l e = X at *
  repeat' (first | refine EvC.seq ?_ | refine EvC.scope ?_ | refine EvC.block ?_ | (refine EvC.skip ?_) | (refine EvC.exit ?_) | (refine EvC.ret ?_; try simp only [thenC_ret, inBlock_ret]) | (refine EvC.reg ?_; simp (config := { maxSteps := 2000000 }) (disch := first | omega | rfl) only [sA, Nat.reduceEqDiff, reduceCtorEq, if_true, if_false, ld26, cl23, qa]))
  refine (marked_ev (Nat.lt_succ_self _) ⟨aa, ca, rfl, bX, fa⟩ hX (fun n hn => by have := hn.2; omega) hx.wf).mono ?_
  rintro v A9 k9
  have fb := fb.beside k9 hx.wf (fun n hn hs => by have := hn.1; have := hs.2; omega)
  have fw := fw.beside k9 hx.wf (fun n hn hs => by have := hn.1; have := hs.2; omega)
  have gb := k9.get hx.wf gb (fun hs => by have := hs.2; omega)
  have gw := k9.get hx.wf gw (fun hs => by have := hs.2; omega)
  have n89 := k9.next
  have w9 := k9.wf
  have qb := row6 gb
  have qw := row6 gw
  clear fa ga qa q1 gp
  repeat' (first | refine EvC.seq ?_ | refine EvC.scope ?_ | refine EvC.block ?_ | (refine EvC.skip ?_) | (refine EvC.exit ?_) | (refine EvC.ret ?_; try simp only [thenC_ret, inBlock_ret]) | (refine EvC.reg ?_; simp (config := { maxSteps := 2000000 }) (disch := first | omega | rfl) only [sA, Nat.reduceEqDiff, reduceCtorEq, if_true, if_false, ld26, cl20, qb, qw]))
  refine (same_tells (RepF.rep ⟨ab, cb, rfl, bX, fb⟩) (RepF.rep ⟨aw, cw, rfl, bX, fw⟩) w9).mono ?_
  rintro v B0 ⟨rfl, k10⟩
  have fb := fb.keep k10 w9
  have gb := k10.get w9 gb
  have hw0 := k10.wf
  rw [eqT_self]
  have qb := row6 gb
  clear fw gw qw
  repeat' (first | refine EvC.seq ?_ | refine EvC.scope ?_ | refine EvC.block ?_ | (refine EvC.skip ?_; try simp only [thenC_normal]) | (refine EvC.exit ?_) | (refine EvC.ret ?_; try simp only [thenC_ret, inBlock_ret]) | (refine EvC.reg ?_; simp (config := { maxSteps := 2000000 }) (disch := first | omega | rfl) only [sA, Nat.reduceEqDiff, reduceCtorEq, if_true, if_false, ld26, cl24, Bool.not_true, Bool.false_eq_true, ine_f, qb]) | (refine EvC.condT ?_ ?_; simp (config := { maxSteps := 2000000 }) (disch := first | omega | rfl) only [sA, Nat.reduceEqDiff, reduceCtorEq, if_true, if_false]; refine EvC_go ?_) | (refine EvC.condF ?_ ?_; simp (config := { maxSteps := 2000000 }) (disch := first | omega | rfl) only [sA, Nat.reduceEqDiff, reduceCtorEq, if_true, if_false]; refine EvC_go ?_))
  -- apart, once
  refine (elements_ev (RepF.rep ⟨ab, cb, rfl, bX, fb⟩) hw0).mono ?_
  rintro v B1 ⟨j1, m1, ax, cx, oy, rfl, fx, ⟨ay, cy, rfl, bY, fy⟩, l1, l1'⟩
  have hLR : (∀ u ∈ (if checkS X = 0 then elL X else []), Few 1000000 u) ∧ Few 1000000 (if checkS X = 0 then elR X else zeroT) ∧ (if checkS X = 0 then elL X else []).length ≤ 4000 := by
    by_cases h0 : checkS X = 0
    · rw [if_pos h0, if_pos h0]
      have := elL_fine _ (Nat.lt_succ_self _) (check_zero.1 h0).2
      exact ⟨fun u hu => few_fine (this.1 u hu), few_fine this.2, elL_few4 h0⟩
    · rw [if_neg h0, if_neg h0]
      exact ⟨fun u hu => by simp at hu, few_zero, Nat.zero_le _⟩
  have fb := fb.keep j1 hw0
  have gb := j1.get hw0 gb
  have w1 := j1.wf
  have nb1 := j1.next
  have ltb := w1 _ _ gb
  have qb := row6 gb
  have ne4 : (A4.next = B1.next) = False := by simp; omega
  repeat' (first | refine EvC.seq ?_ | refine EvC.scope ?_ | refine EvC.block ?_ | (refine EvC.skip ?_) | (refine EvC.exit ?_) | (refine EvC.ret ?_; try simp only [thenC_ret, inBlock_ret]) | (refine EvC.reg ?_; simp (config := { maxSteps := 2000000 }) (disch := first | omega | rfl) only [sA, Nat.reduceEqDiff, Nat.reduceAdd, reduceCtorEq, if_true, if_false, cutC, ld26, cl24, qb, ne4]) | (refine LX_go ?_; simp (config := { maxSteps := 2000000 }) (disch := first | omega | rfl) only [sA, dAlloc, Nat.reduceEqDiff, Nat.reduceAdd, one, reduceCtorEq, if_true, if_false, zr26, st26]))
  obtain ⟨B2, e2, j2, gy, n2, w2⟩ := newput w1 (.row zero6 26) (.row (six (if checkS X = 0 then elR X else zeroT) ay cy) 26)
  simp only [e2]
  clear e2
  have fb := fb.keep j2 w1
  have fx := fx.keep j2 w1
  have fy := fy.keep j2 w1
  have gb := j2.get w1 gb
  -- again
  refine (elements_ev (RepF.rep ⟨ab, cb, rfl, bX, fb⟩) w2).mono ?_
  rintro v B3 ⟨j3, m2, ax2, cx2, oy2, rfl, fx2, ⟨ay2, cy2, rfl, -, fy2⟩, l2, l2'⟩
  have fb := fb.keep j3 w2
  have fx := fx.keep j3 w2
  have fy := fy.keep j3 w2
  have gb := j3.get w2 gb
  have gy := j3.get w2 gy
  have w3' := j3.wf
  have nb3 := j3.next
  have qb := row6 gb
  have ne5 : (A4.next = B3.next) = False := by simp; omega
  have ne6 : (A4.next = B3.next + 1) = False := by simp; omega
  repeat' (first | refine EvC.seq ?_ | refine EvC.scope ?_ | refine EvC.block ?_ | (refine EvC.skip ?_) | (refine EvC.exit ?_) | (refine EvC.ret ?_; try simp only [thenC_ret, inBlock_ret]) | (refine EvC.reg ?_; simp (config := { maxSteps := 2000000 }) (disch := first | omega | rfl) only [sA, dAlloc, Nat.reduceEqDiff, Nat.reduceAdd, reduceCtorEq, if_true, if_false, cutC, ld26, zr26, cl16, qb, ne5, ne6]) | (refine LX_go ?_; simp (config := { maxSteps := 2000000 }) (disch := first | omega | rfl) only [sA, dAlloc, Nat.reduceEqDiff, Nat.reduceAdd, one, reduceCtorEq, if_true, if_false, zr26, st26]))
  obtain ⟨B4, e4, j4, gy2, n4, w4⟩ := newput w3' (.row zero6 26) (.row (six (if checkS X = 0 then elR X else zeroT) ay2 cy2) 26)
  simp only [e4]
  clear e4
  obtain ⟨B5, e5', j5, gz, n5', w5'⟩ := new1 w4 (.row zero6 26)
  simp only [e5']
  clear e5'
  have j45 := j4.trans j5
  have fb := fb.keep j45 w3'
  have fx := fx.keep j45 w3'
  have fy := fy.keep j45 w3'
  have fx2 := fx2.keep j45 w3'
  have fy2 := fy2.keep j45 w3'
  have gb := j45.get w3' gb
  have gy := j45.get w3' gy
  have gy2 := j5.get w4 gy2
  rw [n4] at gz n5'
  -- is it a term?
  refine (checkR_tells X _ _ (RepF.rep ⟨ab, cb, rfl, bX, fb⟩) w5').mono ?_
  rintro v B6 ⟨rfl, j6⟩
  have fb := fb.keep j6 w5'
  have fx := fx.keep j6 w5'
  have fy := fy.keep j6 w5'
  have fx2 := fx2.keep j6 w5'
  have fy2 := fy2.keep j6 w5'
  have gb := j6.get w5' gb
  have gy := j6.get w5' gy
  have gy2 := j6.get w5' gy2
  have gz := j6.get w5' gz
  have nb6 := j6.next
  have w6 := j6.wf
  generalize hLd : (if checkS X = 0 then elL X else []) = L at *
  generalize hRd : (if checkS X = 0 then elR X else zeroT) = R at *
  (repeat refine EvC.seq ?_); refine EvC.reg ?_; simp (config := { maxSteps := 2000000 }) (disch := first | omega | rfl) only [sA, Nat.reduceEqDiff, reduceCtorEq, if_true, if_false]
  refine EvC.join (fun st => ∃ tm G m3 ap cp ar cr, st = ⟨tm, [], G⟩ ∧ tm.get 14 = some (.slice ax L.length cx) ∧ tm.get 15 = some (.pointer (some ⟨B1.next, 0, none⟩)) ∧ tm.get 16 = some (.int .i64 (checkS X)) ∧ tm.get 17 = some (.slice ax2 L.length cx2) ∧
      tm.get 18 = some (.pointer (some ⟨B3.next, 0, none⟩)) ∧ tm.get 20 = some (.slice ap L.length cp) ∧ tm.get 21 = some (.pointer (some ⟨B3.next + 1, 0, none⟩)) ∧ tm.get 22 = some (.int .i64 (checkS X)) ∧ HK (fun n => n = B3.next + 1) B6 G ∧ G.get (B3.next + 1) = some (.row (six R ar cr) 26) ∧ B6.next ≤ m3 ∧ m3 ≤ G.next ∧ FL G 26 (Rg B6.next m3) L ap cp ∧ FL G 26 (Rg m3 G.next) R.args ar cr) ?_ ?_
  · by_cases h0 : checkS X = 0
    · rw [if_pos h0] at hLd hRd
      subst hLd hRd
      have qb := row6 gb
      repeat' (first | refine EvC.seq ?_ | refine EvC.scope ?_ | refine EvC.block ?_ | (refine EvC.skip ?_) | (refine EvC.exit ?_) | (refine EvC.ret ?_; try simp only [thenC_ret, inBlock_ret]) | (refine EvC.reg ?_; simp (config := { maxSteps := 2000000 }) (disch := first | omega | rfl) only [sA, Nat.reduceEqDiff, reduceCtorEq, if_true, if_false, ld26, cl25, ieq_t h0, qb]) | (refine EvC.condT ?_ ?_; simp (config := { maxSteps := 2000000 }) (disch := first | omega | rfl) only [sA, Nat.reduceEqDiff, reduceCtorEq, if_true, if_false, ieq_t h0]; refine EvC_go ?_))
      refine (elementsR_ev (RepF.rep ⟨ab, cb, rfl, bX, fb⟩) h0 w6).mono ?_
      rintro v B7 ⟨j7, m3, ap, cp, oz, rfl, fp, ⟨ar, cr, rfl, -, fr⟩, l3, l3'⟩
      have gz7 := j7.get w6 gz
      repeat' (first | refine EvC.seq ?_ | refine EvC.scope ?_ | refine EvC.block ?_ | (refine EvC.skip ?_) | (refine EvC.exit ?_) | (refine EvC.ret ?_; try simp only [thenC_ret, inBlock_ret]) | (refine LX_go ?_; simp (config := { maxSteps := 2000000 }) (disch := first | omega | rfl) only [sA, Nat.reduceEqDiff, Nat.reduceAdd, one, reduceCtorEq, if_true, if_false, st26, gz7]))
      have lz := w6 _ _ gz
      have n7 := j7.next
      refine ⟨_, _, m3, ap, cp, ar, cr, rfl, (by first | (simp only [Tr.get_put, Nat.reduceEqDiff, reduceCtorEq, if_true, if_false]; rfl) | simp only [Tr.get_put, Nat.reduceEqDiff, reduceCtorEq, if_true, if_false]), (by first | (simp only [Tr.get_put, Nat.reduceEqDiff, reduceCtorEq, if_true, if_false]; rfl) | simp only [Tr.get_put, Nat.reduceEqDiff, reduceCtorEq, if_true, if_false]), (by first | (simp only [Tr.get_put, Nat.reduceEqDiff, reduceCtorEq, if_true, if_false]; rfl) | simp only [Tr.get_put, Nat.reduceEqDiff, reduceCtorEq, if_true, if_false]), (by first | (simp only [Tr.get_put, Nat.reduceEqDiff, reduceCtorEq, if_true, if_false]; rfl) | simp only [Tr.get_put, Nat.reduceEqDiff, reduceCtorEq, if_true, if_false]), (by first | (simp only [Tr.get_put, Nat.reduceEqDiff, reduceCtorEq, if_true, if_false]; rfl) | simp only [Tr.get_put, Nat.reduceEqDiff, reduceCtorEq, if_true, if_false]), (by first | (simp only [Tr.get_put, Nat.reduceEqDiff, reduceCtorEq, if_true, if_false]; rfl) | simp only [Tr.get_put, Nat.reduceEqDiff, reduceCtorEq, if_true, if_false]), (by first | (simp only [Tr.get_put, Nat.reduceEqDiff, reduceCtorEq, if_true, if_false]; rfl) | simp only [Tr.get_put, Nat.reduceEqDiff, reduceCtorEq, if_true, if_false]), (by first | (simp only [Tr.get_put, Nat.reduceEqDiff, reduceCtorEq, if_true, if_false]; rfl) | simp only [Tr.get_put, Nat.reduceEqDiff, reduceCtorEq, if_true, if_false]), (j7.hk (fun n => n = B3.next + 1)).put (i := B3.next + 1) (.inl rfl) (by omega) _, by rw [get_put, if_pos rfl], l3, by rw [next_put]; exact l3', fp.heap (fun n hn _ => ?_) j7.wf, (fr.heap (fun n hn _ => ?_) j7.wf).sub fun n hn => by rw [next_put]; exact hn⟩
      · have := hn.1
        rw [get_put, if_neg (by omega)]
      · have := hn.1
        rw [get_put, if_neg (by omega)]
    · rw [if_neg h0] at hLd hRd
      subst hLd hRd
      repeat' (first | refine EvC.seq ?_ | refine EvC.scope ?_ | refine EvC.block ?_ | (refine EvC.skip ?_; try simp only [sA, ieq_f h0]) | (refine EvC.exit ?_) | (refine EvC.ret ?_; try simp only [thenC_ret, inBlock_ret]) | (refine EvC.condT ?_ ?_; simp (config := { maxSteps := 2000000 }) (disch := first | omega | rfl) only [sA, Nat.reduceEqDiff, reduceCtorEq, if_true, if_false, ieq_f h0]; refine EvC_go ?_) | (refine EvC.condF ?_ ?_; simp (config := { maxSteps := 2000000 }) (disch := first | omega | rfl) only [sA, Nat.reduceEqDiff, reduceCtorEq, if_true, if_false, ieq_f h0]; refine EvC_go ?_))
      exact ⟨_, _, B6.next, none, 0, none, 0, rfl, (by first | (simp only [Tr.get_put, Nat.reduceEqDiff, reduceCtorEq, if_true, if_false]; rfl) | simp only [Tr.get_put, Nat.reduceEqDiff, reduceCtorEq, if_true, if_false]), (by first | (simp only [Tr.get_put, Nat.reduceEqDiff, reduceCtorEq, if_true, if_false]; rfl) | simp only [Tr.get_put, Nat.reduceEqDiff, reduceCtorEq, if_true, if_false]), (by first | (simp only [Tr.get_put, Nat.reduceEqDiff, reduceCtorEq, if_true, if_false]; rfl) | simp only [Tr.get_put, Nat.reduceEqDiff, reduceCtorEq, if_true, if_false]), (by first | (simp only [Tr.get_put, Nat.reduceEqDiff, reduceCtorEq, if_true, if_false]; rfl) | simp only [Tr.get_put, Nat.reduceEqDiff, reduceCtorEq, if_true, if_false]), (by first | (simp only [Tr.get_put, Nat.reduceEqDiff, reduceCtorEq, if_true, if_false]; rfl) | simp only [Tr.get_put, Nat.reduceEqDiff, reduceCtorEq, if_true, if_false]), (by first | (simp only [Tr.get_put, Nat.reduceEqDiff, reduceCtorEq, if_true, if_false]; rfl) | simp only [Tr.get_put, Nat.reduceEqDiff, reduceCtorEq, if_true, if_false]), (by first | (simp only [Tr.get_put, Nat.reduceEqDiff, reduceCtorEq, if_true, if_false]; rfl) | simp only [Tr.get_put, Nat.reduceEqDiff, reduceCtorEq, if_true, if_false]), (by first | (simp only [Tr.get_put, Nat.reduceEqDiff, reduceCtorEq, if_true, if_false]; rfl) | simp only [Tr.get_put, Nat.reduceEqDiff, reduceCtorEq, if_true, if_false]), HK.refl w6, gz, Nat.le_refl _, Nat.le_refl _, .nil _, .nil _⟩
  rintro st ⟨tm, G, m3, ap, cp, ar, cr, rfl, t14, t15, t16, t17, t18, t20, t21, t22, kG, gz, lm, lm', fp, fr⟩
  have wG := kG.wf
  have nG := kG.next
  have fx := fx.beside kG w6 (fun n hn hs => by have := hn.2; omega)
  have fy := fy.beside kG w6 (fun n hn hs => by have := hn.2; omega)
  have fx2 := fx2.beside kG w6 (fun n hn hs => by have := hn.2; omega)
  have fy2 := fy2.beside kG w6 (fun n hn hs => by have := hn.2; omega)
  have gy := kG.get w6 gy (by omega)
  have gy2 := kG.get w6 gy2 (by omega)
  have qy := row6 gy
  have qz := row6 gz
  clear gb fb k9 k8 k7 k6 k5 k4 k3 k2 k1 j6 j5 j4 j3 j2 j1 hx
  repeat' (first | refine EvC.seq ?_ | refine EvC.scope ?_ | refine EvC.block ?_ | (refine EvC.skip ?_) | (refine EvC.exit ?_) | (refine EvC.ret ?_; try simp only [thenC_ret, inBlock_ret]) | (refine EvC.reg ?_; simp (config := { maxSteps := 2000000 }) (disch := first | omega | rfl) only [sA, Nat.reduceEqDiff, if_true, if_false, ld26, cl20, t15, t21, qy, qz]))
  refine (same_tells (RepF.rep ⟨ay, cy, rfl, bY, fy⟩) (RepF.rep ⟨ar, cr, rfl, bY, fr⟩) wG).mono ?_
  rintro v C1 ⟨rfl, i1⟩
  have nc1 := i1.next
  have fx := fx.keep i1 wG
  have fy := fy.keep i1 wG
  have fx2 := fx2.keep i1 wG
  have fy2 := fy2.keep i1 wG
  have fp := fp.keep i1 wG
  have fr := fr.keep i1 wG
  have gy := i1.get wG gy
  have gy2 := i1.get wG gy2
  have gz := i1.get wG gz
  have wC1 := i1.wf
  rw [eqT_self]
  repeat' (first | refine EvC.seq ?_ | refine EvC.scope ?_ | refine EvC.block ?_ | (refine EvC.skip ?_) | (refine EvC.exit ?_) | (refine EvC.ret ?_; try simp only [thenC_ret, inBlock_ret]) | (refine EvC.reg ?_; simp (config := { maxSteps := 2000000 }) (disch := first | omega | rfl) only [sA, Nat.reduceEqDiff, if_true, if_false, cl26, t14, t17, t20]))
  obtain ⟨cl1, h1⟩ := fx2.repA wC1
  obtain ⟨cl2, h2⟩ := fp.repA wC1
  refine (again_ev fx (h1 C1 fun _ _ _ => rfl) (h2 C1 fun _ _ _ => rfl) (fun n hn => by have := hn.2; omega) (fun G' hk => ⟨h1 G' fun n hn hl => hk.keep n hl fun hs => by have := hn.1; have := hs.2; omega, h2 G' fun n hn hl => hk.keep n hl fun hs => by have := hn.1; have := hs.2; omega⟩) hLR.1 (by have := hLR.2.2; omega) wC1).mono ?_
  rintro v C2 ⟨rfl, i2⟩
  have nc2 := i2.next
  have wC2 := i2.wf
  have fy := fy.beside i2 wC1 (fun n hn hs => by have := hn.1; have := hs.2; omega)
  have fy2 := fy2.beside i2 wC1 (fun n hn hs => by have := hn.1; have := hs.2; omega)
  have fr := fr.beside i2 wC1 (fun n hn hs => by have := hn.1; have := hs.2; omega)
  have gy := i2.get wC1 gy (fun hs => by have := hs.2; omega)
  have gy2 := i2.get wC1 gy2 (fun hs => by have := hs.2; omega)
  have gz := i2.get wC1 gz (fun hs => by have := hs.2; omega)
  have qy := row6 gy
  rw [eqL_self]
  repeat' (first | refine EvC.seq ?_ | refine EvC.scope ?_ | refine EvC.block ?_ | (refine EvC.skip ?_) | (refine EvC.exit ?_) | (refine EvC.ret ?_; try simp only [thenC_ret, inBlock_ret]) | (refine EvC.reg ?_; simp (config := { maxSteps := 2000000 }) (disch := first | omega | rfl) only [sA, Nat.reduceEqDiff, if_true, if_false, ld26, cl23, t15, qy]))
  refine (marked_ev (Nat.lt_succ_self _) ⟨ay, cy, rfl, bY, fy⟩ hLR.2.1 (fun n hn => by have := hn.2; omega) wC2).mono ?_
  rintro v C3 i3
  have wC3 := i3.wf
  have fy2 := fy2.beside i3 wC2 (fun n hn hs => by have := hn.1; have := hs.2; omega)
  have fr := fr.beside i3 wC2 (fun n hn hs => by have := hn.1; have := hs.2; omega)
  have gy2 := i3.get wC2 gy2 (fun hs => by have := hs.2; omega)
  have gz := i3.get wC2 gz (fun hs => by have := hs.2; omega)
  have qy2 := row6 gy2
  have qz := row6 gz
  repeat' (first | refine EvC.seq ?_ | refine EvC.scope ?_ | refine EvC.block ?_ | (refine EvC.skip ?_) | (refine EvC.exit ?_) | (refine EvC.ret ?_; try simp only [thenC_ret, inBlock_ret]) | (refine EvC.reg ?_; simp (config := { maxSteps := 2000000 }) (disch := first | omega | rfl) only [sA, Nat.reduceEqDiff, if_true, if_false, ld26, cl20, t18, t21, qy2, qz]))
  refine (same_tells (RepF.rep ⟨ay2, cy2, rfl, bY, fy2⟩) (RepF.rep ⟨ar, cr, rfl, bY, fr⟩) wC3).mono ?_
  rintro v C4 ⟨rfl, i4⟩
  rw [eqT_self]
  repeat' (first | refine EvC.seq ?_ | refine EvC.scope ?_ | refine EvC.block ?_ | (refine EvC.skip ?_) | (refine EvC.exit ?_) | (refine EvC.ret ?_; try simp only [thenC_ret, inBlock_ret]) | (refine LG_go ?_; simp (config := { maxSteps := 2000000 }) (disch := first | omega | rfl) only [sA, Nat.reduceEqDiff, if_true, if_false, t16, t22, ieq_t]))
  exact leave_one rfl (by first | (simp only [Tr.get_put, Nat.reduceEqDiff, if_true, if_false]; rfl) | simp only [Tr.get_put, Nat.reduceEqDiff, if_true, if_false]) rfl
end Go.Proofs.YtlllbkjiadcloaaDoor.hb
end

-- Law2
section
/- Terms that come in. -/
namespace Go.Hb
open Go Go.RowKit

section
variable {H : Type} {enc : TypeId × Value → H} {P : Program} {W : World} {sp : Nat → Bool} {fuel : Nat} {t e : TypeId} {cs : List Value} {d : DataW H} {ps : List MemPlace}

theorem ab_int {k : IntKind} {n : Int} : ab P W (.int k n) = .int k n := rfl
theorem ab_string {s : ByteArray} : ab P W (.string s) = .string s := rfl
theorem ab_bool {b : Bool} : ab P W (.bool b) = .bool b := rfl
theorem ab_nilslice : ab P W (.slice none 0 0) = .slice none 0 0 := rfl

theorem trod_int {k : IntKind} (ht : P.underlying t = some (.int k)) (h : DataW.trod enc P W 0 sp true fuel t cs = some (d, ps)) : ∃ n, cs = [.int k n] ∧ (Lit.int k n).wf = true := by
  cases fuel with
  | zero => simp [DataW.trod] at h
  | succ m =>
    unfold DataW.trod at h
    rw [ht] at h
    split at h <;> simp_all
theorem trod_string (ht : P.underlying t = some .string) (h : DataW.trod enc P W 0 sp true fuel t cs = some (d, ps)) : ∃ s : ByteArray, cs = [.string s] ∧ s.size ≤ maxLen := by
  cases fuel with
  | zero => simp [DataW.trod] at h
  | succ m =>
    unfold DataW.trod at h
    rw [ht] at h
    split at h <;> simp_all
theorem trod_bool (ht : P.underlying t = some .bool) (h : DataW.trod enc P W 0 sp true fuel t cs = some (d, ps)) : ∃ b, cs = [.bool b] := by
  cases fuel with
  | zero => simp [DataW.trod] at h
  | succ m =>
    unfold DataW.trod at h
    rw [ht] at h
    split at h <;> simp_all
theorem trod_slice (ht : P.underlying t = some (.slice e)) (h : DataW.trod enc P W 0 sp true fuel t cs = some (d, ps)) :
    cs = [.slice none 0 0] ∨ ∃ a len cap m, fuel = m + 1 ∧ cs = [.slice (some a) len cap] ∧ len ≤ cap ∧ cap ≤ maxLen ∧
      ∀ i, i < len → ∃ es d' ps', W.cells? 0 (a.add (i * P.cellsOf e)) (P.cellsOf e) = some es ∧ DataW.trod enc P W 0 sp true m e es = some (d', ps') := by
  cases fuel with
  | zero => simp [DataW.trod] at h
  | succ m =>
    unfold DataW.trod at h
    rw [ht] at h
    split at h <;> simp_all
    obtain ⟨⟨hl, hc⟩, h⟩ := h
    simp only [Option.bind_eq_some_iff, Option.map_eq_some_iff] at h
    obtain ⟨elems, he, _⟩ := h
    refine ⟨_, _, _, ⟨rfl, rfl, rfl⟩, hl, hc, fun i hi => ?_⟩
    have hlen := mapM_some_length he
    have := mapM_some_get he i i (by simp [hi])
    rw [List.getElem?_eq_getElem (by rw [hlen]; simpa using hi)] at this
    simp only [Option.bind_eq_some_iff] at this
    obtain ⟨es, h1, h2⟩ := this
    exact ⟨es, h1, _, _, h2⟩
theorem trod_struct {fs : Array Field} (ht : P.underlying t = some (.struct fs)) (h : DataW.trod enc P W 0 sp true fuel t cs = some (d, ps)) :
    ∃ m, fuel = m + 1 ∧ cs.length = P.cellsOf t ∧ ∀ (i : Nat) (f : Field), fs[i]? = some f → ∃ d' ps', DataW.trod enc P W 0 sp true m f.type ((cs.drop f.offset).take (P.cellsOf f.type)) = some (d', ps') := by
  cases fuel with
  | zero => simp [DataW.trod] at h
  | succ m =>
    unfold DataW.trod at h
    rw [ht] at h
    split at h <;> simp_all
    subst_vars
    obtain ⟨hl, xs, hx, _⟩ := h
    intro i f hf
    have hlen := mapM_some_length hx
    have := mapM_some_get hx i f (by simpa using hf)
    have hi := (Array.getElem?_eq_some_iff.1 hf).1
    rw [List.getElem?_eq_getElem (by rw [hlen]; simpa using hi)] at this
    exact ⟨_, _, this⟩
theorem blk_add (a : Addr) (i : Nat) : (a.add i).block = a.block := by unfold Addr.add; split <;> rfl
theorem add_spot {a : Addr} {i : Nat} : (a.add i).spot = none ∨ (a.add i).spot = a.spot := by
  unfold Addr.add
  split
  · exact .inr rfl
  · exact .inl rfl
/-- an element of a slice, in the world's abstraction -/
theorem elem_load {a : Addr} {s i : Nat} {es : List Value} (hs : 0 < s) (h : W.cells? 0 (a.add (i * s)) s = some es) (hsp : a.spot = none) : (heapW P W).load ⟨a.block, a.off + i * s, none⟩ s = some (es.map (ab P W)) ∧ es.length = s ∧ a.block < W.heap.size := by
  obtain ⟨_, hl, hc⟩ := World.cells?_some h
  obtain ⟨b, o, sp⟩ := a
  obtain rfl : sp = none := hsp
  have hb := World.cells?_block h hs
  rw [blk_add] at hb
  refine ⟨load_world hs hl fun j v hj => ?_, hl, hb⟩
  have hjl : j < es.length := (List.getElem?_eq_some_iff.1 hj).1
  have := hc j (by omega)
  rw [add0, add0] at this
  rw [this]; exact hj
/-- a slice of which an element is read has a plain place, unless none is -/
theorem slice_spot {a : Addr} {s : Nat} {es : List Value} (hs : 0 < s) (h : W.cells? 0 (a.add (0 * s)) s = some es) : a.spot = none := by
  obtain ⟨_, hl, hc⟩ := World.cells?_some h
  have e0 : ∀ a : Addr, a.add 0 = a := fun a => by unfold Addr.add; simp
  have := hc 0 hs
  rw [Nat.zero_mul, e0, e0, List.getElem?_eq_getElem (by omega)] at this
  unfold World.cell? at this
  split at this
  · split at this
    · cases this
    · rename_i hn; simpa using hn
  · cases this
end

section
variable {H : Type} {enc : TypeId × Value → H} {P : Program} {W : World} {sp : Nat → Bool}
/-- the types of terms -/
structure TermTypes (P : Program) (tT tS tI tG tU : TypeId) : Prop where
  fields : ∃ fs : Array Field, P.underlying tT = some (.struct fs) ∧ (fs.toList.map fun f => (f.offset, f.type)) = [(0, tI), (1, tG), (2, tG), (3, tU), (4, tI), (5, tS)]
  slice : P.underlying tS = some (.slice tT)
  int : P.underlying tI = some (.int .i64)
  str : P.underlying tG = some .string
  u64 : P.underlying tU = some (.int .u64)
  cT : P.cellsOf tT = 6
  cS : P.cellsOf tS = 1
  cI : P.cellsOf tI = 1
  cG : P.cellsOf tG = 1
  cU : P.cellsOf tU = 1

theorem wf_i64 {n : Int} (h : (Lit.int .i64 n).wf = true) : i64 n := by
  unfold i64
  unfold Lit.wf at h
  simp [IntKind.min, IntKind.max, IntKind.bits, IntKind.signed] at h
  exact h
theorem wf_u64 {n : Int} (h : (Lit.int .u64 n).wf = true) : u64 n := by
  unfold u64
  unfold Lit.wf at h
  simp [IntKind.min, IntKind.max, IntKind.bits, IntKind.signed] at h
  exact h
theorem one_at {cs : List Value} {o : Nat} {v : Value} (h : (cs.drop o).take 1 = [v]) : cs[o]? = some v := by
  have : ((cs.drop o).take 1)[0]? = some v := by rw [h]; rfl
  simpa [List.getElem?_take, List.getElem?_drop] using this
theorem list_six {cs : List Value} {a b c d e f : Value} (hl : cs.length = 6) (h0 : cs[0]? = some a) (h1 : cs[1]? = some b) (h2 : cs[2]? = some c) (h3 : cs[3]? = some d) (h4 : cs[4]? = some e) (h5 : cs[5]? = some f) : cs = [a, b, c, d, e, f] := by
  match cs, hl with
  | [_, _, _, _, _, _], _ => simp at h0 h1 h2 h3 h4 h5; simp [h0, h1, h2, h3, h4, h5]
theorem rep_of_trod {tT tS tI tG tU : TypeId} (T : TermTypes P tT tS tI tG tU) : ∀ (fuel : Nat) (cs : List Value) (d : DataW H) (ps : List MemPlace), DataW.trod enc P W 0 sp true fuel tT cs = some (d, ps) → ∃ t, RepT (heapW P W) t (cs.map (ab P W)) := by
  intro fuel
  induction fuel using Nat.strongRecOn with
  | _ fuel ih =>
  intro cs d ps h
  obtain ⟨fs, hf, hfs⟩ := T.fields
  obtain ⟨m, rfl, hl, hall⟩ := trod_struct hf h
  rw [T.cT] at hl
  have fld : ∀ i o u, ((fs.toList.map fun f => (f.offset, f.type)))[i]? = some (o, u) → P.cellsOf u = 1 → ∃ d' ps', DataW.trod enc P W 0 sp true m u ((cs.drop o).take 1) = some (d', ps') := fun i o u hi hu => by
    rw [List.getElem?_map, Option.map_eq_some_iff] at hi
    obtain ⟨f, hf1, hf2⟩ := hi
    obtain ⟨d', ps', hd⟩ := hall i f (by simpa using hf1)
    cases hf2
    rw [hu] at hd
    exact ⟨d', ps', hd⟩
  rw [hfs] at fld
  obtain ⟨d0, p0, t0⟩ := fld 0 0 tI rfl T.cI
  obtain ⟨d1, p1, t1⟩ := fld 1 1 tG rfl T.cG
  obtain ⟨d2, p2, t2⟩ := fld 2 2 tG rfl T.cG
  obtain ⟨d3, p3, t3⟩ := fld 3 3 tU rfl T.cU
  obtain ⟨d4, p4, t4⟩ := fld 4 4 tI rfl T.cI
  obtain ⟨d5, p5, t5⟩ := fld 5 5 tS rfl T.cS
  obtain ⟨k, h0, w0⟩ := trod_int T.int t0
  obtain ⟨s, h1, w1⟩ := trod_string T.str t1
  obtain ⟨u, h2, w2⟩ := trod_string T.str t2
  obtain ⟨b, h3, w3⟩ := trod_int T.u64 t3
  obtain ⟨v, h4, w4⟩ := trod_int T.int t4
  rcases trod_slice T.slice t5 with h5 | ⟨a, n, c, m', rfl, h5, hnc, hcm, hel⟩
  · rw [list_six hl (one_at h0) (one_at h1) (one_at h2) (one_at h3) (one_at h4) (one_at h5)]
    exact ⟨.mk k s u b v [], .mk k s u b v [] none 0 (fun _ => []) (wf_i64 w0) w1 w2 (wf_u64 w3) (wf_i64 w4) (Nat.zero_le _) (Nat.le_refl _) (Nat.zero_le _) (fun _ => ⟨rfl, rfl⟩) (fun i ad hi => by simp at hi) (fun i t ht => by simp at ht)⟩
  · rw [list_six hl (one_at h0) (one_at h1) (one_at h2) (one_at h3) (one_at h4) (one_at h5)]
    rw [T.cT] at hel
    have hsp : 0 < n → a.spot = none := fun hn => by
      obtain ⟨es, _, _, he, _⟩ := hel 0 hn
      exact slice_spot (by omega) he
    have key : ∀ i, ∃ t cells, i < n → (heapW P W).load ⟨a.block, a.off + i * 6, none⟩ 6 = some cells ∧ RepT (heapW P W) t cells := fun i => by
      by_cases hi : i < n
      · obtain ⟨es, d', ps', he, ht⟩ := hel i hi
        obtain ⟨t, hr⟩ := ih m' (by omega) es d' ps' ht
        exact ⟨t, _, fun _ => ⟨(elem_load (by omega) he (hsp (by omega))).1, hr⟩⟩
      · exact ⟨.mk 0 s u 0 0 [], [], fun h => absurd h hi⟩
    obtain ⟨T', hT'⟩ := Classical.axiomOfChoice key
    obtain ⟨C, hC⟩ := Classical.axiomOfChoice hT'
    have hlen : ((List.range n).map T').length = n := by simp
    refine ⟨.mk k s u b v ((List.range n).map T'), ?_⟩
    by_cases hn : 0 < n
    · have hbl : a.block < W.heap.size := by
        obtain ⟨es, _, _, he, _⟩ := hel 0 hn
        exact (elem_load (P := P) (by omega) he (hsp hn)).2.2
      have hab : ab P W (.slice (some a) n c) = .slice (some a) ((List.range n).map T').length c := by
        unfold ab
        rw [hlen]
        simp only
        rw [if_pos ⟨hnc, hcm⟩, if_pos ⟨hsp hn, hbl⟩]
      simp only [List.map_cons, List.map_nil, ab_int, ab_string, hab]
      refine .mk k s u b v _ (some a) c C (wf_i64 w0) w1 w2 (wf_u64 w3) (wf_i64 w4) (by rw [hlen]; omega) (by rw [hlen]; exact hnc) hcm (fun h => by cases h) (fun i ad hi ha => ?_) (fun i t ht => ?_)
      · cases ha
        rw [hlen] at hi
        exact ⟨hsp hn, (hC i hi).1⟩
      · rw [List.getElem?_map, Option.map_eq_some_iff] at ht
        obtain ⟨j, hj, rfl⟩ := ht
        have hi : i < n := by have := (List.getElem?_eq_some_iff.1 hj).1; simpa using this
        rw [List.getElem?_range hi] at hj
        cases hj
        exact (hC i hi).2
    · have hn0 : n = 0 := by omega
      subst hn0
      obtain ⟨a', hab⟩ : ∃ a', ab P W (.slice (some a) 0 c) = .slice (some a') 0 c := by
        unfold ab
        simp only
        rw [if_pos ⟨hnc, hcm⟩]
        split
        · exact ⟨_, rfl⟩
        · exact ⟨_, rfl⟩
      simp only [List.map_cons, List.map_nil, ab_int, ab_string, hab, List.range_zero]
      exact .mk k s u b v [] (some a') c C (wf_i64 w0) w1 w2 (wf_u64 w3) (wf_i64 w4) (Nat.zero_le _) hnc hcm (fun h => by cases h) (fun i ad hi => by simp at hi) (fun i t ht => by simp at ht)
end
end Go.Hb
end

-- Law3
section
/- Lists of terms that come in. -/
namespace Go.Hb
open Go Go.RowKit
section
variable {H : Type} {enc : TypeId × Value → H} {P : Program} {W : World} {sp : Nat → Bool}
theorem repL_of_trod {tT tS tI tG tU : TypeId} (T : TermTypes P tT tS tI tG tU) {fuel : Nat} {cs : List Value} {d : DataW H} {ps : List MemPlace} (h : DataW.trod enc P W 0 sp true fuel tS cs = some (d, ps)) :
    ∃ l a c cells, cs.map (ab P W) = [.slice a l.length c] ∧ RepL (heapW P W) l a c cells := by
  rcases trod_slice T.slice h with rfl | ⟨a, n, c, m, rfl, rfl, hnc, hcm, hel⟩
  · exact ⟨[], none, 0, fun _ => [], rfl, Nat.le_refl _, Nat.zero_le _, fun _ => ⟨rfl, rfl⟩, fun i ad hi => by simp at hi, fun i t h => by simp at h⟩
  · rw [T.cT] at hel
    have hsp : 0 < n → a.spot = none := fun hn => by
      obtain ⟨es, _, _, he, _⟩ := hel 0 hn
      exact slice_spot (by omega) he
    have key : ∀ i, ∃ t cells, i < n → (heapW P W).load ⟨a.block, a.off + i * 6, none⟩ 6 = some cells ∧ RepT (heapW P W) t cells := fun i => by
      by_cases hi : i < n
      · obtain ⟨es, d', ps', he, ht⟩ := hel i hi
        obtain ⟨t, hr⟩ := rep_of_trod T m es d' ps' ht
        exact ⟨t, _, fun _ => ⟨(elem_load (by omega) he (hsp (by omega))).1, hr⟩⟩
      · exact ⟨.mk 0 ByteArray.empty ByteArray.empty 0 0 [], [], fun h => absurd h hi⟩
    obtain ⟨T', hT'⟩ := Classical.axiomOfChoice key
    obtain ⟨C, hC⟩ := Classical.axiomOfChoice hT'
    have hlen : ((List.range n).map T').length = n := by simp
    by_cases hn : 0 < n
    · have hbl : a.block < W.heap.size := by
        obtain ⟨es, _, _, he, _⟩ := hel 0 hn
        exact (elem_load (P := P) (by omega) he (hsp hn)).2.2
      have hab : ab P W (.slice (some a) n c) = .slice (some a) ((List.range n).map T').length c := by
        unfold ab
        rw [hlen]
        simp only
        rw [if_pos ⟨hnc, hcm⟩, if_pos ⟨hsp hn, hbl⟩]
      refine ⟨(List.range n).map T', some a, c, C, by simp only [List.map_cons, List.map_nil, hab], by rw [hlen]; exact hnc, hcm, (fun h => by cases h), (fun i ad hi ha => ?_), (fun i t ht => ?_)⟩
      · cases ha
        rw [hlen] at hi
        exact ⟨hsp hn, (hC i hi).1⟩
      · rw [List.getElem?_map, Option.map_eq_some_iff] at ht
        obtain ⟨j, hj, rfl⟩ := ht
        have hi : i < n := by have := (List.getElem?_eq_some_iff.1 hj).1; simpa using this
        rw [List.getElem?_range hi] at hj
        cases hj
        exact (hC i hi).2
    · have hn0 : n = 0 := by omega
      subst hn0
      obtain ⟨a', hab⟩ : ∃ a', ab P W (.slice (some a) 0 c) = .slice (some a') 0 c := by
        unfold ab
        simp only
        rw [if_pos ⟨hnc, hcm⟩]
        split
        · exact ⟨_, rfl⟩
        · exact ⟨_, rfl⟩
      exact ⟨[], some a', c, fun _ => [], by simp only [List.map_cons, List.map_nil, hab]; rfl, Nat.zero_le _, hcm, (fun h => by cases h), (fun i ad hi => by simp at hi), (fun i t h => by simp at h)⟩
/-- an argument that is a slice -/
theorem slice_arg {tT tS tI tG tU : TypeId} (T : TermTypes P tT tS tI tG tU) {v : Value} {fuel : Nat} {d : DataW H} {ps : List MemPlace} (h : DataW.trod enc P W 0 sp true fuel tS v.cells.toList = some (d, ps)) (hv : ∀ cs, v ≠ .agg cs) :
    ∃ l a c cells, abV P W v = .slice a l.length c ∧ RepL (heapW P W) l a c cells := by
  obtain ⟨l, a, c, cells, he, hr⟩ := repL_of_trod T h
  refine ⟨l, a, c, cells, ?_, hr⟩
  have hc : v.cells.toList = [v] := by
    unfold Value.cells
    split
    · rename_i cs; exact absurd rfl (hv cs)
    · rfl
  rw [hc] at he
  have : abV P W v = ab P W v := by
    unfold abV
    split
    · rename_i cs; exact absurd rfl (hv _)
    · rfl
  rw [this]
  simpa using he
end
end Go.Hb
end
