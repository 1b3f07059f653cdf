import Derived.Test.YtopekindmbjeoaaDoorM3
import Derived.Test.YtopekindmbjeoaaDoorM5
import Derived.Test.YtopekindmbjeoaaDoorM4
/- Lemmas on the program's own code, towards the laws of this folder, part 6. Conditions: as each lemma says. -/
section
namespace Go.Proofs.hq
open Go Go.RowKit Go.Hb
variable {ok : Ok}
set_option maxRecDepth 10000
attribute [local irreducible] LX LG EL STG SOP SGO SGD SAL SRD SEF SEG SLK SCK ES
def stopCh : List PanicEntry := [{ v := .iface 62 (.agg #[]), recovered := false }]
theorem zl6 : dmight Tryd.prog 27 = .agg ⟨zero8⟩ := by kernel_rfl
theorem znt : dmight Tryd.prog 50 = .agg ⟨zero8⟩ := by kernel_rfl
def BodyEnd (H : Heap) (o : Option Bdy) (e : En) (H' : Heap) : Prop := HX H H' ∧ match o with
 | some b => ∃ out, e = .ret (.agg ⟨out⟩) ∧ OB H' 30 25 (Rg H.next H'.next) b out
 | none => e = .panic stopCh
def BodyP (m : Nat) : Prop := ∀ {t : Tm} {cs : List Value} {H : Heap}, SizeOf.sizeOf t < m → RepT H t cs → checkS t = 0 → H.wf → EvG Tryd.prog okT 27 [.agg ⟨cs⟩] H (BodyEnd H (bodyF m t))
theorem z86 {f : Tm → Option Bdy} : ∀ {l : List Tm} {bs : List Bdy} {t : Tm} {b : Bdy}, subBL f l = some bs → f t = some b → subBL f (l ++ [t]) = some (bs ++ [b])
 | [], bs, t, b, h, hb => by
  cases h
  simp [subBL, hb]
 | u :: l, bs, t, b, h, hb => by
  rw [subBL] at h
  split at h
  ·rename_i c cs h1 h2
   cases h
   rw [List.cons_append, subBL, h1, z86 h2 hb]; rfl
  ·cases h
theorem zc6 {f : Tm → Option Bdy} : ∀ {l : List Tm} {t : Tm}, t ∈ l → f t = none → subBL f l = none
 | u :: l, t, h, hn => by
  rw [subBL]
  rcases List.mem_cons.1 h with rfl | h
  ·rw [hn]
  ·rw [zc6 h hn]
   cases f u <;> rfl
theorem zfe {f : Tm → Option Bdy} : ∀ {l : List Tm} {bs : List Bdy}, subBL f l = some bs → bs.length = l.length
 | [], bs, h => by cases h; rfl
 | u :: l, bs, h => by
  rw [subBL] at h
  split at h
  ·rename_i c cs h1 h2
   cases h
   simp [zfe h2]
  ·cases h
set_option maxHeartbeats 8000000 in
theorem z87 {m : Nat} (hb : BodyP m) {k : Int} {l : List Tm} {a : Option Addr} {c : Nat} {cells : Nat → List Value} {H : Heap} (hk : i64 k) (rl : RepL H l a c cells) (hl : l.length ≤ 64) (hs : ∀ t ∈ l, SizeOf.sizeOf t < m ∧ checkS t = 0) (hw : H.wf) :
  EvG Tryd.prog okT 50 [.int .i64 k, .slice a l.length c] H (BodyEnd H (subBF (bodyF m) k l)) := by
 have apB : apOk Tryd.prog 28 30 8 := ap28
 refine EvG.enter rfl Tryd.func50 (by decide) rfl ?_
 (repeat refine EvC.seq ?_); refine EvC.reg ?_; simp (config := { maxSteps := 2000000 }) (disch := first | omega | rfl) only [sA, initTm, dAlloc, zr30]
 obtain ⟨H2, e2, hx2, g4, hn2, hw2⟩ := new1 hw (.row zero8 30)
 simp only [e2]
 clear e2
 (repeat refine EvC.seq ?_); refine EvC.reg ?_; simp (config := { maxSteps := 2000000 }) (disch := first | omega | rfl) only [sB, dAlloc, Nat.reduceEqDiff, Nat.reduceAdd, Value.cells, one, reduceCtorEq, Nat.reduceLeDiff, layC, zr30, bd30, st30]
 obtain ⟨H3, e3, hx3, g5, hn3, hw3⟩ := z0l hw2 (.row zero8 30) (.row [.int .i64 k, .int .i64 0, .string ByteArray.empty, .string ByteArray.empty, .int .u64 0, .int .i64 0, .slice none 0 0, .slice none 0 0] 30)
 simp only [e3]
 clear e3
 rw [hn2] at g5 hn3
 have g5 : H3.get (H.next + 1) = some (.row (eightT k zeroT none 0 none 0 0) 30) := g5
 have g4 := hx3.get hw2 g4
 have hx := hx2.trans hx3
 have hmax := rl.max
 (repeat refine EvC.seq ?_); refine EvC.reg ?_; simp (config := { maxSteps := 2000000 }) (disch := first | omega | rfl) only [sB, Nat.reduceEqDiff, reduceCtorEq, ln23]
 refine EvC.join (fun st => ∃ tm G bs ao co, st = ⟨tm, [], G⟩ ∧ tm.get 4 = some (.pointer (some ⟨H.next, 0, none⟩)) ∧ tm.get 5 = some (.pointer (some ⟨H.next + 1, 0, none⟩)) ∧ G.get H.next = some (.row zero8 30) ∧
  G.get (H.next + 1) = some (.row (eightT k zeroT none 0 ao bs.length co) 30) ∧ subBL (bodyF m) l = some bs ∧ OBL G 30 25 (fun n => H.next + 2 ≤ n ∧ n < G.next) bs ao co ∧ HX H G) ?_ ?_
 ·refine EvC.block (EvC.loop (fun k' st => ∃ tm G i bs ao co, st = ⟨tm, [], G⟩ ∧ k' = l.length - i ∧ i ≤ l.length ∧ bs.length = i ∧ tm.get 4 = some (.pointer (some ⟨H.next, 0, none⟩)) ∧ tm.get 5 = some (.pointer (some ⟨H.next + 1, 0, none⟩)) ∧
   tm.get 10 = some (.slice a l.length c) ∧ tm.get 11 = some (.int .i64 l.length) ∧ tm.get 12 = some (.int .i64 (i : Nat)) ∧ G.get H.next = some (.row zero8 30) ∧ G.get (H.next + 1) = some (.row (eightT k zeroT none 0 ao i co) 30) ∧
   subBL (bodyF m) (l.take i) = some bs ∧ OBL G 30 25 (fun n => H.next + 2 ≤ n ∧ n < G.next) bs ao co ∧ HX H G) ?_ l.length _ ?_)
  rotate_left
  ·exact ⟨_, _, 0, [], none, 0, rfl, rfl, Nat.zero_le _, rfl, (by simp only [sG, Nat.reduceEqDiff, reduceCtorEq] <;> rfl), by rw [← hn2]; first | (simp only [sG, Nat.reduceEqDiff, reduceCtorEq]; rfl) | simp only [sG, Nat.reduceEqDiff, reduceCtorEq], (by simp only [sG, Nat.reduceEqDiff, reduceCtorEq] <;> rfl), (by simp only [sG, Nat.reduceEqDiff, reduceCtorEq] <;> rfl), (by simp only [sB, Nat.reduceEqDiff, reduceCtorEq] <;> rfl), g4, g5, rfl, .nil, hx⟩
  rintro k' st ⟨tm, G, i, bs, ao, co, rfl, rfl, hi, hbl, t4, t5, t10, t11, t12, g4G, g5G, hsub, hobl, hxG⟩
  have hwG := hxG.wf
  by_cases hlt : i < l.length
  rotate_left
  ·repeat' (first | refine EvC.seq ?_ | refine EvC.scope ?_ | refine EvC.block ?_ | (refine EvC.skip ?_) | (refine EvC.exit ?_; try simp only [sB]) | (refine EvC.ret ?_; try simp only [z01, z00]) | (refine EvC.reg ?_; simp (config := { maxSteps := 2000000 }) (disch := first | omega | rfl) only [sA, t11, t12, decn hlt]) | (refine EvC.condT ?_ ?_; simp (config := { maxSteps := 2000000 }) (disch := first | omega | rfl) only [sB]; refine z04 ?_) | (refine EvC.condF ?_ ?_; simp (config := { maxSteps := 2000000 }) (disch := first | omega | rfl) only [sB]; refine z04 ?_))
   obtain rfl : i = l.length := by omega
   rw [List.take_length] at hsub
   exact ⟨_, _, bs, ao, co, rfl, (by simp only [sG, Nat.reduceEqDiff, t4] <;> rfl), (by simp only [sG, Nat.reduceEqDiff, t5] <;> rfl), g4G, by rw [hbl]; exact g5G, hsub, hobl, hxG⟩
  obtain ⟨b, o, a1, c1, rfl, hld, hr1⟩ := rl.el hlt
  have hld1 := hxG.load hw hld
  (repeat refine EvC.seq ?_); refine EvC.reg ?_; simp (config := { maxSteps := 2000000 }) (disch := first | omega | rfl) only [sA, t11, t12, decl hlt]
  (repeat refine EvC.seq ?_); refine EvC.condT (by simp (config := { maxSteps := 2000000 }) (disch := first | omega | rfl) only [sB]) ?_; (try refine EvC.skip ?_); (try simp only [z02, z03])
  refine EvC.seq ?_
  refine EvC.block ?_
  (repeat refine EvC.seq ?_); refine EvC.reg ?_; simp (config := { maxSteps := 2000000 }) (disch := first | omega | rfl) only [sB, dAlloc, Nat.reduceEqDiff, Nat.reduceAdd, one, ia23, ld25, zr25, st25, t10, t12, hld1]
  obtain ⟨H4, e4, hx4, g7, hn4, hw4⟩ := z0l hwG (.row zero6 25) (.row (six l[i] a1 c1) 25)
  simp only [e4]
  clear e4
  have q7 := row6 g7
  have hxb : HX G ⟨H4.next + 8, H4.t⟩ := hx4.bump 8
  have hG4 := hx4.next
  have g54 := hx4.get hwG g5G
  have q54 := row8 g54
  have hsi := hs l[i] (List.getElem_mem _)
  have hlg := hwG _ _ g5G
  subst hbl
  have hsg : ∀ n, (H.next + 2 ≤ n ∧ n < G.next) → n < G.next := fun n hn => hn.2
  cases hbi : bodyF m l[bs.length] with
  | some bd =>
   (repeat refine EvC.seq ?_); refine EvC.drw [([(2, 0)], some 3), ([(0, 0), (1, 0), (4, 1)], some 5), ([(6, 2)], some 7), ([], none)] (by kernel_rfl) ?_; simp (config := { maxSteps := 2000000 }) (disch := first | omega | rfl) only [sD, sB, Nat.reduceEqDiff, Nat.reduceAdd, reduceCtorEq, ld25, cl27, isAlloc, isRead, reduceCtorEq, q7]
   refine EvG.toF (hb hsi.1 (hr1.mono (hxG.trans hxb) hw) hsi.2 hxb.wf) ?_
   rintro e H5 ⟨hx5, he⟩
   rw [hbi] at he
   obtain ⟨out, rfl, hob⟩ := he
   refine ⟨_, rfl, ?_⟩
   obtain ⟨ta, tc, sa, sc, rfl⟩ := hob.rep.eight
   have n5 : H4.next + 8 ≤ H5.next := hx5.next
   have hx45 : HX G H5 := hxb.trans hx5
   obtain ⟨H6, e6⟩ : ∃ H6, H5.put (H4.next + 4) (some (.row (eightT bd.kind bd.term ta tc sa bd.sub.length sc) 30)) = H6 := ⟨_, rfl⟩
   have hx6 : HX G H6 := by rw [← e6]; exact hx45.put (by omega) (by omega) _
   have hn6 : H6.next = H5.next := by rw [← e6, z07]
   have g6 : H6.get (H4.next + 4) = some (.row (eightT bd.kind bd.term ta tc sa bd.sub.length sc) 30) := by rw [← e6, get_put, if_pos rfl]
   have hob6 : OB H6 30 25 (Rg (H4.next + 8) H5.next) bd (eightT bd.kind bd.term ta tc sa bd.sub.length sc) := hob.to (fun n hn hl => ⟨by have : H4.next + 8 ≤ n := hn.1; rw [← e6, get_put, if_neg (by omega)], by omega⟩) fun _ hn => hn
   obtain ⟨H7, e7, hobl7, hk7, hn7⟩ := OBL.push (N := Rg (H4.next + 8) H5.next) (S2 := fun n => H.next + 2 ≤ n ∧ n < H6.next + 1) (c1 := 1) apB (hobl.keep hx6) hx6.wf (ld1 g6 rfl) hob6 (fun n hn hs => by have : H4.next + 8 ≤ n := hn.1; have := hs.2; omega) (fun n hn => by have := hn.2; omega)
    (fun n hn => by have := hn.2; omega) (by unfold most; omega) (fun n hn => by
     rcases hn with hn | hn | hn
     ·exact ⟨hn.1, by omega⟩
     ·exact ⟨by have : H4.next + 8 ≤ n := hn.1; omega, by have := hn.2; omega⟩
     ·exact ⟨by omega, by omega⟩)
   have g55 := hx5.get hxb.wf (show (⟨H4.next + 8, H4.t⟩ : Heap).get (H.next + 1) = _ from g54)
   have q55 := row8 g55
   have g57 := hk7.get hx6.wf (hx6.get hwG g5G) (fun hs => by have := hs.1; omega)
   have g47 := hk7.get hx6.wf (hx6.get hwG g4G) (fun hs => by have := hs.1; omega)
   have hx7 : HX H H7 := (hxG.trans hx6).then hk7 fun n hn hs => by have := hs.1; omega
   repeat' (first | refine EvC.seq ?_ | refine EvC.scope ?_ | refine EvC.block ?_ | (refine EvC.skip ?_) | (refine EvC.exit ?_) | (refine EvC.ret ?_; try simp only [z01, z00]) | (refine EvC.reg ?_; simp (config := { maxSteps := 2000000 }) (disch := first | omega | rfl) only [sB, Nat.reduceEqDiff, t12, z0c]) | (refine z0u ?_; simp (config := { maxSteps := 2000000 }) (disch := first | omega | rfl) only [sV, sD, sB, Nat.reduceEqDiff, Nat.reduceAdd, Value.cells, one, reduceCtorEq, layC, z3v, ld28, zm6, st28, t5, q54, q55, e6, e7, g57, isAlloc, isRead, dalloc, reduceCtorEq]))
   refine ⟨l.length - (bs.length + 1), by omega, _, _, bs.length + 1, bs ++ [bd], some ⟨H6.next, 0, none⟩, bs.length + 1, rfl, rfl, by omega, by simp, (by simp only [sG, Nat.reduceEqDiff, t4] <;> rfl), (by simp only [sG, Nat.reduceEqDiff, t5] <;> rfl), (by simp only [sG, Nat.reduceEqDiff, t10] <;> rfl), (by simp only [sG, Nat.reduceEqDiff, t11] <;> rfl), (by simp only [sB, Nat.reduceEqDiff] <;> rfl), by rw [get_put, if_neg (by omega)]; exact g47, by rw [get_put, if_pos rfl],
    by rw [← List.take_append_getElem hlt]; exact z86 hsub hbi, hobl7.to (fun n hn hl => ⟨by rw [get_put, if_neg (by omega)], by rw [z07]; exact hl⟩) fun n hn => ⟨hn.1, by rw [z07, hn7]; exact hn.2⟩, hx7.pt (by omega) g57 _⟩
  | none =>
   obtain ⟨Hq, eq⟩ : ∃ Hq, (⟨H4.next + 8, H4.t⟩ : Heap).put (H4.next + 4) (some (.row zero8 30)) = Hq := ⟨_, rfl⟩
   have hxq : HX G Hq := by rw [← eq]; exact hxb.put (by omega) (by show _ < H4.next + 8; omega) _
   have gq : Hq.get (H4.next + 4) = some (.row zero8 30) := by rw [← eq, get_put, if_pos rfl]
   obtain ⟨H7, e7, -, hk7, -⟩ := OBL.push (N := fun _ => False) (S2 := fun _ => True) (u := zeroB) (c1 := 1) apB (hobl.keep hxq) hxq.wf (ld1 gq rfl) (OB.nil (by decide)) (fun _ h => h.elim) (fun _ h => h.elim) (fun n hn => by have := hn.2; have := hxq.next; omega) (by unfold most; omega) (fun _ _ => trivial)
   have g57 := hk7.get hxq.wf (hxq.get hwG g5G) (fun hs => by have := hs.1; omega)
   (repeat refine EvC.seq ?_); refine EvC.drwP 3 _ [(2, 0)] [([(0, 0), (1, 0), (4, 1)], some 5), ([(6, 2)], some 7), ([], none)] (by kernel_rfl) (by kernel_rfl) rfl rfl ?_; simp (config := { maxSteps := 2000000 }) (disch := first | omega | rfl) only [sV, sD, sB, Nat.reduceEqDiff, Nat.reduceAdd, Value.cells, one, reduceCtorEq, layC, ld25, z3v, ld28, cl27, zm6, st28, isAlloc, isRead, dalloc, reduceCtorEq, zj8, t5, q7, q54, zl6, eq, e7, g57]
   refine EvG.toP (hb hsi.1 (hr1.mono (hxG.trans hxb) hw) hsi.2 hxb.wf) ?_
   rintro e H5 ⟨hx5, he⟩
   rw [hbi] at he
   refine ⟨_, he, And.intro rfl ⟨(hxG.trans hxb).trans hx5, ?_⟩⟩
   rw [show subBF (bodyF m) k l = none from by unfold subBF; rw [zc6 (List.getElem_mem _) hbi]; rfl]
 ·rintro st ⟨tm, G, bs, ao, co, rfl, t4, t5, g4G, g5G, hsub, hobl, hxG⟩
  have q5 := row8 g5G
  repeat' (first | refine EvC.seq ?_ | refine EvC.scope ?_ | refine EvC.block ?_ | (refine EvC.skip ?_) | (refine EvC.exit ?_) | (refine EvC.ret ?_; try simp only [z01, z00]) | (refine EvC.reg ?_; simp (config := { maxSteps := 2000000 }) (disch := first | omega | rfl) only [sB, Nat.reduceEqDiff, Nat.reduceAdd, one, st30, ld30, t4, t5, q5, g4G]))
  refine z0x (z0a rfl (by simp only [sB, Nat.reduceEqDiff, t4] <;> rfl) (by simp only [sB, Nat.reduceAdd, cutC, ld30] <;> rfl) ⟨hxG.pt (Nat.le_refl _) g4G _, ?_⟩)
  rw [show subBF (bodyF m) k l = some (.mk k zeroT bs) from by unfold subBF; rw [hsub]; rfl]
  refine ⟨_, rfl, OBL.mk (ts := six zeroT none 0) (hobl.to (fun n hn hl => ⟨by rw [get_put, if_neg (by omega)], by rw [z07]; exact hl⟩) fun n hn => ⟨by omega, by rw [z07]; exact hn.2⟩) hk (RepS.leaf zdf rfl (Nat.zero_le _) (fun _ => rfl)) rfl⟩
theorem zjg : ∀ (l : List Tm), (∀ t ∈ l, ∀ n, n + nd t ≤ 4000 → cnt t n = n + nd t) → ∀ n, n + nd.ndL l ≤ 4000 → cntL l n = n + nd.ndL l
 | [], _, n, _ => by rw [cntL, nd.ndL]; rfl
 | t :: l, h, n, hn => by
  rw [nd.ndL] at hn ⊢
  rw [cntL, if_neg (by omega), h t (by simp) n (by omega), zjg l (fun u hu => h u (List.mem_cons_of_mem _ hu)) _ (by omega)]
  omega
theorem z3p : ∀ (m : Nat) (t : Tm), SizeOf.sizeOf t < m → ∀ n, n + nd t ≤ 4000 → cnt t n = n + nd t
 | 0, _, h, _, _ => by omega
 | m + 1, t, h, n, hn => by
  rw [z1x] at hn ⊢
  rw [z4c, zjg _ (fun u hu k => z3p m u (by have := z0d hu; omega) k) _ (by omega)]; omega
theorem zjh : ∀ {l : List Tm} {u : Tm}, u ∈ l → nd u ≤ nd.ndL l
 | t :: l, u, h => by
  rw [nd.ndL]
  rcases List.mem_cons.1 h with rfl | h
  ·omega
  ·have := zjh h; omega
theorem z0y {t u : Tm} (h : checkS t = 0) (hu : u ∈ t.args) : checkS u = 0 := by
 have h1 := z0e.1 h
 have h2 := z91 _ t (Nat.lt_succ_self _) 0 h1.1
 have h3 := zjh hu
 have h4 := z1x t
 have h5 := z3p _ u (Nat.lt_succ_self _) 0 (by omega)
 exact z0e.2 ⟨by omega, h1.2.args u hu⟩
theorem za5 {H : Heap} {b o n : Nat} {l : List Value} (hw : H.wf) (h : H.load ⟨b, o, none⟩ n = some l) : b < H.next := by
 unfold Heap.load Heap.cells at h
 simp only at h
 cases hg : H.get b with
 | none => rw [hg] at h; cases h
 | some B => exact hw b B hg
theorem neu (n : Nat) : (n = n + 1) = False := by simp
theorem neu' (n : Nat) : (n + 1 = n) = False := by simp
theorem zmf : mkiOk Tryd.prog 62 = true := by kernel_rfl
set_option maxHeartbeats 8000000 in
theorem zgt {m : Nat} (hb : BodyP m) {t : Tm} {cs : List Value} {H : Heap} (hs : SizeOf.sizeOf t < m + 1) (r : RepT H t cs) (h2 : t.args.length = 2) (hc : checkS t = 0) (hw : H.wf) :
  EvG Tryd.prog okT 49 [.agg ⟨cs⟩] H (BodyEnd H (withinF (bodyF m) t)) := by
 have r0 := r
 obtain ⟨a, c, cells, rfl, -, -, -, -, -, rl⟩ := r.six
 obtain ⟨x, y, hxy⟩ : ∃ x y, t.args = [x, y] := by
  match hl : t.args, h2 with
  | [x, y], _ => exact ⟨x, y, rfl⟩
 have ex : t.at 0 = x := by unfold Tm.at; rw [hxy]; rfl
 have ey : t.at 1 = y := by unfold Tm.at; rw [hxy]; rfl
 have g0 : t.args[0]'(by omega) = x := by simp [hxy]
 have g1 : t.args[1]'(by omega) = y := by simp [hxy]
 obtain ⟨b, o, a1, c1, rfl, hld0, hr0⟩ := rl.el (i := 0) (by omega)
 obtain ⟨b', o', a2, c2, e2, hld1, hr1⟩ := rl.el (i := 1) (by omega)
 cases e2
 rw [g0] at hld0 hr0
 rw [g1] at hld1 hr1
 simp only [Nat.zero_mul, Nat.add_zero, Nat.one_mul] at hld0 hld1
 have hcx := z0y hc (u := x) (by rw [hxy]; simp)
 have hcy := z0y hc (u := y) (by rw [hxy]; simp)
 have hsy : SizeOf.sizeOf y < SizeOf.sizeOf t := z0d (by rw [hxy]; simp)
 refine EvG.enter rfl Tryd.func49 (by decide) rfl ?_
 (repeat refine EvC.seq ?_); refine EvC.reg ?_; simp (config := { maxSteps := 2000000 }) (disch := first | omega | rfl) only [sB, initTm, dBox, dAlloc, Value.cells, one, zr30]
 obtain ⟨H2, e2, hx2, gt, gq, hn2, hw2⟩ := new2 hw (.row (six t (some ⟨b, o, none⟩) c) 25) (.row zero8 30)
 simp only [e2]
 clear e2
 have qt := row6 gt
 have l0 := hx2.load hw hld0
 have l1 := hx2.load hw hld1
 have hbl := za5 hw2 l0
 have b8 : (b = H2.next + 8) = False := by simp; omega
 have b9 : (b = H2.next + 9) = False := by simp; omega
 have h8 : (H.next = H2.next + 8) = False := by simp; omega
 have h9 : (H.next = H2.next + 9) = False := by simp; omega
 (repeat refine EvC.seq ?_)
 refine EvC.meet (fun st => ∃ tm G, st = ⟨tm, [], G⟩ ∧ tm.get 1 = some (.pointer (some ⟨H.next, 0, none⟩)) ∧ tm.get 2 = some (.pointer (some ⟨H.next + 1, 0, none⟩)) ∧ tm.get 3 = some (.pointer (some ⟨H2.next + 8, 0, none⟩)) ∧ tm.get 4 = some (.pointer (some ⟨H2.next + 9, 0, none⟩)) ∧
  G.get (H2.next + 8) = some (.row (six x a1 c1) 25) ∧ G.get (H2.next + 9) = some (.row (six y a2 c2) 25) ∧ HX H2 G) ?_ ?_
 ·(repeat refine EvC.seq ?_); refine EvC.drw [([(0, 0), (1, 0), (2, 0), (3, 0), (8, 0), (9, 0)], some 10), ([(4, 0), (5, 0), (6, 0), (7, 0)], some 11), ([], none)] (by kernel_rfl) ?_; simp (config := { maxSteps := 2000000 }) (disch := first | omega | rfl) only [sV, sD, sB, dAlloc, Nat.reduceEqDiff, Nat.reduceAdd, one, reduceCtorEq, cutC, Int.reduceToNat, z0v, ld23, ld25, zr25, st25, isAlloc, isRead, dalloc, reduceCtorEq, qt, l0, l1, iz23, Nat.zero_mul, Nat.one_mul, neu, neu', b8, b9, h8, h9]
  have hxb := (HX.refl hw2).bump 12
  refine ⟨_, _, rfl, (by simp only [sG, Nat.reduceEqDiff, reduceCtorEq] <;> rfl), (by simp only [sG, Nat.reduceEqDiff, reduceCtorEq] <;> rfl), (by simp only [sG, Nat.reduceEqDiff, reduceCtorEq] <;> rfl), (by simp only [sG, Nat.reduceEqDiff, reduceCtorEq] <;> rfl), by rw [get_put, if_neg (by omega), get_put, if_pos rfl], by rw [get_put, if_pos rfl],
   (((hxb.put (i := H2.next + 8) (by omega) (by show _ < H2.next + 12; omega) _).put (i := H2.next + 9) (by omega) (by show _ < H2.next + 12; omega) _).put (i := H2.next + 8) (by omega) (by show _ < H2.next + 12; omega) _).put (i := H2.next + 9) (by omega) (by show _ < H2.next + 12; omega) _⟩
 rintro st ⟨tm, G, rfl, t1, t2, t3, t4, gx, gy, hx3⟩
 have qx := row6 gx
 have qy := row6 gy
 have gt3 := hx3.get hw2 gt
 have gq3 := hx3.get hw2 gq
 have n3 := hx3.next
 have hxG := hx2.trans hx3
 have hwG := hxG.wf
 have lx := hwG _ _ gx
 have lyy := hwG _ _ gy
 have qt3 := row6 gt3
 simp only [z02]
 (repeat refine EvC.seq ?_)
 refine EvC.join (fun st => ∃ tm', st = ⟨tm', [], G⟩ ∧ tm'.get 1 = some (.pointer (some ⟨H.next, 0, none⟩)) ∧ tm'.get 2 = some (.pointer (some ⟨H.next + 1, 0, none⟩)) ∧ tm'.get 3 = some (.pointer (some ⟨H2.next + 8, 0, none⟩)) ∧ tm'.get 4 = some (.pointer (some ⟨H2.next + 9, 0, none⟩)) ∧
  ¬ (isNum (t.at 1) ∨ ((t.at 0).kind ≠ 2 ∧ (t.at 0).kind ≠ 1)) ∧ ¬ ((t.at 0).kind = 1 ∨ (t.at 1).kind = 1)) ?_ ?_
 ·rw [ex, ey]
  refine EvC.block ?_
  obtain ⟨bb, hbb⟩ : ∃ bb : Bool, (bb = true ↔ (isNum y ∨ (x.kind ≠ 2 ∧ x.kind ≠ 1))) := ⟨decide (isNum y ∨ (x.kind ≠ 2 ∧ x.kind ≠ 1)), decide_eq_true_iff⟩
  (repeat refine EvC.seq ?_)
  refine EvC.meet (fun st => ∃ tm', st = ⟨tm', [], G⟩ ∧ tm'.get 1 = some (.pointer (some ⟨H.next, 0, none⟩)) ∧ tm'.get 2 = some (.pointer (some ⟨H.next + 1, 0, none⟩)) ∧ tm'.get 3 = some (.pointer (some ⟨H2.next + 8, 0, none⟩)) ∧ tm'.get 4 = some (.pointer (some ⟨H2.next + 9, 0, none⟩)) ∧ tm'.get 14 = some (.bool bb)) ?_ ?_
  ·by_cases y3 : y.kind = 3
   ·have hb' : bb = true := hbb.2 (.inl (.inl y3))
    (repeat refine EvC.seq ?_); refine EvC.reg ?_; simp (config := { maxSteps := 2000000 }) (disch := first | omega | rfl) only [sB, Nat.reduceEqDiff, z0m, ld3, t4, qy, z0r y3]
    exact ⟨_, rfl, (by simp only [sG, Nat.reduceEqDiff, t1] <;> rfl), (by simp only [sG, Nat.reduceEqDiff, t2] <;> rfl), (by simp only [sG, Nat.reduceEqDiff, t3] <;> rfl), (by simp only [sG, Nat.reduceEqDiff, t4] <;> rfl), by rw [hb']; first | (simp only [sG, Nat.reduceEqDiff]; rfl) | simp only [sG, Nat.reduceEqDiff]⟩
   by_cases y4 : y.kind = 4
   ·have hb' : bb = true := hbb.2 (.inl (.inr y4))
    (repeat refine EvC.seq ?_); refine EvC.reg ?_; simp (config := { maxSteps := 2000000 }) (disch := first | omega | rfl) only [sB, Nat.reduceEqDiff, z0m, ld3, t4, qy, z0t y3, z0r y4, Bool.false_eq_true]
    exact ⟨_, rfl, (by simp only [sG, Nat.reduceEqDiff, t1] <;> rfl), (by simp only [sG, Nat.reduceEqDiff, t2] <;> rfl), (by simp only [sG, Nat.reduceEqDiff, t3] <;> rfl), (by simp only [sG, Nat.reduceEqDiff, t4] <;> rfl), by rw [hb']; first | (simp only [sG, Nat.reduceEqDiff]; rfl) | simp only [sG, Nat.reduceEqDiff]⟩
   have hn : ¬ isNum y := fun h => by rcases h with h | h; exact y3 h; exact y4 h
   by_cases x2 : x.kind = 2
   ·have hb' : bb = false := by
     cases hq : bb with
     | false => rfl
     | true => rcases hbb.1 hq with h | h; exact absurd h hn; exact absurd x2 h.1
    (repeat refine EvC.seq ?_); refine EvC.reg ?_; simp (config := { maxSteps := 2000000 }) (disch := first | omega | rfl) only [sB, Nat.reduceEqDiff, z0m, ld3, t3, t4, qx, qy, z0t y3, z0t y4, z1m x2, Bool.false_eq_true]
    exact ⟨_, rfl, (by simp only [sG, Nat.reduceEqDiff, t1] <;> rfl), (by simp only [sG, Nat.reduceEqDiff, t2] <;> rfl), (by simp only [sG, Nat.reduceEqDiff, t3] <;> rfl), (by simp only [sG, Nat.reduceEqDiff, t4] <;> rfl), by rw [hb']; first | (simp only [sG, Nat.reduceEqDiff]; rfl) | simp only [sG, Nat.reduceEqDiff]⟩
   by_cases x1 : x.kind = 1
   ·have hb' : bb = false := by
     cases hq : bb with
     | false => rfl
     | true => rcases hbb.1 hq with h | h; exact absurd h hn; exact absurd x1 h.2
    (repeat refine EvC.seq ?_); refine EvC.reg ?_; simp (config := { maxSteps := 2000000 }) (disch := first | omega | rfl) only [sB, Nat.reduceEqDiff, z0m, ld3, t3, t4, qx, qy, z0t y3, z0t y4, z4k x2, z1m x1, Bool.false_eq_true]
    exact ⟨_, rfl, (by simp only [sG, Nat.reduceEqDiff, t1] <;> rfl), (by simp only [sG, Nat.reduceEqDiff, t2] <;> rfl), (by simp only [sG, Nat.reduceEqDiff, t3] <;> rfl), (by simp only [sG, Nat.reduceEqDiff, t4] <;> rfl), by rw [hb']; first | (simp only [sG, Nat.reduceEqDiff]; rfl) | simp only [sG, Nat.reduceEqDiff]⟩
   ·have hb' : bb = true := hbb.2 (.inr ⟨x2, x1⟩)
    (repeat refine EvC.seq ?_); refine EvC.reg ?_; simp (config := { maxSteps := 2000000 }) (disch := first | omega | rfl) only [sB, Nat.reduceEqDiff, z0m, ld3, t3, t4, qx, qy, z0t y3, z0t y4, z4k x2, z4k x1, Bool.false_eq_true]
    exact ⟨_, rfl, (by simp only [sG, Nat.reduceEqDiff, t1] <;> rfl), (by simp only [sG, Nat.reduceEqDiff, t2] <;> rfl), (by simp only [sG, Nat.reduceEqDiff, t3] <;> rfl), (by simp only [sG, Nat.reduceEqDiff, t4] <;> rfl), by rw [hb']; first | (simp only [sG, Nat.reduceEqDiff]; rfl) | simp only [sG, Nat.reduceEqDiff]⟩
  rintro st ⟨tm, rfl, t1, t2, t3, t4, t14⟩
  simp only [z02]
  cases bb with
  | true =>
   have hw' : withinF (bodyF m) t = none := by unfold withinF; rw [ex, ey, if_pos (hbb.1 rfl)]
   refine EvC.condT (by simp only [sA, t14] <;> rfl) ?_
   (repeat refine EvC.seq ?_); refine EvC.regP 2 _ rfl rfl ?_; simp (config := { maxSteps := 2000000 }) (disch := first | omega | rfl) only [sB, Nat.reduceEqDiff, Value.cells, layC, bd62, zfa, z11, z84 zmf, zc3, z94]
   refine And.intro rfl ⟨hxG, ?_⟩
   rw [hw']; rfl
  | false =>
   have hnb : ¬ (isNum y ∨ (x.kind ≠ 2 ∧ x.kind ≠ 1)) := fun h => by have := hbb.2 h; cases this
   refine EvC.condF (by simp only [sA, t14] <;> rfl) ?_
   by_cases hcl : x.kind = 1 ∨ y.kind = 1
   ·have hw' : withinF (bodyF m) t = some (callB t) := by unfold withinF; rw [ex, ey, if_neg hnb, if_pos hcl]
    (repeat refine EvC.seq ?_)
    refine EvC.meet (fun st => ∃ tm', st = ⟨tm', [], G⟩ ∧ tm'.get 1 = some (.pointer (some ⟨H.next, 0, none⟩)) ∧ tm'.get 2 = some (.pointer (some ⟨H.next + 1, 0, none⟩)) ∧ tm'.get 35 = some (.bool true)) ?_ ?_
    ·by_cases x1 : x.kind = 1
     ·(repeat refine EvC.seq ?_); refine EvC.reg ?_; simp (config := { maxSteps := 2000000 }) (disch := first | omega | rfl) only [sB, Nat.reduceEqDiff, z0m, ld3, t3, qx, z0r x1]
      exact ⟨_, rfl, (by simp only [sG, Nat.reduceEqDiff, t1] <;> rfl), (by simp only [sG, Nat.reduceEqDiff, t2] <;> rfl), by first | (simp only [sG, Nat.reduceEqDiff]; rfl) | simp only [sG, Nat.reduceEqDiff]⟩
     ·have y1 := hcl.resolve_left x1
      (repeat refine EvC.seq ?_); refine EvC.reg ?_; simp (config := { maxSteps := 2000000 }) (disch := first | omega | rfl) only [sB, Nat.reduceEqDiff, z0m, ld3, t3, t4, qx, qy, z0t x1, z0r y1, Bool.false_eq_true]
      exact ⟨_, rfl, (by simp only [sG, Nat.reduceEqDiff, t1] <;> rfl), (by simp only [sG, Nat.reduceEqDiff, t2] <;> rfl), by first | (simp only [sG, Nat.reduceEqDiff]; rfl) | simp only [sG, Nat.reduceEqDiff]⟩
    rintro st ⟨tm, rfl, t1, t2, t35⟩
    simp only [z02]
    refine EvC.condT (by simp only [sA, t35] <;> rfl) ?_
    (repeat refine EvC.seq ?_); refine EvC.reg ?_; simp (config := { maxSteps := 2000000 }) (disch := first | omega | rfl) only [sB, Nat.reduceEqDiff, ld25, cl48, t1, qt3]
    refine (zc5 (r0.mono hxG hw) hc hwG).mono ?_
    rintro v H5 ⟨hx5, out, rfl, hob⟩
    obtain ⟨ta, tc, sa, sc, rfl⟩ := hob.rep.eight
    have gq5 := hx5.get hwG gq3
    have n5 := hx5.next
    have nG := hxG.next
    repeat' (first | refine EvC.seq ?_ | refine EvC.scope ?_ | refine EvC.block ?_ | (refine EvC.skip ?_) | (refine EvC.exit ?_) | (refine EvC.ret ?_; try simp only [z01, z00]) | (refine z0q ?_; simp (config := { maxSteps := 2000000 }) (disch := first | omega | rfl) only [sB, Nat.reduceAdd, one, st30, t2, gq5]))
    refine z0x (z0a rfl (by simp only [sB, Nat.reduceEqDiff, t2] <;> rfl) (by simp only [sB, Nat.reduceAdd, cutC, ld30] <;> rfl) ⟨(hxG.trans hx5).pt (by omega) gq5 _, ?_⟩)
    rw [hw']
    exact ⟨_, rfl, hob.to (fun n hn hl => ⟨by have := hn.1; rw [get_put, if_neg (by omega)], by rw [z07]; exact hl⟩) fun n hn => ⟨by have := hn.1; omega, by rw [z07]; exact hn.2⟩⟩
   have x1 : ¬ x.kind = 1 := fun h => hcl (.inl h)
   have y1 : ¬ y.kind = 1 := fun h => hcl (.inr h)
   repeat' (first | refine EvC.seq ?_ | refine EvC.scope ?_ | refine EvC.block ?_ | (refine EvC.skip ?_; try simp only [sA]) | (refine EvC.exit ?_) | (refine EvC.ret ?_; try simp only [z01, z00]) | (refine EvC.reg ?_; simp (config := { maxSteps := 2000000 }) (disch := first | omega | rfl) only [sB, Nat.reduceEqDiff, z0m, ld3, t3, t4, qx, qy, z0t x1, z0t y1, Bool.false_eq_true]) | (refine EvC.condT ?_ ?_; simp (config := { maxSteps := 2000000 }) (disch := first | omega | rfl) only [sB, Nat.reduceEqDiff]; refine z04 ?_) | (refine EvC.condF ?_ ?_; simp (config := { maxSteps := 2000000 }) (disch := first | omega | rfl) only [sB, Nat.reduceEqDiff]; refine z04 ?_))
   exact ⟨_, rfl, (by simp only [sG, Nat.reduceEqDiff, t1] <;> rfl), (by simp only [sG, Nat.reduceEqDiff, t2] <;> rfl), (by simp only [sG, Nat.reduceEqDiff, t3] <;> rfl), (by simp only [sG, Nat.reduceEqDiff, t4] <;> rfl), hnb, fun h => by rcases h with h | h; exact x1 h; exact y1 h⟩
 rw [ex, ey]
 rintro st ⟨tm, rfl, t1, t2, t3, t4, hnb, hnc⟩
 have hwi : withinF (bodyF m) t = (bodyF m y).map fun b => .mk 7 x [b] := by unfold withinF; rw [ex, ey, if_neg hnb, if_neg hnc]
 rw [hwi]
 have hx2k : x.kind = 2 := by
  by_cases h : x.kind = 2
  ·exact h
  ·exact absurd (.inr ⟨h, fun h' => hnc (.inl h')⟩) hnb
 have hxa : x.args = [] := by
  have k := z1w (z0e.1 hcx).2.node
  exact (z1s k.2.2.1).2.2.2.2 (by omega)
 obtain ⟨H4, e4, hx4, g4, hn4, hw4⟩ := new1 hwG (.row (six y a2 c2) 25)
 have hyG := (hr1.mono hxG hw).mono hx4 hwG
 have rly : RepL H4 [y] (some ⟨G.next, 0, none⟩) 1 (fun _ => six y a2 c2) := RepL.of_row g4 (fun i hi => by
   match i, hi with
   | 0, _ => rfl) (fun i u hu => by
   match i, hu with
   | 0, hu => cases hu; exact hyG) (Nat.le_refl _) (by decide)
 have hsub := z87 hb (k := 7) (by decide) rly (by show 1 ≤ 64; decide) (fun u hu => by
  rw [List.mem_singleton] at hu
  subst hu
  exact ⟨by omega, hcy⟩) hw4
 have es : subBF (bodyF m) 7 [y] = (bodyF m y).map fun b => .mk 7 zeroT [b] := by
  unfold subBF
  rw [subBL]
  cases bodyF m y <;> rfl
 cases hby : bodyF m y with
 | none =>
  rw [es, hby] at hsub
  (repeat refine EvC.seq ?_); refine EvC.regP 2 _ rfl rfl ?_; simp (config := { maxSteps := 2000000 }) (disch := first | omega | rfl) only [sB, Nat.reduceEqDiff, Nat.reduceAdd, Value.cells, one, layC, ld25, zbj, cl50, z63, t4, qy]
  simp only [e4]
  refine EvG.toP hsub ?_
  rintro e H5 ⟨hx5, he⟩
  exact ⟨_, he, And.intro rfl ⟨(hxG.trans hx4).trans hx5, rfl⟩⟩
 | some bd =>
  rw [es, hby] at hsub
  (repeat refine EvC.seq ?_); refine EvC.reg ?_; simp (config := { maxSteps := 2000000 }) (disch := first | omega | rfl) only [sB, dAlloc, Nat.reduceEqDiff, Nat.reduceAdd, Value.cells, one, layC, zr30, ld25, zbj, cl50, t4, qy]
  simp only [e4]
  refine EvG.toF hsub ?_
  rintro e H5 ⟨hx5, out, he, hob⟩
  obtain ⟨ts, sa, sc, rfl, hts, hobl⟩ := hob.parts
  obtain ⟨a5, c5, cells5, rfl, -⟩ := hts.six
  have he : e = .ret (.agg ⟨eightT 7 zeroT a5 c5 sa 1 sc⟩) := he
  refine ⟨_, he, ?_⟩
  try simp (config := { maxSteps := 2000000 }) (disch := first | omega | rfl) only [sB, Nat.reduceAdd, one, st30]
  obtain ⟨H6, e6, hx6, g6, hn6, hw6⟩ := z0l hx5.wf (.row zero8 30) (.row (eightT 7 zeroT a5 c5 sa 1 sc) 30)
  simp only [e6]
  clear e6
  have q6 := row8 g6
  have n5 := hx5.next
  have hx46 := hx5.trans hx6
  have gx6 := hx46.get hw4 (hx4.get hwG gx)
  have qx6 := row6 gx6
  have gq6 := hx46.get hw4 (hx4.get hwG gq3)
  have nG := hxG.next
  have ne5 : (H.next + 1 = H5.next) = False := by simp; omega
  repeat' (first | refine EvC.seq ?_ | refine EvC.scope ?_ | refine EvC.block ?_ | (refine EvC.skip ?_) | (refine EvC.exit ?_) | (refine EvC.ret ?_; try simp only [z01, z00]) | (refine EvC.reg ?_; simp (config := { maxSteps := 2000000 }) (disch := first | omega | rfl) only [sB, Nat.reduceEqDiff, Nat.reduceAdd, one, cutC, Nat.reduceLeDiff, ld25, st25, st30, z8v, ld30, t2, t3, qx6, q6, g6, gq6, ne5]))
  have hxf := ((hxG.trans hx4).trans hx46)
  refine z0x (z0a rfl (by simp only [sB, Nat.reduceEqDiff, t2] <;> rfl) (by simp only [sB, Nat.reduceAdd, cutC, ld30] <;> rfl) ⟨(hxf.pt (i := H5.next) (by omega) g6 _).pt (by omega) (by rw [get_put, if_neg (by omega)]; exact gq6) _, ?_⟩)
  obtain ⟨ax, cx, cellsx, ee, -, -, -, -, -, rlx⟩ := hr0.six
  obtain ⟨-, -, -, -, -, rfl, rfl⟩ := za0 ee
  refine ⟨_, rfl, OBL.mk (k := 7) (t := x) (ts := six x a1 c1) (hobl.to (fun n hn hl => ?_) fun n hn => ?_) (by decide) (RepS.leaf hr0.bd hxa rlx.cap fun h => (rlx.nil h).2) hxa⟩
  ·have : H4.next ≤ n := hn.1
   rw [get_put, if_neg (by omega), get_put, if_neg (by omega)]
   exact ⟨hx6.keep n hl, by rw [z07, z07]; omega⟩
  ·have : H4.next ≤ n := hn.1
   exact ⟨by omega, by rw [z07, z07]; have := hn.2; omega⟩
theorem ldA5 {H : Heap} {b o : Nat} {x0 x1 x2 x3 x4 x5 : Value} (h : H.load ⟨b, o, none⟩ 6 = some [x0, x1, x2, x3, x4, x5]) : H.load ⟨b, o + 5, none⟩ 1 = some [x5] := by
 unfold Heap.load at h ⊢
 simp only at h ⊢
 cases hc : H.cells b with
 | none => rw [hc] at h; cases h
 | some cs =>
  rw [hc] at h
  simp only at h ⊢
  split at h
  ·rename_i hb
   simp only [Option.some.injEq] at h
   have e : (cs.drop (o + 5)).take 1 = [x5] := by
    have : ((cs.drop o).take 6).drop 5 = [x5] := by rw [h]; rfl
    rw [List.drop_take, List.drop_drop] at this
    exact this
   rw [e]; rfl
  ·cases h
theorem zji {m : Nat} {t : Tm} (h : isNum t) : bodyF (m + 1) t = none := by rw [bodyF, if_pos h]
set_option maxHeartbeats 16000000 in
theorem zjj {m : Nat} (hb : BodyP m) {t : Tm} {cs : List Value} {H : Heap} (hs : SizeOf.sizeOf t < m + 1) (r : RepT H t cs) (hc : checkS t = 0) (hw : H.wf) :
  EvG Tryd.prog okT 27 [.agg ⟨cs⟩] H (BodyEnd H (bodyF (m + 1) t)) := by
  have r0 := r
  have hf := (z0e.1 hc).2
  have hfew := z4e hf
  have hlf : ∀ {u : Tm}, u ∈ t.args → SizeOf.sizeOf u < m ∧ checkS u = 0 := fun hu => ⟨by have := z0d hu; omega, z0y hc hu⟩
  obtain ⟨a, c, cells, rfl, -, -, -, -, -, rl⟩ := r.six
  refine EvG.enter rfl Tryd.func27 (by decide) rfl ?_
  (repeat refine EvC.seq ?_); refine EvC.reg ?_; simp (config := { maxSteps := 2000000 }) (disch := first | omega | rfl) only [sB, initTm, dBox, dAlloc, Value.cells, one, zr30]
  obtain ⟨H2, e2, hx, gt, gq, hn2, hw2⟩ := new2 hw (.row (six t a c) 25) (.row zero8 30)
  simp only [e2]
  clear e2
  have qt := row6 gt
  have lt := hw2 _ _ gq
  (repeat refine EvC.seq ?_)
  refine EvC.join (fun st => ∃ tm G, st = ⟨tm, [], G⟩ ∧ tm.get 1 = some (.pointer (some ⟨H.next, 0, none⟩)) ∧ tm.get 2 = some (.pointer (some ⟨H.next + 1, 0, none⟩)) ∧ G.get H.next = some (.row (six t a c) 25) ∧ G.get (H.next + 1) = some (.row zero8 30) ∧ HX H G ∧
   bodyF (m + 1) t = some (.mk 3 t [])) ?_ ?_
  rotate_left
  ·rintro st ⟨tm, G, rfl, t1, t2, gt, gq, hx, hbd⟩
   have qt := row6 gt
   (repeat refine EvC.seq ?_); refine EvC.reg ?_; simp (config := { maxSteps := 2000000 }) (disch := first | omega | rfl) only [sB, Nat.reduceEqDiff, Nat.reduceAdd, Value.cells, one, Nat.reduceLeDiff, layC, ld25, bd30, cl37, t1, qt]
   refine (z85 (r0.mono hx hw) hc hx.wf).mono ?_
   rintro v H5 ⟨hx5, out, rfl, hot⟩
   obtain ⟨ta, tc, cellst, rfl, -⟩ := hot.rep.six
   have gq5 := hx5.get hx.wf gq
   have n5 := hx5.next
   have nx := hx.next
   have lq := hx.wf _ _ gq
   repeat' (first | refine EvC.seq ?_ | refine EvC.scope ?_ | refine EvC.block ?_ | (refine EvC.skip ?_) | (refine EvC.exit ?_) | (refine EvC.ret ?_; try simp only [z01, z00]) | (refine z0q ?_; simp (config := { maxSteps := 2000000 }) (disch := first | omega | rfl) only [sB, Nat.reduceEqDiff, Nat.reduceAdd, one, Nat.reduceLeDiff, st30, t2, gq5]))
   refine z0x (z0a rfl (by simp only [sB, Nat.reduceEqDiff, t2] <;> rfl) (by simp only [sB, Nat.reduceAdd, cutC, ld30] <;> rfl) ⟨(hx.trans hx5).pt (by omega) gq5 _, ?_⟩)
   rw [hbd]
   have hot' : OT (H5.put (H.next + 1) (some (.row (eightT 3 t ta tc none 0 0) 30))) (Rg H.next H5.next) t (six t ta tc) := hot.to fun n hn hl => ⟨by have := hn.1; rw [get_put, if_neg (by omega)], ⟨by have := hn.1; omega, hl⟩, by rw [z07]; exact hl⟩
   exact ⟨_, rfl, .leaf _ 3 t (six t ta tc) (by decide) hot'.1 hot'.2⟩
  refine EvC.block ?_
  (repeat refine EvC.seq ?_)
  refine EvC.meet (fun st => ∃ tm', st = ⟨tm', [], H2⟩ ∧ tm'.get 1 = some (.pointer (some ⟨H.next, 0, none⟩)) ∧ tm'.get 2 = some (.pointer (some ⟨H.next + 1, 0, none⟩)) ∧ tm'.get 3 = some (.bool (decide (isNum t)))) ?_ ?_
  ·by_cases n3 : t.kind = 3
   ·have hd : decide (isNum t) = true := decide_eq_true (.inl n3)
    (repeat refine EvC.seq ?_); refine EvC.reg ?_; simp (config := { maxSteps := 2000000 }) (disch := first | omega | rfl) only [sB, Nat.reduceEqDiff, reduceCtorEq, z0m, ld3, qt, z0r n3]
    exact ⟨_, rfl, (by simp only [sG, Nat.reduceEqDiff, reduceCtorEq] <;> rfl), (by simp only [sG, Nat.reduceEqDiff, reduceCtorEq] <;> rfl), by rw [hd]; first | (simp only [sG, Nat.reduceEqDiff, reduceCtorEq]; rfl) | simp only [sG, Nat.reduceEqDiff, reduceCtorEq]⟩
   by_cases n4 : t.kind = 4
   ·have hd : decide (isNum t) = true := decide_eq_true (.inr n4)
    (repeat refine EvC.seq ?_); refine EvC.reg ?_; simp (config := { maxSteps := 2000000 }) (disch := first | omega | rfl) only [sB, Nat.reduceEqDiff, reduceCtorEq, z0m, ld3, qt, z0t n3, z0r n4, Bool.false_eq_true]
    exact ⟨_, rfl, (by simp only [sG, Nat.reduceEqDiff, reduceCtorEq] <;> rfl), (by simp only [sG, Nat.reduceEqDiff, reduceCtorEq] <;> rfl), by rw [hd]; first | (simp only [sG, Nat.reduceEqDiff, reduceCtorEq]; rfl) | simp only [sG, Nat.reduceEqDiff, reduceCtorEq]⟩
   ·have hd : decide (isNum t) = false := decide_eq_false fun h => by rcases h with h | h; exact n3 h; exact n4 h
    (repeat refine EvC.seq ?_); refine EvC.reg ?_; simp (config := { maxSteps := 2000000 }) (disch := first | omega | rfl) only [sB, Nat.reduceEqDiff, reduceCtorEq, z0m, ld3, qt, z0t n3, z0t n4, Bool.false_eq_true]
    exact ⟨_, rfl, (by simp only [sG, Nat.reduceEqDiff, reduceCtorEq] <;> rfl), (by simp only [sG, Nat.reduceEqDiff, reduceCtorEq] <;> rfl), by rw [hd]; first | (simp only [sG, Nat.reduceEqDiff, reduceCtorEq]; rfl) | simp only [sG, Nat.reduceEqDiff, reduceCtorEq]⟩
  rintro st ⟨tm, rfl, t1, t2, t3⟩
  simp only [z02]
  by_cases hn : isNum t
  ·have hd : decide (isNum t) = true := decide_eq_true hn
   refine EvC.condT (by simp only [sA, t3, hd] <;> rfl) ?_
   (repeat refine EvC.seq ?_); refine EvC.regP 2 _ rfl rfl ?_; simp (config := { maxSteps := 2000000 }) (disch := first | omega | rfl) only [sB, Nat.reduceEqDiff, Value.cells, layC, bd62, zfa, z11, z84 zmf, zc3, z94]
   exact And.intro rfl ⟨hx, by rw [zji hn]; rfl⟩
  have hd : decide (isNum t) = false := decide_eq_false hn
  refine EvC.condF (by simp only [sA, t3, hd] <;> rfl) ?_
  refine EvC.frame (fun tm => tm.get 1 = some (.pointer (some ⟨H.next, 0, none⟩)) ∧ tm.get 2 = some (.pointer (some ⟨H.next + 1, 0, none⟩))) ⟨t1, t2⟩ ?_
  clear t1 t2 t3 hd tm
  rintro tm ⟨t1, t2⟩
  by_cases k1 : t.kind = 1
  ·have hbd : bodyF (m + 1) t = some (callB t) := by rw [bodyF, if_neg hn, if_pos k1]
   (repeat refine EvC.seq ?_); refine EvC.reg ?_; simp (config := { maxSteps := 2000000 }) (disch := first | omega | rfl) only [sB, Nat.reduceEqDiff, z0m, ld3, t1, qt, z0r k1]
   (repeat refine EvC.seq ?_); refine EvC.condT (by simp (config := { maxSteps := 2000000 }) (disch := first | omega | rfl) only [sB, Nat.reduceEqDiff]) ?_; (try refine EvC.skip ?_); (try simp only [z02, z03])
   (repeat refine EvC.seq ?_); refine EvC.reg ?_; simp (config := { maxSteps := 2000000 }) (disch := first | omega | rfl) only [sB, Nat.reduceEqDiff, ld25, cl48, t1, qt]
   refine (zc5 (r0.mono hx hw) hc hx.wf).mono ?_
   rintro v H5 ⟨hx5, out, rfl, hob⟩
   obtain ⟨ta, tc, sa, sc, rfl⟩ := hob.rep.eight
   have gq5 := hx5.get hx.wf gq
   have n5 := hx5.next
   have nx := hx.next
   have lq := hx.wf _ _ gq
   repeat' (first | refine EvC.seq ?_ | refine EvC.scope ?_ | refine EvC.block ?_ | (refine EvC.skip ?_) | (refine EvC.exit ?_) | (refine EvC.ret ?_; try simp only [z01, z00]) | (refine z0q ?_; simp (config := { maxSteps := 2000000 }) (disch := first | omega | rfl) only [sB, Nat.reduceAdd, one, st30, t2, gq5]))
   refine z0x (z0a rfl (by simp only [sB, Nat.reduceEqDiff, t2] <;> rfl) (by simp only [sB, Nat.reduceAdd, cutC, ld30] <;> rfl) ⟨(hx.trans hx5).pt (by omega) gq5 _, ?_⟩)
   rw [hbd]
   exact ⟨_, rfl, hob.to (fun n hn hl => ⟨by have := hn.1; rw [get_put, if_neg (by omega)], by rw [z07]; exact hl⟩) fun n hn => ⟨by have := hn.1; omega, by rw [z07]; exact hn.2⟩⟩
  (repeat refine EvC.seq ?_); refine EvC.reg ?_; simp (config := { maxSteps := 2000000 }) (disch := first | omega | rfl) only [sB, Nat.reduceEqDiff, z0m, ld3, t1, qt, z0t k1]
  (repeat refine EvC.seq ?_); refine EvC.condF (by simp (config := { maxSteps := 2000000 }) (disch := first | omega | rfl) only [sB, Nat.reduceEqDiff]) ?_; (try refine EvC.skip ?_); (try simp only [z02, z03])
  refine EvC.frame (fun tm => tm.get 1 = some (.pointer (some ⟨H.next, 0, none⟩)) ∧ tm.get 2 = some (.pointer (some ⟨H.next + 1, 0, none⟩))) ⟨(by simp only [sG, Nat.reduceEqDiff, t1] <;> rfl), (by simp only [sG, Nat.reduceEqDiff, t2] <;> rfl)⟩ ?_
  clear t1 t2 tm
  rintro tm ⟨t1, t2⟩
  by_cases ktrue : t.kind = 2 ∧ t.name = sTrue
  ·have hbd : bodyF (m + 1) t = some (.mk 1 zeroT []) := by rw [bodyF, if_neg hn, if_neg k1, if_pos ktrue]
   (repeat refine EvC.seq ?_); refine EvC.reg ?_; simp (config := { maxSteps := 2000000 }) (disch := first | omega | rfl) only [sB, Nat.reduceEqDiff, z0m, ld3, z2e, ld9, t1, qt, z0r ktrue.1, z2d, zfb ktrue.2]
   (repeat refine EvC.seq ?_); refine EvC.condT (by simp (config := { maxSteps := 2000000 }) (disch := first | omega | rfl) only [sB, Nat.reduceEqDiff]) ?_; (try refine EvC.skip ?_); (try simp only [z02, z03])
   have lq := hx.wf _ _ gq
   repeat' (first | refine EvC.seq ?_ | refine EvC.scope ?_ | refine EvC.block ?_ | (refine EvC.skip ?_) | (refine EvC.exit ?_) | (refine EvC.ret ?_; try simp only [z01, z00]) | (refine EvC.reg ?_; simp (config := { maxSteps := 2000000 }) (disch := first | omega | rfl) only [sB, Nat.reduceEqDiff, Nat.reduceAdd, Value.cells, one, Nat.reduceLeDiff, layC, st30, bd30, t2, gq]))
   refine z0x (z0a rfl (by simp only [sB, Nat.reduceEqDiff, t2] <;> rfl) (by simp only [sB, Nat.reduceAdd, cutC, ld30] <;> rfl) ⟨hx.pt (by omega) gq _, ?_⟩)
   rw [hbd]
   exact ⟨_, rfl, OB.nil (by decide)⟩
  refine EvC.cut (fun st => ∃ tm', st = ⟨tm', [], H2⟩ ∧ tm'.get 1 = some (.pointer (some ⟨H.next, 0, none⟩)) ∧ tm'.get 2 = some (.pointer (some ⟨H.next + 1, 0, none⟩)) ∧ tm'.get 20 = some (.bool false)) ?_ ?_
  ·by_cases k2 : t.kind = 2
   ·have kn : t.name ≠ sTrue := fun h => ktrue ⟨k2, h⟩
    (repeat refine EvC.seq ?_); refine EvC.reg ?_; simp (config := { maxSteps := 2000000 }) (disch := first | omega | rfl) only [sB, Nat.reduceEqDiff, z0m, ld3, z2e, ld9, t1, qt, z0r k2, z2d, zjc kn]
    exact ⟨_, rfl, (by simp only [sG, Nat.reduceEqDiff, t1] <;> rfl), (by simp only [sG, Nat.reduceEqDiff, t2] <;> rfl), by first | (simp only [sG, Nat.reduceEqDiff]; rfl) | simp only [sG, Nat.reduceEqDiff]⟩
   ·(repeat refine EvC.seq ?_); refine EvC.reg ?_; simp (config := { maxSteps := 2000000 }) (disch := first | omega | rfl) only [sB, Nat.reduceEqDiff, z0m, ld3, t1, qt, z0t k2, Bool.false_eq_true]
    exact ⟨_, rfl, (by simp only [sG, Nat.reduceEqDiff, t1] <;> rfl), (by simp only [sG, Nat.reduceEqDiff, t2] <;> rfl), by first | (simp only [sG, Nat.reduceEqDiff]; rfl) | simp only [sG, Nat.reduceEqDiff]⟩
  clear t1 t2 tm
  rintro st ⟨tm, rfl, t1, t2, tc⟩
  (repeat refine EvC.seq ?_); refine EvC.condF (by simp (config := { maxSteps := 2000000 }) (disch := first | omega | rfl) only [sA, tc]) ?_; (try refine EvC.skip ?_); (try simp only [z02, z03])
  clear tc
  by_cases kexc : t.kind = 2 ∧ t.name = sExc
  ·have hbd : bodyF (m + 1) t = some (.mk 2 zeroT []) := by rw [bodyF, if_neg hn, if_neg k1, if_neg ktrue, if_pos kexc]
   (repeat refine EvC.seq ?_); refine EvC.reg ?_; simp (config := { maxSteps := 2000000 }) (disch := first | omega | rfl) only [sB, Nat.reduceEqDiff, z0m, ld3, z2e, ld9, t1, qt, z0r kexc.1, z2d, zfb kexc.2]
   (repeat refine EvC.seq ?_); refine EvC.condT (by simp (config := { maxSteps := 2000000 }) (disch := first | omega | rfl) only [sB, Nat.reduceEqDiff]) ?_; (try refine EvC.skip ?_); (try simp only [z02, z03])
   have lq := hx.wf _ _ gq
   repeat' (first | refine EvC.seq ?_ | refine EvC.scope ?_ | refine EvC.block ?_ | (refine EvC.skip ?_) | (refine EvC.exit ?_) | (refine EvC.ret ?_; try simp only [z01, z00]) | (refine EvC.reg ?_; simp (config := { maxSteps := 2000000 }) (disch := first | omega | rfl) only [sB, Nat.reduceEqDiff, Nat.reduceAdd, Value.cells, one, Nat.reduceLeDiff, layC, st30, bd30, t2, gq]))
   refine z0x (z0a rfl (by simp only [sB, Nat.reduceEqDiff, t2] <;> rfl) (by simp only [sB, Nat.reduceAdd, cutC, ld30] <;> rfl) ⟨hx.pt (by omega) gq _, ?_⟩)
   rw [hbd]
   exact ⟨_, rfl, OB.nil (by decide)⟩
  refine EvC.cut (fun st => ∃ tm', st = ⟨tm', [], H2⟩ ∧ tm'.get 1 = some (.pointer (some ⟨H.next, 0, none⟩)) ∧ tm'.get 2 = some (.pointer (some ⟨H.next + 1, 0, none⟩)) ∧ tm'.get 30 = some (.bool false)) ?_ ?_
  ·by_cases k2 : t.kind = 2
   ·have kn : t.name ≠ sExc := fun h => kexc ⟨k2, h⟩
    (repeat refine EvC.seq ?_); refine EvC.reg ?_; simp (config := { maxSteps := 2000000 }) (disch := first | omega | rfl) only [sB, Nat.reduceEqDiff, z0m, ld3, z2e, ld9, t1, qt, z0r k2, z2d, zjc kn]
    exact ⟨_, rfl, (by simp only [sG, Nat.reduceEqDiff, t1] <;> rfl), (by simp only [sG, Nat.reduceEqDiff, t2] <;> rfl), by first | (simp only [sG, Nat.reduceEqDiff]; rfl) | simp only [sG, Nat.reduceEqDiff]⟩
   ·(repeat refine EvC.seq ?_); refine EvC.reg ?_; simp (config := { maxSteps := 2000000 }) (disch := first | omega | rfl) only [sB, Nat.reduceEqDiff, z0m, ld3, t1, qt, z0t k2, Bool.false_eq_true]
    exact ⟨_, rfl, (by simp only [sG, Nat.reduceEqDiff, t1] <;> rfl), (by simp only [sG, Nat.reduceEqDiff, t2] <;> rfl), by first | (simp only [sG, Nat.reduceEqDiff]; rfl) | simp only [sG, Nat.reduceEqDiff]⟩
  clear t1 t2 tm
  rintro st ⟨tm, rfl, t1, t2, tc⟩
  (repeat refine EvC.seq ?_); refine EvC.condF (by simp (config := { maxSteps := 2000000 }) (disch := first | omega | rfl) only [sA, tc]) ?_; (try refine EvC.skip ?_); (try simp only [z02, z03])
  clear tc
  (repeat refine EvC.seq ?_); refine EvC.reg ?_; simp (config := { maxSteps := 2000000 }) (disch := first | omega | rfl) only [sB, Nat.reduceEqDiff, ld25, cl40, t1, qt]
  refine (z6i (s := sCol) (r0.mono hx hw) hx.wf).mono ?_
  clear qt
  rintro v H3 ⟨rfl, hx3⟩
  replace gt := hx3.get hx.wf gt
  replace gq := hx3.get hx.wf gq
  replace hx := hx.trans hx3
  clear hx3
  have qt := row6 gt
  by_cases hF : isF t sCol
  ·have hd : decide (isF t sCol) = true := decide_eq_true hF
   try simp (config := { maxSteps := 2000000 }) (disch := first | omega | rfl) only []
   (repeat refine EvC.seq ?_); refine EvC.condT (by simp (config := { maxSteps := 2000000 }) (disch := first | omega | rfl) only [sB, Nat.reduceEqDiff, hd]) ?_; (try refine EvC.skip ?_); (try simp only [z02, z03])
   have hbd : bodyF (m + 1) t = withinF (bodyF m) t := by rw [bodyF, if_neg hn, if_neg k1, if_neg ktrue, if_neg kexc, if_pos hF]
   have hcon := zgt hb hs (r0.mono hx hw) hF.2.2 hc hx.wf
   cases ho : withinF (bodyF m) t with
   | none =>
    (repeat refine EvC.seq ?_); refine EvC.regP 1 _ rfl rfl ?_; simp (config := { maxSteps := 2000000 }) (disch := first | omega | rfl) only [sB, Nat.reduceEqDiff, ld25, cl49, z63, t1, qt]
    refine EvG.toP hcon ?_
    rintro e H5 ⟨hx5, he⟩
    rw [ho] at he
    exact ⟨_, he, And.intro rfl ⟨hx.trans hx5, by rw [hbd, ho]⟩⟩
   | some bd =>
    (repeat refine EvC.seq ?_); refine EvC.reg ?_; simp (config := { maxSteps := 2000000 }) (disch := first | omega | rfl) only [sB, Nat.reduceEqDiff, ld25, cl49, t1, qt]
    refine EvG.toF hcon ?_
    rintro e H5 ⟨hx5, he⟩
    rw [ho] at he
    obtain ⟨out, rfl, hob⟩ := he
    refine ⟨_, rfl, ?_⟩
    obtain ⟨ta, tc, sa, sc, rfl⟩ := hob.rep.eight
    have gq5 := hx5.get hx.wf gq
    have n5 := hx5.next
    have nx := hx.next
    have lq := hx.wf _ _ gq
    repeat' (first | refine EvC.seq ?_ | refine EvC.scope ?_ | refine EvC.block ?_ | (refine EvC.skip ?_) | (refine EvC.exit ?_) | (refine EvC.ret ?_; try simp only [z01, z00]) | (refine z0q ?_; simp (config := { maxSteps := 2000000 }) (disch := first | omega | rfl) only [sB, Nat.reduceAdd, one, st30, t2, gq5]))
    refine z0x (z0a rfl (by simp only [sB, Nat.reduceEqDiff, t2] <;> rfl) (by simp only [sB, Nat.reduceAdd, cutC, ld30] <;> rfl) ⟨(hx.trans hx5).pt (by omega) gq5 _, ?_⟩)
    rw [hbd, ho]
    exact ⟨_, rfl, hob.to (fun n hn hl => ⟨by have := hn.1; rw [get_put, if_neg (by omega)], by rw [z07]; exact hl⟩) fun n hn => ⟨by have := hn.1; omega, by rw [z07]; exact hn.2⟩⟩
  have fcol := hF
  clear hF
  have hd : decide (isF t sCol) = false := decide_eq_false fcol
  try simp (config := { maxSteps := 2000000 }) (disch := first | omega | rfl) only []
  (repeat refine EvC.seq ?_); refine EvC.condF (by simp (config := { maxSteps := 2000000 }) (disch := first | omega | rfl) only [sB, Nat.reduceEqDiff, hd]) ?_; (try refine EvC.skip ?_); (try simp only [z02, z03])
  clear hd
  refine EvC.frame (fun tm => tm.get 1 = some (.pointer (some ⟨H.next, 0, none⟩)) ∧ tm.get 2 = some (.pointer (some ⟨H.next + 1, 0, none⟩))) ⟨(by simp only [sG, Nat.reduceEqDiff, t1] <;> rfl), (by simp only [sG, Nat.reduceEqDiff, t2] <;> rfl)⟩ ?_
  clear t1 t2 tm
  rintro tm ⟨t1, t2⟩
  (repeat refine EvC.seq ?_); refine EvC.reg ?_; simp (config := { maxSteps := 2000000 }) (disch := first | omega | rfl) only [sB, Nat.reduceEqDiff, ld25, cl40, t1, qt]
  refine (z6i (s := sCma) (r0.mono hx hw) hx.wf).mono ?_
  clear qt
  rintro v H3 ⟨rfl, hx3⟩
  replace gt := hx3.get hx.wf gt
  replace gq := hx3.get hx.wf gq
  replace hx := hx.trans hx3
  clear hx3
  have qt := row6 gt
  by_cases hF : isF t sCma
  ·have hd : decide (isF t sCma) = true := decide_eq_true hF
   try simp (config := { maxSteps := 2000000 }) (disch := first | omega | rfl) only []
   (repeat refine EvC.seq ?_); refine EvC.condT (by simp (config := { maxSteps := 2000000 }) (disch := first | omega | rfl) only [sB, Nat.reduceEqDiff, hd]) ?_; (try refine EvC.skip ?_); (try simp only [z02, z03])
   have hbd : bodyF (m + 1) t = subBF (bodyF m) 4 t.args := by rw [bodyF, if_neg hn, if_neg k1, if_neg ktrue, if_neg kexc, if_neg fcol, if_pos hF]
   have hcon := z87 hb (k := 4) (by decide) (rl.mono hx hw) hfew (fun u hu => hlf hu) hx.wf
   cases ho : subBF (bodyF m) 4 t.args with
   | none =>
    (repeat refine EvC.seq ?_); refine EvC.regP 2 _ rfl rfl ?_; simp (config := { maxSteps := 2000000 }) (disch := first | omega | rfl) only [sB, Nat.reduceEqDiff, z0v, ld23, cl50, z63, t1, qt]
    refine EvG.toP hcon ?_
    rintro e H5 ⟨hx5, he⟩
    rw [ho] at he
    exact ⟨_, he, And.intro rfl ⟨hx.trans hx5, by rw [hbd, ho]⟩⟩
   | some bd =>
    (repeat refine EvC.seq ?_); refine EvC.reg ?_; simp (config := { maxSteps := 2000000 }) (disch := first | omega | rfl) only [sB, Nat.reduceEqDiff, z0v, ld23, cl50, t1, qt]
    refine EvG.toF hcon ?_
    rintro e H5 ⟨hx5, he⟩
    rw [ho] at he
    obtain ⟨out, rfl, hob⟩ := he
    refine ⟨_, rfl, ?_⟩
    obtain ⟨ta, tc, sa, sc, rfl⟩ := hob.rep.eight
    have gq5 := hx5.get hx.wf gq
    have n5 := hx5.next
    have nx := hx.next
    have lq := hx.wf _ _ gq
    repeat' (first | refine EvC.seq ?_ | refine EvC.scope ?_ | refine EvC.block ?_ | (refine EvC.skip ?_) | (refine EvC.exit ?_) | (refine EvC.ret ?_; try simp only [z01, z00]) | (refine z0q ?_; simp (config := { maxSteps := 2000000 }) (disch := first | omega | rfl) only [sB, Nat.reduceAdd, one, st30, t2, gq5]))
    refine z0x (z0a rfl (by simp only [sB, Nat.reduceEqDiff, t2] <;> rfl) (by simp only [sB, Nat.reduceAdd, cutC, ld30] <;> rfl) ⟨(hx.trans hx5).pt (by omega) gq5 _, ?_⟩)
    rw [hbd, ho]
    exact ⟨_, rfl, hob.to (fun n hn hl => ⟨by have := hn.1; rw [get_put, if_neg (by omega)], by rw [z07]; exact hl⟩) fun n hn => ⟨by have := hn.1; omega, by rw [z07]; exact hn.2⟩⟩
  have fcma := hF
  clear hF
  have hd : decide (isF t sCma) = false := decide_eq_false fcma
  try simp (config := { maxSteps := 2000000 }) (disch := first | omega | rfl) only []
  (repeat refine EvC.seq ?_); refine EvC.condF (by simp (config := { maxSteps := 2000000 }) (disch := first | omega | rfl) only [sB, Nat.reduceEqDiff, hd]) ?_; (try refine EvC.skip ?_); (try simp only [z02, z03])
  clear hd
  refine EvC.frame (fun tm => tm.get 1 = some (.pointer (some ⟨H.next, 0, none⟩)) ∧ tm.get 2 = some (.pointer (some ⟨H.next + 1, 0, none⟩))) ⟨(by simp only [sG, Nat.reduceEqDiff, t1] <;> rfl), (by simp only [sG, Nat.reduceEqDiff, t2] <;> rfl)⟩ ?_
  clear t1 t2 tm
  rintro tm ⟨t1, t2⟩
  (repeat refine EvC.seq ?_); refine EvC.reg ?_; simp (config := { maxSteps := 2000000 }) (disch := first | omega | rfl) only [sB, Nat.reduceEqDiff, ld25, cl40, t1, qt]
  refine (z6i (s := sArr) (r0.mono hx hw) hx.wf).mono ?_
  clear qt
  rintro v H3 ⟨rfl, hx3⟩
  replace gt := hx3.get hx.wf gt
  replace gq := hx3.get hx.wf gq
  replace hx := hx.trans hx3
  clear hx3
  have qt := row6 gt
  by_cases hF : isF t sArr
  ·have hd : decide (isF t sArr) = true := decide_eq_true hF
   try simp (config := { maxSteps := 2000000 }) (disch := first | omega | rfl) only []
   (repeat refine EvC.seq ?_); refine EvC.condT (by simp (config := { maxSteps := 2000000 }) (disch := first | omega | rfl) only [sB, Nat.reduceEqDiff, hd]) ?_; (try refine EvC.skip ?_); (try simp only [z02, z03])
   have hbd : bodyF (m + 1) t = subBF (bodyF m) 6 t.args := by rw [bodyF, if_neg hn, if_neg k1, if_neg ktrue, if_neg kexc, if_neg fcol, if_neg fcma, if_pos hF]
   have hcon := z87 hb (k := 6) (by decide) (rl.mono hx hw) hfew (fun u hu => hlf hu) hx.wf
   cases ho : subBF (bodyF m) 6 t.args with
   | none =>
    (repeat refine EvC.seq ?_); refine EvC.regP 2 _ rfl rfl ?_; simp (config := { maxSteps := 2000000 }) (disch := first | omega | rfl) only [sB, Nat.reduceEqDiff, z0v, ld23, cl50, z63, t1, qt]
    refine EvG.toP hcon ?_
    rintro e H5 ⟨hx5, he⟩
    rw [ho] at he
    exact ⟨_, he, And.intro rfl ⟨hx.trans hx5, by rw [hbd, ho]⟩⟩
   | some bd =>
    (repeat refine EvC.seq ?_); refine EvC.reg ?_; simp (config := { maxSteps := 2000000 }) (disch := first | omega | rfl) only [sB, Nat.reduceEqDiff, z0v, ld23, cl50, t1, qt]
    refine EvG.toF hcon ?_
    rintro e H5 ⟨hx5, he⟩
    rw [ho] at he
    obtain ⟨out, rfl, hob⟩ := he
    refine ⟨_, rfl, ?_⟩
    obtain ⟨ta, tc, sa, sc, rfl⟩ := hob.rep.eight
    have gq5 := hx5.get hx.wf gq
    have n5 := hx5.next
    have nx := hx.next
    have lq := hx.wf _ _ gq
    repeat' (first | refine EvC.seq ?_ | refine EvC.scope ?_ | refine EvC.block ?_ | (refine EvC.skip ?_) | (refine EvC.exit ?_) | (refine EvC.ret ?_; try simp only [z01, z00]) | (refine z0q ?_; simp (config := { maxSteps := 2000000 }) (disch := first | omega | rfl) only [sB, Nat.reduceAdd, one, st30, t2, gq5]))
    refine z0x (z0a rfl (by simp only [sB, Nat.reduceEqDiff, t2] <;> rfl) (by simp only [sB, Nat.reduceAdd, cutC, ld30] <;> rfl) ⟨(hx.trans hx5).pt (by omega) gq5 _, ?_⟩)
    rw [hbd, ho]
    exact ⟨_, rfl, hob.to (fun n hn hl => ⟨by have := hn.1; rw [get_put, if_neg (by omega)], by rw [z07]; exact hl⟩) fun n hn => ⟨by have := hn.1; omega, by rw [z07]; exact hn.2⟩⟩
  have farr := hF
  clear hF
  have hd : decide (isF t sArr) = false := decide_eq_false farr
  try simp (config := { maxSteps := 2000000 }) (disch := first | omega | rfl) only []
  (repeat refine EvC.seq ?_); refine EvC.condF (by simp (config := { maxSteps := 2000000 }) (disch := first | omega | rfl) only [sB, Nat.reduceEqDiff, hd]) ?_; (try refine EvC.skip ?_); (try simp only [z02, z03])
  clear hd
  refine EvC.frame (fun tm => tm.get 1 = some (.pointer (some ⟨H.next, 0, none⟩)) ∧ tm.get 2 = some (.pointer (some ⟨H.next + 1, 0, none⟩))) ⟨(by simp only [sG, Nat.reduceEqDiff, t1] <;> rfl), (by simp only [sG, Nat.reduceEqDiff, t2] <;> rfl)⟩ ?_
  clear t1 t2 tm
  rintro tm ⟨t1, t2⟩
  refine EvC.cut (fun st => ∃ tm' G', st = ⟨tm', [], G'⟩ ∧ tm'.get 1 = some (.pointer (some ⟨H.next, 0, none⟩)) ∧ tm'.get 2 = some (.pointer (some ⟨H.next + 1, 0, none⟩)) ∧ tm'.get 57 = some (.bool (decide (isF t sSem ∧ isF (t.at 0) sArr))) ∧ G'.get H.next = some (.row (six t a c) 25) ∧ G'.get (H.next + 1) = some (.row zero8 30) ∧ HX H G') ?_ ?_
  ·(repeat refine EvC.seq ?_); refine EvC.reg ?_; simp (config := { maxSteps := 2000000 }) (disch := first | omega | rfl) only [sB, Nat.reduceEqDiff, ld25, cl40, t1, qt]
   refine (z6i (s := sSem) (r0.mono hx hw) hx.wf).mono ?_
   clear qt
   rintro v H3 ⟨rfl, hx3⟩
   replace gt := hx3.get hx.wf gt
   replace gq := hx3.get hx.wf gq
   replace hx := hx.trans hx3
   clear hx3
   have qt := row6 gt
   by_cases hse : isF t sSem
   rotate_left
   ·have fsa : decide (isF t sSem ∧ isF (t.at 0) sArr) = false := decide_eq_false fun h => hse h.1
    have hd : decide (isF t sSem) = false := decide_eq_false hse
    try simp (config := { maxSteps := 2000000 }) (disch := first | omega | rfl) only [sB, Nat.reduceEqDiff, hd, Bool.false_eq_true]
    exact ⟨_, _, rfl, (by simp only [sG, Nat.reduceEqDiff, t1] <;> rfl), (by simp only [sG, Nat.reduceEqDiff, t2] <;> rfl), by rw [fsa]; first | (simp only [sG, Nat.reduceEqDiff]; rfl) | simp only [sG, Nat.reduceEqDiff], gt, gq, hx⟩
   have hd : decide (isF t sSem) = true := decide_eq_true hse
   obtain ⟨x, y, hxy⟩ : ∃ x y, t.args = [x, y] := by
    match hl : t.args, hse.2.2 with
    | [x, y], _ => exact ⟨x, y, rfl⟩
   have ex : t.at 0 = x := by unfold Tm.at; rw [hxy]; rfl
   have hl2 : t.args.length = 2 := hse.2.2
   have i0 : t.args[0]'(by omega) = x := by simp [hxy]
   obtain ⟨b, o, a1, c1, rfl, hld0, hr0⟩ := rl.el (i := 0) (by omega)
   rw [i0] at hld0 hr0
   simp only [Nat.zero_mul, Nat.add_zero, Nat.one_mul] at hld0
   have l0 := hx.load hw hld0
   try simp (config := { maxSteps := 2000000 }) (disch := first | omega | rfl) only [sB, Nat.reduceEqDiff, Int.reduceToNat, ld25, cl40, z0v, ld23, hd, t1, qt, l0, iz23, Nat.zero_mul]
   refine (z6i (s := sArr) (hr0.mono hx hw) hx.wf).mono ?_
   clear qt
   rintro v H4 ⟨rfl, hx3⟩
   have hde : decide (isF t sSem ∧ isF (t.at 0) sArr) = decide (isF x sArr) := by rw [ex]; simp [hse]
   try simp (config := { maxSteps := 2000000 }) (disch := first | omega | rfl) only []
   exact ⟨_, _, rfl, (by simp only [sG, Nat.reduceEqDiff, t1] <;> rfl), (by simp only [sG, Nat.reduceEqDiff, t2] <;> rfl), by rw [hde]; first | (simp only [sG, Nat.reduceEqDiff]; rfl) | simp only [sG, Nat.reduceEqDiff], hx3.get hx.wf gt, hx3.get hx.wf gq, hx.trans hx3⟩
  clear t1 t2 tm gt gq hx qt
  rintro st ⟨tm, G, rfl, t1, t2, tc, gt, gq, hx⟩
  have qt := row6 gt
  by_cases fsa : isF t sSem ∧ isF (t.at 0) sArr
  ·have hd : decide (isF t sSem ∧ isF (t.at 0) sArr) = true := decide_eq_true fsa
   obtain ⟨x, y, hxy⟩ : ∃ x y, t.args = [x, y] := by
    match hl : t.args, fsa.1.2.2 with
    | [x, y], _ => exact ⟨x, y, rfl⟩
   have ex : t.at 0 = x := by unfold Tm.at; rw [hxy]; rfl
   have ey : t.at 1 = y := by unfold Tm.at; rw [hxy]; rfl
   have hl2 : t.args.length = 2 := fsa.1.2.2
   have fx : isF x sArr := ex ▸ fsa.2
   obtain ⟨p, q, hpq⟩ : ∃ p q, x.args = [p, q] := by
    match hl : x.args, fx.2.2 with
    | [p, q], _ => exact ⟨p, q, rfl⟩
   have ep : (t.at 0).at 0 = p := by rw [ex]; unfold Tm.at; rw [hpq]; rfl
   have eq : (t.at 0).at 1 = q := by rw [ex]; unfold Tm.at; rw [hpq]; rfl
   have hx2 : x.args.length = 2 := fx.2.2
   have i0 : t.args[0]'(by omega) = x := by simp [hxy]
   have i1 : t.args[1]'(by omega) = y := by simp [hxy]
   have j0 : x.args[0]'(by omega) = p := by simp [hpq]
   have j1 : x.args[1]'(by omega) = q := by simp [hpq]
   obtain ⟨b, o, a1, c1, rfl, hld0, hr0⟩ := rl.el (i := 0) (by omega)
   obtain ⟨b', o', a2, c2, e2, hld1, hr1⟩ := rl.el (i := 1) (by omega)
   cases e2
   rw [i0] at hld0 hr0
   rw [i1] at hld1 hr1
   obtain ⟨ax, cx, cellsx, ee, -, -, -, -, -, rlx⟩ := hr0.six
   obtain ⟨-, -, -, -, -, rfl, rfl⟩ := za0 ee
   obtain ⟨bx, ox, a3, c3, rfl, hld2, hr2⟩ := rlx.el (i := 0) (by omega)
   obtain ⟨b'', o'', a4, c4, e4, hld3, hr3⟩ := rlx.el (i := 1) (by omega)
   cases e4
   rw [j0] at hld2 hr2
   rw [j1] at hld3 hr3
   simp only [Nat.zero_mul, Nat.add_zero, Nat.one_mul] at hld0 hld1 hld2 hld3
   have l0 := ldA5 (hx.load hw hld0)
   have l1 := hx.load hw hld1
   have l2 := hx.load hw hld2
   have l3 := hx.load hw hld3
   obtain ⟨L, eL⟩ : ∃ L, six p a3 c3 ++ six q a4 c4 ++ six y a2 c2 = L := ⟨_, rfl⟩
   obtain ⟨Hq, e5⟩ : ∃ Hq, (⟨G.next + 21, G.t⟩ : Heap).put (G.next + 18) (some (.row L 25)) = Hq := ⟨_, rfl⟩
   have hxq : HX G Hq := by rw [← e5]; exact (((HX.refl hx.wf).bump 21).put (by omega) (by show _ < G.next + 21; omega) _)
   have gL : Hq.get (G.next + 18) = some (.row L 25) := by rw [← e5, get_put, if_pos rfl]
   have gq5 := hxq.get hx.wf gq
   have gt5 := hxq.get hx.wf gt
   have hxf := hx.trans hxq
   have rl3 : RepL Hq [p, q, y] (some ⟨G.next + 18, 0, none⟩) 3 (fun i => (L.drop (i * 6)).take 6) := RepL.of_row gL (fun i hi => rfl) (fun i u hu => by
     match i, hu with
     | 0, hu => cases hu; rw [← eL]; exact hr2.mono hxf hw
     | 1, hu => cases hu; rw [← eL]; exact hr3.mono hxf hw
     | 2, hu => cases hu; rw [← eL]; exact hr1.mono hxf hw) (Nat.le_refl _) (by decide)
   have hmx : x ∈ t.args := by rw [hxy]; simp
   have hmy : y ∈ t.args := by rw [hxy]; simp
   have hcx := z0y hc hmx
   have hxl := z0d hmx
   have hcon := z87 hb (k := 6) (by decide) rl3 (by show 3 ≤ 64; decide) (fun u hu => by
     have hux : u ∈ x.args ∨ u = y := by
      rw [hpq]
      simp only [List.mem_cons, List.not_mem_nil, or_false] at hu ⊢
      rcases hu with h | h | h
      ·exact .inl (.inl h)
      ·exact .inl (.inr h)
      ·exact .inr h
     rcases hux with hu | rfl
     ·exact ⟨by have := z0d hu; omega, z0y hcx hu⟩
     ·exact hlf hmy) hxq.wf
   have hbd : bodyF (m + 1) t = subBF (bodyF m) 6 [p, q, y] := by rw [bodyF, if_neg hn, if_neg k1, if_neg ktrue, if_neg kexc, if_neg fcol, if_neg fcma, if_neg farr, if_pos fsa, ep, eq, ey]
   have nx := hx.next
   have lq := hx.wf _ _ gq
   have eL' := eL
   simp only [six, List.cons_append, List.nil_append] at eL'
   have neq : (H.next + 1 = G.next + 18) = False := by simp; omega
   (repeat refine EvC.seq ?_); refine EvC.condT (by simp (config := { maxSteps := 2000000 }) (disch := first | omega | rfl) only [sA, tc, hd]) ?_; (try refine EvC.skip ?_); (try simp only [z02, z03])
   cases ho : subBF (bodyF m) 6 [p, q, y] with
   | none =>
    (repeat refine EvC.seq ?_); refine EvC.drwP 19 _ [(0, 0), (1, 0), (2, 0), (3, 0), (4, 0), (5, 0), (6, 0), (7, 0), (8, 0), (9, 0), (10, 0), (11, 0), (12, 0), (13, 0), (14, 0), (15, 0), (16, 0), (17, 0), (18, 0)] [([], some 20), ([], none)] (by kernel_rfl) (by kernel_rfl) rfl rfl ?_; simp (config := { maxSteps := 2000000 }) (disch := first | omega | rfl) only [sD, sB, Nat.reduceEqDiff, Nat.reduceAdd, Value.cells, one, reduceCtorEq, Nat.reduceLeDiff, layC, Int.reduceToNat, ld25, st30, z0v, ld23, cl50, zm5, isAlloc, isRead, dalloc, reduceCtorEq, zj8, t1, t2, qt, l0, l1, l2, l3, iz23, Nat.zero_mul, Nat.one_mul, znt, eL', e5, gq5]
    refine EvG.toP hcon ?_
    rintro e H5 ⟨hx5, he⟩
    rw [ho] at he
    exact ⟨_, he, And.intro rfl ⟨hxf.trans hx5, by rw [hbd, ho]⟩⟩
   | some bd =>
    (repeat refine EvC.seq ?_); refine EvC.drw [([(0, 0), (1, 0), (2, 0), (3, 0), (4, 0), (5, 0), (6, 0), (7, 0), (8, 0), (9, 0), (10, 0), (11, 0), (12, 0), (13, 0), (14, 0), (15, 0), (16, 0), (17, 0), (18, 0)], some 19), ([], some 20), ([], none)] (by kernel_rfl) ?_; simp (config := { maxSteps := 2000000 }) (disch := first | omega | rfl) only [sD, sB, Nat.reduceEqDiff, Nat.reduceAdd, Value.cells, one, reduceCtorEq, Nat.reduceLeDiff, layC, Int.reduceToNat, ld25, z0v, ld23, cl50, zm5, isAlloc, isRead, dalloc, reduceCtorEq, t1, qt, l0, l1, l2, l3, iz23, Nat.zero_mul, Nat.one_mul, eL', e5]
    refine EvG.toF hcon ?_
    rintro e H5 ⟨hx5, he⟩
    rw [ho] at he
    obtain ⟨out, rfl, hob⟩ := he
    refine ⟨_, rfl, ?_⟩
    obtain ⟨ta, tc, sa, sc, rfl⟩ := hob.rep.eight
    have gq6 := hx5.get hxq.wf gq5
    have n5 := hx5.next
    have nq := hxq.next
    repeat' (first | refine EvC.seq ?_ | refine EvC.scope ?_ | refine EvC.block ?_ | (refine EvC.skip ?_) | (refine EvC.exit ?_) | (refine EvC.ret ?_; try simp only [z01, z00]) | (refine z0u ?_; simp (config := { maxSteps := 2000000 }) (disch := first | omega | rfl) only [sD, sB, Nat.reduceEqDiff, Nat.reduceAdd, one, st30, t2, gq6]))
    refine z0x (z0a rfl (by simp only [sB, Nat.reduceEqDiff, t2] <;> rfl) (by simp only [sB, Nat.reduceAdd, cutC, ld30] <;> rfl) ⟨(hxf.trans hx5).pt (by omega) gq6 _, ?_⟩)
    rw [hbd, ho]
    exact ⟨_, rfl, hob.to (fun n hn hl => ⟨by have := hn.1; rw [get_put, if_neg (by omega)], by rw [z07]; exact hl⟩) fun n hn => ⟨by have := hn.1; omega, by rw [z07]; exact hn.2⟩⟩
  have hd : decide (isF t sSem ∧ isF (t.at 0) sArr) = false := decide_eq_false fsa
  (repeat refine EvC.seq ?_); refine EvC.condF (by simp (config := { maxSteps := 2000000 }) (disch := first | omega | rfl) only [sA, tc, hd]) ?_; (try refine EvC.skip ?_); (try simp only [z02, z03])
  clear tc hd
  (repeat refine EvC.seq ?_); refine EvC.reg ?_; simp (config := { maxSteps := 2000000 }) (disch := first | omega | rfl) only [sB, Nat.reduceEqDiff, ld25, cl40, t1, qt]
  refine (z6i (s := sSem) (r0.mono hx hw) hx.wf).mono ?_
  clear qt
  rintro v H3 ⟨rfl, hx3⟩
  replace gt := hx3.get hx.wf gt
  replace gq := hx3.get hx.wf gq
  replace hx := hx.trans hx3
  clear hx3
  have qt := row6 gt
  by_cases hF : isF t sSem
  ·have hd : decide (isF t sSem) = true := decide_eq_true hF
   try simp (config := { maxSteps := 2000000 }) (disch := first | omega | rfl) only []
   (repeat refine EvC.seq ?_); refine EvC.condT (by simp (config := { maxSteps := 2000000 }) (disch := first | omega | rfl) only [sB, Nat.reduceEqDiff, hd]) ?_; (try refine EvC.skip ?_); (try simp only [z02, z03])
   have hbd : bodyF (m + 1) t = subBF (bodyF m) 5 t.args := by rw [bodyF, if_neg hn, if_neg k1, if_neg ktrue, if_neg kexc, if_neg fcol, if_neg fcma, if_neg farr, if_neg fsa, if_pos hF]
   have hcon := z87 hb (k := 5) (by decide) (rl.mono hx hw) hfew (fun u hu => hlf hu) hx.wf
   cases ho : subBF (bodyF m) 5 t.args with
   | none =>
    (repeat refine EvC.seq ?_); refine EvC.regP 2 _ rfl rfl ?_; simp (config := { maxSteps := 2000000 }) (disch := first | omega | rfl) only [sB, Nat.reduceEqDiff, z0v, ld23, cl50, z63, t1, qt]
    refine EvG.toP hcon ?_
    rintro e H5 ⟨hx5, he⟩
    rw [ho] at he
    exact ⟨_, he, And.intro rfl ⟨hx.trans hx5, by rw [hbd, ho]⟩⟩
   | some bd =>
    (repeat refine EvC.seq ?_); refine EvC.reg ?_; simp (config := { maxSteps := 2000000 }) (disch := first | omega | rfl) only [sB, Nat.reduceEqDiff, z0v, ld23, cl50, t1, qt]
    refine EvG.toF hcon ?_
    rintro e H5 ⟨hx5, he⟩
    rw [ho] at he
    obtain ⟨out, rfl, hob⟩ := he
    refine ⟨_, rfl, ?_⟩
    obtain ⟨ta, tc, sa, sc, rfl⟩ := hob.rep.eight
    have gq5 := hx5.get hx.wf gq
    have n5 := hx5.next
    have nx := hx.next
    have lq := hx.wf _ _ gq
    repeat' (first | refine EvC.seq ?_ | refine EvC.scope ?_ | refine EvC.block ?_ | (refine EvC.skip ?_) | (refine EvC.exit ?_) | (refine EvC.ret ?_; try simp only [z01, z00]) | (refine z0q ?_; simp (config := { maxSteps := 2000000 }) (disch := first | omega | rfl) only [sB, Nat.reduceAdd, one, st30, t2, gq5]))
    refine z0x (z0a rfl (by simp only [sB, Nat.reduceEqDiff, t2] <;> rfl) (by simp only [sB, Nat.reduceAdd, cutC, ld30] <;> rfl) ⟨(hx.trans hx5).pt (by omega) gq5 _, ?_⟩)
    rw [hbd, ho]
    exact ⟨_, rfl, hob.to (fun n hn hl => ⟨by have := hn.1; rw [get_put, if_neg (by omega)], by rw [z07]; exact hl⟩) fun n hn => ⟨by have := hn.1; omega, by rw [z07]; exact hn.2⟩⟩
  have fsem := hF
  clear hF
  have hd : decide (isF t sSem) = false := decide_eq_false fsem
  try simp (config := { maxSteps := 2000000 }) (disch := first | omega | rfl) only []
  (repeat refine EvC.seq ?_); refine EvC.condF (by simp (config := { maxSteps := 2000000 }) (disch := first | omega | rfl) only [sB, Nat.reduceEqDiff, hd]) ?_; (try refine EvC.skip ?_); (try simp only [z02, z03])
  clear hd
  have hbd : bodyF (m + 1) t = some (.mk 3 t []) := by rw [bodyF, if_neg hn, if_neg k1, if_neg ktrue, if_neg kexc, if_neg fcol, if_neg fcma, if_neg farr, if_neg fsa, if_neg fsem]
  exact ⟨_, _, rfl, (by simp only [sG, Nat.reduceEqDiff, t1] <;> rfl), (by simp only [sG, Nat.reduceEqDiff, t2] <;> rfl), gt, gq, hx, hbd⟩
theorem za6 : ∀ m : Nat, BodyP m
 | 0 => fun h => absurd h (Nat.not_lt_zero _)
 | m + 1 => fun hs r hc hw => zjj (za6 m) hs r hc hw
end Go.Proofs.hq
end

section
namespace Go.Proofs.hq
open Go Go.RowKit Go.Hb
inductive RepBI (H : Heap) (S : Nat → Prop) : Bdy → List Value → Prop
 | mk (k : Int) (t : Tm) (l : List Bdy) (cs : List Value) (a : Option Addr) (c : Nat) (cells : Nat → List Value) : i64 k → RepS H S t cs → l.length ≤ c → c ≤ maxLen → (a = none → l = [] ∧ c = 0) →
   (∀ i ad, i < l.length → a = some ad → ad.spot = none ∧ S ad.block ∧ ad.block < H.next ∧ H.load ⟨ad.block, ad.off + i * 8, none⟩ 8 = some (cells i)) → (∀ i u, l[i]? = some u → RepBI H S u (cells i)) →
   RepBI H S (.mk k t l) (eight k cs a l.length c)
theorem zc7 {H G : Heap} {b o n : Nat} (h : G.get b = H.get b) : G.load ⟨b, o, none⟩ n = H.load ⟨b, o, none⟩ n := by
 unfold Heap.load Heap.cells
 simp only [h]
section
variable {H H' : Heap} {S S' : Nat → Prop} {u : Bdy} {cs : List Value}
theorem RepBI.rep (h : RepBI H S u cs) : RepB H u cs := by
 induction h with
 | mk k t l ts a c cells h1 h2 h3 h4 h5 h6 h7 ih => exact .mk k t l ts a c cells h1 h2.rep h3 h4 h5 (fun i ad hi ha => ⟨(h6 i ad hi ha).1, (h6 i ad hi ha).2.2.2⟩) ih
theorem RepBI.to (h : RepBI H S u cs) (hk : ∀ n, S n → n < H.next → H'.get n = H.get n ∧ S' n ∧ n < H'.next) : RepBI H' S' u cs := by
 induction h with
 | mk k t l ts a c cells h1 h2 h3 h4 h5 h6 h7 ih =>
  refine .mk k t l ts a c cells h1 (h2.to hk) h3 h4 h5 (fun i ad hi ha => ?_) ih
  obtain ⟨p1, p2, p3, p4⟩ := h6 i ad hi ha
  obtain ⟨k1, k2, k3⟩ := hk _ p2 p3
  exact ⟨p1, k2, k3, by rw [zc7 k1]; exact p4⟩
theorem RepBI.inv (h : RepBI H S u cs) : ∃ (ta : Option Addr) (tc : Nat) (a : Option Addr) (c : Nat) (cells : Nat → List Value), cs = eightT u.kind u.term ta tc a u.sub.length c ∧ i64 u.kind ∧ RepS H S u.term (six u.term ta tc) ∧ u.sub.length ≤ c ∧ c ≤ maxLen ∧
  ∀ i (hi : i < u.sub.length), ∃ b o, a = some ⟨b, o, none⟩ ∧ S b ∧ b < H.next ∧ H.load ⟨b, o + i * 8, none⟩ 8 = some (cells i) ∧ RepBI H S u.sub[i] (cells i) := by
 cases h with
 | mk k t l ts a c cells h1 h2 h3 h4 h5 h6 h7 =>
  obtain ⟨ta, tc, cellst, rfl, -⟩ := h2.rep.inv
  refine ⟨ta, tc, a, c, cells, rfl, h1, h2, h3, h4, fun i hi => ?_⟩
  cases a with
  | none => obtain ⟨rfl, _⟩ := h5 rfl; exact absurd hi (Nat.not_lt_zero _)
  | some ad =>
   obtain ⟨p1, p2, p3, p4⟩ := h6 i ad hi rfl
   obtain ⟨b, o, s⟩ := ad
   obtain rfl : s = none := p1
   exact ⟨b, o, rfl, p2, p3, p4, h7 i _ (List.getElem?_eq_getElem hi)⟩
theorem OB.bi {TB TT : TypeId} (h : OB H TB TT S u cs) : RepBI H S u cs := by
 induction h with
 | leaf S k t cs h1 h2 h3 => exact .mk k t [] cs none 0 (fun _ => []) h1 h2 (Nat.le_refl _) (Nat.zero_le _) (fun _ => ⟨rfl, rfl⟩) (fun i ad hi => by simp at hi) (fun i u hu => by simp at hu)
 | node S k t cs l b c cells Si h1 h2 h3 h4 h5 h6 h7 h8 h9 h10 h11 h12 h13 ih =>
  refine .mk k t l cs (some ⟨b, 0, none⟩) c (fun i => (cells.drop (i * 8)).take 8) h1 h2 h4 h5 (fun h => by cases h) (fun i ad hi ha => ?_) (fun i u hu => (ih i u hu).to fun n hn hl => ⟨rfl, h12 i n (List.getElem?_eq_some_iff.1 hu).1 hn, hl⟩)
  cases ha
  refine ⟨rfl, h7, h8, ?_⟩
  have hle : i * 8 + 8 ≤ l.length * 8 := by omega
  unfold Heap.load Heap.cells
  simp only [h6, Nat.zero_add]
  rw [if_pos (by rw [Nat.beq_eq, List.length_take, List.length_drop]; omega)]
end
theorem RepT.toS {H : Heap} {t : Tm} {cs : List Value} (hw : H.wf) (r : RepT H t cs) : RepS H (fun n => n < H.next) t cs := by
 intro G hG
 induction r with
 | mk k s u b v l a c cells h1 h2 h3 h4 h5 h6 h7 h8 h9 h10 h11 ih =>
  refine .mk k s u b v l a c cells h1 h2 h3 h4 h5 h6 h7 h8 h9 (fun i ad hi ha => ⟨(h10 i ad hi ha).1, ?_⟩) ih
  have h := (h10 i ad hi ha).2
  have hl := za5 hw h
  rw [zc7 (hG _ hl hl)]; exact h
theorem RepB.bi {H : Heap} {u : Bdy} {cs : List Value} (hw : H.wf) (r : RepB H u cs) : RepBI H (fun n => n < H.next) u cs := by
 induction r with
 | mk k t l ts a c cells h1 h2 h3 h4 h5 h6 h7 ih =>
  refine .mk k t l ts a c cells h1 (RepT.toS hw h2) h3 h4 h5 (fun i ad hi ha => ?_) ih
  obtain ⟨p1, p2⟩ := h6 i ad hi ha
  have hl := za5 hw p2
  exact ⟨p1, hl, hl, p2⟩
inductive FewB (n : Nat) : Bdy → Prop
 | mk {b : Bdy} : b.sub.length ≤ n → Few n b.term → (∀ u ∈ b.sub, FewB n u) → FewB n b
theorem FewB.len {n : Nat} {b : Bdy} (h : FewB n b) : b.sub.length ≤ n := by cases h; assumption
theorem FewB.term {n : Nat} {b : Bdy} (h : FewB n b) : Few n b.term := by cases h; assumption
theorem FewB.sub {n : Nat} {b : Bdy} (h : FewB n b) : ∀ u ∈ b.sub, FewB n u := by cases h; assumption
def LT (H : Heap) (T : TypeId) (E : Nat → Prop) (l : List Tm) (a : Option Addr) (c : Nat) : Prop :=
 (l = [] ∧ a = none ∧ c = 0) ∨ ∃ (b : Nat) (cells : List Value), a = some ⟨b, 0, none⟩ ∧ l.length ≤ c ∧ c ≤ maxLen ∧ H.get b = some (.row cells T) ∧ ¬ E b ∧ b < H.next ∧ l.length * 6 ≤ cells.length ∧ ∀ i u, l[i]? = some u → RepS H E u ((cells.drop (i * 6)).take 6)
section
variable {H H' : Heap} {T : TypeId} {E E' : Nat → Prop} {l : List Tm} {a : Option Addr} {c : Nat}
theorem LT.nil : LT H T E [] none 0 := .inl ⟨rfl, rfl, rfl⟩
theorem LT.to (h : LT H T E l a c) (hk : ∀ n, E n ∨ a = some ⟨n, 0, none⟩ → n < H.next → H'.get n = H.get n) (hn : H.next ≤ H'.next) (hs : ∀ n, E n → E' n) (hne : ∀ n, a = some ⟨n, 0, none⟩ → ¬ E' n) : LT H' T E' l a c := by
 rcases h with h | ⟨b, cells, rfl, h1, h2, h3, h4, h5, h6, h7⟩
 ·exact .inl h
 ·exact .inr ⟨b, cells, rfl, h1, h2, (hk b (.inr rfl) h5).trans h3, hne b rfl, Nat.lt_of_lt_of_le h5 hn, h6, fun i u hu => (h7 i u hu).to fun n hn' hl => ⟨hk n (.inl hn') hl, hs n hn', Nat.lt_of_lt_of_le hl hn⟩⟩
theorem zou {cells : List Value} {i n : Nat} (h : i < n) (vs : List Value) (hn : n * 6 ≤ cells.length) : ((cells.take (n * 6) ++ vs).drop (i * 6)).take 6 = (cells.drop (i * 6)).take 6 := by
 have h1 : (cells.take (n * 6)).length = n * 6 := by rw [List.length_take]; omega
 rw [List.drop_append_of_le_length (by omega), List.take_append_of_le_length (by rw [List.length_drop]; omega), List.drop_take, List.take_take]
 congr 1; omega
theorem LT.push {P : Program} {t : TypeId} (hp : apOk P t T 6) {E2 : Nat → Prop} {u : Tm} {cs : List Value} {c1 : Nat} {ad : Addr} (h : LT H T E l a c) (hw : H.wf) (hl : H.load ad (1 * 6) = some cs) (hu : RepS H E2 u cs) (hE : ∀ n, E2 n → a ≠ some ⟨n, 0, none⟩)
  (hEl : ∀ n, E n → n < H.next) (hE2l : ∀ n, E2 n → n < H.next) (hm : l.length + 1 ≤ most) (h2 : ∀ n, E n ∨ E2 n → E' n) (hnew : ¬ E' H.next) :
  ∃ H2, dAp P #[t, t] (.slice a l.length c) (.slice (some ad) 1 c1) H = some (.val (.slice (some ⟨H.next, 0, none⟩) (l.length + 1) (l.length + 1)) H2) ∧ LT H2 T E' (l ++ [u]) (some ⟨H.next, 0, none⟩) (l.length + 1) ∧ HK (fun n => a = some ⟨n, 0, none⟩) H H2 ∧ H2.next = H.next + 1 := by
 have hmax : l.length + 1 ≤ maxLen := Nat.le_trans hm (by simp [most, maxLen])
 obtain ⟨hone, hlen⟩ := zdg hu.rep
 rcases h with ⟨rfl, rfl, rfl⟩ | ⟨b, cells, rfl, h1, h2', h3, h4, h5, h6, h7⟩
 ·have hx := (HX.refl hw).new (some (.row cs T))
  refine ⟨_, z5y hp (by omega) hm hl hone, ?_, hx.hk _, rfl⟩
  refine .inr ⟨H.next, cs, rfl, Nat.le_refl _, hmax, z0p, hnew, Nat.lt_succ_self _, by simp [hlen], fun i v hv => ?_⟩
  match i, hv with
  | 0, hv =>
   cases hv
   rw [Nat.zero_mul, List.drop_zero, List.take_of_length_le (by omega)]
   exact hu.to fun n hn hl => ⟨hx.keep n hl, h2 n (.inr hn), Nat.lt_succ_of_lt hl⟩
 ·have hcells : (cells.take (l.length * 6)).all one = true := z4y _ h6 fun i hi => (zdg (h7 i _ (List.getElem?_eq_getElem hi)).rep).1
  have hk : HK (fun n => some (⟨b, 0, none⟩ : Addr) = some ⟨n, 0, none⟩) H ((H.put b none).new (some (.row (cells.take (l.length * 6) ++ cs) T))) := ((HK.refl (S := fun n => some (⟨b, 0, none⟩ : Addr) = some ⟨n, 0, none⟩) hw).put (.inl rfl) h5 none).new _
  have hkeep : ∀ n, n < H.next → n ≠ b → ((H.put b none).new (some (.row (cells.take (l.length * 6) ++ cs) T))).get n = H.get n := fun n hn hne => by
   rw [z1u (by rw [z07]; exact hn), z37 hne]
  refine ⟨_, z5z hp (by omega) hm hl hone h3 h6 hcells, ?_, hk, rfl⟩
  have htl : (cells.take (l.length * 6)).length = l.length * 6 := by rw [List.length_take]; omega
  refine .inr ⟨H.next, cells.take (l.length * 6) ++ cs, rfl, by simp, hmax, z0p, hnew, Nat.lt_succ_self _, by simp [hlen, htl]; omega, fun i v hv => ?_⟩
  by_cases hi : i < l.length
  ·rw [List.getElem?_append_left hi] at hv
   rw [zou hi _ h6]
   exact (h7 i v hv).to fun n hn hl => ⟨hkeep n hl fun e => h4 (e ▸ hn), h2 n (.inl hn), Nat.lt_succ_of_lt hl⟩
  ·have hil : i = l.length := by
    have := (List.getElem?_eq_some_iff.1 hv).1
    simp at this; omega
   subst hil
   simp at hv; subst hv
   have e8 : ((cells.take (l.length * 6) ++ cs).drop (l.length * 6)).take 6 = cs := by rw [List.drop_left' htl, List.take_of_length_le (by omega)]
   rw [e8]
   exact hu.to fun n hn hl => ⟨hkeep n hl fun e => hE n hn (by rw [e]), h2 n (.inr hn), Nat.lt_succ_of_lt hl⟩
theorem LT.repL (h : LT H T E l a c) : ∃ cells, RepL H l a c cells ∧ ∀ i u, l[i]? = some u → RepS H E u (cells i) := by
 rcases h with ⟨rfl, rfl, rfl⟩ | ⟨b, cells, rfl, h1, h2, h3, h4, h5, h6, h7⟩
 ·exact ⟨fun _ => [], ⟨Nat.le_refl _, Nat.zero_le _, fun _ => ⟨rfl, rfl⟩, (fun i ad hi => by simp at hi), (fun i u hu => by simp at hu)⟩, (fun i u hu => by simp at hu)⟩
 ·exact ⟨fun i => (cells.drop (i * 6)).take 6, RepL.of_row h3 (fun i hi => rfl) (fun i u hu => (h7 i u hu).rep) h1 h2, h7⟩
theorem LT.comp {s : ByteArray} (h : LT H T E l a c) (hs : s.size ≤ maxLen) (he : ∀ n, E n → E' n) (hb : ∀ n, a = some ⟨n, 0, none⟩ → E' n) (hm : c ≤ maxLen) : RepS H E' (cmpT s l) (six (cmpT s l) a c) := by
 rcases h with ⟨rfl, rfl, rfl⟩ | ⟨b, cells, rfl, h1, h2, h3, h4, h5, h6, h7⟩
 ·exact RepS.leaf (zc4 hs) rfl (Nat.zero_le _) fun _ => rfl
 ·exact RepS.row (t := cmpT s l) (zc4 hs) rfl h3 (hb b rfl) h5 h6 h1 h2 fun j hj => (h7 j _ (List.getElem?_eq_getElem hj)).to fun n hn hl => ⟨rfl, he n hn, hl⟩
end
end Go.Proofs.hq
end

section
namespace Go.Proofs.hq
open Go Go.RowKit Go.Hb
variable {ok : Ok}
set_option maxRecDepth 10000
attribute [local irreducible] LX LG EL STG SOP SGO SGD SAL SRD SEF SEG SLK SCK ES
theorem zgu {k : Int} {t : Tm} {l : List Tm} (h2 : k ≠ 2) (h3 : k ≠ 3) (h4 : ¬ (k = 4 ∧ l.length = 2)) (h5 : ¬ (k = 5 ∧ l.length = 2)) (h6 : ¬ (k = 6 ∧ l.length = 2)) (h6' : ¬ (k = 6 ∧ l.length = 3)) (h7 : ¬ (k = 7 ∧ l.length = 1)) : tellB k t l = atmT sTrue := by
 unfold tellB
 rw [if_neg h2, if_neg h3, if_neg h4, if_neg h5, if_neg h6, if_neg h6', if_neg h7]
theorem z3o {H : Heap} {S : Nat → Prop} {s : ByteArray} (h : s.size ≤ maxLen) : RepS H S (atmT s) (six (atmT s) none 0) :=
 RepS.leaf ⟨by show i64 2; decide, h, by show ByteArray.empty.size ≤ _; decide, by show u64 0; decide, by show i64 0; decide⟩ rfl (Nat.zero_le _) fun _ => rfl
theorem z5o {H : Heap} {S : Nat → Prop} {s : ByteArray} {x y : Tm} {a a' : Option Addr} {c c' b : Nat} (hs : s.size ≤ maxLen) (hg : H.get b = some (.row (six x a c ++ six y a' c') 25)) (hS : S b) (hw : H.wf) (hx : RepS H S x (six x a c)) (hy : RepS H S y (six y a' c')) :
  RepS H S (cmpT s [x, y]) (six (cmpT s [x, y]) (some ⟨b, 0, none⟩) 2) :=
 RepS.row (t := cmpT s [x, y]) (zc4 hs) rfl hg hS (hw _ _ hg) (Nat.le_refl _) (Nat.le_refl _) (by decide) fun j hj => by
  match j, hj with
  | 0, _ => exact hx
  | 1, _ => exact hy
theorem LT.el {H : Heap} {T : TypeId} {E : Nat → Prop} {l : List Tm} {a : Option Addr} {c : Nat} (h : LT H T E l a c) {i : Nat} (hi : i < l.length) :
  ∃ b a' c', a = some ⟨b, 0, none⟩ ∧ H.load ⟨b, i * 6, none⟩ 6 = some (six l[i] a' c') ∧ RepS H E l[i] (six l[i] a' c') ∧ b < H.next := by
 rcases h with ⟨rfl, -, -⟩ | ⟨b, cells, rfl, h1, h2, h3, h4, h5, h6, h7⟩
 ·exact absurd hi (Nat.not_lt_zero _)
 ·have hr := h7 i _ (List.getElem?_eq_getElem hi)
  obtain ⟨a', c', cells', e, -⟩ := hr.rep.six
  refine ⟨b, a', c', rfl, ?_, e ▸ hr, h5⟩
  unfold Heap.load Heap.cells
  simp only [h3, e]
  rfl
set_option maxHeartbeats 16000000 in
theorem za7 {m : Nat} : ∀ {u : Bdy} {cs : List Value} {S : Nat → Prop} {H : Heap}, SizeOf.sizeOf u < m → RepBI H S u cs → FewB 1000000 u → (∀ n, S n → n < H.next) → H.wf →
  EvF Tryd.prog okT 29 [.agg ⟨cs⟩] H fun v H' => HX H H' ∧ ∃ out, v = .agg ⟨out⟩ ∧ RepS H' (fun n => S n ∨ (H.next ≤ n ∧ n < H'.next)) (toldB u) out := by
 induction m with
 | zero => intro u cs S H h; omega
 | succ m ih =>
 intro u cs S H hsz r hfew hS hw
 have hlen := hfew.len
 have ean : apOk Tryd.prog 23 25 6 := ap23
 obtain ⟨ta, tc, a, c, cells, rfl, hk, hr, hlc, hcm, hel⟩ := r.inv
 refine EvF.enter rfl Tryd.func29 (by decide) rfl ?_
 (repeat refine EvC.seq ?_); refine EvC.reg ?_; simp (config := { maxSteps := 2000000 }) (disch := first | omega | rfl) only [sB, initTm, dBox, dAlloc, Value.cells, one, zr25]
 obtain ⟨H2, e2, hx2, gb, gq, hn2, hw2⟩ := new2 hw (.row (eightT u.kind u.term ta tc a u.sub.length c) 30) (.row zero6 25)
 simp only [e2]
 clear e2
 have qb := row8 gb
 have hmx : u.sub.length ≤ 9223372036854775807 := by omega
 (repeat refine EvC.seq ?_); refine EvC.reg ?_; simp (config := { maxSteps := 2000000 }) (disch := first | omega | rfl) only [sA]
 (repeat refine EvC.seq ?_); refine EvC.reg ?_; simp (config := { maxSteps := 2000000 }) (disch := first | omega | rfl) only [sB, Nat.reduceEqDiff, reduceCtorEq, z3v, ld28, ln28, qb]
 refine EvC.join (fun st => ∃ tm G ao co, st = ⟨tm, [], G⟩ ∧ tm.get 1 = some (.pointer (some ⟨H.next, 0, none⟩)) ∧ tm.get 2 = some (.pointer (some ⟨H.next + 1, 0, none⟩)) ∧ tm.get 3 = some (.slice ao u.sub.length co) ∧
  G.get H.next = some (.row (eightT u.kind u.term ta tc a u.sub.length c) 30) ∧ G.get (H.next + 1) = some (.row zero6 25) ∧
  LT G 25 (fun n => (S n ∨ (H.next + 2 ≤ n ∧ n < G.next)) ∧ ao ≠ some ⟨n, 0, none⟩) (u.sub.map toldB) ao co ∧ (∀ n, ao = some ⟨n, 0, none⟩ → H.next + 2 ≤ n ∧ n < G.next) ∧ HX H G) ?_ ?_
 ·refine EvC.block (EvC.loop (fun k' st => ∃ tm G i ao co, st = ⟨tm, [], G⟩ ∧ k' = u.sub.length - i ∧ i ≤ u.sub.length ∧ tm.get 1 = some (.pointer (some ⟨H.next, 0, none⟩)) ∧ tm.get 2 = some (.pointer (some ⟨H.next + 1, 0, none⟩)) ∧ tm.get 3 = some (.slice ao i co) ∧
   tm.get 7 = some (.slice a u.sub.length c) ∧ tm.get 8 = some (.int .i64 u.sub.length) ∧ tm.get 9 = some (.int .i64 (i : Nat)) ∧
   G.get H.next = some (.row (eightT u.kind u.term ta tc a u.sub.length c) 30) ∧ G.get (H.next + 1) = some (.row zero6 25) ∧
   LT G 25 (fun n => (S n ∨ (H.next + 2 ≤ n ∧ n < G.next)) ∧ ao ≠ some ⟨n, 0, none⟩) ((u.sub.take i).map toldB) ao co ∧ (∀ n, ao = some ⟨n, 0, none⟩ → H.next + 2 ≤ n ∧ n < G.next) ∧ HX H G) ?_ u.sub.length _ ?_)
  rotate_left
  ·exact ⟨_, _, 0, none, 0, rfl, rfl, Nat.zero_le _, (by simp only [sG, Nat.reduceEqDiff, reduceCtorEq] <;> rfl), (by simp only [sG, Nat.reduceEqDiff, reduceCtorEq] <;> rfl), (by simp only [sG, Nat.reduceEqDiff, reduceCtorEq] <;> rfl), (by simp only [sG, Nat.reduceEqDiff, reduceCtorEq] <;> rfl), (by simp only [sG, Nat.reduceEqDiff, reduceCtorEq] <;> rfl), (by simp only [sB, Nat.reduceEqDiff, reduceCtorEq] <;> rfl), gb, gq, .nil, fun n h => (by cases h), hx2⟩
  rintro k' st ⟨tm, G, i, ao, co, rfl, rfl, hi, t1, t2, t3, t7, t8, t9, gbG, gqG, hlt', hao, hxG⟩
  have hwG := hxG.wf
  by_cases hlt : i < u.sub.length
  rotate_left
  ·repeat' (first | refine EvC.seq ?_ | refine EvC.scope ?_ | refine EvC.block ?_ | (refine EvC.skip ?_) | (refine EvC.exit ?_; try simp only [sB]) | (refine EvC.ret ?_; try simp only [z01, z00]) | (refine EvC.reg ?_; simp (config := { maxSteps := 2000000 }) (disch := first | omega | rfl) only [sA, t8, t9, decn hlt]) | (refine EvC.condT ?_ ?_; simp (config := { maxSteps := 2000000 }) (disch := first | omega | rfl) only [sB]; refine z04 ?_) | (refine EvC.condF ?_ ?_; simp (config := { maxSteps := 2000000 }) (disch := first | omega | rfl) only [sB]; refine z04 ?_))
   obtain rfl : i = u.sub.length := by omega
   rw [List.take_length] at hlt'
   exact ⟨_, _, ao, co, rfl, (by simp only [sG, Nat.reduceEqDiff, t1] <;> rfl), (by simp only [sG, Nat.reduceEqDiff, t2] <;> rfl), (by simp only [sG, Nat.reduceEqDiff, t3] <;> rfl), gbG, gqG, hlt', hao, hxG⟩
  obtain ⟨b, o, rfl, hSb, hbl, hld, hri⟩ := hel i hlt
  obtain ⟨ta1, tc1, a1, c1, cells1, e1, -⟩ := hri.inv
  rw [e1] at hld hri
  have hld1 := hxG.load hw hld
  (repeat refine EvC.seq ?_); refine EvC.reg ?_; simp (config := { maxSteps := 2000000 }) (disch := first | omega | rfl) only [sA, t8, t9, decl hlt]
  (repeat refine EvC.seq ?_); refine EvC.condT (by simp (config := { maxSteps := 2000000 }) (disch := first | omega | rfl) only [sB]) ?_; (try refine EvC.skip ?_); (try simp only [z02, z03])
  refine EvC.seq ?_
  refine EvC.block ?_
  (repeat refine EvC.seq ?_); refine EvC.reg ?_; simp (config := { maxSteps := 2000000 }) (disch := first | omega | rfl) only [sB, dAlloc, Nat.reduceEqDiff, Nat.reduceAdd, one, ia28, ld30, zr30, st30, t7, t9, hld1]
  obtain ⟨H4, e4, hx4, g5, hn4, hw4⟩ := z0l hwG (.row zero8 30) (.row (eightT u.sub[i].kind u.sub[i].term ta1 tc1 a1 u.sub[i].sub.length c1) 30)
  simp only [e4]
  clear e4
  have q5 := row8 g5
  have hxf := hxG.trans hx4
  (repeat refine EvC.seq ?_); refine EvC.reg ?_; simp (config := { maxSteps := 2000000 }) (disch := first | omega | rfl) only [sB, Nat.reduceEqDiff, Nat.reduceAdd, Value.cells, layC, ld30, cl29, zbj, t3, q5]
  have hsz1 := Bdy.size u u.sub[i] (List.getElem_mem _)
  refine (ih (u := u.sub[i]) (by omega) (hri.to fun n hn hl => ⟨hxf.keep n hl, hn, Nat.lt_of_lt_of_le hl hxf.next⟩) (hfew.sub _ (List.getElem_mem _)) (fun n hn => Nat.lt_of_lt_of_le (hS n hn) hxf.next) hw4).mono ?_
  rintro v H5 ⟨hx5, out, rfl, hrep⟩
  obtain ⟨t6, k6, cells6, rfl, -⟩ := hrep.rep.six
  try simp (config := { maxSteps := 2000000 }) (disch := first | omega | rfl) only [sB, Nat.reduceEqDiff, Nat.reduceAdd, one]
  obtain ⟨H6, e6, hx6, g6, hn6, hw6⟩ := new1 hx5.wf (.row (six (toldB u.sub[i]) t6 k6) 25)
  simp only [e6]
  clear e6
  have hx46 := hx4.trans (hx5.trans hx6)
  have n4 := hx4.next
  have n5 := hx5.next
  have nG := hxG.next
  have lqG := hwG _ _ gqG
  have etl : ((u.sub.take i).map toldB).length = i := by rw [List.length_map, List.length_take]; omega
  obtain ⟨H7, e7, hlt7, hk7, hn7⟩ := LT.push (P := Tryd.prog) (t := 23) (E' := fun n => (S n ∨ (H.next + 2 ≤ n ∧ n < H6.next + 1)) ∧ (some ⟨H6.next, 0, none⟩ : Option Addr) ≠ some ⟨n, 0, none⟩) (E2 := fun n => S n ∨ (H4.next ≤ n ∧ n < H5.next)) (u := toldB u.sub[i]) (c1 := 1) ean
   (hlt'.to (H' := H6) (E' := fun n => (S n ∨ (H.next + 2 ≤ n ∧ n < G.next)) ∧ ao ≠ some ⟨n, 0, none⟩) (fun n _ hl => hx46.keep n hl) hx46.next (fun n hn => hn) fun n hn h => h.2 hn) hw6 (ld1 g6 rfl) (hrep.to fun n hn hl => ⟨hx6.keep n hl, hn, by omega⟩)
   (fun n hn ha => by
    have h1 := hao n ha
    rcases hn with hn | hn
    ·have := hS n hn; omega
    ·omega) (fun n hn => by
    rcases hn.1 with h | h
    ·have := hS n h; omega
    ·omega) (fun n hn => by
    rcases hn with h | h
    ·have := hS n h; omega
    ·omega) (by rw [etl]; unfold most; omega) (fun n hn => by
    rcases hn with ⟨h, _⟩ | h
    ·refine ⟨h.imp_right fun h => ⟨h.1, by omega⟩, fun e => ?_⟩
     injection e with e; injection e with e
     rcases h with h | h
     ·have := hS n h; omega
     ·omega
    ·refine ⟨h.imp_right fun h => ⟨by omega, by omega⟩, fun e => ?_⟩
     injection e with e; injection e with e
     rcases h with h | h
     ·have := hS n h; omega
     ·omega) (fun h => h.2 rfl)
  rw [etl] at e7 hlt7
  have ha1 : ao ≠ some ⟨H.next, 0, none⟩ := fun h => by have := hao _ h; omega
  have ha2 : ao ≠ some ⟨H.next + 1, 0, none⟩ := fun h => by have := hao _ h; omega
  have gb7 := hk7.get hw6 (hx46.get hwG gbG) ha1
  have gq7 := hk7.get hw6 (hx46.get hwG gqG) ha2
  have hx7 : HX H H7 := (hxG.trans hx46).then hk7 fun n hn h => by have := hao _ h; omega
  repeat' (first | refine EvC.seq ?_ | refine EvC.scope ?_ | refine EvC.block ?_ | (refine EvC.skip ?_) | (refine EvC.exit ?_) | (refine EvC.ret ?_; try simp only [z01, z00]) | (refine EvC.reg ?_; simp (config := { maxSteps := 2000000 }) (disch := first | omega | rfl) only [sB, Nat.reduceEqDiff, t9, z0c]) | (refine z0q ?_; simp (config := { maxSteps := 2000000 }) (disch := first | omega | rfl) only [sB, Nat.reduceEqDiff, e7]))
  refine ⟨u.sub.length - (i + 1), by omega, _, _, i + 1, some ⟨H6.next, 0, none⟩, i + 1, rfl, rfl, by omega, (by simp only [sG, Nat.reduceEqDiff, t1] <;> rfl), (by simp only [sG, Nat.reduceEqDiff, t2] <;> rfl), (by simp only [sG, Nat.reduceEqDiff] <;> rfl), (by simp only [sG, Nat.reduceEqDiff, t7] <;> rfl), (by simp only [sG, Nat.reduceEqDiff, t8] <;> rfl), (by simp only [sB, Nat.reduceEqDiff] <;> rfl), gb7, gq7, ?_, fun n h => by injection h with h; injection h with h; omega, hx7⟩
  rw [← List.take_append_getElem hlt, List.map_append, hn7]
  exact hlt7
 rintro st ⟨tm, G, ao, co, rfl, t1, t2, t3, gb, gq, hlt', hao, hxG⟩
 have qb := row8 gb
 have htold := z2a u
 have hll : (u.sub.map toldB).length = u.sub.length := List.length_map _
 have hww := hxG.wf
 have lq := hww _ _ gq
 have hcm' : co ≤ maxLen := by
  rcases hlt' with ⟨-, -, rfl⟩ | ⟨b, cells, -, -, h, -⟩
  ·exact Nat.zero_le _
  ·exact h
 have hrG : RepS G S u.term (six u.term ta tc) := hr.to fun n hn hl => ⟨hxG.keep n hl, hn, Nat.lt_of_lt_of_le hl hxG.next⟩
 simp only [z02]
 (repeat refine EvC.seq ?_)
 refine EvC.block ?_
 generalize hL : u.sub.map toldB = L at htold hll hlt'
 by_cases k2 : u.kind = 2
 ·(repeat refine EvC.seq ?_); refine EvC.reg ?_; simp (config := { maxSteps := 2000000 }) (disch := first | omega | rfl) only [sB, Nat.reduceEqDiff, z1k, ld3, t1, qb, z0r k2]
  (repeat refine EvC.seq ?_); refine EvC.condT (by simp (config := { maxSteps := 2000000 }) (disch := first | omega | rfl) only [sB, Nat.reduceEqDiff]) ?_; (try refine EvC.skip ?_); (try simp only [z02, z03])
  (repeat refine EvC.seq ?_); refine EvC.reg ?_; simp (config := { maxSteps := 2000000 }) (disch := first | omega | rfl) only [sB, Nat.reduceEqDiff, cl39]
  refine (z3n hww).mono ?_
  rintro v H5 ⟨rfl, hx5⟩
  have n5 := hx5.next
  have nG := hxG.next
  have gq5 := hx5.get hww gq
  repeat' (first | refine EvC.seq ?_ | refine EvC.scope ?_ | refine EvC.block ?_ | (refine EvC.skip ?_) | (refine EvC.exit ?_) | (refine EvC.ret ?_; try simp only [z01, z00]) | (refine z0q ?_; simp (config := { maxSteps := 2000000 }) (disch := first | omega | rfl) only [sB, Nat.reduceAdd, one, st25, t2, gq5]))
  refine z0a rfl (by simp only [sB, Nat.reduceEqDiff, t2] <;> rfl) (by simp only [sB, Nat.reduceAdd, cutC, ld25] <;> rfl) ⟨(hxG.trans hx5).pt (by omega) gq5 _, _, rfl, ?_⟩
  rw [htold, tellB, if_pos k2]
  exact z3o (by decide)
 (repeat refine EvC.seq ?_); refine EvC.reg ?_; simp (config := { maxSteps := 2000000 }) (disch := first | omega | rfl) only [sB, Nat.reduceEqDiff, z1k, ld3, t1, qb, z0t k2]
 (repeat refine EvC.seq ?_); refine EvC.condF (by simp (config := { maxSteps := 2000000 }) (disch := first | omega | rfl) only [sB, Nat.reduceEqDiff]) ?_; (try refine EvC.skip ?_); (try simp only [z02, z03])
 refine EvC.frame (fun tm => tm.get 1 = some (.pointer (some ⟨H.next, 0, none⟩)) ∧ tm.get 2 = some (.pointer (some ⟨H.next + 1, 0, none⟩)) ∧ tm.get 3 = some (.slice ao u.sub.length co)) ⟨(by simp only [sG, Nat.reduceEqDiff, t1] <;> rfl), (by simp only [sG, Nat.reduceEqDiff, t2] <;> rfl), (by simp only [sG, Nat.reduceEqDiff, t3] <;> rfl)⟩ ?_
 clear t1 t2 t3 tm
 rintro tm ⟨t1, t2, t3⟩
 by_cases k3 : u.kind = 3
 ·(repeat refine EvC.seq ?_); refine EvC.reg ?_; simp (config := { maxSteps := 2000000 }) (disch := first | omega | rfl) only [sB, Nat.reduceEqDiff, z1k, ld3, t1, qb, z0r k3]
  (repeat refine EvC.seq ?_); refine EvC.condT (by simp (config := { maxSteps := 2000000 }) (disch := first | omega | rfl) only [sB, Nat.reduceEqDiff]) ?_; (try refine EvC.skip ?_); (try simp only [z02, z03])
  have nG := hxG.next
  repeat' (first | refine EvC.seq ?_ | refine EvC.scope ?_ | refine EvC.block ?_ | (refine EvC.skip ?_) | (refine EvC.exit ?_) | (refine EvC.ret ?_; try simp only [z01, z00]) | (refine EvC.reg ?_; simp (config := { maxSteps := 2000000 }) (disch := first | omega | rfl) only [sB, Nat.reduceEqDiff, Nat.reduceAdd, one, st25, z8v, ld25, t1, t2, qb, gq]))
  refine z0a rfl (by simp only [sB, Nat.reduceEqDiff, t2] <;> rfl) (by simp only [sB, Nat.reduceAdd, cutC, ld25] <;> rfl) ⟨hxG.pt (by omega) gq _, _, rfl, ?_⟩
  rw [htold, tellB, if_neg k2, if_pos k3]
  refine hrG.to fun n hn hl => ?_
  have := hS n hn
  exact ⟨by rw [get_put, if_neg (by omega)], .inl hn, by rw [z07]; exact hl⟩
 (repeat refine EvC.seq ?_); refine EvC.reg ?_; simp (config := { maxSteps := 2000000 }) (disch := first | omega | rfl) only [sB, Nat.reduceEqDiff, z1k, ld3, t1, qb, z0t k3]
 (repeat refine EvC.seq ?_); refine EvC.condF (by simp (config := { maxSteps := 2000000 }) (disch := first | omega | rfl) only [sB, Nat.reduceEqDiff]) ?_; (try refine EvC.skip ?_); (try simp only [z02, z03])
 refine EvC.frame (fun tm => tm.get 1 = some (.pointer (some ⟨H.next, 0, none⟩)) ∧ tm.get 2 = some (.pointer (some ⟨H.next + 1, 0, none⟩)) ∧ tm.get 3 = some (.slice ao u.sub.length co)) ⟨(by simp only [sG, Nat.reduceEqDiff, t1] <;> rfl), (by simp only [sG, Nat.reduceEqDiff, t2] <;> rfl), (by simp only [sG, Nat.reduceEqDiff, t3] <;> rfl)⟩ ?_
 clear t1 t2 t3 tm
 rintro tm ⟨t1, t2, t3⟩
 by_cases k4 : u.kind = 4 ∧ L.length = 2
 ·have hl' : (u.sub.length : Int) = 2 := by omega
  (repeat refine EvC.seq ?_); refine EvC.reg ?_; simp (config := { maxSteps := 2000000 }) (disch := first | omega | rfl) only [sB, Nat.reduceEqDiff, z1k, ld3, ln23, t1, t3, qb, z0r k4.1, z0r hl']
  (repeat refine EvC.seq ?_); refine EvC.condT (by simp (config := { maxSteps := 2000000 }) (disch := first | omega | rfl) only [sB, Nat.reduceEqDiff]) ?_; (try refine EvC.skip ?_); (try simp only [z02, z03])
  (repeat refine EvC.seq ?_); refine EvC.reg ?_; simp (config := { maxSteps := 2000000 }) (disch := first | omega | rfl) only [sB, Nat.reduceEqDiff, cl44, t3]
  refine (z1y hww).mono ?_
  rintro v H5 ⟨rfl, hx5⟩
  have n5 := hx5.next
  have nG := hxG.next
  have gq5 := hx5.get hww gq
  repeat' (first | refine EvC.seq ?_ | refine EvC.scope ?_ | refine EvC.block ?_ | (refine EvC.skip ?_) | (refine EvC.exit ?_) | (refine EvC.ret ?_; try simp only [z01, z00]) | (refine z0q ?_; simp (config := { maxSteps := 2000000 }) (disch := first | omega | rfl) only [sB, Nat.reduceAdd, one, st25, t2, gq5]))
  refine z0a rfl (by simp only [sB, Nat.reduceEqDiff, t2] <;> rfl) (by simp only [sB, Nat.reduceAdd, cutC, ld25] <;> rfl) ⟨(hxG.trans hx5).pt (by omega) gq5 _, _, rfl, ?_⟩
  rw [htold, tellB, if_neg k2, if_neg k3, if_pos k4]
  have hcmp : RepS G (fun n => S n ∨ (H.next + 2 ≤ n ∧ n < G.next)) (cmpT sCma L) (six (cmpT sCma L) ao co) := hlt'.comp (by decide) (fun n hn => hn.1) (fun n hn => .inr (hao n hn)) hcm'
  have e6 : six (cmpT sCma L) ao co = [.int .i64 5, .string sCma, .string ByteArray.empty, .int .u64 0, .int .i64 0, .slice ao u.sub.length co] := by show [_, _, _, _, _, Value.slice ao L.length co] = _; rw [hll]; rfl
  rw [e6] at hcmp
  refine hcmp.to fun n hn hl => ?_
  have hne : n ≠ H.next + 1 := by
   rcases hn with h | h
   ·have := hS n h; omega
   ·omega
  exact ⟨by rw [get_put, if_neg hne]; exact hx5.keep n hl, hn.imp_right fun h => ⟨by omega, by rw [z07]; omega⟩, by rw [z07]; omega⟩
 refine EvC.cut (fun st => ∃ tm', st = ⟨tm', [], G⟩ ∧ tm'.get 1 = some (.pointer (some ⟨H.next, 0, none⟩)) ∧ tm'.get 2 = some (.pointer (some ⟨H.next + 1, 0, none⟩)) ∧ tm'.get 3 = some (.slice ao u.sub.length co) ∧ tm'.get 30 = some (.bool false)) ?_ ?_
 ·by_cases kk : u.kind = 4
  ·have hl' : (u.sub.length : Int) ≠ 2 := fun h => k4 ⟨kk, by omega⟩
   (repeat refine EvC.seq ?_); refine EvC.reg ?_; simp (config := { maxSteps := 2000000 }) (disch := first | omega | rfl) only [sB, Nat.reduceEqDiff, z1k, ld3, ln23, t1, t3, qb, z0r kk, z0t hl']
   exact ⟨_, rfl, (by simp only [sG, Nat.reduceEqDiff, t1] <;> rfl), (by simp only [sG, Nat.reduceEqDiff, t2] <;> rfl), (by simp only [sG, Nat.reduceEqDiff, t3] <;> rfl), by first | (simp only [sG, Nat.reduceEqDiff]; rfl) | simp only [sG, Nat.reduceEqDiff]⟩
  ·(repeat refine EvC.seq ?_); refine EvC.reg ?_; simp (config := { maxSteps := 2000000 }) (disch := first | omega | rfl) only [sB, Nat.reduceEqDiff, z1k, ld3, t1, qb, z0t kk, Bool.false_eq_true]
   exact ⟨_, rfl, (by simp only [sG, Nat.reduceEqDiff, t1] <;> rfl), (by simp only [sG, Nat.reduceEqDiff, t2] <;> rfl), (by simp only [sG, Nat.reduceEqDiff, t3] <;> rfl), by first | (simp only [sG, Nat.reduceEqDiff]; rfl) | simp only [sG, Nat.reduceEqDiff]⟩
 clear t1 t2 t3 tm
 rintro st ⟨tm, rfl, t1, t2, t3, tc⟩
 (repeat refine EvC.seq ?_); refine EvC.condF (by simp (config := { maxSteps := 2000000 }) (disch := first | omega | rfl) only [sA, tc]) ?_; (try refine EvC.skip ?_); (try simp only [z02, z03])
 clear tc
 by_cases k5 : u.kind = 5 ∧ L.length = 2
 ·have hl' : (u.sub.length : Int) = 2 := by omega
  (repeat refine EvC.seq ?_); refine EvC.reg ?_; simp (config := { maxSteps := 2000000 }) (disch := first | omega | rfl) only [sB, Nat.reduceEqDiff, z1k, ld3, ln23, t1, t3, qb, z0r k5.1, z0r hl']
  (repeat refine EvC.seq ?_); refine EvC.condT (by simp (config := { maxSteps := 2000000 }) (disch := first | omega | rfl) only [sB, Nat.reduceEqDiff]) ?_; (try refine EvC.skip ?_); (try simp only [z02, z03])
  (repeat refine EvC.seq ?_); refine EvC.reg ?_; simp (config := { maxSteps := 2000000 }) (disch := first | omega | rfl) only [sB, Nat.reduceEqDiff, cl44, t3]
  refine (z1y hww).mono ?_
  rintro v H5 ⟨rfl, hx5⟩
  have n5 := hx5.next
  have nG := hxG.next
  have gq5 := hx5.get hww gq
  repeat' (first | refine EvC.seq ?_ | refine EvC.scope ?_ | refine EvC.block ?_ | (refine EvC.skip ?_) | (refine EvC.exit ?_) | (refine EvC.ret ?_; try simp only [z01, z00]) | (refine z0q ?_; simp (config := { maxSteps := 2000000 }) (disch := first | omega | rfl) only [sB, Nat.reduceAdd, one, st25, t2, gq5]))
  refine z0a rfl (by simp only [sB, Nat.reduceEqDiff, t2] <;> rfl) (by simp only [sB, Nat.reduceAdd, cutC, ld25] <;> rfl) ⟨(hxG.trans hx5).pt (by omega) gq5 _, _, rfl, ?_⟩
  rw [htold, tellB, if_neg k2, if_neg k3, if_neg k4, if_pos k5]
  have hcmp : RepS G (fun n => S n ∨ (H.next + 2 ≤ n ∧ n < G.next)) (cmpT sSem L) (six (cmpT sSem L) ao co) := hlt'.comp (by decide) (fun n hn => hn.1) (fun n hn => .inr (hao n hn)) hcm'
  have e6 : six (cmpT sSem L) ao co = [.int .i64 5, .string sSem, .string ByteArray.empty, .int .u64 0, .int .i64 0, .slice ao u.sub.length co] := by show [_, _, _, _, _, Value.slice ao L.length co] = _; rw [hll]; rfl
  rw [e6] at hcmp
  refine hcmp.to fun n hn hl => ?_
  have hne : n ≠ H.next + 1 := by
   rcases hn with h | h
   ·have := hS n h; omega
   ·omega
  exact ⟨by rw [get_put, if_neg hne]; exact hx5.keep n hl, hn.imp_right fun h => ⟨by omega, by rw [z07]; omega⟩, by rw [z07]; omega⟩
 refine EvC.cut (fun st => ∃ tm', st = ⟨tm', [], G⟩ ∧ tm'.get 1 = some (.pointer (some ⟨H.next, 0, none⟩)) ∧ tm'.get 2 = some (.pointer (some ⟨H.next + 1, 0, none⟩)) ∧ tm'.get 3 = some (.slice ao u.sub.length co) ∧ tm'.get 41 = some (.bool false)) ?_ ?_
 ·by_cases kk : u.kind = 5
  ·have hl' : (u.sub.length : Int) ≠ 2 := fun h => k5 ⟨kk, by omega⟩
   (repeat refine EvC.seq ?_); refine EvC.reg ?_; simp (config := { maxSteps := 2000000 }) (disch := first | omega | rfl) only [sB, Nat.reduceEqDiff, z1k, ld3, ln23, t1, t3, qb, z0r kk, z0t hl']
   exact ⟨_, rfl, (by simp only [sG, Nat.reduceEqDiff, t1] <;> rfl), (by simp only [sG, Nat.reduceEqDiff, t2] <;> rfl), (by simp only [sG, Nat.reduceEqDiff, t3] <;> rfl), by first | (simp only [sG, Nat.reduceEqDiff]; rfl) | simp only [sG, Nat.reduceEqDiff]⟩
  ·(repeat refine EvC.seq ?_); refine EvC.reg ?_; simp (config := { maxSteps := 2000000 }) (disch := first | omega | rfl) only [sB, Nat.reduceEqDiff, z1k, ld3, t1, qb, z0t kk, Bool.false_eq_true]
   exact ⟨_, rfl, (by simp only [sG, Nat.reduceEqDiff, t1] <;> rfl), (by simp only [sG, Nat.reduceEqDiff, t2] <;> rfl), (by simp only [sG, Nat.reduceEqDiff, t3] <;> rfl), by first | (simp only [sG, Nat.reduceEqDiff]; rfl) | simp only [sG, Nat.reduceEqDiff]⟩
 clear t1 t2 t3 tm
 rintro st ⟨tm, rfl, t1, t2, t3, tc⟩
 (repeat refine EvC.seq ?_); refine EvC.condF (by simp (config := { maxSteps := 2000000 }) (disch := first | omega | rfl) only [sA, tc]) ?_; (try refine EvC.skip ?_); (try simp only [z02, z03])
 clear tc
 by_cases k6 : u.kind = 6 ∧ L.length = 2
 ·have hl' : (u.sub.length : Int) = 2 := by omega
  (repeat refine EvC.seq ?_); refine EvC.reg ?_; simp (config := { maxSteps := 2000000 }) (disch := first | omega | rfl) only [sB, Nat.reduceEqDiff, z1k, ld3, ln23, t1, t3, qb, z0r k6.1, z0r hl']
  (repeat refine EvC.seq ?_); refine EvC.condT (by simp (config := { maxSteps := 2000000 }) (disch := first | omega | rfl) only [sB, Nat.reduceEqDiff]) ?_; (try refine EvC.skip ?_); (try simp only [z02, z03])
  (repeat refine EvC.seq ?_); refine EvC.reg ?_; simp (config := { maxSteps := 2000000 }) (disch := first | omega | rfl) only [sB, Nat.reduceEqDiff, cl44, t3]
  refine (z1y hww).mono ?_
  rintro v H5 ⟨rfl, hx5⟩
  have n5 := hx5.next
  have nG := hxG.next
  have gq5 := hx5.get hww gq
  repeat' (first | refine EvC.seq ?_ | refine EvC.scope ?_ | refine EvC.block ?_ | (refine EvC.skip ?_) | (refine EvC.exit ?_) | (refine EvC.ret ?_; try simp only [z01, z00]) | (refine z0q ?_; simp (config := { maxSteps := 2000000 }) (disch := first | omega | rfl) only [sB, Nat.reduceAdd, one, st25, t2, gq5]))
  refine z0a rfl (by simp only [sB, Nat.reduceEqDiff, t2] <;> rfl) (by simp only [sB, Nat.reduceAdd, cutC, ld25] <;> rfl) ⟨(hxG.trans hx5).pt (by omega) gq5 _, _, rfl, ?_⟩
  rw [htold, tellB, if_neg k2, if_neg k3, if_neg k4, if_neg k5, if_pos k6]
  have hcmp : RepS G (fun n => S n ∨ (H.next + 2 ≤ n ∧ n < G.next)) (cmpT sArr L) (six (cmpT sArr L) ao co) := hlt'.comp (by decide) (fun n hn => hn.1) (fun n hn => .inr (hao n hn)) hcm'
  have e6 : six (cmpT sArr L) ao co = [.int .i64 5, .string sArr, .string ByteArray.empty, .int .u64 0, .int .i64 0, .slice ao u.sub.length co] := by show [_, _, _, _, _, Value.slice ao L.length co] = _; rw [hll]; rfl
  rw [e6] at hcmp
  refine hcmp.to fun n hn hl => ?_
  have hne : n ≠ H.next + 1 := by
   rcases hn with h | h
   ·have := hS n h; omega
   ·omega
  exact ⟨by rw [get_put, if_neg hne]; exact hx5.keep n hl, hn.imp_right fun h => ⟨by omega, by rw [z07]; omega⟩, by rw [z07]; omega⟩
 refine EvC.cut (fun st => ∃ tm', st = ⟨tm', [], G⟩ ∧ tm'.get 1 = some (.pointer (some ⟨H.next, 0, none⟩)) ∧ tm'.get 2 = some (.pointer (some ⟨H.next + 1, 0, none⟩)) ∧ tm'.get 3 = some (.slice ao u.sub.length co) ∧ tm'.get 52 = some (.bool false)) ?_ ?_
 ·by_cases kk : u.kind = 6
  ·have hl' : (u.sub.length : Int) ≠ 2 := fun h => k6 ⟨kk, by omega⟩
   (repeat refine EvC.seq ?_); refine EvC.reg ?_; simp (config := { maxSteps := 2000000 }) (disch := first | omega | rfl) only [sB, Nat.reduceEqDiff, z1k, ld3, ln23, t1, t3, qb, z0r kk, z0t hl']
   exact ⟨_, rfl, (by simp only [sG, Nat.reduceEqDiff, t1] <;> rfl), (by simp only [sG, Nat.reduceEqDiff, t2] <;> rfl), (by simp only [sG, Nat.reduceEqDiff, t3] <;> rfl), by first | (simp only [sG, Nat.reduceEqDiff]; rfl) | simp only [sG, Nat.reduceEqDiff]⟩
  ·(repeat refine EvC.seq ?_); refine EvC.reg ?_; simp (config := { maxSteps := 2000000 }) (disch := first | omega | rfl) only [sB, Nat.reduceEqDiff, z1k, ld3, t1, qb, z0t kk, Bool.false_eq_true]
   exact ⟨_, rfl, (by simp only [sG, Nat.reduceEqDiff, t1] <;> rfl), (by simp only [sG, Nat.reduceEqDiff, t2] <;> rfl), (by simp only [sG, Nat.reduceEqDiff, t3] <;> rfl), by first | (simp only [sG, Nat.reduceEqDiff]; rfl) | simp only [sG, Nat.reduceEqDiff]⟩
 clear t1 t2 t3 tm
 rintro st ⟨tm, rfl, t1, t2, t3, tc⟩
 (repeat refine EvC.seq ?_); refine EvC.condF (by simp (config := { maxSteps := 2000000 }) (disch := first | omega | rfl) only [sA, tc]) ?_; (try refine EvC.skip ?_); (try simp only [z02, z03])
 clear tc
 by_cases k6t : u.kind = 6 ∧ L.length = 3
 ·have hl' : (u.sub.length : Int) = 3 := by omega
  obtain ⟨x, y, z, hxy⟩ : ∃ x y z, L = [x, y, z] := by
   match L, k6t.2 with
   | [x, y, z], _ => exact ⟨x, y, z, rfl⟩
  subst hxy
  obtain ⟨b, a1, c1, rfl, l0, r1, hbl⟩ := hlt'.el (i := 0) (by show 0 < 3; decide)
  obtain ⟨b', a2, c2, e2, l1, r2, -⟩ := hlt'.el (i := 1) (by show 1 < 3; decide)
  cases e2
  obtain ⟨b'', a3, c3, e3, l2, r3, -⟩ := hlt'.el (i := 2) (by show 2 < 3; decide)
  cases e3
  simp only [List.getElem_cons_zero, List.getElem_cons_succ, Nat.zero_mul, Nat.one_mul] at l0 l1 l2 r1 r2 r3
  have nG := hxG.next
  obtain ⟨L4, eL4⟩ : ∃ L4, six x a1 c1 ++ six y a2 c2 = L4 := ⟨_, rfl⟩
  have eL4' := eL4
  simp only [six, List.cons_append, List.nil_append] at eL4'
  obtain ⟨H4, e4⟩ : ∃ H4, (⟨G.next + 14, G.t⟩ : Heap).put (G.next + 6) (some (.row L4 25)) = H4 := ⟨_, rfl⟩
  have hx4 : HX G H4 := by rw [← e4]; exact (((HX.refl hww).bump 14).put (by omega) (by show _ < G.next + 14; omega) _)
  have n4 : H4.next = G.next + 14 := by rw [← e4]; rfl
  have g4 : H4.get (G.next + 6) = some (.row L4 25) := by rw [← e4, get_put, if_pos rfl]
  have nb6 : (b = G.next + 6) = False := by simp; omega
  (repeat refine EvC.seq ?_); refine EvC.reg ?_; simp (config := { maxSteps := 2000000 }) (disch := first | omega | rfl) only [sB, Nat.reduceEqDiff, z1k, ld3, ln23, t1, t3, qb, z0r k6t.1, z0r hl']
  (repeat refine EvC.seq ?_); refine EvC.condT (by simp (config := { maxSteps := 2000000 }) (disch := first | omega | rfl) only [sB, Nat.reduceEqDiff]) ?_; (try refine EvC.skip ?_); (try simp only [z02, z03])
  (repeat refine EvC.seq ?_); refine EvC.drw [([(0, 0), (1, 0), (2, 0), (3, 0), (4, 0), (5, 0), (6, 0)], some 7), ([(8, 0), (9, 0), (10, 0), (11, 1)], some 12), ([], some 13), ([], none)] (by kernel_rfl) ?_; simp (config := { maxSteps := 2000000 }) (disch := first | omega | rfl) only [sD, sB, Nat.reduceEqDiff, Nat.reduceAdd, Value.cells, one, reduceCtorEq, Nat.reduceLeDiff, layC, Int.reduceToNat, ld25, cl44, z7n, isAlloc, isRead, dalloc, reduceCtorEq, t3, l0, l1, iz23, Nat.zero_mul, Nat.one_mul, eL4', e4]
  refine (z1y hx4.wf).mono ?_
  rintro v H5 ⟨rfl, hx5⟩
  have n5 := hx5.next
  have l2' := hx5.load hx4.wf (hx4.load hww l2)
  obtain ⟨L6, eL6⟩ : ∃ L6, six (cmpT sArr [x, y]) (some ⟨G.next + 6, 0, none⟩) 2 ++ six z a3 c3 = L6 := ⟨_, rfl⟩
  have eL6' : [.int .i64 5, .string sArr, .string ByteArray.empty, .int .u64 0, .int .i64 0, .slice (some ⟨G.next + 6, 0, none⟩) 2 2, .int .i64 z.kind, .string z.name, .string z.num, .int .u64 z.bits, .int .i64 z.var, .slice a3 z.args.length c3] = L6 := eL6
  obtain ⟨H6, e6⟩ : ∃ H6, H5.put (G.next + 11) (some (.row L6 25)) = H6 := ⟨_, rfl⟩
  have hx6 : HX G H6 := by rw [← e6]; exact (hx4.trans hx5).put (by omega) (by omega) _
  have n6 : H6.next = H5.next := by rw [← e6]; rfl
  have g6 : H6.get (G.next + 11) = some (.row L6 25) := by rw [← e6, get_put, if_pos rfl]
  have g46 : H6.get (G.next + 6) = some (.row L4 25) := by rw [← e6, get_put, if_neg (by omega)]; exact hx5.get hx4.wf g4
  have l24 := hx4.load hww l2
  repeat' (first | refine EvC.seq ?_ | refine EvC.scope ?_ | refine EvC.block ?_ | (refine EvC.skip ?_) | (refine EvC.exit ?_) | (refine EvC.ret ?_; try simp only [z01, z00]) | (refine z0u ?_; simp (config := { maxSteps := 2000000 }) (disch := first | omega | rfl) only [sV, sD, sB, Nat.reduceEqDiff, Nat.reduceAdd, Value.cells, one, reduceCtorEq, Nat.reduceLeDiff, layC, Int.reduceToNat, ld25, cl44, z7n, t3, l2, l2', iz23, Nat.reduceMul, eL6', e6, isAlloc, isRead, dalloc, reduceCtorEq]))
  refine (z1y hx6.wf).mono ?_
  rintro v H7 ⟨rfl, hx7⟩
  have n7 := hx7.next
  have hx67 := hx6.trans hx7
  have gq7 := hx67.get hww gq
  repeat' (first | refine EvC.seq ?_ | refine EvC.scope ?_ | refine EvC.block ?_ | (refine EvC.skip ?_) | (refine EvC.exit ?_) | (refine EvC.ret ?_; try simp only [z01, z00]) | (refine z0u ?_; simp (config := { maxSteps := 2000000 }) (disch := first | omega | rfl) only [sD, sB, Nat.reduceEqDiff, Nat.reduceAdd, one, st25, t2, gq7]))
  refine z0a rfl (by simp only [sB, Nat.reduceEqDiff, t2] <;> rfl) (by simp only [sB, Nat.reduceAdd, cutC, ld25] <;> rfl) ⟨(hxG.trans hx67).pt (by omega) gq7 _, _, rfl, ?_⟩
  have k4' : ¬ (u.kind = 4 ∧ [x, y, z].length = 2) := k4
  rw [htold, tellB, if_neg k2, if_neg k3, if_neg k4, if_neg k5, if_neg k6, if_pos k6t]
  have rr : ∀ {w : Tm} {cs : List Value}, RepS G (fun n => (S n ∨ (H.next + 2 ≤ n ∧ n < G.next)) ∧ (some ⟨b, 0, none⟩ : Option Addr) ≠ some ⟨n, 0, none⟩) w cs → RepS H7 (fun n => (S n ∨ (H.next + 2 ≤ n ∧ n < H7.next))) w cs := fun h => h.to fun n hn hl => ⟨hx67.keep n hl, hn.1.imp_right fun h => ⟨h.1, by omega⟩, by omega⟩
  subst eL4 eL6
  have ho : RepS H7 (fun n => (S n ∨ (H.next + 2 ≤ n ∧ n < H7.next))) (cmpT sSem [cmpT sArr [x, y], z]) (six (cmpT sSem [cmpT sArr [x, y], z]) (some ⟨G.next + 11, 0, none⟩) 2) :=
   z5o (by decide) (hx7.get hx6.wf g6) (.inr ⟨by omega, by omega⟩) hx7.wf (z5o (by decide) (hx7.get hx6.wf g46) (.inr ⟨by omega, by omega⟩) hx7.wf (rr r1) (rr r2)) (rr r3)
  refine ho.to fun n hn hl => ?_
  have hne : n ≠ H.next + 1 := by
   rcases hn with h | h
   ·have := hS n h; omega
   ·omega
  exact ⟨by rw [get_put, if_neg hne], hn.imp_right fun h => ⟨by omega, by rw [z07]; omega⟩, by rw [z07]; omega⟩
 refine EvC.cut (fun st => ∃ tm', st = ⟨tm', [], G⟩ ∧ tm'.get 1 = some (.pointer (some ⟨H.next, 0, none⟩)) ∧ tm'.get 2 = some (.pointer (some ⟨H.next + 1, 0, none⟩)) ∧ tm'.get 3 = some (.slice ao u.sub.length co) ∧ tm'.get 63 = some (.bool false)) ?_ ?_
 ·by_cases kk : u.kind = 6
  ·have hl' : (u.sub.length : Int) ≠ 3 := fun h => k6t ⟨kk, by omega⟩
   (repeat refine EvC.seq ?_); refine EvC.reg ?_; simp (config := { maxSteps := 2000000 }) (disch := first | omega | rfl) only [sB, Nat.reduceEqDiff, z1k, ld3, ln23, t1, t3, qb, z0r kk, z0t hl']
   exact ⟨_, rfl, (by simp only [sG, Nat.reduceEqDiff, t1] <;> rfl), (by simp only [sG, Nat.reduceEqDiff, t2] <;> rfl), (by simp only [sG, Nat.reduceEqDiff, t3] <;> rfl), by first | (simp only [sG, Nat.reduceEqDiff]; rfl) | simp only [sG, Nat.reduceEqDiff]⟩
  ·(repeat refine EvC.seq ?_); refine EvC.reg ?_; simp (config := { maxSteps := 2000000 }) (disch := first | omega | rfl) only [sB, Nat.reduceEqDiff, z1k, ld3, t1, qb, z0t kk, Bool.false_eq_true]
   exact ⟨_, rfl, (by simp only [sG, Nat.reduceEqDiff, t1] <;> rfl), (by simp only [sG, Nat.reduceEqDiff, t2] <;> rfl), (by simp only [sG, Nat.reduceEqDiff, t3] <;> rfl), by first | (simp only [sG, Nat.reduceEqDiff]; rfl) | simp only [sG, Nat.reduceEqDiff]⟩
 clear t1 t2 t3 tm
 rintro st ⟨tm, rfl, t1, t2, t3, tc⟩
 (repeat refine EvC.seq ?_); refine EvC.condF (by simp (config := { maxSteps := 2000000 }) (disch := first | omega | rfl) only [sA, tc]) ?_; (try refine EvC.skip ?_); (try simp only [z02, z03])
 clear tc
 by_cases k7 : u.kind = 7 ∧ L.length = 1
 ·have hl' : (u.sub.length : Int) = 1 := by omega
  obtain ⟨x, hxy⟩ : ∃ x, L = [x] := by
   match L, k7.2 with
   | [x], _ => exact ⟨x, rfl⟩
  subst hxy
  obtain ⟨b, a1, c1, rfl, l0, r1, hbl⟩ := hlt'.el (i := 0) (by show 0 < 1; decide)
  simp only [List.getElem_cons_zero, Nat.zero_mul] at l0 r1
  have nG := hxG.next
  obtain ⟨L4, eL4⟩ : ∃ L4, six u.term ta tc ++ six x a1 c1 = L4 := ⟨_, rfl⟩
  have eL4' := eL4
  simp only [six, List.cons_append, List.nil_append] at eL4'
  obtain ⟨H4, e4⟩ : ∃ H4, (⟨G.next + 8, G.t⟩ : Heap).put (G.next + 5) (some (.row L4 25)) = H4 := ⟨_, rfl⟩
  have hx4 : HX G H4 := by rw [← e4]; exact (((HX.refl hww).bump 8).put (by omega) (by show _ < G.next + 8; omega) _)
  have n4 : H4.next = G.next + 8 := by rw [← e4]; rfl
  have g4 : H4.get (G.next + 5) = some (.row L4 25) := by rw [← e4, get_put, if_pos rfl]
  (repeat refine EvC.seq ?_); refine EvC.reg ?_; simp (config := { maxSteps := 2000000 }) (disch := first | omega | rfl) only [sB, Nat.reduceEqDiff, z1k, ld3, ln23, t1, t3, qb, z0r k7.1, z0r hl']
  (repeat refine EvC.seq ?_); refine EvC.condT (by simp (config := { maxSteps := 2000000 }) (disch := first | omega | rfl) only [sB, Nat.reduceEqDiff]) ?_; (try refine EvC.skip ?_); (try simp only [z02, z03])
  (repeat refine EvC.seq ?_); refine EvC.drw [([(0, 0), (1, 0), (2, 0), (3, 0), (4, 0), (5, 0)], some 6), ([], some 7), ([], none)] (by kernel_rfl) ?_; simp (config := { maxSteps := 2000000 }) (disch := first | omega | rfl) only [sD, sB, Nat.reduceEqDiff, Nat.reduceAdd, Value.cells, one, reduceCtorEq, Nat.reduceLeDiff, layC, Int.reduceToNat, z8v, ld25, cl44, z7n, isAlloc, isRead, dalloc, reduceCtorEq, t1, t3, qb, l0, iz23, Nat.zero_mul, eL4', e4]
  refine (z1y hx4.wf).mono ?_
  rintro v H5 ⟨rfl, hx5⟩
  have n5 := hx5.next
  have hx45 := hx4.trans hx5
  have gq5 := hx45.get hww gq
  repeat' (first | refine EvC.seq ?_ | refine EvC.scope ?_ | refine EvC.block ?_ | (refine EvC.skip ?_) | (refine EvC.exit ?_) | (refine EvC.ret ?_; try simp only [z01, z00]) | (refine z0u ?_; simp (config := { maxSteps := 2000000 }) (disch := first | omega | rfl) only [sD, sB, Nat.reduceEqDiff, Nat.reduceAdd, one, st25, t2, gq5]))
  refine z0a rfl (by simp only [sB, Nat.reduceEqDiff, t2] <;> rfl) (by simp only [sB, Nat.reduceAdd, cutC, ld25] <;> rfl) ⟨(hxG.trans hx45).pt (by omega) gq5 _, _, rfl, ?_⟩
  rw [htold, tellB, if_neg k2, if_neg k3, if_neg k4, if_neg k5, if_neg k6, if_neg k6t, if_pos k7]
  subst eL4
  have ho : RepS H5 (fun n => (S n ∨ (H.next + 2 ≤ n ∧ n < H5.next))) (cmpT sCol [u.term, x]) (six (cmpT sCol [u.term, x]) (some ⟨G.next + 5, 0, none⟩) 2) :=
   z5o (by decide) (hx5.get hx4.wf g4) (.inr ⟨by omega, by omega⟩) hx5.wf (hrG.to fun n hn hl => ⟨hx45.keep n hl, .inl hn, by omega⟩) (r1.to fun n hn hl => ⟨hx45.keep n hl, hn.1.imp_right fun h => ⟨h.1, by omega⟩, by omega⟩)
  refine ho.to fun n hn hl => ?_
  have hne : n ≠ H.next + 1 := by
   rcases hn with h | h
   ·have := hS n h; omega
   ·omega
  exact ⟨by rw [get_put, if_neg hne], hn.imp_right fun h => ⟨by omega, by rw [z07]; omega⟩, by rw [z07]; omega⟩
 refine EvC.join (fun st => ∃ tm', st = ⟨tm', [], G⟩ ∧ tm'.get 2 = some (.pointer (some ⟨H.next + 1, 0, none⟩))) ?_ ?_
 ·by_cases kk : u.kind = 7
  ·have hl' : (u.sub.length : Int) ≠ 1 := fun h => k7 ⟨kk, by omega⟩
   repeat' (first | refine EvC.seq ?_ | refine EvC.scope ?_ | refine EvC.block ?_ | (refine EvC.skip ?_; try simp only [z02]) | (refine EvC.exit ?_) | (refine EvC.ret ?_; try simp only [z01, z00]) | (refine EvC.reg ?_; simp (config := { maxSteps := 2000000 }) (disch := first | omega | rfl) only [sB, Nat.reduceEqDiff, z1k, ld3, ln23, t1, t3, qb, z0r kk, z0t hl']) | (refine EvC.condT ?_ ?_; simp (config := { maxSteps := 2000000 }) (disch := first | omega | rfl) only [sB, Nat.reduceEqDiff]; refine z04 ?_) | (refine EvC.condF ?_ ?_; simp (config := { maxSteps := 2000000 }) (disch := first | omega | rfl) only [sB, Nat.reduceEqDiff]; refine z04 ?_))
   exact ⟨_, rfl, (by simp only [sG, Nat.reduceEqDiff, t2] <;> rfl)⟩
  ·repeat' (first | refine EvC.seq ?_ | refine EvC.scope ?_ | refine EvC.block ?_ | (refine EvC.skip ?_; try simp only [z02]) | (refine EvC.exit ?_) | (refine EvC.ret ?_; try simp only [z01, z00]) | (refine EvC.reg ?_; simp (config := { maxSteps := 2000000 }) (disch := first | omega | rfl) only [sB, Nat.reduceEqDiff, z1k, ld3, t1, qb, z0t kk, Bool.false_eq_true]) | (refine EvC.condT ?_ ?_; simp (config := { maxSteps := 2000000 }) (disch := first | omega | rfl) only [sB, Nat.reduceEqDiff]; refine z04 ?_) | (refine EvC.condF ?_ ?_; simp (config := { maxSteps := 2000000 }) (disch := first | omega | rfl) only [sB, Nat.reduceEqDiff]; refine z04 ?_))
   exact ⟨_, rfl, (by simp only [sG, Nat.reduceEqDiff, t2] <;> rfl)⟩
 rintro st ⟨tm, rfl, t2⟩
 (repeat refine EvC.seq ?_); refine EvC.reg ?_; simp (config := { maxSteps := 2000000 }) (disch := first | omega | rfl) only [sB, Nat.reduceEqDiff, cl39]
 refine (z3n hww).mono ?_
 rintro v H5 ⟨rfl, hx5⟩
 have n5 := hx5.next
 have nG := hxG.next
 have gq5 := hx5.get hww gq
 repeat' (first | refine EvC.seq ?_ | refine EvC.scope ?_ | refine EvC.block ?_ | (refine EvC.skip ?_) | (refine EvC.exit ?_) | (refine EvC.ret ?_; try simp only [z01, z00]) | (refine z0q ?_; simp (config := { maxSteps := 2000000 }) (disch := first | omega | rfl) only [sB, Nat.reduceAdd, one, st25, t2, gq5]))
 refine z0a rfl (by simp only [sB, Nat.reduceEqDiff, t2] <;> rfl) (by simp only [sB, Nat.reduceAdd, cutC, ld25] <;> rfl) ⟨(hxG.trans hx5).pt (by omega) gq5 _, _, rfl, ?_⟩
 rw [htold, zgu k2 k3 k4 k5 k6 k6t k7]
 exact z3o (by decide)
set_option maxHeartbeats 2000000 in
theorem za8 {s : ByteArray} {H : Heap} (hs : s.size ≤ maxLen) (hw : H.wf) :
  EvF Tryd.prog okT 30 [.string s] H fun v H' => HX H H' ∧ RepES H' (Rg H.next H'.next) (.ball (resT s)) v := by
 refine EvF.enter rfl Tryd.func30 (by decide) rfl ?_
 (repeat refine EvC.seq ?_); refine EvC.reg ?_; simp (config := { maxSteps := 2000000 }) (disch := first | omega | rfl) only [sA, initTm]
 (repeat refine EvC.seq ?_); refine EvC.reg ?_; simp (config := { maxSteps := 2000000 }) (disch := first | omega | rfl) only [sB, Nat.reduceEqDiff, Nat.reduceAdd, Value.cells, reduceCtorEq, layC, cl39, zbj]
 refine (z3n hw).mono ?_
 rintro v H3 ⟨rfl, hx3⟩
 have n3 := hx3.next
 repeat' (first | refine EvC.seq ?_ | refine EvC.scope ?_ | refine EvC.block ?_ | (refine EvC.skip ?_) | (refine EvC.exit ?_) | (refine EvC.ret ?_; try simp only [z01, z00]) | (refine z0q ?_; simp (config := { maxSteps := 2000000 }) (disch := first | omega | rfl) only [sB, Nat.reduceEqDiff, Nat.reduceAdd, one, reduceCtorEq, cl44, cl41]))
 obtain ⟨H4, e4, hx4, g4, hn4, hw4⟩ := new1 hx3.wf (.row (six (atmT s) none 0) 25)
 simp only [e4]
 refine (z1y hw4).mono ?_
 rintro v H5 ⟨rfl, hx5⟩
 have n5 := hx5.next
 have g5 := hx5.get hw4 g4
 have hr : RepS H5 (fun n => n = H3.next) (resT s) (six (resT s) (some ⟨H3.next, 0, none⟩) 1) := RepS.row (t := resT s) (zc4 (by decide)) rfl g5 rfl (hx5.wf _ _ g5) (Nat.le_refl _) (Nat.le_refl _) (by decide) fun j hj => by
  match j, hj with
  | 0, _ => exact z3o hs
 repeat' (first | refine EvC.seq ?_ | refine EvC.scope ?_ | refine EvC.block ?_ | (refine EvC.skip ?_) | (refine EvC.exit ?_) | (refine EvC.ret ?_; try simp only [z01, z00]))
 refine (z6q hr hx5.wf (fun n hn => by omega)).mono ?_
 rintro v H6 ⟨hx6, he⟩
 have n6 := hx6.next
 repeat' (first | refine EvC.seq ?_ | refine EvC.scope ?_ | refine EvC.block ?_ | (refine EvC.skip ?_) | (refine EvC.exit ?_) | (refine EvC.ret ?_; try simp only [z01, z00]))
 refine z06 rfl (by simp only [sG, Nat.reduceEqDiff, reduceCtorEq] <;> rfl) ⟨((hx3.trans hx4).trans hx5).trans hx6, he.to fun n hn hl => ⟨rfl, ?_, hl⟩⟩
 rcases hn with rfl | hn
 ·exact ⟨by omega, by omega⟩
 ·exact ⟨by omega, by omega⟩
set_option maxHeartbeats 4000000 in
theorem z5p {s : ByteArray} {t : Tm} {cs : List Value} {H : Heap} (hs : s.size ≤ maxLen) (r0 : RepT H t cs) (hc : checkS t = 0) (hw : H.wf) :
  EvF Tryd.prog okT 26 [.string s, .agg ⟨cs⟩] H fun v H' => HX H H' ∧ RepES H' (Rg H.next H'.next) (.ball (typeT s t)) v := by
 obtain ⟨a, c, cells, rfl, -⟩ := r0.six
 refine EvF.enter rfl Tryd.func26 (by decide) rfl ?_
 (repeat refine EvC.seq ?_); refine EvC.reg ?_; simp (config := { maxSteps := 2000000 }) (disch := first | omega | rfl) only [sB, initTm, dBox, Value.cells, one, reduceCtorEq]
 obtain ⟨H2, e2, hx2, gt, hn2, hw2⟩ := new1 hw (.row (six t a c) 25)
 simp only [e2]
 clear e2
 have qt := row6 gt
 (repeat refine EvC.seq ?_); refine EvC.drw [([(0, 0)], some 1), ([(2, 0)], some 3), ([(4, 2)], some 5), ([], some 6), ([(7, 4)], none)] (by kernel_rfl) ?_; simp (config := { maxSteps := 2000000 }) (disch := first | omega | rfl) only [sD, sB, Nat.reduceEqDiff, Nat.reduceAdd, reduceCtorEq, cl39, isAlloc, isRead, reduceCtorEq]
 have hxb : HX H2 ⟨H2.next + 8, H2.t⟩ := (HX.refl hw2).bump 8
 refine (z3n hxb.wf).mono ?_
 rintro v H3 ⟨rfl, hx3⟩
 have n3 : H2.next + 8 ≤ H3.next := hx3.next
 have qt3 := row6 (hx3.get hxb.wf (show (⟨H2.next + 8, H2.t⟩ : Heap).get H.next = _ from gt))
 have hx23 := hxb.trans hx3
 have hxh3 := hx2.trans hx23
 repeat' (first | refine EvC.seq ?_ | refine EvC.scope ?_ | refine EvC.block ?_ | (refine EvC.skip ?_) | (refine EvC.exit ?_) | (refine EvC.ret ?_; try simp only [z01, z00]) | (refine z0u ?_; simp (config := { maxSteps := 2000000 }) (disch := first | omega | rfl) only [sV, sD, sB, Nat.reduceEqDiff, reduceCtorEq, ld25, cl37, qt, qt3, isAlloc, isRead, reduceCtorEq]))
 refine (z85 (r0.mono hxh3 hw) hc hx3.wf).mono ?_
 rintro v H4 ⟨hx4, out, rfl, hot⟩
 obtain ⟨a4, c4, cells4, rfl, -⟩ := hot.rep.six
 have n4 := hx4.next
 obtain ⟨L, eL⟩ : ∃ L, six (atmT s) none 0 ++ six t a4 c4 = L := ⟨_, rfl⟩
 have eL' := eL
 simp only [six, List.cons_append, List.nil_append] at eL'
 obtain ⟨H5, e5⟩ : ∃ H5, H4.put (H2.next + 4) (some (.row L 25)) = H5 := ⟨_, rfl⟩
 have hx5 : HX H H5 := by rw [← e5]; exact (hxh3.trans hx4).put (by omega) (by omega) _
 have n5 : H5.next = H4.next := by rw [← e5]; rfl
 have g5 : H5.get (H2.next + 4) = some (.row L 25) := by rw [← e5, get_put, if_pos rfl]
 repeat' (first | refine EvC.seq ?_ | refine EvC.scope ?_ | refine EvC.block ?_ | (refine EvC.skip ?_) | (refine EvC.exit ?_) | (refine EvC.ret ?_; try simp only [z01, z00]) | (refine z0u ?_; simp (config := { maxSteps := 2000000 }) (disch := first | omega | rfl) only [sD, sB, Nat.reduceEqDiff, Nat.reduceAdd, Value.cells, one, reduceCtorEq, Nat.reduceLeDiff, layC, z7n, cl44, eL', e5, isAlloc, dalloc, reduceCtorEq]))
 refine (z1y hx5.wf).mono ?_
 rintro v H6 ⟨rfl, hx6⟩
 have n6 := hx6.next
 have g6 := hx6.get hx5.wf g5
 subst eL
 have hr : RepS H6 (fun n => n = H2.next + 4 ∨ (H3.next ≤ n ∧ n < H4.next)) (typeT s t) (six (typeT s t) (some ⟨H2.next + 4, 0, none⟩) 2) := z5o (by decide) g6 (.inl rfl) hx6.wf (z3o hs) (hot.1.to fun n hn hl => by
  have h1 : H3.next ≤ n := hn.1
  have h2 : n < H4.next := hn.2
  exact ⟨by rw [hx6.keep n (by omega), ← e5, get_put, if_neg (by omega)], .inr ⟨h1, h2⟩, by omega⟩)
 repeat' (first | refine EvC.seq ?_ | refine EvC.scope ?_ | refine EvC.block ?_ | (refine EvC.skip ?_) | (refine EvC.exit ?_) | (refine EvC.ret ?_; try simp only [z01, z00]) | (refine z0u ?_; simp (config := { maxSteps := 2000000 }) (disch := first | omega | rfl) only [sD, sB, Nat.reduceEqDiff, reduceCtorEq, cl41, reduceCtorEq]))
 refine (z6q hr hx6.wf (fun n hn => by rcases hn with hn | hn <;> omega)).mono ?_
 rintro v H7 ⟨hx7, he⟩
 have n7 := hx7.next
 repeat' (first | refine EvC.seq ?_ | refine EvC.scope ?_ | refine EvC.block ?_ | (refine EvC.skip ?_) | (refine EvC.exit ?_) | (refine EvC.ret ?_; try simp only [z01, z00]) | (refine z0u ?_; simp (config := { maxSteps := 2000000 }) (disch := first | omega | rfl) only [sD, sB, Nat.reduceEqDiff, Nat.reduceAdd, reduceCtorEq, isAlloc, isRead, reduceCtorEq]))
 refine z06 rfl (by simp only [sG, Nat.reduceEqDiff, reduceCtorEq] <;> rfl) ⟨(hx5.trans hx6).trans hx7, he.to fun n hn hl => ⟨rfl, ?_, hl⟩⟩
 rcases hn with (rfl | hn) | hn
 ·exact ⟨by omega, by omega⟩
 ·exact ⟨by omega, by omega⟩
 ·exact ⟨by omega, by omega⟩
theorem zjk {P : Program} {tm : Tr Value} {H : Heap} {K : Tr Value → Heap → Prop} (h : K tm H) : EPl P [] tm H K := h
theorem zpd {x y : Operand} {H : Heap} : dBin Tryd.prog .neq 20 x y .nilIface .nilIface H = some (.val (.bool false) H) := by
 cases x <;> cases y <;> kernel_rfl
theorem zmg : taZ Tryd.prog 62 = some (.agg ⟨[]⟩) := by kernel_rfl
theorem z6j {n : Nat} : decide (((n : Nat) : Int) > 4000) = decide (4000 < n) := by
 by_cases h : 4000 < n
 ·rw [decide_eq_true h, decide_eq_true (by omega)]
 ·rw [decide_eq_false h, decide_eq_false (by omega)]
set_option maxHeartbeats 8000000 in
theorem zc8 {fn : Func} {tm : Tr Value} {K : Value → Heap → Prop} {p1 p2 p3 : Nat} {H : Heap} (hK : ∀ H', HX H H' → EvM Tryd.prog okT fn tm [] none H' K) (hw : H.wf) :
  EvM Tryd.prog okT fn tm [⟨.fn (.func 25) #[.pointer (some ⟨p1, 0, none⟩), .pointer (some ⟨p2, 0, none⟩), .pointer (some ⟨p3, 0, none⟩)], #[]⟩] none H K := by
 refine EvM.recov Tryd.func25 (by decide) (by kernel_rfl) rfl rfl rfl rfl rfl ?_
 refine ⟨rfl, _, _, z48, zjk ?_⟩
 refine EvSq.cons ?_
 (repeat refine EvC.seq ?_); refine EvC.reg ?_; simp (config := { maxSteps := 2000000 }) (disch := first | omega | rfl) only [sB, initTm, dAlloc, Nat.reduceEqDiff, Nat.reduceAdd, reduceCtorEq, zr62, st62, drecov, z1l, zja zmg]
 (repeat refine EvC.seq ?_); refine EvC.reg ?_; simp (config := { maxSteps := 2000000 }) (disch := first | omega | rfl) only [sB, Nat.reduceEqDiff, reduceCtorEq]
 (repeat refine EvC.seq ?_); refine EvC.condF (by simp (config := { maxSteps := 2000000 }) (disch := first | omega | rfl) only [sB, Nat.reduceEqDiff, reduceCtorEq]) ?_; (try refine EvC.skip ?_); (try simp only [z02, z03])
 (repeat refine EvC.seq ?_); refine EvC.reg ?_; simp (config := { maxSteps := 2000000 }) (disch := first | omega | rfl) only [sB, Nat.reduceEqDiff, reduceCtorEq, zpd]
 (repeat refine EvC.seq ?_); refine EvC.condF (by simp (config := { maxSteps := 2000000 }) (disch := first | omega | rfl) only [sB, Nat.reduceEqDiff, reduceCtorEq]) ?_; (try refine EvC.skip ?_); (try simp only [z02, z03])
 refine EvSq.nil ⟨.inl rfl, rfl, ?_⟩
 exact hK _ (((HX.refl hw).new _).put (Nat.le_refl _) (Nat.lt_succ_self _) _)
theorem zl7 : (drecov (some stopCh)).1 = .iface 62 (.agg #[]) := rfl
theorem zl8 : dsettle (drecov (some stopCh)).2 = none := rfl
set_option maxHeartbeats 8000000 in
theorem zjl {fn : Func} {tm : Tr Value} {K : Value → Heap → Prop} {p1 p2 p3 : Nat} {t : Tm} {a : Option Addr} {c : Nat} {cs8 : List Value} {v3 : Value} {H : Heap} (hl8 : cs8.length = 8) (r : RepT H t (six t a c)) (hc : checkS t = 0) (g1 : H.get p1 = some (.row (six t a c) 25)) (g2 : H.get p2 = some (.row cs8 30)) (g3 : H.get p3 = some (.row [v3] 32)) (h23 : p2 ≠ p3)
  (hK : ∀ H' ev, HX H H' → RepES H' (Rg H.next H'.next) (.ball (typeT sCallable t)) ev → EvM Tryd.prog okT fn tm [] none ((H'.put p2 (some (.row zero8 30))).put p3 (some (.row [ev] 32))) K) (hw : H.wf) :
  EvM Tryd.prog okT fn tm [⟨.fn (.func 25) #[.pointer (some ⟨p1, 0, none⟩), .pointer (some ⟨p2, 0, none⟩), .pointer (some ⟨p3, 0, none⟩)], #[]⟩] (some stopCh) H K := by
 refine EvM.recov Tryd.func25 (by decide) (by kernel_rfl) rfl rfl rfl rfl rfl ?_
 rw [zl7, zl8]
 refine ⟨rfl, _, _, z48, zjk ?_⟩
 refine EvSq.cons ?_
 (repeat refine EvC.seq ?_); refine EvC.reg ?_; simp (config := { maxSteps := 2000000 }) (disch := first | omega | rfl) only [sB, initTm, dAlloc, Nat.reduceEqDiff, Nat.reduceAdd, reduceCtorEq, zr62, st62, z1l, zde zmg]
 obtain ⟨H2, e2, hx2, -, hn2, hw2⟩ := z0l hw (.row [] 62) (.row [] 62)
 simp only [e2]
 clear e2
 have g12 := hx2.get hw g1
 have q1 := row6 g12
 (repeat refine EvC.seq ?_); refine EvC.reg ?_; simp (config := { maxSteps := 2000000 }) (disch := first | omega | rfl) only [sB, Nat.reduceEqDiff, reduceCtorEq]
 (repeat refine EvC.seq ?_); refine EvC.condT (by simp (config := { maxSteps := 2000000 }) (disch := first | omega | rfl) only [sB, Nat.reduceEqDiff, reduceCtorEq]) ?_; (try refine EvC.skip ?_); (try simp only [z02, z03])
 (repeat refine EvC.seq ?_); refine EvC.reg ?_; simp (config := { maxSteps := 2000000 }) (disch := first | omega | rfl) only [sB, Nat.reduceEqDiff, Nat.reduceAdd, Value.cells, reduceCtorEq, layC, bd30, ld25, cl26, st30, q1]
 refine (z5p (s := sCallable) (by decide) (r.mono hx2 hw) hc hw2).mono ?_
 rintro v H3 ⟨hx3, he⟩
 have hx23 := hx2.trans hx3
 have n2 := hx2.next
 have n3 := hx3.next
 have g23 := hx23.get hw g2
 have g33 := hx23.get hw g3
 have hl2 := hx23.wf _ _ g23
 obtain ⟨pb, ab, cb, rfl, -, -⟩ := he.rep
 have e32 : (p3 = p2) = False := by simp; exact fun h => h23 h.symm
 have d8 : List.drop 8 cs8 = [] := List.drop_eq_nil_of_le (by omega)
 have d81 : (8 ≤ cs8.length) = True := by simp; omega
 repeat' (first | refine EvC.seq ?_ | refine EvC.scope ?_ | refine EvC.block ?_ | (refine EvC.skip ?_) | (refine EvC.exit ?_) | (refine EvC.ret ?_; try simp only [z01, z00]) | (refine z0q ?_; simp (config := { maxSteps := 2000000 }) (disch := first | omega | rfl) only [sB, Nat.reduceEqDiff, Nat.reduceAdd, one, reduceCtorEq, st32, g23, g33, e32, d8, d81]))
 refine EvSq.nil ⟨.inl rfl, rfl, ?_⟩
 refine hK H3 _ hx23 (he.to fun n hn hl => ⟨rfl, ⟨by have := hn.1; omega, hn.2⟩, hl⟩)
end Go.Proofs.hq
end

section
namespace Go.Hb
open Go Go.RowKit
theorem z5q {P : Program} {ok : Ok} {fn : Func} {tm : Tr Value} {H : Heap} {K : Value → Heap → Prop} {a b : Tmp} {t t' : TypeId} {ad bd : Addr} {v u : Value} (h : fn.results.toList = [.cell a t, .cell b t']) (ha : tm.get a = some (.pointer (some ad))) (hv : dLoad P t (.pointer (some ad)) H = some (.val v H))
  (hb : tm.get b = some (.pointer (some bd))) (hu : dLoad P t' (.pointer (some bd)) H = some (.val u H)) (hk : K (.tuple ⟨[v, u]⟩) H) : EvM P ok fn tm [] none H K := by
 refine EvM.now (v := .tuple ⟨[v, u]⟩) ?_ hk
 have key : ∀ {t : TypeId} {ad : Addr} {v : Value}, dLoad P t (.pointer (some ad)) H = some (.val v H) → dload P t ad H = some v := fun {t ad v} hd => by
  unfold dLoad at hd
  simp only at hd
  cases h1 : dload P t ad H with
  | none => rw [h1] at hd; simp at hd
  | some w => rw [h1] at hd; simp at hd; rw [hd]
 simp [dres, h, dresL, dres1, ha, hb, key hv, key hu]
end Go.Hb
namespace Go.Proofs.hq
open Go Go.RowKit Go.Hb
variable {ok : Ok}
set_option maxRecDepth 10000
attribute [local irreducible] LX LG EL STG SOP SGO SGD SAL SRD SEF SEG SLK SCK ES
theorem za9 {n : Nat} : Few n zeroT := .mk (Nat.zero_le _) fun u hu => by cases hu
theorem zff {t : Tm} (h : Few 64 t) : Few 64 (cmpT sCall [t]) := .mk (by show 1 ≤ 64; decide) fun u hu => by
 have : u = t := by simpa [cmpT, Tm.args] using hu
 rw [this]; exact h
theorem z6r {t : Tm} (h : Fine t) : Few 64 t := Fine.few _ (Nat.lt_succ_self _) h
theorem FewB.leaf {n : Nat} {k : Int} {t : Tm} (h : Few n t) : FewB n (.mk k t []) := .mk (Nat.zero_le _) h fun u hu => by cases hu
theorem zc9 {f : Tm → Option Bdy} {n : Nat} : ∀ {l : List Tm} {bs : List Bdy}, (∀ t ∈ l, ∀ b, f t = some b → FewB n b) → subBL f l = some bs → ∀ b ∈ bs, FewB n b
 | [], bs, _, h => by cases h; intro b hb; cases hb
 | u :: l, bs, hf, h => by
  rw [subBL] at h
  split at h
  ·rename_i c cs h1 h2
   cases h
   intro b hb
   rcases List.mem_cons.1 hb with rfl | hb
   ·exact hf u (by simp) _ h1
   ·exact zc9 (fun t ht => hf t (List.mem_cons_of_mem _ ht)) h2 b hb
  ·cases h
theorem z5r {f : Tm → Option Bdy} {n : Nat} {k : Int} {l : List Tm} {b : Bdy} (hl : l.length ≤ n) (hf : ∀ t ∈ l, ∀ b, f t = some b → FewB n b) (h : subBF f k l = some b) : FewB n b := by
 unfold subBF at h
 cases hs : subBL f l with
 | none => rw [hs] at h; cases h
 | some bs =>
  rw [hs] at h
  cases h
  exact .mk (by show bs.length ≤ n; rw [zfe hs]; exact hl) za9 (zc9 hf hs)
theorem z96 {t : Tm} {i : Nat} (h : i < t.args.length) : t.at i ∈ t.args := by
 unfold Tm.at
 rw [List.getD_eq_getElem?_getD, List.getElem?_eq_getElem h]
 exact List.getElem_mem h
theorem z5s : ∀ {m : Nat} {t : Tm} {b : Bdy}, Fine t → bodyF m t = some b → FewB 64 b
 | 0, t, b, _, h => by cases h
 | m + 1, t, b, hf, h => by
  have ih : ∀ u, Fine u → ∀ b, bodyF m u = some b → FewB 64 b := fun u hu b hb => z5s hu hb
  have hl := z4e hf
  have hargs : ∀ u ∈ t.args, ∀ b, bodyF m u = some b → FewB 64 b := fun u hu => ih u (hf.args u hu)
  rw [bodyF] at h
  split at h
  ·cases h
  split at h
  ·cases h; exact .leaf (zff (z6r hf))
  split at h
  ·cases h; exact .leaf za9
  split at h
  ·cases h; exact .leaf za9
  split at h
  ·rename_i hF
   unfold withinF at h
   split at h
   ·cases h
   split at h
   ·cases h; exact .leaf (zff (z6r hf))
   cases hb : bodyF m (t.at 1) with
   | none => rw [hb] at h; cases h
   | some c =>
    rw [hb] at h
    cases h
    refine .mk (by show 1 ≤ 64; decide) (z6r (hf.args _ (z96 (by rw [hF.2.2]; decide)))) fun u hu => ?_
    have : u = c := by simpa [Bdy.sub] using hu
    subst this
    exact hargs _ (z96 (by rw [hF.2.2]; decide)) _ hb
  split at h
  ·exact z5r hl hargs h
  split at h
  ·exact z5r hl hargs h
  split at h
  ·rename_i hF
   have hx := hf.args _ (z96 (i := 0) (by rw [hF.1.2.2]; decide))
   refine z5r (by show 3 ≤ 64; decide) (fun u hu => ?_) h
   have hu' : u ∈ (t.at 0).args ∨ u ∈ t.args := by
    simp only [List.mem_cons, List.not_mem_nil, or_false] at hu
    rcases hu with rfl | rfl | rfl
    ·exact .inl (z96 (by rw [hF.2.2.2]; decide))
    ·exact .inl (z96 (by rw [hF.2.2.2]; decide))
    ·exact .inr (z96 (by rw [hF.1.2.2]; decide))
   rcases hu' with hu | hu
   ·exact ih u (hx.args u hu)
   ·exact hargs u hu
  split at h
  ·exact z5r hl hargs h
  ·cases h; exact .leaf (z6r hf)
theorem FewB.up {n m : Nat} {b : Bdy} (f : FewB n b) (h : n ≤ m) : FewB m b := by
 induction f with
 | mk h1 h2 _ ih => exact .mk (Nat.le_trans h1 h) (h2.up h) ih
def ReadyEnd (H : Heap) (t : Tm) (v : Value) (H' : Heap) : Prop := HX H H' ∧ ∃ out ev, v = .tuple ⟨[.agg ⟨out⟩, ev]⟩ ∧ OB H' 30 25 (Rg H.next H'.next) (readyS t).1 out ∧ RepES H' (Rg H.next H'.next) (readyS t).2 ev
set_option maxHeartbeats 16000000 in
theorem z40 {t : Tm} {cs : List Value} {H : Heap} (r0 : RepT H t cs) (hw : H.wf) : EvF Tryd.prog okT 7 [.agg ⟨cs⟩] H (ReadyEnd H t) := by
 obtain ⟨a, c, cells, rfl, -⟩ := r0.six
 refine EvF.enterM rfl Tryd.func7 (by decide) rfl ?_
 (repeat refine EvC.seq ?_); refine EvC.reg ?_; simp (config := { maxSteps := 2000000 }) (disch := first | omega | rfl) only [sB, initTm, dBox, dAlloc, Value.cells, one, zr30, zr32]
 obtain ⟨H2, e2, hx2, gt, gb, ge, hn2, hw2⟩ := zpc hw (.row (six t a c) 25) (.row zero8 30) (.row [.nilIface] 32)
 simp only [e2]
 clear e2
 have ge : H2.get (H.next + 1 + 1) = some (.row [.nilIface] 32) := ge
 have qt := row6 gt
 have hlt := hw2 _ _ ge
 (repeat refine EvC.seq ?_); refine EvC.reg ?_; simp (config := { maxSteps := 2000000 }) (disch := first | omega | rfl) only [sB, Nat.reduceEqDiff, reduceCtorEq, ld25, cl24, qt]
 refine (z25 t _ _ (r0.mono hx2 hw) hw2).mono ?_
 rintro v H3 ⟨rfl, hx3⟩
 have gt3 := hx3.get hw2 gt
 have gb3 := hx3.get hw2 gb
 have ge3 := hx3.get hw2 ge
 have hx := hx2.trans hx3
 have n3 := hx3.next
 have hww := hx.wf
 have qb3 := row8 gb3
 have qt3 := row6 gt3
 have ne1 : (H.next + 2 = H.next + 1) = False := by simp
 by_cases h0 : checkS t = 0
 rotate_left
 ·repeat' (first | refine EvC.seq ?_ | refine EvC.scope ?_ | refine EvC.block ?_ | (refine EvC.skip ?_) | (refine EvC.exit ?_) | (refine EvC.ret ?_; try simp only [z01, z00]) | (refine EvC.reg ?_; simp (config := { maxSteps := 2000000 }) (disch := first | omega | rfl) only [sB, Nat.reduceEqDiff, Nat.reduceAdd, one, reduceCtorEq, ld30, st30, st32, z4k h0, gb3, ge3, qb3, z11, z84 zjf, ne1]) | (refine EvC.condT ?_ ?_; simp (config := { maxSteps := 2000000 }) (disch := first | omega | rfl) only [sB, Nat.reduceEqDiff, reduceCtorEq]; refine z04 ?_))
  have hrs : readyS t = (zeroB, .num (checkS t)) := by unfold readyS; rw [if_pos h0]
  refine z5q rfl (by simp only [sB, Nat.reduceEqDiff, reduceCtorEq] <;> rfl) (by simp only [sB, Nat.reduceAdd, cutC, ld30, neu] <;> rfl) (by simp only [sB, Nat.reduceEqDiff, reduceCtorEq] <;> rfl) (by simp only [sB, Nat.reduceEqDiff, cutC, ld32] <;> rfl) ⟨(hx.pt (by omega) gb3 _).pt (i := H.next + 1 + 1) (by omega) (by rw [get_put, if_neg (by omega)]; exact ge3) _, _, _, rfl, ?_, ?_⟩
  ·rw [hrs]; exact OB.nil (by decide)
  ·rw [hrs]; exact RepES.num
 (repeat refine EvC.seq ?_); refine EvC.reg ?_; simp (config := { maxSteps := 2000000 }) (disch := first | omega | rfl) only [sB, Nat.reduceEqDiff, reduceCtorEq, z1m h0]
 (repeat refine EvC.seq ?_); refine EvC.condF (by simp (config := { maxSteps := 2000000 }) (disch := first | omega | rfl) only [sB, Nat.reduceEqDiff, reduceCtorEq]) ?_; (try refine EvC.skip ?_); (try simp only [z02, z03])
 (repeat refine EvC.seq ?_); refine EvC.reg ?_; simp (config := { maxSteps := 2000000 }) (disch := first | omega | rfl) only [sB, Nat.reduceEqDiff, reduceCtorEq, List.map_toArray, zgs, zjb, zoq]
 have hlt3 := hww _ _ ge3
 cases ho : bodyF (SizeOf.sizeOf t + 1) t with
 | none =>
  have hrs : readyS t = (zeroB, .ball (typeT sCallable t)) := by unfold readyS; rw [if_neg (fun h => h h0), ho]
  (repeat refine EvC.seq ?_); refine EvC.regP 1 _ rfl rfl ?_; simp (config := { maxSteps := 2000000 }) (disch := first | omega | rfl) only [sB, Nat.reduceEqDiff, reduceCtorEq, ld25, cl27, z63, qt3]
  refine EvG.toP (za6 _ (Nat.lt_succ_self _) (r0.mono hx hw) h0 hww) ?_
  rintro e H5 ⟨hx5, he⟩
  rw [ho] at he
  refine ⟨_, he, ?_⟩
  have hxf := hx.trans hx5
  have n5 := hx5.next
  have gb5 := hx5.get hww gb3
  have ge5 := hx5.get hww ge3
  refine zjl (H := H5) (cs8 := zero8) rfl (r0.mono hxf hw) h0 (hx5.get hww gt3) gb5 ge5 (by omega) (fun H6 ev hx6 he6 => ?_) hxf.wf
  have gb6 := hx6.get hxf.wf gb5
  have ge6 := hx6.get hxf.wf ge5
  have n6 := hx6.next
  have hx16 := hxf.trans hx6
  refine z5q rfl (by simp only [sB, Nat.reduceEqDiff, reduceCtorEq] <;> rfl) (by simp only [sB, Nat.reduceAdd, cutC, ld30, neu] <;> rfl) (by simp only [sB, Nat.reduceEqDiff, reduceCtorEq] <;> rfl) (by simp only [sB, Nat.reduceEqDiff, cutC, ld32] <;> rfl) ⟨(hx16.pt (by omega) gb6 _).pt (i := H.next + 1 + 1) (by omega) (by rw [get_put, if_neg (by omega)]; exact ge6) _, _, _, rfl, ?_, ?_⟩
  ·rw [hrs]; exact OB.nil (by decide)
  ·rw [hrs]
   refine he6.to fun n hn hl => ?_
   have := hn.1
   exact ⟨by rw [get_put, if_neg (by omega), get_put, if_neg (by omega)], ⟨by omega, by rw [z07, z07]; exact hl⟩, by rw [z07, z07]; exact hl⟩
 | some bd =>
  (repeat refine EvC.seq ?_); refine EvC.reg ?_; simp (config := { maxSteps := 2000000 }) (disch := first | omega | rfl) only [sB, Nat.reduceEqDiff, reduceCtorEq, ld25, cl27, qt3]
  refine EvG.toF (za6 _ (Nat.lt_succ_self _) (r0.mono hx hw) h0 hww) ?_
  rintro e H5 ⟨hx5, he⟩
  rw [ho] at he
  obtain ⟨out, rfl, hob⟩ := he
  refine ⟨_, rfl, ?_⟩
  obtain ⟨ta, tc, sa, sc, rfl⟩ := hob.rep.eight
  have hxf := hx.trans hx5
  have n5 := hx5.next
  have gb5 := hx5.get hww gb3
  have ge5 := hx5.get hww ge3
  try simp (config := { maxSteps := 2000000 }) (disch := first | omega | rfl) only [sB, Nat.reduceAdd, one, st30, gb5]
  obtain ⟨H6, e6⟩ : ∃ H6, H5.put (H.next + 1) (some (.row (eightT bd.kind bd.term ta tc sa bd.sub.length sc) 30)) = H6 := ⟨_, rfl⟩
  simp only [e6]
  have hx6 : HX H H6 := by rw [← e6]; exact hxf.pt (by omega) gb5 _
  have n6 : H6.next = H5.next := by rw [← e6]; rfl
  have gb6 : H6.get (H.next + 1) = some (.row (eightT bd.kind bd.term ta tc sa bd.sub.length sc) 30) := by rw [← e6, get_put, if_pos rfl]
  have ge6 : H6.get (H.next + 1 + 1) = some (.row [.nilIface] 32) := by rw [← e6, get_put, if_neg (by omega)]; exact ge5
  have qb6 := row8 gb6
  have hob6 : OB H6 30 25 (Rg H3.next H5.next) bd (eightT bd.kind bd.term ta tc sa bd.sub.length sc) := hob.to (fun n hn hl => ⟨by have := hn.1; rw [← e6, get_put, if_neg (by omega)], by omega⟩) fun _ hn => hn
  have hfew := (z5s (z0e.1 h0).2 ho).up (m := 1000000) (by decide)
  (repeat refine EvC.seq ?_); refine EvC.reg ?_; simp (config := { maxSteps := 2000000 }) (disch := first | omega | rfl) only [sB, Nat.reduceEqDiff, reduceCtorEq, ld30, cl29, cl28, qb6]
  refine (za7 (Nat.lt_succ_self _) hob6.bi hfew (fun n hn => by have := hn.2; omega) hx6.wf).mono ?_
  rintro v H7 ⟨hx7, outT, rfl, hrT⟩
  repeat' (first | refine EvC.seq ?_ | refine EvC.scope ?_ | refine EvC.block ?_ | (refine EvC.skip ?_) | (refine EvC.exit ?_) | (refine EvC.ret ?_; try simp only [z01, z00]))
  refine (z15 _ _ _ hrT.rep hx7.wf).mono ?_
  rintro v H8 ⟨rfl, hx8⟩
  have hx68 := hx7.trans hx8
  have n7 := hx7.next
  have n8 := hx8.next
  have gb8 := hx68.get hx6.wf gb6
  have ge8 := hx68.get hx6.wf ge6
  have qb8 := row8 gb8
  have hx18 := hx6.trans hx68
  try simp (config := { maxSteps := 2000000 }) (disch := first | omega | rfl) only [sA]
  by_cases h4 : 4000 < cnt (toldB bd) 0
  ·have hd : decide (((cnt (toldB bd) 0 : Nat) : Int) > 4000) = true := by rw [z6j]; exact decide_eq_true h4
   have hrs : readyS t = (zeroB, .ball (resT sNodes)) := by unfold readyS; rw [if_neg (fun h => h h0), ho]; simp only; rw [if_pos h4]
   (repeat refine EvC.seq ?_); refine EvC.condT (by simp (config := { maxSteps := 2000000 }) (disch := first | omega | rfl) only [sB, Nat.reduceEqDiff, reduceCtorEq, hd]) ?_; (try refine EvC.skip ?_); (try simp only [z02, z03])
   (repeat refine EvC.seq ?_); refine EvC.reg ?_; simp (config := { maxSteps := 2000000 }) (disch := first | omega | rfl) only [sB, Nat.reduceEqDiff, Nat.reduceAdd, Value.cells, reduceCtorEq, layC, st30, bd30, cl30]
   refine (za8 (s := sNodes) (by decide) hx18.wf).mono ?_
   rintro v H9 ⟨hx9, he9⟩
   obtain ⟨pb, ab, cb, rfl, -, -⟩ := he9.rep
   have n9 := hx9.next
   have gb9 := hx9.get hx18.wf gb8
   have ge9 := hx9.get hx18.wf ge8
   repeat' (first | refine EvC.seq ?_ | refine EvC.scope ?_ | refine EvC.block ?_ | (refine EvC.skip ?_) | (refine EvC.exit ?_) | (refine EvC.ret ?_; try simp only [z01, z00]) | (refine z0q ?_; simp (config := { maxSteps := 2000000 }) (disch := first | omega | rfl) only [sB, Nat.reduceEqDiff, Nat.reduceAdd, one, reduceCtorEq, st32, gb9, ge9, ne1]))
   obtain ⟨H9', e9⟩ : ∃ H9', (H9.put (H.next + 1) (some (.row zero8 30))).put (H.next + 1 + 1) (some (.row [.iface 72 (.pointer (some ⟨pb, 0, none⟩))] 32)) = H9' := ⟨_, rfl⟩
   have g1 : H9'.get (H.next + 1) = some (.row zero8 30) := by rw [← e9, get_put, if_neg (by omega), get_put, if_pos rfl]
   have g2 : H9'.get (H.next + 1 + 1) = some (.row [.iface 72 (.pointer (some ⟨pb, 0, none⟩))] 32) := by rw [← e9, get_put, if_pos rfl]
   have hx9' : HX H H9' := by rw [← e9]; exact ((hx18.trans hx9).pt (by omega) gb9 _).pt (i := H.next + 1 + 1) (by omega) (by rw [get_put, if_neg (by omega)]; exact ge9) _
   have n9' : H9'.next = H9.next := by rw [← e9]; rfl
   have he9' : RepES H9' (Rg H8.next H9.next) (.ball (resT sNodes)) (.iface 72 (.pointer (some ⟨pb, 0, none⟩))) := he9.to fun n hn hl => ⟨by have := hn.1; rw [← e9, get_put, if_neg (by omega), get_put, if_neg (by omega)], hn, by omega⟩
   simp only [e9]
   refine zc8 (H := H9') (fun H10 hx10 => ?_) hx9'.wf
   have g1' := hx10.get hx9'.wf g1
   have q1' := row8 g1'
   have q2' := row1 (hx10.get hx9'.wf g2)
   have n10 := hx10.next
   refine z5q rfl (by simp only [sB, Nat.reduceEqDiff, reduceCtorEq] <;> rfl) (by simp only [sA, ld30, q1'] <;> rfl) (by simp only [sB, Nat.reduceEqDiff, reduceCtorEq] <;> rfl) (by simp only [sA, ld32, q2'] <;> rfl) ⟨hx9'.trans hx10, _, _, rfl, ?_, ?_⟩
   ·rw [hrs]; exact OB.nil (by decide)
   ·rw [hrs]
    exact he9'.to fun n hn hl => ⟨hx10.keep n hl, ⟨by have := hn.1; omega, by have := hn.2; omega⟩, by omega⟩
  ·have hd : decide (((cnt (toldB bd) 0 : Nat) : Int) > 4000) = false := by rw [z6j]; exact decide_eq_false h4
   have hrs : readyS t = (bd, .ok) := by unfold readyS; rw [if_neg (fun h => h h0), ho]; simp only; rw [if_neg h4]
   (repeat refine EvC.seq ?_); refine EvC.condF (by simp (config := { maxSteps := 2000000 }) (disch := first | omega | rfl) only [sB, Nat.reduceEqDiff, reduceCtorEq, hd]) ?_; (try refine EvC.skip ?_); (try simp only [z02, z03])
   repeat' (first | refine EvC.seq ?_ | refine EvC.scope ?_ | refine EvC.block ?_ | (refine EvC.skip ?_) | (refine EvC.exit ?_) | (refine EvC.ret ?_; try simp only [z01, z00]) | (refine EvC.reg ?_; simp (config := { maxSteps := 2000000 }) (disch := first | omega | rfl) only [sB, Nat.reduceEqDiff, Nat.reduceAdd, one, reduceCtorEq, ld30, st30, zp1, gb8, ge8, qb8, ne1]))
   obtain ⟨H9', e9⟩ : ∃ H9', (H8.put (H.next + 1) (some (.row (eightT bd.kind bd.term ta tc sa bd.sub.length sc) 30))).put (H.next + 1 + 1) (some (.row [.nilIface] 32)) = H9' := ⟨_, rfl⟩
   have g1 : H9'.get (H.next + 1) = some (.row (eightT bd.kind bd.term ta tc sa bd.sub.length sc) 30) := by rw [← e9, get_put, if_neg (by omega), get_put, if_pos rfl]
   have g2 : H9'.get (H.next + 1 + 1) = some (.row [.nilIface] 32) := by rw [← e9, get_put, if_pos rfl]
   have hx9' : HX H H9' := by rw [← e9]; exact (hx18.pt (by omega) gb8 _).pt (i := H.next + 1 + 1) (by omega) (by rw [get_put, if_neg (by omega)]; exact ge8) _
   have n9' : H9'.next = H8.next := by rw [← e9]; rfl
   have hob9 : OB H9' 30 25 (Rg H3.next H5.next) bd (eightT bd.kind bd.term ta tc sa bd.sub.length sc) := hob6.to (fun n hn hl => ⟨by have := hn.1; rw [← e9, get_put, if_neg (by omega), get_put, if_neg (by omega)]; exact hx68.keep n hl, by omega⟩) fun _ hn => hn
   simp only [e9]
   refine zc8 (H := H9') (fun H10 hx10 => ?_) hx9'.wf
   have g1' := hx10.get hx9'.wf g1
   have q1' := row8 g1'
   have q2' := row1 (hx10.get hx9'.wf g2)
   have n10 := hx10.next
   refine z5q rfl (by simp only [sB, Nat.reduceEqDiff, reduceCtorEq] <;> rfl) (by simp only [sA, ld30, q1'] <;> rfl) (by simp only [sB, Nat.reduceEqDiff, reduceCtorEq] <;> rfl) (by simp only [sA, ld32, q2'] <;> rfl) ⟨hx9'.trans hx10, _, _, rfl, ?_, ?_⟩
   ·rw [hrs]
    exact (hob9.keep hx10).sub fun n hn => ⟨by have := hn.1; omega, by have := hn.2; omega⟩
   ·rw [hrs]; exact RepES.fine
end Go.Proofs.hq
end

section
namespace Go.Proofs.hq
open Go Go.RowKit Go.Hb
variable {ok : Ok}
set_option maxRecDepth 10000
attribute [local irreducible] LX LG EL STG SOP SGO SGD SAL SRD SEF SEG SLK SCK ES
section
variable {f : Int → Int}
abbrev ren (f : Int → Int) (t : Tm) : Tm := sub (fun n => varT (f n)) t
theorem z88 {t : Tm} (h : t.kind = 1) : ren f t = varT (f t.var) := z7z h
theorem z3q {t : Tm} (h : t.kind ≠ 1) : ren f t = .mk t.kind t.name t.num t.bits t.var (t.args.map (ren f)) := ziv h
theorem zfg : ∀ (m : Nat) {t : Tm}, SizeOf.sizeOf t < m → Fine t → nd (ren f t) = nd t
 | 0, t, h, _ => by omega
 | m + 1, t, h, hf => by
  by_cases k : t.kind = 1
  ·rw [z88 k]
   have h1 : nd t = 1 := by rw [z1x, z5l hf k]; rfl
   rw [h1]; rfl
  ·rw [z1x (ren f t), z1x t, show (ren f t).args = t.args.map (ren f) by rw [z3q k]; rfl]
   have go : ∀ l : List Tm, (∀ u ∈ l, SizeOf.sizeOf u < m ∧ Fine u) → nd.ndL (l.map (ren f)) = nd.ndL l := by
    intro l
    induction l with
    | nil => intro _; rfl
    | cons x l ih =>
     intro hl
     rw [List.map_cons, nd.ndL, nd.ndL, zfg m (hl x (by simp)).1 (hl x (by simp)).2, ih fun u hu => hl u (by simp [hu])]
   rw [go t.args fun u hu => ⟨by have := z0d hu; omega, hf.args u hu⟩]
theorem zaa : ∀ (m : Nat) {t : Tm}, SizeOf.sizeOf t < m → Fine t → occ (ren f t) = (occ t).map f
 | 0, t, h, _ => by omega
 | m + 1, t, h, hf => by
  by_cases k : t.kind = 1
  ·rw [z88 k, z2s, z2s t, z5l hf k, if_pos k]; rfl
  ·rw [z2s (ren f t), z2s t, if_neg k, show (ren f t).args = t.args.map (ren f) by rw [z3q k]; rfl, if_neg (by rw [z3q k]; exact k)]
   have go : ∀ l : List Tm, (∀ u ∈ l, SizeOf.sizeOf u < m ∧ Fine u) → occL (l.map (ren f)) = (occL l).map f := by
    intro l
    induction l with
    | nil => intro _; rfl
    | cons x l ih =>
     intro hl
     rw [List.map_cons, occL, occL, zaa m (hl x (by simp)).1 (hl x (by simp)).2, ih fun u hu => hl u (by simp [hu]), List.map_append]
   simpa using go t.args fun u hu => ⟨by have := z0d hu; omega, hf.args u hu⟩
theorem zfh {l : List Tm} (h : ∀ u ∈ l, Fine u) : occL (l.map (ren f)) = (occL l).map f := by
 induction l with
 | nil => rfl
 | cons x l ih => rw [List.map_cons, occL, occL, zaa _ (Nat.lt_succ_self _) (h x (by simp)), ih fun u hu => h u (by simp [hu]), List.map_append]
theorem z4i (l : List Tm) : plainL l = l.map (ren (plcZ (uniq (occL l)))) := _root_.id rfl
theorem zab {t : Tm} (hf : ∀ n, 0 ≤ f n) (h : checkS t = 0) : checkS (ren f t) = 0 := by
 obtain ⟨h1, h2⟩ := z0e.1 h
 refine z0e.2 ⟨?_, zf9 (fun n _ => zf8 (hf n)) _ t (Nat.lt_succ_self _) h2⟩
 have h3 := z91 _ t (Nat.lt_succ_self _) 0 h1
 have h4 := zfg (f := f) _ (Nat.lt_succ_self _) h2
 rw [z3p _ _ (Nat.lt_succ_self _) 0 (by omega)]; omega
theorem _root_.Go.Hb.FL.repD {H : Heap} {T : TypeId} {S : Nat → Prop} {l : List Tm} {a : Option Addr} {c : Nat} (h : FL H T S l a c) (hw : H.wf) : ∃ cells, ∀ G : Heap, (∀ n, S n → n < H.next → G.get n = H.get n) → RepL G l a c cells := by
 cases h with
 | nil => exact ⟨fun _ => [], fun G _ => ⟨Nat.le_refl _, Nat.zero_le _, fun _ => ⟨rfl, rfl⟩, fun i ad hi => by simp at hi, fun i t h => by simp at h⟩⟩
 | row _ _ b c cells Si ai ci h1 h2 h3 h4 h5 h6 h7 h8 h9 h10 h11 =>
  refine ⟨fun i => (cells.drop (i * 6)).take 6, fun G hk => RepL.of_row (by rw [hk b h7 (hw b _ h3)]; exact h3) (fun i hi => rfl) (fun i t ht => ?_) h1 h2⟩
  show RepT G t ((cells.drop (i * 6)).take 6)
  rw [h5 i t ht]
  exact RepF.rep (T := T) (S := Si i) ⟨ai i, ci i, rfl, h6 i t ht, (h11 i t ht).heap (fun n hn hl => hk n (h9 i n (List.getElem?_eq_some_iff.1 ht).1 hn) hl) hw⟩
theorem _root_.Go.Hb.FL.elS {H : Heap} {T : TypeId} {S : Nat → Prop} {l : List Tm} {a : Option Addr} {c : Nat} (h : FL H T S l a c) (hw : H.wf) {i : Nat} (hi : i < l.length) : ∃ b o a1 c1, a = some ⟨b, o, none⟩ ∧ H.load ⟨b, o + i * 6, none⟩ 6 = some (six l[i] a1 c1) ∧ RepS H S l[i] (six l[i] a1 c1) := by
 obtain ⟨cells, hc⟩ := h.repD hw
 have he := List.getElem?_eq_getElem hi
 obtain ⟨b, o, rfl, hl, hr⟩ := (hc H fun _ _ _ => rfl).at he
 obtain ⟨a1, c1, -, h3, -⟩ := hr.six
 rw [h3] at hl
 exact ⟨b, o, a1, c1, rfl, hl, fun G hG => by rw [← h3]; exact (hc G hG).rep i _ he⟩
end
abbrev isF2 (t : Tm) (s : ByteArray) (x y : Tm) : Prop := t.kind = 5 ∧ t.name = s ∧ t.args = [x, y]
theorem isF2.f {t x y : Tm} {s : ByteArray} (h : isF2 t s x y) : isF t s := ⟨h.1, h.2.1, by rw [h.2.2]; rfl⟩
theorem isF2.a0 {t x y : Tm} {s : ByteArray} (h : isF2 t s x y) : t.at 0 = x := by unfold Tm.at; rw [h.2.2]; rfl
theorem isF2.a1 {t x y : Tm} {s : ByteArray} (h : isF2 t s x y) : t.at 1 = y := by unfold Tm.at; rw [h.2.2]; rfl
theorem isF.two {t : Tm} {s : ByteArray} (h : isF t s) : ∃ x y, isF2 t s x y := by
 obtain ⟨h1, h2, h3⟩ := h
 match hl : t.args, h3 with
 | [x, y], _ => exact ⟨x, y, h1, h2, hl⟩
theorem isF.ne {t : Tm} {s u : ByteArray} (h : isF t s) (hs : s ≠ u) : ¬ isF t u := fun k => hs (h.2.1.symm.trans k.2.1)
structure Oth (t : Tm) : Prop where
 num : ¬ isNum t
 var : t.kind ≠ 1
 tru : ¬ (t.kind = 2 ∧ t.name = sTrue)
 cut : ¬ (t.kind = 2 ∧ t.name = sExc)
 col : ¬ isF t sCol
 cma : ¬ isF t sCma
 arr : ¬ isF t sArr
 sem : ¬ isF t sSem
inductive BdR : Tm → Bdy → Prop
 | var {t} : t.kind = 1 → BdR t (callB t)
 | tru {t} : t.kind = 2 → t.name = sTrue → BdR t (.mk 1 zeroT [])
 | cut {t} : t.kind = 2 → t.name = sExc → BdR t (.mk 2 zeroT [])
 | mcall {t x y} : isF2 t sCol x y → (x.kind = 1 ∨ x.kind = 2) → ¬ isNum y → (x.kind = 1 ∨ y.kind = 1) → BdR t (callB t)
 | mod {t x y b} : isF2 t sCol x y → x.kind = 2 → y.kind ≠ 1 → ¬ isNum y → BdR y b → BdR t (.mk 7 x [b])
 | and {t x y b d} : isF2 t sCma x y → BdR x b → BdR y d → BdR t (.mk 4 zeroT [b, d])
 | arr {t x y b d} : isF2 t sArr x y → BdR x b → BdR y d → BdR t (.mk 6 zeroT [b, d])
 | ite {t x y u w b d e} : isF2 t sSem x y → isF2 x sArr u w → BdR u b → BdR w d → BdR y e → BdR t (.mk 6 zeroT [b, d, e])
 | or {t x y b d} : isF2 t sSem x y → ¬ isF x sArr → BdR x b → BdR y d → BdR t (.mk 5 zeroT [b, d])
 | call {t} : Oth t → BdR t (.mk 3 t [])
theorem znu {f : Tm → Option Bdy} {k : Int} {x y : Tm} {b : Bdy} (h : subBF f k [x, y] = some b) : ∃ b1 b2, f x = some b1 ∧ f y = some b2 ∧ b = .mk k zeroT [b1, b2] := by
 unfold subBF at h
 simp only [subBL] at h
 cases h1 : f x <;> cases h2 : f y <;> simp [h1, h2] at h
 exact ⟨_, _, rfl, rfl, h.symm⟩
theorem zpe {f : Tm → Option Bdy} {k : Int} {x y z : Tm} {b : Bdy} (h : subBF f k [x, y, z] = some b) : ∃ b1 b2 b3, f x = some b1 ∧ f y = some b2 ∧ f z = some b3 ∧ b = .mk k zeroT [b1, b2, b3] := by
 unfold subBF at h
 simp only [subBL] at h
 cases h1 : f x <;> cases h2 : f y <;> cases h3 : f z <;> simp [h1, h2, h3] at h
 exact ⟨_, _, _, rfl, rfl, rfl, h.symm⟩
theorem zjm : ∀ {m : Nat} {t : Tm} {b : Bdy}, bodyF m t = some b → BdR t b := by
 intro m
 induction m with
 | zero => intro t b h; cases h
 | succ m ih =>
  intro t b h
  rw [bodyF] at h
  by_cases h1 : isNum t
  ·rw [if_pos h1] at h; cases h
  rw [if_neg h1] at h
  by_cases h2 : t.kind = 1
  ·rw [if_pos h2] at h; cases h; exact .var h2
  rw [if_neg h2] at h
  by_cases h3 : t.kind = 2 ∧ t.name = sTrue
  ·rw [if_pos h3] at h; cases h; exact .tru h3.1 h3.2
  rw [if_neg h3] at h
  by_cases h4 : t.kind = 2 ∧ t.name = sExc
  ·rw [if_pos h4] at h; cases h; exact .cut h4.1 h4.2
  rw [if_neg h4] at h
  by_cases h5 : isF t sCol
  ·rw [if_pos h5] at h
   obtain ⟨x, y, hf⟩ := h5.two
   unfold withinF at h
   rw [hf.a0, hf.a1] at h
   by_cases k1 : isNum y ∨ (x.kind ≠ 2 ∧ x.kind ≠ 1)
   ·rw [if_pos k1] at h; cases h
   rw [if_neg k1] at h
   by_cases k2 : x.kind = 1 ∨ y.kind = 1
   ·rw [if_pos k2] at h; cases h
    exact .mcall hf (by omega) (fun q => k1 (.inl q)) k2
   rw [if_neg k2] at h
   cases hb : bodyF m y <;> rw [hb] at h <;> cases h
   exact .mod hf (by omega) (by omega) (fun q => k1 (.inl q)) (ih hb)
  rw [if_neg h5] at h
  by_cases h6 : isF t sCma
  ·rw [if_pos h6] at h
   obtain ⟨x, y, hf⟩ := h6.two
   rw [hf.2.2] at h
   obtain ⟨b1, b2, e1, e2, rfl⟩ := znu h
   exact .and hf (ih e1) (ih e2)
  rw [if_neg h6] at h
  by_cases h7 : isF t sArr
  ·rw [if_pos h7] at h
   obtain ⟨x, y, hf⟩ := h7.two
   rw [hf.2.2] at h
   obtain ⟨b1, b2, e1, e2, rfl⟩ := znu h
   exact .arr hf (ih e1) (ih e2)
  rw [if_neg h7] at h
  by_cases h8 : isF t sSem ∧ isF (t.at 0) sArr
  ·rw [if_pos h8] at h
   obtain ⟨x, y, hf⟩ := h8.1.two
   rw [hf.a0] at h8
   obtain ⟨u, w, hg⟩ := h8.2.two
   rw [hf.a0, hf.a1, hg.a0, hg.a1] at h
   obtain ⟨b1, b2, b3, e1, e2, e3, rfl⟩ := zpe h
   exact .ite hf hg (ih e1) (ih e2) (ih e3)
  rw [if_neg h8] at h
  by_cases h9 : isF t sSem
  ·rw [if_pos h9] at h
   obtain ⟨x, y, hf⟩ := h9.two
   rw [hf.2.2] at h
   obtain ⟨b1, b2, e1, e2, rfl⟩ := znu h
   exact .or hf (fun q => h8 ⟨h9, by rw [hf.a0]; exact q⟩) (ih e1) (ih e2)
  rw [if_neg h9] at h
  cases h
  exact .call ⟨h1, h2, h3, h4, h5, h6, h7, h9⟩
theorem isF2.lt {t x y : Tm} {s : ByteArray} (h : isF2 t s x y) : SizeOf.sizeOf x < SizeOf.sizeOf t ∧ SizeOf.sizeOf y < SizeOf.sizeOf t := ⟨z0d (by rw [h.2.2]; simp), z0d (by rw [h.2.2]; simp)⟩
theorem isF.nn {t : Tm} {s : ByteArray} (h : isF t s) : ¬ isNum t ∧ t.kind ≠ 1 ∧ ∀ u, ¬ (t.kind = 2 ∧ t.name = u) := by
 have := h.1
 exact ⟨fun q => by rcases q with q | q <;> omega, by omega, fun u q => by omega⟩
theorem zac : ∀ {m : Nat} {t : Tm} {b : Bdy}, SizeOf.sizeOf t < m → BdR t b → bodyF m t = some b := by
 intro m
 induction m with
 | zero => intro t b h; omega
 | succ m ih =>
  intro t b hs h
  have go : ∀ {s : ByteArray}, isF t s → bodyF (m + 1) t = (if isF t sCol then withinF (bodyF m) t
    else if isF t sCma then subBF (bodyF m) 4 t.args
    else if isF t sArr then subBF (bodyF m) 6 t.args
    else if isF t sSem ∧ isF (t.at 0) sArr then subBF (bodyF m) 6 [(t.at 0).at 0, (t.at 0).at 1, t.at 1]
    else if isF t sSem then subBF (bodyF m) 5 t.args
    else some (.mk 3 t [])) := fun hf => by
   obtain ⟨h1, h2, h3⟩ := hf.nn
   rw [bodyF, if_neg h1, if_neg h2, if_neg (h3 _), if_neg (h3 _)]
  cases h with
  | var h => rw [bodyF, if_neg (fun q => by rcases q with q | q <;> omega), if_pos h]
  | tru h1 h2 => rw [bodyF, if_neg (fun q => by rcases q with q | q <;> omega), if_neg (by omega), if_pos ⟨h1, h2⟩]
  | cut h1 h2 => rw [bodyF, if_neg (fun q => by rcases q with q | q <;> omega), if_neg (by omega), if_neg (fun q => by rw [h2] at q; exact absurd q.2 (by decide)), if_pos ⟨h1, h2⟩]
  | mcall hf h1 h2 h3 =>
   rw [go hf.f, if_pos hf.f]
   unfold withinF
   rw [hf.a0, hf.a1, if_neg (fun q => by rcases q with q | q; exact h2 q; omega), if_pos h3]
  | mod hf h1 h2 h3 hb =>
   rw [go hf.f, if_pos hf.f]
   unfold withinF
   rw [hf.a0, hf.a1, if_neg (fun q => by rcases q with q | q; exact h3 q; omega), if_neg (by omega), ih (by have := hf.lt; omega) hb]
   rfl
  | and hf hb hd =>
   rw [go hf.f, if_neg (hf.f.ne (by decide)), if_pos hf.f, hf.2.2]
   unfold subBF
   simp only [subBL, ih (by have := hf.lt; omega) hb, ih (by have := hf.lt; omega) hd]
   rfl
  | arr hf hb hd =>
   rw [go hf.f, if_neg (hf.f.ne (by decide)), if_neg (hf.f.ne (by decide)), if_pos hf.f, hf.2.2]
   unfold subBF
   simp only [subBL, ih (by have := hf.lt; omega) hb, ih (by have := hf.lt; omega) hd]
   rfl
  | ite hf hg hb hd he =>
   have l1 := hf.lt
   have l2 := hg.lt
   rw [go hf.f, if_neg (hf.f.ne (by decide)), if_neg (hf.f.ne (by decide)), if_neg (hf.f.ne (by decide)), if_pos ⟨hf.f, by rw [hf.a0]; exact hg.f⟩, hf.a0, hf.a1, hg.a0, hg.a1]
   unfold subBF
   simp only [subBL, ih (by omega) hb, ih (by omega) hd, ih (by omega) he]
   rfl
  | or hf hn hb hd =>
   rw [go hf.f, if_neg (hf.f.ne (by decide)), if_neg (hf.f.ne (by decide)), if_neg (hf.f.ne (by decide)), if_neg (fun q => hn (by rw [hf.a0] at q; exact q.2)), if_pos hf.f, hf.2.2]
   unfold subBF
   simp only [subBL, ih (by have := hf.lt; omega) hb, ih (by have := hf.lt; omega) hd]
   rfl
  | call h => rw [bodyF, if_neg h.num, if_neg h.var, if_neg h.tru, if_neg h.cut, if_neg h.col, if_neg h.cma, if_neg h.arr, if_neg (fun q => h.sem q.1), if_neg h.sem]
theorem z16 {t : Tm} : toldB (callB t) = cmpT sCall [t] := by rw [z2a]; rfl
theorem zca : toldB (.mk 1 zeroT []) = atmT sTrue := by rw [z2a]; rfl
theorem zcb : toldB (.mk 2 zeroT []) = atmT sExc := by rw [z2a]; rfl
theorem z97 {t : Tm} : toldB (.mk 3 t []) = t := by rw [z2a]; rfl
theorem z98 {x : Tm} {b : Bdy} : toldB (.mk 7 x [b]) = cmpT sCol [x, toldB b] := by rw [z2a]; rfl
theorem z99 {b d : Bdy} : toldB (.mk 4 zeroT [b, d]) = cmpT sCma [toldB b, toldB d] := by rw [z2a]; rfl
theorem z9a {b d : Bdy} : toldB (.mk 5 zeroT [b, d]) = cmpT sSem [toldB b, toldB d] := by rw [z2a]; rfl
theorem z9b {b d : Bdy} : toldB (.mk 6 zeroT [b, d]) = cmpT sArr [toldB b, toldB d] := by rw [z2a]; rfl
theorem z64 {b d e : Bdy} : toldB (.mk 6 zeroT [b, d, e]) = cmpT sSem [cmpT sArr [toldB b, toldB d], toldB e] := by rw [z2a]; rfl
theorem cmp2 {s : ByteArray} {x y : Tm} : isF2 (cmpT s [x, y]) s x y := ⟨rfl, rfl, rfl⟩
theorem zfi {t : Tm} : Oth (cmpT sCall [t]) :=
 ⟨(fun q => by rcases q with q | q <;> cases q), (fun q => by cases q), (fun q => by cases q.1), (fun q => by cases q.1), (fun q => by cases q.2.2), (fun q => by cases q.2.2), (fun q => by cases q.2.2), (fun q => by cases q.2.2)⟩
theorem z2w {s : ByteArray} {l : List Tm} : ¬ isNum (cmpT s l) ∧ (cmpT s l).kind ≠ 1 := ⟨(fun q => by rcases q with q | q <;> cases q), (fun q => by cases q)⟩
theorem zov {t : Tm} {b : Bdy} (h : BdR t b) : BdR (toldB b) b ∧ ¬ isNum (toldB b) ∧ (toldB b).kind ≠ 1 ∧ (isF (toldB b) sArr → isF t sArr) := by
 induction h with
 | var h => rw [z16]; exact ⟨.call zfi, z2w.1, z2w.2, (fun q => by cases q.2.2)⟩
 | tru h1 h2 => rw [zca]; exact ⟨.tru rfl rfl, (fun q => by rcases q with q | q <;> cases q), (fun q => by cases q), (fun q => by cases q.1)⟩
 | cut h1 h2 => rw [zcb]; exact ⟨.cut rfl rfl, (fun q => by rcases q with q | q <;> cases q), (fun q => by cases q), (fun q => by cases q.1)⟩
 | mcall hf h1 h2 h3 => rw [z16]; exact ⟨.call zfi, z2w.1, z2w.2, (fun q => by cases q.2.2)⟩
 | mod hf h1 h2 h3 hb ih => rw [z98]; exact ⟨.mod cmp2 h1 ih.2.2.1 ih.2.1 ih.1, z2w.1, z2w.2, fun q => absurd q (cmp2.f.ne (by decide))⟩
 | and hf hb hd i1 i2 => rw [z99]; exact ⟨.and cmp2 i1.1 i2.1, z2w.1, z2w.2, fun q => absurd q (cmp2.f.ne (by decide))⟩
 | arr hf hb hd i1 i2 => rw [z9b]; exact ⟨.arr cmp2 i1.1 i2.1, z2w.1, z2w.2, fun q => hf.f⟩
 | ite hf hg hb hd he i1 i2 i3 => rw [z64]; exact ⟨.ite cmp2 cmp2 i1.1 i2.1 i3.1, z2w.1, z2w.2, fun q => absurd q (cmp2.f.ne (by decide))⟩
 | or hf hn hb hd i1 i2 => rw [z9a]; exact ⟨.or cmp2 (fun q => hn (i1.2.2.2 q)) i1.1 i2.1, z2w.1, z2w.2, fun q => absurd q (cmp2.f.ne (by decide))⟩
 | call h => rw [z97]; exact ⟨.call h, h.num, h.var, fun q => q⟩
def szB : Bdy → Nat
 | .mk _ t l => 1 + nd t + szBL l
where szBL : List Bdy → Nat
 | [] => 0
 | b :: l => szB b + szBL l
theorem z41 {t : Tm} {l : List Tm} : nd.ndL (t :: l) = nd t + nd.ndL l := by rw [nd.ndL]
theorem znv (t : Tm) : 1 ≤ nd t := by rw [z1x]; omega
theorem z50 {s : ByteArray} {x y : Tm} : nd (cmpT s [x, y]) = 1 + nd x + nd y := by rw [z1x]; show 1 + nd.ndL [x, y] = _; rw [z41, z41, nd.ndL]; omega
theorem zad {s : ByteArray} {x : Tm} : nd (cmpT s [x]) = 1 + nd x := by rw [z1x]; show 1 + nd.ndL [x] = _; rw [z41, nd.ndL, Nat.add_zero]
theorem zgv {t x y : Tm} {s : ByteArray} (h : isF2 t s x y) : nd t = 1 + nd x + nd y := by rw [z1x, h.2.2, z41, z41, nd.ndL]; omega
theorem z65 : nd zeroT = 1 := by rw [z1x]; rfl
theorem zmh {s : ByteArray} : nd (atmT s) = 1 := by rw [z1x]; rfl
theorem znw {t : Tm} {b : Bdy} (hf : Fine t) (h : BdR t b) : nd t ≤ nd (toldB b) ∧ szB b ≤ 2 * nd (toldB b) := by
 have lf : ∀ {t : Tm}, Fine t → t.kind ≠ 5 → nd t = 1 := fun h k => by rw [z1x, (z1s (z1w h.node).2.2.1).2.2.2.2 k]; rfl
 induction h with
 | var h => rw [z16, zad, callB]; simp only [szB, szB.szBL, zad]; omega
 | tru h1 h2 => rw [zca, zmh, lf hf (by omega)]; simp only [szB, szB.szBL, z65]; omega
 | cut h1 h2 => rw [zcb, zmh, lf hf (by omega)]; simp only [szB, szB.szBL, z65]; omega
 | mcall h h1 h2 h3 => rw [z16, zad, callB]; simp only [szB, szB.szBL, zad]; omega
 | mod h h1 h2 h3 hb ih =>
  have := ih (hf.args _ (by rw [h.2.2]; simp))
  have hx := lf (hf.args _ (show _ ∈ _ by rw [h.2.2]; exact List.mem_cons_self)) (by omega)
  rw [z98, z50, zgv h]; simp only [szB, szB.szBL]; omega
 | and h hb hd i1 i2 =>
  have := i1 (hf.args _ (by rw [h.2.2]; simp)); have := i2 (hf.args _ (by rw [h.2.2]; simp))
  rw [z99, z50, zgv h]; simp only [szB, szB.szBL, z65]; omega
 | arr h hb hd i1 i2 =>
  have := i1 (hf.args _ (by rw [h.2.2]; simp)); have := i2 (hf.args _ (by rw [h.2.2]; simp))
  rw [z9b, z50, zgv h]; simp only [szB, szB.szBL, z65]; omega
 | ite h hg hb hd he i1 i2 i3 =>
  have hx := hf.args _ (show _ ∈ _ by rw [h.2.2]; exact List.mem_cons_self)
  have := i1 (hx.args _ (by rw [hg.2.2]; simp)); have := i2 (hx.args _ (by rw [hg.2.2]; simp)); have := i3 (hf.args _ (by rw [h.2.2]; simp))
  rw [z64, z50, z50, zgv h, zgv hg]; simp only [szB, szB.szBL, z65]; omega
 | or h hn hb hd i1 i2 =>
  have := i1 (hf.args _ (by rw [h.2.2]; simp)); have := i2 (hf.args _ (by rw [h.2.2]; simp))
  rw [z9a, z50, zgv h]; simp only [szB, szB.szBL, z65]; omega
 | call h => rw [z97]; simp only [szB, szB.szBL]; have := znv ‹Tm›; omega
abbrev sInst : ByteArray := ⟨#[105, 110, 115, 116, 97, 110, 116, 105, 97, 116, 105, 111, 110, 95, 101, 114, 114, 111, 114]⟩
abbrev sAtomW : ByteArray := ⟨#[97, 116, 111, 109]⟩
noncomputable def stripF : Nat → ByteArray → Tm → ByteArray × Tm × Er
 | 0, m, t => (m, t, .ok)
 | k + 1, m, t => if isF t sCol then
   (if (t.at 0).kind = 1 then (ByteArray.empty, t, .ball (atmT sInst)) else if (t.at 0).kind = 2 then stripF k (t.at 0).name (t.at 1) else (ByteArray.empty, t, .ball (typeT sAtomW (t.at 0))))
  else (m, t, .ok)
noncomputable def stripS (m : ByteArray) (t : Tm) : ByteArray × Tm × Er := stripF (SizeOf.sizeOf t + 1) m t
def StripEnd (H0 H : Heap) (R : ByteArray × Tm × Er) (v : Value) (H' : Heap) : Prop := HX H H' ∧ ∃ a c ev, v = .tuple ⟨[.string R.1, .agg ⟨six R.2.1 a c⟩, ev]⟩ ∧ RepT H0 R.2.1 (six R.2.1 a c) ∧ RepES H' (Rg H.next H'.next) R.2.2 ev ∧ checkS R.2.1 = 0
set_option maxHeartbeats 8000000 in
theorem zfj {m : ByteArray} {t : Tm} {cs : List Value} {H0 H : Heap} (r0 : RepT H0 t cs) (hx0 : HX H0 H) (hw0 : H0.wf) (hc : checkS t = 0) (hw : H.wf) : EvF Tryd.prog okT 38 [.string m, .agg ⟨cs⟩] H (StripEnd H0 H (stripS m t)) := by
 obtain ⟨a, c, cells, rfl, -⟩ := r0.six
 refine EvF.enter rfl Tryd.func38 (by decide) rfl ?_
 (repeat refine EvC.seq ?_); refine EvC.reg ?_; simp (config := { maxSteps := 2000000 }) (disch := first | omega | rfl) only [sB, initTm, dBox, dAlloc, Value.cells, one, reduceCtorEq, zr25]
 obtain ⟨H2, e2, hx2, g3, g5, hn2, hw2⟩ := new2 hw (.row (six t a c) 25) (.row zero6 25)
 simp only [e2]
 clear e2
 (repeat refine EvC.seq ?_)
 refine EvC.join (fun st => ∃ tm H' u m' a c, st = ⟨tm, [], H'⟩ ∧ (m', u, Er.ok) = stripS m t ∧ checkS u = 0 ∧ tm.get 0 = some (.string m') ∧ tm.get 3 = some (.pointer (some ⟨H.next, 0, none⟩)) ∧ tm.get 5 = some (.pointer (some ⟨H.next + 1, 0, none⟩)) ∧
  H'.get H.next = some (.row (six u a c) 25) ∧ H'.get (H.next + 1) = some (.row zero6 25) ∧ RepT H0 u (six u a c) ∧ HX H H') ?_ ?_
 ·refine EvC.block (EvC.loop (fun k st => ∃ tm H' u m' a c, st = ⟨tm, [], H'⟩ ∧ SizeOf.sizeOf u < k ∧ stripF k m' u = stripS m t ∧ checkS u = 0 ∧ tm.get 0 = some (.string m') ∧ tm.get 3 = some (.pointer (some ⟨H.next, 0, none⟩)) ∧ tm.get 5 = some (.pointer (some ⟨H.next + 1, 0, none⟩)) ∧
   H'.get H.next = some (.row (six u a c) 25) ∧ H'.get (H.next + 1) = some (.row zero6 25) ∧ RepT H0 u (six u a c) ∧ HX H H') ?_ (SizeOf.sizeOf t + 1) _ ?_)
  rotate_left
  ·exact ⟨_, _, t, m, a, c, rfl, Nat.lt_succ_self _, rfl, hc, (by simp only [sG, reduceCtorEq] <;> rfl), (by simp only [sG, Nat.reduceEqDiff, reduceCtorEq] <;> rfl), (by simp only [sG, Nat.reduceEqDiff, reduceCtorEq] <;> rfl), g3, g5, r0, hx2⟩
  rintro k st ⟨tm, H', u, m', a, c, rfl, hk, hR, hcu, t0, t3, t5, g3, g5, ru, hx⟩
  have hw' := hx.wf
  have q3 := row6 g3
  (repeat refine EvC.seq ?_); refine EvC.reg ?_; simp (config := { maxSteps := 2000000 }) (disch := first | omega | rfl) only [sB, ld25, cl40, t3, q3]
  refine (z6i (s := sCol) (ru.mono (hx0.trans hx) hw0) hw').mono ?_
  rintro v H3 ⟨rfl, hx3⟩
  have g3 := hx3.get hw' g3
  have g5 := hx3.get hw' g5
  have hx := hx.trans hx3
  have w3 := hx.wf
  have q3 := row6 g3
  obtain ⟨k, rfl⟩ : ∃ n, k = n + 1 := ⟨k - 1, by omega⟩
  try simp (config := { maxSteps := 2000000 }) (disch := first | omega | rfl) only []
  by_cases hi : isF u sCol
  rotate_left
  ·rw [stripF, if_neg hi] at hR
   repeat' (first | refine EvC.seq ?_ | refine EvC.scope ?_ | refine EvC.block ?_ | (refine EvC.skip ?_) | (refine EvC.exit ?_; try simp only [sB, decide_eq_false hi]) | (refine EvC.ret ?_; try simp only [z01, z00]) | (refine EvC.condT ?_ ?_; simp (config := { maxSteps := 2000000 }) (disch := first | omega | rfl) only [sB, Nat.reduceEqDiff, decide_eq_false hi]; refine z04 ?_) | (refine EvC.condF ?_ ?_; simp (config := { maxSteps := 2000000 }) (disch := first | omega | rfl) only [sB, Nat.reduceEqDiff, decide_eq_false hi]; refine z04 ?_))
   exact ⟨_, _, u, m', a, c, rfl, hR, hcu, (by simp only [sG, reduceCtorEq, t0] <;> rfl), (by simp only [sG, Nat.reduceEqDiff, t3] <;> rfl), (by simp only [sG, Nat.reduceEqDiff, t5] <;> rfl), g3, g5, ru, hx⟩
  rw [stripF, if_pos hi] at hR
  (repeat refine EvC.seq ?_); refine EvC.condT (by simp (config := { maxSteps := 2000000 }) (disch := first | omega | rfl) only [sB, Nat.reduceEqDiff, decide_eq_true hi]) ?_; (try refine EvC.skip ?_); (try simp only [z02, z03])
  obtain ⟨x, y, hxy⟩ : ∃ x y, u.args = [x, y] := by
   match hl : u.args, hi.2.2 with
   | [x, y], _ => exact ⟨x, y, rfl⟩
  have ex : u.at 0 = x := by unfold Tm.at; rw [hxy]; rfl
  have ey : u.at 1 = y := by unfold Tm.at; rw [hxy]; rfl
  have x0 : u.args[0]'(by rw [hxy]; simp) = x := by simp [hxy]
  have y1 : u.args[1]'(by rw [hxy]; simp) = y := by simp [hxy]
  obtain ⟨a0, c0, cells0, hcs, -, -, -, -, -, rl⟩ := ru.six
  obtain ⟨-, -, -, -, -, rfl, rfl⟩ := za0 hcs
  obtain ⟨b, o, a1, c1, rfl, hld0, hr0⟩ := rl.el (i := 0) (by rw [hxy]; simp)
  obtain ⟨b', o', a2, c2, e2, hld1, hr1⟩ := rl.el (i := 1) (by rw [hxy]; simp)
  cases e2
  rw [x0] at hld0 hr0
  rw [y1] at hld1 hr1
  simp only [Nat.zero_mul, Nat.add_zero, Nat.one_mul] at hld0 hld1
  have hcx := z0y hcu (u := x) (by rw [hxy]; simp)
  have hcy := z0y hcu (u := y) (by rw [hxy]; simp)
  have hsy : SizeOf.sizeOf y < SizeOf.sizeOf u := z0d (by rw [hxy]; simp)
  rw [ex, ey] at hR
  have hxl : u.args.length = 2 := hi.2.2
  have l0 := (hx0.trans hx).load hw0 hld0
  (repeat refine EvC.seq ?_)
  refine EvC.block ?_
  (repeat refine EvC.seq ?_); refine EvC.reg ?_; simp (config := { maxSteps := 2000000 }) (disch := first | omega | rfl) only [sB, dAlloc, Nat.reduceEqDiff, Nat.reduceAdd, one, Int.reduceToNat, zr25, ld25, z0v, ld23, st25, t3, q3, hxl, l0, iz23, Nat.zero_mul]
  obtain ⟨H4, e4, hx4, g7, hn4, w4⟩ := z0l w3 (.row zero6 25) (.row (six x a1 c1) 25)
  simp only [e4]
  clear e4
  have g3 := hx4.get w3 g3
  have g5 := hx4.get w3 g5
  have q3 := row6 g3
  have q7 := row6 g7
  have hx := hx.trans hx4
  have l1 := (hx0.trans hx).load hw0 hld1
  (repeat refine EvC.seq ?_); refine EvC.reg ?_; simp (config := { maxSteps := 2000000 }) (disch := first | omega | rfl) only [sB, Nat.reduceEqDiff, z0m, ld3, q7]
  (repeat refine EvC.seq ?_)
  refine EvC.block ?_
  have n4 := hx.next
  by_cases k1 : x.kind = 1
  ·rw [if_pos k1] at hR
   (repeat refine EvC.seq ?_); refine EvC.reg ?_; simp (config := { maxSteps := 2000000 }) (disch := first | omega | rfl) only [sB, Nat.reduceEqDiff, z0r k1]
   (repeat refine EvC.seq ?_); refine EvC.condT (by simp (config := { maxSteps := 2000000 }) (disch := first | omega | rfl) only [sB, Nat.reduceEqDiff]) ?_; (try refine EvC.skip ?_); (try simp only [z02, z03])
   (repeat refine EvC.seq ?_); refine EvC.drw [([], some 1), ([], some 2), ([(0, 0), (3, 2)], some 4), ([(5, 3)], none)] (by kernel_rfl) ?_; simp (config := { maxSteps := 2000000 }) (disch := first | omega | rfl) only [sD, sA, Nat.reduceAdd, cl39]
   have hb := (HX.refl w4).bump 6
   refine (z3n hb.wf).mono ?_
   rintro v H5 ⟨rfl, hx5⟩
   have w5 := hx5.wf
   have q35 := row6 ((hb.trans hx5).get w4 g3)
   repeat' (first | refine EvC.seq ?_ | refine EvC.scope ?_ | refine EvC.block ?_ | (refine EvC.skip ?_) | (refine EvC.exit ?_) | (refine EvC.ret ?_; try simp only [z01, z00]) | (refine z0u ?_; simp (config := { maxSteps := 2000000 }) (disch := first | omega | rfl) only [sD, sB, Nat.reduceEqDiff, cl41]))
   refine (z6q (S := fun _ => False) (z3o (by decide)) w5 (fun _ h => h.elim)).mono ?_
   rintro v H6 ⟨hx6, he6⟩
   have hx46 := (hb.trans hx5).trans hx6
   have q36 := row6 (hx46.get w4 g3)
   have g5 := hx46.get w4 g5
   have n6 := hx46.next
   repeat' (first | refine EvC.seq ?_ | refine EvC.scope ?_ | refine EvC.block ?_ | (refine EvC.skip ?_) | (refine EvC.exit ?_) | (refine EvC.ret ?_; try simp only [z01, z00]) | (refine z0u ?_; simp (config := { maxSteps := 2000000 }) (disch := first | omega | rfl) only [sV, sD, sB, Nat.reduceEqDiff, Nat.reduceAdd, one, reduceCtorEq, ld25, st25, t3, q3, q35, q36, g5, t5, isAlloc, isRead, reduceCtorEq]))
   have hxz := (hx.trans hx46).pt (i := H.next + 1) (by omega) g5 (some (.row (six u (some ⟨b, o, none⟩) c) 25))
   have n5 : H4.next + 6 ≤ H5.next := hx5.next
   have n56 := hx6.next
   rw [← hR]
   refine z3x rfl (by simp only [sB, Nat.reduceEqDiff] <;> rfl) (by simp only [sB, Nat.reduceEqDiff, t5] <;> rfl) (by simp only [sB, Nat.reduceAdd, cutC, ld25] <;> rfl) (by simp only [sG, Nat.reduceEqDiff] <;> rfl) ⟨hxz, _, _, _, rfl, ru, he6.to fun n hn hl => ?_, hcu⟩
   have hn' := hn.resolve_left (fun h => h)
   exact ⟨by rw [get_put, if_neg (by omega)], ⟨by omega, by rw [z07]; omega⟩, by rw [z07]; omega⟩
  rw [if_neg k1] at hR
  (repeat refine EvC.seq ?_); refine EvC.reg ?_; simp (config := { maxSteps := 2000000 }) (disch := first | omega | rfl) only [sB, Nat.reduceEqDiff, z0t k1]
  (repeat refine EvC.seq ?_); refine EvC.condF (by simp (config := { maxSteps := 2000000 }) (disch := first | omega | rfl) only [sB, Nat.reduceEqDiff]) ?_; (try refine EvC.skip ?_); (try simp only [z02, z03])
  by_cases k2 : x.kind = 2
  ·rw [if_pos k2] at hR
   (repeat refine EvC.seq ?_); refine EvC.reg ?_; simp (config := { maxSteps := 2000000 }) (disch := first | omega | rfl) only [sB, Nat.reduceEqDiff, z0r k2]
   (repeat refine EvC.seq ?_); refine EvC.condT (by simp (config := { maxSteps := 2000000 }) (disch := first | omega | rfl) only [sB, Nat.reduceEqDiff]) ?_; (try refine EvC.skip ?_); (try simp only [z02, z03])
   (repeat refine EvC.seq ?_); refine EvC.drw [([(0, 0), (1, 0), (2, 0), (3, 0), (4, 0), (5, 0), (6, 0)], some 7), ([], none)] (by kernel_rfl) ?_; simp (config := { maxSteps := 2000000 }) (disch := first | omega | rfl) only [sD, sB, Nat.reduceEqDiff, Nat.reduceAdd, one, reduceCtorEq, Int.reduceToNat, ld25, z0v, ld23, st25, z2e, ld9, isAlloc, isRead, reduceCtorEq, t3, q3, q7, g3, l1, hxl, iz23, Nat.one_mul]
   have hb := hx.bump 8
   have hz := hb.pt (i := H.next) (Nat.le_refl _) (show Heap.get ⟨H4.next + 8, H4.t⟩ H.next = _ from g3) (some (.row (six y a2 c2) 25))
   exact ⟨k, Nat.lt_succ_self _, _, _, y, x.name, a2, c2, rfl, by omega, hR, hcy, (by simp only [sG, reduceCtorEq] <;> rfl), (by simp only [sG, Nat.reduceEqDiff, reduceCtorEq, t3] <;> rfl), (by simp only [sG, Nat.reduceEqDiff, reduceCtorEq, t5] <;> rfl), by rw [get_put, if_pos rfl], by rw [get_put, if_neg (by omega)]; exact g5, hr1, hz⟩
  ·rw [if_neg k2] at hR
   (repeat refine EvC.seq ?_); refine EvC.reg ?_; simp (config := { maxSteps := 2000000 }) (disch := first | omega | rfl) only [sB, Nat.reduceEqDiff, z0t k2]
   (repeat refine EvC.seq ?_); refine EvC.condF (by simp (config := { maxSteps := 2000000 }) (disch := first | omega | rfl) only [sB, Nat.reduceEqDiff]) ?_; (try refine EvC.skip ?_); (try simp only [z02, z03])
   (repeat refine EvC.seq ?_); refine EvC.drw [([(1, 0)], some 2), ([(0, 0), (3, 1)], some 4), ([(5, 2)], none)] (by kernel_rfl) ?_; simp (config := { maxSteps := 2000000 }) (disch := first | omega | rfl) only [sD, sB, Nat.reduceEqDiff, Nat.reduceAdd, reduceCtorEq, ld25, cl26, isAlloc, isRead, reduceCtorEq, q7]
   have hb := (HX.refl w4).bump 6
   refine (z5p (s := sAtomW) (by decide) ((hr0.mono (hx0.trans hx) hw0).mono hb w4) hcx hb.wf).mono ?_
   rintro v H6 ⟨hx6, he6⟩
   have hx46 := hb.trans hx6
   have q36 := row6 (hx46.get w4 g3)
   have g5 := hx46.get w4 g5
   have n6 := hx46.next
   repeat' (first | refine EvC.seq ?_ | refine EvC.scope ?_ | refine EvC.block ?_ | (refine EvC.skip ?_) | (refine EvC.exit ?_) | (refine EvC.ret ?_; try simp only [z01, z00]) | (refine z0u ?_; simp (config := { maxSteps := 2000000 }) (disch := first | omega | rfl) only [sV, sD, sB, Nat.reduceEqDiff, Nat.reduceAdd, one, reduceCtorEq, ld25, st25, t3, q3, q36, g5, t5, isAlloc, isRead, reduceCtorEq]))
   have hxz := (hx.trans hx46).pt (i := H.next + 1) (by omega) g5 (some (.row (six u (some ⟨b, o, none⟩) c) 25))
   have n5 : H4.next + 6 ≤ H6.next := hx6.next
   rw [← hR]
   refine z3x rfl (by simp only [sB, Nat.reduceEqDiff] <;> rfl) (by simp only [sB, Nat.reduceEqDiff, t5] <;> rfl) (by simp only [sB, Nat.reduceAdd, cutC, ld25] <;> rfl) (by simp only [sG, Nat.reduceEqDiff] <;> rfl) ⟨hxz, _, _, _, rfl, ru, he6.to fun n hn hl => ?_, hcu⟩
   have hn' : H4.next + 6 ≤ n := hn.1
   exact ⟨by rw [get_put, if_neg (by omega)], ⟨by omega, by rw [z07]; omega⟩, by rw [z07]; omega⟩
 ·rintro st ⟨tm, H', u, m', a, c, rfl, hR, hcu, t0, t3, t5, g3, g5, ru, hx⟩
  have q3 := row6 g3
  simp only [z02]
  have hz := (hx.bump 5).pt (i := H.next + 1) (by omega) (show Heap.get ⟨H'.next + 5, H'.t⟩ (H.next + 1) = _ from g5) (some (.row (six u a c) 25))
  (repeat refine EvC.seq ?_); refine EvC.drw [([(0, 0), (1, 0), (2, 0)], some 3), ([(4, 1)], none)] (by kernel_rfl) ?_; simp (config := { maxSteps := 2000000 }) (disch := first | omega | rfl) only [sD, sB, Nat.reduceEqDiff, Nat.reduceAdd, one, reduceCtorEq, ld25, st25, isAlloc, isRead, reduceCtorEq, t0, t3, t5, q3, g5]
  repeat' (first | refine EvC.seq ?_ | refine EvC.scope ?_ | refine EvC.block ?_ | (refine EvC.skip ?_) | (refine EvC.exit ?_) | (refine EvC.ret ?_; try simp only [z01, z00]))
  rw [← hR]
  refine z3x rfl (by simp only [sG, Nat.reduceEqDiff] <;> rfl) (by simp only [sB, Nat.reduceEqDiff, t5] <;> rfl) (by simp only [sB, Nat.reduceAdd, cutC, ld25] <;> rfl) (by simp only [sG, Nat.reduceEqDiff] <;> rfl) ⟨hz, _, _, _, rfl, ru, RepES.fine, hcu⟩
def RBEnd (H : Heap) (o : Option Bdy) (v : Value) (H' : Heap) : Prop := HX H H' ∧ ∃ out bd, v = .tuple ⟨[.agg ⟨out⟩, .bool o.isSome]⟩ ∧ OB H' 30 25 (Rg H.next H'.next) bd out ∧ ∀ b, o = some b → bd = b
def RBodyP (m : Nat) : Prop := ∀ (t : Tm) (cs : List Value) (H : Heap), SizeOf.sizeOf t < m → RepT H t cs → checkS t = 0 → H.wf → EvF Tryd.prog okT 34 [.agg ⟨cs⟩] H (RBEnd H (bodyF m t))
theorem OBL.one {H : Heap} {TB TT : TypeId} {S N : Nat → Prop} {u : Bdy} {cs : List Value} {b : Nat} (hg : H.get b = some (.row cs TB)) (hu : OB H TB TT N u cs) (hw : H.wf) (hS : S b) (hN : ∀ n, N n → S n) (hb : ¬ N b) : OBL H TB TT S [u] (some ⟨b, 0, none⟩) 1 := by
 obtain ⟨hone, hlen⟩ := hu.rep.ones
 refine .inr ⟨b, cs, fun _ => N, rfl, Nat.le_refl _, by decide, hg, hS, hw _ _ hg, by simp [hlen], fun i v hv => ?_, fun i _ => hb, fun i n _ hn => hN n hn, fun i j n hi hj _ _ => by simp at hi hj; omega⟩
 match i, hv with
 | 0, hv =>
  cases hv
  rw [Nat.zero_mul, List.drop_zero, List.take_of_length_le (by omega)]
  exact hu
abbrev saidT (e : Int) (b : Bool) (t : Tm) (a : Option Addr) (c : Nat) : List Value := [.int .i64 e, .bool b, .int .i64 t.kind, .string t.name, .string t.num, .int .u64 t.bits, .int .i64 t.var, .slice a t.args.length c]
abbrev said0 : List Value := [.int .i64 0, .bool false, .int .i64 0, .string ByteArray.empty, .string ByteArray.empty, .int .u64 0, .int .i64 0, .slice none 0 0]
def RSaid (H : Heap) (S : Nat → Prop) : Er → List Value → Prop
 | .ok, cs => cs = said0
 | .num e, cs => e ≠ 0 ∧ cs = [.int .i64 e, .bool false, .int .i64 0, .string ByteArray.empty, .string ByteArray.empty, .int .u64 0, .int .i64 0, .slice none 0 0]
 | .ball t, cs => ∃ a c, cs = saidT 0 true t a c ∧ RepS H S t (six t a c)
theorem RSaid.to {H H2 : Heap} {S S2 : Nat → Prop} {e : Er} {cs : List Value} (h : RSaid H S e cs) (hk : ∀ n, S n → n < H.next → H2.get n = H.get n ∧ S2 n ∧ n < H2.next) : RSaid H2 S2 e cs := by
 cases e with
 | ok => exact h
 | num e => exact h
 | ball t => obtain ⟨a, c, h1, h2⟩ := h; exact ⟨a, c, h1, h2.to hk⟩
theorem RSaid.cells {H : Heap} {S : Nat → Prop} {e : Er} {cs : List Value} (h : RSaid H S e cs) : ∃ n b t a c, cs = saidT n b t a c := by
 cases e with
 | ok => exact ⟨0, false, zeroT, none, 0, h⟩
 | num e => exact ⟨e, false, zeroT, none, 0, h.2⟩
 | ball t => obtain ⟨a, c, h1, h2⟩ := h; exact ⟨0, true, t, a, c, h1⟩
def noneB : Er → Bool
 | .ok => true
 | _ => false
noncomputable def madeE (t : Tm) : Er := match bodyF (SizeOf.sizeOf t + 1) t with
 | none => .ball (typeT sCallable t)
 | some b => if 4000 < cnt (toldB b) 0 then .ball (resT sNodes) else .ok
def RReadyEnd (H : Heap) (t : Tm) (v : Value) (H' : Heap) : Prop := HX H H' ∧ ∃ out sd, v = .tuple ⟨[.agg ⟨out⟩, .agg ⟨sd⟩]⟩ ∧ OB H' 30 25 (Rg H.next H'.next) (readyS t).1 out ∧ RSaid H' (Rg H.next H'.next) (readyS t).2 sd
set_option maxHeartbeats 8000000 in
theorem z89 {m : Nat} : ∀ {t : Bdy} {cs cs' : List Value} {H : Heap}, SizeOf.sizeOf t < m → RepB H t cs → RepB H t cs' → H.wf →
  EvF Tryd.prog okT 9 [.agg ⟨cs⟩, .agg ⟨cs'⟩] H fun v H' => v = .bool true ∧ HX H H' := by
 induction m with
 | zero => intro t cs cs' H h; omega
 | succ m ih =>
 intro t cs cs' H hsz r r' hw
 obtain ⟨ts, a, c, cells, rfl, hk, rt, rl⟩ := r.inv
 obtain ⟨ts', a', c', cells', rfl, -, rt', rl'⟩ := r'.inv
 obtain ⟨ta, tc, cellst, rfl, -⟩ := rt.inv
 obtain ⟨ta', tc', cellst', rfl, -⟩ := rt'.inv
 show EvF Tryd.prog okT 9 [.agg ⟨eightT t.kind t.term ta tc a t.sub.length c⟩, .agg ⟨eightT t.kind t.term ta' tc' a' t.sub.length c'⟩] H _
 refine EvF.enter rfl Tryd.func9 (by decide) rfl ?_
 (repeat refine EvC.seq ?_); refine EvC.reg ?_; simp (config := { maxSteps := 2000000 }) (disch := first | omega | rfl) only [sB, initTm, dBox, Nat.reduceEqDiff, Value.cells, one, reduceCtorEq]
 obtain ⟨H2, e2, hx2, gp, gq, hnx, hw2⟩ := new2 hw (.row (eightT t.kind t.term ta tc a t.sub.length c) 30) (.row (eightT t.kind t.term ta' tc' a' t.sub.length c') 30)
 simp only [e2]
 have q1 := row8 gp
 have q2 := row8 gq
 clear e2
 (repeat refine EvC.seq ?_); refine EvC.reg ?_; simp (config := { maxSteps := 2000000 }) (disch := first | omega | rfl) only [sB, Nat.reduceEqDiff, reduceCtorEq, z8v, ld25, cl12, q1, q2]
 refine (z90 (rt.mono hx2 hw) (rt'.mono hx2 hw) hw2).mono ?_
 rintro v H3 ⟨rfl, hx3⟩
 have gp3 := hx3.get hw2 gp
 have gq3 := hx3.get hw2 gq
 have q1 := row8 gp3
 have q2 := row8 gq3
 have hx := hx2.trans hx3
 have hm := rl.cap
 have hl := rl.len
 have hmx : t.sub.length ≤ 9223372036854775807 := Nat.le_trans hl (Nat.le_trans hm (by decide))
 repeat' (first | refine EvC.seq ?_ | refine EvC.scope ?_ | refine EvC.block ?_ | (refine EvC.skip ?_; try simp only [z02]) | (refine EvC.exit ?_) | (refine EvC.ret ?_; try simp only [z01, z00]) | (refine EvC.reg ?_; simp (config := { maxSteps := 2000000 }) (disch := first | omega | rfl) only [sB, Nat.reduceEqDiff, reduceCtorEq, z1k, ld3, z3v, ld28, ln28, q1, q2, zl0 rfl, z1m rfl, Bool.not_true, Bool.false_eq_true]) | (refine EvC.condT ?_ ?_; simp (config := { maxSteps := 2000000 }) (disch := first | omega | rfl) only [sB, Nat.reduceEqDiff, reduceCtorEq]; refine z04 ?_) | (refine EvC.condF ?_ ?_; simp (config := { maxSteps := 2000000 }) (disch := first | omega | rfl) only [sB, Nat.reduceEqDiff, reduceCtorEq]; refine z04 ?_))
 refine EvC.loop (fun k st => ∃ tm H' i, st = ⟨tm, [], H'⟩ ∧ k = t.sub.length - i ∧ i ≤ t.sub.length ∧ 
   tm.get 2 = some (.pointer (some ⟨H.next, 0, none⟩)) ∧ tm.get 3 = some (.pointer (some ⟨H.next + 1, 0, none⟩)) ∧ tm.get 6 = some (.int .i64 (i : Nat)) ∧
   H'.get H.next = some (.row (eightT t.kind t.term ta tc a t.sub.length c) 30) ∧ H'.get (H.next + 1) = some (.row (eightT t.kind t.term ta' tc' a' t.sub.length c') 30) ∧ HX H H') ?_ t.sub.length _ ?_
 ·rintro k st ⟨tm, H', i, rfl, rfl, hi, t2, t3, t6, gp', gq', hx'⟩
  have q1 := row8 gp'
  have q2 := row8 gq'
  by_cases hlt : i < t.sub.length
  ·obtain ⟨b, o, rfl, hld, hr1⟩ := rl.el hlt
   obtain ⟨b', o', rfl, hld', hr2⟩ := rl'.el hlt
   obtain ⟨ua, uc, va, vc, hc1⟩ := hr1.eight
   obtain ⟨ua', uc', va', vc', hc2⟩ := hr2.eight
   rw [hc1] at hr1 hld
   rw [hc2] at hr2 hld'
   have hld1 := hx'.load hw hld
   have hld2 := hx'.load hw hld'
   repeat' (first | refine EvC.seq ?_ | refine EvC.scope ?_ | refine EvC.block ?_ | (refine EvC.skip ?_; try simp only [z02]) | (refine EvC.exit ?_) | (refine EvC.ret ?_; try simp only [z01, z00]) | (refine EvC.reg ?_; simp (config := { maxSteps := 2000000 }) (disch := first | omega | rfl) only [sB, Nat.reduceEqDiff, z3v, ld28, ln28, t2, t6, q1, decl hlt]) | (refine EvC.drw [([(0, 0), (1, 0), (2, 0), (3, 0), (4, 0), (5, 0), (6, 0), (7, 0), (8, 0), (9, 0)], some 10), ([(11, 1)], none)] ?_ ?_; kernel_rfl; simp (config := { maxSteps := 2000000 }) (disch := first | omega | rfl) only [sD, sB, Nat.reduceEqDiff, Nat.reduceAdd, reduceCtorEq, z3v, ld28, ia28, ld30, cl9, t2, t3, t6, q1, q2, hld1, hld2, isAlloc, isRead, reduceCtorEq]) | (refine EvC.condT ?_ ?_; simp (config := { maxSteps := 2000000 }) (disch := first | omega | rfl) only [sB, Nat.reduceEqDiff]; refine z04 ?_))
   have hb := hx'.bump 12
   have hs := t.size _ (List.getElem_mem hlt)
   refine (ih (t := t.sub[i]) (by omega) (hr1.mono hb hw) (hr2.mono hb hw) hb.wf).mono ?_
   rintro v H4 ⟨rfl, hx4⟩
   have hx5 := hb.trans hx4
   repeat' (first | refine EvC.seq ?_ | refine EvC.scope ?_ | refine EvC.block ?_ | (refine EvC.skip ?_; try simp only [sA]) | (refine EvC.exit ?_) | (refine EvC.ret ?_; try simp only [z01, z00]) | (refine EvC.reg ?_; simp (config := { maxSteps := 2000000 }) (disch := first | omega | rfl) only [sB, Nat.reduceEqDiff, Bool.not_true, t6, z0c]) | (refine z0u ?_; simp (config := { maxSteps := 2000000 }) (disch := first | omega | rfl) only [sD, sB, Nat.reduceEqDiff, isAlloc, isRead]) | (refine EvC.condT ?_ ?_; simp (config := { maxSteps := 2000000 }) (disch := first | omega | rfl) only [sB, Nat.reduceEqDiff]; refine z04 ?_) | (refine EvC.condF ?_ ?_; simp (config := { maxSteps := 2000000 }) (disch := first | omega | rfl) only [sB, Nat.reduceEqDiff]; refine z04 ?_))
   exact ⟨t.sub.length - (i + 1), by omega, _, _, i + 1, rfl, rfl, by omega, (by simp only [sG, Nat.reduceEqDiff, t2] <;> rfl), (by simp only [sG, Nat.reduceEqDiff, t3] <;> rfl), (by simp only [sB, Nat.reduceEqDiff] <;> rfl), hx4.get hb.wf gp', hx4.get hb.wf gq', hx5⟩
  ·repeat' (first | refine EvC.seq ?_ | refine EvC.scope ?_ | refine EvC.block ?_ | (refine EvC.skip ?_) | (refine EvC.exit ?_; try simp only [sB]) | (refine EvC.ret ?_; try simp only [z01, z00]) | (refine EvC.reg ?_; simp (config := { maxSteps := 2000000 }) (disch := first | omega | rfl) only [sB, Nat.reduceEqDiff, z3v, ld28, ln28, t2, t6, q1, decn hlt]) | (refine EvC.condT ?_ ?_; simp (config := { maxSteps := 2000000 }) (disch := first | omega | rfl) only [sB, Nat.reduceEqDiff]; refine z04 ?_) | (refine EvC.condF ?_ ?_; simp (config := { maxSteps := 2000000 }) (disch := first | omega | rfl) only [sB, Nat.reduceEqDiff]; refine z04 ?_))
   exact z06 rfl (by simp only [sG, Nat.reduceEqDiff] <;> rfl) ⟨rfl, hx'⟩
 ·exact ⟨_, _, 0, rfl, rfl, by omega, (by simp only [sG, Nat.reduceEqDiff, reduceCtorEq] <;> rfl), (by simp only [sG, Nat.reduceEqDiff, reduceCtorEq] <;> rfl), (by simp only [sB, Nat.reduceEqDiff, reduceCtorEq] <;> rfl), gp3, gq3, hx⟩
abbrev mark8 : List Value := [.int .i64 (-1), .int .i64 0, .string ByteArray.empty, .string ByteArray.empty, .int .u64 0, .int .i64 0, .slice none 0 0, .slice none 0 0]
abbrev mark1 : List Value := [.int .i64 (-1), .string ByteArray.empty, .string ByteArray.empty, .int .u64 0, .int .i64 0, .slice none 0 0]
end Go.Proofs.hq
end

section
namespace Go.Hb
open Go Go.RowKit
def dNilK (v : Value) (H : Heap) : Option Dr := match v with
 | .pointer (some a) => some (.val (.pointer (some a)) H)
 | .func (.func f) a b => some (.val (.func (.func f) a b) H)
 | _ => none
theorem zfk {P : Program} {H : Heap} {d : Option Tmp} {x : Operand} {ty : TypeId} {pos : String} {af : Array Edge} {g : Option (Nat × Bool)} {ρ : Operand → Value} : dop P ⟨d, .nilCheck x, ty, pos, af, g⟩ ρ H = dNilK (ρ x) H := _root_.id rfl
theorem zcc {H : Heap} {a : Addr} : dNilK (.pointer (some a)) H = some (.val (.pointer (some a)) H) := _root_.id rfl
end Go.Hb
namespace Go.Proofs.hq
open Go Go.RowKit Go.Hb
variable {ok : Ok}
set_option maxRecDepth 10000
attribute [local irreducible] LX LG EL STG SOP SGO SGD SAL SRD SEF SEG SLK SCK ES
theorem zjn : taZ Tryd.prog 72 = some (.pointer none) := by kernel_rfl
end Go.Proofs.hq
end
