/- From a run of the abstract machine with tokens for arguments to a row's contract. -/
import Derived.Test.YtgcbbaeokigbdaaDoorHbArgs
import Derived.OpenShut
import Derived.ProofKit
namespace Go.Hb
open Go Go.RowKit Go.ChangeShapes Go.WideShapes

section
variable {H : Type} {enc : TypeId × Value → H} {P : Program}

theorem trodAll_stays (hl : laidOutB P = true) {W W' : World} (hB : Below W.heap.size W W') (sp : Nat → Bool) : ∀ {ts : List TypeId} {vs : List Value} {ds : List (DataW H)} {ps : List MemPlace},
    (∀ t ∈ ts, P.readableRec t = true ∧ t < P.types.size) → DataW.TrodAll enc P W 0 (fun _ => true) true ts vs ds ps → (∀ x ∈ ps, x.block < W.heap.size) → (∀ x ∈ ps, sp x.block = true) → DataW.TrodAll enc P W' 0 sp true ts vs ds ps
  | [], vs, ds, ps, _, h, _, _ => by
    obtain ⟨rfl, rfl, rfl⟩ := trodAll_nil h
    exact trodAll_mk0
  | t :: ts, vs, ds, ps, ht, h, hlt, hsp => by
    obtain ⟨v, vs1, d, ds1, p, q, rfl, rfl, rfl, h1, h2⟩ := trodAll_cons h
    exact trodAll_cons_mk (WideElems.Trod_stays hl (ht t (by simp)).1 (ht t (by simp)).2 h1 (fun x hx => hB.same (hlt x (by simp [hx]))) (fun x hx => hsp x (by simp [hx])))
      (trodAll_stays hl hB sp (fun u hu => ht u (by simp [hu])) h2 (fun x hx => hlt x (by simp [hx])) (fun x hx => hsp x (by simp [hx])))

/-- A LAW's CONTRACT: it returns true; what was there is as it was; every argument reads as it did. -/
theorem contract_of {f : FuncId} {fn : Func} {s : ChangeSpec} {W : World} {args : Array Value} {ds gs : List (DataW H)} {before : List MemPlace}
    (hl : laidOutB P = true) (hts : fn.params.toList.all (fun t => P.readableRec t && decide (t < P.types.size)) = true) (hvs : s.vars = []) (hr : fn.resultTypes = #[4]) (hb : P.underlying 4 = some .bool)
    (hfn : ∀ ds : List (DataW H), ds.length = fn.params.size → (s.fn H (ds ++ [])).results = [.lit (.bool true)] ∧ (s.fn H (ds ++ [])).args = ds ∧ (s.fn H (ds ++ [])).vars = [])
    (hW : DataW.Whole enc P fn.params.toList s.vars false W args.toList ds gs before)
    (hc : Calls P f args W fun e W' => e = .returned (.bool true) ∧ Below W.heap.size W W') :
    Calls P f args W fun e W' => ∃ v, e = .returned v ∧ s.post enc P fn false true false false W args v W' := by
  have hW' := hW
  obtain ⟨p, q, hA, hV, rfl, hfz, hnd⟩ := hW
  rw [hvs] at hV
  obtain ⟨rfl, rfl⟩ := trodVars_none hV
  have hlen : ∀ {ts : List TypeId} {vs : List Value} {ds : List (DataW H)} {ps : List MemPlace}, DataW.TrodAll enc P W 0 (fun _ => true) true ts vs ds ps → ds.length = ts.length := by
    intro ts
    induction ts with
    | nil => intro vs ds ps h; obtain ⟨_, rfl, _⟩ := trodAll_nil h; rfl
    | cons t ts ih => intro vs ds ps h; obtain ⟨v, vs1, d, ds1, p, q, rfl, rfl, rfl, h1, h2⟩ := trodAll_cons h; simp [ih h2]
  obtain ⟨e1, e2, e3⟩ := hfn ds (by rw [hlen hA]; simp)
  refine hc.mono fun e W' ⟨he, hB⟩ => ?_
  subst he
  refine ⟨_, rfl, post_of_below (pa := p) (pv := []) hW' (fun _ _ _ => ?_) (fun sp hsp => ?_) (fun _ _ => ?_) rfl hB (ok_one hr rfl (okWide_bool_mk hb _))⟩
  · rw [e1, hr]; exact trodAll_cons_mk (shut_bool hb _) trodAll_mk0
  · rw [e2]
    refine trodAll_stays hl hB sp (fun t ht => ?_) hA (fun x hx => hW'.lt x (by simp [hx])) (fun x hx => hsp x (by simp [hx]))
    have := List.all_eq_true.1 hts t ht
    simpa using this
  · rw [e3, hvs]; rfl

def shOf (P : Program) (t : TypeId) : Option Nat :=
  match P.underlying t with
  | some (.struct _) | some (.array _ _) => some (P.cellsOf t)
  | _ => none

theorem fits_of {w : World} {r : Reach} {base : Nat} {t : TypeId} {v : Value} (h : Value.okWide P w r base t v) : Fits (shOf P t) v := by
  unfold Value.okWide at h
  unfold shOf
  split at h
  · rename_i fs hu
    rw [hu]
    obtain ⟨cs, rfl, hs, ts, _, _, hc⟩ := h
    exact ⟨cs, rfl, hs, fun i u hi => let ⟨_, _, hk⟩ := hc i u hi; cell_one hk⟩
  · rename_i n e hu
    rw [hu]
    obtain ⟨cs, rfl, hs, ts, _, _, hc⟩ := h
    exact ⟨cs, rfl, hs, fun i u hi => let ⟨_, _, hk⟩ := hc i u hi; cell_one hk⟩
  · rename_i h1 h2
    split
    · rename_i fs hu; exact absurd hu (h1 fs)
    · rename_i n e hu; exact absurd hu (h2 n e)
    · exact cell_one h

theorem fitsL_of {w : World} {r : Reach} {base : Nat} : ∀ {ts : List TypeId} {vs : List Value}, ts.length = vs.length → (∀ (j : Nat) t v, ts[j]? = some t → vs[j]? = some v → Value.okWide P w r base t v) → FitsL (ts.map (shOf P)) vs
  | [], [], _, _ => trivial
  | t :: ts, v :: vs, hl, h => ⟨fits_of (h 0 t v rfl rfl), fitsL_of (by simpa using hl) fun j u x hu hx => h (j + 1) u x (by simpa using hu) (by simpa using hx)⟩
  | [], _ :: _, hl, _ => by simp at hl
  | _ :: _, [], hl, _ => by simp at hl

/-- THE CONTRACT OUT OF THE RUN, whatever the arguments. -/
theorem contract_run {ok n nx : Nat} {f : FuncId} {fn : Func} {s : ChangeSpec} {W : World} {base : Nat} {args : Array Value} {ds gs : List (DataW H)} {before : List MemPlace}
    (hm : P.follows .mixedOrders = true) (hok : ((List.range P.funcs.size).all fun f => !ok.testBit f || okFn P f) = true) (hnx : P.globals.size ≤ nx)
    (hrun : retTrue (dcall P (Ok.run ok) n f (toksFrom 0 (fn.params.toList.map (shOf P))) ⟨nx, .nil⟩) = true)
    (hl : laidOutB P = true) (hts : fn.params.toList.all (fun t => P.readableRec t && decide (t < P.types.size)) = true) (hvs : s.vars = []) (hr : fn.resultTypes = #[4]) (hb : P.underlying 4 = some .bool)
    (hfn : ∀ ds : List (DataW H), ds.length = fn.params.size → (s.fn H (ds ++ [])).results = [.lit (.bool true)] ∧ (s.fn H (ds ++ [])).args = ds ∧ (s.fn H (ds ++ [])).vars = [])
    (hval : ∀ (j : Nat) t v, fn.params[j]? = some t → args[j]? = some v → Value.okWide P W .any base t v)
    (hW : DataW.Whole enc P fn.params.toList s.vars false W args.toList ds gs before) :
    Calls P f args W fun e W' => ∃ v, e = .returned v ∧ s.post enc P fn false true false false W args v W' := by
  have hlen : ∀ {ts : List TypeId} {vs : List Value} {ds : List (DataW H)} {ps : List MemPlace}, DataW.TrodAll enc P W 0 (fun _ => true) true ts vs ds ps → ts.length = vs.length := by
    intro ts
    induction ts with
    | nil => intro vs ds ps h; obtain ⟨rfl, _, _⟩ := trodAll_nil h; rfl
    | cons t ts ih => intro vs ds ps h; obtain ⟨v, vs1, d, ds1, p, q, rfl, rfl, rfl, h1, h2⟩ := trodAll_cons h; simp [ih h2]
  have hW2 := hW
  obtain ⟨p, q, hA, _⟩ := hW2
  have hF : FitsL (fn.params.toList.map (shOf P)) args.toList := fitsL_of (hlen hA) fun j t v ht hv => hval j t v (by simpa using ht) (by simpa using hv)
  exact contract_of hl hts hvs hr hb hfn hW (calls_true (tokT_one hF) hm hok hnx hrun (toks_args hF) W)
end
end Go.Hb
