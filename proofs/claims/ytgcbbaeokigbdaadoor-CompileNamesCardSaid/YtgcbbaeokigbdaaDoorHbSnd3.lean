/- The machine's soundness: every part of the machine's run, on fuel. -/
import Derived.Test.YtgcbbaeokigbdaaDoorHbSnd2
namespace Go.Hb
open Go Go.RowKit

section
variable (P : Program) (N : Nat) (w0 : World) (τ : Nat → Value) (ok : Ok)

/-- codes one after another -/
def seqW (F : Fence) (P : Program) (Q : Exit → Act → World → Prop) : List Code → Act → World → Prop
  | [] => Q .normal
  | c :: rs => c.wpIn F 0 P (Exit.then (seqW F P Q rs) Q)

/-- what is asked behind a run -/
def Cont (σ : Nat → Loc) (H : Heap) (w : World) (ex : Ex) (st' : St) (m : Nat) (Q : Exit → Act → World → Prop) : Prop :=
  ∀ e a' w' σ', ExR σ' τ ex e → SR P N w0 τ σ' st' m a' w' → Step σ H w σ' st'.H w' → Q e a' w'

structure All (n : Nat) : Prop where
  code : ∀ {x c st ex st' m a w σ F} (Q : Exit → Act → World → Prop), dcode P ok n x c st = some (ex, st') → okCode P.globals.size m c = true → SR P N w0 τ σ st m a w → FRel x F →
    Cont P N w0 τ σ st.H w ex st' m Q → c.wpIn F 0 P Q a w
  loop : ∀ {x c st ex st' m a w σ F} (Q : Exit → Act → World → Prop), dcode P ok n x (.loop c) st = some (ex, st') → okCode P.globals.size m c = true → SR P N w0 τ σ st m a w → FRel x F →
    Cont P N w0 τ σ st.H w ex st' m Q → Code.roundsIn F 0 P c Q n a w
  seq : ∀ {x rs st ex st' m a w σ F} (Q : Exit → Act → World → Prop), dseq P ok n x rs st = some (ex, st') → (∀ c ∈ rs, okCode P.globals.size m c = true) → SR P N w0 τ σ st m a w → FRel x F →
    Cont P N w0 τ σ st.H w ex st' m Q → seqW F P Q rs a w
  ops : ∀ {x ops l st ex st' m a w σ F} (Q : Exit → Act → World → Prop), dops P ok n x ops l st = some (ex, st') → ops.toList.all (okOper P.globals.size m) = true → SR P N w0 τ σ st m a w → FRel x F →
    Cont P N w0 τ σ st.H w ex st' m Q → wpOpsIn F 0 P ops Q l a w
  op1 : ∀ {x o ρ ds H r a w σ F} (K : Act → World → Prop) (Q : Exit → Act → World → Prop), dop1 P ok n x o ρ ds H = some r → (∀ y ∈ o.op.operands.toList, VR σ τ (ρ y) (a.eval y)) → HR P N w0 τ σ H w → DsR σ τ ds a.defers → GR P σ → FRel x F →
    (match (generalizing := false) r with
     | .val v ds1 H1 => ∀ σ' v' w' dfs', VR σ' τ v v' → HR P N w0 τ σ' H1 w' → DsR σ' τ ds1 dfs' → Step σ H w σ' H1 w' → K (({ a with defers := dfs' } : Act).put o.dst v') w'
     | .panic ch H1 => ∀ σ' ch' w', ChR σ' τ ch ch' → HR P N w0 τ σ' H1 w' → Step σ H w σ' H1 w' → Q (.panic ch') a w') → o.wpIn F 0 P a w K Q
  call : ∀ {f args args' H en H' w σ}, dcall P ok n f args H = some (en, H') → LR σ τ args args'.toList → HR P N w0 τ σ H w → GR P σ →
    CallsIn Fence.wide 0 P f args' w fun e w' => ∃ σ', EnR σ' τ en e ∧ HR P N w0 τ σ' H' w' ∧ Step σ H w σ' H' w'
  leave : ∀ {fn tm ds md H en H' tmps ds' u w σ} (R : Ending → World → Prop), dleave P ok n fn tm ds md H = some (en, H') → TmR σ τ tm tmps → DsR σ τ ds ds' → MdR σ τ md u → HR P N w0 τ σ H w → GR P σ →
    (∀ e w' σ', EnR σ' τ en e → HR P N w0 τ σ' H' w' → Step σ H w σ' H' w' → R e w') → LeavesInM Fence.wide 0 P fn tmps R ds' u w
  round : ∀ {l l' args args' H v H' w σ}, dround P ok n l args H = some (v, H') → BR σ l l' → LR σ τ args args'.toList → HR P N w0 τ σ H w → GR P σ →
    ∃ f tmps as bo, (Instr.yield l' args').run P w = .ok (.round l' f tmps as bo) w ∧
      ∀ (F : Fence), (F = Fence.wide ∨ ∃ l2, F = Fence.wide.inRound l2) → RoundIn F 0 P l' f tmps as bo w fun e w' => ∃ v' σ', e = .returned v' ∧ VR σ' τ v v' ∧ HR P N w0 τ σ' H' w' ∧ Step σ H w σ' H' w'
end
end Go.Hb
