/- The run of the law's function on the abstract machine. -/
import Derived.Test.YtlllbkjiadcloaaDoorHbClose
import Derived.Test.YtlllbkjiadcloaaDoorProg
import Derived.KernelRfl
namespace Go.Proofs.YtlllbkjiadcloaaDoor.termNames
open Go Go.RowKit Go.Hb

theorem mixed : Tryd.prog.follows .mixedOrders = true := by kernel_rfl
theorem okAll : ((List.range Tryd.prog.funcs.size).all fun f => !(2^400-1).testBit f || okFn Tryd.prog f) = true := by kernel_rfl
theorem few : Tryd.prog.globals.size ≤ 128 := of_decide_eq_true (by kernel_rfl)
theorem runs : retTrue (dcall Tryd.prog (2^400-1) 100000 3 [] ⟨128, .nil⟩) = true := by kernel_rfl

theorem walk (W : World) : Calls Tryd.prog 3 #[] W fun e W' => e = .returned (.bool true) ∧ Below W.heap.size W W' :=
  calls_true (τ := fun _ => .bool true) (fun _ => rfl) mixed okAll few runs LR.nil W

end Go.Proofs.YtlllbkjiadcloaaDoor.termNames
