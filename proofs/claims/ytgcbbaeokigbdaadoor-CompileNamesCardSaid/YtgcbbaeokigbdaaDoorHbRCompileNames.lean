/- 'hornbeam/hornbeamlaw16.CompileNames' on the abstract machine. -/
import Derived.Test.YtgcbbaeokigbdaaDoorHbFm
import Derived.Test.YtgcbbaeokigbdaaDoorProg
import Derived.KernelRfl
namespace Go.Proofs.YtgcbbaeokigbdaaDoor.compileNames
open Go Go.RowKit Go.Hb

theorem mixed : Tryd.prog.follows .mixedOrders = true := by kernel_rfl
theorem okAll : ((List.range Tryd.prog.funcs.size).all fun f => !(2^242-1).testBit f || okFn Tryd.prog f) = true := by kernel_rfl
theorem few : Tryd.prog.globals.size ≤ 64 := of_decide_eq_true (by kernel_rfl)
theorem fast : retTrue ((frun Tryd.prog (Ok.run (2^242-1)) 1000000).call 7 (toksFrom 0 (Tryd.f7.params.toList.map (shOf Tryd.prog))) ⟨64, .nil⟩) = true := by kernel_rfl
theorem runs : retTrue (dcall Tryd.prog (Ok.run (2^242-1)) 1000000 7 (toksFrom 0 (Tryd.f7.params.toList.map (shOf Tryd.prog))) ⟨64, .nil⟩) = true := by
  have h := fast
  rw [frun_eq] at h
  exact h
end Go.Proofs.YtgcbbaeokigbdaaDoor.compileNames
