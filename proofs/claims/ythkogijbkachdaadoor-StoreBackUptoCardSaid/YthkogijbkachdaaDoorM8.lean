import Derived.Ground.NamesProg
import Derived.Shelf.Lays
import Derived.Test.YthkogijbkachdaaDoorProg
import Derived.Test.YthkogijbkachdaaDoorM2
import Derived.Test.YthkogijbkachdaaDoorM3
import Derived.Shelf.Unicode.ValidAny
import Derived.Lib.LaidU8T
import Derived.KernelRfl
import Derived.Test.YthkogijbkachdaaDoorM7
/- Lemmas on the program's own code, towards the laws of this folder, part 8. Conditions: as each lemma says. -/
-- Lay
section
/- The library's ValidString at this seat (laid by the kit's tool, in plain words). -/
namespace Go.Proofs.YthkogijbkachdaaDoor.hb
open Go Go.Shelf Go.Proofs
def laysValid_ren : Go.Shelf.Ren := ⟨fun | 196 => 46 | 259 => 51 | n => n, fun | 9 => 9 | 4 => 4 | 3 => 3 | 5 => 5 | 12 => 12 | 119 => 103 | 0 => 0 | 46 => 107 | 139 => 106 | 138 => 105 | 53 => 30 | n => n, fun | 3 => 0 | 4 => 1 | n => n⟩
theorem laysValid : Lays.n196 Tryd.prog laysValid_ren := {
  mixed := by kernel_rfl
  f196 := Tryd.func46.trans (congrArg some (by kernel_rfl))
  f259 := Tryd.func51.trans (congrArg some (by kernel_rfl))
  t0 := Tryd.underlying0
  a0 := Tryd.isAgg0
  z0 := Tryd.sizeOf0
  v0 := Tryd.zeroValue0
  t3 := Tryd.underlying3
  a3 := Tryd.isAgg3
  z3 := Tryd.sizeOf3
  v3 := Tryd.zeroValue3
  t4 := Tryd.underlying4
  a4 := Tryd.isAgg4
  z4 := Tryd.sizeOf4
  v4 := Tryd.zeroValue4
  t5 := Tryd.underlying5
  a5 := Tryd.isAgg5
  z5 := Tryd.sizeOf5
  v5 := Tryd.zeroValue5
  t9 := Tryd.underlying9
  a9 := Tryd.isAgg9
  z9 := Tryd.sizeOf9
  v9 := Tryd.zeroValue9
  t12 := Tryd.underlying12
  a12 := Tryd.isAgg12
  z12 := Tryd.sizeOf12
  v12 := Tryd.zeroValue12
  t46 := Tryd.underlying107
  a46 := Tryd.isAgg107
  z46 := Tryd.sizeOf107
  v46 := Tryd.zeroValue107
  t53 := Tryd.underlying30
  a53 := Tryd.isAgg30
  z53 := Tryd.sizeOf30
  v53 := Tryd.zeroValue30
  t119 := Tryd.underlying103
  a119 := Tryd.isAgg103
  z119 := Tryd.sizeOf103
  t138 := Tryd.underlying105
  a138 := Tryd.isAgg105
  z138 := Tryd.sizeOf105
  v138 := Tryd.zeroValue105
  t139 := Tryd.underlying106
  a139 := Tryd.isAgg106
  z139 := Tryd.sizeOf106
  v139 := Tryd.zeroValue106
  g3 := by kernel_rfl
  g4 := by kernel_rfl }
end Go.Proofs.YthkogijbkachdaaDoor.hb
end

-- Aw
section
namespace Go.Proofs.YthkogijbkachdaaDoor.hb
open Go Go.RowKit Go.Hb Go.Shelf Go.Proofs
theorem zkp : Tryd.prog.follows .mixedOrders = true := by kernel_rfl
theorem zkq : ((List.range Tryd.prog.funcs.size).all fun f => !(2 ^ 95 - 1).testBit f || okFn Tryd.prog f) = true := by kernel_rfl
theorem fewT : Tryd.prog.globals.size ≤ 64 := of_decide_eq_true (by kernel_rfl)
theorem zjf : retTrue (dcall Tryd.prog (Ok.run (2 ^ 95 - 1)) 1000000 5 [] ⟨64, .nil⟩) = true := by kernel_rfl
theorem zf5 (w : World) : Calls Tryd.prog 5 #[] w fun e w' => e = .returned (.bool true) ∧ Below w.heap.size w w' :=
  ze9 (τ := fun _ => .bool true) (fun _ => rfl) zkp zkq fewT zjf ⟨rfl, fun i v v' h => by simp at h⟩ w
theorem zf6 {w0 : World} {N : Nat} (hT : Lib.Utf8Tabs (laysValid_ren.g 3) (laysValid_ren.g 4) w0) (hN : N = w0.heap.size) (s : ByteArray) (w : World) (hs : s.size ≤ 9223372036854775807) (hB : Below N w0 w) :
    Calls Tryd.prog 46 #[.string s] w fun e w' => e = .returned (.bool (Lib.validD s.data.toList)) ∧ Below w.heap.size w w' :=
  Any.utf8_ValidString laysValid s w hs (Utf8Tabs_below hT (hN ▸ hB))
end Go.Proofs.YthkogijbkachdaaDoor.hb
end
