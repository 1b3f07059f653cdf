import Derived.Ground.NamesProg
import Derived.Shelf.Lays
import Derived.Test.YtlllbkjiadcloaaGreatDoorProg
import Derived.Test.YtlllbkjiadcloaaGreatDoorM2
import Derived.Test.YtlllbkjiadcloaaGreatDoorM3
import Derived.Shelf.Unicode.ValidAny
import Derived.Lib.LaidU8T
import Derived.KernelRfl
import Derived.Test.YtlllbkjiadcloaaGreatDoorM8
/- Lemmas on the program's own code, towards the laws of this folder, part 9. Conditions: as each lemma says. -/
section
/- The library's ValidString at this seat (laid by the kit's tool, in plain words). -/
namespace Go.Proofs.hq
open Go Go.Shelf Go.Proofs
def laysValid_ren : Go.Shelf.Ren := ⟨fun | 196 => 67 | 259 => 79 | n => n, fun | 9 => 9 | 4 => 4 | 3 => 3 | 5 => 5 | 12 => 12 | 119 => 106 | 0 => 0 | 46 => 80 | 139 => 109 | 138 => 108 | 53 => 22 | n => n, fun | 3 => 1 | 4 => 2 | n => n⟩
theorem laysValid : Lays.n196 Tryz.prog laysValid_ren := {
  mixed := by kernel_rfl
  f196 := Tryz.func67.trans (congrArg some (by kernel_rfl))
  f259 := Tryz.func79.trans (congrArg some (by kernel_rfl))
  t0 := Tryz.underlying0
  a0 := Tryz.isAgg0
  z0 := Tryz.sizeOf0
  v0 := Tryz.zeroValue0
  t3 := Tryz.underlying3
  a3 := Tryz.isAgg3
  z3 := Tryz.sizeOf3
  v3 := Tryz.zeroValue3
  t4 := Tryz.underlying4
  a4 := Tryz.isAgg4
  z4 := Tryz.sizeOf4
  v4 := Tryz.zeroValue4
  t5 := Tryz.underlying5
  a5 := Tryz.isAgg5
  z5 := Tryz.sizeOf5
  v5 := Tryz.zeroValue5
  t9 := Tryz.underlying9
  a9 := Tryz.isAgg9
  z9 := Tryz.sizeOf9
  v9 := Tryz.zeroValue9
  t12 := Tryz.underlying12
  a12 := Tryz.isAgg12
  z12 := Tryz.sizeOf12
  v12 := Tryz.zeroValue12
  t46 := Tryz.underlying80
  a46 := Tryz.isAgg80
  z46 := Tryz.sizeOf80
  v46 := Tryz.zeroValue80
  t53 := Tryz.underlying22
  a53 := Tryz.isAgg22
  z53 := Tryz.sizeOf22
  v53 := Tryz.zeroValue22
  t119 := Tryz.underlying106
  a119 := Tryz.isAgg106
  z119 := Tryz.sizeOf106
  t138 := Tryz.underlying108
  a138 := Tryz.isAgg108
  z138 := Tryz.sizeOf108
  v138 := Tryz.zeroValue108
  t139 := Tryz.underlying109
  a139 := Tryz.isAgg109
  z139 := Tryz.sizeOf109
  v139 := Tryz.zeroValue109
  g3 := by kernel_rfl
  g4 := by kernel_rfl }
end Go.Proofs.hq
end

section
namespace Go.Proofs.hq
open Go Go.RowKit Go.Hb Go.Shelf Go.Proofs
theorem zlg : Tryz.prog.follows .mixedOrders = true := by kernel_rfl
theorem zlh : ((List.range Tryz.prog.funcs.size).all fun f => !(2 ^ 133 - 1).testBit f || okFn Tryz.prog f) = true := by kernel_rfl
theorem fewT : Tryz.prog.globals.size ≤ 64 := of_decide_eq_true (by kernel_rfl)
theorem zk6 : retTrue (dcall Tryz.prog (Ok.run (2 ^ 133 - 1)) 1000000 4 [] ⟨64, .nil⟩) = true := by kernel_rfl
theorem zfu (w : World) : Calls Tryz.prog 4 #[] w fun e w' => e = .returned (.bool true) ∧ Below w.heap.size w w' :=
 zf3 (τ := fun _ => .bool true) (fun _ => rfl) zlg zlh fewT zk6 ⟨rfl, fun i v v' h => by simp at h⟩ w
theorem zfv {w0 : World} {N : Nat} (hT : Lib.Utf8Tabs (laysValid_ren.g 3) (laysValid_ren.g 4) w0) (hN : N = w0.heap.size) (s : ByteArray) (w : World) (hs : s.size ≤ 9223372036854775807) (hB : Below N w0 w) :
  Calls Tryz.prog 67 #[.string s] w fun e w' => e = .returned (.bool (Lib.validD s.data.toList)) ∧ Below w.heap.size w w' :=
 Any.utf8_ValidString laysValid s w hs (Utf8Tabs_below hT (hN ▸ hB))
end Go.Proofs.hq
end
