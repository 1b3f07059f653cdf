import Derived.Ground.NamesProg
import Derived.Shelf.Lays
import Derived.Test.YtlmjnikipfbenaaGreatDoorProg
import Derived.Test.YtlmjnikipfbenaaGreatDoorM3
import Derived.Shelf.Unicode.ValidAny
import Derived.Lib.LaidU8T
import Derived.KernelRfl
/- Lemmas on the program's own code, towards the laws of this folder, part 4. Conditions: as each lemma says. -/
-- Lay
section
/- The library's ValidString at this seat (laid by the kit's tool, in plain words). -/
namespace Go.Proofs.YtlmjnikipfbenaaGreatDoor.hb
open Go Go.Shelf Go.Proofs
def laysValid_ren : Go.Shelf.Ren := ⟨fun | 196 => 61 | 259 => 86 | n => n, fun | 9 => 9 | 4 => 4 | 3 => 3 | 5 => 5 | 12 => 12 | 119 => 144 | 0 => 0 | 46 => 148 | 139 => 147 | 138 => 146 | 53 => 85 | n => n, fun | 3 => 0 | 4 => 1 | n => n⟩
theorem laysValid : Lays.n196 Tryz.prog laysValid_ren := {
  mixed := by kernel_rfl
  f196 := Tryz.func61.trans (congrArg some (by kernel_rfl))
  f259 := Tryz.func86.trans (congrArg some (by kernel_rfl))
  t0 := Tryz.underlying0
  a0 := Tryz.isAgg0
  z0 := Tryz.sizeOf0
  v0 := Tryz.zeroValue0
  t3 := Tryz.underlying3
  a3 := Tryz.isAgg3
  z3 := Tryz.sizeOf3
  v3 := Tryz.zeroValue3
  t4 := Tryz.underlying4
  a4 := Tryz.isAgg4
  z4 := Tryz.sizeOf4
  v4 := Tryz.zeroValue4
  t5 := Tryz.underlying5
  a5 := Tryz.isAgg5
  z5 := Tryz.sizeOf5
  v5 := Tryz.zeroValue5
  t9 := Tryz.underlying9
  a9 := Tryz.isAgg9
  z9 := Tryz.sizeOf9
  v9 := Tryz.zeroValue9
  t12 := Tryz.underlying12
  a12 := Tryz.isAgg12
  z12 := Tryz.sizeOf12
  v12 := Tryz.zeroValue12
  t46 := Tryz.underlying148
  a46 := Tryz.isAgg148
  z46 := Tryz.sizeOf148
  v46 := Tryz.zeroValue148
  t53 := Tryz.underlying85
  a53 := Tryz.isAgg85
  z53 := Tryz.sizeOf85
  v53 := Tryz.zeroValue85
  t119 := Tryz.underlying144
  a119 := Tryz.isAgg144
  z119 := Tryz.sizeOf144
  t138 := Tryz.underlying146
  a138 := Tryz.isAgg146
  z138 := Tryz.sizeOf146
  v138 := Tryz.zeroValue146
  t139 := Tryz.underlying147
  a139 := Tryz.isAgg147
  z139 := Tryz.sizeOf147
  v139 := Tryz.zeroValue147
  g3 := by kernel_rfl
  g4 := by kernel_rfl }
end Go.Proofs.YtlmjnikipfbenaaGreatDoor.hb
end

-- RVfsNone
section
namespace Go.Proofs.YtlmjnikipfbenaaGreatDoor.hb
open Go Go.RowKit Go.Hb Go.Shelf Go.Proofs
theorem mixed : Tryz.prog.follows .mixedOrders = true := by kernel_rfl
theorem okAll : ((List.range Tryz.prog.funcs.size).all fun f => !(2 ^ 195 - 1).testBit f || okFn Tryz.prog f) = true := by kernel_rfl
theorem few : Tryz.prog.globals.size ≤ 64 := of_decide_eq_true (by kernel_rfl)
theorem validCalls {w0 : World} {N : Nat} (hT : Lib.Utf8Tabs (laysValid_ren.g 3) (laysValid_ren.g 4) w0) (hN : N = w0.heap.size) (s : ByteArray) (w : World) (hs : s.size ≤ 9223372036854775807) (hB : Below N w0 w) :
    Calls Tryz.prog 61 #[.string s] w fun e w' => e = .returned (.bool (Lib.validD s.data.toList)) ∧ Below w.heap.size w w' :=
  Any.utf8_ValidString laysValid s w hs (Utf8Tabs_below hT (hN ▸ hB))
theorem known {w0 : World} (hT : Lib.Utf8Tabs (laysValid_ren.g 3) (laysValid_ren.g 4) w0) : OkFns Tryz.prog w0.heap.size w0 (okVal (2 ^ 195 - 1) 61) := okFns_val okAll fun s w hs hB => validCalls hT rfl s w hs hB
theorem runs : retTrue (dcall Tryz.prog (okVal (2 ^ 195 - 1) 61) 1000000 5 (toksFrom 0 (Tryz.f5.params.toList.map (shOf Tryz.prog))) ⟨64, .nil⟩) = true := by kernel_rfl
end Go.Proofs.YtlmjnikipfbenaaGreatDoor.hb
end
