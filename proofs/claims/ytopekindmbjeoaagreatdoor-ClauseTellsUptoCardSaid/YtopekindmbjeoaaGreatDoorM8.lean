import Derived.Ground.NamesProg
import Derived.Shelf.Lays
import Derived.Test.YtopekindmbjeoaaGreatDoorProg
import Derived.Test.YtopekindmbjeoaaGreatDoorM2
import Derived.Test.YtopekindmbjeoaaGreatDoorM3
import Derived.Shelf.Unicode.ValidAny
import Derived.Lib.LaidU8T
import Derived.KernelRfl
import Derived.Test.YtopekindmbjeoaaGreatDoorM7
/- Lemmas on the program's own code, towards the laws of this folder, part 8. Conditions: as each lemma says. -/
open List renaming range → Zj
section
/- The library's ValidString at this seat (laid by the kit's tool, in plain words). -/
namespace Go.Proofs.hq
open Go Go.Shelf Go.Proofs
def laysValid_ren:Go.Shelf.Ren:=⟨fun|196=>94|259=>101|n=>n,fun|9=>9|4=>4|3=>3|5=>5|12=>12|119=>134|0=>0|46=>132|139=>137|138=>136|53=>22|n=>n,fun|3=>0|4=>1|n=>n⟩
theorem laysValid:Lays.n196 Tryz.prog laysValid_ren:={
  mixed:=by kernel_rfl
  f196:=Tryz.func94.trans (congrArg some (by kernel_rfl))
  f259:=Tryz.func101.trans (congrArg some (by kernel_rfl))
  t0:=Tryz.underlying0
  a0:=Tryz.isAgg0
  z0:=Tryz.sizeOf0
  v0:=Tryz.zeroValue0
  t3:=Tryz.underlying3
  a3:=Tryz.isAgg3
  z3:=Tryz.sizeOf3
  v3:=Tryz.zeroValue3
  t4:=Tryz.underlying4
  a4:=Tryz.isAgg4
  z4:=Tryz.sizeOf4
  v4:=Tryz.zeroValue4
  t5:=Tryz.underlying5
  a5:=Tryz.isAgg5
  z5:=Tryz.sizeOf5
  v5:=Tryz.zeroValue5
  t9:=Tryz.underlying9
  a9:=Tryz.isAgg9
  z9:=Tryz.sizeOf9
  v9:=Tryz.zeroValue9
  t12:=Tryz.underlying12
  a12:=Tryz.isAgg12
  z12:=Tryz.sizeOf12
  v12:=Tryz.zeroValue12
  t46:=Tryz.underlying132
  a46:=Tryz.isAgg132
  z46:=Tryz.sizeOf132
  v46:=Tryz.zeroValue132
  t53:=Tryz.underlying22
  a53:=Tryz.isAgg22
  z53:=Tryz.sizeOf22
  v53:=Tryz.zeroValue22
  t119:=Tryz.underlying134
  a119:=Tryz.isAgg134
  z119:=Tryz.sizeOf134
  t138:=Tryz.underlying136
  a138:=Tryz.isAgg136
  z138:=Tryz.sizeOf136
  v138:=Tryz.zeroValue136
  t139:=Tryz.underlying137
  a139:=Tryz.isAgg137
  z139:=Tryz.sizeOf137
  v139:=Tryz.zeroValue137
  g3:=by kernel_rfl
  g4:=by kernel_rfl }
end Go.Proofs.hq
end

section
namespace Go.Proofs.hq
open Go Go.RowKit Go.Hb Go.Shelf Go.Proofs
theorem zqg:Tryz.prog.follows .mixedOrders=true:=by kernel_rfl
theorem zqh:((Zj Tryz.prog.funcs.size).all fun f=>!(2 ^ 151 - 1).testBit f || okFn Tryz.prog f)=true:=by kernel_rfl
theorem fewT:Tryz.prog.globals.size≤64:=of_decide_eq_true (by kernel_rfl)
theorem zox:retTrue (dcall Tryz.prog (Ok.run (2 ^ 151 - 1)) 1000000 5 [] ⟨64,.nil⟩)=true:=by kernel_rfl
theorem zjr (w:World):Calls Tryz.prog 5 #[] w fun e w'=>e=.returned (.bool true)∧Below w.heap.size w w' :=
 ziy (τ:=fun _=>.bool true) (fun _=>rfl) zqg zqh fewT zox ⟨rfl,fun i v v' h=>by simp at h⟩ w
theorem zjs {w0:World}{N:Nat}(hT:Lib.Utf8Tabs (laysValid_ren.g 3) (laysValid_ren.g 4) w0) (hN:N=w0.heap.size) (s:ByteArray) (w:World) (hs:s.size≤9223372036854775807) (hB:Below N w0 w) :
  Calls Tryz.prog 94 #[.string s] w fun e w'=>e=.returned (.bool (Lib.validD s.data.toList))∧Below w.heap.size w w' :=
 Any.utf8_ValidString laysValid s w hs (Utf8Tabs_below hT (hN ▸ hB))
end Go.Proofs.hq
end
