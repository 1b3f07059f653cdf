import Derived.Ground.NamesProg
import Derived.Shelf.Lays
import Derived.Test.YtknodnndkdnjbaaDoorProg
import Derived.Test.YtknodnndkdnjbaaDoorM2
import Derived.Test.YtknodnndkdnjbaaDoorM3
import Derived.Shelf.Unicode.ValidAny
import Derived.Lib.LaidU8T
import Derived.KernelRfl
import Derived.Test.YtknodnndkdnjbaaDoorM6
/- Lemmas on the program's own code, towards the laws of this folder, part 7. Conditions: as each lemma says. -/
open List renaming range → Zh
section
/- The library's ValidString at this seat (laid by the kit's tool, in plain words). -/
namespace Go.Proofs.hq
open Go Go.Shelf Go.Proofs
def laysValid_ren:Go.Shelf.Ren:=⟨fun|196=>80|259=>85|n=>n,fun|9=>9|4=>4|3=>3|5=>5|12=>12|119=>135|0=>0|46=>139|139=>138|138=>137|53=>22|n=>n,fun|3=>1|4=>2|n=>n⟩
theorem laysValid:Lays.n196 Tryd.prog laysValid_ren:={
  mixed:=by kernel_rfl
  f196:=Tryd.func80.trans (congrArg some (by kernel_rfl))
  f259:=Tryd.func85.trans (congrArg some (by kernel_rfl))
  t0:=Tryd.underlying0
  a0:=Tryd.isAgg0
  z0:=Tryd.sizeOf0
  v0:=Tryd.zeroValue0
  t3:=Tryd.underlying3
  a3:=Tryd.isAgg3
  z3:=Tryd.sizeOf3
  v3:=Tryd.zeroValue3
  t4:=Tryd.underlying4
  a4:=Tryd.isAgg4
  z4:=Tryd.sizeOf4
  v4:=Tryd.zeroValue4
  t5:=Tryd.underlying5
  a5:=Tryd.isAgg5
  z5:=Tryd.sizeOf5
  v5:=Tryd.zeroValue5
  t9:=Tryd.underlying9
  a9:=Tryd.isAgg9
  z9:=Tryd.sizeOf9
  v9:=Tryd.zeroValue9
  t12:=Tryd.underlying12
  a12:=Tryd.isAgg12
  z12:=Tryd.sizeOf12
  v12:=Tryd.zeroValue12
  t46:=Tryd.underlying139
  a46:=Tryd.isAgg139
  z46:=Tryd.sizeOf139
  v46:=Tryd.zeroValue139
  t53:=Tryd.underlying22
  a53:=Tryd.isAgg22
  z53:=Tryd.sizeOf22
  v53:=Tryd.zeroValue22
  t119:=Tryd.underlying135
  a119:=Tryd.isAgg135
  z119:=Tryd.sizeOf135
  t138:=Tryd.underlying137
  a138:=Tryd.isAgg137
  z138:=Tryd.sizeOf137
  v138:=Tryd.zeroValue137
  t139:=Tryd.underlying138
  a139:=Tryd.isAgg138
  z139:=Tryd.sizeOf138
  v139:=Tryd.zeroValue138
  g3:=by kernel_rfl
  g4:=by kernel_rfl }
end Go.Proofs.hq
end

section
namespace Go.Proofs.hq
open Go Go.RowKit Go.Hb Go.Shelf Go.Proofs
theorem zoj:Tryd.prog.follows .mixedOrders=true:=by kernel_rfl
theorem zok:((Zh Tryd.prog.funcs.size).all fun f=>!(2 ^ 129 - 1).testBit f || okFn Tryd.prog f)=true:=by kernel_rfl
theorem fewT:Tryd.prog.globals.size≤64:=of_decide_eq_true (by kernel_rfl)
theorem zna:retTrue (dcall Tryd.prog (Ok.run (2 ^ 129 - 1)) 1000000 4 [] ⟨64,.nil⟩)=true:=by kernel_rfl
theorem zi4 (w:World):Calls Tryd.prog 4 #[] w fun e w'=>e=.returned (.bool true)∧Below w.heap.size w w' :=
 zh0 (τ:=fun _=>.bool true) (fun _=>rfl) zoj zok fewT zna ⟨rfl,fun i v v' h=>by simp at h⟩ w
theorem zi5 {w0:World}{N:Nat}(hT:Lib.Utf8Tabs (laysValid_ren.g 3) (laysValid_ren.g 4) w0) (hN:N=w0.heap.size) (s:ByteArray) (w:World) (hs:s.size≤9223372036854775807) (hB:Below N w0 w) :
  Calls Tryd.prog 80 #[.string s] w fun e w'=>e=.returned (.bool (Lib.validD s.data.toList))∧Below w.heap.size w w' :=
 Any.utf8_ValidString laysValid s w hs (Utf8Tabs_below hT (hN ▸ hB))
end Go.Proofs.hq
end
