import Derived.Shelf.LaysM
import Derived.Shelf.Lays
import Derived.Test.YtbooidfibigfcaaGreatDoorProg
import Derived.KernelRfl
import Derived.Test.YtbooidfibigfcaaGreatDoorM8
import Derived.Test.YtbooidfibigfcaaGreatDoorM3
import Derived.Shelf.Unicode.ValidAny
import Derived.Lib.LaidU8T
/- Lemmas on the program's own code, towards the laws of this folder, part 9. Conditions: as each lemma says. -/
open List renaming range -> Zh
section
/- Library functions at this seat (written by the kit's own tool). -/
namespace Go.Proofs.hq
open Go Go.Shelf Go.Proofs
open Go.Shelf
def laysValid_ren:Go.Shelf.Ren:=⟨fun|196=>80|259=>89|n=>n,fun|9=>9|4=>4|3=>3|5=>5|12=>12|119=>142|0=>0|46=>146|139=>145|138=>144|53=>25|n=>n,fun|3=>0|4=>1|n=>n⟩
theorem laysValid:Go.Proofs.Lays.n196 Tryz.prog laysValid_ren:={
  mixed:=by kernel_rfl
  f196:=Tryz.func80.trans (congrArg some (by kernel_rfl))
  f259:=Tryz.func89.trans (congrArg some (by kernel_rfl))
  t0:=Tryz.underlying0
  a0:=Tryz.isAgg0
  z0:=Tryz.sizeOf0
  v0:=Tryz.zeroValue0
  t3:=Tryz.underlying3
  a3:=Tryz.isAgg3
  z3:=Tryz.sizeOf3
  v3:=Tryz.zeroValue3
  t4:=Tryz.underlying4
  a4:=Tryz.isAgg4
  z4:=Tryz.sizeOf4
  v4:=Tryz.zeroValue4
  t5:=Tryz.underlying5
  a5:=Tryz.isAgg5
  z5:=Tryz.sizeOf5
  v5:=Tryz.zeroValue5
  t9:=Tryz.underlying9
  a9:=Tryz.isAgg9
  z9:=Tryz.sizeOf9
  v9:=Tryz.zeroValue9
  t12:=Tryz.underlying12
  a12:=Tryz.isAgg12
  z12:=Tryz.sizeOf12
  v12:=Tryz.zeroValue12
  t46:=Tryz.underlying146
  a46:=Tryz.isAgg146
  z46:=Tryz.sizeOf146
  v46:=Tryz.zeroValue146
  t53:=Tryz.underlying25
  a53:=Tryz.isAgg25
  z53:=Tryz.sizeOf25
  v53:=Tryz.zeroValue25
  t119:=Tryz.underlying142
  a119:=Tryz.isAgg142
  z119:=Tryz.sizeOf142
  t138:=Tryz.underlying144
  a138:=Tryz.isAgg144
  z138:=Tryz.sizeOf144
  v138:=Tryz.zeroValue144
  t139:=Tryz.underlying145
  a139:=Tryz.isAgg145
  z139:=Tryz.sizeOf145
  v139:=Tryz.zeroValue145
  g3:=by kernel_rfl
  g4:=by kernel_rfl }
end Go.Proofs.hq
end

section
namespace Go.Proofs.hq
open Go Go.RowKit Go.Hb Go.Shelf Go.Proofs
theorem zrm:Tryz.prog.follows .mixedOrders=true:=by kernel_rfl
theorem zrn:((Zh Tryz.prog.funcs.size).all fun f=>!(2 ^ 134 - 1).testBit f || okFn Tryz.prog f)=true:=by kernel_rfl
theorem fewT:Tryz.prog.globals.size<=64:=of_decide_eq_true (by kernel_rfl)
theorem zjx (w:World):Calls Tryz.prog 4 #[] w fun e w'=>e=.returned (.bool true)/\Below w.heap.size w w' :=
 zit (τ:=fun _=>.bool true) (fun _=>rfl) zrm zrn fewT zpt ⟨rfl,fun i v v' h=>by simp at h⟩ w
theorem zjy {w0:World}{N:Nat}(hT:Lib.Utf8Tabs (laysValid_ren.g 3) (laysValid_ren.g 4) w0) (hN:N=w0.heap.size) (s:ByteArray) (w:World) (hs:s.size<=9223372036854775807) (hB:Below N w0 w) :
  Calls Tryz.prog 80 #[.string s] w fun e w'=>e=.returned (.bool (Lib.validD s.data.toList))/\Below w.heap.size w w' :=
 Any.utf8_ValidString laysValid s w hs (Utf8Tabs_below hT (hN ▸ hB))
end Go.Proofs.hq
end
