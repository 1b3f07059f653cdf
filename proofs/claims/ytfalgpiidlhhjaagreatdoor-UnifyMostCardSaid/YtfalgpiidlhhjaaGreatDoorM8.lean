import Derived.Shelf.LaysM
import Derived.Shelf.Lays
import Derived.Test.YtfalgpiidlhhjaaGreatDoorProg
import Derived.KernelRfl
import Derived.Test.YtfalgpiidlhhjaaGreatDoorM2
import Derived.Test.YtfalgpiidlhhjaaGreatDoorM3
import Derived.Shelf.Unicode.ValidAny
import Derived.Lib.LaidU8T
import Derived.Test.YtfalgpiidlhhjaaGreatDoorM7
/- Lemmas on the program's own code, towards the laws of this folder, part 8. Conditions: as each lemma says. -/
open List renaming range -> Zg
section
/- Library functions at this seat (written by the kit's own tool). -/
namespace Go.Proofs.hq
open Go Go.Shelf Go.Proofs
open Go.Shelf
def laysValid_ren:Go.Shelf.Ren:=⟨fun|196=>145|259=>165|n=>n,fun|9=>9|4=>4|3=>3|5=>5|12=>12|119=>199|0=>0|46=>150|139=>202|138=>201|53=>38|n=>n,fun|3=>1|4=>2|n=>n⟩
theorem laysValid:Go.Proofs.Lays.n196 Tryz.prog laysValid_ren:={
  mixed:=by kernel_rfl
  f196:=Tryz.func145.trans (congrArg some (by kernel_rfl))
  f259:=Tryz.func165.trans (congrArg some (by kernel_rfl))
  t0:=Tryz.underlying0
  a0:=Tryz.isAgg0
  z0:=Tryz.sizeOf0
  v0:=Tryz.zeroValue0
  t3:=Tryz.underlying3
  a3:=Tryz.isAgg3
  z3:=Tryz.sizeOf3
  v3:=Tryz.zeroValue3
  t4:=Tryz.underlying4
  a4:=Tryz.isAgg4
  z4:=Tryz.sizeOf4
  v4:=Tryz.zeroValue4
  t5:=Tryz.underlying5
  a5:=Tryz.isAgg5
  z5:=Tryz.sizeOf5
  v5:=Tryz.zeroValue5
  t9:=Tryz.underlying9
  a9:=Tryz.isAgg9
  z9:=Tryz.sizeOf9
  v9:=Tryz.zeroValue9
  t12:=Tryz.underlying12
  a12:=Tryz.isAgg12
  z12:=Tryz.sizeOf12
  v12:=Tryz.zeroValue12
  t46:=Tryz.underlying150
  a46:=Tryz.isAgg150
  z46:=Tryz.sizeOf150
  v46:=Tryz.zeroValue150
  t53:=Tryz.underlying38
  a53:=Tryz.isAgg38
  z53:=Tryz.sizeOf38
  v53:=Tryz.zeroValue38
  t119:=Tryz.underlying199
  a119:=Tryz.isAgg199
  z119:=Tryz.sizeOf199
  t138:=Tryz.underlying201
  a138:=Tryz.isAgg201
  z138:=Tryz.sizeOf201
  v138:=Tryz.zeroValue201
  t139:=Tryz.underlying202
  a139:=Tryz.isAgg202
  z139:=Tryz.sizeOf202
  v139:=Tryz.zeroValue202
  g3:=by kernel_rfl
  g4:=by kernel_rfl }
end Go.Proofs.hq
end

section
namespace Go.Proofs.hq
open Go Go.RowKit Go.Hb Go.Shelf Go.Proofs
theorem zq8:Tryz.prog.follows .mixedOrders=true:=by kernel_rfl
theorem zq9:((Zg Tryz.prog.funcs.size).all fun f=>!(2 ^ 216 - 1).testBit f || okFn Tryz.prog f)=true:=by kernel_rfl
theorem fewT:Tryz.prog.globals.size<=64:=of_decide_eq_true (by kernel_rfl)
theorem zp1:retTrue (dcall Tryz.prog (Ok.run (2 ^ 216 - 1)) 1000000 5 [] ⟨64,.nil⟩)=true:=by kernel_rfl
theorem zjk (w:World):Calls Tryz.prog 5 #[] w fun e w'=>e=.returned (.bool true)/\Below w.heap.size w w' :=
 zi8 (τ:=fun _=>.bool true) (fun _=>rfl) zq8 zq9 fewT zp1 ⟨rfl,fun i v v' h=>by simp at h⟩ w
theorem zjl {w0:World}{N:Nat}(hT:Lib.Utf8Tabs (laysValid_ren.g 3) (laysValid_ren.g 4) w0) (hN:N=w0.heap.size) (s:ByteArray) (w:World) (hs:s.size<=9223372036854775807) (hB:Below N w0 w) :
  Calls Tryz.prog 145 #[.string s] w fun e w'=>e=.returned (.bool (Lib.validD s.data.toList))/\Below w.heap.size w w' :=
 Any.utf8_ValidString laysValid s w hs (Utf8Tabs_below hT (hN ▸ hB))
end Go.Proofs.hq
end
