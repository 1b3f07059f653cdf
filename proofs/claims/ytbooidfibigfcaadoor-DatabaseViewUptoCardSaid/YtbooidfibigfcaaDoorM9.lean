import Derived.Shelf.LaysM
import Derived.Shelf.Lays
import Derived.Test.YtbooidfibigfcaaDoorProg
import Derived.KernelRfl
import Derived.Test.YtbooidfibigfcaaDoorM7
import Derived.Test.YtbooidfibigfcaaDoorM2
import Derived.Test.YtbooidfibigfcaaDoorM8
import Derived.Shelf.Unicode.ValidAny
import Derived.Lib.LaidU8T
/- Lemmas on the program's own code, towards the laws of this folder, part 9. Conditions: as each lemma says. -/
open List renaming range -> Zi
section
/- Library functions at this seat (written by the kit's own tool). -/
namespace Go.Proofs.hq
open Go Go.Shelf Go.Proofs
open Go.Shelf
def laysValid_ren:Go.Shelf.Ren:=⟨fun|196=>72|259=>91|n=>n,fun|9=>9|4=>4|3=>3|5=>5|12=>12|119=>170|0=>0|46=>139|139=>173|138=>172|53=>24|n=>n,fun|3=>0|4=>1|n=>n⟩
theorem laysValid:Go.Proofs.Lays.n196 Tryd.prog laysValid_ren:={
  mixed:=by kernel_rfl
  f196:=Tryd.func72.trans (congrArg some (by kernel_rfl))
  f259:=Tryd.func91.trans (congrArg some (by kernel_rfl))
  t0:=Tryd.underlying0
  a0:=Tryd.isAgg0
  z0:=Tryd.sizeOf0
  v0:=Tryd.zeroValue0
  t3:=Tryd.underlying3
  a3:=Tryd.isAgg3
  z3:=Tryd.sizeOf3
  v3:=Tryd.zeroValue3
  t4:=Tryd.underlying4
  a4:=Tryd.isAgg4
  z4:=Tryd.sizeOf4
  v4:=Tryd.zeroValue4
  t5:=Tryd.underlying5
  a5:=Tryd.isAgg5
  z5:=Tryd.sizeOf5
  v5:=Tryd.zeroValue5
  t9:=Tryd.underlying9
  a9:=Tryd.isAgg9
  z9:=Tryd.sizeOf9
  v9:=Tryd.zeroValue9
  t12:=Tryd.underlying12
  a12:=Tryd.isAgg12
  z12:=Tryd.sizeOf12
  v12:=Tryd.zeroValue12
  t46:=Tryd.underlying139
  a46:=Tryd.isAgg139
  z46:=Tryd.sizeOf139
  v46:=Tryd.zeroValue139
  t53:=Tryd.underlying24
  a53:=Tryd.isAgg24
  z53:=Tryd.sizeOf24
  v53:=Tryd.zeroValue24
  t119:=Tryd.underlying170
  a119:=Tryd.isAgg170
  z119:=Tryd.sizeOf170
  t138:=Tryd.underlying172
  a138:=Tryd.isAgg172
  z138:=Tryd.sizeOf172
  v138:=Tryd.zeroValue172
  t139:=Tryd.underlying173
  a139:=Tryd.isAgg173
  z139:=Tryd.sizeOf173
  v139:=Tryd.zeroValue173
  g3:=by kernel_rfl
  g4:=by kernel_rfl }
end Go.Proofs.hq
end

section
namespace Go.Proofs.hq
open Go Go.RowKit Go.Hb Go.Shelf Go.Proofs
theorem zrb:Tryd.prog.follows .mixedOrders=true:=by kernel_rfl
theorem znl:((Zi Tryd.prog.funcs.size).all fun f=>!(2 ^ 168 - 1).testBit f || okFn Tryd.prog f)=true:=by kernel_rfl
theorem fewT:Tryd.prog.globals.size<=64:=of_decide_eq_true (by kernel_rfl)
theorem zpk:retTrue (dcall Tryd.prog (okIns (2 ^ 168 - 1) 47 3) 1000000 17 [] ⟨64,.nil⟩)=true:=by kernel_rfl
theorem zju (w:World):Calls Tryd.prog 17 #[] w fun e w'=>e=.returned (.bool true)/\Below w.heap.size w w' :=
 zfv (τ:=fun _=>.bool true) (fun _=>rfl) zrb (fun _ _=>znj znk znl) fewT zpk ⟨rfl,fun i v v' h=>by simp at h⟩ w
theorem zjv {w0:World}{N:Nat}(hT:Lib.Utf8Tabs (laysValid_ren.g 3) (laysValid_ren.g 4) w0) (hN:N=w0.heap.size) (s:ByteArray) (w:World) (hs:s.size<=9223372036854775807) (hB:Below N w0 w) :
  Calls Tryd.prog 72 #[.string s] w fun e w'=>e=.returned (.bool (Lib.validD s.data.toList))/\Below w.heap.size w w' :=
 Any.utf8_ValidString laysValid s w hs (Utf8Tabs_below hT (hN ▸ hB))
theorem zpl {W:World}(hT:Lib.Utf8Tabs (laysValid_ren.g 3) (laysValid_ren.g 4) W):OkFns Tryd.prog W.heap.size W okT:=by
 have hf:=zkw (N:=W.heap.size) (w0:=W) (fa:=17) (fv:=72) znl zju fun s w hs hB=>zjv hT rfl s w hs hB
 refine⟨z6w znl,fun τ f args args' H en H' w σ hτ hk hl hH hG=>?_⟩;simp only[okT] at hk;split at hk
 ·exact zb2 znk hτ hk hl hH
 ·exact hf.2 τ f args args' H en H' w σ hτ hk hl hH hG
theorem zpm {W:World}{f:FuncId}{args:Array Value}(hT:Lib.Utf8Tabs (laysValid_ren.g 3) (laysValid_ren.g 4) W) (h:EvF Tryd.prog okT f (args.toList.map (abV Tryd.prog W)) (heapW Tryd.prog W) fun v _=>v=.bool true) :
  Calls Tryd.prog f args W fun e W'=>e=.returned (.bool true)/\Below W.heap.size W W' :=
 zf6 zrb (zpl hT) h
end Go.Proofs.hq
end
