import Derived.Shelf.LaysM
import Derived.Shelf.Lays
import Derived.Shelf.SlIter.Nil
import Derived.Shelf.SlIter.Sorted
import Derived.Shelf.SortM.Plain
import Derived.Shelf.SortM.SortNone
import Derived.Test.YtlmjnikipfbenaaDoorProg
import Derived.KernelRfl
import Derived.Test.YtlmjnikipfbenaaDoorM3
import Derived.Test.YtlmjnikipfbenaaDoorM2
import Derived.Test.YtlmjnikipfbenaaDoorM4
import Derived.Test.YtlmjnikipfbenaaDoorM5
import Derived.Shelf.Unicode.ValidAny
import Derived.Shelf.Strconv.Itoa3
import Derived.Shelf.Strings.Count
import Derived.Lib.AppendIntMem
import Derived.Lib.LaidU8T
/- Lemmas on the program's own code, towards the laws of this folder, part 6. Conditions: as each lemma says. -/
open List renaming range → Zf
open Nat renaming le_refl → Ze
section
/- Library functions at this seat (written by the kit's own tool). -/
namespace Go.Proofs.hq
open Go Go.Shelf Go.Proofs
open Go.Shelf
def laysKeys_ren:Go.Shelf.Ren:=⟨fun|7=>37|10=>47|n=>n,fun|23=>53|26=>9|3=>9|28=>84|0=>0|27=>83|33=>58|4=>4|n=>n,fun|n=>n⟩
theorem laysKeys:Go.Proofs.SlLaysZ.n7 Tryd.prog laysKeys_ren:={
  mixed:=by kernel_rfl
  f7:=⟨Tryd.f37.name,by decide,Tryd.func37.trans (congrArg some (by kernel_rfl))⟩
  f10:=⟨Tryd.f47.name,by decide,Tryd.func47.trans (congrArg some (by kernel_rfl))⟩
  t0:=Tryd.underlying0
  a0:=Tryd.isAgg0
  z0:=Tryd.sizeOf0
  v0:=Tryd.zeroValue0
  t4:=Tryd.underlying4
  a4:=Tryd.isAgg4
  z4:=Tryd.sizeOf4
  v4:=Tryd.zeroValue4
  t23:=Tryd.underlying53
  a23:=Tryd.isAgg53
  z23:=Tryd.sizeOf53
  v23:=Tryd.zeroValue53
  t26:=Tryd.underlying9
  a26:=Tryd.isAgg9
  z26:=Tryd.sizeOf9
  v26:=Tryd.zeroValue9
  t27:=Tryd.underlying83
  a27:=Tryd.isAgg83
  z27:=Tryd.sizeOf83
  v27:=Tryd.zeroValue83
  t28:=Tryd.underlying84
  a28:=Tryd.isAgg84
  z28:=Tryd.sizeOf84
  v28:=Tryd.zeroValue84
  t33:=Tryd.underlying58
  a33:=Tryd.isAgg58
  z33:=Tryd.sizeOf58
  v33:=Tryd.zeroValue58 }
def laysSorted_ren:Go.Shelf.Ren:=⟨fun|6=>36|8=>45|9=>46|11=>52|13=>54|12=>53|23=>66|24=>67|14=>57|15=>58|16=>59|17=>60|18=>61|19=>62|20=>63|21=>64|22=>65|25=>76|26=>77|27=>78|28=>79|29=>80|30=>81|31=>88|n=>n,fun|26=>9|28=>84|24=>39|0=>0|3=>3|37=>99|48=>115|50=>63|4=>4|40=>109|39=>108|45=>51|5=>5|9=>9|51=>122|55=>126|57=>133|58=>76|33=>58|n=>n,fun|n=>n⟩
theorem laysSorted:Go.Proofs.SlLaysZ.n6 Tryd.prog laysSorted_ren:={
  mixed:=by kernel_rfl
  f6:=⟨Tryd.f36.name,by decide,Tryd.func36.trans (congrArg some (by kernel_rfl))⟩
  f8:=⟨Tryd.f45.name,by decide,Tryd.func45.trans (congrArg some (by kernel_rfl))⟩
  f11:=⟨Tryd.f52.name,by decide,Tryd.func52.trans (congrArg some (by kernel_rfl))⟩
  t0:=Tryd.underlying0
  a0:=Tryd.isAgg0
  z0:=Tryd.sizeOf0
  v0:=Tryd.zeroValue0
  t24:=Tryd.underlying39
  a24:=Tryd.isAgg39
  z24:=Tryd.sizeOf39
  v24:=Tryd.zeroValue39
  t26:=Tryd.underlying9
  a26:=Tryd.isAgg9
  z26:=Tryd.sizeOf9
  v26:=Tryd.zeroValue9
  t28:=Tryd.underlying84
  a28:=Tryd.isAgg84
  z28:=Tryd.sizeOf84
  v28:=Tryd.zeroValue84
  i26:=by kernel_rfl }
def laysSort_ren:Go.Shelf.Ren:=⟨fun|6=>46|8=>54|9=>53|19=>66|20=>67|21=>57|22=>58|23=>59|24=>60|25=>61|26=>62|27=>63|28=>64|29=>65|36=>76|31=>77|32=>78|37=>79|38=>80|39=>81|41=>88|n=>n,fun|27=>39|29=>9|3=>3|32=>99|26=>39|0=>0|44=>115|46=>63|4=>4|36=>109|35=>108|41=>51|5=>5|9=>9|53=>122|57=>126|63=>133|64=>76|n=>n,fun|n=>n⟩
theorem laysSort:Go.Proofs.SlLaysM.n6 Tryd.prog laysSort_ren:={
  mixed:=by kernel_rfl
  f6:=⟨Tryd.f46.name,by decide,Tryd.func46.trans (congrArg some (by kernel_rfl))⟩
  f8:=Tryd.func54.trans (congrArg some (by kernel_rfl))
  f9:=⟨Tryd.f53.name,by decide,Tryd.func53.trans (congrArg some (by kernel_rfl))⟩
  f19:=Tryd.func66.trans (congrArg some (by kernel_rfl))
  f20:=Tryd.func67.trans (congrArg some (by kernel_rfl))
  f21:=⟨Tryd.f57.name,by decide,Tryd.func57.trans (congrArg some (by kernel_rfl))⟩
  f22:=⟨Tryd.f58.name,by decide,Tryd.func58.trans (congrArg some (by kernel_rfl))⟩
  f23:=⟨Tryd.f59.name,by decide,Tryd.func59.trans (congrArg some (by kernel_rfl))⟩
  f24:=⟨Tryd.f60.name,by decide,Tryd.func60.trans (congrArg some (by kernel_rfl))⟩
  f25:=⟨Tryd.f61.name,by decide,Tryd.func61.trans (congrArg some (by kernel_rfl))⟩
  f26:=⟨Tryd.f62.name,by decide,Tryd.func62.trans (congrArg some (by kernel_rfl))⟩
  f27:=⟨Tryd.f63.name,by decide,Tryd.func63.trans (congrArg some (by kernel_rfl))⟩
  f28:=⟨Tryd.f64.name,by decide,Tryd.func64.trans (congrArg some (by kernel_rfl))⟩
  f29:=⟨Tryd.f65.name,by decide,Tryd.func65.trans (congrArg some (by kernel_rfl))⟩
  f31:=Tryd.func77.trans (congrArg some (by kernel_rfl))
  f32:=Tryd.func78.trans (congrArg some (by kernel_rfl))
  f36:=⟨Tryd.f76.name,by decide,Tryd.func76.trans (congrArg some (by kernel_rfl))⟩
  f37:=⟨Tryd.f79.name,by decide,Tryd.func79.trans (congrArg some (by kernel_rfl))⟩
  f38:=⟨Tryd.f80.name,by decide,Tryd.func80.trans (congrArg some (by kernel_rfl))⟩
  f39:=⟨Tryd.f81.name,by decide,Tryd.func81.trans (congrArg some (by kernel_rfl))⟩
  f41:=⟨Tryd.f88.name,by decide,Tryd.func88.trans (congrArg some (by kernel_rfl))⟩
  t0:=Tryd.underlying0
  a0:=Tryd.isAgg0
  z0:=Tryd.sizeOf0
  v0:=Tryd.zeroValue0
  t3:=Tryd.underlying3
  a3:=Tryd.isAgg3
  z3:=Tryd.sizeOf3
  v3:=Tryd.zeroValue3
  t4:=Tryd.underlying4
  a4:=Tryd.isAgg4
  z4:=Tryd.sizeOf4
  v4:=Tryd.zeroValue4
  t5:=Tryd.underlying5
  a5:=Tryd.isAgg5
  z5:=Tryd.sizeOf5
  v5:=Tryd.zeroValue5
  t9:=Tryd.underlying9
  a9:=Tryd.isAgg9
  z9:=Tryd.sizeOf9
  v9:=Tryd.zeroValue9
  t26:=Tryd.underlying39
  a26:=Tryd.isAgg39
  z26:=Tryd.sizeOf39
  v26:=Tryd.zeroValue39
  t27:=Tryd.underlying39
  a27:=Tryd.isAgg39
  z27:=Tryd.sizeOf39
  v27:=Tryd.zeroValue39
  t29:=Tryd.underlying9
  a29:=Tryd.isAgg9
  z29:=Tryd.sizeOf9
  v29:=Tryd.zeroValue9
  t32:=Tryd.underlying99
  a32:=Tryd.isAgg99
  z32:=Tryd.sizeOf99
  v32:=Tryd.zeroValue99
  t35:=Tryd.underlying108
  a35:=Tryd.isAgg108
  z35:=Tryd.sizeOf108
  v35:=Tryd.zeroValue108
  t36:=Tryd.underlying109
  a36:=Tryd.isAgg109
  z36:=Tryd.sizeOf109
  v36:=Tryd.zeroValue109
  t41:=Tryd.underlying51
  a41:=Tryd.isAgg51
  z41:=Tryd.sizeOf51
  v41:=Tryd.zeroValue51
  t44:=Tryd.underlying115
  a44:=Tryd.isAgg115
  z44:=Tryd.sizeOf115
  v44:=Tryd.zeroValue115
  t46:=Tryd.underlying63
  a46:=Tryd.isAgg63
  z46:=Tryd.sizeOf63
  v46:=Tryd.zeroValue63
  t53:=Tryd.underlying122
  a53:=Tryd.isAgg122
  z53:=Tryd.sizeOf122
  v53:=Tryd.zeroValue122
  t57:=Tryd.underlying126
  a57:=Tryd.isAgg126
  z57:=Tryd.sizeOf126
  v57:=Tryd.zeroValue126
  t63:=Tryd.underlying133
  a63:=Tryd.isAgg133
  z63:=Tryd.sizeOf133
  v63:=Tryd.zeroValue133
  t64:=Tryd.underlying76
  a64:=Tryd.isAgg76
  z64:=Tryd.sizeOf76
  v64:=Tryd.zeroValue76 }
def laysItoa_ren:Go.Shelf.Ren:=⟨fun|171=>39|243=>51|246=>56|283=>72|284=>73|285=>74|286=>75|129=>67|317=>84|318=>85|319=>86|320=>87|337=>89|338=>90|n=>n,fun|3=>3|9=>9|2=>2|4=>4|171=>118|0=>0|53=>63|37=>43|5=>5|173=>120|212=>131|51=>115|20=>20|213=>132|46=>99|232=>135|233=>136|n=>n,fun|17=>3|18=>4|19=>5|n=>n⟩
theorem laysItoa:Go.Proofs.LaysM.n171 Tryd.prog laysItoa_ren:={
  mixed:=by kernel_rfl
  f129:=Tryd.func67.trans (congrArg some (by kernel_rfl))
  f171:=Tryd.func39.trans (congrArg some (by kernel_rfl))
  f243:=Tryd.func51.trans (congrArg some (by kernel_rfl))
  f246:=Tryd.func56.trans (congrArg some (by kernel_rfl))
  f283:=Tryd.func72.trans (congrArg some (by kernel_rfl))
  f284:=Tryd.func73.trans (congrArg some (by kernel_rfl))
  f285:=Tryd.func74.trans (congrArg some (by kernel_rfl))
  f286:=Tryd.func75.trans (congrArg some (by kernel_rfl))
  f317:=Tryd.func84.trans (congrArg some (by kernel_rfl))
  f318:=Tryd.func85.trans (congrArg some (by kernel_rfl))
  f319:=Tryd.func86.trans (congrArg some (by kernel_rfl))
  f320:=Tryd.func87.trans (congrArg some (by kernel_rfl))
  f337:=Tryd.func89.trans (congrArg some (by kernel_rfl))
  f338:=Tryd.func90.trans (congrArg some (by kernel_rfl))
  t0:=Tryd.underlying0
  a0:=Tryd.isAgg0
  z0:=Tryd.sizeOf0
  v0:=Tryd.zeroValue0
  t2:=Tryd.underlying2
  a2:=Tryd.isAgg2
  z2:=Tryd.sizeOf2
  v2:=Tryd.zeroValue2
  t3:=Tryd.underlying3
  a3:=Tryd.isAgg3
  z3:=Tryd.sizeOf3
  v3:=Tryd.zeroValue3
  t4:=Tryd.underlying4
  a4:=Tryd.isAgg4
  z4:=Tryd.sizeOf4
  v4:=Tryd.zeroValue4
  t5:=Tryd.underlying5
  a5:=Tryd.isAgg5
  z5:=Tryd.sizeOf5
  v5:=Tryd.zeroValue5
  t9:=Tryd.underlying9
  a9:=Tryd.isAgg9
  z9:=Tryd.sizeOf9
  v9:=Tryd.zeroValue9
  t20:=Tryd.underlying20
  a20:=Tryd.isAgg20
  z20:=Tryd.sizeOf20
  v20:=Tryd.zeroValue20
  t37:=Tryd.underlying43
  a37:=Tryd.isAgg43
  z37:=Tryd.sizeOf43
  v37:=Tryd.zeroValue43
  t46:=Tryd.underlying99
  a46:=Tryd.isAgg99
  z46:=Tryd.sizeOf99
  v46:=Tryd.zeroValue99
  t51:=Tryd.underlying115
  a51:=Tryd.isAgg115
  z51:=Tryd.sizeOf115
  v51:=Tryd.zeroValue115
  t53:=Tryd.underlying63
  a53:=Tryd.isAgg63
  z53:=Tryd.sizeOf63
  v53:=Tryd.zeroValue63
  t171:=Tryd.underlying118
  a171:=Tryd.isAgg118
  z171:=Tryd.sizeOf118
  v171:=Tryd.zeroValue118
  t173:=Tryd.underlying120
  a173:=Tryd.isAgg120
  z173:=Tryd.sizeOf120
  v173:=Tryd.zeroValue120
  t212:=Tryd.underlying131
  a212:=Tryd.isAgg131
  z212:=Tryd.sizeOf131
  v212:=Tryd.zeroValue131
  t213:=Tryd.underlying132
  a213:=Tryd.isAgg132
  z213:=Tryd.sizeOf132
  t232:=Tryd.underlying135
  a232:=Tryd.isAgg135
  z232:=Tryd.sizeOf135
  v232:=Tryd.zeroValue135
  t233:=Tryd.underlying136
  a233:=Tryd.isAgg136
  z233:=Tryd.sizeOf136
  v233:=Tryd.zeroValue136
  g17:=by kernel_rfl
  g18:=by kernel_rfl
  g19:=by kernel_rfl
  i0:=by kernel_rfl
  i2:=by kernel_rfl
  i3:=by kernel_rfl
  i4:=by kernel_rfl
  i5:=by kernel_rfl
  i9:=by kernel_rfl
  i20:=by kernel_rfl
  i37:=by kernel_rfl
  i46:=by kernel_rfl
  i51:=by kernel_rfl
  i53:=by kernel_rfl
  i171:=by kernel_rfl
  i173:=by kernel_rfl
  i212:=by kernel_rfl
  i232:=by kernel_rfl
  i233:=by kernel_rfl
  m17:=by kernel_rfl
  m18:=by kernel_rfl
  m19:=by kernel_rfl }
def laysCount_ren:Go.Shelf.Ren:=⟨fun|138=>38|195=>48|218=>49|143=>50|219=>55|217=>68|225=>69|224=>70|267=>71|266=>82|314=>83|n=>n,fun|9=>9|3=>3|4=>4|5=>5|0=>0|46=>99|146=>128|51=>115|n=>n,fun|1=>2|n=>n⟩
theorem laysCount:Go.Proofs.Lays.n138 Tryd.prog laysCount_ren:={
  mixed:=by kernel_rfl
  f138:=Tryd.func38.trans (congrArg some (by kernel_rfl))
  f143:=Tryd.func50.trans (congrArg some (by kernel_rfl))
  f195:=Tryd.func48.trans (congrArg some (by kernel_rfl))
  f217:=Tryd.func68.trans (congrArg some (by kernel_rfl))
  f218:=Tryd.func49.trans (congrArg some (by kernel_rfl))
  f219:=Tryd.func55.trans (congrArg some (by kernel_rfl))
  f224:=Tryd.func70.trans (congrArg some (by kernel_rfl))
  f225:=Tryd.func69.trans (congrArg some (by kernel_rfl))
  f266:=Tryd.func82.trans (congrArg some (by kernel_rfl))
  f267:=Tryd.func71.trans (congrArg some (by kernel_rfl))
  f314:=Tryd.func83.trans (congrArg some (by kernel_rfl))
  t0:=Tryd.underlying0
  a0:=Tryd.isAgg0
  z0:=Tryd.sizeOf0
  v0:=Tryd.zeroValue0
  t3:=Tryd.underlying3
  a3:=Tryd.isAgg3
  z3:=Tryd.sizeOf3
  v3:=Tryd.zeroValue3
  t4:=Tryd.underlying4
  a4:=Tryd.isAgg4
  z4:=Tryd.sizeOf4
  v4:=Tryd.zeroValue4
  t5:=Tryd.underlying5
  a5:=Tryd.isAgg5
  z5:=Tryd.sizeOf5
  v5:=Tryd.zeroValue5
  t9:=Tryd.underlying9
  a9:=Tryd.isAgg9
  z9:=Tryd.sizeOf9
  v9:=Tryd.zeroValue9
  t46:=Tryd.underlying99
  a46:=Tryd.isAgg99
  z46:=Tryd.sizeOf99
  v46:=Tryd.zeroValue99
  t51:=Tryd.underlying115
  a51:=Tryd.isAgg115
  z51:=Tryd.sizeOf115
  v51:=Tryd.zeroValue115
  t146:=Tryd.underlying128
  a146:=Tryd.isAgg128
  z146:=Tryd.sizeOf128
  v146:=Tryd.zeroValue128
  g1:=by kernel_rfl }
def laysValid_ren:Go.Shelf.Ren:=⟨fun|196=>31|259=>43|n=>n,fun|9=>9|4=>4|3=>3|5=>5|12=>12|119=>95|0=>0|46=>99|139=>98|138=>97|53=>63|n=>n,fun|3=>0|4=>1|n=>n⟩
theorem laysValid:Go.Proofs.Lays.n196 Tryd.prog laysValid_ren:={
  mixed:=by kernel_rfl
  f196:=Tryd.func31.trans (congrArg some (by kernel_rfl))
  f259:=Tryd.func43.trans (congrArg some (by kernel_rfl))
  t0:=Tryd.underlying0
  a0:=Tryd.isAgg0
  z0:=Tryd.sizeOf0
  v0:=Tryd.zeroValue0
  t3:=Tryd.underlying3
  a3:=Tryd.isAgg3
  z3:=Tryd.sizeOf3
  v3:=Tryd.zeroValue3
  t4:=Tryd.underlying4
  a4:=Tryd.isAgg4
  z4:=Tryd.sizeOf4
  v4:=Tryd.zeroValue4
  t5:=Tryd.underlying5
  a5:=Tryd.isAgg5
  z5:=Tryd.sizeOf5
  v5:=Tryd.zeroValue5
  t9:=Tryd.underlying9
  a9:=Tryd.isAgg9
  z9:=Tryd.sizeOf9
  v9:=Tryd.zeroValue9
  t12:=Tryd.underlying12
  a12:=Tryd.isAgg12
  z12:=Tryd.sizeOf12
  v12:=Tryd.zeroValue12
  t46:=Tryd.underlying99
  a46:=Tryd.isAgg99
  z46:=Tryd.sizeOf99
  v46:=Tryd.zeroValue99
  t53:=Tryd.underlying63
  a53:=Tryd.isAgg63
  z53:=Tryd.sizeOf63
  v53:=Tryd.zeroValue63
  t119:=Tryd.underlying95
  a119:=Tryd.isAgg95
  z119:=Tryd.sizeOf95
  t138:=Tryd.underlying97
  a138:=Tryd.isAgg97
  z138:=Tryd.sizeOf97
  v138:=Tryd.zeroValue97
  t139:=Tryd.underlying98
  a139:=Tryd.isAgg98
  z139:=Tryd.sizeOf98
  v139:=Tryd.zeroValue98
  g3:=by kernel_rfl
  g4:=by kernel_rfl }
end Go.Proofs.hq
end

section
namespace Go.Proofs.hq
open Go Go.RowKit Go.Hb Go.Shelf Go.Proofs
theorem zhf:Tryd.prog.follows .mixedOrders=true:=by kernel_rfl
theorem zf8:((Zf Tryd.prog.funcs.size).all fun f=>!(2 ^ 126 - 1).testBit f || okFn Tryd.prog f)=true:=by kernel_rfl
theorem fewT:Tryd.prog.globals.size≤64:=of_decide_eq_true (by kernel_rfl)
theorem zgd:retTrue (dcall Tryd.prog (okVal (2 ^ 126 - 1) 31) 1000000 5 [] ⟨64,.nil⟩)=true:=by kernel_rfl
def TabsF (W:World):Prop:=Lib.Utf8Tabs (laysValid_ren.g 3) (laysValid_ren.g 4) W∧Lib.TabIs Tryd.prog W "internal/strconv.uint64pow10" .u64 Lib.pow10Tab
theorem zis {W:World}(h:Lib.VarReads Tryd.prog W "internal/strconv.uint64pow10" (Lib.tabData .u64 Lib.pow10Tab)):Lib.TabIs Tryd.prog W "internal/strconv.uint64pow10" .u64 Lib.pow10Tab:=by
 obtain⟨g,t,cs,fuel,p,hg,ht,hvar,hd⟩:=h;unfold Lib.TabIs;rw[hvar];have hg':Tryd.prog.globalNamed "internal/strconv.uint64pow10" = some 3:=by kernel_rfl
 obtain rfl:=Option.some.inj (hg'.symm.trans hg);have hty:(Tryd.prog.globals[3]?).map (·.type)=some 131:=by kernel_rfl
 obtain rfl:=Option.some.inj (hty.symm.trans ht);rw[←Lib.cells_of_tab (n:=20) (e:=63) Tryd.underlying131 Tryd.underlying63 (by kernel_rfl) (by kernel_rfl) hd]
theorem z7f {w0:World}(hT:TabsF w0) (s:ByteArray) (w:World) (hs:s.size≤9223372036854775807) (hB:Below w0.heap.size w0 w) :
  Calls Tryd.prog 31 #[.string s] w fun e w'=>e=.returned (.bool (Lib.validD s.data.toList))∧Below w.heap.size w w' :=
 Any.utf8_ValidString laysValid s w hs (Utf8Tabs_below hT.1 hB)
theorem zd0 {w0:World}(hT:TabsF w0) (w:World) (hB:Below w0.heap.size w0 w):Calls Tryd.prog 5 #[] w fun e w'=>e=.returned (.bool true)∧Below w.heap.size w w' :=
 zao (τ:=fun _=>.bool true) (fun _=>rfl) zhf w (zf5 zf8 fun s w' hs hB'=>z7f hT s w' hs (hB.trans (hB'.mono hB.size))) fewT zgd ⟨rfl,fun i v v' h=>by simp at h⟩
theorem zf9 {w0:World}(hT:TabsF w0) (n:Int) (h0:-9223372036854775808≤n) (h1:n≤9223372036854775807) (w:World) (hB:Below w0.heap.size w0 w) :
  Calls Tryd.prog 39 #[.int .i64 n] w fun e w'=>e=.returned (.string (itoaB n))∧Below w.heap.size w w' :=
 (Any.strconv_Itoa laysItoa n h0 h1 w (Lib.tabBelow_of_tabIs hT.2 w hB)).mono (by rintro e w' ⟨rfl,k,os,rfl⟩;exact⟨rfl,Lib.below_grow _ w (Ze _) k os⟩)
theorem zd1 (s:ByteArray) (c:UInt8) (w:World):Calls Tryd.prog 38 #[.string s,.string ⟨#[c]⟩] w fun e w'=>e=.returned (.int .i64 (Lib.countByte s.data.toList c))∧Below w.heap.size w w' :=
 (Any.strings_Count_one laysCount s c w).mono (by rintro e w' ⟨rfl,rfl⟩;exact⟨rfl,Below.refl _ _⟩)
theorem zim (m:Nat):AnyZ.SortsIn Tryd.prog laysSorted_ren Fence.wide m :=
 ⟨fun blk off cap ss W hH hblk hsz=>callsIn_wide.2 (AnyM.slices_Sort_string laysSort blk off cap ss W hH hblk hsz),fun p cap W=>callsIn_wide.2 (AnyM.slices_Sort_string_none laysSort p cap W)⟩
theorem zaq:SortedCalls Tryd.prog 36 47 9:=fun w c b nn D0 hc hm hown hmax hbytes =>
 (callsIn_wide (n:=6)).1 (AnyZ.sorted_in laysSorted Fence.wide 6 trivial trivial trivial trivial rfl (by omega) (zim _) (enters_of Tryd.func46 (by kernel_rfl) rfl) 47 #[.pointer (some ⟨c,0,none⟩)] trivial
  (enters_of Tryd.func47 (by kernel_rfl) rfl) _ _ hmax hbytes _ (AnyZ.keys_gives (ρ:=laysKeys_ren) { laysKeys with } Fence.wide _ trivial rfl (by omega) c b nn D0 w hc hm hown))
theorem zge {W:World}(hT:TabsF W):OkFns Tryd.prog W.heap.size W okT:=by
 have hL:∀p∈[(5,knAw),(31,knValid),(39,knItoa),(38,knCount)],∀args v,p.2 args=some v→flat v=true∧flatL args=true∧∀w,Below W.heap.size W w→Calls Tryd.prog p.1 args.toArray w fun e w'=>e=.returned v∧Below w.heap.size w w':=by
  intro p hp args v hv;simp only[List.mem_cons,List.not_mem_nil,or_false] at hp;rcases hp with rfl|rfl|rfl|rfl
  ·simp only[knAw] at hv;split at hv
   ·cases hv;exact⟨rfl,rfl,fun w hB=>zd0 hT w hB⟩
   ·cases hv
  ·simp only[knValid] at hv;split at hv
   ·split at hv
    ·rename_i s hs;cases hv;exact⟨rfl,rfl,fun w hB=>z7f hT s w hs hB⟩
    ·cases hv
   ·cases hv
  ·simp only[knItoa] at hv;split at hv
   ·split at hv
    ·rename_i n hn;cases hv;exact⟨rfl,rfl,fun w hB=>zf9 hT n hn.1 hn.2 w hB⟩
    ·cases hv
   ·cases hv
  ·simp only[knCount] at hv;split at hv
   ·rename_i s c;cases hv;exact⟨rfl,rfl,fun w hB=>zd1 s c w⟩
   ·cases hv
 have hf:=zft (N:=W.heap.size) (w0:=W) zf8 hL;refine⟨z4a zf8,fun τ f args args' H en H' w σ hτ hk hl hH hG=>?_⟩;simp only[okT,okKs2] at hk;split at hk
 ·rename_i hfs;have hfe:f=36:=by simpa using hfs
  subst hfe;exact zap zaq (by kernel_rfl) Tryd.underlying9 hk hl hH
 ·exact hf.2 τ f args args' H en H' w σ hτ hk hl hH hG
theorem zgf {W:World}{f:FuncId}{args:Array Value}(hT:TabsF W) (h:EvF Tryd.prog okT f (args.toList.map (abV Tryd.prog W)) (heapW Tryd.prog W) fun v _=>v=.bool true) :
  Calls Tryd.prog f args W fun e W'=>e=.returned (.bool true)∧Below W.heap.size W W' :=
 za7 zhf (zge hT) h
end Go.Proofs.hq
end
