import Derived.Shelf.LaysM
import Derived.Shelf.Lays
import Derived.Test.YtlmjnikipfbenaaDoorProg
import Derived.KernelRfl
import Derived.Test.YtlmjnikipfbenaaDoorM3
import Derived.Test.YtlmjnikipfbenaaDoorM2
import Derived.Shelf.Unicode.ValidAny
import Derived.Shelf.Strconv.Itoa3
import Derived.Shelf.Strings.Count
import Derived.Lib.AppendIntMem
import Derived.Lib.LaidU8T
/- Lemmas on the program's own code, towards the laws of this folder, part 4. Conditions: as each lemma says. -/
open List renaming range → Zc
open Nat renaming le_refl → Ze
section
/- Library functions at this seat (written by the kit's own tool). -/
namespace Go.Proofs.hq
open Go Go.Shelf Go.Proofs
open Go.Shelf
def laysItoa_ren:Go.Shelf.Ren:=⟨fun|171=>39|243=>51|246=>56|283=>72|284=>73|285=>74|286=>75|129=>67|317=>84|318=>85|319=>86|320=>87|337=>89|338=>90|n=>n,fun|3=>3|9=>9|2=>2|4=>4|171=>118|0=>0|53=>63|37=>43|5=>5|173=>120|212=>131|51=>115|20=>20|213=>132|46=>99|232=>135|233=>136|n=>n,fun|17=>3|18=>4|19=>5|n=>n⟩
theorem laysItoa:Go.Proofs.LaysM.n171 Tryd.prog laysItoa_ren:={
  mixed:=by kernel_rfl
  f129:=Tryd.func67.trans (congrArg some (by kernel_rfl))
  f171:=Tryd.func39.trans (congrArg some (by kernel_rfl))
  f243:=Tryd.func51.trans (congrArg some (by kernel_rfl))
  f246:=Tryd.func56.trans (congrArg some (by kernel_rfl))
  f283:=Tryd.func72.trans (congrArg some (by kernel_rfl))
  f284:=Tryd.func73.trans (congrArg some (by kernel_rfl))
  f285:=Tryd.func74.trans (congrArg some (by kernel_rfl))
  f286:=Tryd.func75.trans (congrArg some (by kernel_rfl))
  f317:=Tryd.func84.trans (congrArg some (by kernel_rfl))
  f318:=Tryd.func85.trans (congrArg some (by kernel_rfl))
  f319:=Tryd.func86.trans (congrArg some (by kernel_rfl))
  f320:=Tryd.func87.trans (congrArg some (by kernel_rfl))
  f337:=Tryd.func89.trans (congrArg some (by kernel_rfl))
  f338:=Tryd.func90.trans (congrArg some (by kernel_rfl))
  t0:=Tryd.underlying0
  a0:=Tryd.isAgg0
  z0:=Tryd.sizeOf0
  v0:=Tryd.zeroValue0
  t2:=Tryd.underlying2
  a2:=Tryd.isAgg2
  z2:=Tryd.sizeOf2
  v2:=Tryd.zeroValue2
  t3:=Tryd.underlying3
  a3:=Tryd.isAgg3
  z3:=Tryd.sizeOf3
  v3:=Tryd.zeroValue3
  t4:=Tryd.underlying4
  a4:=Tryd.isAgg4
  z4:=Tryd.sizeOf4
  v4:=Tryd.zeroValue4
  t5:=Tryd.underlying5
  a5:=Tryd.isAgg5
  z5:=Tryd.sizeOf5
  v5:=Tryd.zeroValue5
  t9:=Tryd.underlying9
  a9:=Tryd.isAgg9
  z9:=Tryd.sizeOf9
  v9:=Tryd.zeroValue9
  t20:=Tryd.underlying20
  a20:=Tryd.isAgg20
  z20:=Tryd.sizeOf20
  v20:=Tryd.zeroValue20
  t37:=Tryd.underlying43
  a37:=Tryd.isAgg43
  z37:=Tryd.sizeOf43
  v37:=Tryd.zeroValue43
  t46:=Tryd.underlying99
  a46:=Tryd.isAgg99
  z46:=Tryd.sizeOf99
  v46:=Tryd.zeroValue99
  t51:=Tryd.underlying115
  a51:=Tryd.isAgg115
  z51:=Tryd.sizeOf115
  v51:=Tryd.zeroValue115
  t53:=Tryd.underlying63
  a53:=Tryd.isAgg63
  z53:=Tryd.sizeOf63
  v53:=Tryd.zeroValue63
  t171:=Tryd.underlying118
  a171:=Tryd.isAgg118
  z171:=Tryd.sizeOf118
  v171:=Tryd.zeroValue118
  t173:=Tryd.underlying120
  a173:=Tryd.isAgg120
  z173:=Tryd.sizeOf120
  v173:=Tryd.zeroValue120
  t212:=Tryd.underlying131
  a212:=Tryd.isAgg131
  z212:=Tryd.sizeOf131
  v212:=Tryd.zeroValue131
  t213:=Tryd.underlying132
  a213:=Tryd.isAgg132
  z213:=Tryd.sizeOf132
  t232:=Tryd.underlying135
  a232:=Tryd.isAgg135
  z232:=Tryd.sizeOf135
  v232:=Tryd.zeroValue135
  t233:=Tryd.underlying136
  a233:=Tryd.isAgg136
  z233:=Tryd.sizeOf136
  v233:=Tryd.zeroValue136
  g17:=by kernel_rfl
  g18:=by kernel_rfl
  g19:=by kernel_rfl
  i0:=by kernel_rfl
  i2:=by kernel_rfl
  i3:=by kernel_rfl
  i4:=by kernel_rfl
  i5:=by kernel_rfl
  i9:=by kernel_rfl
  i20:=by kernel_rfl
  i37:=by kernel_rfl
  i46:=by kernel_rfl
  i51:=by kernel_rfl
  i53:=by kernel_rfl
  i171:=by kernel_rfl
  i173:=by kernel_rfl
  i212:=by kernel_rfl
  i232:=by kernel_rfl
  i233:=by kernel_rfl
  m17:=by kernel_rfl
  m18:=by kernel_rfl
  m19:=by kernel_rfl }
def laysCount_ren:Go.Shelf.Ren:=⟨fun|138=>38|195=>48|218=>49|143=>50|219=>55|217=>68|225=>69|224=>70|267=>71|266=>82|314=>83|n=>n,fun|9=>9|3=>3|4=>4|5=>5|0=>0|46=>99|146=>128|51=>115|n=>n,fun|1=>2|n=>n⟩
theorem laysCount:Go.Proofs.Lays.n138 Tryd.prog laysCount_ren:={
  mixed:=by kernel_rfl
  f138:=Tryd.func38.trans (congrArg some (by kernel_rfl))
  f143:=Tryd.func50.trans (congrArg some (by kernel_rfl))
  f195:=Tryd.func48.trans (congrArg some (by kernel_rfl))
  f217:=Tryd.func68.trans (congrArg some (by kernel_rfl))
  f218:=Tryd.func49.trans (congrArg some (by kernel_rfl))
  f219:=Tryd.func55.trans (congrArg some (by kernel_rfl))
  f224:=Tryd.func70.trans (congrArg some (by kernel_rfl))
  f225:=Tryd.func69.trans (congrArg some (by kernel_rfl))
  f266:=Tryd.func82.trans (congrArg some (by kernel_rfl))
  f267:=Tryd.func71.trans (congrArg some (by kernel_rfl))
  f314:=Tryd.func83.trans (congrArg some (by kernel_rfl))
  t0:=Tryd.underlying0
  a0:=Tryd.isAgg0
  z0:=Tryd.sizeOf0
  v0:=Tryd.zeroValue0
  t3:=Tryd.underlying3
  a3:=Tryd.isAgg3
  z3:=Tryd.sizeOf3
  v3:=Tryd.zeroValue3
  t4:=Tryd.underlying4
  a4:=Tryd.isAgg4
  z4:=Tryd.sizeOf4
  v4:=Tryd.zeroValue4
  t5:=Tryd.underlying5
  a5:=Tryd.isAgg5
  z5:=Tryd.sizeOf5
  v5:=Tryd.zeroValue5
  t9:=Tryd.underlying9
  a9:=Tryd.isAgg9
  z9:=Tryd.sizeOf9
  v9:=Tryd.zeroValue9
  t46:=Tryd.underlying99
  a46:=Tryd.isAgg99
  z46:=Tryd.sizeOf99
  v46:=Tryd.zeroValue99
  t51:=Tryd.underlying115
  a51:=Tryd.isAgg115
  z51:=Tryd.sizeOf115
  v51:=Tryd.zeroValue115
  t146:=Tryd.underlying128
  a146:=Tryd.isAgg128
  z146:=Tryd.sizeOf128
  v146:=Tryd.zeroValue128
  g1:=by kernel_rfl }
def laysValid_ren:Go.Shelf.Ren:=⟨fun|196=>31|259=>43|n=>n,fun|9=>9|4=>4|3=>3|5=>5|12=>12|119=>95|0=>0|46=>99|139=>98|138=>97|53=>63|n=>n,fun|3=>0|4=>1|n=>n⟩
theorem laysValid:Go.Proofs.Lays.n196 Tryd.prog laysValid_ren:={
  mixed:=by kernel_rfl
  f196:=Tryd.func31.trans (congrArg some (by kernel_rfl))
  f259:=Tryd.func43.trans (congrArg some (by kernel_rfl))
  t0:=Tryd.underlying0
  a0:=Tryd.isAgg0
  z0:=Tryd.sizeOf0
  v0:=Tryd.zeroValue0
  t3:=Tryd.underlying3
  a3:=Tryd.isAgg3
  z3:=Tryd.sizeOf3
  v3:=Tryd.zeroValue3
  t4:=Tryd.underlying4
  a4:=Tryd.isAgg4
  z4:=Tryd.sizeOf4
  v4:=Tryd.zeroValue4
  t5:=Tryd.underlying5
  a5:=Tryd.isAgg5
  z5:=Tryd.sizeOf5
  v5:=Tryd.zeroValue5
  t9:=Tryd.underlying9
  a9:=Tryd.isAgg9
  z9:=Tryd.sizeOf9
  v9:=Tryd.zeroValue9
  t12:=Tryd.underlying12
  a12:=Tryd.isAgg12
  z12:=Tryd.sizeOf12
  v12:=Tryd.zeroValue12
  t46:=Tryd.underlying99
  a46:=Tryd.isAgg99
  z46:=Tryd.sizeOf99
  v46:=Tryd.zeroValue99
  t53:=Tryd.underlying63
  a53:=Tryd.isAgg63
  z53:=Tryd.sizeOf63
  v53:=Tryd.zeroValue63
  t119:=Tryd.underlying95
  a119:=Tryd.isAgg95
  z119:=Tryd.sizeOf95
  t138:=Tryd.underlying97
  a138:=Tryd.isAgg97
  z138:=Tryd.sizeOf97
  v138:=Tryd.zeroValue97
  t139:=Tryd.underlying98
  a139:=Tryd.isAgg98
  z139:=Tryd.sizeOf98
  v139:=Tryd.zeroValue98
  g3:=by kernel_rfl
  g4:=by kernel_rfl }
end Go.Proofs.hq
end

section
namespace Go.Proofs.hq
open Go Go.RowKit Go.Hb Go.Shelf Go.Proofs
theorem zdv:Tryd.prog.follows .mixedOrders=true:=by kernel_rfl
theorem zdw:((Zc Tryd.prog.funcs.size).all fun f=>!(2 ^ 126 - 1).testBit f || okFn Tryd.prog f)=true:=by kernel_rfl
theorem fewT:Tryd.prog.globals.size≤64:=of_decide_eq_true (by kernel_rfl)
theorem zcw:retTrue (dcall Tryd.prog (okVal (2 ^ 126 - 1) 31) 1000000 5 [] ⟨64,.nil⟩)=true:=by kernel_rfl
def TabsF (W:World):Prop:=Lib.Utf8Tabs (laysValid_ren.g 3) (laysValid_ren.g 4) W∧Lib.TabIs Tryd.prog W "internal/strconv.uint64pow10" .u64 Lib.pow10Tab
theorem zf4 {W:World}(h:Lib.VarReads Tryd.prog W "internal/strconv.uint64pow10" (Lib.tabData .u64 Lib.pow10Tab)):Lib.TabIs Tryd.prog W "internal/strconv.uint64pow10" .u64 Lib.pow10Tab:=by
 obtain⟨g,t,cs,fuel,p,hg,ht,hvar,hd⟩:=h;unfold Lib.TabIs;rw[hvar];have hg':Tryd.prog.globalNamed "internal/strconv.uint64pow10" = some 3:=by kernel_rfl
 obtain rfl:=Option.some.inj (hg'.symm.trans hg);have hty:(Tryd.prog.globals[3]?).map (·.type)=some 131:=by kernel_rfl
 obtain rfl:=Option.some.inj (hty.symm.trans ht);rw[←Lib.cells_of_tab (n:=20) (e:=63) Tryd.underlying131 Tryd.underlying63 (by kernel_rfl) (by kernel_rfl) hd]
theorem z5l {w0:World}(hT:TabsF w0) (s:ByteArray) (w:World) (hs:s.size≤9223372036854775807) (hB:Below w0.heap.size w0 w) :
  Calls Tryd.prog 31 #[.string s] w fun e w'=>e=.returned (.bool (Lib.validD s.data.toList))∧Below w.heap.size w w' :=
 Any.utf8_ValidString laysValid s w hs (Utf8Tabs_below hT.1 hB)
theorem zae {w0:World}(hT:TabsF w0) (w:World) (hB:Below w0.heap.size w0 w):Calls Tryd.prog 5 #[] w fun e w'=>e=.returned (.bool true)∧Below w.heap.size w w' :=
 z8e (τ:=fun _=>.bool true) (fun _=>rfl) zdv w (zc0 zdw fun s w' hs hB'=>z5l hT s w' hs (hB.trans (hB'.mono hB.size))) fewT zcw ⟨rfl,fun i v v' h=>by simp at h⟩
theorem zc1 {w0:World}(hT:TabsF w0) (n:Int) (h0:-9223372036854775808≤n) (h1:n≤9223372036854775807) (w:World) (hB:Below w0.heap.size w0 w) :
  Calls Tryd.prog 39 #[.int .i64 n] w fun e w'=>e=.returned (.string (itoaB n))∧Below w.heap.size w w' :=
 (Any.strconv_Itoa laysItoa n h0 h1 w (Lib.tabBelow_of_tabIs hT.2 w hB)).mono (by rintro e w' ⟨rfl,k,os,rfl⟩;exact⟨rfl,Lib.below_grow _ w (Ze _) k os⟩)
theorem zaf (s:ByteArray) (c:UInt8) (w:World):Calls Tryd.prog 38 #[.string s,.string ⟨#[c]⟩] w fun e w'=>e=.returned (.int .i64 (Lib.countByte s.data.toList c))∧Below w.heap.size w w' :=
 (Any.strings_Count_one laysCount s c w).mono (by rintro e w' ⟨rfl,rfl⟩;exact⟨rfl,Below.refl _ _⟩)
theorem zcx {W:World}{f:FuncId}{args:Array Value}(hT:TabsF W) (h:EvF Tryd.prog okT f (args.toList.map (abV Tryd.prog W)) (heapW Tryd.prog W) fun v _=>v=.bool true) :
  Calls Tryd.prog f args W fun e W'=>e=.returned (.bool true)∧Below W.heap.size W W':=by
 refine zcl zdv zdw (fun p hp args v hv=>?_) h;simp only[List.mem_cons,List.not_mem_nil,or_false] at hp;rcases hp with rfl|rfl|rfl|rfl
 ·simp only[knAw] at hv;split at hv
  ·cases hv;exact⟨rfl,rfl,fun w hB=>zae hT w hB⟩
  ·cases hv
 ·simp only[knValid] at hv;split at hv
  ·split at hv
   ·rename_i s hs;cases hv;exact⟨rfl,rfl,fun w hB=>z5l hT s w hs hB⟩
   ·cases hv
  ·cases hv
 ·simp only[knItoa] at hv;split at hv
  ·split at hv
   ·rename_i n hn;cases hv;exact⟨rfl,rfl,fun w hB=>zc1 hT n hn.1 hn.2 w hB⟩
   ·cases hv
  ·cases hv
 ·simp only[knCount] at hv;split at hv
  ·rename_i s c;cases hv;exact⟨rfl,rfl,fun w hB=>zaf s c w⟩
  ·cases hv
end Go.Proofs.hq
end
