import Derived.Shelf.LaysM
import Derived.Shelf.Lays
import Derived.Shelf.SlIter.Nil
import Derived.Shelf.SlIter.Sorted
import Derived.Shelf.SortM.Plain
import Derived.Shelf.SortM.SortNone
import Derived.Shelf.SlIterI.Sorted
import Derived.Test.YtlmjnikipfbenaaGreatDoorProg
import Derived.KernelRfl
import Derived.Test.YtlmjnikipfbenaaGreatDoorM3
import Derived.Test.YtlmjnikipfbenaaGreatDoorM2
import Derived.Test.YtlmjnikipfbenaaGreatDoorM7
import Derived.Test.YtlmjnikipfbenaaGreatDoorM8
import Derived.Shelf.Unicode.ValidAny
import Derived.Shelf.Strconv.Itoa3
import Derived.Shelf.Strings.Count
import Derived.Lib.AppendIntMem
import Derived.Lib.LaidU8T
/- Lemmas on the program's own code, towards the laws of this folder, part 9. Conditions: as each lemma says. -/
open List renaming range → Zj
open Nat renaming le_refl → Ze
section
/- Library functions at this seat (written by the kit's own tool). -/
namespace Go.Proofs.hq
open Go Go.Shelf Go.Proofs
open Go.Shelf
def laysKeys_ren:Go.Shelf.Ren:=⟨fun|7=>68|10=>96|n=>n,fun|23=>74|26=>9|3=>9|28=>125|0=>0|27=>124|33=>79|4=>4|n=>n,fun|n=>n⟩
theorem laysKeys:Go.Proofs.SlLaysZ.n7 Tryz.prog laysKeys_ren:={
  mixed:=by kernel_rfl
  f7:=⟨Tryz.f68.name,by decide,Tryz.func68.trans (congrArg some (by kernel_rfl))⟩
  f10:=⟨Tryz.f96.name,by decide,Tryz.func96.trans (congrArg some (by kernel_rfl))⟩
  t0:=Tryz.underlying0
  a0:=Tryz.isAgg0
  z0:=Tryz.sizeOf0
  v0:=Tryz.zeroValue0
  t4:=Tryz.underlying4
  a4:=Tryz.isAgg4
  z4:=Tryz.sizeOf4
  v4:=Tryz.zeroValue4
  t23:=Tryz.underlying74
  a23:=Tryz.isAgg74
  z23:=Tryz.sizeOf74
  v23:=Tryz.zeroValue74
  t26:=Tryz.underlying9
  a26:=Tryz.isAgg9
  z26:=Tryz.sizeOf9
  v26:=Tryz.zeroValue9
  t27:=Tryz.underlying124
  a27:=Tryz.isAgg124
  z27:=Tryz.sizeOf124
  v27:=Tryz.zeroValue124
  t28:=Tryz.underlying125
  a28:=Tryz.isAgg125
  z28:=Tryz.sizeOf125
  v28:=Tryz.zeroValue125
  t33:=Tryz.underlying79
  a33:=Tryz.isAgg79
  z33:=Tryz.sizeOf79
  v33:=Tryz.zeroValue79 }
def laysSorted_ren:Go.Shelf.Ren:=⟨fun|6=>67|8=>94|9=>95|11=>107|13=>106|12=>108|23=>125|24=>126|14=>127|15=>128|16=>129|17=>130|18=>131|19=>132|20=>133|21=>134|22=>135|25=>148|26=>143|27=>144|28=>149|29=>150|30=>151|31=>157|n=>n,fun|26=>9|28=>125|24=>122|0=>0|3=>3|37=>148|48=>177|50=>85|4=>4|40=>170|39=>169|45=>64|5=>5|9=>9|51=>190|55=>194|57=>201|58=>134|33=>79|n=>n,fun|n=>n⟩
theorem laysSorted:Go.Proofs.SlLaysZ.n6 Tryz.prog laysSorted_ren:={
  mixed:=by kernel_rfl
  f6:=⟨Tryz.f67.name,by decide,Tryz.func67.trans (congrArg some (by kernel_rfl))⟩
  f8:=⟨Tryz.f94.name,by decide,Tryz.func94.trans (congrArg some (by kernel_rfl))⟩
  f11:=⟨Tryz.f107.name,by decide,Tryz.func107.trans (congrArg some (by kernel_rfl))⟩
  t0:=Tryz.underlying0
  a0:=Tryz.isAgg0
  z0:=Tryz.sizeOf0
  v0:=Tryz.zeroValue0
  t24:=Tryz.underlying122
  a24:=Tryz.isAgg122
  z24:=Tryz.sizeOf122
  v24:=Tryz.zeroValue122
  t26:=Tryz.underlying9
  a26:=Tryz.isAgg9
  z26:=Tryz.sizeOf9
  v26:=Tryz.zeroValue9
  t28:=Tryz.underlying125
  a28:=Tryz.isAgg125
  z28:=Tryz.sizeOf125
  v28:=Tryz.zeroValue125
  i26:=by kernel_rfl }
def laysSort_ren:Go.Shelf.Ren:=⟨fun|6=>95|8=>106|9=>108|19=>125|20=>126|21=>127|22=>128|23=>129|24=>130|25=>131|26=>132|27=>133|28=>134|29=>135|36=>148|31=>143|32=>144|37=>149|38=>150|39=>151|41=>157|n=>n,fun|27=>122|29=>9|3=>3|32=>148|26=>122|0=>0|44=>177|46=>85|4=>4|36=>170|35=>169|41=>64|5=>5|9=>9|53=>190|57=>194|63=>201|64=>134|n=>n,fun|n=>n⟩
theorem laysSort:Go.Proofs.SlLaysM.n6 Tryz.prog laysSort_ren:={
  mixed:=by kernel_rfl
  f6:=⟨Tryz.f95.name,by decide,Tryz.func95.trans (congrArg some (by kernel_rfl))⟩
  f8:=Tryz.func106.trans (congrArg some (by kernel_rfl))
  f9:=⟨Tryz.f108.name,by decide,Tryz.func108.trans (congrArg some (by kernel_rfl))⟩
  f19:=Tryz.func125.trans (congrArg some (by kernel_rfl))
  f20:=Tryz.func126.trans (congrArg some (by kernel_rfl))
  f21:=⟨Tryz.f127.name,by decide,Tryz.func127.trans (congrArg some (by kernel_rfl))⟩
  f22:=⟨Tryz.f128.name,by decide,Tryz.func128.trans (congrArg some (by kernel_rfl))⟩
  f23:=⟨Tryz.f129.name,by decide,Tryz.func129.trans (congrArg some (by kernel_rfl))⟩
  f24:=⟨Tryz.f130.name,by decide,Tryz.func130.trans (congrArg some (by kernel_rfl))⟩
  f25:=⟨Tryz.f131.name,by decide,Tryz.func131.trans (congrArg some (by kernel_rfl))⟩
  f26:=⟨Tryz.f132.name,by decide,Tryz.func132.trans (congrArg some (by kernel_rfl))⟩
  f27:=⟨Tryz.f133.name,by decide,Tryz.func133.trans (congrArg some (by kernel_rfl))⟩
  f28:=⟨Tryz.f134.name,by decide,Tryz.func134.trans (congrArg some (by kernel_rfl))⟩
  f29:=⟨Tryz.f135.name,by decide,Tryz.func135.trans (congrArg some (by kernel_rfl))⟩
  f31:=Tryz.func143.trans (congrArg some (by kernel_rfl))
  f32:=Tryz.func144.trans (congrArg some (by kernel_rfl))
  f36:=⟨Tryz.f148.name,by decide,Tryz.func148.trans (congrArg some (by kernel_rfl))⟩
  f37:=⟨Tryz.f149.name,by decide,Tryz.func149.trans (congrArg some (by kernel_rfl))⟩
  f38:=⟨Tryz.f150.name,by decide,Tryz.func150.trans (congrArg some (by kernel_rfl))⟩
  f39:=⟨Tryz.f151.name,by decide,Tryz.func151.trans (congrArg some (by kernel_rfl))⟩
  f41:=⟨Tryz.f157.name,by decide,Tryz.func157.trans (congrArg some (by kernel_rfl))⟩
  t0:=Tryz.underlying0
  a0:=Tryz.isAgg0
  z0:=Tryz.sizeOf0
  v0:=Tryz.zeroValue0
  t3:=Tryz.underlying3
  a3:=Tryz.isAgg3
  z3:=Tryz.sizeOf3
  v3:=Tryz.zeroValue3
  t4:=Tryz.underlying4
  a4:=Tryz.isAgg4
  z4:=Tryz.sizeOf4
  v4:=Tryz.zeroValue4
  t5:=Tryz.underlying5
  a5:=Tryz.isAgg5
  z5:=Tryz.sizeOf5
  v5:=Tryz.zeroValue5
  t9:=Tryz.underlying9
  a9:=Tryz.isAgg9
  z9:=Tryz.sizeOf9
  v9:=Tryz.zeroValue9
  t26:=Tryz.underlying122
  a26:=Tryz.isAgg122
  z26:=Tryz.sizeOf122
  v26:=Tryz.zeroValue122
  t27:=Tryz.underlying122
  a27:=Tryz.isAgg122
  z27:=Tryz.sizeOf122
  v27:=Tryz.zeroValue122
  t29:=Tryz.underlying9
  a29:=Tryz.isAgg9
  z29:=Tryz.sizeOf9
  v29:=Tryz.zeroValue9
  t32:=Tryz.underlying148
  a32:=Tryz.isAgg148
  z32:=Tryz.sizeOf148
  v32:=Tryz.zeroValue148
  t35:=Tryz.underlying169
  a35:=Tryz.isAgg169
  z35:=Tryz.sizeOf169
  v35:=Tryz.zeroValue169
  t36:=Tryz.underlying170
  a36:=Tryz.isAgg170
  z36:=Tryz.sizeOf170
  v36:=Tryz.zeroValue170
  t41:=Tryz.underlying64
  a41:=Tryz.isAgg64
  z41:=Tryz.sizeOf64
  v41:=Tryz.zeroValue64
  t44:=Tryz.underlying177
  a44:=Tryz.isAgg177
  z44:=Tryz.sizeOf177
  v44:=Tryz.zeroValue177
  t46:=Tryz.underlying85
  a46:=Tryz.isAgg85
  z46:=Tryz.sizeOf85
  v46:=Tryz.zeroValue85
  t53:=Tryz.underlying190
  a53:=Tryz.isAgg190
  z53:=Tryz.sizeOf190
  v53:=Tryz.zeroValue190
  t57:=Tryz.underlying194
  a57:=Tryz.isAgg194
  z57:=Tryz.sizeOf194
  v57:=Tryz.zeroValue194
  t63:=Tryz.underlying201
  a63:=Tryz.isAgg201
  z63:=Tryz.sizeOf201
  v63:=Tryz.zeroValue201
  t64:=Tryz.underlying134
  a64:=Tryz.isAgg134
  z64:=Tryz.sizeOf134
  v64:=Tryz.zeroValue134 }
def laysKeysI_ren:Go.Shelf.Ren:=⟨fun|7=>66|10=>93|n=>n,fun|23=>75|26=>3|3=>80|28=>120|0=>0|27=>119|33=>152|4=>4|n=>n,fun|n=>n⟩
theorem laysKeysI:Go.Proofs.SlLaysZI.n7 Tryz.prog laysKeysI_ren:={
  mixed:=by kernel_rfl
  f7:=⟨Tryz.f66.name,by decide,Tryz.func66.trans (congrArg some (by kernel_rfl))⟩
  f10:=⟨Tryz.f93.name,by decide,Tryz.func93.trans (congrArg some (by kernel_rfl))⟩
  t0:=Tryz.underlying0
  a0:=Tryz.isAgg0
  z0:=Tryz.sizeOf0
  v0:=Tryz.zeroValue0
  t4:=Tryz.underlying4
  a4:=Tryz.isAgg4
  z4:=Tryz.sizeOf4
  v4:=Tryz.zeroValue4
  t23:=Tryz.underlying75
  a23:=Tryz.isAgg75
  z23:=Tryz.sizeOf75
  v23:=Tryz.zeroValue75
  t26:=Tryz.underlying3
  a26:=Tryz.isAgg3
  z26:=Tryz.sizeOf3
  v26:=Tryz.zeroValue3
  t27:=Tryz.underlying119
  a27:=Tryz.isAgg119
  z27:=Tryz.sizeOf119
  v27:=Tryz.zeroValue119
  t28:=Tryz.underlying120
  a28:=Tryz.isAgg120
  z28:=Tryz.sizeOf120
  v28:=Tryz.zeroValue120
  t33:=Tryz.underlying152
  a33:=Tryz.isAgg152
  z33:=Tryz.sizeOf152
  v33:=Tryz.zeroValue152 }
def laysSortedI_ren:Go.Shelf.Ren:=⟨fun|6=>65|8=>91|9=>92|11=>104|13=>106|12=>105|23=>125|24=>126|14=>116|15=>117|16=>118|17=>119|18=>120|19=>121|20=>122|21=>123|22=>124|25=>142|26=>143|27=>144|28=>145|29=>146|30=>147|31=>156|n=>n,fun|26=>3|28=>120|24=>66|0=>0|3=>3|37=>148|48=>177|50=>85|4=>4|40=>170|39=>169|45=>64|5=>5|9=>9|51=>190|55=>194|57=>201|58=>134|33=>152|n=>n,fun|n=>n⟩
theorem laysSortedI:Go.Proofs.SlLaysZI.n6 Tryz.prog laysSortedI_ren:={
  mixed:=by kernel_rfl
  f6:=⟨Tryz.f65.name,by decide,Tryz.func65.trans (congrArg some (by kernel_rfl))⟩
  f8:=⟨Tryz.f91.name,by decide,Tryz.func91.trans (congrArg some (by kernel_rfl))⟩
  f11:=⟨Tryz.f104.name,by decide,Tryz.func104.trans (congrArg some (by kernel_rfl))⟩
  t0:=Tryz.underlying0
  a0:=Tryz.isAgg0
  z0:=Tryz.sizeOf0
  v0:=Tryz.zeroValue0
  t24:=Tryz.underlying66
  a24:=Tryz.isAgg66
  z24:=Tryz.sizeOf66
  v24:=Tryz.zeroValue66
  t26:=Tryz.underlying3
  a26:=Tryz.isAgg3
  z26:=Tryz.sizeOf3
  v26:=Tryz.zeroValue3
  t28:=Tryz.underlying120
  a28:=Tryz.isAgg120
  z28:=Tryz.sizeOf120
  v28:=Tryz.zeroValue120
  i26:=by kernel_rfl }
def laysSortI_ren:Go.Shelf.Ren:=⟨fun|5=>92|8=>106|7=>105|19=>125|20=>126|10=>116|11=>117|12=>118|13=>119|14=>120|15=>121|16=>122|17=>123|18=>124|30=>142|31=>143|32=>144|33=>145|34=>146|35=>147|40=>156|n=>n,fun|23=>66|25=>3|3=>3|32=>148|22=>66|0=>0|44=>177|46=>85|4=>4|36=>170|35=>169|41=>64|5=>5|9=>9|53=>190|57=>194|63=>201|64=>134|n=>n,fun|n=>n⟩
theorem laysSortI:Go.Proofs.SlLaysM.n5 Tryz.prog laysSortI_ren:={
  mixed:=by kernel_rfl
  f5:=⟨Tryz.f92.name,by decide,Tryz.func92.trans (congrArg some (by kernel_rfl))⟩
  f7:=⟨Tryz.f105.name,by decide,Tryz.func105.trans (congrArg some (by kernel_rfl))⟩
  f8:=Tryz.func106.trans (congrArg some (by kernel_rfl))
  f10:=⟨Tryz.f116.name,by decide,Tryz.func116.trans (congrArg some (by kernel_rfl))⟩
  f11:=⟨Tryz.f117.name,by decide,Tryz.func117.trans (congrArg some (by kernel_rfl))⟩
  f12:=⟨Tryz.f118.name,by decide,Tryz.func118.trans (congrArg some (by kernel_rfl))⟩
  f13:=⟨Tryz.f119.name,by decide,Tryz.func119.trans (congrArg some (by kernel_rfl))⟩
  f14:=⟨Tryz.f120.name,by decide,Tryz.func120.trans (congrArg some (by kernel_rfl))⟩
  f15:=⟨Tryz.f121.name,by decide,Tryz.func121.trans (congrArg some (by kernel_rfl))⟩
  f16:=⟨Tryz.f122.name,by decide,Tryz.func122.trans (congrArg some (by kernel_rfl))⟩
  f17:=⟨Tryz.f123.name,by decide,Tryz.func123.trans (congrArg some (by kernel_rfl))⟩
  f18:=⟨Tryz.f124.name,by decide,Tryz.func124.trans (congrArg some (by kernel_rfl))⟩
  f19:=Tryz.func125.trans (congrArg some (by kernel_rfl))
  f20:=Tryz.func126.trans (congrArg some (by kernel_rfl))
  f30:=⟨Tryz.f142.name,by decide,Tryz.func142.trans (congrArg some (by kernel_rfl))⟩
  f31:=Tryz.func143.trans (congrArg some (by kernel_rfl))
  f32:=Tryz.func144.trans (congrArg some (by kernel_rfl))
  f33:=⟨Tryz.f145.name,by decide,Tryz.func145.trans (congrArg some (by kernel_rfl))⟩
  f34:=⟨Tryz.f146.name,by decide,Tryz.func146.trans (congrArg some (by kernel_rfl))⟩
  f35:=⟨Tryz.f147.name,by decide,Tryz.func147.trans (congrArg some (by kernel_rfl))⟩
  f40:=⟨Tryz.f156.name,by decide,Tryz.func156.trans (congrArg some (by kernel_rfl))⟩
  t0:=Tryz.underlying0
  a0:=Tryz.isAgg0
  z0:=Tryz.sizeOf0
  v0:=Tryz.zeroValue0
  t3:=Tryz.underlying3
  a3:=Tryz.isAgg3
  z3:=Tryz.sizeOf3
  v3:=Tryz.zeroValue3
  t4:=Tryz.underlying4
  a4:=Tryz.isAgg4
  z4:=Tryz.sizeOf4
  v4:=Tryz.zeroValue4
  t5:=Tryz.underlying5
  a5:=Tryz.isAgg5
  z5:=Tryz.sizeOf5
  v5:=Tryz.zeroValue5
  t9:=Tryz.underlying9
  a9:=Tryz.isAgg9
  z9:=Tryz.sizeOf9
  v9:=Tryz.zeroValue9
  t22:=Tryz.underlying66
  a22:=Tryz.isAgg66
  z22:=Tryz.sizeOf66
  v22:=Tryz.zeroValue66
  t23:=Tryz.underlying66
  a23:=Tryz.isAgg66
  z23:=Tryz.sizeOf66
  v23:=Tryz.zeroValue66
  t25:=Tryz.underlying3
  a25:=Tryz.isAgg3
  z25:=Tryz.sizeOf3
  v25:=Tryz.zeroValue3
  t32:=Tryz.underlying148
  a32:=Tryz.isAgg148
  z32:=Tryz.sizeOf148
  v32:=Tryz.zeroValue148
  t35:=Tryz.underlying169
  a35:=Tryz.isAgg169
  z35:=Tryz.sizeOf169
  v35:=Tryz.zeroValue169
  t36:=Tryz.underlying170
  a36:=Tryz.isAgg170
  z36:=Tryz.sizeOf170
  v36:=Tryz.zeroValue170
  t41:=Tryz.underlying64
  a41:=Tryz.isAgg64
  z41:=Tryz.sizeOf64
  v41:=Tryz.zeroValue64
  t44:=Tryz.underlying177
  a44:=Tryz.isAgg177
  z44:=Tryz.sizeOf177
  v44:=Tryz.zeroValue177
  t46:=Tryz.underlying85
  a46:=Tryz.isAgg85
  z46:=Tryz.sizeOf85
  v46:=Tryz.zeroValue85
  t53:=Tryz.underlying190
  a53:=Tryz.isAgg190
  z53:=Tryz.sizeOf190
  v53:=Tryz.zeroValue190
  t57:=Tryz.underlying194
  a57:=Tryz.isAgg194
  z57:=Tryz.sizeOf194
  v57:=Tryz.zeroValue194
  t63:=Tryz.underlying201
  a63:=Tryz.isAgg201
  z63:=Tryz.sizeOf201
  v63:=Tryz.zeroValue201
  t64:=Tryz.underlying134
  a64:=Tryz.isAgg134
  z64:=Tryz.sizeOf134
  v64:=Tryz.zeroValue134 }
def laysItoa_ren:Go.Shelf.Ren:=⟨fun|171=>87|243=>102|246=>111|283=>136|284=>137|285=>138|286=>139|129=>126|317=>152|318=>153|319=>154|320=>155|337=>158|338=>159|n=>n,fun|3=>3|9=>9|2=>2|4=>4|171=>184|0=>0|53=>85|37=>116|5=>5|173=>186|212=>199|51=>177|20=>20|213=>200|46=>148|232=>204|233=>205|n=>n,fun|17=>3|18=>4|19=>5|n=>n⟩
theorem laysItoa:Go.Proofs.LaysM.n171 Tryz.prog laysItoa_ren:={
  mixed:=by kernel_rfl
  f129:=Tryz.func126.trans (congrArg some (by kernel_rfl))
  f171:=Tryz.func87.trans (congrArg some (by kernel_rfl))
  f243:=Tryz.func102.trans (congrArg some (by kernel_rfl))
  f246:=Tryz.func111.trans (congrArg some (by kernel_rfl))
  f283:=Tryz.func136.trans (congrArg some (by kernel_rfl))
  f284:=Tryz.func137.trans (congrArg some (by kernel_rfl))
  f285:=Tryz.func138.trans (congrArg some (by kernel_rfl))
  f286:=Tryz.func139.trans (congrArg some (by kernel_rfl))
  f317:=Tryz.func152.trans (congrArg some (by kernel_rfl))
  f318:=Tryz.func153.trans (congrArg some (by kernel_rfl))
  f319:=Tryz.func154.trans (congrArg some (by kernel_rfl))
  f320:=Tryz.func155.trans (congrArg some (by kernel_rfl))
  f337:=Tryz.func158.trans (congrArg some (by kernel_rfl))
  f338:=Tryz.func159.trans (congrArg some (by kernel_rfl))
  t0:=Tryz.underlying0
  a0:=Tryz.isAgg0
  z0:=Tryz.sizeOf0
  v0:=Tryz.zeroValue0
  t2:=Tryz.underlying2
  a2:=Tryz.isAgg2
  z2:=Tryz.sizeOf2
  v2:=Tryz.zeroValue2
  t3:=Tryz.underlying3
  a3:=Tryz.isAgg3
  z3:=Tryz.sizeOf3
  v3:=Tryz.zeroValue3
  t4:=Tryz.underlying4
  a4:=Tryz.isAgg4
  z4:=Tryz.sizeOf4
  v4:=Tryz.zeroValue4
  t5:=Tryz.underlying5
  a5:=Tryz.isAgg5
  z5:=Tryz.sizeOf5
  v5:=Tryz.zeroValue5
  t9:=Tryz.underlying9
  a9:=Tryz.isAgg9
  z9:=Tryz.sizeOf9
  v9:=Tryz.zeroValue9
  t20:=Tryz.underlying20
  a20:=Tryz.isAgg20
  z20:=Tryz.sizeOf20
  v20:=Tryz.zeroValue20
  t37:=Tryz.underlying116
  a37:=Tryz.isAgg116
  z37:=Tryz.sizeOf116
  v37:=Tryz.zeroValue116
  t46:=Tryz.underlying148
  a46:=Tryz.isAgg148
  z46:=Tryz.sizeOf148
  v46:=Tryz.zeroValue148
  t51:=Tryz.underlying177
  a51:=Tryz.isAgg177
  z51:=Tryz.sizeOf177
  v51:=Tryz.zeroValue177
  t53:=Tryz.underlying85
  a53:=Tryz.isAgg85
  z53:=Tryz.sizeOf85
  v53:=Tryz.zeroValue85
  t171:=Tryz.underlying184
  a171:=Tryz.isAgg184
  z171:=Tryz.sizeOf184
  v171:=Tryz.zeroValue184
  t173:=Tryz.underlying186
  a173:=Tryz.isAgg186
  z173:=Tryz.sizeOf186
  v173:=Tryz.zeroValue186
  t212:=Tryz.underlying199
  a212:=Tryz.isAgg199
  z212:=Tryz.sizeOf199
  v212:=Tryz.zeroValue199
  t213:=Tryz.underlying200
  a213:=Tryz.isAgg200
  z213:=Tryz.sizeOf200
  t232:=Tryz.underlying204
  a232:=Tryz.isAgg204
  z232:=Tryz.sizeOf204
  v232:=Tryz.zeroValue204
  t233:=Tryz.underlying205
  a233:=Tryz.isAgg205
  z233:=Tryz.sizeOf205
  v233:=Tryz.zeroValue205
  g17:=by kernel_rfl
  g18:=by kernel_rfl
  g19:=by kernel_rfl
  i0:=by kernel_rfl
  i2:=by kernel_rfl
  i3:=by kernel_rfl
  i4:=by kernel_rfl
  i5:=by kernel_rfl
  i9:=by kernel_rfl
  i20:=by kernel_rfl
  i37:=by kernel_rfl
  i46:=by kernel_rfl
  i51:=by kernel_rfl
  i53:=by kernel_rfl
  i171:=by kernel_rfl
  i173:=by kernel_rfl
  i212:=by kernel_rfl
  i232:=by kernel_rfl
  i233:=by kernel_rfl
  m17:=by kernel_rfl
  m18:=by kernel_rfl
  m19:=by kernel_rfl }
def laysCount_ren:Go.Shelf.Ren:=⟨fun|138=>64|195=>88|218=>89|143=>90|219=>103|217=>112|225=>113|224=>114|267=>115|266=>140|314=>141|n=>n,fun|9=>9|3=>3|4=>4|5=>5|0=>0|46=>148|146=>188|51=>177|n=>n,fun|1=>2|n=>n⟩
theorem laysCount:Go.Proofs.Lays.n138 Tryz.prog laysCount_ren:={
  mixed:=by kernel_rfl
  f138:=Tryz.func64.trans (congrArg some (by kernel_rfl))
  f143:=Tryz.func90.trans (congrArg some (by kernel_rfl))
  f195:=Tryz.func88.trans (congrArg some (by kernel_rfl))
  f217:=Tryz.func112.trans (congrArg some (by kernel_rfl))
  f218:=Tryz.func89.trans (congrArg some (by kernel_rfl))
  f219:=Tryz.func103.trans (congrArg some (by kernel_rfl))
  f224:=Tryz.func114.trans (congrArg some (by kernel_rfl))
  f225:=Tryz.func113.trans (congrArg some (by kernel_rfl))
  f266:=Tryz.func140.trans (congrArg some (by kernel_rfl))
  f267:=Tryz.func115.trans (congrArg some (by kernel_rfl))
  f314:=Tryz.func141.trans (congrArg some (by kernel_rfl))
  t0:=Tryz.underlying0
  a0:=Tryz.isAgg0
  z0:=Tryz.sizeOf0
  v0:=Tryz.zeroValue0
  t3:=Tryz.underlying3
  a3:=Tryz.isAgg3
  z3:=Tryz.sizeOf3
  v3:=Tryz.zeroValue3
  t4:=Tryz.underlying4
  a4:=Tryz.isAgg4
  z4:=Tryz.sizeOf4
  v4:=Tryz.zeroValue4
  t5:=Tryz.underlying5
  a5:=Tryz.isAgg5
  z5:=Tryz.sizeOf5
  v5:=Tryz.zeroValue5
  t9:=Tryz.underlying9
  a9:=Tryz.isAgg9
  z9:=Tryz.sizeOf9
  v9:=Tryz.zeroValue9
  t46:=Tryz.underlying148
  a46:=Tryz.isAgg148
  z46:=Tryz.sizeOf148
  v46:=Tryz.zeroValue148
  t51:=Tryz.underlying177
  a51:=Tryz.isAgg177
  z51:=Tryz.sizeOf177
  v51:=Tryz.zeroValue177
  t146:=Tryz.underlying188
  a146:=Tryz.isAgg188
  z146:=Tryz.sizeOf188
  v146:=Tryz.zeroValue188
  g1:=by kernel_rfl }
def laysValid_ren:Go.Shelf.Ren:=⟨fun|196=>61|259=>86|n=>n,fun|9=>9|4=>4|3=>3|5=>5|12=>12|119=>144|0=>0|46=>148|139=>147|138=>146|53=>85|n=>n,fun|3=>0|4=>1|n=>n⟩
theorem laysValid:Go.Proofs.Lays.n196 Tryz.prog laysValid_ren:={
  mixed:=by kernel_rfl
  f196:=Tryz.func61.trans (congrArg some (by kernel_rfl))
  f259:=Tryz.func86.trans (congrArg some (by kernel_rfl))
  t0:=Tryz.underlying0
  a0:=Tryz.isAgg0
  z0:=Tryz.sizeOf0
  v0:=Tryz.zeroValue0
  t3:=Tryz.underlying3
  a3:=Tryz.isAgg3
  z3:=Tryz.sizeOf3
  v3:=Tryz.zeroValue3
  t4:=Tryz.underlying4
  a4:=Tryz.isAgg4
  z4:=Tryz.sizeOf4
  v4:=Tryz.zeroValue4
  t5:=Tryz.underlying5
  a5:=Tryz.isAgg5
  z5:=Tryz.sizeOf5
  v5:=Tryz.zeroValue5
  t9:=Tryz.underlying9
  a9:=Tryz.isAgg9
  z9:=Tryz.sizeOf9
  v9:=Tryz.zeroValue9
  t12:=Tryz.underlying12
  a12:=Tryz.isAgg12
  z12:=Tryz.sizeOf12
  v12:=Tryz.zeroValue12
  t46:=Tryz.underlying148
  a46:=Tryz.isAgg148
  z46:=Tryz.sizeOf148
  v46:=Tryz.zeroValue148
  t53:=Tryz.underlying85
  a53:=Tryz.isAgg85
  z53:=Tryz.sizeOf85
  v53:=Tryz.zeroValue85
  t119:=Tryz.underlying144
  a119:=Tryz.isAgg144
  z119:=Tryz.sizeOf144
  t138:=Tryz.underlying146
  a138:=Tryz.isAgg146
  z138:=Tryz.sizeOf146
  v138:=Tryz.zeroValue146
  t139:=Tryz.underlying147
  a139:=Tryz.isAgg147
  z139:=Tryz.sizeOf147
  v139:=Tryz.zeroValue147
  g3:=by kernel_rfl
  g4:=by kernel_rfl }
end Go.Proofs.hq
end

section
namespace Go.Proofs.hq
open Go Go.RowKit Go.Hb Go.Shelf Go.Proofs
theorem zns:Tryz.prog.follows .mixedOrders=true:=by kernel_rfl
theorem zky:((Zj Tryz.prog.funcs.size).all fun f=>!(2 ^ 195 - 1).testBit f || okFn Tryz.prog f)=true:=by kernel_rfl
theorem fewT:Tryz.prog.globals.size≤64:=of_decide_eq_true (by kernel_rfl)
theorem zmn:retTrue (dcall Tryz.prog (okVal (2 ^ 195 - 1) 61) 1000000 6 [] ⟨64,.nil⟩)=true:=by kernel_rfl
def TabsF (W:World):Prop:=Lib.Utf8Tabs (laysValid_ren.g 3) (laysValid_ren.g 4) W∧Lib.TabIs Tryz.prog W "internal/strconv.uint64pow10" .u64 Lib.pow10Tab
theorem zqv {W:World}(h:Lib.VarReads Tryz.prog W "internal/strconv.uint64pow10" (Lib.tabData .u64 Lib.pow10Tab)):Lib.TabIs Tryz.prog W "internal/strconv.uint64pow10" .u64 Lib.pow10Tab:=by
 obtain⟨g,t,cs,fuel,p,hg,ht,hvar,hd⟩:=h;unfold Lib.TabIs;rw[hvar];have hg':Tryz.prog.globalNamed "internal/strconv.uint64pow10" = some 3:=by kernel_rfl
 obtain rfl:=Option.some.inj (hg'.symm.trans hg);have hty:(Tryz.prog.globals[3]?).map (·.type)=some 199:=by kernel_rfl
 obtain rfl:=Option.some.inj (hty.symm.trans ht);rw[←Lib.cells_of_tab (n:=20) (e:=85) Tryz.underlying199 Tryz.underlying85 (by kernel_rfl) (by kernel_rfl) hd]
theorem zaq {w0:World}(hT:TabsF w0) (s:ByteArray) (w:World) (hs:s.size≤9223372036854775807) (hB:Below w0.heap.size w0 w) :
  Calls Tryz.prog 61 #[.string s] w fun e w'=>e=.returned (.bool (Lib.validD s.data.toList))∧Below w.heap.size w w' :=
 Any.utf8_ValidString laysValid s w hs (Utf8Tabs_below hT.1 hB)
theorem zhz {w0:World}(hT:TabsF w0) (w:World) (hB:Below w0.heap.size w0 w):Calls Tryz.prog 6 #[] w fun e w'=>e=.returned (.bool true)∧Below w.heap.size w w' :=
 zem (τ:=fun _=>.bool true) (fun _=>rfl) zns w (zkr zky fun s w' hs hB'=>zaq hT s w' hs (hB.trans (hB'.mono hB.size))) fewT zmn ⟨rfl,fun i v v' h=>by simp at h⟩
theorem zkz {w0:World}(hT:TabsF w0) (n:Int) (h0:-9223372036854775808≤n) (h1:n≤9223372036854775807) (w:World) (hB:Below w0.heap.size w0 w) :
  Calls Tryz.prog 87 #[.int .i64 n] w fun e w'=>e=.returned (.string (itoaB n))∧Below w.heap.size w w' :=
 (Any.strconv_Itoa laysItoa n h0 h1 w (Lib.tabBelow_of_tabIs hT.2 w hB)).mono (by rintro e w' ⟨rfl,k,os,rfl⟩;exact⟨rfl,Lib.below_grow _ w (Ze _) k os⟩)
theorem zi0 (s:ByteArray) (c:UInt8) (w:World):Calls Tryz.prog 64 #[.string s,.string ⟨#[c]⟩] w fun e w'=>e=.returned (.int .i64 (Lib.countByte s.data.toList c))∧Below w.heap.size w w' :=
 (Any.strings_Count_one laysCount s c w).mono (by rintro e w' ⟨rfl,rfl⟩;exact⟨rfl,Below.refl _ _⟩)
theorem zqc (m:Nat):AnyZ.SortsIn Tryz.prog laysSorted_ren Fence.wide m :=
 ⟨fun blk off cap ss W hH hblk hsz=>callsIn_wide.2 (AnyM.slices_Sort_string laysSort blk off cap ss W hH hblk hsz),fun p cap W=>callsIn_wide.2 (AnyM.slices_Sort_string_none laysSort p cap W)⟩
theorem zeo:SortedCalls Tryz.prog 67 96 9:=fun w c b nn D0 hc hm hown hmax hbytes =>
 (callsIn_wide (n:=6)).1 (AnyZ.sorted_in laysSorted Fence.wide 6 trivial trivial trivial trivial rfl (by omega) (zqc _) (enters_of Tryz.func95 (by kernel_rfl) rfl) 96 #[.pointer (some ⟨c,0,none⟩)] trivial
  (enters_of Tryz.func96 (by kernel_rfl) rfl) _ _ hmax hbytes _ (AnyZ.keys_gives (ρ:=laysKeys_ren) { laysKeys with } Fence.wide _ trivial rfl (by omega) c b nn D0 w hc hm hown))
theorem zp4 (m:Nat):AnyZI.SortsIn Tryz.prog laysSortedI_ren Fence.wide m :=
 ⟨fun blk off cap ss W hH hblk hsz=>callsIn_wide.2 (AnyM.slices_Sort_int laysSortI blk off cap ss W hH hblk hsz),fun p cap W=>callsIn_wide.2 (AnyM.slices_Sort_int_none laysSortI p cap W)⟩
theorem zdi:SortedCallsI Tryz.prog 65 93 3:=fun w c b nn D0 hc hm hown hmax hbytes =>
 (callsIn_wide (n:=6)).1 (AnyZI.sorted_in laysSortedI Fence.wide 6 trivial trivial trivial trivial rfl (by omega) (zp4 _) (enters_of Tryz.func92 (by kernel_rfl) rfl) 93 #[.pointer (some ⟨c,0,none⟩)] trivial
  (enters_of Tryz.func93 (by kernel_rfl) rfl) _ _ hmax hbytes _ (AnyZI.keys_gives (ρ:=laysKeysI_ren) { laysKeysI with } Fence.wide _ trivial rfl (by omega) c b nn D0 w hc hm hown))
theorem zmo {W:World}(hT:TabsF W):OkFns Tryz.prog W.heap.size W okT:=by
 have hL:∀p∈[(6,knAw),(61,knValid),(87,knItoa),(64,knCount)],∀args v,p.2 args=some v→flat v=true∧flatL args=true∧∀w,Below W.heap.size W w→Calls Tryz.prog p.1 args.toArray w fun e w'=>e=.returned v∧Below w.heap.size w w':=by
  intro p hp args v hv;simp only[List.mem_cons,List.not_mem_nil,or_false] at hp;rcases hp with rfl|rfl|rfl|rfl
  ·simp only[knAw] at hv;split at hv
   ·cases hv;exact⟨rfl,rfl,fun w hB=>zhz hT w hB⟩
   ·cases hv
  ·simp only[knValid] at hv;split at hv
   ·split at hv
    ·rename_i s hs;cases hv;exact⟨rfl,rfl,fun w hB=>zaq hT s w hs hB⟩
    ·cases hv
   ·cases hv
  ·simp only[knItoa] at hv;split at hv
   ·split at hv
    ·rename_i n hn;cases hv;exact⟨rfl,rfl,fun w hB=>zkz hT n hn.1 hn.2 w hB⟩
    ·cases hv
   ·cases hv
  ·simp only[knCount] at hv;split at hv
   ·rename_i s c;cases hv;exact⟨rfl,rfl,fun w hB=>zi0 s c w⟩
   ·cases hv
 have hf:=zli (N:=W.heap.size) (w0:=W) zky hL;refine⟨z6s zky,fun τ f args args' H en H' w σ hτ hk hl hH hG=>?_⟩;simp only[okT,okKs3] at hk;split at hk
 ·rename_i hfs;have hfe:f=65:=by simpa using hfs
  subst hfe;exact zdh zdi (by kernel_rfl) Tryz.underlying3 hk hl hH
 split at hk
 ·rename_i hfs;have hfe:f=67:=by simpa using hfs
  subst hfe;exact zen zeo (by kernel_rfl) Tryz.underlying9 hk hl hH
 ·exact hf.2 τ f args args' H en H' w σ hτ hk hl hH hG
theorem zmp {W:World}{f:FuncId}{args:Array Value}(hT:TabsF W) (h:EvF Tryz.prog okT f (args.toList.map (abV Tryz.prog W)) (heapW Tryz.prog W) fun v _=>v=.bool true) :
  Calls Tryz.prog f args W fun e W'=>e=.returned (.bool true)∧Below W.heap.size W W' :=
 ze0 zns (zmo hT) h
end Go.Proofs.hq
end
