import Derived.Test.YtbooidfibigfcaaGreatDoorM2
import Derived.Test.YtbooidfibigfcaaGreatDoorProg
import Derived.KernelRfl
import Derived.Test.YtbooidfibigfcaaGreatDoorM7
/- Lemmas on the program's own code, towards the laws of this folder, part 8. Conditions: as each lemma says. -/
section
namespace Go.Proofs.hq
open Go Go.RowKit Go.Hb
theorem znx:retTrue ((frun Tryz.prog (Ok.run (2 ^ 134 - 1)) 1000000).call 4 [] ⟨64,.nil⟩)=true:=by kernel_rfl
theorem zpt:retTrue (dcall Tryz.prog (Ok.run (2 ^ 134 - 1)) 1000000 4 [] ⟨64,.nil⟩)=true:=by
 have h:=znx;rw[zkr] at h;exact h
end Go.Proofs.hq
end
