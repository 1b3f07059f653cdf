/-
  NARROWER THAN 'FOR EVERY INPUT', by the rows' own cells (each row's printed sentence says how): TermNames: laid · TermChecks: loops, laid · TermOrders: loops, laid · TermOneOrder: loops, laid · TermLists: loops, laid · TermVars: loops, laid · TermPuts: loops, laid · TermSorts: loops, laid · TermBack: loops, laid.
  DERIVED. THE GIVEN ROWS OF THIS SEAT. 9 by the template 'for every input the law returns true; each argument reads behind the call as it read before'; 0 by the template 'total and deterministic' (their statements: YtlllbkjiadcloaaDoorTotals.lean).
  GIVEN WITH THE SEED: the statements are not yours to turn. If you find one false, say at which input.
  Laid BY PROGRAM, IN A SANDBOX (cutbox-rows.mjs): the forced cells as the released guide's own fill.sh prints them over the translation a6d361fbc6f1355f… (all of the seat's roots in one cut). By AI agents, Wed Nov 11 2026. No macro, syntax, notation, axiom, sorry.
-/
import Derived.Test.YtlllbkjiadcloaaDoorChecked
import GoSem.PinnedTables
import GoSem.Claim
import GoSem.ClaimJoined
import GoSem.ClaimMapViews
import Derived.JoinedTies
import Derived.KernelRfl
namespace Go.Proofs.YtlllbkjiadcloaaDoor
/- THE CELL 'sum', in the pinned program and in every row, IS THE sha256 OF THE DUMP (.gsa) THAT YtlllbkjiadcloaaDoorProg.lean LOADS. Nothing in Lean hashes anything: it is a label: what it is worth is what the hold of that sum in a sandbox is worth. -/
noncomputable def Tryd.pinned : Pinned := { name := "ytlllbkjiadcloaadoor", sum := "a6d361fbc6f1355fc8bfb23868b5547aa1a52b23433d21dd9df753803befe494", checked := Tryd.checked }
namespace Rows
def none {H : Type} : Left H := { results := [], args := [] }

/- WHAT THE LISTED PACKAGE-LEVEL VARIABLES READ AS WHEN THE CALL BEGINS. Each datum BY PROGRAM (the guide's laid-datum.mjs) off the statement by which the dump's own 'gosem.cut.vars' lays the variable. In a bare row this is a premise. The card (YtlllbkjiadcloaaDoorCards.lean) ties it to the program's text. -/
def laid_unicode_utf8_acceptRanges {H : Type} : DataW H := .agg [.agg [.lit (.int .u8 128), .lit (.int .u8 191)], .agg [.lit (.int .u8 160), .lit (.int .u8 191)], .agg [.lit (.int .u8 128), .lit (.int .u8 159)], .agg [.lit (.int .u8 144), .lit (.int .u8 191)], .agg [.lit (.int .u8 128), .lit (.int .u8 143)], .agg [.lit (.int .u8 0), .lit (.int .u8 0)], .agg [.lit (.int .u8 0), .lit (.int .u8 0)], .agg [.lit (.int .u8 0), .lit (.int .u8 0)], .agg [.lit (.int .u8 0), .lit (.int .u8 0)], .agg [.lit (.int .u8 0), .lit (.int .u8 0)], .agg [.lit (.int .u8 0), .lit (.int .u8 0)], .agg [.lit (.int .u8 0), .lit (.int .u8 0)], .agg [.lit (.int .u8 0), .lit (.int .u8 0)], .agg [.lit (.int .u8 0), .lit (.int .u8 0)], .agg [.lit (.int .u8 0), .lit (.int .u8 0)], .agg [.lit (.int .u8 0), .lit (.int .u8 0)]]
/-- One of Go's own tables, pinned by name: the form's constant. -/
def laid_unicode_utf8_first : DataW Unit := Go.Pinned.utf8First

/-- 'hornbeamlaw02.TermNames': WHATEVER THE INPUT: true; the input reads as it did. -/
def termNamesSpec : ChangeSpec := { name := "termNames", fn := fun _ => fun
  | [] => { results := [.lit (.bool true)], args := [] }
  | _ => none }
def termNamesRow : OpenClaim := { program := "ytlllbkjiadcloaadoor", sum := "a6d361fbc6f1355fc8bfb23868b5547aa1a52b23433d21dd9df753803befe494", func := "hornbeam/hornbeamlaw02.TermNames", spec := "termNames", inPlace := ["math.Float64frombits", "math.Float64bits"], unfollowed := true, recurses := true, named := ["unicode/utf8.first", "unicode/utf8.acceptRanges", "math/bits.overflowError"], apart := false, laid := [("unicode/utf8.acceptRanges", laid_unicode_utf8_acceptRanges), ("unicode/utf8.first", laid_unicode_utf8_first)] }
def TermNamesSaid : Prop := termNamesRow.holds Tryd.pinned (OpenSpec.ofChange termNamesSpec)

/-- ITS FALSE NEIGHBOUR: 'it returns false'. Refute it at one input. -/
def termNamesWrong : ChangeSpec := { name := "termNames", fn := fun _ => fun
  | [] => { results := [.lit (.bool false)], args := [] }
  | _ => none }
def TermNamesWrongFalsely : Prop := termNamesRow.holds Tryd.pinned (OpenSpec.ofChange termNamesWrong)

/-- 'hornbeamlaw02.TermChecks': WHATEVER THE INPUT: true; the input reads as it did. -/
def termChecksSpec : ChangeSpec := { name := "termChecks", fn := fun _ => fun
  | [d] => { results := [.lit (.bool true)], args := [d] }
  | _ => none }
def termChecksRow : OpenClaim := { program := "ytlllbkjiadcloaadoor", sum := "a6d361fbc6f1355fc8bfb23868b5547aa1a52b23433d21dd9df753803befe494", func := "hornbeam/hornbeamlaw02.TermChecks", spec := "termChecks", inPlace := ["math.Float64frombits", "math.Float64bits"], unfollowed := true, recurses := true, named := ["unicode/utf8.first", "unicode/utf8.acceptRanges", "math/bits.overflowError"], loops := true, apart := false, laid := [("unicode/utf8.acceptRanges", laid_unicode_utf8_acceptRanges), ("unicode/utf8.first", laid_unicode_utf8_first)] }
def TermChecksSaid : Prop := termChecksRow.holds Tryd.pinned (OpenSpec.ofChange termChecksSpec)

/-- ITS FALSE NEIGHBOUR: 'it returns false'. Refute it at one input. -/
def termChecksWrong : ChangeSpec := { name := "termChecks", fn := fun _ => fun
  | [d] => { results := [.lit (.bool false)], args := [d] }
  | _ => none }
def TermChecksWrongFalsely : Prop := termChecksRow.holds Tryd.pinned (OpenSpec.ofChange termChecksWrong)

/-- 'hornbeamlaw02.TermOrders': WHATEVER THE INPUT: true; the input reads as it did. -/
def termOrdersSpec : ChangeSpec := { name := "termOrders", fn := fun _ => fun
  | [d1, d2] => { results := [.lit (.bool true)], args := [d1, d2] }
  | _ => none }
def termOrdersRow : OpenClaim := { program := "ytlllbkjiadcloaadoor", sum := "a6d361fbc6f1355fc8bfb23868b5547aa1a52b23433d21dd9df753803befe494", func := "hornbeam/hornbeamlaw02.TermOrders", spec := "termOrders", inPlace := ["math.Float64frombits", "math.Float64bits"], unfollowed := true, recurses := true, named := ["unicode/utf8.first", "unicode/utf8.acceptRanges", "math/bits.overflowError"], loops := true, apart := false, laid := [("unicode/utf8.acceptRanges", laid_unicode_utf8_acceptRanges), ("unicode/utf8.first", laid_unicode_utf8_first)] }
def TermOrdersSaid : Prop := termOrdersRow.holds Tryd.pinned (OpenSpec.ofChange termOrdersSpec)

/-- ITS FALSE NEIGHBOUR: 'it returns false'. Refute it at one input. -/
def termOrdersWrong : ChangeSpec := { name := "termOrders", fn := fun _ => fun
  | [d1, d2] => { results := [.lit (.bool false)], args := [d1, d2] }
  | _ => none }
def TermOrdersWrongFalsely : Prop := termOrdersRow.holds Tryd.pinned (OpenSpec.ofChange termOrdersWrong)

/-- 'hornbeamlaw02.TermOneOrder': WHATEVER THE INPUT: true; the input reads as it did. -/
def termOneOrderSpec : ChangeSpec := { name := "termOneOrder", fn := fun _ => fun
  | [d1, d2, d3] => { results := [.lit (.bool true)], args := [d1, d2, d3] }
  | _ => none }
def termOneOrderRow : OpenClaim := { program := "ytlllbkjiadcloaadoor", sum := "a6d361fbc6f1355fc8bfb23868b5547aa1a52b23433d21dd9df753803befe494", func := "hornbeam/hornbeamlaw02.TermOneOrder", spec := "termOneOrder", inPlace := ["math.Float64frombits", "math.Float64bits"], unfollowed := true, recurses := true, named := ["unicode/utf8.first", "unicode/utf8.acceptRanges", "math/bits.overflowError"], loops := true, apart := false, laid := [("unicode/utf8.acceptRanges", laid_unicode_utf8_acceptRanges), ("unicode/utf8.first", laid_unicode_utf8_first)] }
def TermOneOrderSaid : Prop := termOneOrderRow.holds Tryd.pinned (OpenSpec.ofChange termOneOrderSpec)

/-- ITS FALSE NEIGHBOUR: 'it returns false'. Refute it at one input. -/
def termOneOrderWrong : ChangeSpec := { name := "termOneOrder", fn := fun _ => fun
  | [d1, d2, d3] => { results := [.lit (.bool false)], args := [d1, d2, d3] }
  | _ => none }
def TermOneOrderWrongFalsely : Prop := termOneOrderRow.holds Tryd.pinned (OpenSpec.ofChange termOneOrderWrong)

/-- 'hornbeamlaw02.TermLists': WHATEVER THE INPUT: true; the input reads as it did. -/
def termListsSpec : ChangeSpec := { name := "termLists", fn := fun _ => fun
  | [d1, d2] => { results := [.lit (.bool true)], args := [d1, d2] }
  | _ => none }
def termListsRow : OpenClaim := { program := "ytlllbkjiadcloaadoor", sum := "a6d361fbc6f1355fc8bfb23868b5547aa1a52b23433d21dd9df753803befe494", func := "hornbeam/hornbeamlaw02.TermLists", spec := "termLists", inPlace := ["math.Float64frombits", "math.Float64bits"], unfollowed := true, recurses := true, named := ["unicode/utf8.first", "unicode/utf8.acceptRanges", "math/bits.overflowError"], loops := true, apart := false, laid := [("unicode/utf8.acceptRanges", laid_unicode_utf8_acceptRanges), ("unicode/utf8.first", laid_unicode_utf8_first)] }
def TermListsSaid : Prop := termListsRow.holds Tryd.pinned (OpenSpec.ofChange termListsSpec)

/-- ITS FALSE NEIGHBOUR: 'it returns false'. Refute it at one input. -/
def termListsWrong : ChangeSpec := { name := "termLists", fn := fun _ => fun
  | [d1, d2] => { results := [.lit (.bool false)], args := [d1, d2] }
  | _ => none }
def TermListsWrongFalsely : Prop := termListsRow.holds Tryd.pinned (OpenSpec.ofChange termListsWrong)

/-- 'hornbeamlaw02.TermVars': WHATEVER THE INPUT: true; the input reads as it did. -/
def termVarsSpec : ChangeSpec := { name := "termVars", fn := fun _ => fun
  | [d] => { results := [.lit (.bool true)], args := [d] }
  | _ => none }
def termVarsRow : OpenClaim := { program := "ytlllbkjiadcloaadoor", sum := "a6d361fbc6f1355fc8bfb23868b5547aa1a52b23433d21dd9df753803befe494", func := "hornbeam/hornbeamlaw02.TermVars", spec := "termVars", inPlace := ["math.Float64frombits", "math.Float64bits"], unfollowed := true, recurses := true, named := ["unicode/utf8.first", "unicode/utf8.acceptRanges", "math/bits.overflowError"], loops := true, apart := false, laid := [("unicode/utf8.acceptRanges", laid_unicode_utf8_acceptRanges), ("unicode/utf8.first", laid_unicode_utf8_first)] }
def TermVarsSaid : Prop := termVarsRow.holds Tryd.pinned (OpenSpec.ofChange termVarsSpec)

/-- ITS FALSE NEIGHBOUR: 'it returns false'. Refute it at one input. -/
def termVarsWrong : ChangeSpec := { name := "termVars", fn := fun _ => fun
  | [d] => { results := [.lit (.bool false)], args := [d] }
  | _ => none }
def TermVarsWrongFalsely : Prop := termVarsRow.holds Tryd.pinned (OpenSpec.ofChange termVarsWrong)

/-- 'hornbeamlaw02.TermPuts': WHATEVER THE INPUT: true; the input reads as it did. -/
def termPutsSpec : ChangeSpec := { name := "termPuts", fn := fun _ => fun
  | [d1, d2] => { results := [.lit (.bool true)], args := [d1, d2] }
  | _ => none }
def termPutsRow : OpenClaim := { program := "ytlllbkjiadcloaadoor", sum := "a6d361fbc6f1355fc8bfb23868b5547aa1a52b23433d21dd9df753803befe494", func := "hornbeam/hornbeamlaw02.TermPuts", spec := "termPuts", inPlace := ["math.Float64frombits", "math.Float64bits"], unfollowed := true, recurses := true, named := ["unicode/utf8.first", "unicode/utf8.acceptRanges", "math/bits.overflowError"], loops := true, apart := false, laid := [("unicode/utf8.acceptRanges", laid_unicode_utf8_acceptRanges), ("unicode/utf8.first", laid_unicode_utf8_first)] }
def TermPutsSaid : Prop := termPutsRow.holds Tryd.pinned (OpenSpec.ofChange termPutsSpec)

/-- ITS FALSE NEIGHBOUR: 'it returns false'. Refute it at one input. -/
def termPutsWrong : ChangeSpec := { name := "termPuts", fn := fun _ => fun
  | [d1, d2] => { results := [.lit (.bool false)], args := [d1, d2] }
  | _ => none }
def TermPutsWrongFalsely : Prop := termPutsRow.holds Tryd.pinned (OpenSpec.ofChange termPutsWrong)

/-- 'hornbeamlaw02.TermSorts': WHATEVER THE INPUT: true; the input reads as it did. -/
def termSortsSpec : ChangeSpec := { name := "termSorts", fn := fun _ => fun
  | [d1, d2] => { results := [.lit (.bool true)], args := [d1, d2] }
  | _ => none }
def termSortsRow : OpenClaim := { program := "ytlllbkjiadcloaadoor", sum := "a6d361fbc6f1355fc8bfb23868b5547aa1a52b23433d21dd9df753803befe494", func := "hornbeam/hornbeamlaw02.TermSorts", spec := "termSorts", inPlace := ["math.Float64frombits", "math.Float64bits"], unfollowed := true, recurses := true, named := ["unicode/utf8.first", "unicode/utf8.acceptRanges", "math/bits.overflowError"], loops := true, apart := false, laid := [("unicode/utf8.acceptRanges", laid_unicode_utf8_acceptRanges), ("unicode/utf8.first", laid_unicode_utf8_first)] }
def TermSortsSaid : Prop := termSortsRow.holds Tryd.pinned (OpenSpec.ofChange termSortsSpec)

/-- ITS FALSE NEIGHBOUR: 'it returns false'. Refute it at one input. -/
def termSortsWrong : ChangeSpec := { name := "termSorts", fn := fun _ => fun
  | [d1, d2] => { results := [.lit (.bool false)], args := [d1, d2] }
  | _ => none }
def TermSortsWrongFalsely : Prop := termSortsRow.holds Tryd.pinned (OpenSpec.ofChange termSortsWrong)

/-- 'hornbeamlaw02.TermBack': WHATEVER THE INPUT: true; the input reads as it did. -/
def termBackSpec : ChangeSpec := { name := "termBack", fn := fun _ => fun
  | [d1, d2, d3] => { results := [.lit (.bool true)], args := [d1, d2, d3] }
  | _ => none }
def termBackRow : OpenClaim := { program := "ytlllbkjiadcloaadoor", sum := "a6d361fbc6f1355fc8bfb23868b5547aa1a52b23433d21dd9df753803befe494", func := "hornbeam/hornbeamlaw02.TermBack", spec := "termBack", inPlace := ["math.Float64frombits", "math.Float64bits"], unfollowed := true, recurses := true, named := ["unicode/utf8.first", "unicode/utf8.acceptRanges", "math/bits.overflowError"], loops := true, apart := false, laid := [("unicode/utf8.acceptRanges", laid_unicode_utf8_acceptRanges), ("unicode/utf8.first", laid_unicode_utf8_first)] }
def TermBackSaid : Prop := termBackRow.holds Tryd.pinned (OpenSpec.ofChange termBackSpec)

/-- ITS FALSE NEIGHBOUR: 'it returns false'. Refute it at one input. -/
def termBackWrong : ChangeSpec := { name := "termBack", fn := fun _ => fun
  | [d1, d2, d3] => { results := [.lit (.bool false)], args := [d1, d2, d3] }
  | _ => none }
def TermBackWrongFalsely : Prop := termBackRow.holds Tryd.pinned (OpenSpec.ofChange termBackWrong)

/- THE SECOND FORM. 'bulk': how many values and letters a reading holds, each counted each time it is reached (what is shared counts as often as it is met; a slice's spare places count too). A statement '..UptoSaid' is the law's where the arguments, and the package variables that the reading takes, are together of bulk at most 1048576: NARROWER than '..Said'. Prove '..Said' where nothing that the law and all that it calls make is longer than what came in: it says more and counts as full. Else prove '..UptoSaid'. A law counts once. -/
mutual
def uptoBulk {H : Type} : DataW H → Nat
  | .lit (.string bytes) => bytes.length + 1
  | .lit _ => 1
  | .nil => 1
  | .ptr d => uptoBulk d + 1
  | .slice elems spare => uptoBulkAll elems + uptoBulkAll spare + 1
  | .agg parts => uptoBulkAll parts + 1
  | .iface _ d => uptoBulk d + 1
  | .map entries => uptoBulkEntries entries + 1
  | .held _ => 1
def uptoBulkAll {H : Type} : List (DataW H) → Nat
  | [] => 0
  | d :: r => uptoBulk d + uptoBulkAll r
def uptoBulkEntries {H : Type} : List (Lit × DataW H) → Nat
  | [] => 0
  | x :: r => uptoBulkEntry x + uptoBulkEntries r
def uptoBulkEntry {H : Type} : Lit × DataW H → Nat
  | (.string bytes, d) => bytes.length + uptoBulk d + 1
  | (_, d) => uptoBulk d + 1
 end
def uptoSmall : (H : Type) → List (DataW H) → Bool := fun _ ds => decide (uptoBulkAll ds ≤ 1048576)
def OpenSpec.upto (s : _root_.Go.ChangeSpec) : _root_.Go.OpenSpec := { _root_.Go.OpenSpec.ofChange s with cond := some uptoSmall }

/-- 'hornbeamlaw02.TermNames', WHERE WHAT IT READS IS OF BULK AT MOST 1048576: true; the input reads as it did. -/
def termNamesUptoRow : OpenClaim := { program := "ytlllbkjiadcloaadoor", sum := "a6d361fbc6f1355fc8bfb23868b5547aa1a52b23433d21dd9df753803befe494", func := "hornbeam/hornbeamlaw02.TermNames", spec := "termNames", inPlace := ["math.Float64frombits", "math.Float64bits"], unfollowed := true, recurses := true, named := ["unicode/utf8.first", "unicode/utf8.acceptRanges", "math/bits.overflowError"], apart := false, laid := [("unicode/utf8.acceptRanges", laid_unicode_utf8_acceptRanges), ("unicode/utf8.first", laid_unicode_utf8_first)], narrowed := true }
def TermNamesUptoSaid : Prop := termNamesUptoRow.holds Tryd.pinned (OpenSpec.upto termNamesSpec)

/-- 'hornbeamlaw02.TermChecks', WHERE WHAT IT READS IS OF BULK AT MOST 1048576: true; the input reads as it did. -/
def termChecksUptoRow : OpenClaim := { program := "ytlllbkjiadcloaadoor", sum := "a6d361fbc6f1355fc8bfb23868b5547aa1a52b23433d21dd9df753803befe494", func := "hornbeam/hornbeamlaw02.TermChecks", spec := "termChecks", inPlace := ["math.Float64frombits", "math.Float64bits"], unfollowed := true, recurses := true, named := ["unicode/utf8.first", "unicode/utf8.acceptRanges", "math/bits.overflowError"], loops := true, apart := false, laid := [("unicode/utf8.acceptRanges", laid_unicode_utf8_acceptRanges), ("unicode/utf8.first", laid_unicode_utf8_first)], narrowed := true }
def TermChecksUptoSaid : Prop := termChecksUptoRow.holds Tryd.pinned (OpenSpec.upto termChecksSpec)

/-- 'hornbeamlaw02.TermOrders', WHERE WHAT IT READS IS OF BULK AT MOST 1048576: true; the input reads as it did. -/
def termOrdersUptoRow : OpenClaim := { program := "ytlllbkjiadcloaadoor", sum := "a6d361fbc6f1355fc8bfb23868b5547aa1a52b23433d21dd9df753803befe494", func := "hornbeam/hornbeamlaw02.TermOrders", spec := "termOrders", inPlace := ["math.Float64frombits", "math.Float64bits"], unfollowed := true, recurses := true, named := ["unicode/utf8.first", "unicode/utf8.acceptRanges", "math/bits.overflowError"], loops := true, apart := false, laid := [("unicode/utf8.acceptRanges", laid_unicode_utf8_acceptRanges), ("unicode/utf8.first", laid_unicode_utf8_first)], narrowed := true }
def TermOrdersUptoSaid : Prop := termOrdersUptoRow.holds Tryd.pinned (OpenSpec.upto termOrdersSpec)

/-- 'hornbeamlaw02.TermOneOrder', WHERE WHAT IT READS IS OF BULK AT MOST 1048576: true; the input reads as it did. -/
def termOneOrderUptoRow : OpenClaim := { program := "ytlllbkjiadcloaadoor", sum := "a6d361fbc6f1355fc8bfb23868b5547aa1a52b23433d21dd9df753803befe494", func := "hornbeam/hornbeamlaw02.TermOneOrder", spec := "termOneOrder", inPlace := ["math.Float64frombits", "math.Float64bits"], unfollowed := true, recurses := true, named := ["unicode/utf8.first", "unicode/utf8.acceptRanges", "math/bits.overflowError"], loops := true, apart := false, laid := [("unicode/utf8.acceptRanges", laid_unicode_utf8_acceptRanges), ("unicode/utf8.first", laid_unicode_utf8_first)], narrowed := true }
def TermOneOrderUptoSaid : Prop := termOneOrderUptoRow.holds Tryd.pinned (OpenSpec.upto termOneOrderSpec)

/-- 'hornbeamlaw02.TermLists', WHERE WHAT IT READS IS OF BULK AT MOST 1048576: true; the input reads as it did. -/
def termListsUptoRow : OpenClaim := { program := "ytlllbkjiadcloaadoor", sum := "a6d361fbc6f1355fc8bfb23868b5547aa1a52b23433d21dd9df753803befe494", func := "hornbeam/hornbeamlaw02.TermLists", spec := "termLists", inPlace := ["math.Float64frombits", "math.Float64bits"], unfollowed := true, recurses := true, named := ["unicode/utf8.first", "unicode/utf8.acceptRanges", "math/bits.overflowError"], loops := true, apart := false, laid := [("unicode/utf8.acceptRanges", laid_unicode_utf8_acceptRanges), ("unicode/utf8.first", laid_unicode_utf8_first)], narrowed := true }
def TermListsUptoSaid : Prop := termListsUptoRow.holds Tryd.pinned (OpenSpec.upto termListsSpec)

/-- 'hornbeamlaw02.TermVars', WHERE WHAT IT READS IS OF BULK AT MOST 1048576: true; the input reads as it did. -/
def termVarsUptoRow : OpenClaim := { program := "ytlllbkjiadcloaadoor", sum := "a6d361fbc6f1355fc8bfb23868b5547aa1a52b23433d21dd9df753803befe494", func := "hornbeam/hornbeamlaw02.TermVars", spec := "termVars", inPlace := ["math.Float64frombits", "math.Float64bits"], unfollowed := true, recurses := true, named := ["unicode/utf8.first", "unicode/utf8.acceptRanges", "math/bits.overflowError"], loops := true, apart := false, laid := [("unicode/utf8.acceptRanges", laid_unicode_utf8_acceptRanges), ("unicode/utf8.first", laid_unicode_utf8_first)], narrowed := true }
def TermVarsUptoSaid : Prop := termVarsUptoRow.holds Tryd.pinned (OpenSpec.upto termVarsSpec)

/-- 'hornbeamlaw02.TermPuts', WHERE WHAT IT READS IS OF BULK AT MOST 1048576: true; the input reads as it did. -/
def termPutsUptoRow : OpenClaim := { program := "ytlllbkjiadcloaadoor", sum := "a6d361fbc6f1355fc8bfb23868b5547aa1a52b23433d21dd9df753803befe494", func := "hornbeam/hornbeamlaw02.TermPuts", spec := "termPuts", inPlace := ["math.Float64frombits", "math.Float64bits"], unfollowed := true, recurses := true, named := ["unicode/utf8.first", "unicode/utf8.acceptRanges", "math/bits.overflowError"], loops := true, apart := false, laid := [("unicode/utf8.acceptRanges", laid_unicode_utf8_acceptRanges), ("unicode/utf8.first", laid_unicode_utf8_first)], narrowed := true }
def TermPutsUptoSaid : Prop := termPutsUptoRow.holds Tryd.pinned (OpenSpec.upto termPutsSpec)

/-- 'hornbeamlaw02.TermSorts', WHERE WHAT IT READS IS OF BULK AT MOST 1048576: true; the input reads as it did. -/
def termSortsUptoRow : OpenClaim := { program := "ytlllbkjiadcloaadoor", sum := "a6d361fbc6f1355fc8bfb23868b5547aa1a52b23433d21dd9df753803befe494", func := "hornbeam/hornbeamlaw02.TermSorts", spec := "termSorts", inPlace := ["math.Float64frombits", "math.Float64bits"], unfollowed := true, recurses := true, named := ["unicode/utf8.first", "unicode/utf8.acceptRanges", "math/bits.overflowError"], loops := true, apart := false, laid := [("unicode/utf8.acceptRanges", laid_unicode_utf8_acceptRanges), ("unicode/utf8.first", laid_unicode_utf8_first)], narrowed := true }
def TermSortsUptoSaid : Prop := termSortsUptoRow.holds Tryd.pinned (OpenSpec.upto termSortsSpec)

/-- 'hornbeamlaw02.TermBack', WHERE WHAT IT READS IS OF BULK AT MOST 1048576: true; the input reads as it did. -/
def termBackUptoRow : OpenClaim := { program := "ytlllbkjiadcloaadoor", sum := "a6d361fbc6f1355fc8bfb23868b5547aa1a52b23433d21dd9df753803befe494", func := "hornbeam/hornbeamlaw02.TermBack", spec := "termBack", inPlace := ["math.Float64frombits", "math.Float64bits"], unfollowed := true, recurses := true, named := ["unicode/utf8.first", "unicode/utf8.acceptRanges", "math/bits.overflowError"], loops := true, apart := false, laid := [("unicode/utf8.acceptRanges", laid_unicode_utf8_acceptRanges), ("unicode/utf8.first", laid_unicode_utf8_first)], narrowed := true }
def TermBackUptoSaid : Prop := termBackUptoRow.holds Tryd.pinned (OpenSpec.upto termBackSpec)

end Rows
end Go.Proofs.YtlllbkjiadcloaaDoor
