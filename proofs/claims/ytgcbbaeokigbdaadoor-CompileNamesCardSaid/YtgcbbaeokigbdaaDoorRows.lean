/-
  NARROWER THAN 'FOR EVERY INPUT', by the rows' own cells (each row's printed sentence says how): StoreNames: laid · ClauseNames: laid · GcNil: laid · StoreNil: loops, laid · CompileNames: laid · UnifyNames: laid · DatabaseNames: laid · UnifyNil: laid.
  DERIVED. THE GIVEN ROWS OF THIS SEAT. 8 by the template 'for every input the law returns true; each argument reads behind the call as it read before'; 0 by the template 'total and deterministic' (their statements: YtgcbbaeokigbdaaDoorTotals.lean).
  GIVEN WITH THE SEED: the statements are not yours to turn. If you find one false, say at which input.
  Laid BY PROGRAM, IN A SANDBOX (cutbox-rows.mjs): the forced cells as the released guide's own fill.sh prints them over the translation 9253604f6d14cfd8… (all of the seat's roots in one cut). By AI agents, Wed Nov 11 2026. No macro, syntax, notation, axiom, sorry.
-/
import Derived.Test.YtgcbbaeokigbdaaDoorChecked
import GoSem.PinnedTables
import GoSem.Claim
import GoSem.ClaimJoined
import GoSem.ClaimMapViews
import Derived.JoinedTies
import Derived.KernelRfl
namespace Go.Proofs.YtgcbbaeokigbdaaDoor
/- THE CELL 'sum', in the pinned program and in every row, IS THE sha256 OF THE DUMP (.gsa) THAT YtgcbbaeokigbdaaDoorProg.lean LOADS. Nothing in Lean hashes anything: it is a label: what it is worth is what the hold of that sum in a sandbox is worth. -/
noncomputable def Tryd.pinned : Pinned := { name := "ytgcbbaeokigbdaadoor", sum := "9253604f6d14cfd83391cc5d2b5862770d726b2b7768198dec3b731938323dff", checked := Tryd.checked }
namespace Rows
def none {H : Type} : Left H := { results := [], args := [] }

/- WHAT THE LISTED PACKAGE-LEVEL VARIABLES READ AS WHEN THE CALL BEGINS. Each datum BY PROGRAM (the guide's laid-datum.mjs) off the statement by which the dump's own 'gosem.cut.vars' lays the variable. In a bare row this is a premise. The card (YtgcbbaeokigbdaaDoorCards.lean) ties it to the program's text. -/
def laid_unicode_utf8_acceptRanges {H : Type} : DataW H := .agg [.agg [.lit (.int .u8 128), .lit (.int .u8 191)], .agg [.lit (.int .u8 160), .lit (.int .u8 191)], .agg [.lit (.int .u8 128), .lit (.int .u8 159)], .agg [.lit (.int .u8 144), .lit (.int .u8 191)], .agg [.lit (.int .u8 128), .lit (.int .u8 143)], .agg [.lit (.int .u8 0), .lit (.int .u8 0)], .agg [.lit (.int .u8 0), .lit (.int .u8 0)], .agg [.lit (.int .u8 0), .lit (.int .u8 0)], .agg [.lit (.int .u8 0), .lit (.int .u8 0)], .agg [.lit (.int .u8 0), .lit (.int .u8 0)], .agg [.lit (.int .u8 0), .lit (.int .u8 0)], .agg [.lit (.int .u8 0), .lit (.int .u8 0)], .agg [.lit (.int .u8 0), .lit (.int .u8 0)], .agg [.lit (.int .u8 0), .lit (.int .u8 0)], .agg [.lit (.int .u8 0), .lit (.int .u8 0)], .agg [.lit (.int .u8 0), .lit (.int .u8 0)]]
/-- One of Go's own tables, pinned by name: the form's constant. -/
def laid_unicode_utf8_first : DataW Unit := Go.Pinned.utf8First

/-- 'hornbeamlaw13.StoreNames': WHATEVER THE INPUT: true; the input reads as it did. -/
def storeNamesSpec : ChangeSpec := { name := "storeNames", fn := fun _ => fun
  | [] => { results := [.lit (.bool true)], args := [] }
  | _ => none }
def storeNamesRow : OpenClaim := { program := "ytgcbbaeokigbdaadoor", sum := "9253604f6d14cfd83391cc5d2b5862770d726b2b7768198dec3b731938323dff", func := "hornbeam/hornbeamlaw13.StoreNames", spec := "storeNames", inPlace := ["math.Float64frombits", "math.Float64bits"], unfollowed := true, recurses := true, named := ["unicode/utf8.first", "unicode/utf8.acceptRanges", "math/bits.overflowError"], plainKeys := false, apart := false, laid := [("unicode/utf8.acceptRanges", laid_unicode_utf8_acceptRanges), ("unicode/utf8.first", laid_unicode_utf8_first)] }
def StoreNamesSaid : Prop := storeNamesRow.holds Tryd.pinned (OpenSpec.ofChange storeNamesSpec)

/-- ITS FALSE NEIGHBOUR: 'it returns false'. Refute it at one input. -/
def storeNamesWrong : ChangeSpec := { name := "storeNames", fn := fun _ => fun
  | [] => { results := [.lit (.bool false)], args := [] }
  | _ => none }
def StoreNamesWrongFalsely : Prop := storeNamesRow.holds Tryd.pinned (OpenSpec.ofChange storeNamesWrong)

/-- 'hornbeamlaw11.ClauseNames': WHATEVER THE INPUT: true; the input reads as it did. -/
def clauseNamesSpec : ChangeSpec := { name := "clauseNames", fn := fun _ => fun
  | [] => { results := [.lit (.bool true)], args := [] }
  | _ => none }
def clauseNamesRow : OpenClaim := { program := "ytgcbbaeokigbdaadoor", sum := "9253604f6d14cfd83391cc5d2b5862770d726b2b7768198dec3b731938323dff", func := "hornbeam/hornbeamlaw11.ClauseNames", spec := "clauseNames", inPlace := ["math.Float64frombits", "math.Float64bits"], unfollowed := true, recurses := true, named := ["unicode/utf8.first", "unicode/utf8.acceptRanges", "math/bits.overflowError"], plainKeys := false, apart := false, laid := [("unicode/utf8.acceptRanges", laid_unicode_utf8_acceptRanges), ("unicode/utf8.first", laid_unicode_utf8_first)] }
def ClauseNamesSaid : Prop := clauseNamesRow.holds Tryd.pinned (OpenSpec.ofChange clauseNamesSpec)

/-- ITS FALSE NEIGHBOUR: 'it returns false'. Refute it at one input. -/
def clauseNamesWrong : ChangeSpec := { name := "clauseNames", fn := fun _ => fun
  | [] => { results := [.lit (.bool false)], args := [] }
  | _ => none }
def ClauseNamesWrongFalsely : Prop := clauseNamesRow.holds Tryd.pinned (OpenSpec.ofChange clauseNamesWrong)

/-- 'hornbeamlaw15.GcNil': WHATEVER THE INPUT: true; the input reads as it did. -/
def gcNilSpec : ChangeSpec := { name := "gcNil", fn := fun _ => fun
  | [d] => { results := [.lit (.bool true)], args := [d] }
  | _ => none }
def gcNilRow : OpenClaim := { program := "ytgcbbaeokigbdaadoor", sum := "9253604f6d14cfd83391cc5d2b5862770d726b2b7768198dec3b731938323dff", func := "hornbeam/hornbeamlaw15.GcNil", spec := "gcNil", inPlace := ["math.Float64frombits", "math.Float64bits"], unfollowed := true, recurses := true, named := ["unicode/utf8.first", "unicode/utf8.acceptRanges", "math/bits.overflowError"], plainKeys := false, apart := false, laid := [("unicode/utf8.acceptRanges", laid_unicode_utf8_acceptRanges), ("unicode/utf8.first", laid_unicode_utf8_first)] }
def GcNilSaid : Prop := gcNilRow.holds Tryd.pinned (OpenSpec.ofChange gcNilSpec)

/-- ITS FALSE NEIGHBOUR: 'it returns false'. Refute it at one input. -/
def gcNilWrong : ChangeSpec := { name := "gcNil", fn := fun _ => fun
  | [d] => { results := [.lit (.bool false)], args := [d] }
  | _ => none }
def GcNilWrongFalsely : Prop := gcNilRow.holds Tryd.pinned (OpenSpec.ofChange gcNilWrong)

/-- 'hornbeamlaw13.StoreNil': WHATEVER THE INPUT: true; the input reads as it did. -/
def storeNilSpec : ChangeSpec := { name := "storeNil", fn := fun _ => fun
  | [d] => { results := [.lit (.bool true)], args := [d] }
  | _ => none }
def storeNilRow : OpenClaim := { program := "ytgcbbaeokigbdaadoor", sum := "9253604f6d14cfd83391cc5d2b5862770d726b2b7768198dec3b731938323dff", func := "hornbeam/hornbeamlaw13.StoreNil", spec := "storeNil", inPlace := ["math.Float64frombits", "math.Float64bits"], unfollowed := true, recurses := true, named := ["unicode/utf8.first", "unicode/utf8.acceptRanges", "math/bits.overflowError"], loops := true, plainKeys := false, apart := false, laid := [("unicode/utf8.acceptRanges", laid_unicode_utf8_acceptRanges), ("unicode/utf8.first", laid_unicode_utf8_first)] }
def StoreNilSaid : Prop := storeNilRow.holds Tryd.pinned (OpenSpec.ofChange storeNilSpec)

/-- ITS FALSE NEIGHBOUR: 'it returns false'. Refute it at one input. -/
def storeNilWrong : ChangeSpec := { name := "storeNil", fn := fun _ => fun
  | [d] => { results := [.lit (.bool false)], args := [d] }
  | _ => none }
def StoreNilWrongFalsely : Prop := storeNilRow.holds Tryd.pinned (OpenSpec.ofChange storeNilWrong)

/-- 'hornbeamlaw16.CompileNames': WHATEVER THE INPUT: true; the input reads as it did. -/
def compileNamesSpec : ChangeSpec := { name := "compileNames", fn := fun _ => fun
  | [] => { results := [.lit (.bool true)], args := [] }
  | _ => none }
def compileNamesRow : OpenClaim := { program := "ytgcbbaeokigbdaadoor", sum := "9253604f6d14cfd83391cc5d2b5862770d726b2b7768198dec3b731938323dff", func := "hornbeam/hornbeamlaw16.CompileNames", spec := "compileNames", inPlace := ["math.Float64frombits", "math.Float64bits"], unfollowed := true, recurses := true, named := ["unicode/utf8.first", "unicode/utf8.acceptRanges", "math/bits.overflowError"], plainKeys := false, apart := false, laid := [("unicode/utf8.acceptRanges", laid_unicode_utf8_acceptRanges), ("unicode/utf8.first", laid_unicode_utf8_first)] }
def CompileNamesSaid : Prop := compileNamesRow.holds Tryd.pinned (OpenSpec.ofChange compileNamesSpec)

/-- ITS FALSE NEIGHBOUR: 'it returns false'. Refute it at one input. -/
def compileNamesWrong : ChangeSpec := { name := "compileNames", fn := fun _ => fun
  | [] => { results := [.lit (.bool false)], args := [] }
  | _ => none }
def CompileNamesWrongFalsely : Prop := compileNamesRow.holds Tryd.pinned (OpenSpec.ofChange compileNamesWrong)

/-- 'hornbeamlaw14.UnifyNames': WHATEVER THE INPUT: true; the input reads as it did. -/
def unifyNamesSpec : ChangeSpec := { name := "unifyNames", fn := fun _ => fun
  | [] => { results := [.lit (.bool true)], args := [] }
  | _ => none }
def unifyNamesRow : OpenClaim := { program := "ytgcbbaeokigbdaadoor", sum := "9253604f6d14cfd83391cc5d2b5862770d726b2b7768198dec3b731938323dff", func := "hornbeam/hornbeamlaw14.UnifyNames", spec := "unifyNames", inPlace := ["math.Float64frombits", "math.Float64bits"], unfollowed := true, recurses := true, named := ["unicode/utf8.first", "unicode/utf8.acceptRanges", "math/bits.overflowError"], plainKeys := false, apart := false, laid := [("unicode/utf8.acceptRanges", laid_unicode_utf8_acceptRanges), ("unicode/utf8.first", laid_unicode_utf8_first)] }
def UnifyNamesSaid : Prop := unifyNamesRow.holds Tryd.pinned (OpenSpec.ofChange unifyNamesSpec)

/-- ITS FALSE NEIGHBOUR: 'it returns false'. Refute it at one input. -/
def unifyNamesWrong : ChangeSpec := { name := "unifyNames", fn := fun _ => fun
  | [] => { results := [.lit (.bool false)], args := [] }
  | _ => none }
def UnifyNamesWrongFalsely : Prop := unifyNamesRow.holds Tryd.pinned (OpenSpec.ofChange unifyNamesWrong)

/-- 'hornbeamlaw12.DatabaseNames': WHATEVER THE INPUT: true; the input reads as it did. -/
def databaseNamesSpec : ChangeSpec := { name := "databaseNames", fn := fun _ => fun
  | [] => { results := [.lit (.bool true)], args := [] }
  | _ => none }
def databaseNamesRow : OpenClaim := { program := "ytgcbbaeokigbdaadoor", sum := "9253604f6d14cfd83391cc5d2b5862770d726b2b7768198dec3b731938323dff", func := "hornbeam/hornbeamlaw12.DatabaseNames", spec := "databaseNames", inPlace := ["math.Float64frombits", "math.Float64bits", "slices.overlaps[int]"], unfollowed := true, recurses := true, named := ["unicode/utf8.first", "unicode/utf8.acceptRanges", "math/bits.overflowError"], plainKeys := false, apart := false, laid := [("unicode/utf8.acceptRanges", laid_unicode_utf8_acceptRanges), ("unicode/utf8.first", laid_unicode_utf8_first)] }
def DatabaseNamesSaid : Prop := databaseNamesRow.holds Tryd.pinned (OpenSpec.ofChange databaseNamesSpec)

/-- ITS FALSE NEIGHBOUR: 'it returns false'. Refute it at one input. -/
def databaseNamesWrong : ChangeSpec := { name := "databaseNames", fn := fun _ => fun
  | [] => { results := [.lit (.bool false)], args := [] }
  | _ => none }
def DatabaseNamesWrongFalsely : Prop := databaseNamesRow.holds Tryd.pinned (OpenSpec.ofChange databaseNamesWrong)

/-- 'hornbeamlaw14.UnifyNil': WHATEVER THE INPUT: true; the input reads as it did. -/
def unifyNilSpec : ChangeSpec := { name := "unifyNil", fn := fun _ => fun
  | [d1, d2] => { results := [.lit (.bool true)], args := [d1, d2] }
  | _ => none }
def unifyNilRow : OpenClaim := { program := "ytgcbbaeokigbdaadoor", sum := "9253604f6d14cfd83391cc5d2b5862770d726b2b7768198dec3b731938323dff", func := "hornbeam/hornbeamlaw14.UnifyNil", spec := "unifyNil", inPlace := ["math.Float64frombits", "math.Float64bits"], unfollowed := true, recurses := true, named := ["unicode/utf8.first", "unicode/utf8.acceptRanges", "math/bits.overflowError"], plainKeys := false, apart := false, laid := [("unicode/utf8.acceptRanges", laid_unicode_utf8_acceptRanges), ("unicode/utf8.first", laid_unicode_utf8_first)] }
def UnifyNilSaid : Prop := unifyNilRow.holds Tryd.pinned (OpenSpec.ofChange unifyNilSpec)

/-- ITS FALSE NEIGHBOUR: 'it returns false'. Refute it at one input. -/
def unifyNilWrong : ChangeSpec := { name := "unifyNil", fn := fun _ => fun
  | [d1, d2] => { results := [.lit (.bool false)], args := [d1, d2] }
  | _ => none }
def UnifyNilWrongFalsely : Prop := unifyNilRow.holds Tryd.pinned (OpenSpec.ofChange unifyNilWrong)

/- THE SECOND FORM. 'bulk': how many values and letters a reading holds, each counted each time it is reached (what is shared counts as often as it is met; a slice's spare places count too). A statement '..UptoSaid' is the law's where the arguments, and the package variables that the reading takes, are together of bulk at most 1048576: NARROWER than '..Said'. Prove '..Said' where nothing that the law and all that it calls make is longer than what came in: it says more and counts as full. Else prove '..UptoSaid'. A law counts once. -/
mutual
def uptoBulk {H : Type} : DataW H → Nat
  | .lit (.string bytes) => bytes.length + 1
  | .lit _ => 1
  | .nil => 1
  | .ptr d => uptoBulk d + 1
  | .slice elems spare => uptoBulkAll elems + uptoBulkAll spare + 1
  | .agg parts => uptoBulkAll parts + 1
  | .iface _ d => uptoBulk d + 1
  | .map entries => uptoBulkEntries entries + 1
  | .held _ => 1
def uptoBulkAll {H : Type} : List (DataW H) → Nat
  | [] => 0
  | d :: r => uptoBulk d + uptoBulkAll r
def uptoBulkEntries {H : Type} : List (Lit × DataW H) → Nat
  | [] => 0
  | x :: r => uptoBulkEntry x + uptoBulkEntries r
def uptoBulkEntry {H : Type} : Lit × DataW H → Nat
  | (.string bytes, d) => bytes.length + uptoBulk d + 1
  | (_, d) => uptoBulk d + 1
 end
def uptoSmall : (H : Type) → List (DataW H) → Bool := fun _ ds => decide (uptoBulkAll ds ≤ 1048576)
def OpenSpec.upto (s : _root_.Go.ChangeSpec) : _root_.Go.OpenSpec := { _root_.Go.OpenSpec.ofChange s with cond := some uptoSmall }

/-- 'hornbeamlaw13.StoreNames', WHERE WHAT IT READS IS OF BULK AT MOST 1048576: true; the input reads as it did. -/
def storeNamesUptoRow : OpenClaim := { program := "ytgcbbaeokigbdaadoor", sum := "9253604f6d14cfd83391cc5d2b5862770d726b2b7768198dec3b731938323dff", func := "hornbeam/hornbeamlaw13.StoreNames", spec := "storeNames", inPlace := ["math.Float64frombits", "math.Float64bits"], unfollowed := true, recurses := true, named := ["unicode/utf8.first", "unicode/utf8.acceptRanges", "math/bits.overflowError"], plainKeys := false, apart := false, laid := [("unicode/utf8.acceptRanges", laid_unicode_utf8_acceptRanges), ("unicode/utf8.first", laid_unicode_utf8_first)], narrowed := true }
def StoreNamesUptoSaid : Prop := storeNamesUptoRow.holds Tryd.pinned (OpenSpec.upto storeNamesSpec)

/-- 'hornbeamlaw11.ClauseNames', WHERE WHAT IT READS IS OF BULK AT MOST 1048576: true; the input reads as it did. -/
def clauseNamesUptoRow : OpenClaim := { program := "ytgcbbaeokigbdaadoor", sum := "9253604f6d14cfd83391cc5d2b5862770d726b2b7768198dec3b731938323dff", func := "hornbeam/hornbeamlaw11.ClauseNames", spec := "clauseNames", inPlace := ["math.Float64frombits", "math.Float64bits"], unfollowed := true, recurses := true, named := ["unicode/utf8.first", "unicode/utf8.acceptRanges", "math/bits.overflowError"], plainKeys := false, apart := false, laid := [("unicode/utf8.acceptRanges", laid_unicode_utf8_acceptRanges), ("unicode/utf8.first", laid_unicode_utf8_first)], narrowed := true }
def ClauseNamesUptoSaid : Prop := clauseNamesUptoRow.holds Tryd.pinned (OpenSpec.upto clauseNamesSpec)

/-- 'hornbeamlaw15.GcNil', WHERE WHAT IT READS IS OF BULK AT MOST 1048576: true; the input reads as it did. -/
def gcNilUptoRow : OpenClaim := { program := "ytgcbbaeokigbdaadoor", sum := "9253604f6d14cfd83391cc5d2b5862770d726b2b7768198dec3b731938323dff", func := "hornbeam/hornbeamlaw15.GcNil", spec := "gcNil", inPlace := ["math.Float64frombits", "math.Float64bits"], unfollowed := true, recurses := true, named := ["unicode/utf8.first", "unicode/utf8.acceptRanges", "math/bits.overflowError"], plainKeys := false, apart := false, laid := [("unicode/utf8.acceptRanges", laid_unicode_utf8_acceptRanges), ("unicode/utf8.first", laid_unicode_utf8_first)], narrowed := true }
def GcNilUptoSaid : Prop := gcNilUptoRow.holds Tryd.pinned (OpenSpec.upto gcNilSpec)

/-- 'hornbeamlaw13.StoreNil', WHERE WHAT IT READS IS OF BULK AT MOST 1048576: true; the input reads as it did. -/
def storeNilUptoRow : OpenClaim := { program := "ytgcbbaeokigbdaadoor", sum := "9253604f6d14cfd83391cc5d2b5862770d726b2b7768198dec3b731938323dff", func := "hornbeam/hornbeamlaw13.StoreNil", spec := "storeNil", inPlace := ["math.Float64frombits", "math.Float64bits"], unfollowed := true, recurses := true, named := ["unicode/utf8.first", "unicode/utf8.acceptRanges", "math/bits.overflowError"], loops := true, plainKeys := false, apart := false, laid := [("unicode/utf8.acceptRanges", laid_unicode_utf8_acceptRanges), ("unicode/utf8.first", laid_unicode_utf8_first)], narrowed := true }
def StoreNilUptoSaid : Prop := storeNilUptoRow.holds Tryd.pinned (OpenSpec.upto storeNilSpec)

/-- 'hornbeamlaw16.CompileNames', WHERE WHAT IT READS IS OF BULK AT MOST 1048576: true; the input reads as it did. -/
def compileNamesUptoRow : OpenClaim := { program := "ytgcbbaeokigbdaadoor", sum := "9253604f6d14cfd83391cc5d2b5862770d726b2b7768198dec3b731938323dff", func := "hornbeam/hornbeamlaw16.CompileNames", spec := "compileNames", inPlace := ["math.Float64frombits", "math.Float64bits"], unfollowed := true, recurses := true, named := ["unicode/utf8.first", "unicode/utf8.acceptRanges", "math/bits.overflowError"], plainKeys := false, apart := false, laid := [("unicode/utf8.acceptRanges", laid_unicode_utf8_acceptRanges), ("unicode/utf8.first", laid_unicode_utf8_first)], narrowed := true }
def CompileNamesUptoSaid : Prop := compileNamesUptoRow.holds Tryd.pinned (OpenSpec.upto compileNamesSpec)

/-- 'hornbeamlaw14.UnifyNames', WHERE WHAT IT READS IS OF BULK AT MOST 1048576: true; the input reads as it did. -/
def unifyNamesUptoRow : OpenClaim := { program := "ytgcbbaeokigbdaadoor", sum := "9253604f6d14cfd83391cc5d2b5862770d726b2b7768198dec3b731938323dff", func := "hornbeam/hornbeamlaw14.UnifyNames", spec := "unifyNames", inPlace := ["math.Float64frombits", "math.Float64bits"], unfollowed := true, recurses := true, named := ["unicode/utf8.first", "unicode/utf8.acceptRanges", "math/bits.overflowError"], plainKeys := false, apart := false, laid := [("unicode/utf8.acceptRanges", laid_unicode_utf8_acceptRanges), ("unicode/utf8.first", laid_unicode_utf8_first)], narrowed := true }
def UnifyNamesUptoSaid : Prop := unifyNamesUptoRow.holds Tryd.pinned (OpenSpec.upto unifyNamesSpec)

/-- 'hornbeamlaw12.DatabaseNames', WHERE WHAT IT READS IS OF BULK AT MOST 1048576: true; the input reads as it did. -/
def databaseNamesUptoRow : OpenClaim := { program := "ytgcbbaeokigbdaadoor", sum := "9253604f6d14cfd83391cc5d2b5862770d726b2b7768198dec3b731938323dff", func := "hornbeam/hornbeamlaw12.DatabaseNames", spec := "databaseNames", inPlace := ["math.Float64frombits", "math.Float64bits", "slices.overlaps[int]"], unfollowed := true, recurses := true, named := ["unicode/utf8.first", "unicode/utf8.acceptRanges", "math/bits.overflowError"], plainKeys := false, apart := false, laid := [("unicode/utf8.acceptRanges", laid_unicode_utf8_acceptRanges), ("unicode/utf8.first", laid_unicode_utf8_first)], narrowed := true }
def DatabaseNamesUptoSaid : Prop := databaseNamesUptoRow.holds Tryd.pinned (OpenSpec.upto databaseNamesSpec)

/-- 'hornbeamlaw14.UnifyNil', WHERE WHAT IT READS IS OF BULK AT MOST 1048576: true; the input reads as it did. -/
def unifyNilUptoRow : OpenClaim := { program := "ytgcbbaeokigbdaadoor", sum := "9253604f6d14cfd83391cc5d2b5862770d726b2b7768198dec3b731938323dff", func := "hornbeam/hornbeamlaw14.UnifyNil", spec := "unifyNil", inPlace := ["math.Float64frombits", "math.Float64bits"], unfollowed := true, recurses := true, named := ["unicode/utf8.first", "unicode/utf8.acceptRanges", "math/bits.overflowError"], plainKeys := false, apart := false, laid := [("unicode/utf8.acceptRanges", laid_unicode_utf8_acceptRanges), ("unicode/utf8.first", laid_unicode_utf8_first)], narrowed := true }
def UnifyNilUptoSaid : Prop := unifyNilUptoRow.holds Tryd.pinned (OpenSpec.upto unifyNilSpec)

end Rows
end Go.Proofs.YtgcbbaeokigbdaaDoor
