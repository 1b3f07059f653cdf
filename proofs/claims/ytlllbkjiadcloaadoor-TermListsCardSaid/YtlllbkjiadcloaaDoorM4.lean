import Derived.Test.YtlllbkjiadcloaaDoorM3
import Derived.Test.YtlllbkjiadcloaaDoorProg
import Derived.KernelRfl
import Derived.WalkKit
/- Lemmas on the program's own code, towards the laws of this folder, part 4. Conditions: as each lemma says. -/
-- Fk
section
/- What the seat's types and functions come to, in the rules' form (by program). -/
namespace Go.Proofs.YtlllbkjiadcloaaDoor.hb
open Go Go.RowKit Go.Hb
theorem cl12 {d : Option Tmp} {args : Array Operand} {ats : Array TypeId} {ty : TypeId} {pos : String} {af : Array Edge} {g : Option (Nat × Bool)} {tm : Tr Value} {H : Heap} : dop Tryd.prog ⟨d, .call ⟨.value (.func 12), args, ats⟩, ty, pos, af, g⟩ (ev tm) H = some (.call 12 (args.toList.map (ev tm))) := dop_call (by kernel_rfl)
theorem ld26 {ad : Addr} {H : Heap} : dLoad Tryd.prog 26 (.pointer (some ad)) H = dloadA 6 (H.load ad 6) H := dLoad_cells (by kernel_rfl) (by kernel_rfl)
theorem cl13 {d : Option Tmp} {args : Array Operand} {ats : Array TypeId} {ty : TypeId} {pos : String} {af : Array Edge} {g : Option (Nat × Bool)} {tm : Tr Value} {H : Heap} : dop Tryd.prog ⟨d, .call ⟨.value (.func 13), args, ats⟩, ty, pos, af, g⟩ (ev tm) H = some (.call 13 (args.toList.map (ev tm))) := dop_call (by kernel_rfl)
theorem cl14 {d : Option Tmp} {args : Array Operand} {ats : Array TypeId} {ty : TypeId} {pos : String} {af : Array Edge} {g : Option (Nat × Bool)} {tm : Tr Value} {H : Heap} : dop Tryd.prog ⟨d, .call ⟨.value (.func 14), args, ats⟩, ty, pos, af, g⟩ (ev tm) H = some (.call 14 (args.toList.map (ev tm))) := dop_call (by kernel_rfl)
theorem cl15 {d : Option Tmp} {args : Array Operand} {ats : Array TypeId} {ty : TypeId} {pos : String} {af : Array Edge} {g : Option (Nat × Bool)} {tm : Tr Value} {H : Heap} : dop Tryd.prog ⟨d, .call ⟨.value (.func 15), args, ats⟩, ty, pos, af, g⟩ (ev tm) H = some (.call 15 (args.toList.map (ev tm))) := dop_call (by kernel_rfl)
theorem cl16 {d : Option Tmp} {args : Array Operand} {ats : Array TypeId} {ty : TypeId} {pos : String} {af : Array Edge} {g : Option (Nat × Bool)} {tm : Tr Value} {H : Heap} : dop Tryd.prog ⟨d, .call ⟨.value (.func 16), args, ats⟩, ty, pos, af, g⟩ (ev tm) H = some (.call 16 (args.toList.map (ev tm))) := dop_call (by kernel_rfl)
theorem cl17 {d : Option Tmp} {args : Array Operand} {ats : Array TypeId} {ty : TypeId} {pos : String} {af : Array Edge} {g : Option (Nat × Bool)} {tm : Tr Value} {H : Heap} : dop Tryd.prog ⟨d, .call ⟨.value (.func 17), args, ats⟩, ty, pos, af, g⟩ (ev tm) H = some (.call 17 (args.toList.map (ev tm))) := dop_call (by kernel_rfl)
theorem bs24_2 {v0 v1 : Value} {H : Heap} : dBuildS Tryd.prog 24 2 [(0, v0), (1, v1)] H = dBs 26 2 (([(0, v0), (1, v1)] : List (Nat × Value)).all fun p => p.2.cells.toList.all one) (layC [(0, 6), (6, 6)] [.int .i64 0, .string ByteArray.empty, .string ByteArray.empty, .int .u64 0, .int .i64 0, .slice none 0 0, .int .i64 0, .string ByteArray.empty, .string ByteArray.empty, .int .u64 0, .int .i64 0, .slice none 0 0] (([(0, v0), (1, v1)] : List (Nat × Value)).map fun p => (p.1, p.2.cells.toList))) H := dBuildS_at (size := 6) (by kernel_rfl) rfl
theorem cl18 {d : Option Tmp} {args : Array Operand} {ats : Array TypeId} {ty : TypeId} {pos : String} {af : Array Edge} {g : Option (Nat × Bool)} {tm : Tr Value} {H : Heap} : dop Tryd.prog ⟨d, .call ⟨.value (.func 18), args, ats⟩, ty, pos, af, g⟩ (ev tm) H = some (.call 18 (args.toList.map (ev tm))) := dop_call (by kernel_rfl)
theorem cl19 {d : Option Tmp} {args : Array Operand} {ats : Array TypeId} {ty : TypeId} {pos : String} {af : Array Edge} {g : Option (Nat × Bool)} {tm : Tr Value} {H : Heap} : dop Tryd.prog ⟨d, .call ⟨.value (.func 19), args, ats⟩, ty, pos, af, g⟩ (ev tm) H = some (.call 19 (args.toList.map (ev tm))) := dop_call (by kernel_rfl)
theorem bs24_3 {v0 v1 v2 : Value} {H : Heap} : dBuildS Tryd.prog 24 3 [(0, v0), (1, v1), (2, v2)] H = dBs 26 3 (([(0, v0), (1, v1), (2, v2)] : List (Nat × Value)).all fun p => p.2.cells.toList.all one) (layC [(0, 6), (6, 6), (12, 6)] [.int .i64 0, .string ByteArray.empty, .string ByteArray.empty, .int .u64 0, .int .i64 0, .slice none 0 0, .int .i64 0, .string ByteArray.empty, .string ByteArray.empty, .int .u64 0, .int .i64 0, .slice none 0 0, .int .i64 0, .string ByteArray.empty, .string ByteArray.empty, .int .u64 0, .int .i64 0, .slice none 0 0] (([(0, v0), (1, v1), (2, v2)] : List (Nat × Value)).map fun p => (p.1, p.2.cells.toList))) H := dBuildS_at (size := 6) (by kernel_rfl) rfl
theorem cl20 {d : Option Tmp} {args : Array Operand} {ats : Array TypeId} {ty : TypeId} {pos : String} {af : Array Edge} {g : Option (Nat × Bool)} {tm : Tr Value} {H : Heap} : dop Tryd.prog ⟨d, .call ⟨.value (.func 20), args, ats⟩, ty, pos, af, g⟩ (ev tm) H = some (.call 20 (args.toList.map (ev tm))) := dop_call (by kernel_rfl)
theorem cl21 {d : Option Tmp} {args : Array Operand} {ats : Array TypeId} {ty : TypeId} {pos : String} {af : Array Edge} {g : Option (Nat × Bool)} {tm : Tr Value} {H : Heap} : dop Tryd.prog ⟨d, .call ⟨.value (.func 21), args, ats⟩, ty, pos, af, g⟩ (ev tm) H = some (.call 21 (args.toList.map (ev tm))) := dop_call (by kernel_rfl)
theorem zr26 : zerosOf Tryd.prog 26 = some [.int .i64 0, .string ByteArray.empty, .string ByteArray.empty, .int .u64 0, .int .i64 0, .slice none 0 0] := by kernel_rfl
theorem st26 {b o : Nat} {H : Heap} {cs : List Value} : dStore Tryd.prog 26 (.pointer (some ⟨b, o, none⟩)) (.agg ⟨cs⟩) H = dStoreIf (Nat.beq cs.length 6) ⟨b, o, none⟩ cs H (H.get b) := dStore_cells (by kernel_rfl) (by kernel_rfl)
theorem cl22 {d : Option Tmp} {args : Array Operand} {ats : Array TypeId} {ty : TypeId} {pos : String} {af : Array Edge} {g : Option (Nat × Bool)} {tm : Tr Value} {H : Heap} : dop Tryd.prog ⟨d, .call ⟨.value (.func 22), args, ats⟩, ty, pos, af, g⟩ (ev tm) H = some (.call 22 (args.toList.map (ev tm))) := dop_call (by kernel_rfl)
theorem cl23 {d : Option Tmp} {args : Array Operand} {ats : Array TypeId} {ty : TypeId} {pos : String} {af : Array Edge} {g : Option (Nat × Bool)} {tm : Tr Value} {H : Heap} : dop Tryd.prog ⟨d, .call ⟨.value (.func 23), args, ats⟩, ty, pos, af, g⟩ (ev tm) H = some (.call 23 (args.toList.map (ev tm))) := dop_call (by kernel_rfl)
theorem cl24 {d : Option Tmp} {args : Array Operand} {ats : Array TypeId} {ty : TypeId} {pos : String} {af : Array Edge} {g : Option (Nat × Bool)} {tm : Tr Value} {H : Heap} : dop Tryd.prog ⟨d, .call ⟨.value (.func 24), args, ats⟩, ty, pos, af, g⟩ (ev tm) H = some (.call 24 (args.toList.map (ev tm))) := dop_call (by kernel_rfl)
theorem cl25 {d : Option Tmp} {args : Array Operand} {ats : Array TypeId} {ty : TypeId} {pos : String} {af : Array Edge} {g : Option (Nat × Bool)} {tm : Tr Value} {H : Heap} : dop Tryd.prog ⟨d, .call ⟨.value (.func 25), args, ats⟩, ty, pos, af, g⟩ (ev tm) H = some (.call 25 (args.toList.map (ev tm))) := dop_call (by kernel_rfl)
theorem cl26 {d : Option Tmp} {args : Array Operand} {ats : Array TypeId} {ty : TypeId} {pos : String} {af : Array Edge} {g : Option (Nat × Bool)} {tm : Tr Value} {H : Heap} : dop Tryd.prog ⟨d, .call ⟨.value (.func 26), args, ats⟩, ty, pos, af, g⟩ (ev tm) H = some (.call 26 (args.toList.map (ev tm))) := dop_call (by kernel_rfl)
theorem cl27 {d : Option Tmp} {args : Array Operand} {ats : Array TypeId} {ty : TypeId} {pos : String} {af : Array Edge} {g : Option (Nat × Bool)} {tm : Tr Value} {H : Heap} : dop Tryd.prog ⟨d, .call ⟨.value (.func 27), args, ats⟩, ty, pos, af, g⟩ (ev tm) H = some (.call 27 (args.toList.map (ev tm))) := dop_call (by kernel_rfl)
theorem cl28 {d : Option Tmp} {args : Array Operand} {ats : Array TypeId} {ty : TypeId} {pos : String} {af : Array Edge} {g : Option (Nat × Bool)} {tm : Tr Value} {H : Heap} : dop Tryd.prog ⟨d, .call ⟨.value (.func 28), args, ats⟩, ty, pos, af, g⟩ (ev tm) H = some (.call 28 (args.toList.map (ev tm))) := dop_call (by kernel_rfl)
theorem cl29 {d : Option Tmp} {args : Array Operand} {ats : Array TypeId} {ty : TypeId} {pos : String} {af : Array Edge} {g : Option (Nat × Bool)} {tm : Tr Value} {H : Heap} : dop Tryd.prog ⟨d, .call ⟨.value (.func 29), args, ats⟩, ty, pos, af, g⟩ (ev tm) H = some (.call 29 (args.toList.map (ev tm))) := dop_call (by kernel_rfl)
theorem cl30 {d : Option Tmp} {args : Array Operand} {ats : Array TypeId} {ty : TypeId} {pos : String} {af : Array Edge} {g : Option (Nat × Bool)} {tm : Tr Value} {H : Heap} : dop Tryd.prog ⟨d, .call ⟨.value (.func 30), args, ats⟩, ty, pos, af, g⟩ (ev tm) H = some (.call 30 (args.toList.map (ev tm))) := dop_call (by kernel_rfl)
theorem ln46 {ty : TypeId} {a : Option Addr} {n c : Nat} {H : Heap} : dLn Tryd.prog 46 ty (.slice a n c) H = some (.val (.int .i64 n) H) := dLn_slice (e := 3) (by kernel_rfl)
theorem ia46 {b o n c i : Nat} {k : IntKind} {H : Heap} (h : i < n) : dIndexAddr Tryd.prog 46 (.slice (some ⟨b, o, none⟩) n c) (.int k (i : Int)) H = some (.val (.pointer (some ⟨b, o + i * 1, none⟩)) H) := dIndexAddr_at (e := 3) (by kernel_rfl) (by kernel_rfl) (by kernel_rfl) h
theorem iz46 {b o n c : Nat} {k : IntKind} {i : Int} {H : Heap} (h0 : 0 ≤ i) (h : i < n) : dIndexAddr Tryd.prog 46 (.slice (some ⟨b, o, none⟩) n c) (.int k i) H = some (.val (.pointer (some ⟨b, o + i.toNat * 1, none⟩)) H) := dIndexAddr_int (e := 3) (by kernel_rfl) (by kernel_rfl) (by kernel_rfl) h0 h
theorem st3 {b o : Nat} {H : Heap} {k : IntKind} {n : Int} : dStore Tryd.prog 3 (.pointer (some ⟨b, o, none⟩)) (.int k n) H = dStoreB ⟨b, o, none⟩ [.int k n] H (H.get b) := dStore_int (by kernel_rfl) (by kernel_rfl)
theorem cl31 {d : Option Tmp} {args : Array Operand} {ats : Array TypeId} {ty : TypeId} {pos : String} {af : Array Edge} {g : Option (Nat × Bool)} {tm : Tr Value} {H : Heap} : dop Tryd.prog ⟨d, .call ⟨.value (.func 31), args, ats⟩, ty, pos, af, g⟩ (ev tm) H = some (.call 31 (args.toList.map (ev tm))) := dop_call (by kernel_rfl)
theorem ln24 {ty : TypeId} {a : Option Addr} {n c : Nat} {H : Heap} : dLn Tryd.prog 24 ty (.slice a n c) H = some (.val (.int .i64 n) H) := dLn_slice (e := 26) (by kernel_rfl)
theorem ia24 {b o n c i : Nat} {k : IntKind} {H : Heap} (h : i < n) : dIndexAddr Tryd.prog 24 (.slice (some ⟨b, o, none⟩) n c) (.int k (i : Int)) H = some (.val (.pointer (some ⟨b, o + i * 6, none⟩)) H) := dIndexAddr_at (e := 26) (by kernel_rfl) (by kernel_rfl) (by kernel_rfl) h
theorem iz24 {b o n c : Nat} {k : IntKind} {i : Int} {H : Heap} (h0 : 0 ≤ i) (h : i < n) : dIndexAddr Tryd.prog 24 (.slice (some ⟨b, o, none⟩) n c) (.int k i) H = some (.val (.pointer (some ⟨b, o + i.toNat * 6, none⟩)) H) := dIndexAddr_int (e := 26) (by kernel_rfl) (by kernel_rfl) (by kernel_rfl) h0 h
theorem cl32 {d : Option Tmp} {args : Array Operand} {ats : Array TypeId} {ty : TypeId} {pos : String} {af : Array Edge} {g : Option (Nat × Bool)} {tm : Tr Value} {H : Heap} : dop Tryd.prog ⟨d, .call ⟨.value (.func 32), args, ats⟩, ty, pos, af, g⟩ (ev tm) H = some (.call 32 (args.toList.map (ev tm))) := dop_call (by kernel_rfl)
theorem sl24 : slcOk Tryd.prog 24 26 6 := ⟨by kernel_rfl, by kernel_rfl, by kernel_rfl⟩
theorem cl33 {d : Option Tmp} {args : Array Operand} {ats : Array TypeId} {ty : TypeId} {pos : String} {af : Array Edge} {g : Option (Nat × Bool)} {tm : Tr Value} {H : Heap} : dop Tryd.prog ⟨d, .call ⟨.value (.func 33), args, ats⟩, ty, pos, af, g⟩ (ev tm) H = some (.call 33 (args.toList.map (ev tm))) := dop_call (by kernel_rfl)
theorem ln57 {ty : TypeId} {a : Option Addr} {n c : Nat} {H : Heap} : dLn Tryd.prog 57 ty (.slice a n c) H = some (.val (.int .i64 n) H) := dLn_slice (e := 59) (by kernel_rfl)
theorem ia57 {b o n c i : Nat} {k : IntKind} {H : Heap} (h : i < n) : dIndexAddr Tryd.prog 57 (.slice (some ⟨b, o, none⟩) n c) (.int k (i : Int)) H = some (.val (.pointer (some ⟨b, o + i * 7, none⟩)) H) := dIndexAddr_at (e := 59) (by kernel_rfl) (by kernel_rfl) (by kernel_rfl) h
theorem iz57 {b o n c : Nat} {k : IntKind} {i : Int} {H : Heap} (h0 : 0 ≤ i) (h : i < n) : dIndexAddr Tryd.prog 57 (.slice (some ⟨b, o, none⟩) n c) (.int k i) H = some (.val (.pointer (some ⟨b, o + i.toNat * 7, none⟩)) H) := dIndexAddr_int (e := 59) (by kernel_rfl) (by kernel_rfl) (by kernel_rfl) h0 h
theorem fa59_0 {b o : Nat} {H : Heap} : dFieldAddr Tryd.prog 59 (.pointer (some ⟨b, o, none⟩)) 0 H = some (.val (.pointer (some ⟨b, o + 0, none⟩)) H) := dFieldAddr_at (u := 3) (by kernel_rfl) (by kernel_rfl)
theorem ld3 {ad : Addr} {H : Heap} : dLoad Tryd.prog 3 (.pointer (some ad)) H = dload1 (H.load ad 1) H := dLoad_one (by kernel_rfl)
theorem fa59_1 {b o : Nat} {H : Heap} : dFieldAddr Tryd.prog 59 (.pointer (some ⟨b, o, none⟩)) 1 H = some (.val (.pointer (some ⟨b, o + 1, none⟩)) H) := dFieldAddr_at (u := 26) (by kernel_rfl) (by kernel_rfl)
theorem cl34 {d : Option Tmp} {args : Array Operand} {ats : Array TypeId} {ty : TypeId} {pos : String} {af : Array Edge} {g : Option (Nat × Bool)} {tm : Tr Value} {H : Heap} : dop Tryd.prog ⟨d, .call ⟨.value (.func 34), args, ats⟩, ty, pos, af, g⟩ (ev tm) H = some (.call 34 (args.toList.map (ev tm))) := dop_call (by kernel_rfl)
theorem bd59 {vs : List (Nat × Value)} {H : Heap} : dBuild Tryd.prog 59 vs H = dBd (vs.all fun p => p.2.cells.toList.all one) (layC [(0, 1), (1, 6)] [.int .i64 0, .int .i64 0, .string ByteArray.empty, .string ByteArray.empty, .int .u64 0, .int .i64 0, .slice none 0 0] (vs.map fun p => (p.1, p.2.cells.toList))) H := dBuild_at (by kernel_rfl) (by kernel_rfl)
theorem bs57_1 {v0 : Value} {H : Heap} : dBuildS Tryd.prog 57 1 [(0, v0)] H = dBs 59 1 (([(0, v0)] : List (Nat × Value)).all fun p => p.2.cells.toList.all one) (layC [(0, 7)] [.int .i64 0, .int .i64 0, .string ByteArray.empty, .string ByteArray.empty, .int .u64 0, .int .i64 0, .slice none 0 0] (([(0, v0)] : List (Nat × Value)).map fun p => (p.1, p.2.cells.toList))) H := dBuildS_at (size := 7) (by kernel_rfl) rfl
theorem ap57 : apOk Tryd.prog 57 59 7 := apOk_of (by kernel_rfl)
theorem cl35 {d : Option Tmp} {args : Array Operand} {ats : Array TypeId} {ty : TypeId} {pos : String} {af : Array Edge} {g : Option (Nat × Bool)} {tm : Tr Value} {H : Heap} : dop Tryd.prog ⟨d, .call ⟨.value (.func 35), args, ats⟩, ty, pos, af, g⟩ (ev tm) H = some (.call 35 (args.toList.map (ev tm))) := dop_call (by kernel_rfl)
theorem cl36 {d : Option Tmp} {args : Array Operand} {ats : Array TypeId} {ty : TypeId} {pos : String} {af : Array Edge} {g : Option (Nat × Bool)} {tm : Tr Value} {H : Heap} : dop Tryd.prog ⟨d, .call ⟨.value (.func 36), args, ats⟩, ty, pos, af, g⟩ (ev tm) H = some (.call 36 (args.toList.map (ev tm))) := dop_call (by kernel_rfl)
theorem cl37 {d : Option Tmp} {args : Array Operand} {ats : Array TypeId} {ty : TypeId} {pos : String} {af : Array Edge} {g : Option (Nat × Bool)} {tm : Tr Value} {H : Heap} : dop Tryd.prog ⟨d, .call ⟨.value (.func 37), args, ats⟩, ty, pos, af, g⟩ (ev tm) H = some (.call 37 (args.toList.map (ev tm))) := dop_call (by kernel_rfl)
theorem cl38 {d : Option Tmp} {args : Array Operand} {ats : Array TypeId} {ty : TypeId} {pos : String} {af : Array Edge} {g : Option (Nat × Bool)} {tm : Tr Value} {H : Heap} : dop Tryd.prog ⟨d, .call ⟨.value (.func 38), args, ats⟩, ty, pos, af, g⟩ (ev tm) H = some (.call 38 (args.toList.map (ev tm))) := dop_call (by kernel_rfl)
theorem cl39 {d : Option Tmp} {args : Array Operand} {ats : Array TypeId} {ty : TypeId} {pos : String} {af : Array Edge} {g : Option (Nat × Bool)} {tm : Tr Value} {H : Heap} : dop Tryd.prog ⟨d, .call ⟨.value (.func 39), args, ats⟩, ty, pos, af, g⟩ (ev tm) H = some (.call 39 (args.toList.map (ev tm))) := dop_call (by kernel_rfl)
theorem cl40 {d : Option Tmp} {args : Array Operand} {ats : Array TypeId} {ty : TypeId} {pos : String} {af : Array Edge} {g : Option (Nat × Bool)} {tm : Tr Value} {H : Heap} : dop Tryd.prog ⟨d, .call ⟨.value (.func 40), args, ats⟩, ty, pos, af, g⟩ (ev tm) H = some (.call 40 (args.toList.map (ev tm))) := dop_call (by kernel_rfl)
theorem cl41 {d : Option Tmp} {args : Array Operand} {ats : Array TypeId} {ty : TypeId} {pos : String} {af : Array Edge} {g : Option (Nat × Bool)} {tm : Tr Value} {H : Heap} : dop Tryd.prog ⟨d, .call ⟨.value (.func 41), args, ats⟩, ty, pos, af, g⟩ (ev tm) H = some (.call 41 (args.toList.map (ev tm))) := dop_call (by kernel_rfl)
theorem bd26 {vs : List (Nat × Value)} {H : Heap} : dBuild Tryd.prog 26 vs H = dBd (vs.all fun p => p.2.cells.toList.all one) (layC [(0, 1), (1, 1), (2, 1), (3, 1), (4, 1), (5, 1)] [.int .i64 0, .string ByteArray.empty, .string ByteArray.empty, .int .u64 0, .int .i64 0, .slice none 0 0] (vs.map fun p => (p.1, p.2.cells.toList))) H := dBuild_at (by kernel_rfl) (by kernel_rfl)
theorem cl42 {d : Option Tmp} {args : Array Operand} {ats : Array TypeId} {ty : TypeId} {pos : String} {af : Array Edge} {g : Option (Nat × Bool)} {tm : Tr Value} {H : Heap} : dop Tryd.prog ⟨d, .call ⟨.value (.func 42), args, ats⟩, ty, pos, af, g⟩ (ev tm) H = some (.call 42 (args.toList.map (ev tm))) := dop_call (by kernel_rfl)
theorem cl43 {d : Option Tmp} {args : Array Operand} {ats : Array TypeId} {ty : TypeId} {pos : String} {af : Array Edge} {g : Option (Nat × Bool)} {tm : Tr Value} {H : Heap} : dop Tryd.prog ⟨d, .call ⟨.value (.func 43), args, ats⟩, ty, pos, af, g⟩ (ev tm) H = some (.call 43 (args.toList.map (ev tm))) := dop_call (by kernel_rfl)
theorem cl44 {d : Option Tmp} {args : Array Operand} {ats : Array TypeId} {ty : TypeId} {pos : String} {af : Array Edge} {g : Option (Nat × Bool)} {tm : Tr Value} {H : Heap} : dop Tryd.prog ⟨d, .call ⟨.value (.func 44), args, ats⟩, ty, pos, af, g⟩ (ev tm) H = some (.call 44 (args.toList.map (ev tm))) := dop_call (by kernel_rfl)
theorem cl46 {d : Option Tmp} {args : Array Operand} {ats : Array TypeId} {ty : TypeId} {pos : String} {af : Array Edge} {g : Option (Nat × Bool)} {tm : Tr Value} {H : Heap} : dop Tryd.prog ⟨d, .call ⟨.value (.func 46), args, ats⟩, ty, pos, af, g⟩ (ev tm) H = some (.call 46 (args.toList.map (ev tm))) := dop_call (by kernel_rfl)
theorem cl45 {d : Option Tmp} {args : Array Operand} {ats : Array TypeId} {ty : TypeId} {pos : String} {af : Array Edge} {g : Option (Nat × Bool)} {tm : Tr Value} {H : Heap} : dop Tryd.prog ⟨d, .call ⟨.value (.func 45), args, ats⟩, ty, pos, af, g⟩ (ev tm) H = some (.call 45 (args.toList.map (ev tm))) := dop_call (by kernel_rfl)
theorem bs24_1 {v0 : Value} {H : Heap} : dBuildS Tryd.prog 24 1 [(0, v0)] H = dBs 26 1 (([(0, v0)] : List (Nat × Value)).all fun p => p.2.cells.toList.all one) (layC [(0, 6)] [.int .i64 0, .string ByteArray.empty, .string ByteArray.empty, .int .u64 0, .int .i64 0, .slice none 0 0] (([(0, v0)] : List (Nat × Value)).map fun p => (p.1, p.2.cells.toList))) H := dBuildS_at (size := 6) (by kernel_rfl) rfl
theorem cl47 {d : Option Tmp} {args : Array Operand} {ats : Array TypeId} {ty : TypeId} {pos : String} {af : Array Edge} {g : Option (Nat × Bool)} {tm : Tr Value} {H : Heap} : dop Tryd.prog ⟨d, .call ⟨.value (.func 47), args, ats⟩, ty, pos, af, g⟩ (ev tm) H = some (.call 47 (args.toList.map (ev tm))) := dop_call (by kernel_rfl)
theorem bs46_2 {v0 v1 : Value} {H : Heap} : dBuildS Tryd.prog 46 2 [(0, v0), (1, v1)] H = dBs 3 2 (([(0, v0), (1, v1)] : List (Nat × Value)).all fun p => p.2.cells.toList.all one) (layC [(0, 1), (1, 1)] [.int .i64 0, .int .i64 0] (([(0, v0), (1, v1)] : List (Nat × Value)).map fun p => (p.1, p.2.cells.toList))) H := dBuildS_at (size := 1) (by kernel_rfl) rfl
theorem cl48 {d : Option Tmp} {args : Array Operand} {ats : Array TypeId} {ty : TypeId} {pos : String} {af : Array Edge} {g : Option (Nat × Bool)} {tm : Tr Value} {H : Heap} : dop Tryd.prog ⟨d, .call ⟨.value (.func 48), args, ats⟩, ty, pos, af, g⟩ (ev tm) H = some (.call 48 (args.toList.map (ev tm))) := dop_call (by kernel_rfl)
theorem cl49 {d : Option Tmp} {args : Array Operand} {ats : Array TypeId} {ty : TypeId} {pos : String} {af : Array Edge} {g : Option (Nat × Bool)} {tm : Tr Value} {H : Heap} : dop Tryd.prog ⟨d, .call ⟨.value (.func 49), args, ats⟩, ty, pos, af, g⟩ (ev tm) H = some (.call 49 (args.toList.map (ev tm))) := dop_call (by kernel_rfl)
theorem cl50 {d : Option Tmp} {args : Array Operand} {ats : Array TypeId} {ty : TypeId} {pos : String} {af : Array Edge} {g : Option (Nat × Bool)} {tm : Tr Value} {H : Heap} : dop Tryd.prog ⟨d, .call ⟨.value (.func 50), args, ats⟩, ty, pos, af, g⟩ (ev tm) H = some (.call 50 (args.toList.map (ev tm))) := dop_call (by kernel_rfl)
theorem cl51 {d : Option Tmp} {args : Array Operand} {ats : Array TypeId} {ty : TypeId} {pos : String} {af : Array Edge} {g : Option (Nat × Bool)} {tm : Tr Value} {H : Heap} : dop Tryd.prog ⟨d, .call ⟨.value (.func 51), args, ats⟩, ty, pos, af, g⟩ (ev tm) H = some (.call 51 (args.toList.map (ev tm))) := dop_call (by kernel_rfl)
theorem cl52 {d : Option Tmp} {args : Array Operand} {ats : Array TypeId} {ty : TypeId} {pos : String} {af : Array Edge} {g : Option (Nat × Bool)} {tm : Tr Value} {H : Heap} : dop Tryd.prog ⟨d, .call ⟨.value (.func 52), args, ats⟩, ty, pos, af, g⟩ (ev tm) H = some (.call 52 (args.toList.map (ev tm))) := dop_call (by kernel_rfl)
theorem cl53 {d : Option Tmp} {args : Array Operand} {ats : Array TypeId} {ty : TypeId} {pos : String} {af : Array Edge} {g : Option (Nat × Bool)} {tm : Tr Value} {H : Heap} : dop Tryd.prog ⟨d, .call ⟨.value (.func 53), args, ats⟩, ty, pos, af, g⟩ (ev tm) H = some (.call 53 (args.toList.map (ev tm))) := dop_call (by kernel_rfl)
theorem cl54 {d : Option Tmp} {args : Array Operand} {ats : Array TypeId} {ty : TypeId} {pos : String} {af : Array Edge} {g : Option (Nat × Bool)} {tm : Tr Value} {H : Heap} : dop Tryd.prog ⟨d, .call ⟨.value (.func 54), args, ats⟩, ty, pos, af, g⟩ (ev tm) H = some (.call 54 (args.toList.map (ev tm))) := dop_call (by kernel_rfl)
theorem fa26_0 {b o : Nat} {H : Heap} : dFieldAddr Tryd.prog 26 (.pointer (some ⟨b, o, none⟩)) 0 H = some (.val (.pointer (some ⟨b, o + 0, none⟩)) H) := dFieldAddr_at (u := 3) (by kernel_rfl) (by kernel_rfl)
theorem cl56 {d : Option Tmp} {args : Array Operand} {ats : Array TypeId} {ty : TypeId} {pos : String} {af : Array Edge} {g : Option (Nat × Bool)} {tm : Tr Value} {H : Heap} : dop Tryd.prog ⟨d, .call ⟨.value (.func 56), args, ats⟩, ty, pos, af, g⟩ (ev tm) H = some (.call 56 (args.toList.map (ev tm))) := dop_call (by kernel_rfl)
theorem cl55 {d : Option Tmp} {args : Array Operand} {ats : Array TypeId} {ty : TypeId} {pos : String} {af : Array Edge} {g : Option (Nat × Bool)} {tm : Tr Value} {H : Heap} : dop Tryd.prog ⟨d, .call ⟨.value (.func 55), args, ats⟩, ty, pos, af, g⟩ (ev tm) H = some (.call 55 (args.toList.map (ev tm))) := dop_call (by kernel_rfl)
theorem fa26_4 {b o : Nat} {H : Heap} : dFieldAddr Tryd.prog 26 (.pointer (some ⟨b, o, none⟩)) 4 H = some (.val (.pointer (some ⟨b, o + 4, none⟩)) H) := dFieldAddr_at (u := 3) (by kernel_rfl) (by kernel_rfl)
theorem fa26_2 {b o : Nat} {H : Heap} : dFieldAddr Tryd.prog 26 (.pointer (some ⟨b, o, none⟩)) 2 H = some (.val (.pointer (some ⟨b, o + 2, none⟩)) H) := dFieldAddr_at (u := 9) (by kernel_rfl) (by kernel_rfl)
theorem ld9 {ad : Addr} {H : Heap} : dLoad Tryd.prog 9 (.pointer (some ad)) H = dload1 (H.load ad 1) H := dLoad_one (by kernel_rfl)
theorem cl57 {d : Option Tmp} {args : Array Operand} {ats : Array TypeId} {ty : TypeId} {pos : String} {af : Array Edge} {g : Option (Nat × Bool)} {tm : Tr Value} {H : Heap} : dop Tryd.prog ⟨d, .call ⟨.value (.func 57), args, ats⟩, ty, pos, af, g⟩ (ev tm) H = some (.call 57 (args.toList.map (ev tm))) := dop_call (by kernel_rfl)
theorem fa26_3 {b o : Nat} {H : Heap} : dFieldAddr Tryd.prog 26 (.pointer (some ⟨b, o, none⟩)) 3 H = some (.val (.pointer (some ⟨b, o + 3, none⟩)) H) := dFieldAddr_at (u := 23) (by kernel_rfl) (by kernel_rfl)
theorem ld23 {ad : Addr} {H : Heap} : dLoad Tryd.prog 23 (.pointer (some ad)) H = dload1 (H.load ad 1) H := dLoad_one (by kernel_rfl)
theorem cl58 {d : Option Tmp} {args : Array Operand} {ats : Array TypeId} {ty : TypeId} {pos : String} {af : Array Edge} {g : Option (Nat × Bool)} {tm : Tr Value} {H : Heap} : dop Tryd.prog ⟨d, .call ⟨.value (.func 58), args, ats⟩, ty, pos, af, g⟩ (ev tm) H = some (.call 58 (args.toList.map (ev tm))) := dop_call (by kernel_rfl)
theorem fa26_1 {b o : Nat} {H : Heap} : dFieldAddr Tryd.prog 26 (.pointer (some ⟨b, o, none⟩)) 1 H = some (.val (.pointer (some ⟨b, o + 1, none⟩)) H) := dFieldAddr_at (u := 9) (by kernel_rfl) (by kernel_rfl)
theorem cl59 {d : Option Tmp} {args : Array Operand} {ats : Array TypeId} {ty : TypeId} {pos : String} {af : Array Edge} {g : Option (Nat × Bool)} {tm : Tr Value} {H : Heap} : dop Tryd.prog ⟨d, .call ⟨.value (.func 59), args, ats⟩, ty, pos, af, g⟩ (ev tm) H = some (.call 59 (args.toList.map (ev tm))) := dop_call (by kernel_rfl)
theorem fa26_5 {b o : Nat} {H : Heap} : dFieldAddr Tryd.prog 26 (.pointer (some ⟨b, o, none⟩)) 5 H = some (.val (.pointer (some ⟨b, o + 5, none⟩)) H) := dFieldAddr_at (u := 24) (by kernel_rfl) (by kernel_rfl)
theorem ld24 {ad : Addr} {H : Heap} : dLoad Tryd.prog 24 (.pointer (some ad)) H = dload1 (H.load ad 1) H := dLoad_one (by kernel_rfl)
theorem bs109_2 {v0 v1 : Value} {H : Heap} : dBuildS Tryd.prog 109 2 [(0, v0), (1, v1)] H = dBs 28 2 (([(0, v0), (1, v1)] : List (Nat × Value)).all fun p => p.2.cells.toList.all one) (layC [(0, 1), (1, 1)] [.int .i64 0, .int .i64 0] (([(0, v0), (1, v1)] : List (Nat × Value)).map fun p => (p.1, p.2.cells.toList))) H := dBuildS_at (size := 1) (by kernel_rfl) rfl
theorem cl60 {d : Option Tmp} {args : Array Operand} {ats : Array TypeId} {ty : TypeId} {pos : String} {af : Array Edge} {g : Option (Nat × Bool)} {tm : Tr Value} {H : Heap} : dop Tryd.prog ⟨d, .call ⟨.value (.func 60), args, ats⟩, ty, pos, af, g⟩ (ev tm) H = some (.call 60 (args.toList.map (ev tm))) := dop_call (by kernel_rfl)
theorem cl61 {d : Option Tmp} {args : Array Operand} {ats : Array TypeId} {ty : TypeId} {pos : String} {af : Array Edge} {g : Option (Nat × Bool)} {tm : Tr Value} {H : Heap} : dop Tryd.prog ⟨d, .call ⟨.value (.func 61), args, ats⟩, ty, pos, af, g⟩ (ev tm) H = some (.call 61 (args.toList.map (ev tm))) := dop_call (by kernel_rfl)
theorem cl62 {d : Option Tmp} {args : Array Operand} {ats : Array TypeId} {ty : TypeId} {pos : String} {af : Array Edge} {g : Option (Nat × Bool)} {tm : Tr Value} {H : Heap} : dop Tryd.prog ⟨d, .call ⟨.value (.func 62), args, ats⟩, ty, pos, af, g⟩ (ev tm) H = some (.call 62 (args.toList.map (ev tm))) := dop_call (by kernel_rfl)
theorem cl63 {d : Option Tmp} {args : Array Operand} {ats : Array TypeId} {ty : TypeId} {pos : String} {af : Array Edge} {g : Option (Nat × Bool)} {tm : Tr Value} {H : Heap} : dop Tryd.prog ⟨d, .call ⟨.value (.func 63), args, ats⟩, ty, pos, af, g⟩ (ev tm) H = some (.call 63 (args.toList.map (ev tm))) := dop_call (by kernel_rfl)
theorem ap24 : apOk Tryd.prog 24 26 6 := apOk_of (by kernel_rfl)
theorem st24 {b o : Nat} {H : Heap} {a : Option Addr} {n c : Nat} : dStore Tryd.prog 24 (.pointer (some ⟨b, o, none⟩)) (.slice a n c) H = dStoreB ⟨b, o, none⟩ [.slice a n c] H (H.get b) := dStore_slice (by kernel_rfl) (by kernel_rfl)
theorem cl64 {d : Option Tmp} {args : Array Operand} {ats : Array TypeId} {ty : TypeId} {pos : String} {af : Array Edge} {g : Option (Nat × Bool)} {tm : Tr Value} {H : Heap} : dop Tryd.prog ⟨d, .call ⟨.value (.func 64), args, ats⟩, ty, pos, af, g⟩ (ev tm) H = some (.call 64 (args.toList.map (ev tm))) := dop_call (by kernel_rfl)
theorem cl65 {d : Option Tmp} {args : Array Operand} {ats : Array TypeId} {ty : TypeId} {pos : String} {af : Array Edge} {g : Option (Nat × Bool)} {tm : Tr Value} {H : Heap} : dop Tryd.prog ⟨d, .call ⟨.value (.func 65), args, ats⟩, ty, pos, af, g⟩ (ev tm) H = some (.call 65 (args.toList.map (ev tm))) := dop_call (by kernel_rfl)
theorem cl66 {d : Option Tmp} {args : Array Operand} {ats : Array TypeId} {ty : TypeId} {pos : String} {af : Array Edge} {g : Option (Nat × Bool)} {tm : Tr Value} {H : Heap} : dop Tryd.prog ⟨d, .call ⟨.value (.func 66), args, ats⟩, ty, pos, af, g⟩ (ev tm) H = some (.call 66 (args.toList.map (ev tm))) := dop_call (by kernel_rfl)
theorem zr90 : zerosOf Tryd.prog 90 = some [.map none] := by kernel_rfl
theorem st90 {b o : Nat} {H : Heap} {a : Option Nat} : dStore Tryd.prog 90 (.pointer (some ⟨b, o, none⟩)) (.map a) H = dStoreB ⟨b, o, none⟩ [.map a] H (H.get b) := dStore_map1 (by kernel_rfl) (by kernel_rfl)
theorem ld90 {ad : Addr} {H : Heap} : dLoad Tryd.prog 90 (.pointer (some ad)) H = dload1 (H.load ad 1) H := dLoad_one (by kernel_rfl)
theorem mk24 : mkOk Tryd.prog 24 26 [.int .i64 0, .string ByteArray.empty, .string ByteArray.empty, .int .u64 0, .int .i64 0, .slice none 0 0] := mkOk_of (by kernel_rfl)
theorem cf68 : callable Tryd.prog 68 = true := by kernel_rfl
theorem cl67 {d : Option Tmp} {args : Array Operand} {ats : Array TypeId} {ty : TypeId} {pos : String} {af : Array Edge} {g : Option (Nat × Bool)} {tm : Tr Value} {H : Heap} : dop Tryd.prog ⟨d, .call ⟨.value (.func 67), args, ats⟩, ty, pos, af, g⟩ (ev tm) H = some (.call 67 (args.toList.map (ev tm))) := dop_call (by kernel_rfl)
theorem zr93 : zerosOf Tryd.prog 93 = some [.map none] := by kernel_rfl
theorem st93 {b o : Nat} {H : Heap} {a : Option Nat} : dStore Tryd.prog 93 (.pointer (some ⟨b, o, none⟩)) (.map a) H = dStoreB ⟨b, o, none⟩ [.map a] H (H.get b) := dStore_map1 (by kernel_rfl) (by kernel_rfl)
theorem ld59 {ad : Addr} {H : Heap} : dLoad Tryd.prog 59 (.pointer (some ad)) H = dloadA 7 (H.load ad 7) H := dLoad_cells (by kernel_rfl) (by kernel_rfl)
theorem zr59 : zerosOf Tryd.prog 59 = some [.int .i64 0, .int .i64 0, .string ByteArray.empty, .string ByteArray.empty, .int .u64 0, .int .i64 0, .slice none 0 0] := by kernel_rfl
theorem st59 {b o : Nat} {H : Heap} {cs : List Value} : dStore Tryd.prog 59 (.pointer (some ⟨b, o, none⟩)) (.agg ⟨cs⟩) H = dStoreIf (Nat.beq cs.length 7) ⟨b, o, none⟩ cs H (H.get b) := dStore_cells (by kernel_rfl) (by kernel_rfl)
theorem ld93 {ad : Addr} {H : Heap} : dLoad Tryd.prog 93 (.pointer (some ad)) H = dload1 (H.load ad 1) H := dLoad_one (by kernel_rfl)
theorem zr3 : zerosOf Tryd.prog 3 = some [.int .i64 0] := by kernel_rfl
theorem cf70 : callable Tryd.prog 70 = true := by kernel_rfl
theorem cl69 {d : Option Tmp} {args : Array Operand} {ats : Array TypeId} {ty : TypeId} {pos : String} {af : Array Edge} {g : Option (Nat × Bool)} {tm : Tr Value} {H : Heap} : dop Tryd.prog ⟨d, .call ⟨.value (.func 69), args, ats⟩, ty, pos, af, g⟩ (ev tm) H = some (.call 69 (args.toList.map (ev tm))) := dop_call (by kernel_rfl)
theorem cf71 : callable Tryd.prog 71 = true := by kernel_rfl
theorem sl57 : slcOk Tryd.prog 57 59 7 := ⟨by kernel_rfl, by kernel_rfl, by kernel_rfl⟩
theorem cl72 {d : Option Tmp} {args : Array Operand} {ats : Array TypeId} {ty : TypeId} {pos : String} {af : Array Edge} {g : Option (Nat × Bool)} {tm : Tr Value} {H : Heap} : dop Tryd.prog ⟨d, .call ⟨.value (.func 72), args, ats⟩, ty, pos, af, g⟩ (ev tm) H = some (.call 72 (args.toList.map (ev tm))) := dop_call (by kernel_rfl)
theorem cl73 {d : Option Tmp} {args : Array Operand} {ats : Array TypeId} {ty : TypeId} {pos : String} {af : Array Edge} {g : Option (Nat × Bool)} {tm : Tr Value} {H : Heap} : dop Tryd.prog ⟨d, .call ⟨.value (.func 73), args, ats⟩, ty, pos, af, g⟩ (ev tm) H = some (.call 73 (args.toList.map (ev tm))) := dop_call (by kernel_rfl)
theorem cl74 {d : Option Tmp} {args : Array Operand} {ats : Array TypeId} {ty : TypeId} {pos : String} {af : Array Edge} {g : Option (Nat × Bool)} {tm : Tr Value} {H : Heap} : dop Tryd.prog ⟨d, .call ⟨.value (.func 74), args, ats⟩, ty, pos, af, g⟩ (ev tm) H = some (.call 74 (args.toList.map (ev tm))) := dop_call (by kernel_rfl)
theorem cl75 {d : Option Tmp} {args : Array Operand} {ats : Array TypeId} {ty : TypeId} {pos : String} {af : Array Edge} {g : Option (Nat × Bool)} {tm : Tr Value} {H : Heap} : dop Tryd.prog ⟨d, .call ⟨.value (.func 75), args, ats⟩, ty, pos, af, g⟩ (ev tm) H = some (.call 75 (args.toList.map (ev tm))) := dop_call (by kernel_rfl)
theorem cl76 {d : Option Tmp} {args : Array Operand} {ats : Array TypeId} {ty : TypeId} {pos : String} {af : Array Edge} {g : Option (Nat × Bool)} {tm : Tr Value} {H : Heap} : dop Tryd.prog ⟨d, .call ⟨.value (.func 76), args, ats⟩, ty, pos, af, g⟩ (ev tm) H = some (.call 76 (args.toList.map (ev tm))) := dop_call (by kernel_rfl)
theorem cl77 {d : Option Tmp} {args : Array Operand} {ats : Array TypeId} {ty : TypeId} {pos : String} {af : Array Edge} {g : Option (Nat × Bool)} {tm : Tr Value} {H : Heap} : dop Tryd.prog ⟨d, .call ⟨.value (.func 77), args, ats⟩, ty, pos, af, g⟩ (ev tm) H = some (.call 77 (args.toList.map (ev tm))) := dop_call (by kernel_rfl)
theorem zr35 : zerosOf Tryd.prog 35 = some [.nilFunc] := by kernel_rfl
theorem cf80 : callable Tryd.prog 80 = true := by kernel_rfl
theorem st35 {b o : Nat} {H : Heap} {f : Fn} {x y : Array Value} : dStore Tryd.prog 35 (.pointer (some ⟨b, o, none⟩)) (.func f x y) H = dStoreB ⟨b, o, none⟩ [.func f x y] H (H.get b) := dStore_func1 (by kernel_rfl) (by kernel_rfl)
theorem ld35 {ad : Addr} {H : Heap} : dLoad Tryd.prog 35 (.pointer (some ad)) H = dload1 (H.load ad 1) H := dLoad_one (by kernel_rfl)
theorem cl81 {d : Option Tmp} {args : Array Operand} {ats : Array TypeId} {ty : TypeId} {pos : String} {af : Array Edge} {g : Option (Nat × Bool)} {tm : Tr Value} {H : Heap} : dop Tryd.prog ⟨d, .call ⟨.value (.func 81), args, ats⟩, ty, pos, af, g⟩ (ev tm) H = some (.call 81 (args.toList.map (ev tm))) := dop_call (by kernel_rfl)
theorem bs24_0 {H : Heap} : dBuildS Tryd.prog 24 0 [] H = dBs 26 0 (([] : List (Nat × Value)).all fun p => p.2.cells.toList.all one) (layC [] [] (([] : List (Nat × Value)).map fun p => (p.1, p.2.cells.toList))) H := dBuildS_at (size := 6) (by kernel_rfl) rfl
theorem cl84 {d : Option Tmp} {args : Array Operand} {ats : Array TypeId} {ty : TypeId} {pos : String} {af : Array Edge} {g : Option (Nat × Bool)} {tm : Tr Value} {H : Heap} : dop Tryd.prog ⟨d, .call ⟨.value (.func 84), args, ats⟩, ty, pos, af, g⟩ (ev tm) H = some (.call 84 (args.toList.map (ev tm))) := dop_call (by kernel_rfl)
theorem cl85 {d : Option Tmp} {args : Array Operand} {ats : Array TypeId} {ty : TypeId} {pos : String} {af : Array Edge} {g : Option (Nat × Bool)} {tm : Tr Value} {H : Heap} : dop Tryd.prog ⟨d, .call ⟨.value (.func 85), args, ats⟩, ty, pos, af, g⟩ (ev tm) H = some (.call 85 (args.toList.map (ev tm))) := dop_call (by kernel_rfl)
theorem cl86 {d : Option Tmp} {args : Array Operand} {ats : Array TypeId} {ty : TypeId} {pos : String} {af : Array Edge} {g : Option (Nat × Bool)} {tm : Tr Value} {H : Heap} : dop Tryd.prog ⟨d, .call ⟨.value (.func 86), args, ats⟩, ty, pos, af, g⟩ (ev tm) H = some (.call 86 (args.toList.map (ev tm))) := dop_call (by kernel_rfl)
theorem cl83 {d : Option Tmp} {args : Array Operand} {ats : Array TypeId} {ty : TypeId} {pos : String} {af : Array Edge} {g : Option (Nat × Bool)} {tm : Tr Value} {H : Heap} : dop Tryd.prog ⟨d, .call ⟨.value (.func 83), args, ats⟩, ty, pos, af, g⟩ (ev tm) H = some (.call 83 (args.toList.map (ev tm))) := dop_call (by kernel_rfl)
theorem cl87 {d : Option Tmp} {args : Array Operand} {ats : Array TypeId} {ty : TypeId} {pos : String} {af : Array Edge} {g : Option (Nat × Bool)} {tm : Tr Value} {H : Heap} : dop Tryd.prog ⟨d, .call ⟨.value (.func 87), args, ats⟩, ty, pos, af, g⟩ (ev tm) H = some (.call 87 (args.toList.map (ev tm))) := dop_call (by kernel_rfl)
theorem cl88 {d : Option Tmp} {args : Array Operand} {ats : Array TypeId} {ty : TypeId} {pos : String} {af : Array Edge} {g : Option (Nat × Bool)} {tm : Tr Value} {H : Heap} : dop Tryd.prog ⟨d, .call ⟨.value (.func 88), args, ats⟩, ty, pos, af, g⟩ (ev tm) H = some (.call 88 (args.toList.map (ev tm))) := dop_call (by kernel_rfl)
theorem cl91 {d : Option Tmp} {args : Array Operand} {ats : Array TypeId} {ty : TypeId} {pos : String} {af : Array Edge} {g : Option (Nat × Bool)} {tm : Tr Value} {H : Heap} : dop Tryd.prog ⟨d, .call ⟨.value (.func 91), args, ats⟩, ty, pos, af, g⟩ (ev tm) H = some (.call 91 (args.toList.map (ev tm))) := dop_call (by kernel_rfl)
theorem cl90 {d : Option Tmp} {args : Array Operand} {ats : Array TypeId} {ty : TypeId} {pos : String} {af : Array Edge} {g : Option (Nat × Bool)} {tm : Tr Value} {H : Heap} : dop Tryd.prog ⟨d, .call ⟨.value (.func 90), args, ats⟩, ty, pos, af, g⟩ (ev tm) H = some (.call 90 (args.toList.map (ev tm))) := dop_call (by kernel_rfl)
theorem ix9 {s : ByteArray} {k : IntKind} {i : Nat} {H : Heap} (h : i < s.size) : dIdx Tryd.prog 9 (.string s) (.int k (i : Int)) H = some (.val (.int .u8 (byteAt s i : Nat)) H) := dIdx_byte (by kernel_rfl) h
theorem iy9 {s : ByteArray} {k : IntKind} {i : Int} {H : Heap} (h0 : 0 ≤ i) (h : i < s.size) : dIdx Tryd.prog 9 (.string s) (.int k i) H = some (.val (.int .u8 (byteAt s i.toNat : Nat)) H) := dIdx_byteI (by kernel_rfl) h0 h
theorem ln9 {ty : TypeId} {s : ByteArray} {H : Heap} : dLn Tryd.prog 9 ty (.string s) H = some (.val (.int .i64 s.size) H) := dLn_string (by kernel_rfl)
theorem ln109 {ty : TypeId} {a : Option Addr} {n c : Nat} {H : Heap} : dLn Tryd.prog 109 ty (.slice a n c) H = some (.val (.int .i64 n) H) := dLn_slice (e := 28) (by kernel_rfl)
theorem ia109 {b o n c i : Nat} {k : IntKind} {H : Heap} (h : i < n) : dIndexAddr Tryd.prog 109 (.slice (some ⟨b, o, none⟩) n c) (.int k (i : Int)) H = some (.val (.pointer (some ⟨b, o + i * 1, none⟩)) H) := dIndexAddr_at (e := 28) (by kernel_rfl) (by kernel_rfl) (by kernel_rfl) h
theorem iz109 {b o n c : Nat} {k : IntKind} {i : Int} {H : Heap} (h0 : 0 ≤ i) (h : i < n) : dIndexAddr Tryd.prog 109 (.slice (some ⟨b, o, none⟩) n c) (.int k i) H = some (.val (.pointer (some ⟨b, o + i.toNat * 1, none⟩)) H) := dIndexAddr_int (e := 28) (by kernel_rfl) (by kernel_rfl) (by kernel_rfl) h0 h
theorem ld28 {ad : Addr} {H : Heap} : dLoad Tryd.prog 28 (.pointer (some ad)) H = dload1 (H.load ad 1) H := dLoad_one (by kernel_rfl)
theorem cf92 : callable Tryd.prog 92 = true := by kernel_rfl
theorem cl93 {d : Option Tmp} {args : Array Operand} {ats : Array TypeId} {ty : TypeId} {pos : String} {af : Array Edge} {g : Option (Nat × Bool)} {tm : Tr Value} {H : Heap} : dop Tryd.prog ⟨d, .call ⟨.value (.func 93), args, ats⟩, ty, pos, af, g⟩ (ev tm) H = some (.call 93 (args.toList.map (ev tm))) := dop_call (by kernel_rfl)
theorem cl94 {d : Option Tmp} {args : Array Operand} {ats : Array TypeId} {ty : TypeId} {pos : String} {af : Array Edge} {g : Option (Nat × Bool)} {tm : Tr Value} {H : Heap} : dop Tryd.prog ⟨d, .call ⟨.value (.func 94), args, ats⟩, ty, pos, af, g⟩ (ev tm) H = some (.call 94 (args.toList.map (ev tm))) := dop_call (by kernel_rfl)
theorem bs46_1 {v0 : Value} {H : Heap} : dBuildS Tryd.prog 46 1 [(0, v0)] H = dBs 3 1 (([(0, v0)] : List (Nat × Value)).all fun p => p.2.cells.toList.all one) (layC [(0, 1)] [.int .i64 0] (([(0, v0)] : List (Nat × Value)).map fun p => (p.1, p.2.cells.toList))) H := dBuildS_at (size := 1) (by kernel_rfl) rfl
theorem ap46 : apOk Tryd.prog 46 3 1 := apOk_of (by kernel_rfl)
theorem zr46 : zerosOf Tryd.prog 46 = some [.slice none 0 0] := by kernel_rfl
theorem cf95 : callable Tryd.prog 95 = true := by kernel_rfl
theorem ld46 {ad : Addr} {H : Heap} : dLoad Tryd.prog 46 (.pointer (some ad)) H = dload1 (H.load ad 1) H := dLoad_one (by kernel_rfl)
theorem cl96 {d : Option Tmp} {args : Array Operand} {ats : Array TypeId} {ty : TypeId} {pos : String} {af : Array Edge} {g : Option (Nat × Bool)} {tm : Tr Value} {H : Heap} : dop Tryd.prog ⟨d, .call ⟨.value (.func 96), args, ats⟩, ty, pos, af, g⟩ (ev tm) H = some (.call 96 (args.toList.map (ev tm))) := dop_call (by kernel_rfl)
theorem cv3_108 {k : IntKind} {n : Int} {H : Heap} : dCon Tryd.prog 3 108 (.int k n) H = some (.val (.int .u64 (IntKind.u64.wrap n)) H) := dCon_int (k := .i64) (by kernel_rfl) (by kernel_rfl)
theorem cl98 {d : Option Tmp} {args : Array Operand} {ats : Array TypeId} {ty : TypeId} {pos : String} {af : Array Edge} {g : Option (Nat × Bool)} {tm : Tr Value} {H : Heap} : dop Tryd.prog ⟨d, .call ⟨.value (.func 98), args, ats⟩, ty, pos, af, g⟩ (ev tm) H = some (.call 98 (args.toList.map (ev tm))) := dop_call (by kernel_rfl)
theorem cl97 {d : Option Tmp} {args : Array Operand} {ats : Array TypeId} {ty : TypeId} {pos : String} {af : Array Edge} {g : Option (Nat × Bool)} {tm : Tr Value} {H : Heap} : dop Tryd.prog ⟨d, .call ⟨.value (.func 97), args, ats⟩, ty, pos, af, g⟩ (ev tm) H = some (.call 97 (args.toList.map (ev tm))) := dop_call (by kernel_rfl)
theorem cl99 {d : Option Tmp} {args : Array Operand} {ats : Array TypeId} {ty : TypeId} {pos : String} {af : Array Edge} {g : Option (Nat × Bool)} {tm : Tr Value} {H : Heap} : dop Tryd.prog ⟨d, .call ⟨.value (.func 99), args, ats⟩, ty, pos, af, g⟩ (ev tm) H = some (.call 99 (args.toList.map (ev tm))) := dop_call (by kernel_rfl)
theorem cl100 {d : Option Tmp} {args : Array Operand} {ats : Array TypeId} {ty : TypeId} {pos : String} {af : Array Edge} {g : Option (Nat × Bool)} {tm : Tr Value} {H : Heap} : dop Tryd.prog ⟨d, .call ⟨.value (.func 100), args, ats⟩, ty, pos, af, g⟩ (ev tm) H = some (.call 100 (args.toList.map (ev tm))) := dop_call (by kernel_rfl)
theorem cl101 {d : Option Tmp} {args : Array Operand} {ats : Array TypeId} {ty : TypeId} {pos : String} {af : Array Edge} {g : Option (Nat × Bool)} {tm : Tr Value} {H : Heap} : dop Tryd.prog ⟨d, .call ⟨.value (.func 101), args, ats⟩, ty, pos, af, g⟩ (ev tm) H = some (.call 101 (args.toList.map (ev tm))) := dop_call (by kernel_rfl)
theorem cl102 {d : Option Tmp} {args : Array Operand} {ats : Array TypeId} {ty : TypeId} {pos : String} {af : Array Edge} {g : Option (Nat × Bool)} {tm : Tr Value} {H : Heap} : dop Tryd.prog ⟨d, .call ⟨.value (.func 102), args, ats⟩, ty, pos, af, g⟩ (ev tm) H = some (.call 102 (args.toList.map (ev tm))) := dop_call (by kernel_rfl)
theorem cl103 {d : Option Tmp} {args : Array Operand} {ats : Array TypeId} {ty : TypeId} {pos : String} {af : Array Edge} {g : Option (Nat × Bool)} {tm : Tr Value} {H : Heap} : dop Tryd.prog ⟨d, .call ⟨.value (.func 103), args, ats⟩, ty, pos, af, g⟩ (ev tm) H = some (.call 103 (args.toList.map (ev tm))) := dop_call (by kernel_rfl)
theorem cl104 {d : Option Tmp} {args : Array Operand} {ats : Array TypeId} {ty : TypeId} {pos : String} {af : Array Edge} {g : Option (Nat × Bool)} {tm : Tr Value} {H : Heap} : dop Tryd.prog ⟨d, .call ⟨.value (.func 104), args, ats⟩, ty, pos, af, g⟩ (ev tm) H = some (.call 104 (args.toList.map (ev tm))) := dop_call (by kernel_rfl)
theorem cl105 {d : Option Tmp} {args : Array Operand} {ats : Array TypeId} {ty : TypeId} {pos : String} {af : Array Edge} {g : Option (Nat × Bool)} {tm : Tr Value} {H : Heap} : dop Tryd.prog ⟨d, .call ⟨.value (.func 105), args, ats⟩, ty, pos, af, g⟩ (ev tm) H = some (.call 105 (args.toList.map (ev tm))) := dop_call (by kernel_rfl)
theorem cl106 {d : Option Tmp} {args : Array Operand} {ats : Array TypeId} {ty : TypeId} {pos : String} {af : Array Edge} {g : Option (Nat × Bool)} {tm : Tr Value} {H : Heap} : dop Tryd.prog ⟨d, .call ⟨.value (.func 106), args, ats⟩, ty, pos, af, g⟩ (ev tm) H = some (.call 106 (args.toList.map (ev tm))) := dop_call (by kernel_rfl)
theorem cl107 {d : Option Tmp} {args : Array Operand} {ats : Array TypeId} {ty : TypeId} {pos : String} {af : Array Edge} {g : Option (Nat × Bool)} {tm : Tr Value} {H : Heap} : dop Tryd.prog ⟨d, .call ⟨.value (.func 107), args, ats⟩, ty, pos, af, g⟩ (ev tm) H = some (.call 107 (args.toList.map (ev tm))) := dop_call (by kernel_rfl)
theorem cl108 {d : Option Tmp} {args : Array Operand} {ats : Array TypeId} {ty : TypeId} {pos : String} {af : Array Edge} {g : Option (Nat × Bool)} {tm : Tr Value} {H : Heap} : dop Tryd.prog ⟨d, .call ⟨.value (.func 108), args, ats⟩, ty, pos, af, g⟩ (ev tm) H = some (.call 108 (args.toList.map (ev tm))) := dop_call (by kernel_rfl)
theorem cl109 {d : Option Tmp} {args : Array Operand} {ats : Array TypeId} {ty : TypeId} {pos : String} {af : Array Edge} {g : Option (Nat × Bool)} {tm : Tr Value} {H : Heap} : dop Tryd.prog ⟨d, .call ⟨.value (.func 109), args, ats⟩, ty, pos, af, g⟩ (ev tm) H = some (.call 109 (args.toList.map (ev tm))) := dop_call (by kernel_rfl)
theorem cl110 {d : Option Tmp} {args : Array Operand} {ats : Array TypeId} {ty : TypeId} {pos : String} {af : Array Edge} {g : Option (Nat × Bool)} {tm : Tr Value} {H : Heap} : dop Tryd.prog ⟨d, .call ⟨.value (.func 110), args, ats⟩, ty, pos, af, g⟩ (ev tm) H = some (.call 110 (args.toList.map (ev tm))) := dop_call (by kernel_rfl)
theorem st46 {b o : Nat} {H : Heap} {a : Option Addr} {n c : Nat} : dStore Tryd.prog 46 (.pointer (some ⟨b, o, none⟩)) (.slice a n c) H = dStoreB ⟨b, o, none⟩ [.slice a n c] H (H.get b) := dStore_slice (by kernel_rfl) (by kernel_rfl)
theorem cl111 {d : Option Tmp} {args : Array Operand} {ats : Array TypeId} {ty : TypeId} {pos : String} {af : Array Edge} {g : Option (Nat × Bool)} {tm : Tr Value} {H : Heap} : dop Tryd.prog ⟨d, .call ⟨.value (.func 111), args, ats⟩, ty, pos, af, g⟩ (ev tm) H = some (.call 111 (args.toList.map (ev tm))) := dop_call (by kernel_rfl)
theorem cl112 {d : Option Tmp} {args : Array Operand} {ats : Array TypeId} {ty : TypeId} {pos : String} {af : Array Edge} {g : Option (Nat × Bool)} {tm : Tr Value} {H : Heap} : dop Tryd.prog ⟨d, .call ⟨.value (.func 112), args, ats⟩, ty, pos, af, g⟩ (ev tm) H = some (.call 112 (args.toList.map (ev tm))) := dop_call (by kernel_rfl)
theorem cl113 {d : Option Tmp} {args : Array Operand} {ats : Array TypeId} {ty : TypeId} {pos : String} {af : Array Edge} {g : Option (Nat × Bool)} {tm : Tr Value} {H : Heap} : dop Tryd.prog ⟨d, .call ⟨.value (.func 113), args, ats⟩, ty, pos, af, g⟩ (ev tm) H = some (.call 113 (args.toList.map (ev tm))) := dop_call (by kernel_rfl)
theorem cl114 {d : Option Tmp} {args : Array Operand} {ats : Array TypeId} {ty : TypeId} {pos : String} {af : Array Edge} {g : Option (Nat × Bool)} {tm : Tr Value} {H : Heap} : dop Tryd.prog ⟨d, .call ⟨.value (.func 114), args, ats⟩, ty, pos, af, g⟩ (ev tm) H = some (.call 114 (args.toList.map (ev tm))) := dop_call (by kernel_rfl)
theorem cl115 {d : Option Tmp} {args : Array Operand} {ats : Array TypeId} {ty : TypeId} {pos : String} {af : Array Edge} {g : Option (Nat × Bool)} {tm : Tr Value} {H : Heap} : dop Tryd.prog ⟨d, .call ⟨.value (.func 115), args, ats⟩, ty, pos, af, g⟩ (ev tm) H = some (.call 115 (args.toList.map (ev tm))) := dop_call (by kernel_rfl)
theorem cl116 {d : Option Tmp} {args : Array Operand} {ats : Array TypeId} {ty : TypeId} {pos : String} {af : Array Edge} {g : Option (Nat × Bool)} {tm : Tr Value} {H : Heap} : dop Tryd.prog ⟨d, .call ⟨.value (.func 116), args, ats⟩, ty, pos, af, g⟩ (ev tm) H = some (.call 116 (args.toList.map (ev tm))) := dop_call (by kernel_rfl)
theorem cl117 {d : Option Tmp} {args : Array Operand} {ats : Array TypeId} {ty : TypeId} {pos : String} {af : Array Edge} {g : Option (Nat × Bool)} {tm : Tr Value} {H : Heap} : dop Tryd.prog ⟨d, .call ⟨.value (.func 117), args, ats⟩, ty, pos, af, g⟩ (ev tm) H = some (.call 117 (args.toList.map (ev tm))) := dop_call (by kernel_rfl)
theorem cl118 {d : Option Tmp} {args : Array Operand} {ats : Array TypeId} {ty : TypeId} {pos : String} {af : Array Edge} {g : Option (Nat × Bool)} {tm : Tr Value} {H : Heap} : dop Tryd.prog ⟨d, .call ⟨.value (.func 118), args, ats⟩, ty, pos, af, g⟩ (ev tm) H = some (.call 118 (args.toList.map (ev tm))) := dop_call (by kernel_rfl)
theorem cl119 {d : Option Tmp} {args : Array Operand} {ats : Array TypeId} {ty : TypeId} {pos : String} {af : Array Edge} {g : Option (Nat × Bool)} {tm : Tr Value} {H : Heap} : dop Tryd.prog ⟨d, .call ⟨.value (.func 119), args, ats⟩, ty, pos, af, g⟩ (ev tm) H = some (.call 119 (args.toList.map (ev tm))) := dop_call (by kernel_rfl)
theorem cl120 {d : Option Tmp} {args : Array Operand} {ats : Array TypeId} {ty : TypeId} {pos : String} {af : Array Edge} {g : Option (Nat × Bool)} {tm : Tr Value} {H : Heap} : dop Tryd.prog ⟨d, .call ⟨.value (.func 120), args, ats⟩, ty, pos, af, g⟩ (ev tm) H = some (.call 120 (args.toList.map (ev tm))) := dop_call (by kernel_rfl)
theorem cv108_133 {k : IntKind} {n : Int} {H : Heap} : dCon Tryd.prog 108 133 (.int k n) H = some (.val (.int .u32 (IntKind.u32.wrap n)) H) := dCon_int (k := .u64) (by kernel_rfl) (by kernel_rfl)
theorem cl121 {d : Option Tmp} {args : Array Operand} {ats : Array TypeId} {ty : TypeId} {pos : String} {af : Array Edge} {g : Option (Nat × Bool)} {tm : Tr Value} {H : Heap} : dop Tryd.prog ⟨d, .call ⟨.value (.func 121), args, ats⟩, ty, pos, af, g⟩ (ev tm) H = some (.call 121 (args.toList.map (ev tm))) := dop_call (by kernel_rfl)
theorem cl122 {d : Option Tmp} {args : Array Operand} {ats : Array TypeId} {ty : TypeId} {pos : String} {af : Array Edge} {g : Option (Nat × Bool)} {tm : Tr Value} {H : Heap} : dop Tryd.prog ⟨d, .call ⟨.value (.func 122), args, ats⟩, ty, pos, af, g⟩ (ev tm) H = some (.call 122 (args.toList.map (ev tm))) := dop_call (by kernel_rfl)
theorem st9 {b o : Nat} {H : Heap} {s : ByteArray} : dStore Tryd.prog 9 (.pointer (some ⟨b, o, none⟩)) (.string s) H = dStoreB ⟨b, o, none⟩ [.string s] H (H.get b) := dStore_string (by kernel_rfl) (by kernel_rfl)
theorem st23 {b o : Nat} {H : Heap} {k : IntKind} {n : Int} : dStore Tryd.prog 23 (.pointer (some ⟨b, o, none⟩)) (.int k n) H = dStoreB ⟨b, o, none⟩ [.int k n] H (H.get b) := dStore_int (by kernel_rfl) (by kernel_rfl)
theorem us9 : Tryd.prog.underlying 9 = some .string := by kernel_rfl
theorem cl123 {d : Option Tmp} {args : Array Operand} {ats : Array TypeId} {ty : TypeId} {pos : String} {af : Array Edge} {g : Option (Nat × Bool)} {tm : Tr Value} {H : Heap} : dop Tryd.prog ⟨d, .call ⟨.value (.func 123), args, ats⟩, ty, pos, af, g⟩ (ev tm) H = some (.call 123 (args.toList.map (ev tm))) := dop_call (by kernel_rfl)
theorem ld5 {ad : Addr} {H : Heap} : dLoad Tryd.prog 5 (.pointer (some ad)) H = dload1 (H.load ad 1) H := dLoad_one (by kernel_rfl)
theorem cv5_3 {k : IntKind} {n : Int} {H : Heap} : dCon Tryd.prog 5 3 (.int k n) H = some (.val (.int .i64 (IntKind.i64.wrap n)) H) := dCon_int (k := .u8) (by kernel_rfl) (by kernel_rfl)
theorem ld138 {ad : Addr} {H : Heap} : dLoad Tryd.prog 138 (.pointer (some ad)) H = dloadA 2 (H.load ad 2) H := dLoad_cells (by kernel_rfl) (by kernel_rfl)
theorem zr138 : zerosOf Tryd.prog 138 = some [.int .u8 0, .int .u8 0] := by kernel_rfl
theorem st138 {b o : Nat} {H : Heap} {cs : List Value} : dStore Tryd.prog 138 (.pointer (some ⟨b, o, none⟩)) (.agg ⟨cs⟩) H = dStoreIf (Nat.beq cs.length 2) ⟨b, o, none⟩ cs H (H.get b) := dStore_cells (by kernel_rfl) (by kernel_rfl)
theorem fa138_0 {b o : Nat} {H : Heap} : dFieldAddr Tryd.prog 138 (.pointer (some ⟨b, o, none⟩)) 0 H = some (.val (.pointer (some ⟨b, o + 0, none⟩)) H) := dFieldAddr_at (u := 5) (by kernel_rfl) (by kernel_rfl)
theorem fa138_1 {b o : Nat} {H : Heap} : dFieldAddr Tryd.prog 138 (.pointer (some ⟨b, o, none⟩)) 1 H = some (.val (.pointer (some ⟨b, o + 1, none⟩)) H) := dFieldAddr_at (u := 5) (by kernel_rfl) (by kernel_rfl)
theorem cl124 {d : Option Tmp} {args : Array Operand} {ats : Array TypeId} {ty : TypeId} {pos : String} {af : Array Edge} {g : Option (Nat × Bool)} {tm : Tr Value} {H : Heap} : dop Tryd.prog ⟨d, .call ⟨.value (.func 124), args, ats⟩, ty, pos, af, g⟩ (ev tm) H = some (.call 124 (args.toList.map (ev tm))) := dop_call (by kernel_rfl)
theorem zr142 : zerosOf Tryd.prog 142 = some [.bool false, .slice none 0 0] := by kernel_rfl
theorem st142 {b o : Nat} {H : Heap} {cs : List Value} : dStore Tryd.prog 142 (.pointer (some ⟨b, o, none⟩)) (.agg ⟨cs⟩) H = dStoreIf (Nat.beq cs.length 2) ⟨b, o, none⟩ cs H (H.get b) := dStore_cells (by kernel_rfl) (by kernel_rfl)
theorem ld142 {ad : Addr} {H : Heap} : dLoad Tryd.prog 142 (.pointer (some ad)) H = dloadA 2 (H.load ad 2) H := dLoad_cells (by kernel_rfl) (by kernel_rfl)
theorem cl125 {d : Option Tmp} {args : Array Operand} {ats : Array TypeId} {ty : TypeId} {pos : String} {af : Array Edge} {g : Option (Nat × Bool)} {tm : Tr Value} {H : Heap} : dop Tryd.prog ⟨d, .call ⟨.value (.func 125), args, ats⟩, ty, pos, af, g⟩ (ev tm) H = some (.call 125 (args.toList.map (ev tm))) := dop_call (by kernel_rfl)
theorem cl126 {d : Option Tmp} {args : Array Operand} {ats : Array TypeId} {ty : TypeId} {pos : String} {af : Array Edge} {g : Option (Nat × Bool)} {tm : Tr Value} {H : Heap} : dop Tryd.prog ⟨d, .call ⟨.value (.func 126), args, ats⟩, ty, pos, af, g⟩ (ev tm) H = some (.call 126 (args.toList.map (ev tm))) := dop_call (by kernel_rfl)
theorem cl127 {d : Option Tmp} {args : Array Operand} {ats : Array TypeId} {ty : TypeId} {pos : String} {af : Array Edge} {g : Option (Nat × Bool)} {tm : Tr Value} {H : Heap} : dop Tryd.prog ⟨d, .call ⟨.value (.func 127), args, ats⟩, ty, pos, af, g⟩ (ev tm) H = some (.call 127 (args.toList.map (ev tm))) := dop_call (by kernel_rfl)
theorem zr149 : zerosOf Tryd.prog 149 = some [.bool false, .slice none 0 0] := by kernel_rfl
theorem st149 {b o : Nat} {H : Heap} {cs : List Value} : dStore Tryd.prog 149 (.pointer (some ⟨b, o, none⟩)) (.agg ⟨cs⟩) H = dStoreIf (Nat.beq cs.length 2) ⟨b, o, none⟩ cs H (H.get b) := dStore_cells (by kernel_rfl) (by kernel_rfl)
theorem ld149 {ad : Addr} {H : Heap} : dLoad Tryd.prog 149 (.pointer (some ad)) H = dloadA 2 (H.load ad 2) H := dLoad_cells (by kernel_rfl) (by kernel_rfl)
theorem cl128 {d : Option Tmp} {args : Array Operand} {ats : Array TypeId} {ty : TypeId} {pos : String} {af : Array Edge} {g : Option (Nat × Bool)} {tm : Tr Value} {H : Heap} : dop Tryd.prog ⟨d, .call ⟨.value (.func 128), args, ats⟩, ty, pos, af, g⟩ (ev tm) H = some (.call 128 (args.toList.map (ev tm))) := dop_call (by kernel_rfl)
theorem cl129 {d : Option Tmp} {args : Array Operand} {ats : Array TypeId} {ty : TypeId} {pos : String} {af : Array Edge} {g : Option (Nat × Bool)} {tm : Tr Value} {H : Heap} : dop Tryd.prog ⟨d, .call ⟨.value (.func 129), args, ats⟩, ty, pos, af, g⟩ (ev tm) H = some (.call 129 (args.toList.map (ev tm))) := dop_call (by kernel_rfl)
theorem cv108_3 {k : IntKind} {n : Int} {H : Heap} : dCon Tryd.prog 108 3 (.int k n) H = some (.val (.int .i64 (IntKind.i64.wrap n)) H) := dCon_int (k := .u64) (by kernel_rfl) (by kernel_rfl)
theorem cl130 {d : Option Tmp} {args : Array Operand} {ats : Array TypeId} {ty : TypeId} {pos : String} {af : Array Edge} {g : Option (Nat × Bool)} {tm : Tr Value} {H : Heap} : dop Tryd.prog ⟨d, .call ⟨.value (.func 130), args, ats⟩, ty, pos, af, g⟩ (ev tm) H = some (.call 130 (args.toList.map (ev tm))) := dop_call (by kernel_rfl)
theorem cl131 {d : Option Tmp} {args : Array Operand} {ats : Array TypeId} {ty : TypeId} {pos : String} {af : Array Edge} {g : Option (Nat × Bool)} {tm : Tr Value} {H : Heap} : dop Tryd.prog ⟨d, .call ⟨.value (.func 131), args, ats⟩, ty, pos, af, g⟩ (ev tm) H = some (.call 131 (args.toList.map (ev tm))) := dop_call (by kernel_rfl)
theorem cv3_153 {k : IntKind} {n : Int} {H : Heap} : dCon Tryd.prog 3 153 (.int k n) H = some (.val (.int .u64 (IntKind.u64.wrap n)) H) := dCon_int (k := .i64) (by kernel_rfl) (by kernel_rfl)
theorem zr153 : zerosOf Tryd.prog 153 = some [.int .u64 0] := by kernel_rfl
theorem st153 {b o : Nat} {H : Heap} {k : IntKind} {n : Int} : dStore Tryd.prog 153 (.pointer (some ⟨b, o, none⟩)) (.int k n) H = dStoreB ⟨b, o, none⟩ [.int k n] H (H.get b) := dStore_int (by kernel_rfl) (by kernel_rfl)
theorem cl132 {d : Option Tmp} {args : Array Operand} {ats : Array TypeId} {ty : TypeId} {pos : String} {af : Array Edge} {g : Option (Nat × Bool)} {tm : Tr Value} {H : Heap} : dop Tryd.prog ⟨d, .call ⟨.value (.func 132), args, ats⟩, ty, pos, af, g⟩ (ev tm) H = some (.call 132 (args.toList.map (ev tm))) := dop_call (by kernel_rfl)
theorem cl133 {d : Option Tmp} {args : Array Operand} {ats : Array TypeId} {ty : TypeId} {pos : String} {af : Array Edge} {g : Option (Nat × Bool)} {tm : Tr Value} {H : Heap} : dop Tryd.prog ⟨d, .call ⟨.value (.func 133), args, ats⟩, ty, pos, af, g⟩ (ev tm) H = some (.call 133 (args.toList.map (ev tm))) := dop_call (by kernel_rfl)
theorem cl134 {d : Option Tmp} {args : Array Operand} {ats : Array TypeId} {ty : TypeId} {pos : String} {af : Array Edge} {g : Option (Nat × Bool)} {tm : Tr Value} {H : Heap} : dop Tryd.prog ⟨d, .call ⟨.value (.func 134), args, ats⟩, ty, pos, af, g⟩ (ev tm) H = some (.call 134 (args.toList.map (ev tm))) := dop_call (by kernel_rfl)
theorem cl135 {d : Option Tmp} {args : Array Operand} {ats : Array TypeId} {ty : TypeId} {pos : String} {af : Array Edge} {g : Option (Nat × Bool)} {tm : Tr Value} {H : Heap} : dop Tryd.prog ⟨d, .call ⟨.value (.func 135), args, ats⟩, ty, pos, af, g⟩ (ev tm) H = some (.call 135 (args.toList.map (ev tm))) := dop_call (by kernel_rfl)
theorem cv133_5 {k : IntKind} {n : Int} {H : Heap} : dCon Tryd.prog 133 5 (.int k n) H = some (.val (.int .u8 (IntKind.u8.wrap n)) H) := dCon_int (k := .u32) (by kernel_rfl) (by kernel_rfl)
theorem cv23_5 {k : IntKind} {n : Int} {H : Heap} : dCon Tryd.prog 23 5 (.int k n) H = some (.val (.int .u8 (IntKind.u8.wrap n)) H) := dCon_int (k := .u64) (by kernel_rfl) (by kernel_rfl)
theorem cv5_12 {k : IntKind} {n : Int} {H : Heap} : dCon Tryd.prog 5 12 (.int k n) H = some (.val (.int .u64 (IntKind.u64.wrap n)) H) := dCon_int (k := .u8) (by kernel_rfl) (by kernel_rfl)
theorem cv5_23 {k : IntKind} {n : Int} {H : Heap} : dCon Tryd.prog 5 23 (.int k n) H = some (.val (.int .u64 (IntKind.u64.wrap n)) H) := dCon_int (k := .u8) (by kernel_rfl) (by kernel_rfl)
theorem bd142 {vs : List (Nat × Value)} {H : Heap} : dBuild Tryd.prog 142 vs H = dBd (vs.all fun p => p.2.cells.toList.all one) (layC [(0, 1), (1, 1)] [.bool false, .slice none 0 0] (vs.map fun p => (p.1, p.2.cells.toList))) H := dBuild_at (by kernel_rfl) (by kernel_rfl)
theorem cl136 {d : Option Tmp} {args : Array Operand} {ats : Array TypeId} {ty : TypeId} {pos : String} {af : Array Edge} {g : Option (Nat × Bool)} {tm : Tr Value} {H : Heap} : dop Tryd.prog ⟨d, .call ⟨.value (.func 136), args, ats⟩, ty, pos, af, g⟩ (ev tm) H = some (.call 136 (args.toList.map (ev tm))) := dop_call (by kernel_rfl)
theorem cv3_23 {k : IntKind} {n : Int} {H : Heap} : dCon Tryd.prog 3 23 (.int k n) H = some (.val (.int .u64 (IntKind.u64.wrap n)) H) := dCon_int (k := .i64) (by kernel_rfl) (by kernel_rfl)
theorem ln140 {ty : TypeId} {a : Option Addr} {n c : Nat} {H : Heap} : dLn Tryd.prog 140 ty (.slice a n c) H = some (.val (.int .i64 n) H) := dLn_slice (e := 133) (by kernel_rfl)
theorem ia140 {b o n c i : Nat} {k : IntKind} {H : Heap} (h : i < n) : dIndexAddr Tryd.prog 140 (.slice (some ⟨b, o, none⟩) n c) (.int k (i : Int)) H = some (.val (.pointer (some ⟨b, o + i * 1, none⟩)) H) := dIndexAddr_at (e := 133) (by kernel_rfl) (by kernel_rfl) (by kernel_rfl) h
theorem iz140 {b o n c : Nat} {k : IntKind} {i : Int} {H : Heap} (h0 : 0 ≤ i) (h : i < n) : dIndexAddr Tryd.prog 140 (.slice (some ⟨b, o, none⟩) n c) (.int k i) H = some (.val (.pointer (some ⟨b, o + i.toNat * 1, none⟩)) H) := dIndexAddr_int (e := 133) (by kernel_rfl) (by kernel_rfl) (by kernel_rfl) h0 h
theorem ld133 {ad : Addr} {H : Heap} : dLoad Tryd.prog 133 (.pointer (some ad)) H = dload1 (H.load ad 1) H := dLoad_one (by kernel_rfl)
theorem cv133_23 {k : IntKind} {n : Int} {H : Heap} : dCon Tryd.prog 133 23 (.int k n) H = some (.val (.int .u64 (IntKind.u64.wrap n)) H) := dCon_int (k := .u32) (by kernel_rfl) (by kernel_rfl)
theorem cv23_133 {k : IntKind} {n : Int} {H : Heap} : dCon Tryd.prog 23 133 (.int k n) H = some (.val (.int .u32 (IntKind.u32.wrap n)) H) := dCon_int (k := .u64) (by kernel_rfl) (by kernel_rfl)
theorem st133 {b o : Nat} {H : Heap} {k : IntKind} {n : Int} : dStore Tryd.prog 133 (.pointer (some ⟨b, o, none⟩)) (.int k n) H = dStoreB ⟨b, o, none⟩ [.int k n] H (H.get b) := dStore_int (by kernel_rfl) (by kernel_rfl)
theorem bs140_1 {v0 : Value} {H : Heap} : dBuildS Tryd.prog 140 1 [(0, v0)] H = dBs 133 1 (([(0, v0)] : List (Nat × Value)).all fun p => p.2.cells.toList.all one) (layC [(0, 1)] [.int .u32 0] (([(0, v0)] : List (Nat × Value)).map fun p => (p.1, p.2.cells.toList))) H := dBuildS_at (size := 1) (by kernel_rfl) rfl
theorem ap140 : apOk Tryd.prog 140 133 1 := apOk_of (by kernel_rfl)
theorem cl137 {d : Option Tmp} {args : Array Operand} {ats : Array TypeId} {ty : TypeId} {pos : String} {af : Array Edge} {g : Option (Nat × Bool)} {tm : Tr Value} {H : Heap} : dop Tryd.prog ⟨d, .call ⟨.value (.func 137), args, ats⟩, ty, pos, af, g⟩ (ev tm) H = some (.call 137 (args.toList.map (ev tm))) := dop_call (by kernel_rfl)
theorem cl138 {d : Option Tmp} {args : Array Operand} {ats : Array TypeId} {ty : TypeId} {pos : String} {af : Array Edge} {g : Option (Nat × Bool)} {tm : Tr Value} {H : Heap} : dop Tryd.prog ⟨d, .call ⟨.value (.func 138), args, ats⟩, ty, pos, af, g⟩ (ev tm) H = some (.call 138 (args.toList.map (ev tm))) := dop_call (by kernel_rfl)
theorem bs174_1 {v0 : Value} {H : Heap} : dBuildS Tryd.prog 174 1 [(0, v0)] H = dBs 142 1 (([(0, v0)] : List (Nat × Value)).all fun p => p.2.cells.toList.all one) (layC [(0, 2)] [.bool false, .slice none 0 0] (([(0, v0)] : List (Nat × Value)).map fun p => (p.1, p.2.cells.toList))) H := dBuildS_at (size := 2) (by kernel_rfl) rfl
theorem cl139 {d : Option Tmp} {args : Array Operand} {ats : Array TypeId} {ty : TypeId} {pos : String} {af : Array Edge} {g : Option (Nat × Bool)} {tm : Tr Value} {H : Heap} : dop Tryd.prog ⟨d, .call ⟨.value (.func 139), args, ats⟩, ty, pos, af, g⟩ (ev tm) H = some (.call 139 (args.toList.map (ev tm))) := dop_call (by kernel_rfl)
theorem fa142_1 {b o : Nat} {H : Heap} : dFieldAddr Tryd.prog 142 (.pointer (some ⟨b, o, none⟩)) 1 H = some (.val (.pointer (some ⟨b, o + 1, none⟩)) H) := dFieldAddr_at (u := 140) (by kernel_rfl) (by kernel_rfl)
theorem ld140 {ad : Addr} {H : Heap} : dLoad Tryd.prog 140 (.pointer (some ad)) H = dload1 (H.load ad 1) H := dLoad_one (by kernel_rfl)
theorem cl141 {d : Option Tmp} {args : Array Operand} {ats : Array TypeId} {ty : TypeId} {pos : String} {af : Array Edge} {g : Option (Nat × Bool)} {tm : Tr Value} {H : Heap} : dop Tryd.prog ⟨d, .call ⟨.value (.func 141), args, ats⟩, ty, pos, af, g⟩ (ev tm) H = some (.call 141 (args.toList.map (ev tm))) := dop_call (by kernel_rfl)
theorem cl140 {d : Option Tmp} {args : Array Operand} {ats : Array TypeId} {ty : TypeId} {pos : String} {af : Array Edge} {g : Option (Nat × Bool)} {tm : Tr Value} {H : Heap} : dop Tryd.prog ⟨d, .call ⟨.value (.func 140), args, ats⟩, ty, pos, af, g⟩ (ev tm) H = some (.call 140 (args.toList.map (ev tm))) := dop_call (by kernel_rfl)
theorem cv3_133 {k : IntKind} {n : Int} {H : Heap} : dCon Tryd.prog 3 133 (.int k n) H = some (.val (.int .u32 (IntKind.u32.wrap n)) H) := dCon_int (k := .i64) (by kernel_rfl) (by kernel_rfl)
theorem cl142 {d : Option Tmp} {args : Array Operand} {ats : Array TypeId} {ty : TypeId} {pos : String} {af : Array Edge} {g : Option (Nat × Bool)} {tm : Tr Value} {H : Heap} : dop Tryd.prog ⟨d, .call ⟨.value (.func 142), args, ats⟩, ty, pos, af, g⟩ (ev tm) H = some (.call 142 (args.toList.map (ev tm))) := dop_call (by kernel_rfl)
theorem bs164_1 {v0 : Value} {H : Heap} : dBuildS Tryd.prog 164 1 [(0, v0)] H = dBs 5 1 (([(0, v0)] : List (Nat × Value)).all fun p => p.2.cells.toList.all one) (layC [(0, 1)] [.int .u8 0] (([(0, v0)] : List (Nat × Value)).map fun p => (p.1, p.2.cells.toList))) H := dBuildS_at (size := 1) (by kernel_rfl) rfl
theorem ap164 : apOk Tryd.prog 164 5 1 := apOk_of (by kernel_rfl)
theorem fa142_0 {b o : Nat} {H : Heap} : dFieldAddr Tryd.prog 142 (.pointer (some ⟨b, o, none⟩)) 0 H = some (.val (.pointer (some ⟨b, o + 0, none⟩)) H) := dFieldAddr_at (u := 4) (by kernel_rfl) (by kernel_rfl)
theorem ld4 {ad : Addr} {H : Heap} : dLoad Tryd.prog 4 (.pointer (some ad)) H = dload1 (H.load ad 1) H := dLoad_one (by kernel_rfl)
theorem ln164 {ty : TypeId} {a : Option Addr} {n c : Nat} {H : Heap} : dLn Tryd.prog 164 ty (.slice a n c) H = some (.val (.int .i64 n) H) := dLn_slice (e := 5) (by kernel_rfl)
theorem ia164 {b o n c i : Nat} {k : IntKind} {H : Heap} (h : i < n) : dIndexAddr Tryd.prog 164 (.slice (some ⟨b, o, none⟩) n c) (.int k (i : Int)) H = some (.val (.pointer (some ⟨b, o + i * 1, none⟩)) H) := dIndexAddr_at (e := 5) (by kernel_rfl) (by kernel_rfl) (by kernel_rfl) h
theorem iz164 {b o n c : Nat} {k : IntKind} {i : Int} {H : Heap} (h0 : 0 ≤ i) (h : i < n) : dIndexAddr Tryd.prog 164 (.slice (some ⟨b, o, none⟩) n c) (.int k i) H = some (.val (.pointer (some ⟨b, o + i.toNat * 1, none⟩)) H) := dIndexAddr_int (e := 5) (by kernel_rfl) (by kernel_rfl) (by kernel_rfl) h0 h
theorem st5 {b o : Nat} {H : Heap} {k : IntKind} {n : Int} : dStore Tryd.prog 5 (.pointer (some ⟨b, o, none⟩)) (.int k n) H = dStoreB ⟨b, o, none⟩ [.int k n] H (H.get b) := dStore_int (by kernel_rfl) (by kernel_rfl)
theorem bd149 {vs : List (Nat × Value)} {H : Heap} : dBuild Tryd.prog 149 vs H = dBd (vs.all fun p => p.2.cells.toList.all one) (layC [(0, 1), (1, 1)] [.bool false, .slice none 0 0] (vs.map fun p => (p.1, p.2.cells.toList))) H := dBuild_at (by kernel_rfl) (by kernel_rfl)
theorem cl144 {d : Option Tmp} {args : Array Operand} {ats : Array TypeId} {ty : TypeId} {pos : String} {af : Array Edge} {g : Option (Nat × Bool)} {tm : Tr Value} {H : Heap} : dop Tryd.prog ⟨d, .call ⟨.value (.func 144), args, ats⟩, ty, pos, af, g⟩ (ev tm) H = some (.call 144 (args.toList.map (ev tm))) := dop_call (by kernel_rfl)
theorem cl145 {d : Option Tmp} {args : Array Operand} {ats : Array TypeId} {ty : TypeId} {pos : String} {af : Array Edge} {g : Option (Nat × Bool)} {tm : Tr Value} {H : Heap} : dop Tryd.prog ⟨d, .call ⟨.value (.func 145), args, ats⟩, ty, pos, af, g⟩ (ev tm) H = some (.call 145 (args.toList.map (ev tm))) := dop_call (by kernel_rfl)
theorem cl146 {d : Option Tmp} {args : Array Operand} {ats : Array TypeId} {ty : TypeId} {pos : String} {af : Array Edge} {g : Option (Nat × Bool)} {tm : Tr Value} {H : Heap} : dop Tryd.prog ⟨d, .call ⟨.value (.func 146), args, ats⟩, ty, pos, af, g⟩ (ev tm) H = some (.call 146 (args.toList.map (ev tm))) := dop_call (by kernel_rfl)
theorem cl147 {d : Option Tmp} {args : Array Operand} {ats : Array TypeId} {ty : TypeId} {pos : String} {af : Array Edge} {g : Option (Nat × Bool)} {tm : Tr Value} {H : Heap} : dop Tryd.prog ⟨d, .call ⟨.value (.func 147), args, ats⟩, ty, pos, af, g⟩ (ev tm) H = some (.call 147 (args.toList.map (ev tm))) := dop_call (by kernel_rfl)
theorem fa149_1 {b o : Nat} {H : Heap} : dFieldAddr Tryd.prog 149 (.pointer (some ⟨b, o, none⟩)) 1 H = some (.val (.pointer (some ⟨b, o + 1, none⟩)) H) := dFieldAddr_at (u := 46) (by kernel_rfl) (by kernel_rfl)
theorem mk46 : mkOk Tryd.prog 46 3 [.int .i64 0] := mkOk_of (by kernel_rfl)
theorem fa149_0 {b o : Nat} {H : Heap} : dFieldAddr Tryd.prog 149 (.pointer (some ⟨b, o, none⟩)) 0 H = some (.val (.pointer (some ⟨b, o + 0, none⟩)) H) := dFieldAddr_at (u := 4) (by kernel_rfl) (by kernel_rfl)
theorem cl148 {d : Option Tmp} {args : Array Operand} {ats : Array TypeId} {ty : TypeId} {pos : String} {af : Array Edge} {g : Option (Nat × Bool)} {tm : Tr Value} {H : Heap} : dop Tryd.prog ⟨d, .call ⟨.value (.func 148), args, ats⟩, ty, pos, af, g⟩ (ev tm) H = some (.call 148 (args.toList.map (ev tm))) := dop_call (by kernel_rfl)
theorem ld153 {ad : Addr} {H : Heap} : dLoad Tryd.prog 153 (.pointer (some ad)) H = dload1 (H.load ad 1) H := dLoad_one (by kernel_rfl)
theorem cl149 {d : Option Tmp} {args : Array Operand} {ats : Array TypeId} {ty : TypeId} {pos : String} {af : Array Edge} {g : Option (Nat × Bool)} {tm : Tr Value} {H : Heap} : dop Tryd.prog ⟨d, .call ⟨.value (.func 149), args, ats⟩, ty, pos, af, g⟩ (ev tm) H = some (.call 149 (args.toList.map (ev tm))) := dop_call (by kernel_rfl)
theorem ln174 {ty : TypeId} {a : Option Addr} {n c : Nat} {H : Heap} : dLn Tryd.prog 174 ty (.slice a n c) H = some (.val (.int .i64 n) H) := dLn_slice (e := 142) (by kernel_rfl)
theorem ia174 {b o n c i : Nat} {k : IntKind} {H : Heap} (h : i < n) : dIndexAddr Tryd.prog 174 (.slice (some ⟨b, o, none⟩) n c) (.int k (i : Int)) H = some (.val (.pointer (some ⟨b, o + i * 2, none⟩)) H) := dIndexAddr_at (e := 142) (by kernel_rfl) (by kernel_rfl) (by kernel_rfl) h
theorem iz174 {b o n c : Nat} {k : IntKind} {i : Int} {H : Heap} (h0 : 0 ≤ i) (h : i < n) : dIndexAddr Tryd.prog 174 (.slice (some ⟨b, o, none⟩) n c) (.int k i) H = some (.val (.pointer (some ⟨b, o + i.toNat * 2, none⟩)) H) := dIndexAddr_int (e := 142) (by kernel_rfl) (by kernel_rfl) (by kernel_rfl) h0 h
theorem mk140 : mkOk Tryd.prog 140 133 [.int .u32 0] := mkOk_of (by kernel_rfl)
theorem sl140 : slcOk Tryd.prog 140 133 1 := ⟨by kernel_rfl, by kernel_rfl, by kernel_rfl⟩
theorem ld176 {ad : Addr} {H : Heap} : dLoad Tryd.prog 176 (.pointer (some ad)) H = dload1 (H.load ad 1) H := dLoad_one (by kernel_rfl)
theorem sl46 : slcOk Tryd.prog 46 3 1 := ⟨by kernel_rfl, by kernel_rfl, by kernel_rfl⟩
theorem bd138 {vs : List (Nat × Value)} {H : Heap} : dBuild Tryd.prog 138 vs H = dBd (vs.all fun p => p.2.cells.toList.all one) (layC [(0, 1), (1, 1)] [.int .u8 0, .int .u8 0] (vs.map fun p => (p.1, p.2.cells.toList))) H := dBuild_at (by kernel_rfl) (by kernel_rfl)
theorem st139 {b o : Nat} {H : Heap} {cs : List Value} : dStore Tryd.prog 139 (.pointer (some ⟨b, o, none⟩)) (.agg ⟨cs⟩) H = dStoreIf (Nat.beq cs.length 32) ⟨b, o, none⟩ cs H (H.get b) := dStore_cells (by kernel_rfl) (by kernel_rfl)
end Go.Proofs.YtlllbkjiadcloaaDoor.hb
end

-- Y1
section
/- Numbers by limbs and by digits, plainly. -/
namespace Go.Hb

/-- the number of limbs, the lowest first -/
def valB (B : Nat) : List Nat → Nat
  | [] => 0
  | x :: l => x + B * valB B l

theorem valB_append (B : Nat) : ∀ a b : List Nat, valB B (a ++ b) = valB B a + B ^ a.length * valB B b
  | [], b => by simp [valB]
  | x :: a, b => by
    rw [List.cons_append, valB, valB_append B a b, valB, List.length_cons, Nat.pow_succ, Nat.mul_add]
    rw [show B ^ a.length * B * valB B b = B * (B ^ a.length * valB B b) by rw [Nat.mul_comm (B ^ a.length) B, Nat.mul_assoc]]
    omega
theorem valB_one (B x : Nat) : valB B [x] = x := by simp [valB]
theorem valB_lt (B : Nat) : ∀ l : List Nat, (∀ x ∈ l, x < B) → valB B l < B ^ l.length
  | [], _ => by simp [valB]
  | x :: l, h => by
    have ih := valB_lt B l fun y hy => h y (List.mem_cons_of_mem _ hy)
    have hx := h x (by simp)
    rw [valB, List.length_cons, Nat.pow_succ]
    have h1 : B * (valB B l + 1) ≤ B * B ^ l.length := Nat.mul_le_mul_left _ ih
    rw [Nat.mul_comm (B ^ l.length) B]
    rw [Nat.mul_add] at h1
    omega
theorem valB_zeros (B : Nat) : ∀ l : List Nat, (∀ x ∈ l, x = 0) → valB B l = 0
  | [], _ => rfl
  | x :: l, h => by rw [valB, h x (by simp), valB_zeros B l fun y hy => h y (List.mem_cons_of_mem _ hy)]; simp
theorem valB_take {B : Nat} {l : List Nat} {n : Nat} (h : ∀ x ∈ l.drop n, x = 0) : valB B (l.take n) = valB B l := by
  conv => rhs; rw [← List.take_append_drop n l]
  rw [valB_append, valB_zeros B _ h]; simp

/-! ## Times ten, and a digit -/
theorem mul_inv {B c x : Nat} {d rest : List Nat} : valB B (d ++ [(x * 10 + c) % B]) + B ^ (d.length + 1) * (10 * valB B rest + (x * 10 + c) / B) = valB B d + B ^ d.length * (10 * valB B (x :: rest) + c) := by
  rw [valB_append, valB_one, valB, Nat.pow_succ]
  have h := Nat.mod_add_div (x * 10 + c) B
  generalize (x * 10 + c) % B = m at h ⊢
  generalize (x * 10 + c) / B = q at h ⊢
  generalize B ^ d.length = p
  generalize valB B rest = v
  have e1 : p * B * (10 * v + q) = p * (B * (10 * v + q)) := Nat.mul_assoc ..
  have e2 : p * (10 * (x + B * v) + c) = p * m + p * (B * (10 * v + q)) := by
    rw [← Nat.mul_add]
    congr 1
    have e3 : B * (10 * v + q) = 10 * (B * v) + B * q := by rw [Nat.mul_add, Nat.mul_left_comm]
    omega
  omega
theorem mul_carry {B c x : Nat} (hB : 0 < B) (hx : x < B) (hc : c < 10) : (x * 10 + c) / B < 10 := by
  rw [Nat.div_lt_iff_lt_mul hB]
  omega

/-! ## By ten -/
theorem div_inv {B x r : Nat} {low q : List Nat} : valB B (low ++ [x]) + B ^ (low.length + 1) * (10 * valB B q + r) = valB B low + B ^ low.length * (10 * valB B ((r * B + x) / 10 :: q) + (r * B + x) % 10) := by
  rw [valB_append, valB_one, valB, Nat.pow_succ]
  have h := Nat.mod_add_div (r * B + x) 10
  generalize (r * B + x) % 10 = m at h ⊢
  generalize (r * B + x) / 10 = z at h ⊢
  generalize B ^ low.length = p
  generalize valB B q = v
  have e1 : p * B * (10 * v + r) = p * (B * (10 * v + r)) := Nat.mul_assoc ..
  have e2 : p * (10 * (z + B * v) + m) = p * x + p * (B * (10 * v + r)) := by
    rw [← Nat.mul_add]
    congr 1
    have e3 : B * (10 * v + r) = 10 * (B * v) + r * B := by rw [Nat.mul_add, Nat.mul_left_comm, Nat.mul_comm B r]
    omega
  omega
theorem div_limb {B x r : Nat} (hx : x < B) (hr : r < 10) : (r * B + x) / 10 < B := by
  rw [Nat.div_lt_iff_lt_mul (by omega)]
  have : r * B ≤ 9 * B := Nat.mul_le_mul_right _ (by omega)
  omega

/-! ## Digits -/
def decR (n : Nat) : List Nat := if h : n = 0 then [] else n % 10 :: decR (n / 10)
termination_by n
decreasing_by omega
theorem decR_zero : decR 0 = [] := by rw [decR]; simp
theorem decR_pos {n : Nat} (h : n ≠ 0) : decR n = n % 10 :: decR (n / 10) := by rw [decR, dif_neg h]

/-- a digit's value -/
def digV (b : Nat) : Nat := if 48 ≤ b ∧ b ≤ 57 then b - 48 else if 97 ≤ b ∧ b ≤ 122 then b - 97 + 10 else if 65 ≤ b ∧ b ≤ 90 then b - 65 + 10 else 99
def mostBits : Nat := 4096
@[irreducible] def big : Nat := 2 ^ mostBits
theorem big_eq : big = 2 ^ mostBits := by unfold big; rfl
/-- the number that digits write behind another one's; none: it is too long -/
def numD : List Nat → Nat → Option Nat
  | [], n => some n
  | d :: l, n => if big ≤ n * 10 + d then none else numD l (n * 10 + d)
def textD (neg : Bool) (n : Nat) : List Nat := if n = 0 then [48] else ((decR n).map (48 + ·) ++ if neg then [45] else []).reverse
/-- is a text what is written of a number? -/
def canonD (s : List Nat) : Bool :=
  let neg := s.head? == some 45
  let b := if neg then s.tail else s
  if b = [] then false else if b.any (fun x => 10 ≤ digV x) then false else match numD (b.map digV) 0 with
    | none => false
    | some n => textD neg n == s

theorem numD_lt : ∀ (l : List Nat) (n m : Nat), n < big → numD l n = some m → m < big
  | [], n, m, h, e => by cases e; exact h
  | d :: l, n, m, h, e => by
    rw [numD] at e
    split at e
    · cases e
    · rename_i hb
      exact numD_lt l _ m (Nat.lt_of_not_le hb) e

/-! ## How many bits -/
def nbits (n : Nat) : Nat := if n = 0 then 0 else n.log2 + 1
theorem nbits_spec {n s : Nat} (h : n ≠ 0) (h1 : 2 ^ s ≤ n) (h2 : n < 2 ^ (s + 1)) : nbits n = s + 1 := by
  rw [nbits, if_neg h]
  have := (Nat.log2_lt h).2 h2
  have := (Nat.le_log2 h).2 h1
  omega
theorem nbits_gt {n : Nat} (e : Nat) : e < nbits n ↔ 2 ^ e ≤ n := by
  unfold nbits
  by_cases h : n = 0
  · subst h
    simp
  · rw [if_neg h]
    constructor
    · intro hh; exact (Nat.le_log2 h).1 (by omega)
    · intro hh; have := (Nat.le_log2 h).2 hh; omega
theorem nbits_big {n : Nat} : 4096 < nbits n ↔ big ≤ n := by rw [big_eq]; exact nbits_gt mostBits
theorem bl_shift {n e : Nat} (h : 2 ^ e ≤ n) : nbits n = nbits (n / 2 ^ e) + e := by
  have hp : 0 < 2 ^ e := Nat.two_pow_pos e
  have h0 : n / 2 ^ e ≠ 0 := by
    have := (Nat.le_div_iff_mul_le hp).2 (show 1 * 2 ^ e ≤ n by omega)
    omega
  have hb : nbits (n / 2 ^ e) = (n / 2 ^ e).log2 + 1 := by rw [nbits, if_neg h0]
  have h1 : 2 ^ (n / 2 ^ e).log2 ≤ n / 2 ^ e := Nat.log2_self_le h0
  have h2 : n / 2 ^ e < 2 ^ ((n / 2 ^ e).log2 + 1) := Nat.lt_log2_self
  rw [hb, show (n / 2 ^ e).log2 + 1 + e = ((n / 2 ^ e).log2 + e) + 1 by omega]
  refine nbits_spec (by omega) ?_ ?_
  · rw [Nat.pow_add]; exact (Nat.le_div_iff_mul_le hp).1 h1
  · rw [show (n / 2 ^ e).log2 + e + 1 = ((n / 2 ^ e).log2 + 1) + e by omega, Nat.pow_add]
    exact (Nat.div_lt_iff_lt_mul hp).1 h2
theorem nbits_le {n : Nat} (h : n < 4294967296) : nbits n ≤ 32 := by
  unfold nbits
  split
  · omega
  · rename_i h0
    have := (Nat.log2_lt (k := 32) h0).2 h
    omega
/-- the highest limb tells -/
theorem nbits_top {l : List Nat} {x e : Nat} (hl : ∀ y ∈ l, y < 2 ^ e) (hx : x ≠ 0) : nbits (valB (2 ^ e) (l ++ [x])) = e * l.length + nbits x := by
  have hv := valB_lt (2 ^ e) l hl
  rw [valB_append, valB_one, ← Nat.pow_mul] at *
  have hb : nbits x = x.log2 + 1 := by rw [nbits, if_neg hx]
  rw [hb, ← Nat.add_assoc]
  have h1 : 2 ^ x.log2 ≤ x := Nat.log2_self_le hx
  have h2 : x < 2 ^ (x.log2 + 1) := Nat.lt_log2_self
  refine nbits_spec ?_ ?_ ?_
  · have : 0 < 2 ^ (e * l.length) * x := Nat.mul_pos (Nat.two_pow_pos _) (by omega)
    omega
  · rw [Nat.pow_add]
    have := Nat.mul_le_mul_left (2 ^ (e * l.length)) h1
    omega
  · rw [Nat.add_assoc, Nat.pow_add]
    have := Nat.mul_le_mul_left (2 ^ (e * l.length)) h2
    rw [Nat.mul_succ] at this
    omega
/-- so many digits at most -/
theorem few_digits {e k m n : Nat} (hm : m ≠ 0) (h : m * 10 ^ k ≤ n) (hn : n < 2 ^ e) : k < e := by
  have h1 : 2 ^ k ≤ 10 ^ k := Nat.pow_le_pow_left (by omega) k
  have h2 : 1 * 10 ^ k ≤ m * 10 ^ k := Nat.mul_le_mul_right _ (by omega)
  have h3 : 2 ^ k < 2 ^ e := by omega
  exact (Nat.pow_lt_pow_iff_right (by omega)).1 h3
end Go.Hb
end

-- Y2
section
/- Digits and limbs: the small functions. -/
namespace Go.Proofs.YtlllbkjiadcloaaDoor.hb
open Go Go.RowKit Go.Hb

variable {ok : Ok}
set_option maxRecDepth 10000
attribute [local irreducible] LX LG EL STG SOP SGO SGD SAL SRD SEF SEG SLK SCK ES
theorem digV_cases (b : Nat) : (b < 48 ∧ digV b = 99) ∨ (48 ≤ b ∧ b ≤ 57 ∧ digV b = b - 48) ∨ (58 ≤ b ∧ b < 65 ∧ digV b = 99) ∨ (65 ≤ b ∧ b ≤ 90 ∧ digV b = b - 55) ∨ (91 ≤ b ∧ b < 97 ∧ digV b = 99) ∨ (97 ≤ b ∧ b ≤ 122 ∧ digV b = b - 87) ∨ (123 ≤ b ∧ digV b = 99) := by
  unfold digV
  by_cases h1 : 48 ≤ b ∧ b ≤ 57
  · simp [h1]
  · by_cases h2 : 97 ≤ b ∧ b ≤ 122
    · rw [if_neg h1, if_pos h2]; omega
    · by_cases h3 : 65 ≤ b ∧ b ≤ 90
      · rw [if_neg h1, if_neg h2, if_pos h3]; omega
      · rw [if_neg h1, if_neg h2, if_neg h3]; omega

-- bigint.value
theorem value_ev (hk : ∀ args H, ok.K 136 args H = none) (hm : ok.testBit 136 = true) (b : Nat) (hb : b < 256) (H : Heap) :
    EvF Tryd.prog ok 136 [.int .u8 (b : Int)] H fun v H' => v = .int .i64 (digV b : Int) ∧ H' = H := by
  refine EvF.enter (hk _ _) Tryd.func136 hm rfl ?_
  rcases digV_cases b with ⟨h1, h⟩ | ⟨h1, h2, h⟩ | ⟨h1, h2, h⟩ | ⟨h1, h2, h⟩ | ⟨h1, h2, h⟩ | ⟨h1, h2, h⟩ | ⟨h1, h⟩
  all_goals
    repeat' (first | refine EvC.seq ?_ | refine EvC.scope ?_ | refine EvC.block ?_ | (refine EvC.skip ?_; try simp only [sA]) | (refine EvC.exit ?_) | (refine EvC.ret ?_; try simp only [thenC_ret, inBlock_ret]) | (refine EvC.reg ?_; simp (config := { maxSteps := 2000000 }) (disch := first | omega | rfl) only [sA, initTm, Nat.reduceEqDiff, reduceCtorEq, if_true, if_false, cv5_3, decide_eq_true, decide_eq_false, wrap_u8, wrap_i64, Bool.false_eq_true]) | (refine EvC.condT ?_ ?_; simp (config := { maxSteps := 2000000 }) (disch := first | omega | rfl) only [sA, Nat.reduceEqDiff, reduceCtorEq, if_true, if_false]; refine EvC_go ?_) | (refine EvC.condF ?_ ?_; simp (config := { maxSteps := 2000000 }) (disch := first | omega | rfl) only [sA, Nat.reduceEqDiff, reduceCtorEq, if_true, if_false]; refine EvC_go ?_))
    exact leave_one rfl (by first | (simp only [sA, Nat.reduceEqDiff, reduceCtorEq, if_true, if_false]; rfl) | simp only []) ⟨by simp only [Value.int.injEq, true_and]; omega, rfl⟩

-- hornbeamref01.digit
theorem digit_ev (hk : ∀ args H, ok.K 144 args H = none) (hm : ok.testBit 144 = true) (b : Nat) (hb : b < 256) (H : Heap) :
    EvF Tryd.prog ok 144 [.int .u8 (b : Int)] H fun v H' => v = .int .i64 (digV b : Int) ∧ H' = H := by
  refine EvF.enter (hk _ _) Tryd.func144 hm rfl ?_
  rcases digV_cases b with ⟨h1, h⟩ | ⟨h1, h2, h⟩ | ⟨h1, h2, h⟩ | ⟨h1, h2, h⟩ | ⟨h1, h2, h⟩ | ⟨h1, h2, h⟩ | ⟨h1, h⟩
  all_goals
    repeat' (first | refine EvC.seq ?_ | refine EvC.scope ?_ | refine EvC.block ?_ | (refine EvC.skip ?_; try simp only [sA]) | (refine EvC.exit ?_) | (refine EvC.ret ?_; try simp only [thenC_ret, inBlock_ret]) | (refine EvC.reg ?_; simp (config := { maxSteps := 2000000 }) (disch := first | omega | rfl) only [sA, initTm, Nat.reduceEqDiff, reduceCtorEq, if_true, if_false, cv5_3, decide_eq_true, decide_eq_false, wrap_u8, wrap_i64, Bool.false_eq_true]) | (refine EvC.condT ?_ ?_; simp (config := { maxSteps := 2000000 }) (disch := first | omega | rfl) only [sA, Nat.reduceEqDiff, reduceCtorEq, if_true, if_false]; refine EvC_go ?_) | (refine EvC.condF ?_ ?_; simp (config := { maxSteps := 2000000 }) (disch := first | omega | rfl) only [sA, Nat.reduceEqDiff, reduceCtorEq, if_true, if_false]; refine EvC_go ?_))
    exact leave_one rfl (by first | (simp only [sA, Nat.reduceEqDiff, reduceCtorEq, if_true, if_false]; rfl) | simp only []) ⟨by simp only [Value.int.injEq, true_and]; omega, rfl⟩

def u32V (n : Nat) : Value := .int .u32 (n : Int)
def i64V (n : Nat) : Value := .int .i64 (n : Int)

-- bigint.trim
theorem trim_ev (hk : ∀ args H, ok.K 141 args H = none) (hm : ok.testBit 141 = true) {L : List Nat} {a : Option Addr} {c : Nat} {H : Heap} (r : RdS H (L.map u32V) a c) :
    EvF Tryd.prog ok 141 [.slice a L.length c] H fun v H' => ∃ m, v = .slice a m c ∧ m ≤ L.length ∧ (∀ x ∈ L.drop m, x = 0) ∧ (m ≠ 0 → L[m - 1]? ≠ some 0) ∧ H' = H := by
  have hL : L.length ≤ c := by simpa using r.len
  have hc : c ≤ 9223372036854775807 := r.cap
  refine EvF.enter (hk _ _) Tryd.func141 hm rfl ?_
  repeat' (first | refine EvC.seq ?_ | refine EvC.scope ?_ | refine EvC.block ?_ | (refine EvC.skip ?_) | (refine EvC.exit ?_) | (refine EvC.ret ?_; try simp only [thenC_ret, inBlock_ret]) | (refine EvC.reg ?_; simp (config := { maxSteps := 2000000 }) (disch := first | omega | rfl) only [sA, initTm]))
  refine EvC.loop (fun k st => ∃ tm n, st = ⟨tm, [], H⟩ ∧ k = n ∧ n ≤ L.length ∧ (∀ x ∈ L.drop n, x = 0) ∧ tm.get 0 = some (.slice a n c)) ?_ L.length _ ?_
  · rintro k st ⟨tm, n, rfl, rfl, hn, hz, g0⟩
    by_cases h0 : k = 0
    · subst h0
      repeat' (first | refine EvC.seq ?_ | refine EvC.scope ?_ | refine EvC.block ?_ | (refine EvC.skip ?_) | (refine EvC.exit ?_; try simp only [sA, if_true]) | (refine EvC.ret ?_; try simp only [thenC_ret, inBlock_ret]) | (refine EvC.reg ?_; simp (config := { maxSteps := 2000000 }) (disch := first | omega | rfl) only [sA, Nat.reduceEqDiff, reduceCtorEq, if_true, if_false, ln140, g0, decide_eq_false, Bool.false_eq_true]) | (refine EvC.condT ?_ ?_; simp (config := { maxSteps := 2000000 }) (disch := first | omega | rfl) only [sA, Nat.reduceEqDiff, if_true, if_false]; refine EvC_go ?_) | (refine EvC.condF ?_ ?_; simp (config := { maxSteps := 2000000 }) (disch := first | omega | rfl) only [sA, Nat.reduceEqDiff, if_true, if_false]; refine EvC_go ?_))
      exact leave_one rfl (by first | (simp only [Tr.get_put, Nat.reduceEqDiff, if_true, if_false]; rfl) | simp only [Tr.get_put, Nat.reduceEqDiff, if_true, if_false]) ⟨0, rfl, by omega, hz, by simp, rfl⟩
    · have hx : L[k - 1]? = some L[k - 1] := List.getElem?_eq_getElem (by omega)
      generalize L[k - 1] = x at hx
      obtain ⟨b, o, rfl, hl⟩ := r.get (k - 1) (u32V x) (by simp [hx])
      have e1 : ((k : Int) - 1) = ((k - 1 : Nat) : Int) := by omega
      unfold u32V at hl
      by_cases hx0 : x = 0
      · repeat' (first | refine EvC.seq ?_ | refine EvC.scope ?_ | refine EvC.block ?_ | (refine EvC.skip ?_; try simp only [thenC_normal]) | (refine EvC.exit ?_) | (refine EvC.ret ?_; try simp only [thenC_ret, inBlock_ret]) | (refine EvC.reg ?_; simp (config := { maxSteps := 2000000 }) (disch := first | omega | rfl) only [sA, Nat.reduceEqDiff, reduceCtorEq, if_true, if_false, ln140, ia140, ld133, g0, e1, hl, decide_eq_true, wrap_i64, ieq_t, dSl_hi sl140]) | (refine EvC.condT ?_ ?_; simp (config := { maxSteps := 2000000 }) (disch := first | omega | rfl) only [sA, Nat.reduceEqDiff, if_true, if_false]; refine EvC_go ?_))
        refine ⟨k - 1, by omega, _, k - 1, rfl, rfl, by omega, fun y hy => ?_, (by first | (simp only [Tr.get_put, reduceCtorEq, if_true, if_false]; rfl) | simp only [Tr.get_put, reduceCtorEq, if_true, if_false])⟩
        rw [List.drop_eq_getElem_cons (by omega)] at hy
        rcases List.mem_cons.1 hy with h | h
        · rw [h, ← Option.some.inj ((List.getElem?_eq_getElem (by omega)).symm.trans hx)] at *; omega
        · exact hz y (by rwa [show k - 1 + 1 = k by omega] at h)
      · repeat' (first | refine EvC.seq ?_ | refine EvC.scope ?_ | refine EvC.block ?_ | (refine EvC.skip ?_) | (refine EvC.exit ?_; try simp only [sA, if_true]) | (refine EvC.ret ?_; try simp only [thenC_ret, inBlock_ret]) | (refine EvC.reg ?_; simp (config := { maxSteps := 2000000 }) (disch := first | omega | rfl) only [sA, Nat.reduceEqDiff, reduceCtorEq, if_true, if_false, ln140, ia140, ld133, g0, e1, hl, decide_eq_true, wrap_i64, ieq_f]) | (refine EvC.condT ?_ ?_; simp (config := { maxSteps := 2000000 }) (disch := first | omega | rfl) only [sA, Nat.reduceEqDiff, if_true, if_false]; refine EvC_go ?_) | (refine EvC.condF ?_ ?_; simp (config := { maxSteps := 2000000 }) (disch := first | omega | rfl) only [sA, Nat.reduceEqDiff, if_true, if_false]; refine EvC_go ?_))
        exact leave_one rfl (by first | (simp only [Tr.get_put, Nat.reduceEqDiff, if_true, if_false]; rfl) | simp only [Tr.get_put, Nat.reduceEqDiff, if_true, if_false]) ⟨k, rfl, hn, hz, fun _ => by rw [hx]; simpa using hx0, rfl⟩
  · exact ⟨_, L.length, rfl, rfl, Nat.le_refl _, by simp, (by first | (simp only [Tr.get_put, reduceCtorEq, if_true, if_false]; rfl) | simp only [Tr.get_put, reduceCtorEq, if_true, if_false])⟩

-- hornbeamref01.cut
theorem cut_ev (hk : ∀ args H, ok.K 146 args H = none) (hm : ok.testBit 146 = true) {L : List Nat} {a : Option Addr} {c : Nat} {H : Heap} (r : RdS H (L.map i64V) a c) :
    EvF Tryd.prog ok 146 [.slice a L.length c] H fun v H' => ∃ m, v = .slice a m c ∧ m ≤ L.length ∧ (∀ x ∈ L.drop m, x = 0) ∧ (m ≠ 0 → L[m - 1]? ≠ some 0) ∧ H' = H := by
  have hL : L.length ≤ c := by simpa using r.len
  have hc : c ≤ 9223372036854775807 := r.cap
  refine EvF.enter (hk _ _) Tryd.func146 hm rfl ?_
  repeat' (first | refine EvC.seq ?_ | refine EvC.scope ?_ | refine EvC.block ?_ | (refine EvC.skip ?_) | (refine EvC.exit ?_) | (refine EvC.ret ?_; try simp only [thenC_ret, inBlock_ret]) | (refine EvC.reg ?_; simp (config := { maxSteps := 2000000 }) (disch := first | omega | rfl) only [sA, initTm, Nat.reduceEqDiff, reduceCtorEq, if_true, if_false, ln46]))
  refine EvC.loop (fun k st => ∃ tm n, st = ⟨tm, [], H⟩ ∧ k = n ∧ n ≤ L.length ∧ (∀ x ∈ L.drop n, x = 0) ∧ tm.get 0 = some (.slice a L.length c) ∧ tm.get 3 = some (.int .i64 (n : Nat))) ?_ L.length _ ?_
  · rintro k st ⟨tm, n, rfl, rfl, hn, hz, g0, g3⟩
    by_cases h0 : k = 0
    · subst h0
      repeat' (first | refine EvC.seq ?_ | refine EvC.scope ?_ | refine EvC.block ?_ | (refine EvC.skip ?_) | (refine EvC.exit ?_; try simp only [sA, if_true]) | (refine EvC.ret ?_; try simp only [thenC_ret, inBlock_ret]) | (refine EvC.reg ?_; simp (config := { maxSteps := 2000000 }) (disch := first | omega | rfl) only [sA, Nat.reduceEqDiff, reduceCtorEq, if_true, if_false, g0, g3, decide_eq_false, Bool.false_eq_true, dSl_hi sl46]) | (refine EvC.condT ?_ ?_; simp (config := { maxSteps := 2000000 }) (disch := first | omega | rfl) only [sA, Nat.reduceEqDiff, if_true, if_false]; refine EvC_go ?_) | (refine EvC.condF ?_ ?_; simp (config := { maxSteps := 2000000 }) (disch := first | omega | rfl) only [sA, Nat.reduceEqDiff, if_true, if_false]; refine EvC_go ?_))
      exact leave_one rfl (by first | (simp only [Tr.get_put, Nat.reduceEqDiff, if_true, if_false]; rfl) | simp only [Tr.get_put, Nat.reduceEqDiff, if_true, if_false]) ⟨0, rfl, by omega, hz, by simp, rfl⟩
    · have hx : L[k - 1]? = some L[k - 1] := List.getElem?_eq_getElem (by omega)
      generalize L[k - 1] = x at hx
      obtain ⟨b, o, rfl, hl⟩ := r.get (k - 1) (i64V x) (by simp [hx])
      have e1 : ((k : Int) - 1) = ((k - 1 : Nat) : Int) := by omega
      unfold i64V at hl
      by_cases hx0 : x = 0
      · repeat' (first | refine EvC.seq ?_ | refine EvC.scope ?_ | refine EvC.block ?_ | (refine EvC.skip ?_; try simp only [thenC_normal]) | (refine EvC.exit ?_) | (refine EvC.ret ?_; try simp only [thenC_ret, inBlock_ret]) | (refine EvC.reg ?_; simp (config := { maxSteps := 2000000 }) (disch := first | omega | rfl) only [sA, Nat.reduceEqDiff, reduceCtorEq, if_true, if_false, ia46, ld3, g0, g3, e1, hl, decide_eq_true, wrap_i64, ieq_t]) | (refine EvC.condT ?_ ?_; simp (config := { maxSteps := 2000000 }) (disch := first | omega | rfl) only [sA, Nat.reduceEqDiff, if_true, if_false]; refine EvC_go ?_))
        refine ⟨k - 1, by omega, _, k - 1, rfl, rfl, by omega, fun y hy => ?_, (by first | (simp only [Tr.get_put, reduceCtorEq, if_false, g0]; rfl) | simp only [Tr.get_put, reduceCtorEq, if_false, g0]), (by first | (simp only [Tr.get_put, Nat.reduceEqDiff, if_true, if_false]; rfl) | simp only [Tr.get_put, Nat.reduceEqDiff, if_true, if_false])⟩
        rw [List.drop_eq_getElem_cons (by omega)] at hy
        rcases List.mem_cons.1 hy with h | h
        · rw [h, ← Option.some.inj ((List.getElem?_eq_getElem (by omega)).symm.trans hx)] at *; omega
        · exact hz y (by rwa [show k - 1 + 1 = k by omega] at h)
      · repeat' (first | refine EvC.seq ?_ | refine EvC.scope ?_ | refine EvC.block ?_ | (refine EvC.skip ?_) | (refine EvC.exit ?_; try simp only [sA, if_true]) | (refine EvC.ret ?_; try simp only [thenC_ret, inBlock_ret]) | (refine EvC.reg ?_; simp (config := { maxSteps := 2000000 }) (disch := first | omega | rfl) only [sA, Nat.reduceEqDiff, reduceCtorEq, if_true, if_false, ia46, ld3, g0, g3, e1, hl, decide_eq_true, wrap_i64, ieq_f, dSl_hi sl46]) | (refine EvC.condT ?_ ?_; simp (config := { maxSteps := 2000000 }) (disch := first | omega | rfl) only [sA, Nat.reduceEqDiff, if_true, if_false]; refine EvC_go ?_) | (refine EvC.condF ?_ ?_; simp (config := { maxSteps := 2000000 }) (disch := first | omega | rfl) only [sA, Nat.reduceEqDiff, if_true, if_false]; refine EvC_go ?_))
        exact leave_one rfl (by first | (simp only [Tr.get_put, Nat.reduceEqDiff, if_true, if_false]; rfl) | simp only [Tr.get_put, Nat.reduceEqDiff, if_true, if_false]) ⟨k, rfl, hn, hz, fun _ => by rw [hx]; simpa using hx0, rfl⟩
  · exact ⟨_, L.length, rfl, rfl, Nat.le_refl _, by simp, (by first | (simp only [Tr.get_put, reduceCtorEq, if_true, if_false]; rfl) | simp only [Tr.get_put, reduceCtorEq, if_true, if_false]), (by first | (simp only [Tr.get_put, Nat.reduceEqDiff, reduceCtorEq, if_true, if_false]; rfl) | simp only [Tr.get_put, Nat.reduceEqDiff, reduceCtorEq, if_true, if_false])⟩

-- hornbeamref01.bit
theorem bit_ev (hk : ∀ args H, ok.K 145 args H = none) (hm : ok.testBit 145 = true) {L : List Nat} {a : Option Addr} {c k : Nat} {H : Heap} (r : RdS H (L.map i64V) a c) :
    EvF Tryd.prog ok 145 [.slice a L.length c, .int .i64 (k : Int)] H fun v H' => v = .int .i64 (L.getD k 0 : Nat) ∧ H' = H := by
  refine EvF.enter (hk _ _) Tryd.func145 hm rfl ?_
  by_cases hlt : k < L.length
  · have hx : L[k]? = some L[k] := List.getElem?_eq_getElem hlt
    have hd : L.getD k 0 = L[k] := by rw [List.getD_eq_getElem?_getD, hx]; rfl
    rw [hd]
    generalize L[k] = x at hx
    obtain ⟨b, o, rfl, hl⟩ := r.get k (i64V x) (by simp [hx])
    unfold i64V at hl
    repeat' (first | refine EvC.seq ?_ | refine EvC.scope ?_ | refine EvC.block ?_ | (refine EvC.skip ?_) | (refine EvC.exit ?_) | (refine EvC.ret ?_; try simp only [thenC_ret, inBlock_ret]) | (refine EvC.reg ?_; simp (config := { maxSteps := 2000000 }) (disch := first | omega | rfl) only [sA, initTm, Nat.reduceEqDiff, reduceCtorEq, if_true, if_false, ln46, ia46, ld3, hl, decide_eq_true]) | (refine EvC.condT ?_ ?_; simp (config := { maxSteps := 2000000 }) (disch := first | omega | rfl) only [sA, Nat.reduceEqDiff, reduceCtorEq, if_true, if_false]; refine EvC_go ?_))
    exact leave_one rfl (by first | (simp only [Tr.get_put, Nat.reduceEqDiff, reduceCtorEq, if_true, if_false]; rfl) | simp only [Tr.get_put, Nat.reduceEqDiff, reduceCtorEq, if_true, if_false]) ⟨rfl, rfl⟩
  · have hd : L.getD k 0 = 0 := by rw [List.getD_eq_getElem?_getD, List.getElem?_eq_none (by omega)]; rfl
    repeat' (first | refine EvC.seq ?_ | refine EvC.scope ?_ | refine EvC.block ?_ | (refine EvC.skip ?_; try simp only [thenC_normal]) | (refine EvC.exit ?_) | (refine EvC.ret ?_; try simp only [thenC_ret, inBlock_ret]) | (refine EvC.reg ?_; simp (config := { maxSteps := 2000000 }) (disch := first | omega | rfl) only [sA, initTm, Nat.reduceEqDiff, reduceCtorEq, if_true, if_false, ln46, decide_eq_true, decide_eq_false]) | (refine EvC.condT ?_ ?_; simp (config := { maxSteps := 2000000 }) (disch := first | omega | rfl) only [sA, Nat.reduceEqDiff, reduceCtorEq, if_true, if_false]; refine EvC_go ?_) | (refine EvC.condF ?_ ?_; simp (config := { maxSteps := 2000000 }) (disch := first | omega | rfl) only [sA, Nat.reduceEqDiff, reduceCtorEq, if_true, if_false]; refine EvC_go ?_))
    exact leave_one rfl (by first | (simp only [sA, Nat.reduceEqDiff, reduceCtorEq, if_true, if_false]; rfl) | simp only []) ⟨by rw [hd]; rfl, rfl⟩
end Go.Proofs.YtlllbkjiadcloaaDoor.hb
end

-- Y3
section
/- Bits of a limb; a limb divided. -/
namespace Go.Proofs.YtlllbkjiadcloaaDoor.hb
open Go Go.RowKit Go.Hb
variable {ok : Ok}
set_option maxRecDepth 10000
attribute [local irreducible] LX LG EL STG SOP SGO SGD SAL SRD SEF SEG SLK SCK ES

theorem tab_of {s : ByteArray} (h : ∀ i : Fin 256, byteAt s i = nbits i) {y : Nat} (hy : y < 256) : byteAt s y = nbits y := h ⟨y, hy⟩
-- bits.Len32
theorem len32_ev (hk : ∀ args H, ok.K 121 args H = none) (hm : ok.testBit 121 = true) {x : Nat} (hx : x < 4294967296) {H : Heap} :
    EvF Tryd.prog ok 121 [.int .u32 (x : Int)] H fun v H' => v = .int .i64 (nbits x : Int) ∧ H' = H := by
  refine EvF.enter (hk _ _) Tryd.func121 hm rfl ?_
  by_cases h1 : 65536 ≤ x
  · have e1 : nbits x = nbits (x / 65536) + 16 := bl_shift (e := 16) h1
    by_cases h2 : 16777216 ≤ x
    · have e2 : nbits (x / 65536) = nbits (x / 65536 / 256) + 8 := bl_shift (e := 8) (by omega)
      repeat' (first | refine EvC.seq ?_ | refine EvC.scope ?_ | refine EvC.block ?_ | (refine EvC.skip ?_) | (refine EvC.exit ?_) | (refine EvC.ret ?_; try simp only [thenC_ret, inBlock_ret]) | (refine EvC.reg ?_; simp (config := { maxSteps := 2000000 }) (disch := first | omega | rfl) only [sA, initTm, Nat.reduceEqDiff, reduceCtorEq, if_true, if_false, cv133_5, decide_eq_true, bShr_u32_16, bShr_u32_8, wrap_i64, wrap_u8]) | (refine EvC.condT ?_ ?_; simp (config := { maxSteps := 2000000 }) (disch := first | omega | rfl) only [sA, Nat.reduceEqDiff, reduceCtorEq, if_true, if_false]; refine EvC_go ?_))
      rw [dIdx_byte Tryd.underlying9 (show x / 65536 / 256 < _ from by show _ < 256; omega)]
      generalize hB : byteAt _ (x / 65536 / 256) = B
      have hB' : B = nbits (x / 65536 / 256) := by rw [← hB]; exact tab_of (by decide +kernel) (by omega)
      have hl := nbits_le (n := x / 65536 / 256) (by omega)
      repeat' (first | refine EvC.seq ?_ | refine EvC.scope ?_ | refine EvC.block ?_ | (refine EvC.skip ?_) | (refine EvC.exit ?_) | (refine EvC.ret ?_; try simp only [thenC_ret, inBlock_ret]) | (refine LX_go ?_; simp (config := { maxSteps := 2000000 }) (disch := first | omega | rfl) only [sA, Nat.reduceEqDiff, reduceCtorEq, if_true, if_false, cv5_3, wrap_i64]))
      exact leave_one rfl (by first | (simp only [sA, Nat.reduceEqDiff, reduceCtorEq, if_true, if_false]; rfl) | simp only []) ⟨by simp only [Value.int.injEq, true_and]; omega, rfl⟩
    · repeat' (first | refine EvC.seq ?_ | refine EvC.scope ?_ | refine EvC.block ?_ | (refine EvC.skip ?_; try simp only [thenC_normal]) | (refine EvC.exit ?_) | (refine EvC.ret ?_; try simp only [thenC_ret, inBlock_ret]) | (refine EvC.reg ?_; simp (config := { maxSteps := 2000000 }) (disch := first | omega | rfl) only [sA, initTm, Nat.reduceEqDiff, reduceCtorEq, if_true, if_false, cv133_5, decide_eq_true, decide_eq_false, bShr_u32_16, wrap_u8]) | (refine EvC.condT ?_ ?_; simp (config := { maxSteps := 2000000 }) (disch := first | omega | rfl) only [sA, Nat.reduceEqDiff, reduceCtorEq, if_true, if_false]; refine EvC_go ?_) | (refine EvC.condF ?_ ?_; simp (config := { maxSteps := 2000000 }) (disch := first | omega | rfl) only [sA, Nat.reduceEqDiff, reduceCtorEq, if_true, if_false]; refine EvC_go ?_))
      rw [dIdx_byte Tryd.underlying9 (show x / 65536 < _ from by show _ < 256; omega)]
      generalize hB : byteAt _ (x / 65536) = B
      have hB' : B = nbits (x / 65536) := by rw [← hB]; exact tab_of (by decide +kernel) (by omega)
      have hl := nbits_le (n := x / 65536) (by omega)
      repeat' (first | refine EvC.seq ?_ | refine EvC.scope ?_ | refine EvC.block ?_ | (refine EvC.skip ?_) | (refine EvC.exit ?_) | (refine EvC.ret ?_; try simp only [thenC_ret, inBlock_ret]) | (refine LX_go ?_; simp (config := { maxSteps := 2000000 }) (disch := first | omega | rfl) only [sA, Nat.reduceEqDiff, reduceCtorEq, if_true, if_false, cv5_3, wrap_i64]))
      exact leave_one rfl (by first | (simp only [sA, Nat.reduceEqDiff, reduceCtorEq, if_true, if_false]; rfl) | simp only []) ⟨by simp only [Value.int.injEq, true_and]; omega, rfl⟩
  · by_cases h2 : 256 ≤ x
    · have e2 : nbits x = nbits (x / 256) + 8 := bl_shift (e := 8) h2
      repeat' (first | refine EvC.seq ?_ | refine EvC.scope ?_ | refine EvC.block ?_ | (refine EvC.skip ?_; try simp only [thenC_normal]) | (refine EvC.exit ?_) | (refine EvC.ret ?_; try simp only [thenC_ret, inBlock_ret]) | (refine EvC.reg ?_; simp (config := { maxSteps := 2000000 }) (disch := first | omega | rfl) only [sA, initTm, Nat.reduceEqDiff, reduceCtorEq, if_true, if_false, cv133_5, decide_eq_true, decide_eq_false, bShr_u32_8, wrap_i64, wrap_u8]) | (refine EvC.condT ?_ ?_; simp (config := { maxSteps := 2000000 }) (disch := first | omega | rfl) only [sA, Nat.reduceEqDiff, reduceCtorEq, if_true, if_false]; refine EvC_go ?_) | (refine EvC.condF ?_ ?_; simp (config := { maxSteps := 2000000 }) (disch := first | omega | rfl) only [sA, Nat.reduceEqDiff, reduceCtorEq, if_true, if_false]; refine EvC_go ?_))
      rw [dIdx_byte Tryd.underlying9 (show x / 256 < _ from by show _ < 256; omega)]
      generalize hB : byteAt _ (x / 256) = B
      have hB' : B = nbits (x / 256) := by rw [← hB]; exact tab_of (by decide +kernel) (by omega)
      have hl := nbits_le (n := x / 256) (by omega)
      repeat' (first | refine EvC.seq ?_ | refine EvC.scope ?_ | refine EvC.block ?_ | (refine EvC.skip ?_) | (refine EvC.exit ?_) | (refine EvC.ret ?_; try simp only [thenC_ret, inBlock_ret]) | (refine LX_go ?_; simp (config := { maxSteps := 2000000 }) (disch := first | omega | rfl) only [sA, Nat.reduceEqDiff, reduceCtorEq, if_true, if_false, cv5_3, wrap_i64]))
      exact leave_one rfl (by first | (simp only [sA, Nat.reduceEqDiff, reduceCtorEq, if_true, if_false]; rfl) | simp only []) ⟨by simp only [Value.int.injEq, true_and]; omega, rfl⟩
    · repeat' (first | refine EvC.seq ?_ | refine EvC.scope ?_ | refine EvC.block ?_ | (refine EvC.skip ?_; try simp only [thenC_normal]) | (refine EvC.exit ?_) | (refine EvC.ret ?_; try simp only [thenC_ret, inBlock_ret]) | (refine EvC.reg ?_; simp (config := { maxSteps := 2000000 }) (disch := first | omega | rfl) only [sA, initTm, Nat.reduceEqDiff, reduceCtorEq, if_true, if_false, cv133_5, decide_eq_false, wrap_u8]) | (refine EvC.condT ?_ ?_; simp (config := { maxSteps := 2000000 }) (disch := first | omega | rfl) only [sA, Nat.reduceEqDiff, reduceCtorEq, if_true, if_false]; refine EvC_go ?_) | (refine EvC.condF ?_ ?_; simp (config := { maxSteps := 2000000 }) (disch := first | omega | rfl) only [sA, Nat.reduceEqDiff, reduceCtorEq, if_true, if_false]; refine EvC_go ?_))
      rw [dIdx_byte Tryd.underlying9 (show x < _ from by show _ < 256; omega)]
      generalize hB : byteAt _ (x) = B
      have hB' : B = nbits (x) := by rw [← hB]; exact tab_of (by decide +kernel) (by omega)
      have hl := nbits_le (n := x) (by omega)
      repeat' (first | refine EvC.seq ?_ | refine EvC.scope ?_ | refine EvC.block ?_ | (refine EvC.skip ?_) | (refine EvC.exit ?_) | (refine EvC.ret ?_; try simp only [thenC_ret, inBlock_ret]) | (refine LX_go ?_; simp (config := { maxSteps := 2000000 }) (disch := first | omega | rfl) only [sA, Nat.reduceEqDiff, reduceCtorEq, if_true, if_false, cv5_3, wrap_i64]))
      exact leave_one rfl (by first | (simp only [sA, Nat.reduceEqDiff, reduceCtorEq, if_true, if_false]; rfl) | simp only []) ⟨by simp only [Value.int.injEq, true_and]; omega, rfl⟩

theorem tdiv10 (a : Nat) : (a : Int).tdiv 10 = ((a / 10 : Nat) : Int) := rfl
theorem tmod10 (a : Nat) : (a : Int).tmod 10 = ((a % 10 : Nat) : Int) := rfl
theorem shl_or {r x : Nat} (hr : r < 10) (hx : x < 4294967296) : kOr .u64 (IntKind.u64.wrap ((r : Int) * 2 ^ (min 32 IntKind.u64.bits))) (x : Int) = ((r * 4294967296 + x : Nat) : Int) := by
  have e1 : ((r : Int) * 2 ^ (min 32 IntKind.u64.bits)) = ((r * 4294967296 : Nat) : Int) := by
    show (r : Int) * 2 ^ 32 = _
    omega
  rw [e1, wrap_u64 (by omega) (by omega)]
  unfold kOr
  show IntKind.u64.wrap ((BitVec.ofInt 64 ((r * 4294967296 : Nat) : Int) ||| BitVec.ofInt 64 (x : Int)).toNat : Int) = _
  rw [BitVec.ofInt_natCast, BitVec.ofInt_natCast, BitVec.toNat_or, BitVec.toNat_ofNat, BitVec.toNat_ofNat, Nat.mod_eq_of_lt (by omega), Nat.mod_eq_of_lt (by omega)]
  have e2 : r * 4294967296 ||| x = r * 4294967296 + x := by
    have := Nat.two_pow_add_eq_or_of_lt (i := 32) (b := x) hx r
    rw [Nat.mul_comm] at this
    exact this.symm
  rw [e2, wrap_u64 (by omega) (by omega)]
-- bits.Div32
theorem div32_ev (hk : ∀ args H, ok.K 142 args H = none) (hm : ok.testBit 142 = true) {r x : Nat} (hr : r < 10) (hx : x < 4294967296) {H : Heap} (hw : H.wf) :
    EvF Tryd.prog ok 142 [.int .u32 (r : Int), .int .u32 (x : Int), .int .u32 10] H fun v H' => v = .tuple ⟨[.int .u32 ((r * 4294967296 + x) / 10 : Nat), .int .u32 ((r * 4294967296 + x) % 10 : Nat)]⟩ ∧ HX H H' := by
  refine EvF.enter (hk _ _) Tryd.func142 hm rfl ?_
  repeat' (first | refine EvC.seq ?_ | refine EvC.scope ?_ | refine EvC.block ?_ | (refine EvC.skip ?_; try simp only [thenC_normal]) | (refine EvC.exit ?_) | (refine EvC.ret ?_; try simp only [thenC_ret, inBlock_ret]) | (refine EvC.reg ?_; simp (config := { maxSteps := 2000000 }) (disch := first | omega | rfl) only [sA, initTm, Nat.reduceEqDiff, Nat.reduceAdd, reduceCtorEq, if_true, if_false, Int.reduceToNat, cv133_23, decide_eq_false, ine_t, bShl, bOr, wrap_u64, shl_or hr hx]) | (refine EvC.drw [([(0, 0), (1, 0), (2, 0), (3, 0), (4, 0), (5, 0), (6, 0), (7, 0), (8, 0), (9, 0), (10, 0), (11, 0)], none)] ?_ ?_; kernel_rfl; simp (config := { maxSteps := 2000000 }) (disch := first | omega | rfl) only [sD, sA, Nat.reduceEqDiff, Nat.reduceAdd, reduceCtorEq, if_true, if_false, cv133_23, cv23_133, wrap_u64, bQuo, bRem, wrap_u32, tdiv10, tmod10, isAlloc, isRead, reduceCtorEq]) | (refine EvC.condT ?_ ?_; simp (config := { maxSteps := 2000000 }) (disch := first | omega | rfl) only [sA, Nat.reduceEqDiff, reduceCtorEq, if_true, if_false]; refine EvC_go ?_) | (refine EvC.condF ?_ ?_; simp (config := { maxSteps := 2000000 }) (disch := first | omega | rfl) only [sA, Nat.reduceEqDiff, reduceCtorEq, if_true, if_false]; refine EvC_go ?_))
  exact leave_two rfl (by first | (simp only [Tr.get_put, Nat.reduceEqDiff, reduceCtorEq, if_true, if_false]; rfl) | simp only [Tr.get_put, Nat.reduceEqDiff, reduceCtorEq, if_true, if_false]) (by first | (simp only [Tr.get_put, Nat.reduceEqDiff, reduceCtorEq, if_true, if_false]; rfl) | simp only [Tr.get_put, Nat.reduceEqDiff, reduceCtorEq, if_true, if_false]) ⟨rfl, (HX.refl hw).bump _⟩
end Go.Proofs.YtlllbkjiadcloaaDoor.hb
end

-- BaseT
section
/- What the runs of this seat's laws may take as known. -/
namespace Go.Proofs.YtlllbkjiadcloaaDoor.hb
open Go Go.RowKit Go.Hb
def okT : Ok := okLaw (2 ^ 182 - 1) 12 101
end Go.Proofs.YtlllbkjiadcloaaDoor.hb
end

-- Y4
section
/- Limbs: how many bits, too long, normal, owned. -/
namespace Go.Proofs.YtlllbkjiadcloaaDoor.hb
open Go Go.RowKit Go.Hb
variable {ok : Ok}
set_option maxRecDepth 10000
attribute [local irreducible] LX LG EL STG SOP SGO SGD SAL SRD SEF SEG SLK SCK ES

theorem valB_trim {B m : Nat} {L : List Nat} (hz : ∀ x ∈ L.drop m, x = 0) : valB B (L.take m) = valB B L := valB_take hz
/-- how many bits limbs have, by the highest one -/
theorem nbits_limbs {L : List Nat} {m x : Nat} (hL : ∀ y ∈ L, y < 4294967296) (hm : m ≤ L.length) (hz : ∀ y ∈ L.drop m, y = 0) (h0 : m ≠ 0) (hx : L[m - 1]? = some x) (hx0 : x ≠ 0) :
    nbits (valB 4294967296 L) = 32 * (m - 1) + nbits x := by
  rw [← valB_trim hz]
  have e : L.take m = L.take (m - 1) ++ [x] := by
    have h1 : m = (m - 1) + 1 := by omega
    rw [h1, List.take_add_one]
    simp only [Nat.add_sub_cancel, hx, Option.toList_some]
  rw [e]
  have := nbits_top (l := L.take (m - 1)) (x := x) (e := 32) (fun y hy => hL y (List.mem_of_mem_take hy)) hx0
  rw [List.length_take, Nat.min_eq_left (by omega)] at this
  exact this

-- bigint.size
theorem size_ev {L : List Nat} {a : Option Addr} {c : Nat} {H : Heap} (r : RdS H (L.map u32V) a c) (hL : ∀ y ∈ L, y < 4294967296) (hlen : L.length ≤ 1048576) :
    EvF Tryd.prog okT 137 [.slice a L.length c] H fun v H' => v = .int .i64 (nbits (valB 4294967296 L) : Nat) ∧ H' = H := by
  have hLc : L.length ≤ c := by simpa using r.len
  have hc : c ≤ 9223372036854775807 := r.cap
  refine EvF.enter rfl Tryd.func137 (by decide) rfl ?_
  repeat' (first | refine EvC.seq ?_ | refine EvC.scope ?_ | refine EvC.block ?_ | (refine EvC.skip ?_) | (refine EvC.exit ?_) | (refine EvC.ret ?_; try simp only [thenC_ret, inBlock_ret]) | (refine EvC.reg ?_; simp (config := { maxSteps := 2000000 }) (disch := first | omega | rfl) only [sA, initTm, Nat.reduceEqDiff, reduceCtorEq, if_true, if_false, cl141]))
  refine (trim_ev (fun _ _ => rfl) (by decide) r).mono ?_
  rintro v H' ⟨m, rfl, hm, hz, hn0, rfl⟩
  by_cases h0 : m = 0
  · subst h0
    repeat' (first | refine EvC.seq ?_ | refine EvC.scope ?_ | refine EvC.block ?_ | (refine EvC.skip ?_) | (refine EvC.exit ?_) | (refine EvC.ret ?_; try simp only [thenC_ret, inBlock_ret]) | (refine EvC.reg ?_; simp (config := { maxSteps := 2000000 }) (disch := first | omega | rfl) only [sA, Nat.reduceEqDiff, reduceCtorEq, if_true, if_false, ln140, ieq_t]) | (refine EvC.condT ?_ ?_; simp (config := { maxSteps := 2000000 }) (disch := first | omega | rfl) only [sA, Nat.reduceEqDiff, reduceCtorEq, if_true, if_false]; refine EvC_go ?_))
    refine leave_one rfl (by first | (simp only [sA, Nat.reduceEqDiff, reduceCtorEq, if_true, if_false]; rfl) | simp only []) ⟨?_, rfl⟩
    rw [valB_zeros _ L (by simpa using hz)]; rfl
  · have hx : L[m - 1]? = some L[m - 1] := List.getElem?_eq_getElem (by omega)
    have hx0 := hn0 h0
    have hxl := hL L[m - 1] (List.getElem_mem _)
    generalize L[m - 1] = x at hx hxl
    rw [hx] at hx0
    have hx0' : x ≠ 0 := fun h => hx0 (by rw [h])
    have hnb := nbits_limbs hL hm hz h0 hx hx0'
    have hle := nbits_le (n := x) (by omega)
    obtain ⟨b, o, rfl, hl⟩ := r.get (m - 1) (u32V x) (by simp [hx])
    unfold u32V at hl
    have e1 : ((m : Int) - 1) = ((m - 1 : Nat) : Int) := by omega
    repeat' (first | refine EvC.seq ?_ | refine EvC.scope ?_ | refine EvC.block ?_ | (refine EvC.skip ?_; try simp only [thenC_normal]) | (refine EvC.exit ?_) | (refine EvC.ret ?_; try simp only [thenC_ret, inBlock_ret]) | (refine EvC.reg ?_; simp (config := { maxSteps := 2000000 }) (disch := first | omega | rfl) only [sA, Nat.reduceEqDiff, reduceCtorEq, if_true, if_false, ln140, ia140, ld133, cl121, ieq_f, wrap_i64, e1, hl]) | (refine EvC.condT ?_ ?_; simp (config := { maxSteps := 2000000 }) (disch := first | omega | rfl) only [sA, Nat.reduceEqDiff, reduceCtorEq, if_true, if_false]; refine EvC_go ?_) | (refine EvC.condF ?_ ?_; simp (config := { maxSteps := 2000000 }) (disch := first | omega | rfl) only [sA, Nat.reduceEqDiff, reduceCtorEq, if_true, if_false]; refine EvC_go ?_))
    refine (len32_ev (fun _ _ => rfl) (by decide) (show x < 4294967296 from hxl)).mono ?_
    rintro v H' ⟨rfl, rfl⟩
    repeat' (first | refine EvC.seq ?_ | refine EvC.scope ?_ | refine EvC.block ?_ | (refine EvC.skip ?_) | (refine EvC.exit ?_) | (refine EvC.ret ?_; try simp only [thenC_ret, inBlock_ret]) | (refine LX_go ?_; simp (config := { maxSteps := 2000000 }) (disch := first | omega | rfl) only [sA, Nat.reduceEqDiff, reduceCtorEq, if_true, if_false, wrap_i64]))
    refine leave_one rfl (by first | (simp only [sA, Nat.reduceEqDiff, reduceCtorEq, if_true, if_false]; rfl) | simp only []) ⟨?_, rfl⟩
    simp only [Value.int.injEq, true_and]
    omega

-- bigint.long
theorem long_ev {L : List Nat} {neg : Bool} {a : Option Addr} {b c : Nat} {H : Heap} (r : RdS H (L.map u32V) a c) (hL : ∀ y ∈ L, y < 4294967296) (hlen : L.length ≤ 1048576) (hw : H.wf) (hb : b < H.next)
    (hl : H.load ⟨b, 0, none⟩ 2 = some [.bool neg, .slice a L.length c]) :
    EvF Tryd.prog okT 139 [.slice (some ⟨b, 0, none⟩) 1 1] H fun v H' => v = .bool (decide (4096 < nbits (valB 4294967296 L))) ∧ HX H H' := by
  refine EvF.enter rfl Tryd.func139 (by decide) rfl ?_
  repeat' (first | refine EvC.seq ?_ | refine EvC.scope ?_ | refine EvC.block ?_ | (refine EvC.skip ?_) | (refine EvC.exit ?_) | (refine EvC.ret ?_; try simp only [thenC_ret, inBlock_ret]) | (refine EvC.reg ?_; simp (config := { maxSteps := 2000000 }) (disch := first | omega | rfl) only [sA, initTm, Nat.reduceEqDiff, reduceCtorEq, if_true, if_false, ln174]))
  refine EvC.loop (fun k st => ∃ tm H', st = ⟨tm, [], H'⟩ ∧ HX H H' ∧ tm.get 5 = some (.slice (some ⟨b, 0, none⟩) 1 1) ∧ tm.get 6 = some (.int .i64 1) ∧ ((k = 1 ∧ tm.get 7 = some (.int .i64 0)) ∨ (k = 0 ∧ tm.get 7 = some (.int .i64 1) ∧ ¬ 4096 < nbits (valB 4294967296 L)))) ?_ 1 _ ?_
  · rintro k st ⟨tm, H', rfl, hx, g5, g6, ⟨rfl, g7⟩ | ⟨rfl, g7, hn⟩⟩
    · have hl' := hx.load hw hl
      have hx2 := ((hx.new (some (Blk.row [.bool false, .slice none 0 0] 142))).put (i := H'.next) hx.next (Nat.lt_succ_self _) (some (.row [.bool neg, .slice a L.length c] 142)))
      repeat' (first | refine EvC.seq ?_ | refine EvC.scope ?_ | refine EvC.block ?_ | (refine EvC.skip ?_; try simp only [thenC_normal]) | (refine EvC.exit ?_) | (refine EvC.ret ?_; try simp only [thenC_ret, inBlock_ret]) | (refine EvC.reg ?_; simp (config := { maxSteps := 2000000 }) (disch := first | omega | rfl) only [sA, dAlloc, Nat.reduceEqDiff, Nat.reduceAdd, one, if_true, if_false, cutC, Int.reduceToNat, ld142, zr142, st142, fa142_1, ld140, cl137, g5, g6, g7, hl', decide_eq_true, iz174, Nat.zero_mul]) | (refine EvC.condT ?_ ?_; simp (config := { maxSteps := 2000000 }) (disch := first | omega | rfl) only [sA, if_true]; refine EvC_go ?_))
      refine (size_ev (r.keep hx2 hw) hL hlen).mono ?_
      rintro v H2 ⟨rfl, rfl⟩
      by_cases hbig : 4096 < nbits (valB 4294967296 L)
      · repeat' (first | refine EvC.seq ?_ | refine EvC.scope ?_ | refine EvC.block ?_ | (refine EvC.skip ?_) | (refine EvC.exit ?_) | (refine EvC.ret ?_; try simp only [thenC_ret, inBlock_ret]) | (refine EvC.reg ?_; simp (config := { maxSteps := 2000000 }) (disch := first | omega | rfl) only [sA]) | (refine LX_go ?_; simp (config := { maxSteps := 2000000 }) (disch := first | omega | rfl) only [sA, decide_eq_true]) | (refine EvC.condT ?_ ?_; simp (config := { maxSteps := 2000000 }) (disch := first | omega | rfl) only [sA, Nat.reduceEqDiff, if_true, if_false]; refine EvC_go ?_))
        exact leave_one rfl (by first | (simp only [Tr.get_put, Nat.reduceEqDiff, if_true, if_false]; rfl) | simp only [Tr.get_put, Nat.reduceEqDiff, if_true, if_false]) ⟨rfl, hx2⟩
      · repeat' (first | refine EvC.seq ?_ | refine EvC.scope ?_ | refine EvC.block ?_ | (refine EvC.skip ?_; try simp only [sA]) | (refine EvC.exit ?_) | (refine EvC.ret ?_; try simp only [thenC_ret, inBlock_ret]) | (refine EvC.reg ?_; simp (config := { maxSteps := 2000000 }) (disch := first | omega | rfl) only [sA, Nat.reduceEqDiff, if_true, if_false, g7, wrap_i64]) | (refine LX_go ?_; simp (config := { maxSteps := 2000000 }) (disch := first | omega | rfl) only [sA, decide_eq_false]) | (refine EvC.condT ?_ ?_; simp (config := { maxSteps := 2000000 }) (disch := first | omega | rfl) only [sA, Nat.reduceEqDiff, if_true, if_false]; refine EvC_go ?_) | (refine EvC.condF ?_ ?_; simp (config := { maxSteps := 2000000 }) (disch := first | omega | rfl) only [sA, Nat.reduceEqDiff, if_true, if_false]; refine EvC_go ?_))
        exact ⟨0, by omega, _, _, rfl, hx2, (by first | (simp only [Tr.get_put, Nat.reduceEqDiff, if_false, g5]; rfl) | simp only [Tr.get_put, Nat.reduceEqDiff, if_false, g5]), (by first | (simp only [Tr.get_put, Nat.reduceEqDiff, if_false, g6]; rfl) | simp only [Tr.get_put, Nat.reduceEqDiff, if_false, g6]), .inr ⟨rfl, (by first | (simp only [sA, Nat.reduceEqDiff, if_true, if_false]; rfl) | simp only []), hbig⟩⟩
    · repeat' (first | refine EvC.seq ?_ | refine EvC.scope ?_ | refine EvC.block ?_ | (refine EvC.skip ?_) | (refine EvC.exit ?_; try simp only [sA, if_true]) | (refine EvC.ret ?_; try simp only [thenC_ret, inBlock_ret]) | (refine EvC.reg ?_; simp (config := { maxSteps := 2000000 }) (disch := first | omega | rfl) only [sA, g6, g7, decide_eq_false]) | (refine EvC.condT ?_ ?_; simp (config := { maxSteps := 2000000 }) (disch := first | omega | rfl) only [sA, if_true]; refine EvC_go ?_) | (refine EvC.condF ?_ ?_; simp (config := { maxSteps := 2000000 }) (disch := first | omega | rfl) only [sA, if_true]; refine EvC_go ?_))
      exact leave_one rfl (by first | (simp only [Tr.get_put, Nat.reduceEqDiff, if_true, if_false]; rfl) | simp only [Tr.get_put, Nat.reduceEqDiff, if_true, if_false]) ⟨rfl, hx⟩
  · exact ⟨_, _, rfl, HX.refl hw, (by first | (simp only [Tr.get_put, Nat.reduceEqDiff, reduceCtorEq, if_true, if_false]; rfl) | simp only [Tr.get_put, Nat.reduceEqDiff, reduceCtorEq, if_true, if_false]), (by first | (simp only [sA, Nat.reduceEqDiff, reduceCtorEq, if_true, if_false]; rfl) | simp only []), .inl ⟨rfl, (by first | (simp only [Tr.get_put, Nat.reduceEqDiff, reduceCtorEq, if_true, if_false]; rfl) | simp only [Tr.get_put, Nat.reduceEqDiff, reduceCtorEq, if_true, if_false])⟩⟩

-- bigint.own
theorem own_ev {L : List Nat} {a : Option Addr} {c : Nat} {H : Heap} (r : RdS H (L.map u32V) a c) (hlen : L.length ≤ 1048576) (hw : H.wf) :
    EvF Tryd.prog okT 140 [.slice a L.length c] H fun v H' => ∃ b c', OwnS H' 133 1 H.next (L.map fun x => [u32V x]) b c' ∧ v = .slice (some ⟨b, 0, none⟩) L.length c' ∧ HX H H' := by
  have hmost : L.length ≤ most := hlen
  have hm0 : 0 ≤ most := Nat.zero_le _
  have hmax : L.length ≤ maxLen := Nat.le_trans hlen (by simp [maxLen])
  refine EvF.enter rfl Tryd.func140 (by decide) rfl ?_
  by_cases h0 : L.length = 0
  · have hL0 : L = [] := List.length_eq_zero_iff.1 h0
    subst hL0
    repeat' (first | refine EvC.seq ?_ | refine EvC.scope ?_ | refine EvC.block ?_ | (refine EvC.skip ?_) | (refine EvC.exit ?_) | (refine EvC.ret ?_; try simp only [thenC_ret, inBlock_ret]) | (refine EvC.reg ?_; simp (config := { maxSteps := 2000000 }) (disch := first | omega | rfl) only [sA, initTm, Nat.reduceEqDiff, reduceCtorEq, if_true, if_false, ln140, dMk_nat mk140 hm0, repL_one, List.replicate_zero, dCp_none sl140]))
    refine leave_one rfl (by first | (simp only [Tr.get_put, Nat.reduceEqDiff, reduceCtorEq, if_true, if_false]; rfl) | simp only [Tr.get_put, Nat.reduceEqDiff, reduceCtorEq, if_true, if_false]) ⟨H.next, 0, ?_, rfl, (HX.refl hw).new _⟩
    exact OwnS.ones (vs := []) gt_new_eq (Nat.le_refl _) (Nat.lt_succ_self _) (Nat.le_refl _) (Nat.zero_le _) rfl
  · have hx := (HX.refl hw).new (some (.row (List.replicate L.length (Value.int .u32 0)) 133))
    obtain ⟨b, o, rfl, hl⟩ := (r.keep hx hw).all (by simpa using h0)
    rw [List.length_map] at hl
    have hone : (L.map u32V).all one = true := by simp [u32V, one]
    have hcp := dCp_all (c := L.length) (c' := c) (o := 0) (b := H.next) sl140 (Nat.pos_of_ne_zero h0) (by rw [Nat.mul_one]; exact hl) hone gt_new_eq (by simp)
    have hsp : Hb.splice (List.replicate L.length (Value.int .u32 0)) 0 (L.map u32V) = L.map u32V := by rw [splice_zero]; simp
    rw [hsp] at hcp
    repeat' (first | refine EvC.seq ?_ | refine EvC.scope ?_ | refine EvC.block ?_ | (refine EvC.skip ?_) | (refine EvC.exit ?_) | (refine EvC.ret ?_; try simp only [thenC_ret, inBlock_ret]) | (refine EvC.reg ?_; simp (config := { maxSteps := 2000000 }) (disch := first | omega | rfl) only [sA, initTm, Nat.reduceEqDiff, reduceCtorEq, if_true, if_false, ln140, dMk_nat mk140 hmost, repL_one, hcp]))
    refine leave_one rfl (by first | (simp only [Tr.get_put, Nat.reduceEqDiff, reduceCtorEq, if_true, if_false]; rfl) | simp only [Tr.get_put, Nat.reduceEqDiff, reduceCtorEq, if_true, if_false]) ⟨H.next, L.length, ?_, rfl, hx.put (Nat.le_refl _) (Nat.lt_succ_self _) _⟩
    have := OwnS.ones (H := (H.new (some (.row (List.replicate L.length (Value.int .u32 0)) 133))).put H.next (some (.row (L.map u32V) 133))) (base := H.next) (c := L.length) gt_put_eq (Nat.le_refl _) (Nat.lt_succ_self _) (by simp) hmax hone
    rw [List.map_map] at this
    exact this

-- bigint.laid
theorem laid_ev {L : List Nat} {neg : Bool} {a : Option Addr} {c : Nat} {H : Heap} (r : RdS H (L.map u32V) a c) (hw : H.wf) :
    EvF Tryd.prog okT 138 [.bool neg, .slice a L.length c] H fun v H' => ∃ m, v = .agg ⟨[.bool (neg && decide (0 < m)), .slice a m c]⟩ ∧ m ≤ L.length ∧ (∀ x ∈ L.drop m, x = 0) ∧ (m ≠ 0 → L[m - 1]? ≠ some 0) ∧ HX H H' := by
  refine EvF.enter rfl Tryd.func138 (by decide) rfl ?_
  repeat' (first | refine EvC.seq ?_ | refine EvC.scope ?_ | refine EvC.block ?_ | (refine EvC.skip ?_) | (refine EvC.exit ?_) | (refine EvC.ret ?_; try simp only [thenC_ret, inBlock_ret]) | (refine EvC.reg ?_; simp (config := { maxSteps := 2000000 }) (disch := first | omega | rfl) only [sA, initTm, dAlloc, Nat.reduceEqDiff, reduceCtorEq, if_true, if_false, zr142, cl141]))
  have hx := (HX.refl hw).new (some (.row [.bool false, .slice none 0 0] 142))
  refine (trim_ev (fun _ _ => rfl) (by decide) (r.keep hx hw)).mono ?_
  rintro v H' ⟨m, rfl, hm, hz, hn0, rfl⟩
  cases neg with
  | false =>
    repeat' (first | refine EvC.seq ?_ | refine EvC.scope ?_ | refine EvC.block ?_ | (refine EvC.skip ?_) | (refine EvC.exit ?_) | (refine EvC.ret ?_; try simp only [thenC_ret, inBlock_ret]) | (refine EvC.reg ?_; simp (config := { maxSteps := 2000000 }) (disch := first | omega | rfl) only [sA, Nat.reduceEqDiff, Nat.reduceAdd, Value.cells, one, reduceCtorEq, if_true, if_false, Nat.reduceLeDiff, layC, bd142, st142]))
    exact leave_cell rfl (by first | (simp only [sA, Nat.reduceEqDiff, reduceCtorEq, if_true, if_false]; rfl) | simp only []) (by first | (simp only [sA, Nat.reduceAdd, if_true, cutC, ld142]; rfl) | simp only []) ⟨m, rfl, hm, hz, hn0, hx.put (Nat.le_refl _) (Nat.lt_succ_self _) _⟩
  | true =>
    by_cases h0 : 0 < m
    · repeat' (first | refine EvC.seq ?_ | refine EvC.scope ?_ | refine EvC.block ?_ | (refine EvC.skip ?_) | (refine EvC.exit ?_) | (refine EvC.ret ?_; try simp only [thenC_ret, inBlock_ret]) | (refine EvC.reg ?_; simp (config := { maxSteps := 2000000 }) (disch := first | omega | rfl) only [sA, Nat.reduceEqDiff, Nat.reduceAdd, Value.cells, one, reduceCtorEq, if_true, if_false, Nat.reduceLeDiff, layC, ln140, bd142, st142, decide_eq_true]))
      exact leave_cell rfl (by first | (simp only [sA, Nat.reduceEqDiff, reduceCtorEq, if_true, if_false]; rfl) | simp only []) (by first | (simp only [sA, Nat.reduceAdd, if_true, cutC, ld142]; rfl) | simp only []) ⟨m, by first | rfl | simp [h0], hm, hz, hn0, hx.put (Nat.le_refl _) (Nat.lt_succ_self _) _⟩
    · repeat' (first | refine EvC.seq ?_ | refine EvC.scope ?_ | refine EvC.block ?_ | (refine EvC.skip ?_) | (refine EvC.exit ?_) | (refine EvC.ret ?_; try simp only [thenC_ret, inBlock_ret]) | (refine EvC.reg ?_; simp (config := { maxSteps := 2000000 }) (disch := first | omega | rfl) only [sA, Nat.reduceEqDiff, Nat.reduceAdd, Value.cells, one, reduceCtorEq, if_true, if_false, Nat.reduceLeDiff, layC, ln140, bd142, st142, decide_eq_false]))
      exact leave_cell rfl (by first | (simp only [sA, Nat.reduceEqDiff, reduceCtorEq, if_true, if_false]; rfl) | simp only []) (by first | (simp only [sA, Nat.reduceAdd, if_true, cutC, ld142]; rfl) | simp only []) ⟨m, by first | rfl | simp [h0], hm, hz, hn0, hx.put (Nat.le_refl _) (Nat.lt_succ_self _) _⟩

-- hornbeamref01.laid
theorem laidR_ev {L : List Nat} {neg : Bool} {a : Option Addr} {c : Nat} {H : Heap} (r : RdS H (L.map i64V) a c) (hw : H.wf) :
    EvF Tryd.prog okT 147 [.bool neg, .slice a L.length c] H fun v H' => ∃ m, v = .agg ⟨[.bool (neg && decide (0 < m)), .slice a m c]⟩ ∧ m ≤ L.length ∧ (∀ x ∈ L.drop m, x = 0) ∧ (m ≠ 0 → L[m - 1]? ≠ some 0) ∧ HX H H' := by
  refine EvF.enter rfl Tryd.func147 (by decide) rfl ?_
  repeat' (first | refine EvC.seq ?_ | refine EvC.scope ?_ | refine EvC.block ?_ | (refine EvC.skip ?_) | (refine EvC.exit ?_) | (refine EvC.ret ?_; try simp only [thenC_ret, inBlock_ret]) | (refine EvC.reg ?_; simp (config := { maxSteps := 2000000 }) (disch := first | omega | rfl) only [sA, initTm, dAlloc, Nat.reduceEqDiff, reduceCtorEq, if_true, if_false, zr149, cl146]))
  have hx := (HX.refl hw).new (some (.row [.bool false, .slice none 0 0] 149))
  refine (cut_ev (fun _ _ => rfl) (by decide) (r.keep hx hw)).mono ?_
  rintro v H' ⟨m, rfl, hm, hz, hn0, rfl⟩
  cases neg with
  | false =>
    repeat' (first | refine EvC.seq ?_ | refine EvC.scope ?_ | refine EvC.block ?_ | (refine EvC.skip ?_) | (refine EvC.exit ?_) | (refine EvC.ret ?_; try simp only [thenC_ret, inBlock_ret]) | (refine EvC.reg ?_; simp (config := { maxSteps := 2000000 }) (disch := first | omega | rfl) only [sA, Nat.reduceEqDiff, Nat.reduceAdd, Value.cells, one, reduceCtorEq, if_true, if_false, Nat.reduceLeDiff, layC, bd149, st149]))
    exact leave_cell rfl (by first | (simp only [sA, Nat.reduceEqDiff, reduceCtorEq, if_true, if_false]; rfl) | simp only []) (by first | (simp only [sA, Nat.reduceAdd, if_true, cutC, ld149]; rfl) | simp only []) ⟨m, rfl, hm, hz, hn0, hx.put (Nat.le_refl _) (Nat.lt_succ_self _) _⟩
  | true =>
    by_cases h0 : 0 < m
    · repeat' (first | refine EvC.seq ?_ | refine EvC.scope ?_ | refine EvC.block ?_ | (refine EvC.skip ?_) | (refine EvC.exit ?_) | (refine EvC.ret ?_; try simp only [thenC_ret, inBlock_ret]) | (refine EvC.reg ?_; simp (config := { maxSteps := 2000000 }) (disch := first | omega | rfl) only [sA, Nat.reduceEqDiff, Nat.reduceAdd, Value.cells, one, reduceCtorEq, if_true, if_false, Nat.reduceLeDiff, layC, ln46, bd149, st149, decide_eq_true]))
      exact leave_cell rfl (by first | (simp only [sA, Nat.reduceEqDiff, reduceCtorEq, if_true, if_false]; rfl) | simp only []) (by first | (simp only [sA, Nat.reduceAdd, if_true, cutC, ld149]; rfl) | simp only []) ⟨m, by first | rfl | simp [h0], hm, hz, hn0, hx.put (Nat.le_refl _) (Nat.lt_succ_self _) _⟩
    · repeat' (first | refine EvC.seq ?_ | refine EvC.scope ?_ | refine EvC.block ?_ | (refine EvC.skip ?_) | (refine EvC.exit ?_) | (refine EvC.ret ?_; try simp only [thenC_ret, inBlock_ret]) | (refine EvC.reg ?_; simp (config := { maxSteps := 2000000 }) (disch := first | omega | rfl) only [sA, Nat.reduceEqDiff, Nat.reduceAdd, Value.cells, one, reduceCtorEq, if_true, if_false, Nat.reduceLeDiff, layC, ln46, bd149, st149, decide_eq_false]))
      exact leave_cell rfl (by first | (simp only [sA, Nat.reduceEqDiff, reduceCtorEq, if_true, if_false]; rfl) | simp only []) (by first | (simp only [sA, Nat.reduceAdd, if_true, cutC, ld149]; rfl) | simp only []) ⟨m, by first | rfl | simp [h0], hm, hz, hn0, hx.put (Nat.le_refl _) (Nat.lt_succ_self _) _⟩
end Go.Proofs.YtlllbkjiadcloaaDoor.hb
end

-- Y5
section
/- Parse: what digits write. -/
namespace Go.Proofs.YtlllbkjiadcloaaDoor.hb
open Go Go.RowKit Go.Hb
variable {ok : Ok}
set_option maxRecDepth 10000
attribute [local irreducible] LX LG EL STG SOP SGO SGD SAL SRD SEF SEG SLK SCK ES

/-- a text's bytes, as numbers -/
def bl (s : ByteArray) : List Nat := s.data.toList.map UInt8.toNat
theorem bl_len (s : ByteArray) : (bl s).length = s.size := by simp [bl]
theorem bl_get (s : ByteArray) {i : Nat} (h : i < s.size) : (bl s)[i]? = some (byteAt s i) := by
  have h' : i < s.data.toList.length := by simpa using h
  unfold bl byteAt
  rw [List.getElem?_map, List.getElem?_eq_getElem h', List.getD_eq_getElem?_getD, List.getElem?_eq_getElem h']
  rfl
theorem bl_extract (s : ByteArray) (l m : Nat) : bl (s.extract l m) = ((bl s).take m).drop l := by
  unfold bl
  rw [ByteArray.data_extract, Array.toList_extract, List.extract_eq_take_drop, List.map_take, List.map_drop, ← List.drop_take]
def negS (l : List Nat) : Bool := l.head? == some 45
def bodyS (l : List Nat) : List Nat := if negS l then l.tail else l
def parseD (l : List Nat) : Option Nat := if bodyS l = [] then none else if (bodyS l).any (fun x => 10 ≤ digV x) then none else numD ((bodyS l).map digV) 0

def limbsOK (L : List Nat) : Prop := (∀ y ∈ L, y < 4294967296) ∧ L.getLast? ≠ some 0
theorem limbs_few {L : List Nat} (h : limbsOK L) (hb : ¬ 4096 < nbits (valB 4294967296 L)) : L.length ≤ 128 := by
  rcases List.eq_nil_or_concat L with rfl | ⟨l, x, rfl⟩
  · simp
  · rw [List.concat_eq_append] at *
    have hx : x ≠ 0 := by have := h.2; simpa using this
    have := nbits_top (l := l) (x := x) (e := 32) (fun y hy => h.1 y (by simp [hy])) hx
    have h0 : 1 ≤ nbits x := by unfold nbits; rw [if_neg hx]; omega
    rw [show (2 : Nat) ^ 32 = 4294967296 from rfl] at this
    rw [this] at hb
    simp
    omega
/-- what Parse answers -/
def ParseT (H' : Heap) (V : Nat → Value) (B : Nat) (l : List Nat) (v : Value) : Prop :=
  (parseD l = none ∧ ∃ e : Int, e ≠ 0 ∧ v = .tuple ⟨[.agg ⟨[.bool false, .slice none 0 0]⟩, .int .i64 e]⟩) ∨
  ∃ n L a c, parseD l = some n ∧ v = .tuple ⟨[.agg ⟨[.bool (negS l && decide (0 < L.length)), .slice a L.length c]⟩, .int .i64 0]⟩ ∧ RdS H' (L.map V) a c ∧ (∀ y ∈ L, y < B) ∧ valB B L = n ∧ L.getLast? ≠ some 0 ∧ L.length ≤ 4096

-- bigint.Parse
set_option maxHeartbeats 2000000 in
theorem parse_ev {s : ByteArray} (hs : s.size ≤ 9223372036854775807) {H : Heap} (hw : H.wf) :
    EvF Tryd.prog okT 124 [.string s, .int .i64 10] H fun v H' => ParseT H' u32V 4294967296 (bl s) v ∧ HX H H' := by
  refine EvF.enter rfl Tryd.func124 (by decide) rfl ?_
  (repeat refine EvC.seq ?_); refine EvC.reg ?_; simp (config := { maxSteps := 2000000 }) (disch := first | omega | rfl) only [sA, initTm, dAlloc, zr142]
  have hx0 := (HX.refl hw).new (some (.row [.bool false, .slice none 0 0] 142))
  obtain ⟨H1, hH1⟩ : ∃ H1, H1 = H.new (some (.row [.bool false, .slice none 0 0] 142)) := ⟨_, rfl⟩
  have hn1 : H1.next = H.next + 1 := by rw [hH1]; rfl
  have hg1 : H1.get H.next = some (.row [.bool false, .slice none 0 0] 142) := by rw [hH1]; exact gt_new_eq
  rw [← hH1] at hx0 ⊢
  (repeat refine EvC.seq ?_); refine EvC.reg ?_; simp (config := { maxSteps := 2000000 }) (disch := first | omega | rfl) only [sA, Nat.reduceEqDiff, reduceCtorEq, if_true, if_false, decide_eq_false, Bool.false_eq_true]
  (repeat refine EvC.seq ?_); refine EvC.condF (by simp (config := { maxSteps := 2000000 }) (disch := first | omega | rfl) only [sA, Nat.reduceEqDiff, reduceCtorEq, if_true, if_false]) ?_; (try refine EvC.skip ?_); (try simp only [thenC_normal, inBlock_normal])
  (repeat refine EvC.seq ?_)
  refine EvC.join (fun st => ∃ tm, st = ⟨tm, [], H1⟩ ∧ tm.get 0 = some (.string s) ∧ tm.get 1 = some (.int .i64 10) ∧ tm.get 4 = some (.pointer (some ⟨H.next, 0, none⟩)) ∧ tm.get 6 = some (.bool (negS (bl s)))) ?_ ?_
  · by_cases h0 : s.size = 0
    · have hb : negS (bl s) = false := by
        have : bl s = [] := List.length_eq_zero_iff.1 (by rw [bl_len]; exact h0)
        rw [this]; rfl
      rw [hb]
      (repeat refine EvC.seq ?_); refine EvC.reg ?_; simp (config := { maxSteps := 2000000 }) (disch := first | omega | rfl) only [sA, Nat.reduceEqDiff, reduceCtorEq, if_true, if_false, ln9, decide_eq_false, Bool.false_eq_true]
      exact ⟨_, rfl, (by first | (simp only [Tr.get_put, reduceCtorEq, if_true, if_false]; rfl) | simp only [Tr.get_put, reduceCtorEq, if_true, if_false]), (by first | (simp only [Tr.get_put, Nat.reduceEqDiff, reduceCtorEq, if_true, if_false]; rfl) | simp only [Tr.get_put, Nat.reduceEqDiff, reduceCtorEq, if_true, if_false]), (by first | (simp only [Tr.get_put, Nat.reduceEqDiff, reduceCtorEq, if_true, if_false]; rfl) | simp only [Tr.get_put, Nat.reduceEqDiff, reduceCtorEq, if_true, if_false]), (by first | (simp only [Tr.get_put, Nat.reduceEqDiff, reduceCtorEq, if_true, if_false]; rfl) | simp only [Tr.get_put, Nat.reduceEqDiff, reduceCtorEq, if_true, if_false])⟩
    · have hb : negS (bl s) = (byteAt s 0 == 45) := by
        have := bl_get s (i := 0) (by omega)
        unfold negS
        rw [List.head?_eq_getElem?, this]; simp
      rw [hb]
      by_cases h45 : byteAt s 0 = 45
      · (repeat refine EvC.seq ?_); refine EvC.reg ?_; simp (config := { maxSteps := 2000000 }) (disch := first | omega | rfl) only [sA, Nat.reduceEqDiff, reduceCtorEq, if_true, if_false, Int.reduceToNat, ln9, decide_eq_true, iy9, ieq_t]
        exact ⟨_, rfl, (by first | (simp only [Tr.get_put, reduceCtorEq, if_true, if_false]; rfl) | simp only [Tr.get_put, reduceCtorEq, if_true, if_false]), (by first | (simp only [Tr.get_put, Nat.reduceEqDiff, reduceCtorEq, if_true, if_false]; rfl) | simp only [Tr.get_put, Nat.reduceEqDiff, reduceCtorEq, if_true, if_false]), (by first | (simp only [Tr.get_put, Nat.reduceEqDiff, reduceCtorEq, if_true, if_false]; rfl) | simp only [Tr.get_put, Nat.reduceEqDiff, reduceCtorEq, if_true, if_false]), by simp only [sA, Nat.reduceEqDiff, reduceCtorEq, if_true, if_false]; first | rfl | simp [h45]⟩
      · (repeat refine EvC.seq ?_); refine EvC.reg ?_; simp (config := { maxSteps := 2000000 }) (disch := first | omega | rfl) only [sA, Nat.reduceEqDiff, reduceCtorEq, if_true, if_false, Int.reduceToNat, ln9, decide_eq_true, iy9, ieq_f]
        exact ⟨_, rfl, (by first | (simp only [Tr.get_put, reduceCtorEq, if_true, if_false]; rfl) | simp only [Tr.get_put, reduceCtorEq, if_true, if_false]), (by first | (simp only [Tr.get_put, Nat.reduceEqDiff, reduceCtorEq, if_true, if_false]; rfl) | simp only [Tr.get_put, Nat.reduceEqDiff, reduceCtorEq, if_true, if_false]), (by first | (simp only [Tr.get_put, Nat.reduceEqDiff, reduceCtorEq, if_true, if_false]; rfl) | simp only [Tr.get_put, Nat.reduceEqDiff, reduceCtorEq, if_true, if_false]), by simp only [sA, Nat.reduceEqDiff, reduceCtorEq, if_true, if_false]; first | rfl | simp [h45]⟩
  rintro st ⟨tm, rfl, g0, g1, g4, g6⟩
  try simp (config := { maxSteps := 2000000 }) (disch := first | omega | rfl) only [thenC_normal]
  (repeat refine EvC.seq ?_); refine EvC.reg ?_; simp (config := { maxSteps := 2000000 }) (disch := first | omega | rfl) only [sA, g6]
  (repeat refine EvC.seq ?_)
  have hbody : bodyS (bl s) = if negS (bl s) then (bl s).tail else bl s := rfl
  refine EvC.join (fun st => ∃ tm s', st = ⟨tm, [], H1⟩ ∧ bl s' = bodyS (bl s) ∧ s'.size ≤ 9223372036854775807 ∧ tm.get 0 = some (.string s') ∧ tm.get 1 = some (.int .i64 10) ∧ tm.get 4 = some (.pointer (some ⟨H.next, 0, none⟩)) ∧ tm.get 6 = some (.bool (negS (bl s)))) ?_ ?_
  · cases hneg : negS (bl s) with
    | true =>
      have h1 : 1 ≤ s.size := by
        rw [← bl_len]
        cases hb : bl s with
        | nil => rw [hb] at hneg; simp [negS] at hneg
        | cons x l => simp
      have hsl : dSl Tryd.prog 9 (.string s) (some (.int .i64 1)) none none H1 = some (.val (.string (s.extract 1 s.size)) H1) := dSl_str_lo (l := 1) us9 h1
      rw [hneg] at g6 hbody
      refine EvC.condT (by first | (simp only [sA, if_true]; rfl) | simp only [sA, if_true]) ?_
      (repeat refine EvC.seq ?_); refine EvC.reg ?_; simp (config := { maxSteps := 2000000 }) (disch := first | omega | rfl) only [sA, Nat.reduceEqDiff, reduceCtorEq, if_true, if_false, g0, hsl]
      refine ⟨_, s.extract 1 s.size, rfl, ?_, ?_, (by first | (simp only [Tr.get_put, reduceCtorEq, if_true, if_false]; rfl) | simp only [Tr.get_put, reduceCtorEq, if_true, if_false]), (by first | (simp only [Tr.get_put, Nat.reduceEqDiff, reduceCtorEq, if_false, g1]; rfl) | simp only [Tr.get_put, Nat.reduceEqDiff, reduceCtorEq, if_false, g1]), (by first | (simp only [Tr.get_put, Nat.reduceEqDiff, reduceCtorEq, if_false, g4]; rfl) | simp only [Tr.get_put, Nat.reduceEqDiff, reduceCtorEq, if_false, g4]), (by first | (simp only [Tr.get_put, Nat.reduceEqDiff, reduceCtorEq, if_false, g6]; rfl) | simp only [Tr.get_put, Nat.reduceEqDiff, reduceCtorEq, if_false, g6])⟩
      · rw [bl_extract, hbody, List.take_of_length_le (by rw [bl_len]; exact Nat.le_refl _)]
        simp
      · have : (s.extract 1 s.size).size ≤ s.size := by rw [ByteArray.size_extract]; omega
        omega
    | false =>
      rw [hneg] at g6 hbody
      refine EvC.condF (by first | (simp only [sA, if_true]; rfl) | simp only [sA, if_true]) (EvC.skip ?_)
      try simp (config := { maxSteps := 2000000 }) (disch := first | omega | rfl) only [thenC_normal]
      exact ⟨_, s, rfl, by rw [hbody]; rfl, hs, (by first | (simp only [Tr.get_put, reduceCtorEq, if_false, g0]; rfl) | simp only [Tr.get_put, reduceCtorEq, if_false, g0]), (by first | (simp only [Tr.get_put, Nat.reduceEqDiff, if_false, g1]; rfl) | simp only [Tr.get_put, Nat.reduceEqDiff, if_false, g1]), (by first | (simp only [Tr.get_put, Nat.reduceEqDiff, if_false, g4]; rfl) | simp only [Tr.get_put, Nat.reduceEqDiff, if_false, g4]), (by first | (simp only [Tr.get_put, Nat.reduceEqDiff, if_false, g6]; rfl) | simp only [Tr.get_put, Nat.reduceEqDiff, if_false, g6])⟩
  clear g0 g1 g4 g6
  rintro st ⟨tm1, s', rfl, hbl, hs', g0, g1, g4, g6⟩
  clear tm
  generalize hneg : negS (bl s) = neg at g6
  try simp (config := { maxSteps := 2000000 }) (disch := first | omega | rfl) only [thenC_normal]
  (repeat refine EvC.seq ?_); refine EvC.reg ?_; simp (config := { maxSteps := 2000000 }) (disch := first | omega | rfl) only [sA, if_true, ln9, g0]
  (repeat refine EvC.seq ?_)
  -- every digit is one
  refine EvC.join (fun st => ∃ tm, st = ⟨tm, [], H1⟩ ∧ (bodyS (bl s)).any (fun x => 10 ≤ digV x) = false ∧ tm.get 0 = some (.string s') ∧ tm.get 1 = some (.int .i64 10) ∧ tm.get 4 = some (.pointer (some ⟨H.next, 0, none⟩)) ∧ tm.get 6 = some (.bool neg)) ?_ ?_
  · refine EvC.block (EvC.loop (fun k st => ∃ tm i, st = ⟨tm, [], H1⟩ ∧ k = s'.size - i ∧ i ≤ s'.size ∧ (∀ x ∈ (bl s').take i, digV x < 10) ∧ tm.get 0 = some (.string s') ∧ tm.get 1 = some (.int .i64 10) ∧ tm.get 4 = some (.pointer (some ⟨H.next, 0, none⟩)) ∧ tm.get 6 = some (.bool neg) ∧ tm.get 32 = some (.int .i64 s'.size) ∧ tm.get 33 = some (.int .i64 (i : Nat))) ?_ s'.size _ ?_)
    · rintro k st ⟨tm, i, rfl, hk, hi, hall, f0, f1, f4, f6, f32, f33⟩
      by_cases hlt : i < s'.size
      · have hgi := bl_get s' hlt
        repeat' (first | refine EvC.seq ?_ | refine EvC.scope ?_ | refine EvC.block ?_ | (refine EvC.skip ?_; try simp only [thenC_normal]) | (refine EvC.exit ?_) | (refine EvC.ret ?_; try simp only [thenC_ret, inBlock_ret]) | (refine EvC.reg ?_; simp (config := { maxSteps := 2000000 }) (disch := first | omega | rfl) only [sA, Nat.reduceEqDiff, reduceCtorEq, if_true, if_false, ix9, cl136, f0, f1, f32, f33, decide_eq_true]) | (refine EvC.condT ?_ ?_; simp (config := { maxSteps := 2000000 }) (disch := first | omega | rfl) only [sA, if_true]; refine EvC_go ?_))
        refine (value_ev (fun _ _ => rfl) (by decide) _ (byteAt_lt s' i) H1).mono ?_
        rintro v H' ⟨rfl, rfl⟩
        by_cases hd : 10 ≤ digV (byteAt s' i)
        · repeat' (first | refine EvC.seq ?_ | refine EvC.scope ?_ | refine EvC.block ?_ | (refine EvC.skip ?_) | (refine EvC.exit ?_) | (refine EvC.ret ?_; try simp only [thenC_ret, inBlock_ret]) | (refine EvC.reg ?_; simp (config := { maxSteps := 2000000 }) (disch := first | omega | rfl) only [sA, Nat.reduceEqDiff, Nat.reduceAdd, Value.cells, one, if_true, if_false, layC, bd142, st142, f4, hg1]) | (refine LX_go ?_; simp (config := { maxSteps := 2000000 }) (disch := first | omega | rfl) only [sA, decide_eq_true]) | (refine EvC.condT ?_ ?_; simp (config := { maxSteps := 2000000 }) (disch := first | omega | rfl) only [sA, Nat.reduceEqDiff, if_true, if_false]; refine EvC_go ?_))
          refine leave_cell_two rfl (by first | (simp only [sA, Nat.reduceEqDiff, if_false, f4]; rfl) | simp only []) (by first | (simp only [sA, Nat.reduceAdd, if_true, cutC, ld142]; rfl) | simp only [sA, Nat.reduceAdd, if_true, cutC, ld142]) (by first | (simp only [Tr.get_put, Nat.reduceEqDiff, if_true, if_false]; rfl) | simp only [Tr.get_put, Nat.reduceEqDiff, if_true, if_false]) ⟨.inl ⟨?_, 12, by omega, rfl⟩, ?_⟩
          · have hm : byteAt s' i ∈ bodyS (bl s) := by rw [← hbl]; exact List.mem_of_getElem? hgi
            unfold parseD
            rw [if_neg (fun h => by rw [h] at hm; cases hm), if_pos (List.any_eq_true.2 ⟨_, hm, decide_eq_true hd⟩)]
          · exact hx0.put (Nat.le_refl _) (by omega) _
        · repeat' (first | refine EvC.seq ?_ | refine EvC.scope ?_ | refine EvC.block ?_ | (refine EvC.skip ?_; try simp only [sA]) | (refine EvC.exit ?_) | (refine EvC.ret ?_; try simp only [thenC_ret, inBlock_ret]) | (refine EvC.reg ?_; simp (config := { maxSteps := 2000000 }) (disch := first | omega | rfl) only [sA, Nat.reduceEqDiff, if_true, if_false, f33, wrap_i64]) | (refine LX_go ?_; simp (config := { maxSteps := 2000000 }) (disch := first | omega | rfl) only [sA, decide_eq_false]) | (refine EvC.condT ?_ ?_; simp (config := { maxSteps := 2000000 }) (disch := first | omega | rfl) only [sA, Nat.reduceEqDiff, if_true, if_false]; refine EvC_go ?_) | (refine EvC.condF ?_ ?_; simp (config := { maxSteps := 2000000 }) (disch := first | omega | rfl) only [sA, Nat.reduceEqDiff, if_true, if_false]; refine EvC_go ?_))
          refine ⟨s'.size - (i + 1), by omega, _, i + 1, rfl, rfl, by omega, fun x hx => ?_, (by first | (simp only [Tr.get_put, reduceCtorEq, if_false, f0]; rfl) | simp only [Tr.get_put, reduceCtorEq, if_false, f0]), (by first | (simp only [Tr.get_put, Nat.reduceEqDiff, if_false, f1]; rfl) | simp only [Tr.get_put, Nat.reduceEqDiff, if_false, f1]), (by first | (simp only [Tr.get_put, Nat.reduceEqDiff, if_false, f4]; rfl) | simp only [Tr.get_put, Nat.reduceEqDiff, if_false, f4]), (by first | (simp only [Tr.get_put, Nat.reduceEqDiff, if_false, f6]; rfl) | simp only [Tr.get_put, Nat.reduceEqDiff, if_false, f6]), (by first | (simp only [Tr.get_put, Nat.reduceEqDiff, if_false, f32]; rfl) | simp only [Tr.get_put, Nat.reduceEqDiff, if_false, f32]), (by first | (simp only [sA, Nat.reduceEqDiff, if_true, if_false]; rfl) | simp only [])⟩
          rw [List.take_add_one, hgi] at hx
          rcases List.mem_append.1 hx with h | h
          · exact hall x h
          · simp at h; rw [h]; omega
      · repeat' (first | refine EvC.seq ?_ | refine EvC.scope ?_ | refine EvC.block ?_ | (refine EvC.skip ?_) | (refine EvC.exit ?_; try simp only [sA, if_true]) | (refine EvC.ret ?_; try simp only [thenC_ret, inBlock_ret]) | (refine EvC.reg ?_; simp (config := { maxSteps := 2000000 }) (disch := first | omega | rfl) only [sA, f32, f33, decide_eq_false]) | (refine EvC.condT ?_ ?_; simp (config := { maxSteps := 2000000 }) (disch := first | omega | rfl) only [sA, if_true]; refine EvC_go ?_) | (refine EvC.condF ?_ ?_; simp (config := { maxSteps := 2000000 }) (disch := first | omega | rfl) only [sA, if_true]; refine EvC_go ?_))
        refine ⟨_, rfl, ?_, (by first | (simp only [Tr.get_put, reduceCtorEq, if_false, f0]; rfl) | simp only [Tr.get_put, reduceCtorEq, if_false, f0]), (by first | (simp only [Tr.get_put, Nat.reduceEqDiff, if_false, f1]; rfl) | simp only [Tr.get_put, Nat.reduceEqDiff, if_false, f1]), (by first | (simp only [Tr.get_put, Nat.reduceEqDiff, if_false, f4]; rfl) | simp only [Tr.get_put, Nat.reduceEqDiff, if_false, f4]), (by first | (simp only [Tr.get_put, Nat.reduceEqDiff, if_false, f6]; rfl) | simp only [Tr.get_put, Nat.reduceEqDiff, if_false, f6])⟩
        rw [List.any_eq_false]
        intro x hx
        rw [← hbl] at hx
        have := hall x (by rw [List.take_of_length_le (by rw [bl_len]; omega)]; exact hx)
        simp; omega
    · exact ⟨_, 0, rfl, by omega, by omega, by simp, (by first | (simp only [Tr.get_put, reduceCtorEq, if_false, g0]; rfl) | simp only [Tr.get_put, reduceCtorEq, if_false, g0]), (by first | (simp only [Tr.get_put, Nat.reduceEqDiff, if_false, g1]; rfl) | simp only [Tr.get_put, Nat.reduceEqDiff, if_false, g1]), (by first | (simp only [Tr.get_put, Nat.reduceEqDiff, if_false, g4]; rfl) | simp only [Tr.get_put, Nat.reduceEqDiff, if_false, g4]), (by first | (simp only [Tr.get_put, Nat.reduceEqDiff, if_false, g6]; rfl) | simp only [Tr.get_put, Nat.reduceEqDiff, if_false, g6]), (by first | (simp only [Tr.get_put, Nat.reduceEqDiff, if_true, if_false]; rfl) | simp only [Tr.get_put, Nat.reduceEqDiff, if_true, if_false]), (by first | (simp only [sA, Nat.reduceEqDiff, if_true, if_false]; rfl) | simp only [])⟩
  clear g0 g1 g4 g6 tm1
  rintro st ⟨tm, rfl, hany, g0, g1, g4, g6⟩
  by_cases hsz : s'.size = 0
  · repeat' (first | refine EvC.seq ?_ | refine EvC.scope ?_ | refine EvC.block ?_ | (refine EvC.skip ?_) | (refine EvC.exit ?_) | (refine EvC.ret ?_; try simp only [thenC_ret, inBlock_ret]) | (refine EvC.reg ?_; simp (config := { maxSteps := 2000000 }) (disch := first | omega | rfl) only [sA, Nat.reduceEqDiff, Nat.reduceAdd, Value.cells, one, if_true, if_false, layC, bd142, st142, g0, g4, bEqS_nil, decide_eq_true, hg1]) | (refine EvC.condT ?_ ?_; simp (config := { maxSteps := 2000000 }) (disch := first | omega | rfl) only [sA, Nat.reduceEqDiff, if_true, if_false]; refine EvC_go ?_))
    refine leave_cell_two rfl (by first | (simp only [sA, Nat.reduceEqDiff, if_false, g4]; rfl) | simp only []) (by first | (simp only [sA, Nat.reduceAdd, if_true, cutC, ld142]; rfl) | simp only [sA, Nat.reduceAdd, if_true, cutC, ld142]) (by first | (simp only [Tr.get_put, Nat.reduceEqDiff, if_true, if_false]; rfl) | simp only [Tr.get_put, Nat.reduceEqDiff, if_true, if_false]) ⟨.inl ⟨?_, 12, by omega, rfl⟩, hx0.put (Nat.le_refl _) (by omega) _⟩
    have : bodyS (bl s) = [] := by rw [← hbl]; exact List.length_eq_zero_iff.1 (by rw [bl_len]; exact hsz)
    unfold parseD
    rw [if_pos this]
  have hpd : parseD (bl s) = numD ((bl s').map digV) 0 := by
    have : bodyS (bl s) ≠ [] := by rw [← hbl]; intro h; have := congrArg List.length h; rw [bl_len] at this; exact hsz this
    unfold parseD
    rw [if_neg this, if_neg (by rw [hany]; simp), hbl]
  repeat' (first | refine EvC.seq ?_ | refine EvC.scope ?_ | refine EvC.block ?_ | (refine EvC.skip ?_; try simp only [thenC_normal]) | (refine EvC.exit ?_) | (refine EvC.ret ?_; try simp only [thenC_ret, inBlock_ret]) | (refine EvC.reg ?_; simp (config := { maxSteps := 2000000 }) (disch := first | omega | rfl) only [sA, Nat.reduceEqDiff, reduceCtorEq, if_true, if_false, ln9, g0, bEqS_nil, decide_eq_false]) | (refine EvC.condT ?_ ?_; simp (config := { maxSteps := 2000000 }) (disch := first | omega | rfl) only [sA, Nat.reduceEqDiff, if_true, if_false]; refine EvC_go ?_) | (refine EvC.condF ?_ ?_; simp (config := { maxSteps := 2000000 }) (disch := first | omega | rfl) only [sA, Nat.reduceEqDiff, if_true, if_false]; refine EvC_go ?_))
  have hdl : ∀ x ∈ bl s', digV x < 10 := by
    rw [← hbl, List.any_eq_false] at hany
    intro x hx
    have := hany x hx
    simp at this; omega
  refine EvC.loop (fun k st => ∃ tm i n L v Hc, st = ⟨tm, [], Hc⟩ ∧ k = s'.size - i ∧ i ≤ s'.size ∧ numD (((bl s').map digV).drop i) n = numD ((bl s').map digV) 0 ∧ n < big ∧ valB 4294967296 L = n ∧ limbsOK L ∧ HX H1 Hc ∧
    RepO Hc 133 1 H1.next (L.map fun x => [u32V x]) v ∧ tm.get 0 = some (.string s') ∧ tm.get 1 = some (.int .i64 10) ∧ tm.get 4 = some (.pointer (some ⟨H.next, 0, none⟩)) ∧ tm.get 6 = some (.bool neg) ∧ tm.get 8 = some v ∧
    tm.get 48 = some (.int .i64 s'.size) ∧ tm.get 49 = some (.int .i64 (i : Nat))) ?_ s'.size _ ?_
  · clear g0 g1 g4 g6 tm
    rintro k st ⟨tm, i, n, L, v, Hc, rfl, hk, hi, hnum, hnb, hval, hL, hxc, hrep, g0, g1, g4, g6, g8, g48, g49⟩
    by_cases hlt : i < s'.size
    · have hgi := bl_get s' hlt
      have hdi : digV (byteAt s' i) < 10 := hdl _ (List.mem_of_getElem? hgi)
      repeat' (first | refine EvC.seq ?_ | refine EvC.scope ?_ | refine EvC.block ?_ | (refine EvC.skip ?_; try simp only [thenC_normal]) | (refine EvC.exit ?_) | (refine EvC.ret ?_; try simp only [thenC_ret, inBlock_ret]) | (refine EvC.reg ?_; simp (config := { maxSteps := 2000000 }) (disch := first | omega | rfl) only [sA, Nat.reduceEqDiff, reduceCtorEq, if_true, if_false, ix9, cl136, g0, g48, g49, decide_eq_true]) | (refine EvC.condT ?_ ?_; simp (config := { maxSteps := 2000000 }) (disch := first | omega | rfl) only [sA, if_true]; refine EvC_go ?_))
      refine (value_ev (fun _ _ => rfl) (by decide) _ (byteAt_lt s' i) Hc).mono ?_
      rintro v' H' ⟨rfl, rfl⟩
      obtain ⟨a, c, rfl, hLc, hcm⟩ := hrep.slice
      rw [List.length_map] at hLc g8 hrep
      have hcm' : c ≤ 9223372036854775807 := hcm
      repeat' (first | refine EvC.seq ?_ | refine EvC.scope ?_ | refine EvC.block ?_ | (refine EvC.skip ?_) | (refine EvC.exit ?_) | (refine EvC.ret ?_; try simp only [thenC_ret, inBlock_ret]) | (refine EvC.reg ?_; simp (config := { maxSteps := 2000000 }) (disch := first | omega | rfl) only [sA, Nat.reduceEqDiff, if_true, if_false, ln140, g8]) | (refine LX_go ?_; simp (config := { maxSteps := 2000000 }) (disch := first | omega | rfl) only [sA, Nat.reduceEqDiff, if_true, if_false, cv3_23, wrap_u64]))
      -- limb by limb
      refine EvC.loop (fun k' st => ∃ tm k d cy Hd, st = ⟨tm, [], Hd⟩ ∧ k' = L.length - k ∧ k ≤ L.length ∧ d.length = k ∧ (∀ y ∈ d, y < 4294967296) ∧ cy < 10 ∧
        valB 4294967296 d + 4294967296 ^ k * (10 * valB 4294967296 (L.drop k) + cy) = 10 * valB 4294967296 L + digV (byteAt s' i) ∧ (k ≠ 0 → L[k - 1]? ≠ some 0 → cy ≠ 0 ∨ d.getLast? ≠ some 0) ∧ (k = 0 → cy = digV (byteAt s' i)) ∧ HX H1 Hd ∧
        RepO Hd 133 1 H1.next ((d ++ L.drop k).map fun x => [u32V x]) (.slice a L.length c) ∧ tm.get 0 = some (.string s') ∧ tm.get 1 = some (.int .i64 10) ∧ tm.get 4 = some (.pointer (some ⟨H.next, 0, none⟩)) ∧ tm.get 6 = some (.bool neg) ∧
        tm.get 8 = some (.slice a L.length c) ∧ tm.get 10 = some (.int .u64 (cy : Nat)) ∧ tm.get 48 = some (.int .i64 s'.size) ∧ tm.get 49 = some (.int .i64 (i : Nat)) ∧ tm.get 58 = some (.int .i64 L.length) ∧ tm.get 59 = some (.int .i64 (k : Nat))) ?_ L.length _ ?_
      · clear hxc hrep g0 g1 g4 g6 g8 g48 g49 tm H'
        rintro k2 st ⟨tm, k, d, cy, Hd, rfl, hk2, hkl, hdk, hdb, hcy, hinv, hlast, hz0, hxc, hrep, g0, g1, g4, g6, g8, g10, g48, g49, g58, g59⟩
        by_cases hkl2 : k < L.length
        · have hx : L[k]? = some L[k] := List.getElem?_eq_getElem hkl2
          have hdrop : L.drop k = L[k] :: L.drop (k + 1) := List.drop_eq_getElem_cons hkl2
          have hxb : L[k] < 4294967296 := hL.1 _ (List.getElem_mem _)
          generalize L[k] = x at hx hdrop hxb
          rw [hdrop] at hrep hinv
          obtain ⟨b, c2, ho, hv⟩ := hrep.own (by simp)
          have hlm : ((d ++ x :: L.drop (k + 1)).map fun x => [u32V x]).length = L.length := by simp; omega
          rw [hlm] at hv
          cases hv
          have hld := ho.load (i := k) (x := [u32V x]) (by rw [List.getElem?_map, List.getElem?_append_right (by omega), hdk]; simp)
          rw [Nat.mul_one] at hld
          unfold u32V at hld
          obtain ⟨cs, hgb, hle, _⟩ := ho.row
          rw [hlm, Nat.mul_one] at hle
          have hk1 : k + 1 ≤ cs.length := by omega
          have e1 : ((x : Int) * 10 + (cy : Int)) = ((x * 10 + cy : Nat) : Int) := by omega
          repeat' (first | refine EvC.seq ?_ | refine EvC.scope ?_ | refine EvC.block ?_ | (refine EvC.skip ?_; try simp only [thenC_normal]) | (refine EvC.exit ?_) | (refine EvC.ret ?_; try simp only [thenC_ret, inBlock_ret]) | (refine EvC.reg ?_; simp (config := { maxSteps := 2000000 }) (disch := first | omega | rfl) only [sA, Nat.reduceEqDiff, one, if_true, if_false, cv3_23, ia140, ld133, cv133_23, cv23_133, st133, g1, g8, g10, g58, g59, hld, hgb, hk1, e1, wrap_u64, wrap_u32_mod, bShr_u64_32, wrap_i64, decide_eq_true]) | (refine EvC.condT ?_ ?_; simp (config := { maxSteps := 2000000 }) (disch := first | omega | rfl) only [sA, if_true]; refine EvC_go ?_))
          have hset := ho.set hgb (i := k) (y := [u32V ((x * 10 + cy) % 4294967296)]) (by rw [hlm]; exact hkl2) rfl rfl
          rw [Nat.mul_one] at hset
          have hset2 : ((d ++ x :: L.drop (k + 1)).map fun x => [u32V x]).set k [u32V ((x * 10 + cy) % 4294967296)] = ((d ++ [(x * 10 + cy) % 4294967296]) ++ L.drop (k + 1)).map fun x => [u32V x] := by
            rw [List.map_append, List.set_append_right _ _ (by simp; omega)]
            simp [hdk]
          rw [hset2] at hset
          have hlm2 : (((d ++ [(x * 10 + cy) % 4294967296]) ++ L.drop (k + 1)).map fun x => [u32V x]).length = L.length := by simp; omega
          have hcq := mul_carry (B := 4294967296) (x := x) (c := cy) (by omega) hxb hcy
          refine ⟨L.length - (k + 1), by omega, _, k + 1, d ++ [(x * 10 + cy) % 4294967296], (x * 10 + cy) / 4294967296, _, rfl, rfl, by omega, by simp [hdk], ?_, hcq, ?_, ?_, by omega, hxc.put ho.lo ho.hi _, .inr ⟨_, _, hset, by rw [hlm2]⟩,
            (by first | (simp only [Tr.get_put, reduceCtorEq, if_false, g0]; rfl) | simp only [Tr.get_put, reduceCtorEq, if_false, g0]), (by first | (simp only [Tr.get_put, Nat.reduceEqDiff, if_false, g1]; rfl) | simp only [Tr.get_put, Nat.reduceEqDiff, if_false, g1]), (by first | (simp only [Tr.get_put, Nat.reduceEqDiff, if_false, g4]; rfl) | simp only [Tr.get_put, Nat.reduceEqDiff, if_false, g4]), (by first | (simp only [Tr.get_put, Nat.reduceEqDiff, if_false, g6]; rfl) | simp only [Tr.get_put, Nat.reduceEqDiff, if_false, g6]), (by first | (simp only [Tr.get_put, Nat.reduceEqDiff, if_false, g8]; rfl) | simp only [Tr.get_put, Nat.reduceEqDiff, if_false, g8]), (by first | (simp only [Tr.get_put, Nat.reduceEqDiff, if_true, if_false]; rfl) | simp only [Tr.get_put, Nat.reduceEqDiff, if_true, if_false]), (by first | (simp only [Tr.get_put, Nat.reduceEqDiff, if_false, g48]; rfl) | simp only [Tr.get_put, Nat.reduceEqDiff, if_false, g48]), (by first | (simp only [Tr.get_put, Nat.reduceEqDiff, if_false, g49]; rfl) | simp only [Tr.get_put, Nat.reduceEqDiff, if_false, g49]), (by first | (simp only [Tr.get_put, Nat.reduceEqDiff, if_false, g58]; rfl) | simp only [Tr.get_put, Nat.reduceEqDiff, if_false, g58]), (by first | (simp only [sA, Nat.reduceEqDiff, if_true, if_false]; rfl) | simp only [])⟩
          · intro y hy
            rcases List.mem_append.1 hy with h | h
            · exact hdb y h
            · simp at h; omega
          · have := mul_inv (B := 4294967296) (c := cy) (x := x) (d := d) (rest := L.drop (k + 1))
            rw [hdk] at this
            rw [this]; exact hinv
          · intro _ hl0
            rw [show k + 1 - 1 = k by omega, hx] at hl0
            have hx0 : x ≠ 0 := fun h => hl0 (by rw [h])
            by_cases hq : (x * 10 + cy) / 4294967296 = 0
            · refine .inr ?_
              simp
              omega
            · exact .inl hq
        · have hkL : k = L.length := by omega
          have hdr : L.drop k = [] := List.drop_of_length_le (by omega)
          rw [hdr] at hinv hrep
          rw [List.append_nil] at hrep
          simp only [valB, Nat.mul_zero, Nat.zero_add] at hinv
          have hfew := limbs_few hL (by rw [nbits_big, hval]; omega)
          have hlastL : k ≠ 0 → L[k - 1]? ≠ some 0 := fun h0 => by
            have := hL.2
            rw [List.getLast?_eq_getElem?] at this
            rw [hkL]; exact this
          have hlm : (d.map fun x => [u32V x]).length = L.length := by simp; omega
          repeat' (first | refine EvC.seq ?_ | refine EvC.scope ?_ | refine EvC.block ?_ | (refine EvC.skip ?_) | (refine EvC.exit ?_; try simp only [sA, Nat.reduceEqDiff, if_true, if_false]) | (refine EvC.ret ?_; try simp only [thenC_ret, inBlock_ret]) | (refine EvC.reg ?_; simp (config := { maxSteps := 2000000 }) (disch := first | omega | rfl) only [sA, Nat.reduceEqDiff, if_true, if_false, g58, g59, g10, decide_eq_false]) | (refine EvC.condT ?_ ?_; simp (config := { maxSteps := 2000000 }) (disch := first | omega | rfl) only [sA, Nat.reduceEqDiff, if_true, if_false]; refine EvC_go ?_) | (refine EvC.condF ?_ ?_; simp (config := { maxSteps := 2000000 }) (disch := first | omega | rfl) only [sA, Nat.reduceEqDiff, if_true, if_false]; refine EvC_go ?_))
          have hnn : n * 10 + digV (byteAt s' i) = valB 4294967296 d + 4294967296 ^ k * cy := by rw [hval] at hinv; omega
          have hnumi : numD ((bl s').map digV) 0 = if big ≤ n * 10 + digV (byteAt s' i) then none else numD (((bl s').map digV).drop (i + 1)) (n * 10 + digV (byteAt s' i)) := by
            rw [← hnum, List.drop_eq_getElem_cons (by simp [bl_len]; omega), numD]
            have : ((bl s').map digV)[i]'(by simp [bl_len]; omega) = digV (byteAt s' i) := by
              apply Option.some.inj
              rw [← List.getElem?_eq_getElem, List.getElem?_map, hgi]; rfl
            rw [this]
          generalize n * 10 + digV (byteAt s' i) = n' at hnn hnumi
          refine EvC.join (fun st => ∃ tm L' v' Hc', st = ⟨tm, [], Hc'⟩ ∧ valB 4294967296 L' = n' ∧ limbsOK L' ∧ L'.length ≤ 129 ∧ HX H1 Hc' ∧ RepO Hc' 133 1 H1.next (L'.map fun x => [u32V x]) v' ∧
            tm.get 0 = some (.string s') ∧ tm.get 1 = some (.int .i64 10) ∧ tm.get 4 = some (.pointer (some ⟨H.next, 0, none⟩)) ∧ tm.get 6 = some (.bool neg) ∧ tm.get 8 = some v' ∧ tm.get 48 = some (.int .i64 s'.size) ∧ tm.get 49 = some (.int .i64 (i : Nat))) ?_ ?_
          · by_cases hc0 : cy = 0
            · repeat' (first | refine EvC.seq ?_ | refine EvC.scope ?_ | refine EvC.block ?_ | (refine EvC.skip ?_; try simp only [thenC_normal]) | (refine EvC.exit ?_) | (refine EvC.ret ?_; try simp only [thenC_ret, inBlock_ret]) | (refine EvC.condT ?_ ?_; simp (config := { maxSteps := 2000000 }) (disch := first | omega | rfl) only [sA, Nat.reduceEqDiff, if_true, if_false, decide_eq_false]; refine EvC_go ?_) | (refine EvC.condF ?_ ?_; simp (config := { maxSteps := 2000000 }) (disch := first | omega | rfl) only [sA, Nat.reduceEqDiff, if_true, if_false, decide_eq_false]; refine EvC_go ?_))
              refine ⟨_, d, _, _, rfl, by rw [hnn, hc0]; omega, ⟨hdb, ?_⟩, by omega, hxc, hrep, (by first | (simp only [Tr.get_put, reduceCtorEq, if_false, g0]; rfl) | simp only [Tr.get_put, reduceCtorEq, if_false, g0]), (by first | (simp only [Tr.get_put, Nat.reduceEqDiff, if_false, g1]; rfl) | simp only [Tr.get_put, Nat.reduceEqDiff, if_false, g1]), (by first | (simp only [Tr.get_put, Nat.reduceEqDiff, if_false, g4]; rfl) | simp only [Tr.get_put, Nat.reduceEqDiff, if_false, g4]), (by first | (simp only [Tr.get_put, Nat.reduceEqDiff, if_false, g6]; rfl) | simp only [Tr.get_put, Nat.reduceEqDiff, if_false, g6]), (by first | (simp only [Tr.get_put, Nat.reduceEqDiff, if_false, g8]; rfl) | simp only [Tr.get_put, Nat.reduceEqDiff, if_false, g8]), (by first | (simp only [Tr.get_put, Nat.reduceEqDiff, if_false, g48]; rfl) | simp only [Tr.get_put, Nat.reduceEqDiff, if_false, g48]), (by first | (simp only [Tr.get_put, Nat.reduceEqDiff, if_false, g49]; rfl) | simp only [Tr.get_put, Nat.reduceEqDiff, if_false, g49])⟩
              by_cases hk0 : k = 0
              · have : d = [] := List.length_eq_zero_iff.1 (by omega)
                rw [this]; simp
              · rcases hlast hk0 (hlastL hk0) with h | h
                · exact absurd hc0 h
                · exact h
            · obtain ⟨H2, v2, hap, hrep2, _, hx2, _⟩ := hrep.push ap140 (y := [u32V cy]) rfl rfl (by simp [most]; omega) hxc.next
              unfold u32V at hap
              repeat' (first | refine EvC.seq ?_ | refine EvC.scope ?_ | refine EvC.block ?_ | (refine EvC.skip ?_) | (refine EvC.exit ?_) | (refine EvC.ret ?_; try simp only [thenC_ret, inBlock_ret]) | (refine EvC.reg ?_; simp (config := { maxSteps := 2000000 }) (disch := first | omega | rfl) only [sA, Nat.reduceEqDiff, Value.cells, one, if_true, if_false, layC, cv23_133, bs140_1, g8, g10, decide_eq_true, wrap_u32, hap]) | (refine EvC.condT ?_ ?_; simp (config := { maxSteps := 2000000 }) (disch := first | omega | rfl) only [sA, Nat.reduceEqDiff, if_true, if_false, decide_eq_true]; refine EvC_go ?_))
              have hk2' : ((d ++ [cy]).map fun x => [u32V x]) = (d.map fun x => [u32V x]) ++ [[u32V cy]] := by simp
              refine ⟨_, d ++ [cy], _, _, rfl, ?_, ⟨?_, by simp; exact hc0⟩, by simp; omega, hx2 _ hxc (Nat.le_refl _), by rw [hk2']; exact hrep2, (by first | (simp only [Tr.get_put, reduceCtorEq, if_false, g0]; rfl) | simp only [Tr.get_put, reduceCtorEq, if_false, g0]), (by first | (simp only [Tr.get_put, Nat.reduceEqDiff, if_false, g1]; rfl) | simp only [Tr.get_put, Nat.reduceEqDiff, if_false, g1]), (by first | (simp only [Tr.get_put, Nat.reduceEqDiff, if_false, g4]; rfl) | simp only [Tr.get_put, Nat.reduceEqDiff, if_false, g4]), (by first | (simp only [Tr.get_put, Nat.reduceEqDiff, if_false, g6]; rfl) | simp only [Tr.get_put, Nat.reduceEqDiff, if_false, g6]), (by first | (simp only [Tr.get_put, Nat.reduceEqDiff, if_true, if_false]; rfl) | simp only [Tr.get_put, Nat.reduceEqDiff, if_true, if_false]), (by first | (simp only [Tr.get_put, Nat.reduceEqDiff, if_false, g48]; rfl) | simp only [Tr.get_put, Nat.reduceEqDiff, if_false, g48]), (by first | (simp only [Tr.get_put, Nat.reduceEqDiff, if_false, g49]; rfl) | simp only [Tr.get_put, Nat.reduceEqDiff, if_false, g49])⟩
              · rw [valB_append, valB_one, hdk, hnn]
              · intro y hy
                rcases List.mem_append.1 hy with h | h
                · exact hdb y h
                · simp at h; omega
          clear g0 g1 g4 g6 g8 g10 g48 g49 g58 g59 tm hrep hxc
          rintro st ⟨tm, L', v', Hc', rfl, hval', hL', hfew', hxc, hrep, g0, g1, g4, g6, g8, g48, g49⟩
          obtain ⟨a', c'', rfl, hr⟩ := RepO.rds (vs := L'.map u32V) (by rw [List.map_map]; exact hrep)
          rw [List.length_map] at g8 hrep
          repeat' (first | refine EvC.seq ?_ | refine EvC.scope ?_ | refine EvC.block ?_ | (refine EvC.skip ?_) | (refine EvC.exit ?_) | (refine EvC.ret ?_; try simp only [thenC_ret, inBlock_ret]) | (refine EvC.reg ?_; simp (config := { maxSteps := 2000000 }) (disch := first | omega | rfl) only [sA, Nat.reduceEqDiff, if_true, if_false, cl137, g8]))
          refine (size_ev hr hL'.1 (by omega)).mono ?_
          rintro v H2 ⟨rfl, rfl⟩
          rw [hval']
          have hg2 : H2.get H.next = some (.row [.bool false, .slice none 0 0] 142) := by rw [hxc.keep _ (by omega)]; exact hg1
          by_cases hbig : 4096 < nbits n'
          · repeat' (first | refine EvC.seq ?_ | refine EvC.scope ?_ | refine EvC.block ?_ | (refine EvC.skip ?_) | (refine EvC.exit ?_) | (refine EvC.ret ?_; try simp only [thenC_ret, inBlock_ret]) | (refine EvC.reg ?_; simp (config := { maxSteps := 2000000 }) (disch := first | omega | rfl) only [sA, Nat.reduceEqDiff, Nat.reduceAdd, Value.cells, one, if_true, if_false, layC, bd142, st142, g4, hg2]) | (refine LX_go ?_; simp (config := { maxSteps := 2000000 }) (disch := first | omega | rfl) only [sA, decide_eq_true]) | (refine EvC.condT ?_ ?_; simp (config := { maxSteps := 2000000 }) (disch := first | omega | rfl) only [sA, Nat.reduceEqDiff, if_true, if_false]; refine EvC_go ?_))
            refine leave_cell_two rfl (by first | (simp only [sA, Nat.reduceEqDiff, if_false, g4]; rfl) | simp only []) (by first | (simp only [sA, Nat.reduceAdd, if_true, cutC, ld142]; rfl) | simp only [sA, Nat.reduceAdd, if_true, cutC, ld142]) (by first | (simp only [Tr.get_put, Nat.reduceEqDiff, if_true, if_false]; rfl) | simp only [Tr.get_put, Nat.reduceEqDiff, if_true, if_false]) ⟨.inl ⟨?_, 10, by omega, rfl⟩, (hx0.trans hxc).put (Nat.le_refl _) (by have := hxc.next; omega) _⟩
            rw [hpd, hnumi, if_pos (nbits_big.1 hbig)]
          · repeat' (first | refine EvC.seq ?_ | refine EvC.scope ?_ | refine EvC.block ?_ | (refine EvC.skip ?_; try simp only [sA]) | (refine EvC.exit ?_) | (refine EvC.ret ?_; try simp only [thenC_ret, inBlock_ret]) | (refine EvC.reg ?_; simp (config := { maxSteps := 2000000 }) (disch := first | omega | rfl) only [sA, Nat.reduceEqDiff, if_true, if_false, g49, wrap_i64]) | (refine LX_go ?_; simp (config := { maxSteps := 2000000 }) (disch := first | omega | rfl) only [sA, decide_eq_false]) | (refine EvC.condT ?_ ?_; simp (config := { maxSteps := 2000000 }) (disch := first | omega | rfl) only [sA, Nat.reduceEqDiff, if_true, if_false]; refine EvC_go ?_) | (refine EvC.condF ?_ ?_; simp (config := { maxSteps := 2000000 }) (disch := first | omega | rfl) only [sA, Nat.reduceEqDiff, if_true, if_false]; refine EvC_go ?_))
            have hnb' : ¬ big ≤ n' := fun h => hbig (nbits_big.2 h)
            exact ⟨s'.size - (i + 1), by omega, _, i + 1, n', L', _, _, rfl, rfl, by omega, by rw [hnumi, if_neg hnb'], Nat.lt_of_not_le hnb', hval', hL', hxc, hrep, (by first | (simp only [Tr.get_put, reduceCtorEq, if_false, g0]; rfl) | simp only [Tr.get_put, reduceCtorEq, if_false, g0]), (by first | (simp only [Tr.get_put, Nat.reduceEqDiff, if_false, g1]; rfl) | simp only [Tr.get_put, Nat.reduceEqDiff, if_false, g1]), (by first | (simp only [Tr.get_put, Nat.reduceEqDiff, if_false, g4]; rfl) | simp only [Tr.get_put, Nat.reduceEqDiff, if_false, g4]), (by first | (simp only [Tr.get_put, Nat.reduceEqDiff, if_false, g6]; rfl) | simp only [Tr.get_put, Nat.reduceEqDiff, if_false, g6]), (by first | (simp only [Tr.get_put, Nat.reduceEqDiff, if_false, g8]; rfl) | simp only [Tr.get_put, Nat.reduceEqDiff, if_false, g8]), (by first | (simp only [Tr.get_put, Nat.reduceEqDiff, if_false, g48]; rfl) | simp only [Tr.get_put, Nat.reduceEqDiff, if_false, g48]), (by first | (simp only [sA, Nat.reduceEqDiff, if_true, if_false]; rfl) | simp only [])⟩
      · refine ⟨_, 0, [], digV (byteAt s' i), _, rfl, by omega, by omega, rfl, by simp, hdi, by simp [valB], by simp, fun _ => rfl, hxc, by simpa using hrep, (by first | (simp only [Tr.get_put, reduceCtorEq, if_false, g0]; rfl) | simp only [Tr.get_put, reduceCtorEq, if_false, g0]), (by first | (simp only [Tr.get_put, Nat.reduceEqDiff, if_false, g1]; rfl) | simp only [Tr.get_put, Nat.reduceEqDiff, if_false, g1]), (by first | (simp only [Tr.get_put, Nat.reduceEqDiff, if_false, g4]; rfl) | simp only [Tr.get_put, Nat.reduceEqDiff, if_false, g4]), (by first | (simp only [Tr.get_put, Nat.reduceEqDiff, if_false, g6]; rfl) | simp only [Tr.get_put, Nat.reduceEqDiff, if_false, g6]), (by first | (simp only [Tr.get_put, Nat.reduceEqDiff, if_false, g8]; rfl) | simp only [Tr.get_put, Nat.reduceEqDiff, if_false, g8]), (by first | (simp only [Tr.get_put, Nat.reduceEqDiff, if_true, if_false]; rfl) | simp only [Tr.get_put, Nat.reduceEqDiff, if_true, if_false]), (by first | (simp only [Tr.get_put, Nat.reduceEqDiff, if_false, g48]; rfl) | simp only [Tr.get_put, Nat.reduceEqDiff, if_false, g48]), (by first | (simp only [Tr.get_put, Nat.reduceEqDiff, if_false, g49]; rfl) | simp only [Tr.get_put, Nat.reduceEqDiff, if_false, g49]), (by first | (simp only [Tr.get_put, Nat.reduceEqDiff, if_true, if_false]; rfl) | simp only [Tr.get_put, Nat.reduceEqDiff, if_true, if_false]), (by first | (simp only [sA, Nat.reduceEqDiff, if_true, if_false]; rfl) | simp only [])⟩
    · have hi' : i = s'.size := by omega
      have hnn : numD ((bl s').map digV) 0 = some n := by
        rw [← hnum, List.drop_of_length_le (by simp [bl_len]; omega), numD]
      obtain ⟨a', c'', rfl, hr⟩ := RepO.rds (vs := L.map u32V) (by rw [List.map_map]; exact hrep)
      rw [List.length_map] at g8
      repeat' (first | refine EvC.seq ?_ | refine EvC.scope ?_ | refine EvC.block ?_ | (refine EvC.skip ?_) | (refine EvC.exit ?_; try simp only [sA, if_true]) | (refine EvC.ret ?_; try simp only [thenC_ret, inBlock_ret]) | (refine EvC.reg ?_; simp (config := { maxSteps := 2000000 }) (disch := first | omega | rfl) only [sA, Nat.reduceEqDiff, if_true, if_false, cl138, g48, g49, g6, g8, decide_eq_false]) | (refine EvC.condT ?_ ?_; simp (config := { maxSteps := 2000000 }) (disch := first | omega | rfl) only [sA, if_true]; refine EvC_go ?_) | (refine EvC.condF ?_ ?_; simp (config := { maxSteps := 2000000 }) (disch := first | omega | rfl) only [sA, if_true]; refine EvC_go ?_))
      refine (laid_ev hr hxc.wf).mono ?_
      rintro v H2 ⟨m, rfl, hm, hz, hn0, hx2⟩
      have hg2 : H2.get H.next = some (.row [.bool false, .slice none 0 0] 142) := by rw [(hxc.trans hx2).keep _ (by omega)]; exact hg1
      repeat' (first | refine EvC.seq ?_ | refine EvC.scope ?_ | refine EvC.block ?_ | (refine EvC.skip ?_) | (refine EvC.exit ?_) | (refine EvC.ret ?_; try simp only [thenC_ret, inBlock_ret]) | (refine LX_go ?_; simp (config := { maxSteps := 2000000 }) (disch := first | omega | rfl) only [sA, Nat.reduceAdd, one, if_true, st142, g4, hg2]))
      have hx3 := hxc.trans hx2
      have hm' : m = L.length := by
        rcases Nat.lt_or_ge m L.length with h | h
        · have := hz (L[L.length - 1]'(by omega)) (List.mem_drop_iff_getElem.2 ⟨L.length - 1 - m, by omega, by congr 1; omega⟩)
          have h2 := hL.2
          rw [List.getLast?_eq_getElem?, List.getElem?_eq_getElem (by omega), this] at h2
          exact absurd rfl h2
        · omega
      subst hm'
      refine leave_cell_two rfl (by first | (simp only [sA, Nat.reduceEqDiff, if_false, g4]; rfl) | simp only []) (by first | (simp only [sA, Nat.reduceAdd, if_true, cutC, ld142]; rfl) | simp only []) (by first | (simp only [sA, Nat.reduceEqDiff, if_true, if_false]; rfl) | simp only []) ⟨.inr ⟨n, L, a', c'', by rw [hpd, hnn], by rw [hneg], ?_, hL.1, hval, hL.2, ?_⟩, (hx0.trans hx3).put (Nat.le_refl _) (by have := hx3.next; omega) _⟩
      · rw [List.length_map] at hrep
        have h3 := (hrep.keep hx2).putlo (i := H.next) (by omega) (some (.row [.bool (neg && decide (0 < L.length)), .slice a' L.length c''] 142))
        exact (RepO.rds' (vs := L.map u32V) (by rw [List.map_map]; exact h3)).2
      · have := limbs_few hL (by rw [nbits_big, hval]; omega)
        omega
  · exact ⟨_, 0, 0, [], _, _, rfl, by omega, by omega, by simp, by rw [big_eq]; exact Nat.two_pow_pos _, rfl, ⟨by simp, by simp⟩, HX.refl hx0.wf, RepO.empty, (by first | (simp only [Tr.get_put, reduceCtorEq, if_false, g0]; rfl) | simp only [Tr.get_put, reduceCtorEq, if_false, g0]), (by first | (simp only [Tr.get_put, Nat.reduceEqDiff, if_false, g1]; rfl) | simp only [Tr.get_put, Nat.reduceEqDiff, if_false, g1]), (by first | (simp only [Tr.get_put, Nat.reduceEqDiff, if_false, g4]; rfl) | simp only [Tr.get_put, Nat.reduceEqDiff, if_false, g4]), (by first | (simp only [Tr.get_put, Nat.reduceEqDiff, if_false, g6]; rfl) | simp only [Tr.get_put, Nat.reduceEqDiff, if_false, g6]), (by first | (simp only [Tr.get_put, Nat.reduceEqDiff, if_true, if_false]; rfl) | simp only [Tr.get_put, Nat.reduceEqDiff, if_true, if_false]), (by first | (simp only [Tr.get_put, Nat.reduceEqDiff, if_true, if_false]; rfl) | simp only [Tr.get_put, Nat.reduceEqDiff, if_true, if_false]), (by first | (simp only [sA, Nat.reduceEqDiff, if_true, if_false]; rfl) | simp only [])⟩
end Go.Proofs.YtlllbkjiadcloaaDoor.hb
end

-- Y6
section
/- Text: a number's digits. -/
namespace Go.Proofs.YtlllbkjiadcloaaDoor.hb
open Go Go.RowKit Go.Hb
variable {ok : Ok}
set_option maxRecDepth 10000
attribute [local irreducible] LX LG EL STG SOP SGO SGD SAL SRD SEF SEG SLK SCK ES
def u8V (n : Nat) : Value := .int .u8 (n : Int)

theorem dig_tab {s : ByteArray} (h : ∀ i : Fin 10, byteAt s i = 48 + i) {y : Nat} (hy : y < 10) : byteAt s y = 48 + y := h ⟨y, hy⟩
theorem valB_pos {B : Nat} (hB : 0 < B) {M : List Nat} (h0 : M ≠ []) (h : M.getLast? ≠ some 0) : valB B M ≠ 0 := by
  rcases List.eq_nil_or_concat M with rfl | ⟨l, x, rfl⟩
  · exact absurd rfl h0
  · rw [List.concat_eq_append] at *
    have hx : x ≠ 0 := by simpa using h
    rw [valB_append, valB_one]
    have : 0 < B ^ l.length * x := Nat.mul_pos (Nat.pow_pos hB) (by omega)
    omega

-- bigint.Text
set_option maxHeartbeats 4000000 in
theorem text_ev {L : List Nat} {neg : Bool} {a : Option Addr} {c n : Nat} {H : Heap} (hw : H.wf) (r : RdS H (L.map u32V) a c) (hL : ∀ y ∈ L, y < 4294967296) (hlen : L.length ≤ 4096) (hval : valB 4294967296 L = n) (hn : n < big) :
    EvF Tryd.prog okT 125 [.agg ⟨[.bool neg, .slice a L.length c]⟩, .int .i64 10] H fun v H' => (∃ t : ByteArray, v = .tuple ⟨[.string t, .int .i64 0]⟩ ∧ bl t = textD neg n) ∧ HX H H' := by
  refine EvF.enter rfl Tryd.func125 (by decide) rfl ?_
  (repeat refine EvC.seq ?_); refine EvC.reg ?_; simp (config := { maxSteps := 2000000 }) (disch := first | omega | rfl) only [sA, initTm, dBox, Value.cells, one, reduceCtorEq, if_true, if_false]
  have hx0 := (HX.refl hw).new (some (.row [.bool neg, .slice a L.length c] 142))
  obtain ⟨H1, hH1⟩ : ∃ H1, H1 = H.new (some (.row [.bool neg, .slice a L.length c] 142)) := ⟨_, rfl⟩
  have hn1 : H1.next = H.next + 1 := by rw [hH1]; rfl
  have hg1 : H1.get H.next = some (.row [.bool neg, .slice a L.length c] 142) := by rw [hH1]; exact gt_new_eq
  have hl1 : H1.load ⟨H.next, 0, none⟩ 2 = some [.bool neg, .slice a L.length c] := by rw [hH1]; exact ld_new_eq
  have hlb : H1.load ⟨H.next, 0, none⟩ 1 = some [.bool neg] := by rw [hH1]; exact ld_new_eq
  have hls : H1.load ⟨H.next, 1, none⟩ 1 = some [.slice a L.length c] := by rw [hH1]; exact ld_new_eq
  rw [← hH1] at hx0 ⊢
  have hw1 := hx0.wf
  have hx2 := (HX.refl hw1).new (some (.row [.bool neg, .slice a L.length c] 142))
  repeat' (first | refine EvC.seq ?_ | refine EvC.scope ?_ | refine EvC.block ?_ | (refine EvC.skip ?_) | (refine EvC.exit ?_) | (refine EvC.ret ?_; try simp only [thenC_ret, inBlock_ret]) | (refine EvC.reg ?_; simp (config := { maxSteps := 2000000 }) (disch := first | omega | rfl) only [sA, Nat.reduceEqDiff, Nat.reduceAdd, Value.cells, one, reduceCtorEq, if_true, if_false, layC, ld142, bs174_1, cl139, hl1]))
  refine (long_ev ((r.keep hx0 hw).keep hx2 hw1) hL (by omega) hx2.wf (Nat.lt_succ_self _) ld_new_eq).mono ?_
  rintro v H2 ⟨rfl, hx3⟩
  have hx13 := hx2.trans hx3
  have hl2 := hx13.load hw1 hls
  have hlb2 := hx13.load hw1 hlb
  have hng : ¬ 4096 < nbits (valB 4294967296 L) := by rw [nbits_big, hval]; omega
  rw [decide_eq_false hng]
  repeat' (first | refine EvC.seq ?_ | refine EvC.scope ?_ | refine EvC.block ?_ | (refine EvC.skip ?_; try simp only [thenC_normal]) | (refine EvC.exit ?_) | (refine EvC.ret ?_; try simp only [thenC_ret, inBlock_ret]) | (refine EvC.reg ?_; simp (config := { maxSteps := 2000000 }) (disch := first | omega | rfl) only [sA, Nat.reduceEqDiff, reduceCtorEq, if_true, if_false, fa142_1, ld140, cl141, cl140, hl2, decide_eq_false, Bool.false_eq_true]) | (refine EvC.condT ?_ ?_; simp (config := { maxSteps := 2000000 }) (disch := first | omega | rfl) only [sA, Nat.reduceEqDiff, reduceCtorEq, if_true, if_false]; refine EvC_go ?_) | (refine EvC.condF ?_ ?_; simp (config := { maxSteps := 2000000 }) (disch := first | omega | rfl) only [sA, Nat.reduceEqDiff, reduceCtorEq, if_true, if_false]; refine EvC_go ?_))
  have r2 := (r.keep hx0 hw).keep hx13 hw1
  refine (trim_ev (fun _ _ => rfl) (by decide) r2).mono ?_
  rintro v H3 ⟨m, rfl, hm, hz, hn0, rfl⟩
  have hvm : valB 4294967296 (L.take m) = n := by rw [valB_trim hz, hval]
  have hlm : (L.take m).length = m := by rw [List.length_take]; omega
  have hLm : ∀ y ∈ L.take m, y < 4294967296 := fun y hy => hL y (List.mem_of_mem_take hy)
  have hlast : (L.take m).getLast? ≠ some 0 := by
    rw [List.getLast?_eq_getElem?, hlm]
    by_cases h0 : m = 0
    · subst h0; simp
    · rw [List.getElem?_take, if_pos (by omega)]; exact hn0 h0
  have r3 : RdS H3 ((L.take m).map u32V) a c := by rw [List.map_take]; exact r2.take m
  generalize L.take m = M0 at hvm hlm hLm hlast r3
  subst hlm
  repeat' (first | refine EvC.seq ?_ | refine EvC.scope ?_ | refine EvC.block ?_ | (refine EvC.skip ?_) | (refine EvC.exit ?_) | (refine EvC.ret ?_; try simp only [thenC_ret, inBlock_ret]))
  refine (own_ev r3 (by omega) hx13.wf).mono ?_
  rintro v H4 ⟨b, c2, ho, rfl, hx4⟩
  have hx14 := hx13.trans hx4
  by_cases h0 : M0.length = 0
  · have hM : M0 = [] := List.length_eq_zero_iff.1 h0
    subst hM
    repeat' (first | refine EvC.seq ?_ | refine EvC.scope ?_ | refine EvC.block ?_ | (refine EvC.skip ?_) | (refine EvC.exit ?_) | (refine EvC.ret ?_; try simp only [thenC_ret, inBlock_ret]) | (refine EvC.reg ?_; simp (config := { maxSteps := 2000000 }) (disch := first | omega | rfl) only [sA, Nat.reduceEqDiff, reduceCtorEq, if_true, if_false, ln140, ieq_t]) | (refine EvC.condT ?_ ?_; simp (config := { maxSteps := 2000000 }) (disch := first | omega | rfl) only [sA, Nat.reduceEqDiff, reduceCtorEq, if_true, if_false]; refine EvC_go ?_))
    refine leave_two rfl (by first | (simp only [sA, Nat.reduceEqDiff, reduceCtorEq, if_true, if_false]; rfl) | simp only []) (by first | (simp only [Tr.get_put, Nat.reduceEqDiff, reduceCtorEq, if_true, if_false]; rfl) | simp only [Tr.get_put, Nat.reduceEqDiff, reduceCtorEq, if_true, if_false]) ⟨⟨_, rfl, ?_⟩, hx0.trans hx14⟩
    rw [← hvm]; rfl
  · have hnz := valB_pos (B := 4294967296) (by omega) (fun h => h0 (by rw [h]; rfl)) hlast
    rw [hvm] at hnz
    repeat' (first | refine EvC.seq ?_ | refine EvC.scope ?_ | refine EvC.block ?_ | (refine EvC.skip ?_; try simp only [thenC_normal]) | (refine EvC.exit ?_) | (refine EvC.ret ?_; try simp only [thenC_ret, inBlock_ret]) | (refine EvC.reg ?_; simp (config := { maxSteps := 2000000 }) (disch := first | omega | rfl) only [sA, Nat.reduceEqDiff, reduceCtorEq, if_true, if_false, ln140, ieq_f]) | (refine EvC.condT ?_ ?_; simp (config := { maxSteps := 2000000 }) (disch := first | omega | rfl) only [sA, Nat.reduceEqDiff, reduceCtorEq, if_true, if_false]; refine EvC_go ?_) | (refine EvC.condF ?_ ?_; simp (config := { maxSteps := 2000000 }) (disch := first | omega | rfl) only [sA, Nat.reduceEqDiff, reduceCtorEq, if_true, if_false]; refine EvC_go ?_))
    refine EvC.loop (fun k st => ∃ tm M od v6 v7 Hc, st = ⟨tm, [], Hc⟩ ∧ k = valB 4294967296 M ∧ (∀ y ∈ M, y < 4294967296) ∧ M.length ≤ 4096 ∧ M.getLast? ≠ some 0 ∧ decR n = od ++ decR (valB 4294967296 M) ∧ (M ≠ [] → valB 4294967296 M * 10 ^ od.length ≤ n) ∧ od.length ≤ 4096 ∧
        (∀ y ∈ od, y < 10) ∧ HX H3 Hc ∧ RepO Hc 133 1 H3.next (M.map fun x => [u32V x]) v6 ∧ RepO Hc 5 1 H3.next (od.map fun x => [u8V (48 + x)]) v7 ∧ tm.get 1 = some (.int .i64 10) ∧ tm.get 2 = some (.pointer (some ⟨H.next, 0, none⟩)) ∧ tm.get 6 = some v6 ∧ tm.get 7 = some v7) ?_ (valB 4294967296 M0) _ ?_
    · rintro k st ⟨tm, M, od, v6, v7, Hc, rfl, rfl, hMb, hMl, hMn, hdec, hle, hol, hod, hxc, hr6, hr7, g1, g2, g6, g7⟩
      by_cases hM0 : M = []
      · subst hM0
        obtain ⟨a6, c6, rfl, -, -⟩ := hr6.slice
        rw [List.length_map] at g6
        have hlbc := hxc.load hx13.wf hlb2
        have hdec' : decR n = od := by rw [hdec]; simp [valB, decR_zero]
        repeat' (first | refine EvC.seq ?_ | refine EvC.scope ?_ | refine EvC.block ?_ | (refine EvC.skip ?_) | (refine EvC.exit ?_; try simp only [sA, if_true]) | (refine EvC.ret ?_; try simp only [thenC_ret, inBlock_ret]) | (refine EvC.reg ?_; simp (config := { maxSteps := 2000000 }) (disch := first | omega | rfl) only [sA, Nat.reduceEqDiff, if_true, if_false, ln140, fa142_0, ld4, g2, g6, hlbc, decide_eq_false]) | (refine EvC.condT ?_ ?_; simp (config := { maxSteps := 2000000 }) (disch := first | omega | rfl) only [sA, Nat.reduceEqDiff, if_true, if_false]; refine EvC_go ?_) | (refine EvC.condF ?_ ?_; simp (config := { maxSteps := 2000000 }) (disch := first | omega | rfl) only [sA, Nat.reduceEqDiff, if_true, if_false]; refine EvC_go ?_))
        refine EvC.join (fun st => ∃ tm o v Hd, st = ⟨tm, [], Hd⟩ ∧ o = (od.map fun x => 48 + x) ++ (if neg then [45] else []) ∧ HX H3 Hd ∧ RepO Hd 5 1 H3.next (o.map fun x => [u8V x]) v ∧ tm.get 7 = some v) ?_ ?_
        · cases neg with
          | true =>
            obtain ⟨H5, v5, hap, hr7b, -, hx5, -⟩ := hr7.push ap164 (y := [u8V 45]) rfl rfl (by simp [most]; omega) hxc.next
            have h45 : u8V 45 = .int .u8 45 := rfl
            rw [h45] at hap
            refine EvC.condT (by first | (simp only [sA, Nat.reduceEqDiff, if_true, if_false]; rfl) | simp only [sA, Nat.reduceEqDiff, if_true, if_false]) ?_
            repeat' (first | refine EvC.seq ?_ | refine EvC.scope ?_ | refine EvC.block ?_ | (refine EvC.skip ?_) | (refine EvC.exit ?_) | (refine EvC.ret ?_; try simp only [thenC_ret, inBlock_ret]) | (refine EvC.reg ?_; simp (config := { maxSteps := 2000000 }) (disch := first | omega | rfl) only [sA, Nat.reduceEqDiff, Value.cells, one, if_true, if_false, layC, bs164_1, g7, hap]))
            refine ⟨_, _, _, _, rfl, rfl, hx5 _ hxc (Nat.le_refl _), ?_, (by first | (simp only [sA, Nat.reduceEqDiff, if_true, if_false]; rfl) | simp only [])⟩
            first | (rw [List.map_append, List.map_map]; exact hr7b) | (simp only [if_true, List.map_append, List.map_map]; exact hr7b)
          | false =>
            refine EvC.condF (by first | (simp only [sA, Nat.reduceEqDiff, if_true, if_false]; rfl) | simp only [sA, Nat.reduceEqDiff, if_true, if_false]) ?_
            repeat' (first | refine EvC.seq ?_ | refine EvC.scope ?_ | refine EvC.block ?_ | (refine EvC.skip ?_; try simp only [sA, reduceCtorEq, if_false]) | (refine EvC.exit ?_) | (refine EvC.ret ?_; try simp only [thenC_ret, inBlock_ret]))
            exact ⟨_, _, _, _, rfl, rfl, hxc, by first | (rw [List.append_nil, List.map_map]; exact hr7) | (simp only [Bool.false_eq_true, if_false, List.append_nil, List.map_map]; exact hr7), (by first | (simp only [Tr.get_put, Nat.reduceEqDiff, if_false, g7]; rfl) | simp only [Tr.get_put, Nat.reduceEqDiff, if_false, g7])⟩
        clear g1 g2 g6 g7 hr7 hr6 hxc hlbc tm
        rintro st ⟨tm, o, v, Hd, rfl, ho', hxc, hr7, g7⟩
        have hob : ∀ y ∈ o, y < 256 := by
          intro y hy
          rw [ho'] at hy
          rcases List.mem_append.1 hy with h | h
          · obtain ⟨x, hx, rfl⟩ := List.mem_map.1 h
            have := hod x hx; omega
          · cases neg <;> simp at h
            omega
        have hon : 0 < o.length := by
          have : od ≠ [] := by rw [← hdec', decR_pos hnz]; simp
          rw [ho', List.length_append, List.length_map]
          have := List.length_pos_iff.2 this
          omega
        have hol2 : o.length ≤ 4097 := by
          rw [ho', List.length_append, List.length_map]
          cases neg <;> simp <;> omega
        have htx : textD neg n = o.reverse := by
          unfold textD
          rw [if_neg hnz, hdec', ho']
        obtain ⟨b7, c7, ho7, rfl⟩ := hr7.own (by intro h; rw [List.map_eq_nil_iff] at h; rw [h] at hon; simp at hon)
        rw [List.length_map] at g7
        repeat' (first | refine EvC.seq ?_ | refine EvC.scope ?_ | refine EvC.block ?_ | (refine EvC.skip ?_) | (refine EvC.exit ?_) | (refine EvC.ret ?_; try simp only [thenC_ret, inBlock_ret]) | (refine EvC.reg ?_; simp (config := { maxSteps := 2000000 }) (disch := first | omega | rfl) only [sA, Nat.reduceEqDiff, if_true, if_false, ln164, g7, wrap_i64]))
        refine EvC.loop (fun k st => ∃ (tm : Tr Value) (S : List Nat) (i : Nat) (He : Heap), st = ⟨tm, [], He⟩ ∧ k = o.length - i ∧ 2 * i ≤ o.length ∧ S.length = o.length ∧ (∀ j, j < o.length → S[j]? = if j < i ∨ o.length - i ≤ j then o[o.length - 1 - j]? else o[j]?) ∧ HX H3 He ∧
          OwnS He 5 1 H3.next (S.map fun x => [u8V x]) b7 c7 ∧ tm.get 7 = some (.slice (some ⟨b7, 0, none⟩) o.length c7) ∧ tm.get 10 = some (.int .i64 (i : Nat)) ∧ tm.get 11 = some (.int .i64 ((o.length : Int) - 1 - (i : Int)))) ?_ o.length _ ?_
        · clear g7 ho7 hr7 hxc tm
          rintro k0 st ⟨tm, S, i, He, rfl, hk0, hi2, hSl, hS, hxc, ho7, g7, g10, g11⟩
          by_cases hlt : 2 * i + 1 < o.length
          · obtain ⟨k, hk⟩ : ∃ k, k = o.length - 1 - i := ⟨_, rfl⟩
            have e1 : ((o.length : Int) - 1 - (i : Int)) = (k : Int) := by omega
            rw [e1] at g11
            have hxi : S[i]? = some S[i] := List.getElem?_eq_getElem (by omega)
            have hxk : S[k]? = some S[k] := List.getElem?_eq_getElem (by omega)
            generalize S[i] = x at hxi
            generalize S[k] = y at hxk
            have hldi := ho7.load (i := i) (x := [u8V x]) (by rw [List.getElem?_map, hxi]; rfl)
            have hldk := ho7.load (i := k) (x := [u8V y]) (by rw [List.getElem?_map, hxk]; rfl)
            rw [Nat.mul_one] at hldi hldk
            unfold u8V at hldi hldk
            obtain ⟨cs, hgb, hcl, _⟩ := ho7.row
            rw [List.length_map, hSl, Nat.mul_one] at hcl
            have hk1 : i + 1 ≤ cs.length := by omega
            have hk2 : k + 1 ≤ (Hb.splice cs i [Value.int .u8 (y : Int)]).length := by rw [splice_len (by simp; omega)]; omega
            repeat' (first | refine EvC.seq ?_ | refine EvC.scope ?_ | refine EvC.block ?_ | (refine EvC.skip ?_; try simp only [thenC_normal]) | (refine EvC.exit ?_) | (refine EvC.ret ?_; try simp only [thenC_ret, inBlock_ret]) | (refine EvC.reg ?_; simp (config := { maxSteps := 2000000 }) (disch := first | omega | rfl) only [sA, Nat.reduceEqDiff, if_true, if_false, g10, g11, decide_eq_true, wrap_i64]) | (refine EvC.drw [([(0, 0), (1, 0), (4, 0), (5, 0), (6, 0), (7, 0), (8, 0), (9, 0), (10, 0), (11, 0), (12, 0)], some 13), ([(2, 0), (3, 0), (14, 1)], some 15), ([], none)] ?_ ?_; kernel_rfl; simp (config := { maxSteps := 2000000 }) (disch := first | omega | rfl) only [sD, sA, Nat.reduceEqDiff, Nat.reduceAdd, one, reduceCtorEq, if_true, if_false, ia164, ld5, st5, g7, g10, g11, hldi, hldk, hgb, hk1, hk2, isAlloc, isRead, reduceCtorEq]) | (refine EvC.condT ?_ ?_; simp (config := { maxSteps := 2000000 }) (disch := first | omega | rfl) only [sA, Nat.reduceEqDiff, if_true, if_false]; refine EvC_go ?_))
            have hb1 : OwnS (⟨He.next + 16, He.t⟩ : Heap) 5 1 H3.next (S.map fun x => [u8V x]) b7 c7 := ho7.heap rfl (Nat.le_add_right _ _)
            have hb2 := hb1.set (cs := cs) hgb (i := i) (y := [u8V y]) (by simp; omega) rfl rfl
            have hb3 := hb2.set gt_put_eq (i := k) (y := [u8V x]) (by simp; omega) rfl rfl
            rw [Nat.mul_one, Nat.mul_one] at hb3
            have hoi : o[i]? = some x := by rw [← hxi, hS i (by omega), if_neg (by omega)]
            have hok : o[k]? = some y := by rw [← hxk, hS k (by omega), if_neg (by omega)]
            have hmap : (((S.map fun x => [u8V x]).set i [u8V y]).set k [u8V x]) = ((S.set i y).set k x).map fun x => [u8V x] := by simp [List.map_set]
            rw [hmap] at hb3
            refine ⟨o.length - (i + 1), by omega, _, (S.set i y).set k x, i + 1, _, rfl, rfl, by omega, by simp [hSl], fun j hj => ?_, ((hxc.bump 16).put (i := b7) ho7.lo (Nat.lt_of_lt_of_le ho7.hi (Nat.le_add_right _ _)) _).put (i := b7) ho7.lo (Nat.lt_of_lt_of_le ho7.hi (Nat.le_add_right _ _)) _, hb3, (by first | (simp only [Tr.get_put, Nat.reduceEqDiff, if_false, g7]; rfl) | simp only [Tr.get_put, Nat.reduceEqDiff, if_false, g7]), (by first | (simp only [sA, Nat.reduceEqDiff, if_true, if_false]; rfl) | simp only []), by simp only [sA, Nat.reduceEqDiff, if_true, if_false]; first | done | (congr 1; omega)⟩
            by_cases hjk : j = k
            · rw [hjk, List.getElem?_set_self (by simp; omega), if_pos (by omega), ← hoi]
              first | done | (congr 1; done) | (congr 1; omega)
            · rw [List.getElem?_set_ne (by omega)]
              by_cases hji : j = i
              · rw [hji, List.getElem?_set_self (by omega), if_pos (by omega), ← hok]
                first | done | (congr 1; done) | (congr 1; omega)
              · rw [List.getElem?_set_ne (by omega), hS j hj]
                by_cases hc : j < i ∨ o.length - i ≤ j
                · rw [if_pos hc, if_pos (by omega)]
                · rw [if_neg hc, if_neg (by omega)]
          · have hrev : S = o.reverse := by
              apply List.ext_getElem?
              intro j
              by_cases hj : j < o.length
              · rw [hS j hj, List.getElem?_reverse hj]
                split
                · rfl
                · congr 1; omega
              · rw [List.getElem?_eq_none (by omega), List.getElem?_eq_none (by simp; omega)]
            have hrd : RdS He (S.map u8V) (some ⟨b7, 0, none⟩) c7 := OwnS.rds (by rw [List.map_map]; exact ho7)
            obtain ⟨b8, o8, h8, hload⟩ := hrd.all (by intro h; rw [List.map_eq_nil_iff] at h; rw [h] at hSl; simp at hSl; omega)
            cases h8
            rw [List.length_map, hSl] at hload
            obtain ⟨t, hdb, ht⟩ := dbytes_nat (c := c7) (l := S) hload (by omega)
            have hcon := dCon_bytes (P := Tryd.prog) (src := 164) (dst := 9) (e := 5) (by kernel_rfl) (by kernel_rfl) (by kernel_rfl) hdb
            repeat' (first | refine EvC.seq ?_ | refine EvC.scope ?_ | refine EvC.block ?_ | (refine EvC.skip ?_) | (refine EvC.exit ?_; try simp only [sA, if_true]) | (refine EvC.ret ?_; try simp only [thenC_ret, inBlock_ret]) | (refine EvC.reg ?_; simp (config := { maxSteps := 2000000 }) (disch := first | omega | rfl) only [sA, Nat.reduceEqDiff, if_true, if_false, g7, g10, g11, hcon, decide_eq_false]) | (refine EvC.condT ?_ ?_; simp (config := { maxSteps := 2000000 }) (disch := first | omega | rfl) only [sA, Nat.reduceEqDiff, if_true, if_false]; refine EvC_go ?_) | (refine EvC.condF ?_ ?_; simp (config := { maxSteps := 2000000 }) (disch := first | omega | rfl) only [sA, Nat.reduceEqDiff, if_true, if_false]; refine EvC_go ?_))
            refine leave_two rfl (by first | (simp only [Tr.get_put, Nat.reduceEqDiff, if_true, if_false]; rfl) | simp only [Tr.get_put, Nat.reduceEqDiff, if_true, if_false]) (by first | (simp only [Tr.get_put, Nat.reduceEqDiff, if_true, if_false]; rfl) | simp only [Tr.get_put, Nat.reduceEqDiff, if_true, if_false]) ⟨⟨t, rfl, ?_⟩, (hx0.trans hx13).trans hxc⟩
            unfold bl
            rw [ht, List.map_map, htx, ← hrev]
            have : ∀ l : List Nat, (∀ y ∈ l, y < 256) → l.map (UInt8.toNat ∘ UInt8.ofNat) = l := by
              intro l hl
              conv => rhs; rw [← List.map_id l]
              apply List.map_congr_left
              intro y hy
              have := hl y hy
              simp [UInt8.toNat_ofNat]
              omega
            exact this S fun y hy => hob y (by rw [hrev] at hy; exact List.mem_reverse.1 hy)
        · refine ⟨_, o, 0, _, rfl, rfl, by omega, rfl, fun j hj => ?_, hxc, ho7, (by first | (simp only [Tr.get_put, Nat.reduceEqDiff, if_false, g7]; rfl) | simp only [Tr.get_put, Nat.reduceEqDiff, if_false, g7]), (by first | (simp only [sA, Nat.reduceEqDiff, if_true, if_false]; rfl) | simp only []), by simp only [sA, Nat.reduceEqDiff, if_true, if_false]; congr 1; omega⟩
          rw [if_neg (by omega)]
      · have hM1 : 0 < M.length := List.length_pos_iff.2 hM0
        have hvM := valB_pos (B := 4294967296) (by omega) hM0 hMn
        obtain ⟨b6, c6, ho6, rfl⟩ := hr6.own (by simpa using hM0)
        rw [List.length_map] at g6
        repeat' (first | refine EvC.seq ?_ | refine EvC.scope ?_ | refine EvC.block ?_ | (refine EvC.skip ?_; try simp only [thenC_normal]) | (refine EvC.exit ?_) | (refine EvC.ret ?_; try simp only [thenC_ret, inBlock_ret]) | (refine EvC.reg ?_; simp (config := { maxSteps := 2000000 }) (disch := first | omega | rfl) only [sA, Nat.reduceEqDiff, if_true, if_false, ln140, g6, decide_eq_true, wrap_i64]) | (refine EvC.condT ?_ ?_; simp (config := { maxSteps := 2000000 }) (disch := first | omega | rfl) only [sA, Nat.reduceEqDiff, if_true, if_false]; refine EvC_go ?_))
        refine EvC.loop (fun k st => ∃ tm q r Hd, st = ⟨tm, [], Hd⟩ ∧ k ≤ M.length ∧ q.length = M.length - k ∧ (∀ y ∈ q, y < 4294967296) ∧ r < 10 ∧ valB 4294967296 (M.take k) + 4294967296 ^ k * (10 * valB 4294967296 q + r) = valB 4294967296 M ∧ HX H3 Hd ∧
          OwnS Hd 133 1 H3.next ((M.take k ++ q).map fun x => [u32V x]) b6 c6 ∧ RepO Hd 5 1 H3.next (od.map fun x => [u8V (48 + x)]) v7 ∧ tm.get 1 = some (.int .i64 10) ∧ tm.get 2 = some (.pointer (some ⟨H.next, 0, none⟩)) ∧
          tm.get 6 = some (.slice (some ⟨b6, 0, none⟩) M.length c6) ∧ tm.get 7 = some v7 ∧ tm.get 8 = some (.int .u32 (r : Nat)) ∧ tm.get 9 = some (.int .i64 ((k : Int) - 1))) ?_ M.length _ ?_
        · clear g1 g2 g6 g7 hxc hr6 hr7 ho6 tm
          rintro k st ⟨tm, q, r, Hd, rfl, hk, hq, hqb, hr, hinv, hxc, ho6, hr7, g1, g2, g6, g7, g8, g9⟩
          cases k with
          | zero =>
            rw [List.take_zero, List.nil_append] at ho6
            simp only [List.take_zero, valB, Nat.pow_zero, Nat.one_mul, Nat.zero_add] at hinv
            have hqM : q.length = M.length := by omega
            repeat' (first | refine EvC.seq ?_ | refine EvC.scope ?_ | refine EvC.block ?_ | (refine EvC.skip ?_) | (refine EvC.exit ?_; try simp only [sA, Nat.reduceEqDiff, reduceCtorEq, if_true, if_false]) | (refine EvC.ret ?_; try simp only [thenC_ret, inBlock_ret]) | (refine EvC.reg ?_; simp (config := { maxSteps := 2000000 }) (disch := first | omega | rfl) only [sA, Nat.reduceEqDiff, if_true, if_false, cl141, g6, g9, decide_eq_false]) | (refine EvC.condT ?_ ?_; simp (config := { maxSteps := 2000000 }) (disch := first | omega | rfl) only [sA, Nat.reduceEqDiff, if_true, if_false]; refine EvC_go ?_) | (refine EvC.condF ?_ ?_; simp (config := { maxSteps := 2000000 }) (disch := first | omega | rfl) only [sA, Nat.reduceEqDiff, if_true, if_false]; refine EvC_go ?_))
            have hrq : RdS Hd (q.map u32V) (some ⟨b6, 0, none⟩) c6 := OwnS.rds (by rw [List.map_map]; exact ho6)
            rw [← hqM]
            refine (trim_ev (fun _ _ => rfl) (by decide) hrq).mono ?_
            rintro v H' ⟨m, rfl, hm, hz, hn0, rfl⟩
            have hmost : od.length + 1 ≤ most := by
              have := few_digits (e := mostBits) hvM (hle hM0) (by rw [← big_eq]; exact hn)
              simp [mostBits] at this
              simp [most]; omega
            obtain ⟨H5, v5, hap, hr7b, hn5, hx5, hk5⟩ := hr7.push ap164 (y := [u8V (48 + r)]) rfl rfl (by simpa using hmost) hxc.next
            unfold u8V at hap
            repeat' (first | refine EvC.seq ?_ | refine EvC.scope ?_ | refine EvC.block ?_ | (refine EvC.skip ?_) | (refine EvC.exit ?_) | (refine EvC.ret ?_; try simp only [thenC_ret, inBlock_ret]) | (refine EvC.reg ?_; simp (config := { maxSteps := 2000000 }) (disch := first | omega | rfl) only [sA, Nat.reduceEqDiff, if_true, if_false, g7, g8]))
            rw [dIdx_byte us9 (show r < _ from by show _ < 36; omega), dig_tab (by decide) hr]
            repeat' (first | refine EvC.seq ?_ | refine EvC.scope ?_ | refine EvC.block ?_ | (refine EvC.skip ?_) | (refine EvC.exit ?_) | (refine EvC.ret ?_; try simp only [thenC_ret, inBlock_ret]) | (refine LX_go ?_; simp (config := { maxSteps := 2000000 }) (disch := first | omega | rfl) only [sA, Nat.reduceEqDiff, Value.cells, one, if_true, if_false, layC, bs164_1, hap]))
            have hvq : valB 4294967296 (q.take m) = valB 4294967296 q := valB_trim hz
            have hq10 : valB 4294967296 q = valB 4294967296 M / 10 := by omega
            have hr10 : r = valB 4294967296 M % 10 := by omega
            have hod2 : ((od ++ [r]).map fun x => [u8V (48 + x)]) = (od.map fun x => [u8V (48 + x)]) ++ [[u8V (48 + r)]] := by simp
            have ho7 : RepO H5 133 1 H3.next ((q.take m).map fun x => [u32V x]) (.slice (some ⟨b6, 0, none⟩) m c6) := by
              have h1 := RepO.takeO ho6 m (by simpa using hm)
              rw [← List.map_take] at h1
              exact h1.beside hk5 (by omega) (by decide)
            refine ⟨valB 4294967296 (q.take m), by rw [hvq]; omega, _, q.take m, od ++ [r], _, _, _, rfl, rfl, fun y hy => hqb y (List.mem_of_mem_take hy), by rw [List.length_take]; omega, ?_, ?_, ?_, ?_, ?_, hx5 _ hxc (Nat.le_refl _), ho7, by rw [hod2]; exact hr7b, (by first | (simp only [Tr.get_put, Nat.reduceEqDiff, if_false, g1]; rfl) | simp only [Tr.get_put, Nat.reduceEqDiff, if_false, g1]), (by first | (simp only [Tr.get_put, Nat.reduceEqDiff, if_false, g2]; rfl) | simp only [Tr.get_put, Nat.reduceEqDiff, if_false, g2]), (by first | (simp only [Tr.get_put, Nat.reduceEqDiff, if_true, if_false]; rfl) | simp only [Tr.get_put, Nat.reduceEqDiff, if_true, if_false]), (by first | (simp only [Tr.get_put, Nat.reduceEqDiff, if_true, if_false]; rfl) | simp only [Tr.get_put, Nat.reduceEqDiff, if_true, if_false])⟩
            · rw [List.getLast?_eq_getElem?, List.length_take, Nat.min_eq_left hm]
              by_cases h0 : m = 0
              · subst h0; simp
              · rw [List.getElem?_take, if_pos (by omega)]; exact hn0 h0
            · rw [hdec, decR_pos hvM, hvq, hq10, ← hr10]; simp
            · intro _
              rw [hvq, List.length_append, List.length_singleton, Nat.pow_succ]
              have h1 := hle hM0
              have h2 : valB 4294967296 q * (10 ^ od.length * 10) = (valB 4294967296 q * 10) * 10 ^ od.length := by rw [Nat.mul_comm (10 ^ od.length) 10, Nat.mul_assoc]
              rw [h2]
              exact Nat.le_trans (Nat.mul_le_mul_right _ (by omega)) h1
            · have := few_digits (e := mostBits) hvM (hle hM0) (by rw [← big_eq]; exact hn)
              simp [mostBits] at this
              simp; omega
            · intro y hy
              rcases List.mem_append.1 hy with h | h
              · exact hod y h
              · simp at h; omega
          | succ j =>
            have e0 : (((j + 1 : Nat) : Int) - 1) = (j : Int) := by omega
            rw [e0] at g9
            have hx : M[j]? = some M[j] := List.getElem?_eq_getElem (by omega)
            have hxb : M[j] < 4294967296 := hMb _ (List.getElem_mem _)
            have htk : M.take (j + 1) = M.take j ++ [M[j]] := by rw [List.take_add_one, hx]; rfl
            generalize M[j] = x at hx hxb htk
            rw [htk] at hinv ho6
            have hlj : (M.take j).length = j := by rw [List.length_take]; omega
            have hlm : (((M.take j ++ [x]) ++ q).map fun x => [u32V x]).length = M.length := by simp; omega
            have hld := ho6.load (i := j) (x := [u32V x]) (by rw [List.append_assoc, List.getElem?_map, List.getElem?_append_right (by omega), hlj]; simp)
            rw [Nat.mul_one] at hld
            unfold u32V at hld
            repeat' (first | refine EvC.seq ?_ | refine EvC.scope ?_ | refine EvC.block ?_ | (refine EvC.skip ?_; try simp only [thenC_normal]) | (refine EvC.exit ?_) | (refine EvC.ret ?_; try simp only [thenC_ret, inBlock_ret]) | (refine EvC.reg ?_; simp (config := { maxSteps := 2000000 }) (disch := first | omega | rfl) only [sA, Nat.reduceEqDiff, if_true, if_false, ia140, ld133, cv3_133, cl142, g1, g6, g8, g9, hld, decide_eq_true, wrap_u32]) | (refine EvC.condT ?_ ?_; simp (config := { maxSteps := 2000000 }) (disch := first | omega | rfl) only [sA, Nat.reduceEqDiff, if_true, if_false]; refine EvC_go ?_))
            refine (div32_ev (fun _ _ => rfl) (by decide) hr hxb hxc.wf).mono ?_
            rintro v H' ⟨rfl, hxd⟩
            have ho6' := ho6.keep hxd
            have hr7' := hr7.keep hxd
            obtain ⟨cs, hgb, hcl, _⟩ := ho6'.row
            rw [hlm, Nat.mul_one] at hcl
            have hk1 : j + 1 ≤ cs.length := by omega
            repeat' (first | refine EvC.seq ?_ | refine EvC.scope ?_ | refine EvC.block ?_ | (refine EvC.skip ?_) | (refine EvC.exit ?_) | (refine EvC.ret ?_; try simp only [thenC_ret, inBlock_ret]) | (refine EvC.reg ?_; simp (config := { maxSteps := 2000000 }) (disch := first | omega | rfl) only [sA, Nat.reduceEqDiff, if_true, if_false, g9, wrap_i64]) | (refine LX_go ?_; simp (config := { maxSteps := 2000000 }) (disch := first | omega | rfl) only [sA, Nat.reduceEqDiff, one, if_true, if_false, ia140, st133, hgb, hk1]))
            have hset := ho6'.set hgb (i := j) (y := [u32V ((r * 4294967296 + x) / 10)]) (by rw [hlm]; omega) rfl rfl
            rw [Nat.mul_one] at hset
            have hset2 : (((M.take j ++ [x]) ++ q).map fun x => [u32V x]).set j [u32V ((r * 4294967296 + x) / 10)] = (M.take j ++ ((r * 4294967296 + x) / 10 :: q)).map fun x => [u32V x] := by
              rw [List.append_assoc, List.map_append, List.set_append_right _ _ (by rw [List.length_map, hlj]; exact Nat.le_refl _), List.length_map, hlj, Nat.sub_self]
              simp
            rw [hset2] at hset
            have hinv2 := div_inv (B := 4294967296) (x := x) (r := r) (low := M.take j) (q := q)
            rw [hlj] at hinv2
            refine ⟨j, by omega, _, (r * 4294967296 + x) / 10 :: q, (r * 4294967296 + x) % 10, _, rfl, by omega, by simp; omega, ?_, by omega, by rw [← hinv2]; exact hinv, (hxc.trans hxd).put ho6'.lo ho6'.hi _, hset, hr7'.other hgb (by decide) _, (by first | (simp only [Tr.get_put, Nat.reduceEqDiff, if_false, g1]; rfl) | simp only [Tr.get_put, Nat.reduceEqDiff, if_false, g1]), (by first | (simp only [Tr.get_put, Nat.reduceEqDiff, if_false, g2]; rfl) | simp only [Tr.get_put, Nat.reduceEqDiff, if_false, g2]), (by first | (simp only [Tr.get_put, Nat.reduceEqDiff, if_false, g6]; rfl) | simp only [Tr.get_put, Nat.reduceEqDiff, if_false, g6]), (by first | (simp only [Tr.get_put, Nat.reduceEqDiff, if_false, g7]; rfl) | simp only [Tr.get_put, Nat.reduceEqDiff, if_false, g7]), (by first | (simp only [Tr.get_put, Nat.reduceEqDiff, if_true, if_false]; rfl) | simp only [Tr.get_put, Nat.reduceEqDiff, if_true, if_false]), (by first | (simp only [Tr.get_put, Nat.reduceEqDiff, if_true, if_false]; rfl) | simp only [Tr.get_put, Nat.reduceEqDiff, if_true, if_false])⟩
            intro y hy
            rcases List.mem_cons.1 hy with h | h
            · rw [h]; exact div_limb hxb hr
            · exact hqb y h
        · exact ⟨_, [], 0, _, rfl, Nat.le_refl _, by simp, by simp, by omega, by simp [valB], hxc, by simpa using ho6, hr7, (by first | (simp only [Tr.get_put, Nat.reduceEqDiff, if_false, g1]; rfl) | simp only [Tr.get_put, Nat.reduceEqDiff, if_false, g1]), (by first | (simp only [Tr.get_put, Nat.reduceEqDiff, if_false, g2]; rfl) | simp only [Tr.get_put, Nat.reduceEqDiff, if_false, g2]), (by first | (simp only [Tr.get_put, Nat.reduceEqDiff, if_false, g6]; rfl) | simp only [Tr.get_put, Nat.reduceEqDiff, if_false, g6]), (by first | (simp only [Tr.get_put, Nat.reduceEqDiff, if_false, g7]; rfl) | simp only [Tr.get_put, Nat.reduceEqDiff, if_false, g7]), (by first | (simp only [sA, Nat.reduceEqDiff, if_true, if_false]; rfl) | simp only []), (by first | (simp only [Tr.get_put, Nat.reduceEqDiff, if_true, if_false]; rfl) | simp only [Tr.get_put, Nat.reduceEqDiff, if_true, if_false])⟩
    · exact ⟨_, M0, [], .slice (some ⟨b, 0, none⟩) M0.length c2, _, _, rfl, rfl, hLm, by omega, hlast, by rw [hvm]; rfl, fun _ => by rw [hvm]; simp, by simp, by simp, hx4, .inr ⟨b, c2, ho, by simp⟩, RepO.empty, (by first | (simp only [Tr.get_put, Nat.reduceEqDiff, reduceCtorEq, if_true, if_false]; rfl) | simp only [Tr.get_put, Nat.reduceEqDiff, reduceCtorEq, if_true, if_false]), (by first | (simp only [Tr.get_put, Nat.reduceEqDiff, reduceCtorEq, if_true, if_false]; rfl) | simp only [Tr.get_put, Nat.reduceEqDiff, reduceCtorEq, if_true, if_false]), (by first | (simp only [Tr.get_put, Nat.reduceEqDiff, reduceCtorEq, if_true, if_false]; rfl) | simp only [Tr.get_put, Nat.reduceEqDiff, reduceCtorEq, if_true, if_false]), (by first | (simp only [Tr.get_put, Nat.reduceEqDiff, reduceCtorEq, if_true, if_false]; rfl) | simp only [Tr.get_put, Nat.reduceEqDiff, reduceCtorEq, if_true, if_false])⟩
end Go.Proofs.YtlllbkjiadcloaaDoor.hb
end
