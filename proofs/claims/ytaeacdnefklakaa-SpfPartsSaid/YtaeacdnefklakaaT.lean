-- The facts on this seat's types and functions, and the kinds of its structs (printed by table.py of this session).
import Derived.Test.YtaeacdnefklakaaX
import Derived.Test.YtaeacdnefklakaaProg
namespace Go.Proofs.Ytaeacdnefklakaa.M
open Go.Se
set_option linter.unusedVariables false
set_option maxRecDepth 100000
instance : Sc Try.prog 1 := ⟨by kernel_rfl⟩
instance : ZV Try.prog 1 (.nilFunc) := ⟨by kernel_rfl⟩
instance : Sc Try.prog 2 := ⟨by kernel_rfl⟩
instance : InT Try.prog 2 .i64 := ⟨by kernel_rfl⟩
instance : ZV Try.prog 2 (.int .i64 0) := ⟨by kernel_rfl⟩
instance : Sc Try.prog 3 := ⟨by kernel_rfl⟩
instance : InT Try.prog 3 .i64 := ⟨by kernel_rfl⟩
instance : ZV Try.prog 3 (.int .i64 0) := ⟨by kernel_rfl⟩
instance : Sc Try.prog 4 := ⟨by kernel_rfl⟩
instance : ZV Try.prog 4 (.bool false) := ⟨by kernel_rfl⟩
instance : Sc Try.prog 5 := ⟨by kernel_rfl⟩
instance : InT Try.prog 5 .u8 := ⟨by kernel_rfl⟩
instance : ZV Try.prog 5 (.int .u8 0) := ⟨by kernel_rfl⟩
instance : Sc Try.prog 6 := ⟨by kernel_rfl⟩
instance : InT Try.prog 6 .u8 := ⟨by kernel_rfl⟩
instance : ZV Try.prog 6 (.int .u8 0) := ⟨by kernel_rfl⟩
instance : Ag Try.prog 7 4 := ⟨by kernel_rfl⟩
instance : FO Try.prog 7 0 0 := ⟨by kernel_rfl⟩
instance : FO Try.prog 7 1 1 := ⟨by kernel_rfl⟩
instance : FO Try.prog 7 2 2 := ⟨by kernel_rfl⟩
instance : FO Try.prog 7 3 3 := ⟨by kernel_rfl⟩
instance : ZV Try.prog 7 (.agg (List.toArray [.int .i64 0, .int .i64 0, .bool false, .int .u8 0])) := ⟨by kernel_rfl⟩
instance : Ag Try.prog 8 4 := ⟨by kernel_rfl⟩
instance : FO Try.prog 8 0 0 := ⟨by kernel_rfl⟩
instance : FO Try.prog 8 1 1 := ⟨by kernel_rfl⟩
instance : FO Try.prog 8 2 2 := ⟨by kernel_rfl⟩
instance : FO Try.prog 8 3 3 := ⟨by kernel_rfl⟩
instance : ZV Try.prog 8 (.agg (List.toArray [.int .i64 0, .int .i64 0, .bool false, .int .u8 0])) := ⟨by kernel_rfl⟩
instance : Sc Try.prog 9 := ⟨by kernel_rfl⟩
instance : ZV Try.prog 9 (.string ⟨#[]⟩) := ⟨by kernel_rfl⟩
instance : Sc Try.prog 10 := ⟨by kernel_rfl⟩
instance : ZV Try.prog 10 (.string ⟨#[]⟩) := ⟨by kernel_rfl⟩
instance : Sc Try.prog 11 := ⟨by kernel_rfl⟩
instance : ZV Try.prog 11 (.string ⟨#[]⟩) := ⟨by kernel_rfl⟩
instance : Sc Try.prog 12 := ⟨by kernel_rfl⟩
instance : InT Try.prog 12 .u64 := ⟨by kernel_rfl⟩
instance : ZV Try.prog 12 (.int .u64 0) := ⟨by kernel_rfl⟩
instance : Ag Try.prog 13 2 := ⟨by kernel_rfl⟩
instance : FO Try.prog 13 0 0 := ⟨by kernel_rfl⟩
instance : FO Try.prog 13 1 1 := ⟨by kernel_rfl⟩
instance : ZV Try.prog 13 (.agg (List.toArray [.string ⟨#[]⟩, .int .u64 0])) := ⟨by kernel_rfl⟩
instance : Ag Try.prog 14 2 := ⟨by kernel_rfl⟩
instance : FO Try.prog 14 0 0 := ⟨by kernel_rfl⟩
instance : FO Try.prog 14 1 1 := ⟨by kernel_rfl⟩
instance : ZV Try.prog 14 (.agg (List.toArray [.string ⟨#[]⟩, .int .u64 0])) := ⟨by kernel_rfl⟩
instance : Sc Try.prog 15 := ⟨by kernel_rfl⟩
instance : ZV Try.prog 15 (.pointer none) := ⟨by kernel_rfl⟩
instance : Sc Try.prog 16 := ⟨by kernel_rfl⟩
instance : ZV Try.prog 16 (.pointer none) := ⟨by kernel_rfl⟩
instance : Sc Try.prog 17 := ⟨by kernel_rfl⟩
instance : ZV Try.prog 17 (.pointer none) := ⟨by kernel_rfl⟩
instance : Ag Try.prog 18 1 := ⟨by kernel_rfl⟩
instance : FO Try.prog 18 0 0 := ⟨by kernel_rfl⟩
instance : ZV Try.prog 18 (.agg (List.toArray [.pointer none])) := ⟨by kernel_rfl⟩
instance : Ag Try.prog 19 1 := ⟨by kernel_rfl⟩
instance : FO Try.prog 19 0 0 := ⟨by kernel_rfl⟩
instance : ZV Try.prog 19 (.agg (List.toArray [.pointer none])) := ⟨by kernel_rfl⟩
instance : Sc Try.prog 20 := ⟨by kernel_rfl⟩
instance : Sc Try.prog 21 := ⟨by kernel_rfl⟩
instance : InT Try.prog 21 .i32 := ⟨by kernel_rfl⟩
instance : ZV Try.prog 21 (.int .i32 0) := ⟨by kernel_rfl⟩
instance : SlT Try.prog 22 60 := ⟨by kernel_rfl⟩
instance : Sc Try.prog 22 := ⟨by kernel_rfl⟩
instance : ZV Try.prog 22 (.slice none 0 0) := ⟨by kernel_rfl⟩
instance : Ag Try.prog 23 2 := ⟨by kernel_rfl⟩
instance : PO Try.prog 23 0 0 := ⟨trivial⟩
instance : AOff Try.prog 23 0 0 := ⟨by kernel_rfl⟩
instance : PO Try.prog 23 1 1 := ⟨trivial⟩
instance : AOff Try.prog 23 1 1 := ⟨by kernel_rfl⟩
instance : ZV Try.prog 23 (.agg (List.toArray [.int .i64 0, .int .i64 0])) := ⟨by kernel_rfl⟩
instance : Sc Try.prog 24 := ⟨by kernel_rfl⟩
instance : ZV Try.prog 24 (.nilFunc) := ⟨by kernel_rfl⟩
instance : SlT Try.prog 25 3 := ⟨by kernel_rfl⟩
instance : Sc Try.prog 25 := ⟨by kernel_rfl⟩
instance : ZV Try.prog 25 (.slice none 0 0) := ⟨by kernel_rfl⟩
instance : Sc Try.prog 26 := ⟨by kernel_rfl⟩
instance : InT Try.prog 26 .i64 := ⟨by kernel_rfl⟩
instance : ZV Try.prog 26 (.int .i64 0) := ⟨by kernel_rfl⟩
instance : Sc Try.prog 28 := ⟨by kernel_rfl⟩
instance : ZV Try.prog 28 (.nilFunc) := ⟨by kernel_rfl⟩
instance : Sc Try.prog 29 := ⟨by kernel_rfl⟩
instance : ZV Try.prog 29 (.nilFunc) := ⟨by kernel_rfl⟩
instance : Sc Try.prog 30 := ⟨by kernel_rfl⟩
instance : ZV Try.prog 30 (.nilFunc) := ⟨by kernel_rfl⟩
instance : SlT Try.prog 31 25 := ⟨by kernel_rfl⟩
instance : Sc Try.prog 31 := ⟨by kernel_rfl⟩
instance : ZV Try.prog 31 (.slice none 0 0) := ⟨by kernel_rfl⟩
instance : Sc Try.prog 33 := ⟨by kernel_rfl⟩
instance : ZV Try.prog 33 (.nilFunc) := ⟨by kernel_rfl⟩
instance : SlT Try.prog 34 4 := ⟨by kernel_rfl⟩
instance : Sc Try.prog 34 := ⟨by kernel_rfl⟩
instance : ZV Try.prog 34 (.slice none 0 0) := ⟨by kernel_rfl⟩
instance : Sc Try.prog 35 := ⟨by kernel_rfl⟩
instance : ZV Try.prog 35 (.nilFunc) := ⟨by kernel_rfl⟩
instance : Sc Try.prog 36 := ⟨by kernel_rfl⟩
instance : ZV Try.prog 36 (.nilFunc) := ⟨by kernel_rfl⟩
instance : SlT Try.prog 37 97 := ⟨by kernel_rfl⟩
instance : Sc Try.prog 37 := ⟨by kernel_rfl⟩
instance : ZV Try.prog 37 (.slice none 0 0) := ⟨by kernel_rfl⟩
instance : Ag Try.prog 38 4 := ⟨by kernel_rfl⟩
instance : FO Try.prog 38 0 0 := ⟨by kernel_rfl⟩
instance : FO Try.prog 38 1 1 := ⟨by kernel_rfl⟩
instance : FO Try.prog 38 2 2 := ⟨by kernel_rfl⟩
instance : FO Try.prog 38 3 3 := ⟨by kernel_rfl⟩
instance : ZV Try.prog 38 (.agg (List.toArray [.int .i64 0, .slice none 0 0, .int .i64 0, .int .i64 0])) := ⟨by kernel_rfl⟩
instance : Ag Try.prog 39 4 := ⟨by kernel_rfl⟩
instance : FO Try.prog 39 0 0 := ⟨by kernel_rfl⟩
instance : FO Try.prog 39 1 1 := ⟨by kernel_rfl⟩
instance : FO Try.prog 39 2 2 := ⟨by kernel_rfl⟩
instance : FO Try.prog 39 3 3 := ⟨by kernel_rfl⟩
instance : ZV Try.prog 39 (.agg (List.toArray [.int .i64 0, .slice none 0 0, .int .i64 0, .int .i64 0])) := ⟨by kernel_rfl⟩
instance : Sc Try.prog 40 := ⟨by kernel_rfl⟩
instance : InT Try.prog 40 .u64 := ⟨by kernel_rfl⟩
instance : ZV Try.prog 40 (.int .u64 0) := ⟨by kernel_rfl⟩
instance : Sc Try.prog 41 := ⟨by kernel_rfl⟩
instance : InT Try.prog 41 .u32 := ⟨by kernel_rfl⟩
instance : ZV Try.prog 41 (.int .u32 0) := ⟨by kernel_rfl⟩
instance : Ag Try.prog 42 6 := ⟨by kernel_rfl⟩
instance : FO Try.prog 42 0 0 := ⟨by kernel_rfl⟩
instance : FO Try.prog 42 1 1 := ⟨by kernel_rfl⟩
instance : FO Try.prog 42 2 2 := ⟨by kernel_rfl⟩
instance : FO Try.prog 42 3 3 := ⟨by kernel_rfl⟩
instance : FO Try.prog 42 4 4 := ⟨by kernel_rfl⟩
instance : FO Try.prog 42 5 5 := ⟨by kernel_rfl⟩
instance : ZV Try.prog 42 (.agg (List.toArray [.int .u64 0, .int .i64 0, .int .i64 0, .int .u32 0, .int .u32 0, .int .u32 0])) := ⟨by kernel_rfl⟩
instance : Ag Try.prog 43 6 := ⟨by kernel_rfl⟩
instance : FO Try.prog 43 0 0 := ⟨by kernel_rfl⟩
instance : FO Try.prog 43 1 1 := ⟨by kernel_rfl⟩
instance : FO Try.prog 43 2 2 := ⟨by kernel_rfl⟩
instance : FO Try.prog 43 3 3 := ⟨by kernel_rfl⟩
instance : FO Try.prog 43 4 4 := ⟨by kernel_rfl⟩
instance : FO Try.prog 43 5 5 := ⟨by kernel_rfl⟩
instance : ZV Try.prog 43 (.agg (List.toArray [.int .u64 0, .int .i64 0, .int .i64 0, .int .u32 0, .int .u32 0, .int .u32 0])) := ⟨by kernel_rfl⟩
instance : SlT Try.prog 44 23 := ⟨by kernel_rfl⟩
instance : Sc Try.prog 44 := ⟨by kernel_rfl⟩
instance : ZV Try.prog 44 (.slice none 0 0) := ⟨by kernel_rfl⟩
instance : SlT Try.prog 45 130 := ⟨by kernel_rfl⟩
instance : Sc Try.prog 45 := ⟨by kernel_rfl⟩
instance : ZV Try.prog 45 (.slice none 0 0) := ⟨by kernel_rfl⟩
instance : Ag Try.prog 46 10 := ⟨by kernel_rfl⟩
instance : FO Try.prog 46 0 0 := ⟨by kernel_rfl⟩
instance : FO Try.prog 46 1 6 := ⟨by kernel_rfl⟩
instance : FO Try.prog 46 2 7 := ⟨by kernel_rfl⟩
instance : FO Try.prog 46 3 8 := ⟨by kernel_rfl⟩
instance : FO Try.prog 46 4 9 := ⟨by kernel_rfl⟩
instance : ZV Try.prog 46 (.agg (List.toArray [.int .u64 0, .int .i64 0, .int .i64 0, .int .u32 0, .int .u32 0, .int .u32 0, .slice none 0 0, .slice none 0 0, .slice none 0 0, .int .i64 0])) := ⟨by kernel_rfl⟩
instance : Ag Try.prog 47 10 := ⟨by kernel_rfl⟩
instance : FO Try.prog 47 0 0 := ⟨by kernel_rfl⟩
instance : FO Try.prog 47 1 6 := ⟨by kernel_rfl⟩
instance : FO Try.prog 47 2 7 := ⟨by kernel_rfl⟩
instance : FO Try.prog 47 3 8 := ⟨by kernel_rfl⟩
instance : FO Try.prog 47 4 9 := ⟨by kernel_rfl⟩
instance : ZV Try.prog 47 (.agg (List.toArray [.int .u64 0, .int .i64 0, .int .i64 0, .int .u32 0, .int .u32 0, .int .u32 0, .slice none 0 0, .slice none 0 0, .slice none 0 0, .int .i64 0])) := ⟨by kernel_rfl⟩
instance : Sc Try.prog 48 := ⟨by kernel_rfl⟩
instance : ZV Try.prog 48 (.nilFunc) := ⟨by kernel_rfl⟩
instance : Sc Try.prog 49 := ⟨by kernel_rfl⟩
instance : ZV Try.prog 49 (.nilFunc) := ⟨by kernel_rfl⟩
instance : Sc Try.prog 51 := ⟨by kernel_rfl⟩
instance : ZV Try.prog 51 (.nilFunc) := ⟨by kernel_rfl⟩
instance : Sc Try.prog 52 := ⟨by kernel_rfl⟩
instance : ZV Try.prog 52 (.nilFunc) := ⟨by kernel_rfl⟩
instance : Sc Try.prog 53 := ⟨by kernel_rfl⟩
instance : ZV Try.prog 53 (.nilFunc) := ⟨by kernel_rfl⟩
instance : Sc Try.prog 55 := ⟨by kernel_rfl⟩
instance : ZV Try.prog 55 (.nilFunc) := ⟨by kernel_rfl⟩
instance : Sc Try.prog 56 := ⟨by kernel_rfl⟩
instance : ZV Try.prog 56 (.nilFunc) := ⟨by kernel_rfl⟩
instance : Sc Try.prog 57 := ⟨by kernel_rfl⟩
instance : ZV Try.prog 57 (.nilFunc) := ⟨by kernel_rfl⟩
instance : Sc Try.prog 58 := ⟨by kernel_rfl⟩
instance : ZV Try.prog 58 (.nilFunc) := ⟨by kernel_rfl⟩
instance : Ag Try.prog 59 5 := ⟨by kernel_rfl⟩
instance : FO Try.prog 59 0 0 := ⟨by kernel_rfl⟩
instance : FO Try.prog 59 1 1 := ⟨by kernel_rfl⟩
instance : FO Try.prog 59 2 2 := ⟨by kernel_rfl⟩
instance : FO Try.prog 59 3 3 := ⟨by kernel_rfl⟩
instance : FO Try.prog 59 4 4 := ⟨by kernel_rfl⟩
instance : ZV Try.prog 59 (.agg (List.toArray [.int .i64 0, .int .i64 0, .int .u64 0, .int .i64 0, .int .u32 0])) := ⟨by kernel_rfl⟩
instance : Ag Try.prog 60 5 := ⟨by kernel_rfl⟩
instance : FO Try.prog 60 0 0 := ⟨by kernel_rfl⟩
instance : FO Try.prog 60 1 1 := ⟨by kernel_rfl⟩
instance : FO Try.prog 60 2 2 := ⟨by kernel_rfl⟩
instance : FO Try.prog 60 3 3 := ⟨by kernel_rfl⟩
instance : FO Try.prog 60 4 4 := ⟨by kernel_rfl⟩
instance : ZV Try.prog 60 (.agg (List.toArray [.int .i64 0, .int .i64 0, .int .u64 0, .int .i64 0, .int .u32 0])) := ⟨by kernel_rfl⟩
instance : Sc Try.prog 61 := ⟨by kernel_rfl⟩
instance : ZV Try.prog 61 (.nilFunc) := ⟨by kernel_rfl⟩
instance : Sc Try.prog 62 := ⟨by kernel_rfl⟩
instance : ZV Try.prog 62 (.pointer none) := ⟨by kernel_rfl⟩
instance : SlT Try.prog 63 69 := ⟨by kernel_rfl⟩
instance : Sc Try.prog 63 := ⟨by kernel_rfl⟩
instance : ZV Try.prog 63 (.slice none 0 0) := ⟨by kernel_rfl⟩
instance : Sc Try.prog 64 := ⟨by kernel_rfl⟩
instance : ZV Try.prog 64 (.pointer none) := ⟨by kernel_rfl⟩
instance : Sc Try.prog 65 := ⟨by kernel_rfl⟩
instance : ZV Try.prog 65 (.nilFunc) := ⟨by kernel_rfl⟩
instance : Ag Try.prog 66 3 := ⟨by kernel_rfl⟩
instance : FO Try.prog 66 0 0 := ⟨by kernel_rfl⟩
instance : FO Try.prog 66 1 1 := ⟨by kernel_rfl⟩
instance : FO Try.prog 66 2 2 := ⟨by kernel_rfl⟩
instance : ZV Try.prog 66 (.agg (List.toArray [.slice none 0 0, .slice none 0 0, .pointer none])) := ⟨by kernel_rfl⟩
instance : Ag Try.prog 67 3 := ⟨by kernel_rfl⟩
instance : FO Try.prog 67 0 0 := ⟨by kernel_rfl⟩
instance : FO Try.prog 67 1 1 := ⟨by kernel_rfl⟩
instance : FO Try.prog 67 2 2 := ⟨by kernel_rfl⟩
instance : ZV Try.prog 67 (.agg (List.toArray [.slice none 0 0, .slice none 0 0, .pointer none])) := ⟨by kernel_rfl⟩
instance : Ag Try.prog 68 3 := ⟨by kernel_rfl⟩
instance : FO Try.prog 68 0 0 := ⟨by kernel_rfl⟩
instance : FO Try.prog 68 1 1 := ⟨by kernel_rfl⟩
instance : FO Try.prog 68 2 2 := ⟨by kernel_rfl⟩
instance : ZV Try.prog 68 (.agg (List.toArray [.slice none 0 0, .int .i64 0, .bool false])) := ⟨by kernel_rfl⟩
instance : Ag Try.prog 69 3 := ⟨by kernel_rfl⟩
instance : FO Try.prog 69 0 0 := ⟨by kernel_rfl⟩
instance : FO Try.prog 69 1 1 := ⟨by kernel_rfl⟩
instance : FO Try.prog 69 2 2 := ⟨by kernel_rfl⟩
instance : ZV Try.prog 69 (.agg (List.toArray [.slice none 0 0, .int .i64 0, .bool false])) := ⟨by kernel_rfl⟩
instance : Sc Try.prog 70 := ⟨by kernel_rfl⟩
instance : ZV Try.prog 70 (.nilFunc) := ⟨by kernel_rfl⟩
instance : Sc Try.prog 71 := ⟨by kernel_rfl⟩
instance : ZV Try.prog 71 (.nilFunc) := ⟨by kernel_rfl⟩
instance : Ag Try.prog 72 3 := ⟨by kernel_rfl⟩
instance : FO Try.prog 72 0 0 := ⟨by kernel_rfl⟩
instance : FO Try.prog 72 1 1 := ⟨by kernel_rfl⟩
instance : FO Try.prog 72 2 2 := ⟨by kernel_rfl⟩
instance : ZV Try.prog 72 (.agg (List.toArray [.int .i64 0, .int .i64 0, .int .i64 0])) := ⟨by kernel_rfl⟩
instance : Ag Try.prog 73 3 := ⟨by kernel_rfl⟩
instance : FO Try.prog 73 0 0 := ⟨by kernel_rfl⟩
instance : FO Try.prog 73 1 1 := ⟨by kernel_rfl⟩
instance : FO Try.prog 73 2 2 := ⟨by kernel_rfl⟩
instance : ZV Try.prog 73 (.agg (List.toArray [.int .i64 0, .int .i64 0, .int .i64 0])) := ⟨by kernel_rfl⟩
instance : Sc Try.prog 75 := ⟨by kernel_rfl⟩
instance : ZV Try.prog 75 (.nilFunc) := ⟨by kernel_rfl⟩
instance : Sc Try.prog 76 := ⟨by kernel_rfl⟩
instance : ZV Try.prog 76 (.nilFunc) := ⟨by kernel_rfl⟩
instance : Sc Try.prog 77 := ⟨by kernel_rfl⟩
instance : ZV Try.prog 77 (.nilFunc) := ⟨by kernel_rfl⟩
instance : SlT Try.prog 78 81 := ⟨by kernel_rfl⟩
instance : Sc Try.prog 78 := ⟨by kernel_rfl⟩
instance : ZV Try.prog 78 (.slice none 0 0) := ⟨by kernel_rfl⟩
instance : Ag Try.prog 79 8 := ⟨by kernel_rfl⟩
instance : PO Try.prog 79 0 0 := ⟨trivial⟩
instance : AOff Try.prog 79 0 0 := ⟨by kernel_rfl⟩
instance : PO Try.prog 79 1 1 := ⟨trivial⟩
instance : AOff Try.prog 79 1 1 := ⟨by kernel_rfl⟩
instance : PO Try.prog 79 2 2 := ⟨trivial⟩
instance : AOff Try.prog 79 2 2 := ⟨by kernel_rfl⟩
instance : PO Try.prog 79 3 3 := ⟨trivial⟩
instance : AOff Try.prog 79 3 3 := ⟨by kernel_rfl⟩
instance : PO Try.prog 79 4 4 := ⟨trivial⟩
instance : AOff Try.prog 79 4 4 := ⟨by kernel_rfl⟩
instance : PO Try.prog 79 5 5 := ⟨trivial⟩
instance : AOff Try.prog 79 5 5 := ⟨by kernel_rfl⟩
instance : PO Try.prog 79 6 6 := ⟨trivial⟩
instance : AOff Try.prog 79 6 6 := ⟨by kernel_rfl⟩
instance : PO Try.prog 79 7 7 := ⟨trivial⟩
instance : AOff Try.prog 79 7 7 := ⟨by kernel_rfl⟩
instance : ZV Try.prog 79 (.agg (List.toArray [.int .u64 0, .int .u64 0, .int .u64 0, .int .u64 0, .int .u64 0, .int .u64 0, .int .u64 0, .int .u64 0])) := ⟨by kernel_rfl⟩
instance : Ag Try.prog 80 15 := ⟨by kernel_rfl⟩
instance : FO Try.prog 80 0 0 := ⟨by kernel_rfl⟩
instance : FO Try.prog 80 1 5 := ⟨by kernel_rfl⟩
instance : FO Try.prog 80 2 6 := ⟨by kernel_rfl⟩
instance : FO Try.prog 80 3 7 := ⟨by kernel_rfl⟩
instance : ZV Try.prog 80 (.agg (List.toArray [.int .i64 0, .int .i64 0, .int .u64 0, .int .i64 0, .int .u32 0, .int .i64 0, .bool false, .int .u64 0, .int .u64 0, .int .u64 0, .int .u64 0, .int .u64 0, .int .u64 0, .int .u64 0, .int .u64 0])) := ⟨by kernel_rfl⟩
instance : Ag Try.prog 81 15 := ⟨by kernel_rfl⟩
instance : FO Try.prog 81 0 0 := ⟨by kernel_rfl⟩
instance : FO Try.prog 81 1 5 := ⟨by kernel_rfl⟩
instance : FO Try.prog 81 2 6 := ⟨by kernel_rfl⟩
instance : FO Try.prog 81 3 7 := ⟨by kernel_rfl⟩
instance : ZV Try.prog 81 (.agg (List.toArray [.int .i64 0, .int .i64 0, .int .u64 0, .int .i64 0, .int .u32 0, .int .i64 0, .bool false, .int .u64 0, .int .u64 0, .int .u64 0, .int .u64 0, .int .u64 0, .int .u64 0, .int .u64 0, .int .u64 0])) := ⟨by kernel_rfl⟩
instance : Sc Try.prog 82 := ⟨by kernel_rfl⟩
instance : ZV Try.prog 82 (.nilFunc) := ⟨by kernel_rfl⟩
instance : SlT Try.prog 83 131 := ⟨by kernel_rfl⟩
instance : Sc Try.prog 83 := ⟨by kernel_rfl⟩
instance : ZV Try.prog 83 (.slice none 0 0) := ⟨by kernel_rfl⟩
instance : Ag Try.prog 84 10 := ⟨by kernel_rfl⟩
instance : FO Try.prog 84 0 0 := ⟨by kernel_rfl⟩
instance : FO Try.prog 84 1 6 := ⟨by kernel_rfl⟩
instance : FO Try.prog 84 2 7 := ⟨by kernel_rfl⟩
instance : FO Try.prog 84 3 8 := ⟨by kernel_rfl⟩
instance : FO Try.prog 84 4 9 := ⟨by kernel_rfl⟩
instance : ZV Try.prog 84 (.agg (List.toArray [.int .u64 0, .int .i64 0, .int .i64 0, .int .u32 0, .int .u32 0, .int .u32 0, .slice none 0 0, .slice none 0 0, .slice none 0 0, .int .i64 0])) := ⟨by kernel_rfl⟩
instance : Ag Try.prog 85 10 := ⟨by kernel_rfl⟩
instance : FO Try.prog 85 0 0 := ⟨by kernel_rfl⟩
instance : FO Try.prog 85 1 6 := ⟨by kernel_rfl⟩
instance : FO Try.prog 85 2 7 := ⟨by kernel_rfl⟩
instance : FO Try.prog 85 3 8 := ⟨by kernel_rfl⟩
instance : FO Try.prog 85 4 9 := ⟨by kernel_rfl⟩
instance : ZV Try.prog 85 (.agg (List.toArray [.int .u64 0, .int .i64 0, .int .i64 0, .int .u32 0, .int .u32 0, .int .u32 0, .slice none 0 0, .slice none 0 0, .slice none 0 0, .int .i64 0])) := ⟨by kernel_rfl⟩
instance : Sc Try.prog 86 := ⟨by kernel_rfl⟩
instance : ZV Try.prog 86 (.nilFunc) := ⟨by kernel_rfl⟩
instance : Sc Try.prog 87 := ⟨by kernel_rfl⟩
instance : ZV Try.prog 87 (.nilFunc) := ⟨by kernel_rfl⟩
instance : Sc Try.prog 88 := ⟨by kernel_rfl⟩
instance : ZV Try.prog 88 (.nilFunc) := ⟨by kernel_rfl⟩
instance : Sc Try.prog 89 := ⟨by kernel_rfl⟩
instance : ZV Try.prog 89 (.nilFunc) := ⟨by kernel_rfl⟩
instance : SlT Try.prog 90 92 := ⟨by kernel_rfl⟩
instance : Sc Try.prog 90 := ⟨by kernel_rfl⟩
instance : ZV Try.prog 90 (.slice none 0 0) := ⟨by kernel_rfl⟩
instance : Ag Try.prog 91 2 := ⟨by kernel_rfl⟩
instance : FO Try.prog 91 0 0 := ⟨by kernel_rfl⟩
instance : FO Try.prog 91 1 1 := ⟨by kernel_rfl⟩
instance : ZV Try.prog 91 (.agg (List.toArray [.slice none 0 0, .int .i64 0])) := ⟨by kernel_rfl⟩
instance : Ag Try.prog 92 2 := ⟨by kernel_rfl⟩
instance : FO Try.prog 92 0 0 := ⟨by kernel_rfl⟩
instance : FO Try.prog 92 1 1 := ⟨by kernel_rfl⟩
instance : ZV Try.prog 92 (.agg (List.toArray [.slice none 0 0, .int .i64 0])) := ⟨by kernel_rfl⟩
instance : Sc Try.prog 93 := ⟨by kernel_rfl⟩
instance : ZV Try.prog 93 (.nilFunc) := ⟨by kernel_rfl⟩
instance : Sc Try.prog 94 := ⟨by kernel_rfl⟩
instance : ZV Try.prog 94 (.nilFunc) := ⟨by kernel_rfl⟩
instance : Sc Try.prog 95 := ⟨by kernel_rfl⟩
instance : ZV Try.prog 95 (.nilFunc) := ⟨by kernel_rfl⟩
instance : Sc Try.prog 96 := ⟨by kernel_rfl⟩
instance : ZV Try.prog 96 (.nilFunc) := ⟨by kernel_rfl⟩
instance : Ag Try.prog 97 15 := ⟨by kernel_rfl⟩
instance : FO Try.prog 97 0 0 := ⟨by kernel_rfl⟩
instance : FO Try.prog 97 1 5 := ⟨by kernel_rfl⟩
instance : FO Try.prog 97 2 6 := ⟨by kernel_rfl⟩
instance : FO Try.prog 97 3 7 := ⟨by kernel_rfl⟩
instance : ZV Try.prog 97 (.agg (List.toArray [.int .i64 0, .int .i64 0, .int .u64 0, .int .i64 0, .int .u32 0, .int .i64 0, .bool false, .int .u64 0, .int .u64 0, .int .u64 0, .int .u64 0, .int .u64 0, .int .u64 0, .int .u64 0, .int .u64 0])) := ⟨by kernel_rfl⟩
instance : Sc Try.prog 98 := ⟨by kernel_rfl⟩
instance : ZV Try.prog 98 (.nilFunc) := ⟨by kernel_rfl⟩
instance : Sc Try.prog 99 := ⟨by kernel_rfl⟩
instance : ZV Try.prog 99 (.nilFunc) := ⟨by kernel_rfl⟩
instance : Sc Try.prog 100 := ⟨by kernel_rfl⟩
instance : ZV Try.prog 100 (.map none) := ⟨by kernel_rfl⟩
instance : Ag Try.prog 101 2 := ⟨by kernel_rfl⟩
instance : FO Try.prog 101 0 0 := ⟨by kernel_rfl⟩
instance : FO Try.prog 101 1 1 := ⟨by kernel_rfl⟩
instance : ZV Try.prog 101 (.agg (List.toArray [.int .i64 0, .int .i64 0])) := ⟨by kernel_rfl⟩
instance : Ag Try.prog 102 2 := ⟨by kernel_rfl⟩
instance : FO Try.prog 102 0 0 := ⟨by kernel_rfl⟩
instance : FO Try.prog 102 1 1 := ⟨by kernel_rfl⟩
instance : ZV Try.prog 102 (.agg (List.toArray [.int .i64 0, .int .i64 0])) := ⟨by kernel_rfl⟩
instance : SlT Try.prog 104 73 := ⟨by kernel_rfl⟩
instance : Sc Try.prog 104 := ⟨by kernel_rfl⟩
instance : ZV Try.prog 104 (.slice none 0 0) := ⟨by kernel_rfl⟩
instance : Ag Try.prog 105 1 := ⟨by kernel_rfl⟩
instance : FO Try.prog 105 0 0 := ⟨by kernel_rfl⟩
instance : ZV Try.prog 105 (.agg (List.toArray [.slice none 0 0])) := ⟨by kernel_rfl⟩
instance : Ag Try.prog 106 1 := ⟨by kernel_rfl⟩
instance : FO Try.prog 106 0 0 := ⟨by kernel_rfl⟩
instance : ZV Try.prog 106 (.agg (List.toArray [.slice none 0 0])) := ⟨by kernel_rfl⟩
instance : Ag Try.prog 107 2 := ⟨by kernel_rfl⟩
instance : FO Try.prog 107 0 0 := ⟨by kernel_rfl⟩
instance : FO Try.prog 107 1 1 := ⟨by kernel_rfl⟩
instance : ZV Try.prog 107 (.agg (List.toArray [.bool false, .slice none 0 0])) := ⟨by kernel_rfl⟩
instance : Ag Try.prog 108 2 := ⟨by kernel_rfl⟩
instance : FO Try.prog 108 0 0 := ⟨by kernel_rfl⟩
instance : FO Try.prog 108 1 1 := ⟨by kernel_rfl⟩
instance : ZV Try.prog 108 (.agg (List.toArray [.bool false, .slice none 0 0])) := ⟨by kernel_rfl⟩
instance : Sc Try.prog 109 := ⟨by kernel_rfl⟩
instance : ZV Try.prog 109 (.pointer none) := ⟨by kernel_rfl⟩
instance : Sc Try.prog 110 := ⟨by kernel_rfl⟩
instance : ZV Try.prog 110 (.nilFunc) := ⟨by kernel_rfl⟩
instance : Sc Try.prog 111 := ⟨by kernel_rfl⟩
instance : ZV Try.prog 111 (.nilFunc) := ⟨by kernel_rfl⟩
instance : Sc Try.prog 113 := ⟨by kernel_rfl⟩
instance : ZV Try.prog 113 (.nilFunc) := ⟨by kernel_rfl⟩
instance : Sc Try.prog 114 := ⟨by kernel_rfl⟩
instance : ZV Try.prog 114 (.pointer none) := ⟨by kernel_rfl⟩
instance : Sc Try.prog 115 := ⟨by kernel_rfl⟩
instance : ZV Try.prog 115 (.nilFunc) := ⟨by kernel_rfl⟩
instance : Sc Try.prog 116 := ⟨by kernel_rfl⟩
instance : ZV Try.prog 116 (.pointer none) := ⟨by kernel_rfl⟩
instance : Sc Try.prog 117 := ⟨by kernel_rfl⟩
instance : ZV Try.prog 117 (.nilFunc) := ⟨by kernel_rfl⟩
instance : Sc Try.prog 118 := ⟨by kernel_rfl⟩
instance : ZV Try.prog 118 (.map none) := ⟨by kernel_rfl⟩
instance : Sc Try.prog 119 := ⟨by kernel_rfl⟩
instance : ZV Try.prog 119 (.map none) := ⟨by kernel_rfl⟩
instance : Ag Try.prog 120 5 := ⟨by kernel_rfl⟩
instance : FO Try.prog 120 0 0 := ⟨by kernel_rfl⟩
instance : FO Try.prog 120 1 1 := ⟨by kernel_rfl⟩
instance : FO Try.prog 120 2 2 := ⟨by kernel_rfl⟩
instance : FO Try.prog 120 3 3 := ⟨by kernel_rfl⟩
instance : FO Try.prog 120 4 4 := ⟨by kernel_rfl⟩
instance : ZV Try.prog 120 (.agg (List.toArray [.slice none 0 0, .int .i64 0, .map none, .map none, .pointer none])) := ⟨by kernel_rfl⟩
instance : Ag Try.prog 121 5 := ⟨by kernel_rfl⟩
instance : FO Try.prog 121 0 0 := ⟨by kernel_rfl⟩
instance : FO Try.prog 121 1 1 := ⟨by kernel_rfl⟩
instance : FO Try.prog 121 2 2 := ⟨by kernel_rfl⟩
instance : FO Try.prog 121 3 3 := ⟨by kernel_rfl⟩
instance : FO Try.prog 121 4 4 := ⟨by kernel_rfl⟩
instance : ZV Try.prog 121 (.agg (List.toArray [.slice none 0 0, .int .i64 0, .map none, .map none, .pointer none])) := ⟨by kernel_rfl⟩
instance : Sc Try.prog 122 := ⟨by kernel_rfl⟩
instance : ZV Try.prog 122 (.nilFunc) := ⟨by kernel_rfl⟩
instance : Ag Try.prog 123 2 := ⟨by kernel_rfl⟩
instance : FO Try.prog 123 0 0 := ⟨by kernel_rfl⟩
instance : FO Try.prog 123 1 1 := ⟨by kernel_rfl⟩
instance : ZV Try.prog 123 (.agg (List.toArray [.slice none 0 0, .int .i64 0])) := ⟨by kernel_rfl⟩
instance : Ag Try.prog 124 2 := ⟨by kernel_rfl⟩
instance : FO Try.prog 124 0 0 := ⟨by kernel_rfl⟩
instance : FO Try.prog 124 1 1 := ⟨by kernel_rfl⟩
instance : ZV Try.prog 124 (.agg (List.toArray [.slice none 0 0, .int .i64 0])) := ⟨by kernel_rfl⟩
instance : Sc Try.prog 125 := ⟨by kernel_rfl⟩
instance : ZV Try.prog 125 (.nilFunc) := ⟨by kernel_rfl⟩
instance : Ag Try.prog 126 2 := ⟨by kernel_rfl⟩
instance : FO Try.prog 126 0 0 := ⟨by kernel_rfl⟩
instance : FO Try.prog 126 1 1 := ⟨by kernel_rfl⟩
instance : ZV Try.prog 126 (.agg (List.toArray [.int .i64 0, .int .i64 0])) := ⟨by kernel_rfl⟩
instance : Ag Try.prog 127 2 := ⟨by kernel_rfl⟩
instance : FO Try.prog 127 0 0 := ⟨by kernel_rfl⟩
instance : FO Try.prog 127 1 1 := ⟨by kernel_rfl⟩
instance : ZV Try.prog 127 (.agg (List.toArray [.int .i64 0, .int .i64 0])) := ⟨by kernel_rfl⟩
instance : Ag Try.prog 129 3 := ⟨by kernel_rfl⟩
instance : FO Try.prog 129 0 0 := ⟨by kernel_rfl⟩
instance : FO Try.prog 129 1 1 := ⟨by kernel_rfl⟩
instance : FO Try.prog 129 2 2 := ⟨by kernel_rfl⟩
instance : ZV Try.prog 129 (.agg (List.toArray [.int .i64 0, .int .i64 0, .int .u64 0])) := ⟨by kernel_rfl⟩
instance : Ag Try.prog 130 3 := ⟨by kernel_rfl⟩
instance : FO Try.prog 130 0 0 := ⟨by kernel_rfl⟩
instance : FO Try.prog 130 1 1 := ⟨by kernel_rfl⟩
instance : FO Try.prog 130 2 2 := ⟨by kernel_rfl⟩
instance : ZV Try.prog 130 (.agg (List.toArray [.int .i64 0, .int .i64 0, .int .u64 0])) := ⟨by kernel_rfl⟩
instance : Ag Try.prog 131 3 := ⟨by kernel_rfl⟩
instance : FO Try.prog 131 0 0 := ⟨by kernel_rfl⟩
instance : FO Try.prog 131 1 1 := ⟨by kernel_rfl⟩
instance : FO Try.prog 131 2 2 := ⟨by kernel_rfl⟩
instance : ZV Try.prog 131 (.agg (List.toArray [.int .i64 0, .int .i64 0, .int .u64 0])) := ⟨by kernel_rfl⟩
instance : Sc Try.prog 132 := ⟨by kernel_rfl⟩
instance : ZV Try.prog 132 (.nilFunc) := ⟨by kernel_rfl⟩
instance : Sc Try.prog 133 := ⟨by kernel_rfl⟩
instance : ZV Try.prog 133 (.nilFunc) := ⟨by kernel_rfl⟩
instance : Sc Try.prog 135 := ⟨by kernel_rfl⟩
instance : ZV Try.prog 135 (.nilFunc) := ⟨by kernel_rfl⟩
instance : Sc Try.prog 136 := ⟨by kernel_rfl⟩
instance : ZV Try.prog 136 (.nilFunc) := ⟨by kernel_rfl⟩
instance : Sc Try.prog 137 := ⟨by kernel_rfl⟩
instance : ZV Try.prog 137 (.nilFunc) := ⟨by kernel_rfl⟩
instance : Sc Try.prog 138 := ⟨by kernel_rfl⟩
instance : ZV Try.prog 138 (.nilFunc) := ⟨by kernel_rfl⟩
instance : Sc Try.prog 139 := ⟨by kernel_rfl⟩
instance : ZV Try.prog 139 (.nilFunc) := ⟨by kernel_rfl⟩
instance : Sc Try.prog 140 := ⟨by kernel_rfl⟩
instance : Sc Try.prog 141 := ⟨by kernel_rfl⟩
instance : Sc Try.prog 142 := ⟨by kernel_rfl⟩
instance : ZV Try.prog 142 (.nilFunc) := ⟨by kernel_rfl⟩
instance : Sc Try.prog 143 := ⟨by kernel_rfl⟩
instance : ZV Try.prog 143 (.nilFunc) := ⟨by kernel_rfl⟩
instance : Sc Try.prog 144 := ⟨by kernel_rfl⟩
instance : ZV Try.prog 144 (.nilFunc) := ⟨by kernel_rfl⟩
instance : Sc Try.prog 145 := ⟨by kernel_rfl⟩
instance : ZV Try.prog 145 (.nilFunc) := ⟨by kernel_rfl⟩
instance : Sc Try.prog 146 := ⟨by kernel_rfl⟩
instance : ZV Try.prog 146 (.nilFunc) := ⟨by kernel_rfl⟩
instance : Sc Try.prog 148 := ⟨by kernel_rfl⟩
instance : ZV Try.prog 148 (.nilFunc) := ⟨by kernel_rfl⟩
instance : Sc Try.prog 149 := ⟨by kernel_rfl⟩
instance : ZV Try.prog 149 (.nilFunc) := ⟨by kernel_rfl⟩
instance : Sc Try.prog 150 := ⟨by kernel_rfl⟩
instance : ZV Try.prog 150 (.nilFunc) := ⟨by kernel_rfl⟩
instance : Sc Try.prog 151 := ⟨by kernel_rfl⟩
instance : ZV Try.prog 151 (.nilFunc) := ⟨by kernel_rfl⟩
instance : Sc Try.prog 152 := ⟨by kernel_rfl⟩
instance : ZV Try.prog 152 (.nilFunc) := ⟨by kernel_rfl⟩
instance : Sc Try.prog 153 := ⟨by kernel_rfl⟩
instance : ZV Try.prog 153 (.nilFunc) := ⟨by kernel_rfl⟩
instance : Sc Try.prog 154 := ⟨by kernel_rfl⟩
instance : ZV Try.prog 154 (.nilFunc) := ⟨by kernel_rfl⟩
instance : Sc Try.prog 155 := ⟨by kernel_rfl⟩
instance : ZV Try.prog 155 (.nilFunc) := ⟨by kernel_rfl⟩
instance : Sc Try.prog 157 := ⟨by kernel_rfl⟩
instance : ZV Try.prog 157 (.nilFunc) := ⟨by kernel_rfl⟩
instance : Sc Try.prog 158 := ⟨by kernel_rfl⟩
instance : InT Try.prog 158 .u64 := ⟨by kernel_rfl⟩
instance : ZV Try.prog 158 (.int .u64 0) := ⟨by kernel_rfl⟩
instance : Sc Try.prog 159 := ⟨by kernel_rfl⟩
instance : ZV Try.prog 159 (.nilFunc) := ⟨by kernel_rfl⟩
instance : Sc Try.prog 160 := ⟨by kernel_rfl⟩
instance : ZV Try.prog 160 (.nilFunc) := ⟨by kernel_rfl⟩
instance : Sc Try.prog 161 := ⟨by kernel_rfl⟩
instance : ZV Try.prog 161 (.nilFunc) := ⟨by kernel_rfl⟩
instance : Ag Try.prog 162 4 := ⟨by kernel_rfl⟩
instance : FO Try.prog 162 0 0 := ⟨by kernel_rfl⟩
instance : FO Try.prog 162 1 1 := ⟨by kernel_rfl⟩
instance : FO Try.prog 162 2 2 := ⟨by kernel_rfl⟩
instance : FO Try.prog 162 3 3 := ⟨by kernel_rfl⟩
instance : ZV Try.prog 162 (.agg (List.toArray [.pointer none, .pointer none, .pointer none, .string ⟨#[]⟩])) := ⟨by kernel_rfl⟩
instance : Ag Try.prog 163 4 := ⟨by kernel_rfl⟩
instance : FO Try.prog 163 0 0 := ⟨by kernel_rfl⟩
instance : FO Try.prog 163 1 1 := ⟨by kernel_rfl⟩
instance : FO Try.prog 163 2 2 := ⟨by kernel_rfl⟩
instance : FO Try.prog 163 3 3 := ⟨by kernel_rfl⟩
instance : ZV Try.prog 163 (.agg (List.toArray [.pointer none, .pointer none, .pointer none, .string ⟨#[]⟩])) := ⟨by kernel_rfl⟩
instance : Ag Try.prog 165 0 := ⟨by kernel_rfl⟩
instance : ZV Try.prog 165 (.agg (List.toArray [])) := ⟨by kernel_rfl⟩
instance : Ag Try.prog 166 0 := ⟨by kernel_rfl⟩
instance : ZV Try.prog 166 (.agg (List.toArray [])) := ⟨by kernel_rfl⟩
instance : Sc Try.prog 167 := ⟨by kernel_rfl⟩
instance : InT Try.prog 167 .u8 := ⟨by kernel_rfl⟩
instance : ZV Try.prog 167 (.int .u8 0) := ⟨by kernel_rfl⟩
instance : Sc Try.prog 168 := ⟨by kernel_rfl⟩
instance : InT Try.prog 168 .u8 := ⟨by kernel_rfl⟩
instance : ZV Try.prog 168 (.int .u8 0) := ⟨by kernel_rfl⟩
instance : Sc Try.prog 169 := ⟨by kernel_rfl⟩
instance : ZV Try.prog 169 (.nilFunc) := ⟨by kernel_rfl⟩
instance : Sc Try.prog 170 := ⟨by kernel_rfl⟩
instance : ZV Try.prog 170 (.pointer none) := ⟨by kernel_rfl⟩
instance : Sc Try.prog 171 := ⟨by kernel_rfl⟩
instance : InT Try.prog 171 .i32 := ⟨by kernel_rfl⟩
instance : ZV Try.prog 171 (.int .i32 0) := ⟨by kernel_rfl⟩
instance : Sc Try.prog 172 := ⟨by kernel_rfl⟩
instance : InT Try.prog 172 .i32 := ⟨by kernel_rfl⟩
instance : ZV Try.prog 172 (.int .i32 0) := ⟨by kernel_rfl⟩
instance : Ag Try.prog 173 11 := ⟨by kernel_rfl⟩
instance : FO Try.prog 173 0 0 := ⟨by kernel_rfl⟩
instance : FO Try.prog 173 1 1 := ⟨by kernel_rfl⟩
instance : FO Try.prog 173 2 2 := ⟨by kernel_rfl⟩
instance : FO Try.prog 173 3 3 := ⟨by kernel_rfl⟩
instance : FO Try.prog 173 4 4 := ⟨by kernel_rfl⟩
instance : FO Try.prog 173 5 5 := ⟨by kernel_rfl⟩
instance : FO Try.prog 173 6 6 := ⟨by kernel_rfl⟩
instance : FO Try.prog 173 7 7 := ⟨by kernel_rfl⟩
instance : FO Try.prog 173 8 8 := ⟨by kernel_rfl⟩
instance : FO Try.prog 173 9 9 := ⟨by kernel_rfl⟩
instance : FO Try.prog 173 10 10 := ⟨by kernel_rfl⟩
instance : ZV Try.prog 173 (.agg (List.toArray [.int .u64 0, .int .u64 0, .int .u32 0, .int .u8 0, .int .u8 0, .int .u8 0, .int .u8 0, .nilFunc, .pointer none, .int .i32 0, .int .i32 0])) := ⟨by kernel_rfl⟩
instance : Ag Try.prog 174 11 := ⟨by kernel_rfl⟩
instance : FO Try.prog 174 0 0 := ⟨by kernel_rfl⟩
instance : FO Try.prog 174 1 1 := ⟨by kernel_rfl⟩
instance : FO Try.prog 174 2 2 := ⟨by kernel_rfl⟩
instance : FO Try.prog 174 3 3 := ⟨by kernel_rfl⟩
instance : FO Try.prog 174 4 4 := ⟨by kernel_rfl⟩
instance : FO Try.prog 174 5 5 := ⟨by kernel_rfl⟩
instance : FO Try.prog 174 6 6 := ⟨by kernel_rfl⟩
instance : FO Try.prog 174 7 7 := ⟨by kernel_rfl⟩
instance : FO Try.prog 174 8 8 := ⟨by kernel_rfl⟩
instance : FO Try.prog 174 9 9 := ⟨by kernel_rfl⟩
instance : FO Try.prog 174 10 10 := ⟨by kernel_rfl⟩
instance : ZV Try.prog 174 (.agg (List.toArray [.int .u64 0, .int .u64 0, .int .u32 0, .int .u8 0, .int .u8 0, .int .u8 0, .int .u8 0, .nilFunc, .pointer none, .int .i32 0, .int .i32 0])) := ⟨by kernel_rfl⟩
instance : Sc Try.prog 175 := ⟨by kernel_rfl⟩
instance : ZV Try.prog 175 (.nilFunc) := ⟨by kernel_rfl⟩
instance : Sc Try.prog 176 := ⟨by kernel_rfl⟩
instance : ZV Try.prog 176 (.nilFunc) := ⟨by kernel_rfl⟩
instance : Sc Try.prog 177 := ⟨by kernel_rfl⟩
instance : ZV Try.prog 177 (.pointer none) := ⟨by kernel_rfl⟩
instance : ElT Try.prog 3 (.int .i64 0) 1 8 := ⟨by kernel_rfl, by kernel_rfl⟩
instance : KOf Try.prog 3 (yi .i64) := ⟨by kernel_rfl⟩
instance : ElT Try.prog 4 (.bool false) 1 1 := ⟨by kernel_rfl, by kernel_rfl⟩
instance : KOf Try.prog 4 yb := ⟨by kernel_rfl⟩
instance : ElT Try.prog 23 (.agg (List.toArray [.int .i64 0, .int .i64 0])) 2 16 := ⟨by kernel_rfl, by kernel_rfl⟩
/-- type 23 -/
structure T23 where
  f0 : Int
  f1 : Int
  deriving Inhabited, DecidableEq
def y23 : Ky T23 := { sz := 2, enc := fun x => [.int .i64 x.f0, .int .i64 x.f1], len := fun _ => rfl, one := fun x => (inferInstance : Ones [.int .i64 x.f0, .int .i64 x.f1]).out, pos := by decide }
instance : EncAt y23 0 (fun x => .int .i64 x.f0) := ⟨fun _ => rfl⟩
instance : EncAt y23 1 (fun x => .int .i64 x.f1) := ⟨fun _ => rfl⟩
instance : EncSeg y23 0 2 (fun x => [.int .i64 x.f0, .int .i64 x.f1]) := ⟨fun _ => ⟨rfl, Nat.le_of_ble_eq_true rfl⟩⟩
instance (priority := 2000) {x : T23} : EncOf y23 (.agg (List.toArray [.int .i64 x.f0, .int .i64 x.f1])) x := ⟨rfl⟩
instance (priority := 2000) {x : T23} : EncPut y23 0 [.int .i64 x.f0, .int .i64 x.f1] (fun _ => x) := ⟨fun _ => ⟨rfl, Nat.le_of_ble_eq_true rfl⟩⟩
instance {v_0 : Int} {v_1 : Int} : EncOf y23 (.agg (List.toArray [.int .i64 v_0, .int .i64 v_1])) ⟨v_0, v_1⟩ := ⟨rfl⟩
instance {v_0 : Int} {v_1 : Int} : EncPut y23 0 [.int .i64 v_0, .int .i64 v_1] (fun _ => ⟨v_0, v_1⟩) := ⟨fun _ => ⟨rfl, Nat.le_of_ble_eq_true rfl⟩⟩
instance {v : Int} : EncPut y23 0 [.int .i64 v] (fun x => { x with f0 := v }) := ⟨fun _ => ⟨rfl, Nat.le_of_ble_eq_true rfl⟩⟩
instance {v : Int} : EncPut y23 1 [.int .i64 v] (fun x => { x with f1 := v }) := ⟨fun _ => ⟨rfl, Nat.le_of_ble_eq_true rfl⟩⟩
instance : KOf Try.prog 23 y23 := ⟨by kernel_rfl⟩
instance : ElT Try.prog 25 (.slice none 0 0) 1 24 := ⟨by kernel_rfl, by kernel_rfl⟩
instance : KOf Try.prog 25 ysl := ⟨by kernel_rfl⟩
instance : ElT Try.prog 60 (.agg (List.toArray [.int .i64 0, .int .i64 0, .int .u64 0, .int .i64 0, .int .u32 0])) 5 40 := ⟨by kernel_rfl, by kernel_rfl⟩
/-- viaduct/api.Link: From, To, Cap, Metric, Groups -/
structure T59 where
  f0 : Int
  f1 : Int
  f2 : Int
  f3 : Int
  f4 : Int
  deriving Inhabited, DecidableEq
def y59 : Ky T59 := { sz := 5, enc := fun x => [.int .i64 x.f0, .int .i64 x.f1, .int .u64 x.f2, .int .i64 x.f3, .int .u32 x.f4], len := fun _ => rfl, one := fun x => (inferInstance : Ones [.int .i64 x.f0, .int .i64 x.f1, .int .u64 x.f2, .int .i64 x.f3, .int .u32 x.f4]).out, pos := by decide }
instance : EncAt y59 0 (fun x => .int .i64 x.f0) := ⟨fun _ => rfl⟩
instance : EncAt y59 1 (fun x => .int .i64 x.f1) := ⟨fun _ => rfl⟩
instance : EncAt y59 2 (fun x => .int .u64 x.f2) := ⟨fun _ => rfl⟩
instance : EncAt y59 3 (fun x => .int .i64 x.f3) := ⟨fun _ => rfl⟩
instance : EncAt y59 4 (fun x => .int .u32 x.f4) := ⟨fun _ => rfl⟩
instance : EncSeg y59 0 5 (fun x => [.int .i64 x.f0, .int .i64 x.f1, .int .u64 x.f2, .int .i64 x.f3, .int .u32 x.f4]) := ⟨fun _ => ⟨rfl, Nat.le_of_ble_eq_true rfl⟩⟩
instance (priority := 2000) {x : T59} : EncOf y59 (.agg (List.toArray [.int .i64 x.f0, .int .i64 x.f1, .int .u64 x.f2, .int .i64 x.f3, .int .u32 x.f4])) x := ⟨rfl⟩
instance (priority := 2000) {x : T59} : EncPut y59 0 [.int .i64 x.f0, .int .i64 x.f1, .int .u64 x.f2, .int .i64 x.f3, .int .u32 x.f4] (fun _ => x) := ⟨fun _ => ⟨rfl, Nat.le_of_ble_eq_true rfl⟩⟩
instance {v_0 : Int} {v_1 : Int} {v_2 : Int} {v_3 : Int} {v_4 : Int} : EncOf y59 (.agg (List.toArray [.int .i64 v_0, .int .i64 v_1, .int .u64 v_2, .int .i64 v_3, .int .u32 v_4])) ⟨v_0, v_1, v_2, v_3, v_4⟩ := ⟨rfl⟩
instance {v_0 : Int} {v_1 : Int} {v_2 : Int} {v_3 : Int} {v_4 : Int} : EncPut y59 0 [.int .i64 v_0, .int .i64 v_1, .int .u64 v_2, .int .i64 v_3, .int .u32 v_4] (fun _ => ⟨v_0, v_1, v_2, v_3, v_4⟩) := ⟨fun _ => ⟨rfl, Nat.le_of_ble_eq_true rfl⟩⟩
instance {v : Int} : EncPut y59 0 [.int .i64 v] (fun x => { x with f0 := v }) := ⟨fun _ => ⟨rfl, Nat.le_of_ble_eq_true rfl⟩⟩
instance {v : Int} : EncPut y59 1 [.int .i64 v] (fun x => { x with f1 := v }) := ⟨fun _ => ⟨rfl, Nat.le_of_ble_eq_true rfl⟩⟩
instance {v : Int} : EncPut y59 2 [.int .u64 v] (fun x => { x with f2 := v }) := ⟨fun _ => ⟨rfl, Nat.le_of_ble_eq_true rfl⟩⟩
instance {v : Int} : EncPut y59 3 [.int .i64 v] (fun x => { x with f3 := v }) := ⟨fun _ => ⟨rfl, Nat.le_of_ble_eq_true rfl⟩⟩
instance {v : Int} : EncPut y59 4 [.int .u32 v] (fun x => { x with f4 := v }) := ⟨fun _ => ⟨rfl, Nat.le_of_ble_eq_true rfl⟩⟩
instance : KOf Try.prog 60 y59 := ⟨by kernel_rfl⟩
instance : ElT Try.prog 69 (.agg (List.toArray [.slice none 0 0, .int .i64 0, .bool false])) 3 40 := ⟨by kernel_rfl, by kernel_rfl⟩
/-- viaduct/spf.way: l, cost, settled -/
structure T68 where
  f0 : Sl
  f1 : Int
  f2 : Bool
  deriving Inhabited
def y68 : Ky T68 := { sz := 3, enc := fun x => [.slice x.f0.a x.f0.n x.f0.c, .int .i64 x.f1, .bool x.f2], len := fun _ => rfl, one := fun x => (inferInstance : Ones [.slice x.f0.a x.f0.n x.f0.c, .int .i64 x.f1, .bool x.f2]).out, pos := by decide }
instance : EncAt y68 0 (fun x => .slice x.f0.a x.f0.n x.f0.c) := ⟨fun _ => rfl⟩
instance : EncAt y68 1 (fun x => .int .i64 x.f1) := ⟨fun _ => rfl⟩
instance : EncAt y68 2 (fun x => .bool x.f2) := ⟨fun _ => rfl⟩
instance : EncSeg y68 0 3 (fun x => [.slice x.f0.a x.f0.n x.f0.c, .int .i64 x.f1, .bool x.f2]) := ⟨fun _ => ⟨rfl, Nat.le_of_ble_eq_true rfl⟩⟩
instance (priority := 2000) {x : T68} : EncOf y68 (.agg (List.toArray [.slice x.f0.a x.f0.n x.f0.c, .int .i64 x.f1, .bool x.f2])) x := ⟨rfl⟩
instance (priority := 2000) {x : T68} : EncPut y68 0 [.slice x.f0.a x.f0.n x.f0.c, .int .i64 x.f1, .bool x.f2] (fun _ => x) := ⟨fun _ => ⟨rfl, Nat.le_of_ble_eq_true rfl⟩⟩
instance {v_0a : Option Addr} {v_0n v_0c : Nat} {v_1 : Int} {v_2 : Bool} : EncOf y68 (.agg (List.toArray [.slice v_0a v_0n v_0c, .int .i64 v_1, .bool v_2])) ⟨⟨v_0a, v_0n, v_0c⟩, v_1, v_2⟩ := ⟨rfl⟩
instance {v_0a : Option Addr} {v_0n v_0c : Nat} {v_1 : Int} {v_2 : Bool} : EncPut y68 0 [.slice v_0a v_0n v_0c, .int .i64 v_1, .bool v_2] (fun _ => ⟨⟨v_0a, v_0n, v_0c⟩, v_1, v_2⟩) := ⟨fun _ => ⟨rfl, Nat.le_of_ble_eq_true rfl⟩⟩
instance {va : Option Addr} {vn vc : Nat} : EncPut y68 0 [.slice va vn vc] (fun x => { x with f0 := ⟨va, vn, vc⟩ }) := ⟨fun _ => ⟨rfl, Nat.le_of_ble_eq_true rfl⟩⟩
instance {v : Int} : EncPut y68 1 [.int .i64 v] (fun x => { x with f1 := v }) := ⟨fun _ => ⟨rfl, Nat.le_of_ble_eq_true rfl⟩⟩
instance {v : Bool} : EncPut y68 2 [.bool v] (fun x => { x with f2 := v }) := ⟨fun _ => ⟨rfl, Nat.le_of_ble_eq_true rfl⟩⟩
instance : KOf Try.prog 69 y68 := ⟨by kernel_rfl⟩
instance : ElT Try.prog 73 (.agg (List.toArray [.int .i64 0, .int .i64 0, .int .i64 0])) 3 24 := ⟨by kernel_rfl, by kernel_rfl⟩
/-- viaduct/queue.Item: Cost, Hops, Node -/
structure T72 where
  f0 : Int
  f1 : Int
  f2 : Int
  deriving Inhabited, DecidableEq
def y72 : Ky T72 := { sz := 3, enc := fun x => [.int .i64 x.f0, .int .i64 x.f1, .int .i64 x.f2], len := fun _ => rfl, one := fun x => (inferInstance : Ones [.int .i64 x.f0, .int .i64 x.f1, .int .i64 x.f2]).out, pos := by decide }
instance : EncAt y72 0 (fun x => .int .i64 x.f0) := ⟨fun _ => rfl⟩
instance : EncAt y72 1 (fun x => .int .i64 x.f1) := ⟨fun _ => rfl⟩
instance : EncAt y72 2 (fun x => .int .i64 x.f2) := ⟨fun _ => rfl⟩
instance : EncSeg y72 0 3 (fun x => [.int .i64 x.f0, .int .i64 x.f1, .int .i64 x.f2]) := ⟨fun _ => ⟨rfl, Nat.le_of_ble_eq_true rfl⟩⟩
instance (priority := 2000) {x : T72} : EncOf y72 (.agg (List.toArray [.int .i64 x.f0, .int .i64 x.f1, .int .i64 x.f2])) x := ⟨rfl⟩
instance (priority := 2000) {x : T72} : EncPut y72 0 [.int .i64 x.f0, .int .i64 x.f1, .int .i64 x.f2] (fun _ => x) := ⟨fun _ => ⟨rfl, Nat.le_of_ble_eq_true rfl⟩⟩
instance {v_0 : Int} {v_1 : Int} {v_2 : Int} : EncOf y72 (.agg (List.toArray [.int .i64 v_0, .int .i64 v_1, .int .i64 v_2])) ⟨v_0, v_1, v_2⟩ := ⟨rfl⟩
instance {v_0 : Int} {v_1 : Int} {v_2 : Int} : EncPut y72 0 [.int .i64 v_0, .int .i64 v_1, .int .i64 v_2] (fun _ => ⟨v_0, v_1, v_2⟩) := ⟨fun _ => ⟨rfl, Nat.le_of_ble_eq_true rfl⟩⟩
instance {v : Int} : EncPut y72 0 [.int .i64 v] (fun x => { x with f0 := v }) := ⟨fun _ => ⟨rfl, Nat.le_of_ble_eq_true rfl⟩⟩
instance {v : Int} : EncPut y72 1 [.int .i64 v] (fun x => { x with f1 := v }) := ⟨fun _ => ⟨rfl, Nat.le_of_ble_eq_true rfl⟩⟩
instance {v : Int} : EncPut y72 2 [.int .i64 v] (fun x => { x with f2 := v }) := ⟨fun _ => ⟨rfl, Nat.le_of_ble_eq_true rfl⟩⟩
instance : KOf Try.prog 73 y72 := ⟨by kernel_rfl⟩
instance : ElT Try.prog 81 (.agg (List.toArray [.int .i64 0, .int .i64 0, .int .u64 0, .int .i64 0, .int .u32 0, .int .i64 0, .bool false, .int .u64 0, .int .u64 0, .int .u64 0, .int .u64 0, .int .u64 0, .int .u64 0, .int .u64 0, .int .u64 0])) 15 120 := ⟨by kernel_rfl, by kernel_rfl⟩
/-- type 79 -/
structure T79 where
  f0 : Int
  f1 : Int
  f2 : Int
  f3 : Int
  f4 : Int
  f5 : Int
  f6 : Int
  f7 : Int
  deriving Inhabited, DecidableEq
def y79 : Ky T79 := { sz := 8, enc := fun x => [.int .u64 x.f0, .int .u64 x.f1, .int .u64 x.f2, .int .u64 x.f3, .int .u64 x.f4, .int .u64 x.f5, .int .u64 x.f6, .int .u64 x.f7], len := fun _ => rfl, one := fun x => (inferInstance : Ones [.int .u64 x.f0, .int .u64 x.f1, .int .u64 x.f2, .int .u64 x.f3, .int .u64 x.f4, .int .u64 x.f5, .int .u64 x.f6, .int .u64 x.f7]).out, pos := by decide }
instance : EncAt y79 0 (fun x => .int .u64 x.f0) := ⟨fun _ => rfl⟩
instance : EncAt y79 1 (fun x => .int .u64 x.f1) := ⟨fun _ => rfl⟩
instance : EncAt y79 2 (fun x => .int .u64 x.f2) := ⟨fun _ => rfl⟩
instance : EncAt y79 3 (fun x => .int .u64 x.f3) := ⟨fun _ => rfl⟩
instance : EncAt y79 4 (fun x => .int .u64 x.f4) := ⟨fun _ => rfl⟩
instance : EncAt y79 5 (fun x => .int .u64 x.f5) := ⟨fun _ => rfl⟩
instance : EncAt y79 6 (fun x => .int .u64 x.f6) := ⟨fun _ => rfl⟩
instance : EncAt y79 7 (fun x => .int .u64 x.f7) := ⟨fun _ => rfl⟩
instance : EncSeg y79 0 8 (fun x => [.int .u64 x.f0, .int .u64 x.f1, .int .u64 x.f2, .int .u64 x.f3, .int .u64 x.f4, .int .u64 x.f5, .int .u64 x.f6, .int .u64 x.f7]) := ⟨fun _ => ⟨rfl, Nat.le_of_ble_eq_true rfl⟩⟩
instance (priority := 2000) {x : T79} : EncOf y79 (.agg (List.toArray [.int .u64 x.f0, .int .u64 x.f1, .int .u64 x.f2, .int .u64 x.f3, .int .u64 x.f4, .int .u64 x.f5, .int .u64 x.f6, .int .u64 x.f7])) x := ⟨rfl⟩
instance (priority := 2000) {x : T79} : EncPut y79 0 [.int .u64 x.f0, .int .u64 x.f1, .int .u64 x.f2, .int .u64 x.f3, .int .u64 x.f4, .int .u64 x.f5, .int .u64 x.f6, .int .u64 x.f7] (fun _ => x) := ⟨fun _ => ⟨rfl, Nat.le_of_ble_eq_true rfl⟩⟩
instance {v_0 : Int} {v_1 : Int} {v_2 : Int} {v_3 : Int} {v_4 : Int} {v_5 : Int} {v_6 : Int} {v_7 : Int} : EncOf y79 (.agg (List.toArray [.int .u64 v_0, .int .u64 v_1, .int .u64 v_2, .int .u64 v_3, .int .u64 v_4, .int .u64 v_5, .int .u64 v_6, .int .u64 v_7])) ⟨v_0, v_1, v_2, v_3, v_4, v_5, v_6, v_7⟩ := ⟨rfl⟩
instance {v_0 : Int} {v_1 : Int} {v_2 : Int} {v_3 : Int} {v_4 : Int} {v_5 : Int} {v_6 : Int} {v_7 : Int} : EncPut y79 0 [.int .u64 v_0, .int .u64 v_1, .int .u64 v_2, .int .u64 v_3, .int .u64 v_4, .int .u64 v_5, .int .u64 v_6, .int .u64 v_7] (fun _ => ⟨v_0, v_1, v_2, v_3, v_4, v_5, v_6, v_7⟩) := ⟨fun _ => ⟨rfl, Nat.le_of_ble_eq_true rfl⟩⟩
instance {v : Int} : EncPut y79 0 [.int .u64 v] (fun x => { x with f0 := v }) := ⟨fun _ => ⟨rfl, Nat.le_of_ble_eq_true rfl⟩⟩
instance {v : Int} : EncPut y79 1 [.int .u64 v] (fun x => { x with f1 := v }) := ⟨fun _ => ⟨rfl, Nat.le_of_ble_eq_true rfl⟩⟩
instance {v : Int} : EncPut y79 2 [.int .u64 v] (fun x => { x with f2 := v }) := ⟨fun _ => ⟨rfl, Nat.le_of_ble_eq_true rfl⟩⟩
instance {v : Int} : EncPut y79 3 [.int .u64 v] (fun x => { x with f3 := v }) := ⟨fun _ => ⟨rfl, Nat.le_of_ble_eq_true rfl⟩⟩
instance {v : Int} : EncPut y79 4 [.int .u64 v] (fun x => { x with f4 := v }) := ⟨fun _ => ⟨rfl, Nat.le_of_ble_eq_true rfl⟩⟩
instance {v : Int} : EncPut y79 5 [.int .u64 v] (fun x => { x with f5 := v }) := ⟨fun _ => ⟨rfl, Nat.le_of_ble_eq_true rfl⟩⟩
instance {v : Int} : EncPut y79 6 [.int .u64 v] (fun x => { x with f6 := v }) := ⟨fun _ => ⟨rfl, Nat.le_of_ble_eq_true rfl⟩⟩
instance {v : Int} : EncPut y79 7 [.int .u64 v] (fun x => { x with f7 := v }) := ⟨fun _ => ⟨rfl, Nat.le_of_ble_eq_true rfl⟩⟩
/-- viaduct/tedb.Advert: Link, Seq, Up, Free -/
structure T80 where
  f0 : T59
  f1 : Int
  f2 : Bool
  f3 : T79
  deriving Inhabited, DecidableEq
def y80 : Ky T80 := { sz := 15, enc := fun x => [.int .i64 x.f0.f0, .int .i64 x.f0.f1, .int .u64 x.f0.f2, .int .i64 x.f0.f3, .int .u32 x.f0.f4, .int .i64 x.f1, .bool x.f2, .int .u64 x.f3.f0, .int .u64 x.f3.f1, .int .u64 x.f3.f2, .int .u64 x.f3.f3, .int .u64 x.f3.f4, .int .u64 x.f3.f5, .int .u64 x.f3.f6, .int .u64 x.f3.f7], len := fun _ => rfl, one := fun x => (inferInstance : Ones [.int .i64 x.f0.f0, .int .i64 x.f0.f1, .int .u64 x.f0.f2, .int .i64 x.f0.f3, .int .u32 x.f0.f4, .int .i64 x.f1, .bool x.f2, .int .u64 x.f3.f0, .int .u64 x.f3.f1, .int .u64 x.f3.f2, .int .u64 x.f3.f3, .int .u64 x.f3.f4, .int .u64 x.f3.f5, .int .u64 x.f3.f6, .int .u64 x.f3.f7]).out, pos := by decide }
instance : EncAt y80 0 (fun x => .int .i64 x.f0.f0) := ⟨fun _ => rfl⟩
instance : EncAt y80 1 (fun x => .int .i64 x.f0.f1) := ⟨fun _ => rfl⟩
instance : EncAt y80 2 (fun x => .int .u64 x.f0.f2) := ⟨fun _ => rfl⟩
instance : EncAt y80 3 (fun x => .int .i64 x.f0.f3) := ⟨fun _ => rfl⟩
instance : EncAt y80 4 (fun x => .int .u32 x.f0.f4) := ⟨fun _ => rfl⟩
instance : EncAt y80 5 (fun x => .int .i64 x.f1) := ⟨fun _ => rfl⟩
instance : EncAt y80 6 (fun x => .bool x.f2) := ⟨fun _ => rfl⟩
instance : EncAt y80 7 (fun x => .int .u64 x.f3.f0) := ⟨fun _ => rfl⟩
instance : EncAt y80 8 (fun x => .int .u64 x.f3.f1) := ⟨fun _ => rfl⟩
instance : EncAt y80 9 (fun x => .int .u64 x.f3.f2) := ⟨fun _ => rfl⟩
instance : EncAt y80 10 (fun x => .int .u64 x.f3.f3) := ⟨fun _ => rfl⟩
instance : EncAt y80 11 (fun x => .int .u64 x.f3.f4) := ⟨fun _ => rfl⟩
instance : EncAt y80 12 (fun x => .int .u64 x.f3.f5) := ⟨fun _ => rfl⟩
instance : EncAt y80 13 (fun x => .int .u64 x.f3.f6) := ⟨fun _ => rfl⟩
instance : EncAt y80 14 (fun x => .int .u64 x.f3.f7) := ⟨fun _ => rfl⟩
instance : EncSeg y80 0 15 (fun x => [.int .i64 x.f0.f0, .int .i64 x.f0.f1, .int .u64 x.f0.f2, .int .i64 x.f0.f3, .int .u32 x.f0.f4, .int .i64 x.f1, .bool x.f2, .int .u64 x.f3.f0, .int .u64 x.f3.f1, .int .u64 x.f3.f2, .int .u64 x.f3.f3, .int .u64 x.f3.f4, .int .u64 x.f3.f5, .int .u64 x.f3.f6, .int .u64 x.f3.f7]) := ⟨fun _ => ⟨rfl, Nat.le_of_ble_eq_true rfl⟩⟩
instance (priority := 2000) {x : T80} : EncOf y80 (.agg (List.toArray [.int .i64 x.f0.f0, .int .i64 x.f0.f1, .int .u64 x.f0.f2, .int .i64 x.f0.f3, .int .u32 x.f0.f4, .int .i64 x.f1, .bool x.f2, .int .u64 x.f3.f0, .int .u64 x.f3.f1, .int .u64 x.f3.f2, .int .u64 x.f3.f3, .int .u64 x.f3.f4, .int .u64 x.f3.f5, .int .u64 x.f3.f6, .int .u64 x.f3.f7])) x := ⟨rfl⟩
instance (priority := 2000) {x : T80} : EncPut y80 0 [.int .i64 x.f0.f0, .int .i64 x.f0.f1, .int .u64 x.f0.f2, .int .i64 x.f0.f3, .int .u32 x.f0.f4, .int .i64 x.f1, .bool x.f2, .int .u64 x.f3.f0, .int .u64 x.f3.f1, .int .u64 x.f3.f2, .int .u64 x.f3.f3, .int .u64 x.f3.f4, .int .u64 x.f3.f5, .int .u64 x.f3.f6, .int .u64 x.f3.f7] (fun _ => x) := ⟨fun _ => ⟨rfl, Nat.le_of_ble_eq_true rfl⟩⟩
instance {v_0_0 : Int} {v_0_1 : Int} {v_0_2 : Int} {v_0_3 : Int} {v_0_4 : Int} {v_1 : Int} {v_2 : Bool} {v_3_0 : Int} {v_3_1 : Int} {v_3_2 : Int} {v_3_3 : Int} {v_3_4 : Int} {v_3_5 : Int} {v_3_6 : Int} {v_3_7 : Int} : EncOf y80 (.agg (List.toArray [.int .i64 v_0_0, .int .i64 v_0_1, .int .u64 v_0_2, .int .i64 v_0_3, .int .u32 v_0_4, .int .i64 v_1, .bool v_2, .int .u64 v_3_0, .int .u64 v_3_1, .int .u64 v_3_2, .int .u64 v_3_3, .int .u64 v_3_4, .int .u64 v_3_5, .int .u64 v_3_6, .int .u64 v_3_7])) ⟨⟨v_0_0, v_0_1, v_0_2, v_0_3, v_0_4⟩, v_1, v_2, ⟨v_3_0, v_3_1, v_3_2, v_3_3, v_3_4, v_3_5, v_3_6, v_3_7⟩⟩ := ⟨rfl⟩
instance {v_0_0 : Int} {v_0_1 : Int} {v_0_2 : Int} {v_0_3 : Int} {v_0_4 : Int} {v_1 : Int} {v_2 : Bool} {v_3_0 : Int} {v_3_1 : Int} {v_3_2 : Int} {v_3_3 : Int} {v_3_4 : Int} {v_3_5 : Int} {v_3_6 : Int} {v_3_7 : Int} : EncPut y80 0 [.int .i64 v_0_0, .int .i64 v_0_1, .int .u64 v_0_2, .int .i64 v_0_3, .int .u32 v_0_4, .int .i64 v_1, .bool v_2, .int .u64 v_3_0, .int .u64 v_3_1, .int .u64 v_3_2, .int .u64 v_3_3, .int .u64 v_3_4, .int .u64 v_3_5, .int .u64 v_3_6, .int .u64 v_3_7] (fun _ => ⟨⟨v_0_0, v_0_1, v_0_2, v_0_3, v_0_4⟩, v_1, v_2, ⟨v_3_0, v_3_1, v_3_2, v_3_3, v_3_4, v_3_5, v_3_6, v_3_7⟩⟩) := ⟨fun _ => ⟨rfl, Nat.le_of_ble_eq_true rfl⟩⟩
instance : EncSeg y80 0 5 (fun x => [.int .i64 x.f0.f0, .int .i64 x.f0.f1, .int .u64 x.f0.f2, .int .i64 x.f0.f3, .int .u32 x.f0.f4]) := ⟨fun _ => ⟨rfl, Nat.le_of_ble_eq_true rfl⟩⟩
instance (priority := 1900) {z : T59} : EncPut y80 0 [.int .i64 z.f0, .int .i64 z.f1, .int .u64 z.f2, .int .i64 z.f3, .int .u32 z.f4] (fun x => { x with f0 := z }) := ⟨fun _ => ⟨rfl, Nat.le_of_ble_eq_true rfl⟩⟩
instance {v_0 : Int} {v_1 : Int} {v_2 : Int} {v_3 : Int} {v_4 : Int} : EncPut y80 0 [.int .i64 v_0, .int .i64 v_1, .int .u64 v_2, .int .i64 v_3, .int .u32 v_4] (fun x => { x with f0 := ⟨v_0, v_1, v_2, v_3, v_4⟩ }) := ⟨fun _ => ⟨rfl, Nat.le_of_ble_eq_true rfl⟩⟩
instance {v : Int} : EncPut y80 0 [.int .i64 v] (fun x => { x with f0 := { x.f0 with f0 := v } }) := ⟨fun _ => ⟨rfl, Nat.le_of_ble_eq_true rfl⟩⟩
instance {v : Int} : EncPut y80 1 [.int .i64 v] (fun x => { x with f0 := { x.f0 with f1 := v } }) := ⟨fun _ => ⟨rfl, Nat.le_of_ble_eq_true rfl⟩⟩
instance {v : Int} : EncPut y80 2 [.int .u64 v] (fun x => { x with f0 := { x.f0 with f2 := v } }) := ⟨fun _ => ⟨rfl, Nat.le_of_ble_eq_true rfl⟩⟩
instance {v : Int} : EncPut y80 3 [.int .i64 v] (fun x => { x with f0 := { x.f0 with f3 := v } }) := ⟨fun _ => ⟨rfl, Nat.le_of_ble_eq_true rfl⟩⟩
instance {v : Int} : EncPut y80 4 [.int .u32 v] (fun x => { x with f0 := { x.f0 with f4 := v } }) := ⟨fun _ => ⟨rfl, Nat.le_of_ble_eq_true rfl⟩⟩
instance {v : Int} : EncPut y80 5 [.int .i64 v] (fun x => { x with f1 := v }) := ⟨fun _ => ⟨rfl, Nat.le_of_ble_eq_true rfl⟩⟩
instance {v : Bool} : EncPut y80 6 [.bool v] (fun x => { x with f2 := v }) := ⟨fun _ => ⟨rfl, Nat.le_of_ble_eq_true rfl⟩⟩
instance : EncSeg y80 7 8 (fun x => [.int .u64 x.f3.f0, .int .u64 x.f3.f1, .int .u64 x.f3.f2, .int .u64 x.f3.f3, .int .u64 x.f3.f4, .int .u64 x.f3.f5, .int .u64 x.f3.f6, .int .u64 x.f3.f7]) := ⟨fun _ => ⟨rfl, Nat.le_of_ble_eq_true rfl⟩⟩
instance (priority := 1900) {z : T79} : EncPut y80 7 [.int .u64 z.f0, .int .u64 z.f1, .int .u64 z.f2, .int .u64 z.f3, .int .u64 z.f4, .int .u64 z.f5, .int .u64 z.f6, .int .u64 z.f7] (fun x => { x with f3 := z }) := ⟨fun _ => ⟨rfl, Nat.le_of_ble_eq_true rfl⟩⟩
instance {v_0 : Int} {v_1 : Int} {v_2 : Int} {v_3 : Int} {v_4 : Int} {v_5 : Int} {v_6 : Int} {v_7 : Int} : EncPut y80 7 [.int .u64 v_0, .int .u64 v_1, .int .u64 v_2, .int .u64 v_3, .int .u64 v_4, .int .u64 v_5, .int .u64 v_6, .int .u64 v_7] (fun x => { x with f3 := ⟨v_0, v_1, v_2, v_3, v_4, v_5, v_6, v_7⟩ }) := ⟨fun _ => ⟨rfl, Nat.le_of_ble_eq_true rfl⟩⟩
instance {v : Int} : EncPut y80 7 [.int .u64 v] (fun x => { x with f3 := { x.f3 with f0 := v } }) := ⟨fun _ => ⟨rfl, Nat.le_of_ble_eq_true rfl⟩⟩
instance {v : Int} : EncPut y80 8 [.int .u64 v] (fun x => { x with f3 := { x.f3 with f1 := v } }) := ⟨fun _ => ⟨rfl, Nat.le_of_ble_eq_true rfl⟩⟩
instance {v : Int} : EncPut y80 9 [.int .u64 v] (fun x => { x with f3 := { x.f3 with f2 := v } }) := ⟨fun _ => ⟨rfl, Nat.le_of_ble_eq_true rfl⟩⟩
instance {v : Int} : EncPut y80 10 [.int .u64 v] (fun x => { x with f3 := { x.f3 with f3 := v } }) := ⟨fun _ => ⟨rfl, Nat.le_of_ble_eq_true rfl⟩⟩
instance {v : Int} : EncPut y80 11 [.int .u64 v] (fun x => { x with f3 := { x.f3 with f4 := v } }) := ⟨fun _ => ⟨rfl, Nat.le_of_ble_eq_true rfl⟩⟩
instance {v : Int} : EncPut y80 12 [.int .u64 v] (fun x => { x with f3 := { x.f3 with f5 := v } }) := ⟨fun _ => ⟨rfl, Nat.le_of_ble_eq_true rfl⟩⟩
instance {v : Int} : EncPut y80 13 [.int .u64 v] (fun x => { x with f3 := { x.f3 with f6 := v } }) := ⟨fun _ => ⟨rfl, Nat.le_of_ble_eq_true rfl⟩⟩
instance {v : Int} : EncPut y80 14 [.int .u64 v] (fun x => { x with f3 := { x.f3 with f7 := v } }) := ⟨fun _ => ⟨rfl, Nat.le_of_ble_eq_true rfl⟩⟩
instance : KOf Try.prog 81 y80 := ⟨by kernel_rfl⟩
instance : ElT Try.prog 92 (.agg (List.toArray [.slice none 0 0, .int .i64 0])) 2 32 := ⟨by kernel_rfl, by kernel_rfl⟩
/-- viaduct/viaductref11.Way: L, Cost -/
structure T91 where
  f0 : Sl
  f1 : Int
  deriving Inhabited
def y91 : Ky T91 := { sz := 2, enc := fun x => [.slice x.f0.a x.f0.n x.f0.c, .int .i64 x.f1], len := fun _ => rfl, one := fun x => (inferInstance : Ones [.slice x.f0.a x.f0.n x.f0.c, .int .i64 x.f1]).out, pos := by decide }
instance : EncAt y91 0 (fun x => .slice x.f0.a x.f0.n x.f0.c) := ⟨fun _ => rfl⟩
instance : EncAt y91 1 (fun x => .int .i64 x.f1) := ⟨fun _ => rfl⟩
instance : EncSeg y91 0 2 (fun x => [.slice x.f0.a x.f0.n x.f0.c, .int .i64 x.f1]) := ⟨fun _ => ⟨rfl, Nat.le_of_ble_eq_true rfl⟩⟩
instance (priority := 2000) {x : T91} : EncOf y91 (.agg (List.toArray [.slice x.f0.a x.f0.n x.f0.c, .int .i64 x.f1])) x := ⟨rfl⟩
instance (priority := 2000) {x : T91} : EncPut y91 0 [.slice x.f0.a x.f0.n x.f0.c, .int .i64 x.f1] (fun _ => x) := ⟨fun _ => ⟨rfl, Nat.le_of_ble_eq_true rfl⟩⟩
instance {v_0a : Option Addr} {v_0n v_0c : Nat} {v_1 : Int} : EncOf y91 (.agg (List.toArray [.slice v_0a v_0n v_0c, .int .i64 v_1])) ⟨⟨v_0a, v_0n, v_0c⟩, v_1⟩ := ⟨rfl⟩
instance {v_0a : Option Addr} {v_0n v_0c : Nat} {v_1 : Int} : EncPut y91 0 [.slice v_0a v_0n v_0c, .int .i64 v_1] (fun _ => ⟨⟨v_0a, v_0n, v_0c⟩, v_1⟩) := ⟨fun _ => ⟨rfl, Nat.le_of_ble_eq_true rfl⟩⟩
instance {va : Option Addr} {vn vc : Nat} : EncPut y91 0 [.slice va vn vc] (fun x => { x with f0 := ⟨va, vn, vc⟩ }) := ⟨fun _ => ⟨rfl, Nat.le_of_ble_eq_true rfl⟩⟩
instance {v : Int} : EncPut y91 1 [.int .i64 v] (fun x => { x with f1 := v }) := ⟨fun _ => ⟨rfl, Nat.le_of_ble_eq_true rfl⟩⟩
instance : KOf Try.prog 92 y91 := ⟨by kernel_rfl⟩
instance : ElT Try.prog 97 (.agg (List.toArray [.int .i64 0, .int .i64 0, .int .u64 0, .int .i64 0, .int .u32 0, .int .i64 0, .bool false, .int .u64 0, .int .u64 0, .int .u64 0, .int .u64 0, .int .u64 0, .int .u64 0, .int .u64 0, .int .u64 0])) 15 120 := ⟨by kernel_rfl, by kernel_rfl⟩
instance : KOf Try.prog 97 y80 := ⟨by kernel_rfl⟩
instance : ElT Try.prog 102 (.agg (List.toArray [.int .i64 0, .int .i64 0])) 2 16 := ⟨by kernel_rfl, by kernel_rfl⟩
/-- viaduct/graph.ends: from, to -/
structure T101 where
  f0 : Int
  f1 : Int
  deriving Inhabited, DecidableEq
def y101 : Ky T101 := { sz := 2, enc := fun x => [.int .i64 x.f0, .int .i64 x.f1], len := fun _ => rfl, one := fun x => (inferInstance : Ones [.int .i64 x.f0, .int .i64 x.f1]).out, pos := by decide }
instance : EncAt y101 0 (fun x => .int .i64 x.f0) := ⟨fun _ => rfl⟩
instance : EncAt y101 1 (fun x => .int .i64 x.f1) := ⟨fun _ => rfl⟩
instance : EncSeg y101 0 2 (fun x => [.int .i64 x.f0, .int .i64 x.f1]) := ⟨fun _ => ⟨rfl, Nat.le_of_ble_eq_true rfl⟩⟩
instance (priority := 2000) {x : T101} : EncOf y101 (.agg (List.toArray [.int .i64 x.f0, .int .i64 x.f1])) x := ⟨rfl⟩
instance (priority := 2000) {x : T101} : EncPut y101 0 [.int .i64 x.f0, .int .i64 x.f1] (fun _ => x) := ⟨fun _ => ⟨rfl, Nat.le_of_ble_eq_true rfl⟩⟩
instance {v_0 : Int} {v_1 : Int} : EncOf y101 (.agg (List.toArray [.int .i64 v_0, .int .i64 v_1])) ⟨v_0, v_1⟩ := ⟨rfl⟩
instance {v_0 : Int} {v_1 : Int} : EncPut y101 0 [.int .i64 v_0, .int .i64 v_1] (fun _ => ⟨v_0, v_1⟩) := ⟨fun _ => ⟨rfl, Nat.le_of_ble_eq_true rfl⟩⟩
instance {v : Int} : EncPut y101 0 [.int .i64 v] (fun x => { x with f0 := v }) := ⟨fun _ => ⟨rfl, Nat.le_of_ble_eq_true rfl⟩⟩
instance {v : Int} : EncPut y101 1 [.int .i64 v] (fun x => { x with f1 := v }) := ⟨fun _ => ⟨rfl, Nat.le_of_ble_eq_true rfl⟩⟩
instance : KOf Try.prog 102 y101 := ⟨by kernel_rfl⟩
instance : ElT Try.prog 124 (.agg (List.toArray [.slice none 0 0, .int .i64 0])) 2 32 := ⟨by kernel_rfl, by kernel_rfl⟩
/-- viaduct/cspf.way: l, cost -/
structure T123 where
  f0 : Sl
  f1 : Int
  deriving Inhabited
def y123 : Ky T123 := { sz := 2, enc := fun x => [.slice x.f0.a x.f0.n x.f0.c, .int .i64 x.f1], len := fun _ => rfl, one := fun x => (inferInstance : Ones [.slice x.f0.a x.f0.n x.f0.c, .int .i64 x.f1]).out, pos := by decide }
instance : EncAt y123 0 (fun x => .slice x.f0.a x.f0.n x.f0.c) := ⟨fun _ => rfl⟩
instance : EncAt y123 1 (fun x => .int .i64 x.f1) := ⟨fun _ => rfl⟩
instance : EncSeg y123 0 2 (fun x => [.slice x.f0.a x.f0.n x.f0.c, .int .i64 x.f1]) := ⟨fun _ => ⟨rfl, Nat.le_of_ble_eq_true rfl⟩⟩
instance (priority := 2000) {x : T123} : EncOf y123 (.agg (List.toArray [.slice x.f0.a x.f0.n x.f0.c, .int .i64 x.f1])) x := ⟨rfl⟩
instance (priority := 2000) {x : T123} : EncPut y123 0 [.slice x.f0.a x.f0.n x.f0.c, .int .i64 x.f1] (fun _ => x) := ⟨fun _ => ⟨rfl, Nat.le_of_ble_eq_true rfl⟩⟩
instance {v_0a : Option Addr} {v_0n v_0c : Nat} {v_1 : Int} : EncOf y123 (.agg (List.toArray [.slice v_0a v_0n v_0c, .int .i64 v_1])) ⟨⟨v_0a, v_0n, v_0c⟩, v_1⟩ := ⟨rfl⟩
instance {v_0a : Option Addr} {v_0n v_0c : Nat} {v_1 : Int} : EncPut y123 0 [.slice v_0a v_0n v_0c, .int .i64 v_1] (fun _ => ⟨⟨v_0a, v_0n, v_0c⟩, v_1⟩) := ⟨fun _ => ⟨rfl, Nat.le_of_ble_eq_true rfl⟩⟩
instance {va : Option Addr} {vn vc : Nat} : EncPut y123 0 [.slice va vn vc] (fun x => { x with f0 := ⟨va, vn, vc⟩ }) := ⟨fun _ => ⟨rfl, Nat.le_of_ble_eq_true rfl⟩⟩
instance {v : Int} : EncPut y123 1 [.int .i64 v] (fun x => { x with f1 := v }) := ⟨fun _ => ⟨rfl, Nat.le_of_ble_eq_true rfl⟩⟩
instance : KOf Try.prog 124 y123 := ⟨by kernel_rfl⟩
instance : ElT Try.prog 127 (.agg (List.toArray [.int .i64 0, .int .i64 0])) 2 16 := ⟨by kernel_rfl, by kernel_rfl⟩
/-- viaduct/cspf.place: node, hops -/
structure T126 where
  f0 : Int
  f1 : Int
  deriving Inhabited, DecidableEq
def y126 : Ky T126 := { sz := 2, enc := fun x => [.int .i64 x.f0, .int .i64 x.f1], len := fun _ => rfl, one := fun x => (inferInstance : Ones [.int .i64 x.f0, .int .i64 x.f1]).out, pos := by decide }
instance : EncAt y126 0 (fun x => .int .i64 x.f0) := ⟨fun _ => rfl⟩
instance : EncAt y126 1 (fun x => .int .i64 x.f1) := ⟨fun _ => rfl⟩
instance : EncSeg y126 0 2 (fun x => [.int .i64 x.f0, .int .i64 x.f1]) := ⟨fun _ => ⟨rfl, Nat.le_of_ble_eq_true rfl⟩⟩
instance (priority := 2000) {x : T126} : EncOf y126 (.agg (List.toArray [.int .i64 x.f0, .int .i64 x.f1])) x := ⟨rfl⟩
instance (priority := 2000) {x : T126} : EncPut y126 0 [.int .i64 x.f0, .int .i64 x.f1] (fun _ => x) := ⟨fun _ => ⟨rfl, Nat.le_of_ble_eq_true rfl⟩⟩
instance {v_0 : Int} {v_1 : Int} : EncOf y126 (.agg (List.toArray [.int .i64 v_0, .int .i64 v_1])) ⟨v_0, v_1⟩ := ⟨rfl⟩
instance {v_0 : Int} {v_1 : Int} : EncPut y126 0 [.int .i64 v_0, .int .i64 v_1] (fun _ => ⟨v_0, v_1⟩) := ⟨fun _ => ⟨rfl, Nat.le_of_ble_eq_true rfl⟩⟩
instance {v : Int} : EncPut y126 0 [.int .i64 v] (fun x => { x with f0 := v }) := ⟨fun _ => ⟨rfl, Nat.le_of_ble_eq_true rfl⟩⟩
instance {v : Int} : EncPut y126 1 [.int .i64 v] (fun x => { x with f1 := v }) := ⟨fun _ => ⟨rfl, Nat.le_of_ble_eq_true rfl⟩⟩
instance : KOf Try.prog 127 y126 := ⟨by kernel_rfl⟩
instance : ElT Try.prog 130 (.agg (List.toArray [.int .i64 0, .int .i64 0, .int .u64 0])) 3 24 := ⟨by kernel_rfl, by kernel_rfl⟩
/-- viaduct/viaductref16.Own: From, To, Bw -/
structure T129 where
  f0 : Int
  f1 : Int
  f2 : Int
  deriving Inhabited, DecidableEq
def y129 : Ky T129 := { sz := 3, enc := fun x => [.int .i64 x.f0, .int .i64 x.f1, .int .u64 x.f2], len := fun _ => rfl, one := fun x => (inferInstance : Ones [.int .i64 x.f0, .int .i64 x.f1, .int .u64 x.f2]).out, pos := by decide }
instance : EncAt y129 0 (fun x => .int .i64 x.f0) := ⟨fun _ => rfl⟩
instance : EncAt y129 1 (fun x => .int .i64 x.f1) := ⟨fun _ => rfl⟩
instance : EncAt y129 2 (fun x => .int .u64 x.f2) := ⟨fun _ => rfl⟩
instance : EncSeg y129 0 3 (fun x => [.int .i64 x.f0, .int .i64 x.f1, .int .u64 x.f2]) := ⟨fun _ => ⟨rfl, Nat.le_of_ble_eq_true rfl⟩⟩
instance (priority := 2000) {x : T129} : EncOf y129 (.agg (List.toArray [.int .i64 x.f0, .int .i64 x.f1, .int .u64 x.f2])) x := ⟨rfl⟩
instance (priority := 2000) {x : T129} : EncPut y129 0 [.int .i64 x.f0, .int .i64 x.f1, .int .u64 x.f2] (fun _ => x) := ⟨fun _ => ⟨rfl, Nat.le_of_ble_eq_true rfl⟩⟩
instance {v_0 : Int} {v_1 : Int} {v_2 : Int} : EncOf y129 (.agg (List.toArray [.int .i64 v_0, .int .i64 v_1, .int .u64 v_2])) ⟨v_0, v_1, v_2⟩ := ⟨rfl⟩
instance {v_0 : Int} {v_1 : Int} {v_2 : Int} : EncPut y129 0 [.int .i64 v_0, .int .i64 v_1, .int .u64 v_2] (fun _ => ⟨v_0, v_1, v_2⟩) := ⟨fun _ => ⟨rfl, Nat.le_of_ble_eq_true rfl⟩⟩
instance {v : Int} : EncPut y129 0 [.int .i64 v] (fun x => { x with f0 := v }) := ⟨fun _ => ⟨rfl, Nat.le_of_ble_eq_true rfl⟩⟩
instance {v : Int} : EncPut y129 1 [.int .i64 v] (fun x => { x with f1 := v }) := ⟨fun _ => ⟨rfl, Nat.le_of_ble_eq_true rfl⟩⟩
instance {v : Int} : EncPut y129 2 [.int .u64 v] (fun x => { x with f2 := v }) := ⟨fun _ => ⟨rfl, Nat.le_of_ble_eq_true rfl⟩⟩
instance : KOf Try.prog 130 y129 := ⟨by kernel_rfl⟩
instance : ElT Try.prog 131 (.agg (List.toArray [.int .i64 0, .int .i64 0, .int .u64 0])) 3 24 := ⟨by kernel_rfl, by kernel_rfl⟩
instance : KOf Try.prog 131 y129 := ⟨by kernel_rfl⟩
end Go.Proofs.Ytaeacdnefklakaa.M
