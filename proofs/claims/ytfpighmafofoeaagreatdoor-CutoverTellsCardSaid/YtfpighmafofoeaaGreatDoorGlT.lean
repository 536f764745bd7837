/- Closed facts on this seat's types and functions, printed by gltypes.py out of the translation. -/
import Derived.Test.YtfpighmafofoeaaGreatDoorGlH
import Derived.Test.YtfpighmafofoeaaGreatDoorProg
namespace Go.Proofs.YtfpighmafofoeaaGreatDoor.GL
open Go
theorem facts0_0 : und Tryz.prog 1 = .func := by kernel_rfl
theorem facts0_1 : und Tryz.prog 2 = .int .i64 := by kernel_rfl
theorem facts0_2 : tk Tryz.prog 2 = some (false, 1) := by kernel_rfl
theorem facts0_3 : sz Tryz.prog 2 = some 1 := by kernel_rfl
theorem facts0_4 : nb Tryz.prog 2 = some 8 := by kernel_rfl
theorem facts0_5 : zeroV Tryz.prog 2 = some (.int .i64 0) := by kernel_rfl
theorem facts0_6 : und Tryz.prog 3 = .int .i64 := by kernel_rfl
theorem facts0_7 : tk Tryz.prog 3 = some (false, 1) := by kernel_rfl
theorem facts0_8 : sz Tryz.prog 3 = some 1 := by kernel_rfl
theorem facts0_9 : nb Tryz.prog 3 = some 8 := by kernel_rfl
theorem facts0_10 : zeroV Tryz.prog 3 = some (.int .i64 0) := by kernel_rfl
theorem facts0_11 : und Tryz.prog 4 = .bool := by kernel_rfl
theorem facts0_12 : tk Tryz.prog 4 = some (false, 1) := by kernel_rfl
theorem facts0_13 : sz Tryz.prog 4 = some 1 := by kernel_rfl
theorem facts0_14 : nb Tryz.prog 4 = some 1 := by kernel_rfl
theorem facts0_15 : zeroV Tryz.prog 4 = some (.bool false) := by kernel_rfl
theorem facts0_16 : und Tryz.prog 5 = .int .u8 := by kernel_rfl
theorem facts0_17 : tk Tryz.prog 5 = some (false, 1) := by kernel_rfl
theorem facts0_18 : sz Tryz.prog 5 = some 1 := by kernel_rfl
theorem facts0_19 : nb Tryz.prog 5 = some 1 := by kernel_rfl
theorem facts0_20 : zeroV Tryz.prog 5 = some (.int .u8 0) := by kernel_rfl
theorem facts0_21 : und Tryz.prog 9 = .str := by kernel_rfl
theorem facts0_22 : tk Tryz.prog 9 = some (false, 1) := by kernel_rfl
theorem facts0_23 : sz Tryz.prog 9 = some 1 := by kernel_rfl
theorem facts0_24 : nb Tryz.prog 9 = some 16 := by kernel_rfl
theorem facts0_25 : zeroV Tryz.prog 9 = some (.string ByteArray.empty) := by kernel_rfl
theorem facts0_26 : und Tryz.prog 12 = .int .u64 := by kernel_rfl
theorem facts0_27 : tk Tryz.prog 12 = some (false, 1) := by kernel_rfl
theorem facts0_28 : sz Tryz.prog 12 = some 1 := by kernel_rfl
theorem facts0_29 : nb Tryz.prog 12 = some 8 := by kernel_rfl
theorem facts0_30 : zeroV Tryz.prog 12 = some (.int .u64 0) := by kernel_rfl
theorem facts0_31 : und Tryz.prog 13 = .struct := by kernel_rfl
theorem facts0_32 : tk Tryz.prog 13 = some (true, 2) := by kernel_rfl
theorem facts0_33 : sz Tryz.prog 13 = some 2 := by kernel_rfl
theorem facts0_34 : nb Tryz.prog 13 = some 24 := by kernel_rfl
theorem facts0_35 : zeroV Tryz.prog 13 = some (.agg #[.string ByteArray.empty, .int .u64 0]) := by kernel_rfl
theorem facts0_36 : fieldT Tryz.prog 13 0 = some (0, 9) := by kernel_rfl
theorem facts0_37 : fieldT Tryz.prog 13 1 = some (1, 12) := by kernel_rfl
theorem facts0_38 : buildOk Tryz.prog 13 = true := by kernel_rfl
theorem facts0_39 : und Tryz.prog 21 = .int .i32 := by kernel_rfl
theorem facts0 : und Tryz.prog 1 = .func ∧ und Tryz.prog 2 = .int .i64 ∧ tk Tryz.prog 2 = some (false, 1) ∧ sz Tryz.prog 2 = some 1 ∧ nb Tryz.prog 2 = some 8 ∧ zeroV Tryz.prog 2 = some (.int .i64 0) ∧ und Tryz.prog 3 = .int .i64 ∧ tk Tryz.prog 3 = some (false, 1) ∧ sz Tryz.prog 3 = some 1 ∧ nb Tryz.prog 3 = some 8 ∧ zeroV Tryz.prog 3 = some (.int .i64 0) ∧ und Tryz.prog 4 = .bool ∧ tk Tryz.prog 4 = some (false, 1) ∧ sz Tryz.prog 4 = some 1 ∧ nb Tryz.prog 4 = some 1 ∧ zeroV Tryz.prog 4 = some (.bool false) ∧ und Tryz.prog 5 = .int .u8 ∧ tk Tryz.prog 5 = some (false, 1) ∧ sz Tryz.prog 5 = some 1 ∧ nb Tryz.prog 5 = some 1 ∧ zeroV Tryz.prog 5 = some (.int .u8 0) ∧ und Tryz.prog 9 = .str ∧ tk Tryz.prog 9 = some (false, 1) ∧ sz Tryz.prog 9 = some 1 ∧ nb Tryz.prog 9 = some 16 ∧ zeroV Tryz.prog 9 = some (.string ByteArray.empty) ∧ und Tryz.prog 12 = .int .u64 ∧ tk Tryz.prog 12 = some (false, 1) ∧ sz Tryz.prog 12 = some 1 ∧ nb Tryz.prog 12 = some 8 ∧ zeroV Tryz.prog 12 = some (.int .u64 0) ∧ und Tryz.prog 13 = .struct ∧ tk Tryz.prog 13 = some (true, 2) ∧ sz Tryz.prog 13 = some 2 ∧ nb Tryz.prog 13 = some 24 ∧ zeroV Tryz.prog 13 = some (.agg #[.string ByteArray.empty, .int .u64 0]) ∧ fieldT Tryz.prog 13 0 = some (0, 9) ∧ fieldT Tryz.prog 13 1 = some (1, 12) ∧ buildOk Tryz.prog 13 = true ∧ und Tryz.prog 21 = .int .i32 := ⟨facts0_0, facts0_1, facts0_2, facts0_3, facts0_4, facts0_5, facts0_6, facts0_7, facts0_8, facts0_9, facts0_10, facts0_11, facts0_12, facts0_13, facts0_14, facts0_15, facts0_16, facts0_17, facts0_18, facts0_19, facts0_20, facts0_21, facts0_22, facts0_23, facts0_24, facts0_25, facts0_26, facts0_27, facts0_28, facts0_29, facts0_30, facts0_31, facts0_32, facts0_33, facts0_34, facts0_35, facts0_36, facts0_37, facts0_38, facts0_39⟩
theorem facts1_0 : tk Tryz.prog 21 = some (false, 1) := by kernel_rfl
theorem facts1_1 : sz Tryz.prog 21 = some 1 := by kernel_rfl
theorem facts1_2 : nb Tryz.prog 21 = some 4 := by kernel_rfl
theorem facts1_3 : zeroV Tryz.prog 21 = some (.int .i32 0) := by kernel_rfl
theorem facts1_4 : und Tryz.prog 22 = .slice 44 := by kernel_rfl
theorem facts1_5 : tk Tryz.prog 22 = some (false, 1) := by kernel_rfl
theorem facts1_6 : sz Tryz.prog 22 = some 1 := by kernel_rfl
theorem facts1_7 : nb Tryz.prog 22 = some 24 := by kernel_rfl
theorem facts1_8 : zeroV Tryz.prog 22 = some (.slice none 0 0) := by kernel_rfl
theorem facts1_9 : und Tryz.prog 23 = .func := by kernel_rfl
theorem facts1_10 : und Tryz.prog 24 = .slice 60 := by kernel_rfl
theorem facts1_11 : tk Tryz.prog 24 = some (false, 1) := by kernel_rfl
theorem facts1_12 : sz Tryz.prog 24 = some 1 := by kernel_rfl
theorem facts1_13 : nb Tryz.prog 24 = some 24 := by kernel_rfl
theorem facts1_14 : zeroV Tryz.prog 24 = some (.slice none 0 0) := by kernel_rfl
theorem facts1_15 : und Tryz.prog 25 = .slice 9 := by kernel_rfl
theorem facts1_16 : tk Tryz.prog 25 = some (false, 1) := by kernel_rfl
theorem facts1_17 : sz Tryz.prog 25 = some 1 := by kernel_rfl
theorem facts1_18 : nb Tryz.prog 25 = some 24 := by kernel_rfl
theorem facts1_19 : zeroV Tryz.prog 25 = some (.slice none 0 0) := by kernel_rfl
theorem facts1_20 : und Tryz.prog 26 = .slice 2 := by kernel_rfl
theorem facts1_21 : tk Tryz.prog 26 = some (false, 1) := by kernel_rfl
theorem facts1_22 : sz Tryz.prog 26 = some 1 := by kernel_rfl
theorem facts1_23 : nb Tryz.prog 26 = some 24 := by kernel_rfl
theorem facts1_24 : zeroV Tryz.prog 26 = some (.slice none 0 0) := by kernel_rfl
theorem facts1_25 : und Tryz.prog 27 = .struct := by kernel_rfl
theorem facts1_26 : tk Tryz.prog 27 = some (true, 5) := by kernel_rfl
theorem facts1_27 : sz Tryz.prog 27 = some 5 := by kernel_rfl
theorem facts1_28 : nb Tryz.prog 27 = some 88 := by kernel_rfl
theorem facts1_29 : zeroV Tryz.prog 27 = some (.agg #[.slice none 0 0, .slice none 0 0, .slice none 0 0, .int .i64 0, .int .i64 0]) := by kernel_rfl
theorem facts1_30 : fieldT Tryz.prog 27 0 = some (0, 24) := by kernel_rfl
theorem facts1_31 : fieldT Tryz.prog 27 1 = some (1, 25) := by kernel_rfl
theorem facts1_32 : fieldT Tryz.prog 27 2 = some (2, 26) := by kernel_rfl
theorem facts1_33 : fieldT Tryz.prog 27 3 = some (3, 2) := by kernel_rfl
theorem facts1_34 : fieldT Tryz.prog 27 4 = some (4, 2) := by kernel_rfl
theorem facts1_35 : buildOk Tryz.prog 27 = true := by kernel_rfl
theorem facts1_36 : und Tryz.prog 28 = .struct := by kernel_rfl
theorem facts1_37 : tk Tryz.prog 28 = some (true, 5) := by kernel_rfl
theorem facts1_38 : sz Tryz.prog 28 = some 5 := by kernel_rfl
theorem facts1_39 : nb Tryz.prog 28 = some 88 := by kernel_rfl
theorem facts1 : tk Tryz.prog 21 = some (false, 1) ∧ sz Tryz.prog 21 = some 1 ∧ nb Tryz.prog 21 = some 4 ∧ zeroV Tryz.prog 21 = some (.int .i32 0) ∧ und Tryz.prog 22 = .slice 44 ∧ tk Tryz.prog 22 = some (false, 1) ∧ sz Tryz.prog 22 = some 1 ∧ nb Tryz.prog 22 = some 24 ∧ zeroV Tryz.prog 22 = some (.slice none 0 0) ∧ und Tryz.prog 23 = .func ∧ und Tryz.prog 24 = .slice 60 ∧ tk Tryz.prog 24 = some (false, 1) ∧ sz Tryz.prog 24 = some 1 ∧ nb Tryz.prog 24 = some 24 ∧ zeroV Tryz.prog 24 = some (.slice none 0 0) ∧ und Tryz.prog 25 = .slice 9 ∧ tk Tryz.prog 25 = some (false, 1) ∧ sz Tryz.prog 25 = some 1 ∧ nb Tryz.prog 25 = some 24 ∧ zeroV Tryz.prog 25 = some (.slice none 0 0) ∧ und Tryz.prog 26 = .slice 2 ∧ tk Tryz.prog 26 = some (false, 1) ∧ sz Tryz.prog 26 = some 1 ∧ nb Tryz.prog 26 = some 24 ∧ zeroV Tryz.prog 26 = some (.slice none 0 0) ∧ und Tryz.prog 27 = .struct ∧ tk Tryz.prog 27 = some (true, 5) ∧ sz Tryz.prog 27 = some 5 ∧ nb Tryz.prog 27 = some 88 ∧ zeroV Tryz.prog 27 = some (.agg #[.slice none 0 0, .slice none 0 0, .slice none 0 0, .int .i64 0, .int .i64 0]) ∧ fieldT Tryz.prog 27 0 = some (0, 24) ∧ fieldT Tryz.prog 27 1 = some (1, 25) ∧ fieldT Tryz.prog 27 2 = some (2, 26) ∧ fieldT Tryz.prog 27 3 = some (3, 2) ∧ fieldT Tryz.prog 27 4 = some (4, 2) ∧ buildOk Tryz.prog 27 = true ∧ und Tryz.prog 28 = .struct ∧ tk Tryz.prog 28 = some (true, 5) ∧ sz Tryz.prog 28 = some 5 ∧ nb Tryz.prog 28 = some 88 := ⟨facts1_0, facts1_1, facts1_2, facts1_3, facts1_4, facts1_5, facts1_6, facts1_7, facts1_8, facts1_9, facts1_10, facts1_11, facts1_12, facts1_13, facts1_14, facts1_15, facts1_16, facts1_17, facts1_18, facts1_19, facts1_20, facts1_21, facts1_22, facts1_23, facts1_24, facts1_25, facts1_26, facts1_27, facts1_28, facts1_29, facts1_30, facts1_31, facts1_32, facts1_33, facts1_34, facts1_35, facts1_36, facts1_37, facts1_38, facts1_39⟩
theorem facts2_0 : zeroV Tryz.prog 28 = some (.agg #[.slice none 0 0, .slice none 0 0, .slice none 0 0, .int .i64 0, .int .i64 0]) := by kernel_rfl
theorem facts2_1 : fieldT Tryz.prog 28 0 = some (0, 24) := by kernel_rfl
theorem facts2_2 : fieldT Tryz.prog 28 1 = some (1, 25) := by kernel_rfl
theorem facts2_3 : fieldT Tryz.prog 28 2 = some (2, 26) := by kernel_rfl
theorem facts2_4 : fieldT Tryz.prog 28 3 = some (3, 2) := by kernel_rfl
theorem facts2_5 : fieldT Tryz.prog 28 4 = some (4, 2) := by kernel_rfl
theorem facts2_6 : buildOk Tryz.prog 28 = true := by kernel_rfl
theorem facts2_7 : und Tryz.prog 29 = .func := by kernel_rfl
theorem facts2_8 : und Tryz.prog 30 = .ptr 74 := by kernel_rfl
theorem facts2_9 : tk Tryz.prog 30 = some (false, 1) := by kernel_rfl
theorem facts2_10 : sz Tryz.prog 30 = some 1 := by kernel_rfl
theorem facts2_11 : nb Tryz.prog 30 = some 8 := by kernel_rfl
theorem facts2_12 : zeroV Tryz.prog 30 = some (.pointer none) := by kernel_rfl
theorem facts2_13 : und Tryz.prog 31 = .func := by kernel_rfl
theorem facts2_14 : und Tryz.prog 32 = .ptr 56 := by kernel_rfl
theorem facts2_15 : tk Tryz.prog 32 = some (false, 1) := by kernel_rfl
theorem facts2_16 : sz Tryz.prog 32 = some 1 := by kernel_rfl
theorem facts2_17 : nb Tryz.prog 32 = some 8 := by kernel_rfl
theorem facts2_18 : zeroV Tryz.prog 32 = some (.pointer none) := by kernel_rfl
theorem facts2_19 : und Tryz.prog 33 = .func := by kernel_rfl
theorem facts2_20 : und Tryz.prog 34 = .int .u16 := by kernel_rfl
theorem facts2_21 : tk Tryz.prog 34 = some (false, 1) := by kernel_rfl
theorem facts2_22 : sz Tryz.prog 34 = some 1 := by kernel_rfl
theorem facts2_23 : nb Tryz.prog 34 = some 2 := by kernel_rfl
theorem facts2_24 : zeroV Tryz.prog 34 = some (.int .u16 0) := by kernel_rfl
theorem facts2_25 : und Tryz.prog 35 = .int .u32 := by kernel_rfl
theorem facts2_26 : tk Tryz.prog 35 = some (false, 1) := by kernel_rfl
theorem facts2_27 : sz Tryz.prog 35 = some 1 := by kernel_rfl
theorem facts2_28 : nb Tryz.prog 35 = some 4 := by kernel_rfl
theorem facts2_29 : zeroV Tryz.prog 35 = some (.int .u32 0) := by kernel_rfl
theorem facts2_30 : und Tryz.prog 36 = .struct := by kernel_rfl
theorem facts2_31 : tk Tryz.prog 36 = some (true, 2) := by kernel_rfl
theorem facts2_32 : sz Tryz.prog 36 = some 2 := by kernel_rfl
theorem facts2_33 : nb Tryz.prog 36 = some 8 := by kernel_rfl
theorem facts2_34 : zeroV Tryz.prog 36 = some (.agg #[.int .u16 0, .int .u32 0]) := by kernel_rfl
theorem facts2_35 : fieldT Tryz.prog 36 0 = some (0, 34) := by kernel_rfl
theorem facts2_36 : fieldT Tryz.prog 36 1 = some (1, 35) := by kernel_rfl
theorem facts2_37 : buildOk Tryz.prog 36 = true := by kernel_rfl
theorem facts2_38 : kinds Tryz.prog 36 = some [.int, .int] := by kernel_rfl
theorem facts2_39 : und Tryz.prog 37 = .struct := by kernel_rfl
theorem facts2 : zeroV Tryz.prog 28 = some (.agg #[.slice none 0 0, .slice none 0 0, .slice none 0 0, .int .i64 0, .int .i64 0]) ∧ fieldT Tryz.prog 28 0 = some (0, 24) ∧ fieldT Tryz.prog 28 1 = some (1, 25) ∧ fieldT Tryz.prog 28 2 = some (2, 26) ∧ fieldT Tryz.prog 28 3 = some (3, 2) ∧ fieldT Tryz.prog 28 4 = some (4, 2) ∧ buildOk Tryz.prog 28 = true ∧ und Tryz.prog 29 = .func ∧ und Tryz.prog 30 = .ptr 74 ∧ tk Tryz.prog 30 = some (false, 1) ∧ sz Tryz.prog 30 = some 1 ∧ nb Tryz.prog 30 = some 8 ∧ zeroV Tryz.prog 30 = some (.pointer none) ∧ und Tryz.prog 31 = .func ∧ und Tryz.prog 32 = .ptr 56 ∧ tk Tryz.prog 32 = some (false, 1) ∧ sz Tryz.prog 32 = some 1 ∧ nb Tryz.prog 32 = some 8 ∧ zeroV Tryz.prog 32 = some (.pointer none) ∧ und Tryz.prog 33 = .func ∧ und Tryz.prog 34 = .int .u16 ∧ tk Tryz.prog 34 = some (false, 1) ∧ sz Tryz.prog 34 = some 1 ∧ nb Tryz.prog 34 = some 2 ∧ zeroV Tryz.prog 34 = some (.int .u16 0) ∧ und Tryz.prog 35 = .int .u32 ∧ tk Tryz.prog 35 = some (false, 1) ∧ sz Tryz.prog 35 = some 1 ∧ nb Tryz.prog 35 = some 4 ∧ zeroV Tryz.prog 35 = some (.int .u32 0) ∧ und Tryz.prog 36 = .struct ∧ tk Tryz.prog 36 = some (true, 2) ∧ sz Tryz.prog 36 = some 2 ∧ nb Tryz.prog 36 = some 8 ∧ zeroV Tryz.prog 36 = some (.agg #[.int .u16 0, .int .u32 0]) ∧ fieldT Tryz.prog 36 0 = some (0, 34) ∧ fieldT Tryz.prog 36 1 = some (1, 35) ∧ buildOk Tryz.prog 36 = true ∧ kinds Tryz.prog 36 = some [.int, .int] ∧ und Tryz.prog 37 = .struct := ⟨facts2_0, facts2_1, facts2_2, facts2_3, facts2_4, facts2_5, facts2_6, facts2_7, facts2_8, facts2_9, facts2_10, facts2_11, facts2_12, facts2_13, facts2_14, facts2_15, facts2_16, facts2_17, facts2_18, facts2_19, facts2_20, facts2_21, facts2_22, facts2_23, facts2_24, facts2_25, facts2_26, facts2_27, facts2_28, facts2_29, facts2_30, facts2_31, facts2_32, facts2_33, facts2_34, facts2_35, facts2_36, facts2_37, facts2_38, facts2_39⟩
theorem facts3_0 : tk Tryz.prog 37 = some (true, 2) := by kernel_rfl
theorem facts3_1 : sz Tryz.prog 37 = some 2 := by kernel_rfl
theorem facts3_2 : nb Tryz.prog 37 = some 8 := by kernel_rfl
theorem facts3_3 : zeroV Tryz.prog 37 = some (.agg #[.int .u16 0, .int .u32 0]) := by kernel_rfl
theorem facts3_4 : fieldT Tryz.prog 37 0 = some (0, 34) := by kernel_rfl
theorem facts3_5 : fieldT Tryz.prog 37 1 = some (1, 35) := by kernel_rfl
theorem facts3_6 : buildOk Tryz.prog 37 = true := by kernel_rfl
theorem facts3_7 : kinds Tryz.prog 37 = some [.int, .int] := by kernel_rfl
theorem facts3_8 : und Tryz.prog 38 = .arr 4 3 := by kernel_rfl
theorem facts3_9 : tk Tryz.prog 38 = some (true, 4) := by kernel_rfl
theorem facts3_10 : sz Tryz.prog 38 = some 4 := by kernel_rfl
theorem facts3_11 : nb Tryz.prog 38 = some 32 := by kernel_rfl
theorem facts3_12 : zeroV Tryz.prog 38 = some (.agg #[.int .i64 0, .int .i64 0, .int .i64 0, .int .i64 0]) := by kernel_rfl
theorem facts3_13 : buildOk Tryz.prog 38 = true := by kernel_rfl
theorem facts3_14 : kinds Tryz.prog 38 = some [.int, .int, .int, .int] := by kernel_rfl
theorem facts3_15 : und Tryz.prog 39 = .arr 4 3 := by kernel_rfl
theorem facts3_16 : tk Tryz.prog 39 = some (true, 4) := by kernel_rfl
theorem facts3_17 : sz Tryz.prog 39 = some 4 := by kernel_rfl
theorem facts3_18 : nb Tryz.prog 39 = some 32 := by kernel_rfl
theorem facts3_19 : zeroV Tryz.prog 39 = some (.agg #[.int .i64 0, .int .i64 0, .int .i64 0, .int .i64 0]) := by kernel_rfl
theorem facts3_20 : buildOk Tryz.prog 39 = true := by kernel_rfl
theorem facts3_21 : kinds Tryz.prog 39 = some [.int, .int, .int, .int] := by kernel_rfl
theorem facts3_22 : und Tryz.prog 40 = .struct := by kernel_rfl
theorem facts3_23 : tk Tryz.prog 40 = some (true, 17) := by kernel_rfl
theorem facts3_24 : sz Tryz.prog 40 = some 17 := by kernel_rfl
theorem facts3_25 : nb Tryz.prog 40 = some 136 := by kernel_rfl
theorem facts3_26 : zeroV Tryz.prog 40 = some (.agg (([.int .i64 0, .int .u16 0, .int .u32 0, .string ByteArray.empty] : List Value) ++ rep 13 (.int .i64 0)).toArray) := by kernel_rfl
theorem facts3_27 : fieldT Tryz.prog 40 0 = some (0, 3) := by kernel_rfl
theorem facts3_28 : fieldT Tryz.prog 40 1 = some (1, 37) := by kernel_rfl
theorem facts3_29 : fieldT Tryz.prog 40 2 = some (3, 9) := by kernel_rfl
theorem facts3_30 : fieldT Tryz.prog 40 3 = some (4, 2) := by kernel_rfl
theorem facts3_31 : fieldT Tryz.prog 40 4 = some (5, 39) := by kernel_rfl
theorem facts3_32 : fieldT Tryz.prog 40 5 = some (9, 39) := by kernel_rfl
theorem facts3_33 : fieldT Tryz.prog 40 6 = some (13, 39) := by kernel_rfl
theorem facts3_34 : buildOk Tryz.prog 40 = true := by kernel_rfl
theorem facts3_35 : kinds Tryz.prog 40 = some [.int, .int, .int, .str, .int, .int, .int, .int, .int, .int, .int, .int, .int, .int, .int, .int, .int] := by kernel_rfl
theorem facts3_36 : und Tryz.prog 41 = .struct := by kernel_rfl
theorem facts3_37 : tk Tryz.prog 41 = some (true, 17) := by kernel_rfl
theorem facts3_38 : sz Tryz.prog 41 = some 17 := by kernel_rfl
theorem facts3_39 : nb Tryz.prog 41 = some 136 := by kernel_rfl
theorem facts3 : tk Tryz.prog 37 = some (true, 2) ∧ sz Tryz.prog 37 = some 2 ∧ nb Tryz.prog 37 = some 8 ∧ zeroV Tryz.prog 37 = some (.agg #[.int .u16 0, .int .u32 0]) ∧ fieldT Tryz.prog 37 0 = some (0, 34) ∧ fieldT Tryz.prog 37 1 = some (1, 35) ∧ buildOk Tryz.prog 37 = true ∧ kinds Tryz.prog 37 = some [.int, .int] ∧ und Tryz.prog 38 = .arr 4 3 ∧ tk Tryz.prog 38 = some (true, 4) ∧ sz Tryz.prog 38 = some 4 ∧ nb Tryz.prog 38 = some 32 ∧ zeroV Tryz.prog 38 = some (.agg #[.int .i64 0, .int .i64 0, .int .i64 0, .int .i64 0]) ∧ buildOk Tryz.prog 38 = true ∧ kinds Tryz.prog 38 = some [.int, .int, .int, .int] ∧ und Tryz.prog 39 = .arr 4 3 ∧ tk Tryz.prog 39 = some (true, 4) ∧ sz Tryz.prog 39 = some 4 ∧ nb Tryz.prog 39 = some 32 ∧ zeroV Tryz.prog 39 = some (.agg #[.int .i64 0, .int .i64 0, .int .i64 0, .int .i64 0]) ∧ buildOk Tryz.prog 39 = true ∧ kinds Tryz.prog 39 = some [.int, .int, .int, .int] ∧ und Tryz.prog 40 = .struct ∧ tk Tryz.prog 40 = some (true, 17) ∧ sz Tryz.prog 40 = some 17 ∧ nb Tryz.prog 40 = some 136 ∧ zeroV Tryz.prog 40 = some (.agg (([.int .i64 0, .int .u16 0, .int .u32 0, .string ByteArray.empty] : List Value) ++ rep 13 (.int .i64 0)).toArray) ∧ fieldT Tryz.prog 40 0 = some (0, 3) ∧ fieldT Tryz.prog 40 1 = some (1, 37) ∧ fieldT Tryz.prog 40 2 = some (3, 9) ∧ fieldT Tryz.prog 40 3 = some (4, 2) ∧ fieldT Tryz.prog 40 4 = some (5, 39) ∧ fieldT Tryz.prog 40 5 = some (9, 39) ∧ fieldT Tryz.prog 40 6 = some (13, 39) ∧ buildOk Tryz.prog 40 = true ∧ kinds Tryz.prog 40 = some [.int, .int, .int, .str, .int, .int, .int, .int, .int, .int, .int, .int, .int, .int, .int, .int, .int] ∧ und Tryz.prog 41 = .struct ∧ tk Tryz.prog 41 = some (true, 17) ∧ sz Tryz.prog 41 = some 17 ∧ nb Tryz.prog 41 = some 136 := ⟨facts3_0, facts3_1, facts3_2, facts3_3, facts3_4, facts3_5, facts3_6, facts3_7, facts3_8, facts3_9, facts3_10, facts3_11, facts3_12, facts3_13, facts3_14, facts3_15, facts3_16, facts3_17, facts3_18, facts3_19, facts3_20, facts3_21, facts3_22, facts3_23, facts3_24, facts3_25, facts3_26, facts3_27, facts3_28, facts3_29, facts3_30, facts3_31, facts3_32, facts3_33, facts3_34, facts3_35, facts3_36, facts3_37, facts3_38, facts3_39⟩
theorem facts4_0 : zeroV Tryz.prog 41 = some (.agg (([.int .i64 0, .int .u16 0, .int .u32 0, .string ByteArray.empty] : List Value) ++ rep 13 (.int .i64 0)).toArray) := by kernel_rfl
theorem facts4_1 : fieldT Tryz.prog 41 0 = some (0, 3) := by kernel_rfl
theorem facts4_2 : fieldT Tryz.prog 41 1 = some (1, 37) := by kernel_rfl
theorem facts4_3 : fieldT Tryz.prog 41 2 = some (3, 9) := by kernel_rfl
theorem facts4_4 : fieldT Tryz.prog 41 3 = some (4, 2) := by kernel_rfl
theorem facts4_5 : fieldT Tryz.prog 41 4 = some (5, 39) := by kernel_rfl
theorem facts4_6 : fieldT Tryz.prog 41 5 = some (9, 39) := by kernel_rfl
theorem facts4_7 : fieldT Tryz.prog 41 6 = some (13, 39) := by kernel_rfl
theorem facts4_8 : buildOk Tryz.prog 41 = true := by kernel_rfl
theorem facts4_9 : kinds Tryz.prog 41 = some [.int, .int, .int, .str, .int, .int, .int, .int, .int, .int, .int, .int, .int, .int, .int, .int, .int] := by kernel_rfl
theorem facts4_10 : und Tryz.prog 42 = .func := by kernel_rfl
theorem facts4_11 : und Tryz.prog 43 = .struct := by kernel_rfl
theorem facts4_12 : tk Tryz.prog 43 = some (true, 4) := by kernel_rfl
theorem facts4_13 : sz Tryz.prog 43 = some 4 := by kernel_rfl
theorem facts4_14 : nb Tryz.prog 43 = some 6 := by kernel_rfl
theorem facts4_15 : zeroV Tryz.prog 43 = some (.agg #[.int .u8 0, .int .u8 0, .int .u8 0, .int .u16 0]) := by kernel_rfl
theorem facts4_16 : fieldT Tryz.prog 43 0 = some (0, 5) := by kernel_rfl
theorem facts4_17 : fieldT Tryz.prog 43 1 = some (1, 5) := by kernel_rfl
theorem facts4_18 : fieldT Tryz.prog 43 2 = some (2, 5) := by kernel_rfl
theorem facts4_19 : fieldT Tryz.prog 43 3 = some (3, 34) := by kernel_rfl
theorem facts4_20 : buildOk Tryz.prog 43 = true := by kernel_rfl
theorem facts4_21 : kinds Tryz.prog 43 = some [.int, .int, .int, .int] := by kernel_rfl
theorem facts4_22 : und Tryz.prog 44 = .struct := by kernel_rfl
theorem facts4_23 : tk Tryz.prog 44 = some (true, 4) := by kernel_rfl
theorem facts4_24 : sz Tryz.prog 44 = some 4 := by kernel_rfl
theorem facts4_25 : nb Tryz.prog 44 = some 6 := by kernel_rfl
theorem facts4_26 : zeroV Tryz.prog 44 = some (.agg #[.int .u8 0, .int .u8 0, .int .u8 0, .int .u16 0]) := by kernel_rfl
theorem facts4_27 : fieldT Tryz.prog 44 0 = some (0, 5) := by kernel_rfl
theorem facts4_28 : fieldT Tryz.prog 44 1 = some (1, 5) := by kernel_rfl
theorem facts4_29 : fieldT Tryz.prog 44 2 = some (2, 5) := by kernel_rfl
theorem facts4_30 : fieldT Tryz.prog 44 3 = some (3, 34) := by kernel_rfl
theorem facts4_31 : buildOk Tryz.prog 44 = true := by kernel_rfl
theorem facts4_32 : kinds Tryz.prog 44 = some [.int, .int, .int, .int] := by kernel_rfl
theorem facts4_33 : und Tryz.prog 45 = .int .i64 := by kernel_rfl
theorem facts4_34 : tk Tryz.prog 45 = some (false, 1) := by kernel_rfl
theorem facts4_35 : sz Tryz.prog 45 = some 1 := by kernel_rfl
theorem facts4_36 : nb Tryz.prog 45 = some 8 := by kernel_rfl
theorem facts4_37 : zeroV Tryz.prog 45 = some (.int .i64 0) := by kernel_rfl
theorem facts4_38 : und Tryz.prog 46 = .func := by kernel_rfl
theorem facts4_39 : und Tryz.prog 47 = .func := by kernel_rfl
theorem facts4 : zeroV Tryz.prog 41 = some (.agg (([.int .i64 0, .int .u16 0, .int .u32 0, .string ByteArray.empty] : List Value) ++ rep 13 (.int .i64 0)).toArray) ∧ fieldT Tryz.prog 41 0 = some (0, 3) ∧ fieldT Tryz.prog 41 1 = some (1, 37) ∧ fieldT Tryz.prog 41 2 = some (3, 9) ∧ fieldT Tryz.prog 41 3 = some (4, 2) ∧ fieldT Tryz.prog 41 4 = some (5, 39) ∧ fieldT Tryz.prog 41 5 = some (9, 39) ∧ fieldT Tryz.prog 41 6 = some (13, 39) ∧ buildOk Tryz.prog 41 = true ∧ kinds Tryz.prog 41 = some [.int, .int, .int, .str, .int, .int, .int, .int, .int, .int, .int, .int, .int, .int, .int, .int, .int] ∧ und Tryz.prog 42 = .func ∧ und Tryz.prog 43 = .struct ∧ tk Tryz.prog 43 = some (true, 4) ∧ sz Tryz.prog 43 = some 4 ∧ nb Tryz.prog 43 = some 6 ∧ zeroV Tryz.prog 43 = some (.agg #[.int .u8 0, .int .u8 0, .int .u8 0, .int .u16 0]) ∧ fieldT Tryz.prog 43 0 = some (0, 5) ∧ fieldT Tryz.prog 43 1 = some (1, 5) ∧ fieldT Tryz.prog 43 2 = some (2, 5) ∧ fieldT Tryz.prog 43 3 = some (3, 34) ∧ buildOk Tryz.prog 43 = true ∧ kinds Tryz.prog 43 = some [.int, .int, .int, .int] ∧ und Tryz.prog 44 = .struct ∧ tk Tryz.prog 44 = some (true, 4) ∧ sz Tryz.prog 44 = some 4 ∧ nb Tryz.prog 44 = some 6 ∧ zeroV Tryz.prog 44 = some (.agg #[.int .u8 0, .int .u8 0, .int .u8 0, .int .u16 0]) ∧ fieldT Tryz.prog 44 0 = some (0, 5) ∧ fieldT Tryz.prog 44 1 = some (1, 5) ∧ fieldT Tryz.prog 44 2 = some (2, 5) ∧ fieldT Tryz.prog 44 3 = some (3, 34) ∧ buildOk Tryz.prog 44 = true ∧ kinds Tryz.prog 44 = some [.int, .int, .int, .int] ∧ und Tryz.prog 45 = .int .i64 ∧ tk Tryz.prog 45 = some (false, 1) ∧ sz Tryz.prog 45 = some 1 ∧ nb Tryz.prog 45 = some 8 ∧ zeroV Tryz.prog 45 = some (.int .i64 0) ∧ und Tryz.prog 46 = .func ∧ und Tryz.prog 47 = .func := ⟨facts4_0, facts4_1, facts4_2, facts4_3, facts4_4, facts4_5, facts4_6, facts4_7, facts4_8, facts4_9, facts4_10, facts4_11, facts4_12, facts4_13, facts4_14, facts4_15, facts4_16, facts4_17, facts4_18, facts4_19, facts4_20, facts4_21, facts4_22, facts4_23, facts4_24, facts4_25, facts4_26, facts4_27, facts4_28, facts4_29, facts4_30, facts4_31, facts4_32, facts4_33, facts4_34, facts4_35, facts4_36, facts4_37, facts4_38, facts4_39⟩
theorem facts5_0 : und Tryz.prog 49 = .func := by kernel_rfl
theorem facts5_1 : und Tryz.prog 50 = .func := by kernel_rfl
theorem facts5_2 : und Tryz.prog 51 = .func := by kernel_rfl
theorem facts5_3 : und Tryz.prog 52 = .slice 67 := by kernel_rfl
theorem facts5_4 : tk Tryz.prog 52 = some (false, 1) := by kernel_rfl
theorem facts5_5 : sz Tryz.prog 52 = some 1 := by kernel_rfl
theorem facts5_6 : nb Tryz.prog 52 = some 24 := by kernel_rfl
theorem facts5_7 : zeroV Tryz.prog 52 = some (.slice none 0 0) := by kernel_rfl
theorem facts5_8 : und Tryz.prog 53 = .func := by kernel_rfl
theorem facts5_9 : und Tryz.prog 54 = .slice 86 := by kernel_rfl
theorem facts5_10 : tk Tryz.prog 54 = some (false, 1) := by kernel_rfl
theorem facts5_11 : sz Tryz.prog 54 = some 1 := by kernel_rfl
theorem facts5_12 : nb Tryz.prog 54 = some 24 := by kernel_rfl
theorem facts5_13 : zeroV Tryz.prog 54 = some (.slice none 0 0) := by kernel_rfl
theorem facts5_14 : und Tryz.prog 55 = .struct := by kernel_rfl
theorem facts5_15 : tk Tryz.prog 55 = some (true, 2) := by kernel_rfl
theorem facts5_16 : sz Tryz.prog 55 = some 2 := by kernel_rfl
theorem facts5_17 : nb Tryz.prog 55 = some 48 := by kernel_rfl
theorem facts5_18 : zeroV Tryz.prog 55 = some (.agg #[.slice none 0 0, .slice none 0 0]) := by kernel_rfl
theorem facts5_19 : fieldT Tryz.prog 55 0 = some (0, 54) := by kernel_rfl
theorem facts5_20 : fieldT Tryz.prog 55 1 = some (1, 52) := by kernel_rfl
theorem facts5_21 : buildOk Tryz.prog 55 = true := by kernel_rfl
theorem facts5_22 : und Tryz.prog 56 = .struct := by kernel_rfl
theorem facts5_23 : tk Tryz.prog 56 = some (true, 2) := by kernel_rfl
theorem facts5_24 : sz Tryz.prog 56 = some 2 := by kernel_rfl
theorem facts5_25 : nb Tryz.prog 56 = some 48 := by kernel_rfl
theorem facts5_26 : zeroV Tryz.prog 56 = some (.agg #[.slice none 0 0, .slice none 0 0]) := by kernel_rfl
theorem facts5_27 : fieldT Tryz.prog 56 0 = some (0, 54) := by kernel_rfl
theorem facts5_28 : fieldT Tryz.prog 56 1 = some (1, 52) := by kernel_rfl
theorem facts5_29 : buildOk Tryz.prog 56 = true := by kernel_rfl
theorem facts5_30 : und Tryz.prog 57 = .func := by kernel_rfl
theorem facts5_31 : und Tryz.prog 58 = .struct := by kernel_rfl
theorem facts5_32 : tk Tryz.prog 58 = some (true, 4) := by kernel_rfl
theorem facts5_33 : sz Tryz.prog 58 = some 4 := by kernel_rfl
theorem facts5_34 : nb Tryz.prog 58 = some 32 := by kernel_rfl
theorem facts5_35 : zeroV Tryz.prog 58 = some (.agg #[.int .i64 0, .int .i64 0, .int .i64 0, .int .i64 0]) := by kernel_rfl
theorem facts5_36 : fieldT Tryz.prog 58 0 = some (0, 2) := by kernel_rfl
theorem facts5_37 : fieldT Tryz.prog 58 1 = some (1, 3) := by kernel_rfl
theorem facts5_38 : fieldT Tryz.prog 58 2 = some (2, 3) := by kernel_rfl
theorem facts5_39 : fieldT Tryz.prog 58 3 = some (3, 3) := by kernel_rfl
theorem facts5 : und Tryz.prog 49 = .func ∧ und Tryz.prog 50 = .func ∧ und Tryz.prog 51 = .func ∧ und Tryz.prog 52 = .slice 67 ∧ tk Tryz.prog 52 = some (false, 1) ∧ sz Tryz.prog 52 = some 1 ∧ nb Tryz.prog 52 = some 24 ∧ zeroV Tryz.prog 52 = some (.slice none 0 0) ∧ und Tryz.prog 53 = .func ∧ und Tryz.prog 54 = .slice 86 ∧ tk Tryz.prog 54 = some (false, 1) ∧ sz Tryz.prog 54 = some 1 ∧ nb Tryz.prog 54 = some 24 ∧ zeroV Tryz.prog 54 = some (.slice none 0 0) ∧ und Tryz.prog 55 = .struct ∧ tk Tryz.prog 55 = some (true, 2) ∧ sz Tryz.prog 55 = some 2 ∧ nb Tryz.prog 55 = some 48 ∧ zeroV Tryz.prog 55 = some (.agg #[.slice none 0 0, .slice none 0 0]) ∧ fieldT Tryz.prog 55 0 = some (0, 54) ∧ fieldT Tryz.prog 55 1 = some (1, 52) ∧ buildOk Tryz.prog 55 = true ∧ und Tryz.prog 56 = .struct ∧ tk Tryz.prog 56 = some (true, 2) ∧ sz Tryz.prog 56 = some 2 ∧ nb Tryz.prog 56 = some 48 ∧ zeroV Tryz.prog 56 = some (.agg #[.slice none 0 0, .slice none 0 0]) ∧ fieldT Tryz.prog 56 0 = some (0, 54) ∧ fieldT Tryz.prog 56 1 = some (1, 52) ∧ buildOk Tryz.prog 56 = true ∧ und Tryz.prog 57 = .func ∧ und Tryz.prog 58 = .struct ∧ tk Tryz.prog 58 = some (true, 4) ∧ sz Tryz.prog 58 = some 4 ∧ nb Tryz.prog 58 = some 32 ∧ zeroV Tryz.prog 58 = some (.agg #[.int .i64 0, .int .i64 0, .int .i64 0, .int .i64 0]) ∧ fieldT Tryz.prog 58 0 = some (0, 2) ∧ fieldT Tryz.prog 58 1 = some (1, 3) ∧ fieldT Tryz.prog 58 2 = some (2, 3) ∧ fieldT Tryz.prog 58 3 = some (3, 3) := ⟨facts5_0, facts5_1, facts5_2, facts5_3, facts5_4, facts5_5, facts5_6, facts5_7, facts5_8, facts5_9, facts5_10, facts5_11, facts5_12, facts5_13, facts5_14, facts5_15, facts5_16, facts5_17, facts5_18, facts5_19, facts5_20, facts5_21, facts5_22, facts5_23, facts5_24, facts5_25, facts5_26, facts5_27, facts5_28, facts5_29, facts5_30, facts5_31, facts5_32, facts5_33, facts5_34, facts5_35, facts5_36, facts5_37, facts5_38, facts5_39⟩
theorem facts6_0 : buildOk Tryz.prog 58 = true := by kernel_rfl
theorem facts6_1 : kinds Tryz.prog 58 = some [.int, .int, .int, .int] := by kernel_rfl
theorem facts6_2 : und Tryz.prog 59 = .struct := by kernel_rfl
theorem facts6_3 : tk Tryz.prog 59 = some (true, 4) := by kernel_rfl
theorem facts6_4 : sz Tryz.prog 59 = some 4 := by kernel_rfl
theorem facts6_5 : nb Tryz.prog 59 = some 32 := by kernel_rfl
theorem facts6_6 : zeroV Tryz.prog 59 = some (.agg #[.int .i64 0, .int .i64 0, .int .i64 0, .int .i64 0]) := by kernel_rfl
theorem facts6_7 : fieldT Tryz.prog 59 0 = some (0, 2) := by kernel_rfl
theorem facts6_8 : fieldT Tryz.prog 59 1 = some (1, 3) := by kernel_rfl
theorem facts6_9 : fieldT Tryz.prog 59 2 = some (2, 3) := by kernel_rfl
theorem facts6_10 : fieldT Tryz.prog 59 3 = some (3, 3) := by kernel_rfl
theorem facts6_11 : buildOk Tryz.prog 59 = true := by kernel_rfl
theorem facts6_12 : kinds Tryz.prog 59 = some [.int, .int, .int, .int] := by kernel_rfl
theorem facts6_13 : und Tryz.prog 60 = .arr 4 59 := by kernel_rfl
theorem facts6_14 : tk Tryz.prog 60 = some (true, 16) := by kernel_rfl
theorem facts6_15 : sz Tryz.prog 60 = some 16 := by kernel_rfl
theorem facts6_16 : nb Tryz.prog 60 = some 128 := by kernel_rfl
theorem facts6_17 : zeroV Tryz.prog 60 = some (.agg (rep 16 (.int .i64 0)).toArray) := by kernel_rfl
theorem facts6_18 : buildOk Tryz.prog 60 = true := by kernel_rfl
theorem facts6_19 : kinds Tryz.prog 60 = some [.int, .int, .int, .int, .int, .int, .int, .int, .int, .int, .int, .int, .int, .int, .int, .int] := by kernel_rfl
theorem facts6_20 : und Tryz.prog 61 = .func := by kernel_rfl
theorem facts6_21 : und Tryz.prog 62 = .slice 69 := by kernel_rfl
theorem facts6_22 : tk Tryz.prog 62 = some (false, 1) := by kernel_rfl
theorem facts6_23 : sz Tryz.prog 62 = some 1 := by kernel_rfl
theorem facts6_24 : nb Tryz.prog 62 = some 24 := by kernel_rfl
theorem facts6_25 : zeroV Tryz.prog 62 = some (.slice none 0 0) := by kernel_rfl
theorem facts6_26 : und Tryz.prog 63 = .func := by kernel_rfl
theorem facts6_27 : und Tryz.prog 65 = .func := by kernel_rfl
theorem facts6_28 : und Tryz.prog 66 = .struct := by kernel_rfl
theorem facts6_29 : tk Tryz.prog 66 = some (true, 11) := by kernel_rfl
theorem facts6_30 : sz Tryz.prog 66 = some 11 := by kernel_rfl
theorem facts6_31 : nb Tryz.prog 66 = some 88 := by kernel_rfl
theorem facts6_32 : zeroV Tryz.prog 66 = some (.agg #[.int .u16 0, .int .u32 0, .string ByteArray.empty, .int .i64 0, .int .i64 0, .int .i64 0, .int .i64 0, .int .i64 0, .int .i64 0, .int .i64 0, .int .i64 0]) := by kernel_rfl
theorem facts6_33 : fieldT Tryz.prog 66 0 = some (0, 37) := by kernel_rfl
theorem facts6_34 : fieldT Tryz.prog 66 1 = some (2, 9) := by kernel_rfl
theorem facts6_35 : fieldT Tryz.prog 66 2 = some (3, 2) := by kernel_rfl
theorem facts6_36 : fieldT Tryz.prog 66 3 = some (4, 3) := by kernel_rfl
theorem facts6_37 : fieldT Tryz.prog 66 4 = some (5, 39) := by kernel_rfl
theorem facts6_38 : fieldT Tryz.prog 66 5 = some (9, 2) := by kernel_rfl
theorem facts6_39 : fieldT Tryz.prog 66 6 = some (10, 2) := by kernel_rfl
theorem facts6 : buildOk Tryz.prog 58 = true ∧ kinds Tryz.prog 58 = some [.int, .int, .int, .int] ∧ und Tryz.prog 59 = .struct ∧ tk Tryz.prog 59 = some (true, 4) ∧ sz Tryz.prog 59 = some 4 ∧ nb Tryz.prog 59 = some 32 ∧ zeroV Tryz.prog 59 = some (.agg #[.int .i64 0, .int .i64 0, .int .i64 0, .int .i64 0]) ∧ fieldT Tryz.prog 59 0 = some (0, 2) ∧ fieldT Tryz.prog 59 1 = some (1, 3) ∧ fieldT Tryz.prog 59 2 = some (2, 3) ∧ fieldT Tryz.prog 59 3 = some (3, 3) ∧ buildOk Tryz.prog 59 = true ∧ kinds Tryz.prog 59 = some [.int, .int, .int, .int] ∧ und Tryz.prog 60 = .arr 4 59 ∧ tk Tryz.prog 60 = some (true, 16) ∧ sz Tryz.prog 60 = some 16 ∧ nb Tryz.prog 60 = some 128 ∧ zeroV Tryz.prog 60 = some (.agg (rep 16 (.int .i64 0)).toArray) ∧ buildOk Tryz.prog 60 = true ∧ kinds Tryz.prog 60 = some [.int, .int, .int, .int, .int, .int, .int, .int, .int, .int, .int, .int, .int, .int, .int, .int] ∧ und Tryz.prog 61 = .func ∧ und Tryz.prog 62 = .slice 69 ∧ tk Tryz.prog 62 = some (false, 1) ∧ sz Tryz.prog 62 = some 1 ∧ nb Tryz.prog 62 = some 24 ∧ zeroV Tryz.prog 62 = some (.slice none 0 0) ∧ und Tryz.prog 63 = .func ∧ und Tryz.prog 65 = .func ∧ und Tryz.prog 66 = .struct ∧ tk Tryz.prog 66 = some (true, 11) ∧ sz Tryz.prog 66 = some 11 ∧ nb Tryz.prog 66 = some 88 ∧ zeroV Tryz.prog 66 = some (.agg #[.int .u16 0, .int .u32 0, .string ByteArray.empty, .int .i64 0, .int .i64 0, .int .i64 0, .int .i64 0, .int .i64 0, .int .i64 0, .int .i64 0, .int .i64 0]) ∧ fieldT Tryz.prog 66 0 = some (0, 37) ∧ fieldT Tryz.prog 66 1 = some (2, 9) ∧ fieldT Tryz.prog 66 2 = some (3, 2) ∧ fieldT Tryz.prog 66 3 = some (4, 3) ∧ fieldT Tryz.prog 66 4 = some (5, 39) ∧ fieldT Tryz.prog 66 5 = some (9, 2) ∧ fieldT Tryz.prog 66 6 = some (10, 2) := ⟨facts6_0, facts6_1, facts6_2, facts6_3, facts6_4, facts6_5, facts6_6, facts6_7, facts6_8, facts6_9, facts6_10, facts6_11, facts6_12, facts6_13, facts6_14, facts6_15, facts6_16, facts6_17, facts6_18, facts6_19, facts6_20, facts6_21, facts6_22, facts6_23, facts6_24, facts6_25, facts6_26, facts6_27, facts6_28, facts6_29, facts6_30, facts6_31, facts6_32, facts6_33, facts6_34, facts6_35, facts6_36, facts6_37, facts6_38, facts6_39⟩
theorem facts7_0 : buildOk Tryz.prog 66 = true := by kernel_rfl
theorem facts7_1 : kinds Tryz.prog 66 = some [.int, .int, .str, .int, .int, .int, .int, .int, .int, .int, .int] := by kernel_rfl
theorem facts7_2 : und Tryz.prog 67 = .struct := by kernel_rfl
theorem facts7_3 : tk Tryz.prog 67 = some (true, 11) := by kernel_rfl
theorem facts7_4 : sz Tryz.prog 67 = some 11 := by kernel_rfl
theorem facts7_5 : nb Tryz.prog 67 = some 88 := by kernel_rfl
theorem facts7_6 : zeroV Tryz.prog 67 = some (.agg #[.int .u16 0, .int .u32 0, .string ByteArray.empty, .int .i64 0, .int .i64 0, .int .i64 0, .int .i64 0, .int .i64 0, .int .i64 0, .int .i64 0, .int .i64 0]) := by kernel_rfl
theorem facts7_7 : fieldT Tryz.prog 67 0 = some (0, 37) := by kernel_rfl
theorem facts7_8 : fieldT Tryz.prog 67 1 = some (2, 9) := by kernel_rfl
theorem facts7_9 : fieldT Tryz.prog 67 2 = some (3, 2) := by kernel_rfl
theorem facts7_10 : fieldT Tryz.prog 67 3 = some (4, 3) := by kernel_rfl
theorem facts7_11 : fieldT Tryz.prog 67 4 = some (5, 39) := by kernel_rfl
theorem facts7_12 : fieldT Tryz.prog 67 5 = some (9, 2) := by kernel_rfl
theorem facts7_13 : fieldT Tryz.prog 67 6 = some (10, 2) := by kernel_rfl
theorem facts7_14 : buildOk Tryz.prog 67 = true := by kernel_rfl
theorem facts7_15 : kinds Tryz.prog 67 = some [.int, .int, .str, .int, .int, .int, .int, .int, .int, .int, .int] := by kernel_rfl
theorem facts7_16 : und Tryz.prog 68 = .struct := by kernel_rfl
theorem facts7_17 : tk Tryz.prog 68 = some (true, 3) := by kernel_rfl
theorem facts7_18 : sz Tryz.prog 68 = some 3 := by kernel_rfl
theorem facts7_19 : nb Tryz.prog 68 = some 24 := by kernel_rfl
theorem facts7_20 : zeroV Tryz.prog 68 = some (.agg #[.int .i64 0, .int .i64 0, .int .i64 0]) := by kernel_rfl
theorem facts7_21 : fieldT Tryz.prog 68 0 = some (0, 3) := by kernel_rfl
theorem facts7_22 : fieldT Tryz.prog 68 1 = some (1, 3) := by kernel_rfl
theorem facts7_23 : fieldT Tryz.prog 68 2 = some (2, 3) := by kernel_rfl
theorem facts7_24 : buildOk Tryz.prog 68 = true := by kernel_rfl
theorem facts7_25 : kinds Tryz.prog 68 = some [.int, .int, .int] := by kernel_rfl
theorem facts7_26 : und Tryz.prog 69 = .struct := by kernel_rfl
theorem facts7_27 : tk Tryz.prog 69 = some (true, 3) := by kernel_rfl
theorem facts7_28 : sz Tryz.prog 69 = some 3 := by kernel_rfl
theorem facts7_29 : nb Tryz.prog 69 = some 24 := by kernel_rfl
theorem facts7_30 : zeroV Tryz.prog 69 = some (.agg #[.int .i64 0, .int .i64 0, .int .i64 0]) := by kernel_rfl
theorem facts7_31 : fieldT Tryz.prog 69 0 = some (0, 3) := by kernel_rfl
theorem facts7_32 : fieldT Tryz.prog 69 1 = some (1, 3) := by kernel_rfl
theorem facts7_33 : fieldT Tryz.prog 69 2 = some (2, 3) := by kernel_rfl
theorem facts7_34 : buildOk Tryz.prog 69 = true := by kernel_rfl
theorem facts7_35 : kinds Tryz.prog 69 = some [.int, .int, .int] := by kernel_rfl
theorem facts7_36 : und Tryz.prog 70 = .func := by kernel_rfl
theorem facts7_37 : und Tryz.prog 71 = .map 37 67 := by kernel_rfl
theorem facts7_38 : tk Tryz.prog 71 = some (false, 1) := by kernel_rfl
theorem facts7_39 : sz Tryz.prog 71 = some 1 := by kernel_rfl
theorem facts7 : buildOk Tryz.prog 66 = true ∧ kinds Tryz.prog 66 = some [.int, .int, .str, .int, .int, .int, .int, .int, .int, .int, .int] ∧ und Tryz.prog 67 = .struct ∧ tk Tryz.prog 67 = some (true, 11) ∧ sz Tryz.prog 67 = some 11 ∧ nb Tryz.prog 67 = some 88 ∧ zeroV Tryz.prog 67 = some (.agg #[.int .u16 0, .int .u32 0, .string ByteArray.empty, .int .i64 0, .int .i64 0, .int .i64 0, .int .i64 0, .int .i64 0, .int .i64 0, .int .i64 0, .int .i64 0]) ∧ fieldT Tryz.prog 67 0 = some (0, 37) ∧ fieldT Tryz.prog 67 1 = some (2, 9) ∧ fieldT Tryz.prog 67 2 = some (3, 2) ∧ fieldT Tryz.prog 67 3 = some (4, 3) ∧ fieldT Tryz.prog 67 4 = some (5, 39) ∧ fieldT Tryz.prog 67 5 = some (9, 2) ∧ fieldT Tryz.prog 67 6 = some (10, 2) ∧ buildOk Tryz.prog 67 = true ∧ kinds Tryz.prog 67 = some [.int, .int, .str, .int, .int, .int, .int, .int, .int, .int, .int] ∧ und Tryz.prog 68 = .struct ∧ tk Tryz.prog 68 = some (true, 3) ∧ sz Tryz.prog 68 = some 3 ∧ nb Tryz.prog 68 = some 24 ∧ zeroV Tryz.prog 68 = some (.agg #[.int .i64 0, .int .i64 0, .int .i64 0]) ∧ fieldT Tryz.prog 68 0 = some (0, 3) ∧ fieldT Tryz.prog 68 1 = some (1, 3) ∧ fieldT Tryz.prog 68 2 = some (2, 3) ∧ buildOk Tryz.prog 68 = true ∧ kinds Tryz.prog 68 = some [.int, .int, .int] ∧ und Tryz.prog 69 = .struct ∧ tk Tryz.prog 69 = some (true, 3) ∧ sz Tryz.prog 69 = some 3 ∧ nb Tryz.prog 69 = some 24 ∧ zeroV Tryz.prog 69 = some (.agg #[.int .i64 0, .int .i64 0, .int .i64 0]) ∧ fieldT Tryz.prog 69 0 = some (0, 3) ∧ fieldT Tryz.prog 69 1 = some (1, 3) ∧ fieldT Tryz.prog 69 2 = some (2, 3) ∧ buildOk Tryz.prog 69 = true ∧ kinds Tryz.prog 69 = some [.int, .int, .int] ∧ und Tryz.prog 70 = .func ∧ und Tryz.prog 71 = .map 37 67 ∧ tk Tryz.prog 71 = some (false, 1) ∧ sz Tryz.prog 71 = some 1 := ⟨facts7_0, facts7_1, facts7_2, facts7_3, facts7_4, facts7_5, facts7_6, facts7_7, facts7_8, facts7_9, facts7_10, facts7_11, facts7_12, facts7_13, facts7_14, facts7_15, facts7_16, facts7_17, facts7_18, facts7_19, facts7_20, facts7_21, facts7_22, facts7_23, facts7_24, facts7_25, facts7_26, facts7_27, facts7_28, facts7_29, facts7_30, facts7_31, facts7_32, facts7_33, facts7_34, facts7_35, facts7_36, facts7_37, facts7_38, facts7_39⟩
theorem facts8_0 : nb Tryz.prog 71 = some 8 := by kernel_rfl
theorem facts8_1 : zeroV Tryz.prog 71 = some (.map none) := by kernel_rfl
theorem facts8_2 : und Tryz.prog 72 = .slice 81 := by kernel_rfl
theorem facts8_3 : tk Tryz.prog 72 = some (false, 1) := by kernel_rfl
theorem facts8_4 : sz Tryz.prog 72 = some 1 := by kernel_rfl
theorem facts8_5 : nb Tryz.prog 72 = some 24 := by kernel_rfl
theorem facts8_6 : zeroV Tryz.prog 72 = some (.slice none 0 0) := by kernel_rfl
theorem facts8_7 : und Tryz.prog 73 = .struct := by kernel_rfl
theorem facts8_8 : tk Tryz.prog 73 = some (true, 3) := by kernel_rfl
theorem facts8_9 : sz Tryz.prog 73 = some 3 := by kernel_rfl
theorem facts8_10 : nb Tryz.prog 73 = some 56 := by kernel_rfl
theorem facts8_11 : zeroV Tryz.prog 73 = some (.agg #[.slice none 0 0, .slice none 0 0, .map none]) := by kernel_rfl
theorem facts8_12 : fieldT Tryz.prog 73 0 = some (0, 72) := by kernel_rfl
theorem facts8_13 : fieldT Tryz.prog 73 1 = some (1, 72) := by kernel_rfl
theorem facts8_14 : fieldT Tryz.prog 73 2 = some (2, 71) := by kernel_rfl
theorem facts8_15 : buildOk Tryz.prog 73 = true := by kernel_rfl
theorem facts8_16 : und Tryz.prog 74 = .struct := by kernel_rfl
theorem facts8_17 : tk Tryz.prog 74 = some (true, 3) := by kernel_rfl
theorem facts8_18 : sz Tryz.prog 74 = some 3 := by kernel_rfl
theorem facts8_19 : nb Tryz.prog 74 = some 56 := by kernel_rfl
theorem facts8_20 : zeroV Tryz.prog 74 = some (.agg #[.slice none 0 0, .slice none 0 0, .map none]) := by kernel_rfl
theorem facts8_21 : fieldT Tryz.prog 74 0 = some (0, 72) := by kernel_rfl
theorem facts8_22 : fieldT Tryz.prog 74 1 = some (1, 72) := by kernel_rfl
theorem facts8_23 : fieldT Tryz.prog 74 2 = some (2, 71) := by kernel_rfl
theorem facts8_24 : buildOk Tryz.prog 74 = true := by kernel_rfl
theorem facts8_25 : und Tryz.prog 75 = .func := by kernel_rfl
theorem facts8_26 : und Tryz.prog 76 = .struct := by kernel_rfl
theorem facts8_27 : tk Tryz.prog 76 = some (true, 16) := by kernel_rfl
theorem facts8_28 : sz Tryz.prog 76 = some 16 := by kernel_rfl
theorem facts8_29 : nb Tryz.prog 76 = some 128 := by kernel_rfl
theorem facts8_30 : zeroV Tryz.prog 76 = some (.agg (rep 16 (.int .i64 0)).toArray) := by kernel_rfl
theorem facts8_31 : fieldT Tryz.prog 76 0 = some (0, 60) := by kernel_rfl
theorem facts8_32 : buildOk Tryz.prog 76 = true := by kernel_rfl
theorem facts8_33 : kinds Tryz.prog 76 = some [.int, .int, .int, .int, .int, .int, .int, .int, .int, .int, .int, .int, .int, .int, .int, .int] := by kernel_rfl
theorem facts8_34 : und Tryz.prog 77 = .struct := by kernel_rfl
theorem facts8_35 : tk Tryz.prog 77 = some (true, 16) := by kernel_rfl
theorem facts8_36 : sz Tryz.prog 77 = some 16 := by kernel_rfl
theorem facts8_37 : nb Tryz.prog 77 = some 128 := by kernel_rfl
theorem facts8_38 : zeroV Tryz.prog 77 = some (.agg (rep 16 (.int .i64 0)).toArray) := by kernel_rfl
theorem facts8_39 : fieldT Tryz.prog 77 0 = some (0, 60) := by kernel_rfl
theorem facts8 : nb Tryz.prog 71 = some 8 ∧ zeroV Tryz.prog 71 = some (.map none) ∧ und Tryz.prog 72 = .slice 81 ∧ tk Tryz.prog 72 = some (false, 1) ∧ sz Tryz.prog 72 = some 1 ∧ nb Tryz.prog 72 = some 24 ∧ zeroV Tryz.prog 72 = some (.slice none 0 0) ∧ und Tryz.prog 73 = .struct ∧ tk Tryz.prog 73 = some (true, 3) ∧ sz Tryz.prog 73 = some 3 ∧ nb Tryz.prog 73 = some 56 ∧ zeroV Tryz.prog 73 = some (.agg #[.slice none 0 0, .slice none 0 0, .map none]) ∧ fieldT Tryz.prog 73 0 = some (0, 72) ∧ fieldT Tryz.prog 73 1 = some (1, 72) ∧ fieldT Tryz.prog 73 2 = some (2, 71) ∧ buildOk Tryz.prog 73 = true ∧ und Tryz.prog 74 = .struct ∧ tk Tryz.prog 74 = some (true, 3) ∧ sz Tryz.prog 74 = some 3 ∧ nb Tryz.prog 74 = some 56 ∧ zeroV Tryz.prog 74 = some (.agg #[.slice none 0 0, .slice none 0 0, .map none]) ∧ fieldT Tryz.prog 74 0 = some (0, 72) ∧ fieldT Tryz.prog 74 1 = some (1, 72) ∧ fieldT Tryz.prog 74 2 = some (2, 71) ∧ buildOk Tryz.prog 74 = true ∧ und Tryz.prog 75 = .func ∧ und Tryz.prog 76 = .struct ∧ tk Tryz.prog 76 = some (true, 16) ∧ sz Tryz.prog 76 = some 16 ∧ nb Tryz.prog 76 = some 128 ∧ zeroV Tryz.prog 76 = some (.agg (rep 16 (.int .i64 0)).toArray) ∧ fieldT Tryz.prog 76 0 = some (0, 60) ∧ buildOk Tryz.prog 76 = true ∧ kinds Tryz.prog 76 = some [.int, .int, .int, .int, .int, .int, .int, .int, .int, .int, .int, .int, .int, .int, .int, .int] ∧ und Tryz.prog 77 = .struct ∧ tk Tryz.prog 77 = some (true, 16) ∧ sz Tryz.prog 77 = some 16 ∧ nb Tryz.prog 77 = some 128 ∧ zeroV Tryz.prog 77 = some (.agg (rep 16 (.int .i64 0)).toArray) ∧ fieldT Tryz.prog 77 0 = some (0, 60) := ⟨facts8_0, facts8_1, facts8_2, facts8_3, facts8_4, facts8_5, facts8_6, facts8_7, facts8_8, facts8_9, facts8_10, facts8_11, facts8_12, facts8_13, facts8_14, facts8_15, facts8_16, facts8_17, facts8_18, facts8_19, facts8_20, facts8_21, facts8_22, facts8_23, facts8_24, facts8_25, facts8_26, facts8_27, facts8_28, facts8_29, facts8_30, facts8_31, facts8_32, facts8_33, facts8_34, facts8_35, facts8_36, facts8_37, facts8_38, facts8_39⟩
theorem facts9_0 : buildOk Tryz.prog 77 = true := by kernel_rfl
theorem facts9_1 : kinds Tryz.prog 77 = some [.int, .int, .int, .int, .int, .int, .int, .int, .int, .int, .int, .int, .int, .int, .int, .int] := by kernel_rfl
theorem facts9_2 : und Tryz.prog 78 = .ptr 77 := by kernel_rfl
theorem facts9_3 : tk Tryz.prog 78 = some (false, 1) := by kernel_rfl
theorem facts9_4 : sz Tryz.prog 78 = some 1 := by kernel_rfl
theorem facts9_5 : nb Tryz.prog 78 = some 8 := by kernel_rfl
theorem facts9_6 : zeroV Tryz.prog 78 = some (.pointer none) := by kernel_rfl
theorem facts9_7 : und Tryz.prog 79 = .func := by kernel_rfl
theorem facts9_8 : und Tryz.prog 80 = .struct := by kernel_rfl
theorem facts9_9 : tk Tryz.prog 80 = some (true, 18) := by kernel_rfl
theorem facts9_10 : sz Tryz.prog 80 = some 18 := by kernel_rfl
theorem facts9_11 : nb Tryz.prog 80 = some 144 := by kernel_rfl
theorem facts9_12 : zeroV Tryz.prog 80 = some (.agg (rep 16 (.int .i64 0) ++ ([.bool false, .int .i64 0] : List Value)).toArray) := by kernel_rfl
theorem facts9_13 : fieldT Tryz.prog 80 0 = some (0, 77) := by kernel_rfl
theorem facts9_14 : fieldT Tryz.prog 80 1 = some (16, 4) := by kernel_rfl
theorem facts9_15 : fieldT Tryz.prog 80 2 = some (17, 3) := by kernel_rfl
theorem facts9_16 : buildOk Tryz.prog 80 = true := by kernel_rfl
theorem facts9_17 : kinds Tryz.prog 80 = some [.int, .int, .int, .int, .int, .int, .int, .int, .int, .int, .int, .int, .int, .int, .int, .int, .bool, .int] := by kernel_rfl
theorem facts9_18 : und Tryz.prog 81 = .struct := by kernel_rfl
theorem facts9_19 : tk Tryz.prog 81 = some (true, 18) := by kernel_rfl
theorem facts9_20 : sz Tryz.prog 81 = some 18 := by kernel_rfl
theorem facts9_21 : nb Tryz.prog 81 = some 144 := by kernel_rfl
theorem facts9_22 : zeroV Tryz.prog 81 = some (.agg (rep 16 (.int .i64 0) ++ ([.bool false, .int .i64 0] : List Value)).toArray) := by kernel_rfl
theorem facts9_23 : fieldT Tryz.prog 81 0 = some (0, 77) := by kernel_rfl
theorem facts9_24 : fieldT Tryz.prog 81 1 = some (16, 4) := by kernel_rfl
theorem facts9_25 : fieldT Tryz.prog 81 2 = some (17, 3) := by kernel_rfl
theorem facts9_26 : buildOk Tryz.prog 81 = true := by kernel_rfl
theorem facts9_27 : kinds Tryz.prog 81 = some [.int, .int, .int, .int, .int, .int, .int, .int, .int, .int, .int, .int, .int, .int, .int, .int, .bool, .int] := by kernel_rfl
theorem facts9_28 : und Tryz.prog 82 = .func := by kernel_rfl
theorem facts9_29 : und Tryz.prog 83 = .ptr 93 := by kernel_rfl
theorem facts9_30 : tk Tryz.prog 83 = some (false, 1) := by kernel_rfl
theorem facts9_31 : sz Tryz.prog 83 = some 1 := by kernel_rfl
theorem facts9_32 : nb Tryz.prog 83 = some 8 := by kernel_rfl
theorem facts9_33 : zeroV Tryz.prog 83 = some (.pointer none) := by kernel_rfl
theorem facts9_34 : und Tryz.prog 84 = .func := by kernel_rfl
theorem facts9_35 : und Tryz.prog 85 = .struct := by kernel_rfl
theorem facts9_36 : tk Tryz.prog 85 = some (true, 3) := by kernel_rfl
theorem facts9_37 : sz Tryz.prog 85 = some 3 := by kernel_rfl
theorem facts9_38 : nb Tryz.prog 85 = some 24 := by kernel_rfl
theorem facts9_39 : zeroV Tryz.prog 85 = some (.agg #[.pointer none, .bool false, .int .i64 0]) := by kernel_rfl
theorem facts9 : buildOk Tryz.prog 77 = true ∧ kinds Tryz.prog 77 = some [.int, .int, .int, .int, .int, .int, .int, .int, .int, .int, .int, .int, .int, .int, .int, .int] ∧ und Tryz.prog 78 = .ptr 77 ∧ tk Tryz.prog 78 = some (false, 1) ∧ sz Tryz.prog 78 = some 1 ∧ nb Tryz.prog 78 = some 8 ∧ zeroV Tryz.prog 78 = some (.pointer none) ∧ und Tryz.prog 79 = .func ∧ und Tryz.prog 80 = .struct ∧ tk Tryz.prog 80 = some (true, 18) ∧ sz Tryz.prog 80 = some 18 ∧ nb Tryz.prog 80 = some 144 ∧ zeroV Tryz.prog 80 = some (.agg (rep 16 (.int .i64 0) ++ ([.bool false, .int .i64 0] : List Value)).toArray) ∧ fieldT Tryz.prog 80 0 = some (0, 77) ∧ fieldT Tryz.prog 80 1 = some (16, 4) ∧ fieldT Tryz.prog 80 2 = some (17, 3) ∧ buildOk Tryz.prog 80 = true ∧ kinds Tryz.prog 80 = some [.int, .int, .int, .int, .int, .int, .int, .int, .int, .int, .int, .int, .int, .int, .int, .int, .bool, .int] ∧ und Tryz.prog 81 = .struct ∧ tk Tryz.prog 81 = some (true, 18) ∧ sz Tryz.prog 81 = some 18 ∧ nb Tryz.prog 81 = some 144 ∧ zeroV Tryz.prog 81 = some (.agg (rep 16 (.int .i64 0) ++ ([.bool false, .int .i64 0] : List Value)).toArray) ∧ fieldT Tryz.prog 81 0 = some (0, 77) ∧ fieldT Tryz.prog 81 1 = some (16, 4) ∧ fieldT Tryz.prog 81 2 = some (17, 3) ∧ buildOk Tryz.prog 81 = true ∧ kinds Tryz.prog 81 = some [.int, .int, .int, .int, .int, .int, .int, .int, .int, .int, .int, .int, .int, .int, .int, .int, .bool, .int] ∧ und Tryz.prog 82 = .func ∧ und Tryz.prog 83 = .ptr 93 ∧ tk Tryz.prog 83 = some (false, 1) ∧ sz Tryz.prog 83 = some 1 ∧ nb Tryz.prog 83 = some 8 ∧ zeroV Tryz.prog 83 = some (.pointer none) ∧ und Tryz.prog 84 = .func ∧ und Tryz.prog 85 = .struct ∧ tk Tryz.prog 85 = some (true, 3) ∧ sz Tryz.prog 85 = some 3 ∧ nb Tryz.prog 85 = some 24 ∧ zeroV Tryz.prog 85 = some (.agg #[.pointer none, .bool false, .int .i64 0]) := ⟨facts9_0, facts9_1, facts9_2, facts9_3, facts9_4, facts9_5, facts9_6, facts9_7, facts9_8, facts9_9, facts9_10, facts9_11, facts9_12, facts9_13, facts9_14, facts9_15, facts9_16, facts9_17, facts9_18, facts9_19, facts9_20, facts9_21, facts9_22, facts9_23, facts9_24, facts9_25, facts9_26, facts9_27, facts9_28, facts9_29, facts9_30, facts9_31, facts9_32, facts9_33, facts9_34, facts9_35, facts9_36, facts9_37, facts9_38, facts9_39⟩
theorem facts10_0 : fieldT Tryz.prog 85 0 = some (0, 83) := by kernel_rfl
theorem facts10_1 : fieldT Tryz.prog 85 1 = some (1, 4) := by kernel_rfl
theorem facts10_2 : fieldT Tryz.prog 85 2 = some (2, 3) := by kernel_rfl
theorem facts10_3 : buildOk Tryz.prog 85 = true := by kernel_rfl
theorem facts10_4 : und Tryz.prog 86 = .struct := by kernel_rfl
theorem facts10_5 : tk Tryz.prog 86 = some (true, 3) := by kernel_rfl
theorem facts10_6 : sz Tryz.prog 86 = some 3 := by kernel_rfl
theorem facts10_7 : nb Tryz.prog 86 = some 24 := by kernel_rfl
theorem facts10_8 : zeroV Tryz.prog 86 = some (.agg #[.pointer none, .bool false, .int .i64 0]) := by kernel_rfl
theorem facts10_9 : fieldT Tryz.prog 86 0 = some (0, 83) := by kernel_rfl
theorem facts10_10 : fieldT Tryz.prog 86 1 = some (1, 4) := by kernel_rfl
theorem facts10_11 : fieldT Tryz.prog 86 2 = some (2, 3) := by kernel_rfl
theorem facts10_12 : buildOk Tryz.prog 86 = true := by kernel_rfl
theorem facts10_13 : und Tryz.prog 87 = .func := by kernel_rfl
theorem facts10_14 : und Tryz.prog 88 = .func := by kernel_rfl
theorem facts10_15 : und Tryz.prog 89 = .func := by kernel_rfl
theorem facts10_16 : und Tryz.prog 90 = .func := by kernel_rfl
theorem facts10_17 : und Tryz.prog 91 = .ptr 86 := by kernel_rfl
theorem facts10_18 : tk Tryz.prog 91 = some (false, 1) := by kernel_rfl
theorem facts10_19 : sz Tryz.prog 91 = some 1 := by kernel_rfl
theorem facts10_20 : nb Tryz.prog 91 = some 8 := by kernel_rfl
theorem facts10_21 : zeroV Tryz.prog 91 = some (.pointer none) := by kernel_rfl
theorem facts10_22 : und Tryz.prog 92 = .struct := by kernel_rfl
theorem facts10_23 : tk Tryz.prog 92 = some (true, 16) := by kernel_rfl
theorem facts10_24 : sz Tryz.prog 92 = some 16 := by kernel_rfl
theorem facts10_25 : nb Tryz.prog 92 = some 128 := by kernel_rfl
theorem facts10_26 : zeroV Tryz.prog 92 = some (.agg (rep 16 (.int .i64 0)).toArray) := by kernel_rfl
theorem facts10_27 : fieldT Tryz.prog 92 0 = some (0, 60) := by kernel_rfl
theorem facts10_28 : buildOk Tryz.prog 92 = true := by kernel_rfl
theorem facts10_29 : kinds Tryz.prog 92 = some [.int, .int, .int, .int, .int, .int, .int, .int, .int, .int, .int, .int, .int, .int, .int, .int] := by kernel_rfl
theorem facts10_30 : und Tryz.prog 93 = .struct := by kernel_rfl
theorem facts10_31 : tk Tryz.prog 93 = some (true, 16) := by kernel_rfl
theorem facts10_32 : sz Tryz.prog 93 = some 16 := by kernel_rfl
theorem facts10_33 : nb Tryz.prog 93 = some 128 := by kernel_rfl
theorem facts10_34 : zeroV Tryz.prog 93 = some (.agg (rep 16 (.int .i64 0)).toArray) := by kernel_rfl
theorem facts10_35 : fieldT Tryz.prog 93 0 = some (0, 60) := by kernel_rfl
theorem facts10_36 : buildOk Tryz.prog 93 = true := by kernel_rfl
theorem facts10_37 : kinds Tryz.prog 93 = some [.int, .int, .int, .int, .int, .int, .int, .int, .int, .int, .int, .int, .int, .int, .int, .int] := by kernel_rfl
theorem facts10_38 : und Tryz.prog 94 = .func := by kernel_rfl
theorem facts10_39 : und Tryz.prog 95 = .func := by kernel_rfl
theorem facts10 : fieldT Tryz.prog 85 0 = some (0, 83) ∧ fieldT Tryz.prog 85 1 = some (1, 4) ∧ fieldT Tryz.prog 85 2 = some (2, 3) ∧ buildOk Tryz.prog 85 = true ∧ und Tryz.prog 86 = .struct ∧ tk Tryz.prog 86 = some (true, 3) ∧ sz Tryz.prog 86 = some 3 ∧ nb Tryz.prog 86 = some 24 ∧ zeroV Tryz.prog 86 = some (.agg #[.pointer none, .bool false, .int .i64 0]) ∧ fieldT Tryz.prog 86 0 = some (0, 83) ∧ fieldT Tryz.prog 86 1 = some (1, 4) ∧ fieldT Tryz.prog 86 2 = some (2, 3) ∧ buildOk Tryz.prog 86 = true ∧ und Tryz.prog 87 = .func ∧ und Tryz.prog 88 = .func ∧ und Tryz.prog 89 = .func ∧ und Tryz.prog 90 = .func ∧ und Tryz.prog 91 = .ptr 86 ∧ tk Tryz.prog 91 = some (false, 1) ∧ sz Tryz.prog 91 = some 1 ∧ nb Tryz.prog 91 = some 8 ∧ zeroV Tryz.prog 91 = some (.pointer none) ∧ und Tryz.prog 92 = .struct ∧ tk Tryz.prog 92 = some (true, 16) ∧ sz Tryz.prog 92 = some 16 ∧ nb Tryz.prog 92 = some 128 ∧ zeroV Tryz.prog 92 = some (.agg (rep 16 (.int .i64 0)).toArray) ∧ fieldT Tryz.prog 92 0 = some (0, 60) ∧ buildOk Tryz.prog 92 = true ∧ kinds Tryz.prog 92 = some [.int, .int, .int, .int, .int, .int, .int, .int, .int, .int, .int, .int, .int, .int, .int, .int] ∧ und Tryz.prog 93 = .struct ∧ tk Tryz.prog 93 = some (true, 16) ∧ sz Tryz.prog 93 = some 16 ∧ nb Tryz.prog 93 = some 128 ∧ zeroV Tryz.prog 93 = some (.agg (rep 16 (.int .i64 0)).toArray) ∧ fieldT Tryz.prog 93 0 = some (0, 60) ∧ buildOk Tryz.prog 93 = true ∧ kinds Tryz.prog 93 = some [.int, .int, .int, .int, .int, .int, .int, .int, .int, .int, .int, .int, .int, .int, .int, .int] ∧ und Tryz.prog 94 = .func ∧ und Tryz.prog 95 = .func := ⟨facts10_0, facts10_1, facts10_2, facts10_3, facts10_4, facts10_5, facts10_6, facts10_7, facts10_8, facts10_9, facts10_10, facts10_11, facts10_12, facts10_13, facts10_14, facts10_15, facts10_16, facts10_17, facts10_18, facts10_19, facts10_20, facts10_21, facts10_22, facts10_23, facts10_24, facts10_25, facts10_26, facts10_27, facts10_28, facts10_29, facts10_30, facts10_31, facts10_32, facts10_33, facts10_34, facts10_35, facts10_36, facts10_37, facts10_38, facts10_39⟩
theorem facts11_0 : und Tryz.prog 97 = .func := by kernel_rfl
theorem facts11_1 : und Tryz.prog 99 = .func := by kernel_rfl
theorem facts11_2 : und Tryz.prog 100 = .ptr 103 := by kernel_rfl
theorem facts11_3 : tk Tryz.prog 100 = some (false, 1) := by kernel_rfl
theorem facts11_4 : sz Tryz.prog 100 = some 1 := by kernel_rfl
theorem facts11_5 : nb Tryz.prog 100 = some 8 := by kernel_rfl
theorem facts11_6 : zeroV Tryz.prog 100 = some (.pointer none) := by kernel_rfl
theorem facts11_7 : und Tryz.prog 101 = .slice 5 := by kernel_rfl
theorem facts11_8 : tk Tryz.prog 101 = some (false, 1) := by kernel_rfl
theorem facts11_9 : sz Tryz.prog 101 = some 1 := by kernel_rfl
theorem facts11_10 : nb Tryz.prog 101 = some 24 := by kernel_rfl
theorem facts11_11 : zeroV Tryz.prog 101 = some (.slice none 0 0) := by kernel_rfl
theorem facts11_12 : und Tryz.prog 102 = .struct := by kernel_rfl
theorem facts11_13 : tk Tryz.prog 102 = some (true, 2) := by kernel_rfl
theorem facts11_14 : sz Tryz.prog 102 = some 2 := by kernel_rfl
theorem facts11_15 : nb Tryz.prog 102 = some 32 := by kernel_rfl
theorem facts11_16 : zeroV Tryz.prog 102 = some (.agg #[.pointer none, .slice none 0 0]) := by kernel_rfl
theorem facts11_17 : fieldT Tryz.prog 102 0 = some (0, 100) := by kernel_rfl
theorem facts11_18 : fieldT Tryz.prog 102 1 = some (1, 101) := by kernel_rfl
theorem facts11_19 : buildOk Tryz.prog 102 = true := by kernel_rfl
theorem facts11_20 : und Tryz.prog 103 = .struct := by kernel_rfl
theorem facts11_21 : tk Tryz.prog 103 = some (true, 2) := by kernel_rfl
theorem facts11_22 : sz Tryz.prog 103 = some 2 := by kernel_rfl
theorem facts11_23 : nb Tryz.prog 103 = some 32 := by kernel_rfl
theorem facts11_24 : zeroV Tryz.prog 103 = some (.agg #[.pointer none, .slice none 0 0]) := by kernel_rfl
theorem facts11_25 : fieldT Tryz.prog 103 0 = some (0, 100) := by kernel_rfl
theorem facts11_26 : fieldT Tryz.prog 103 1 = some (1, 101) := by kernel_rfl
theorem facts11_27 : buildOk Tryz.prog 103 = true := by kernel_rfl
theorem facts11_28 : und Tryz.prog 104 = .func := by kernel_rfl
theorem facts11_29 : und Tryz.prog 108 = .func := by kernel_rfl
theorem facts11_30 : und Tryz.prog 109 = .func := by kernel_rfl
theorem facts11_31 : und Tryz.prog 110 = .func := by kernel_rfl
theorem facts11_32 : und Tryz.prog 111 = .func := by kernel_rfl
theorem facts11_33 : und Tryz.prog 112 = .func := by kernel_rfl
theorem facts11_34 : und Tryz.prog 113 = .slice 37 := by kernel_rfl
theorem facts11_35 : tk Tryz.prog 113 = some (false, 1) := by kernel_rfl
theorem facts11_36 : sz Tryz.prog 113 = some 1 := by kernel_rfl
theorem facts11_37 : nb Tryz.prog 113 = some 24 := by kernel_rfl
theorem facts11_38 : zeroV Tryz.prog 113 = some (.slice none 0 0) := by kernel_rfl
theorem facts11_39 : und Tryz.prog 114 = .func := by kernel_rfl
theorem facts11 : und Tryz.prog 97 = .func ∧ und Tryz.prog 99 = .func ∧ und Tryz.prog 100 = .ptr 103 ∧ tk Tryz.prog 100 = some (false, 1) ∧ sz Tryz.prog 100 = some 1 ∧ nb Tryz.prog 100 = some 8 ∧ zeroV Tryz.prog 100 = some (.pointer none) ∧ und Tryz.prog 101 = .slice 5 ∧ tk Tryz.prog 101 = some (false, 1) ∧ sz Tryz.prog 101 = some 1 ∧ nb Tryz.prog 101 = some 24 ∧ zeroV Tryz.prog 101 = some (.slice none 0 0) ∧ und Tryz.prog 102 = .struct ∧ tk Tryz.prog 102 = some (true, 2) ∧ sz Tryz.prog 102 = some 2 ∧ nb Tryz.prog 102 = some 32 ∧ zeroV Tryz.prog 102 = some (.agg #[.pointer none, .slice none 0 0]) ∧ fieldT Tryz.prog 102 0 = some (0, 100) ∧ fieldT Tryz.prog 102 1 = some (1, 101) ∧ buildOk Tryz.prog 102 = true ∧ und Tryz.prog 103 = .struct ∧ tk Tryz.prog 103 = some (true, 2) ∧ sz Tryz.prog 103 = some 2 ∧ nb Tryz.prog 103 = some 32 ∧ zeroV Tryz.prog 103 = some (.agg #[.pointer none, .slice none 0 0]) ∧ fieldT Tryz.prog 103 0 = some (0, 100) ∧ fieldT Tryz.prog 103 1 = some (1, 101) ∧ buildOk Tryz.prog 103 = true ∧ und Tryz.prog 104 = .func ∧ und Tryz.prog 108 = .func ∧ und Tryz.prog 109 = .func ∧ und Tryz.prog 110 = .func ∧ und Tryz.prog 111 = .func ∧ und Tryz.prog 112 = .func ∧ und Tryz.prog 113 = .slice 37 ∧ tk Tryz.prog 113 = some (false, 1) ∧ sz Tryz.prog 113 = some 1 ∧ nb Tryz.prog 113 = some 24 ∧ zeroV Tryz.prog 113 = some (.slice none 0 0) ∧ und Tryz.prog 114 = .func := ⟨facts11_0, facts11_1, facts11_2, facts11_3, facts11_4, facts11_5, facts11_6, facts11_7, facts11_8, facts11_9, facts11_10, facts11_11, facts11_12, facts11_13, facts11_14, facts11_15, facts11_16, facts11_17, facts11_18, facts11_19, facts11_20, facts11_21, facts11_22, facts11_23, facts11_24, facts11_25, facts11_26, facts11_27, facts11_28, facts11_29, facts11_30, facts11_31, facts11_32, facts11_33, facts11_34, facts11_35, facts11_36, facts11_37, facts11_38, facts11_39⟩
theorem facts12_0 : und Tryz.prog 115 = .func := by kernel_rfl
theorem facts12_1 : und Tryz.prog 116 = .func := by kernel_rfl
theorem facts12_2 : und Tryz.prog 117 = .func := by kernel_rfl
theorem facts12_3 : und Tryz.prog 118 = .func := by kernel_rfl
theorem facts12_4 : und Tryz.prog 119 = .arr 4 2 := by kernel_rfl
theorem facts12_5 : tk Tryz.prog 119 = some (true, 4) := by kernel_rfl
theorem facts12_6 : sz Tryz.prog 119 = some 4 := by kernel_rfl
theorem facts12_7 : nb Tryz.prog 119 = some 32 := by kernel_rfl
theorem facts12_8 : zeroV Tryz.prog 119 = some (.agg #[.int .i64 0, .int .i64 0, .int .i64 0, .int .i64 0]) := by kernel_rfl
theorem facts12_9 : buildOk Tryz.prog 119 = true := by kernel_rfl
theorem facts12_10 : kinds Tryz.prog 119 = some [.int, .int, .int, .int] := by kernel_rfl
theorem facts12_11 : und Tryz.prog 120 = .slice 119 := by kernel_rfl
theorem facts12_12 : tk Tryz.prog 120 = some (false, 1) := by kernel_rfl
theorem facts12_13 : sz Tryz.prog 120 = some 1 := by kernel_rfl
theorem facts12_14 : nb Tryz.prog 120 = some 24 := by kernel_rfl
theorem facts12_15 : zeroV Tryz.prog 120 = some (.slice none 0 0) := by kernel_rfl
theorem facts12_16 : und Tryz.prog 121 = .slice 3 := by kernel_rfl
theorem facts12_17 : tk Tryz.prog 121 = some (false, 1) := by kernel_rfl
theorem facts12_18 : sz Tryz.prog 121 = some 1 := by kernel_rfl
theorem facts12_19 : nb Tryz.prog 121 = some 24 := by kernel_rfl
theorem facts12_20 : zeroV Tryz.prog 121 = some (.slice none 0 0) := by kernel_rfl
theorem facts12_21 : und Tryz.prog 122 = .func := by kernel_rfl
theorem facts12_22 : und Tryz.prog 123 = .func := by kernel_rfl
theorem facts12_23 : und Tryz.prog 124 = .func := by kernel_rfl
theorem facts12_24 : und Tryz.prog 125 = .map 9 4 := by kernel_rfl
theorem facts12_25 : tk Tryz.prog 125 = some (false, 1) := by kernel_rfl
theorem facts12_26 : sz Tryz.prog 125 = some 1 := by kernel_rfl
theorem facts12_27 : nb Tryz.prog 125 = some 8 := by kernel_rfl
theorem facts12_28 : zeroV Tryz.prog 125 = some (.map none) := by kernel_rfl
theorem facts12_29 : und Tryz.prog 126 = .func := by kernel_rfl
theorem facts12_30 : und Tryz.prog 127 = .func := by kernel_rfl
theorem facts12_31 : und Tryz.prog 128 = .func := by kernel_rfl
theorem facts12_32 : und Tryz.prog 129 = .func := by kernel_rfl
theorem facts12_33 : und Tryz.prog 132 = .func := by kernel_rfl
theorem facts12_34 : und Tryz.prog 133 = .func := by kernel_rfl
theorem facts12_35 : und Tryz.prog 134 = .func := by kernel_rfl
theorem facts12_36 : und Tryz.prog 135 = .func := by kernel_rfl
theorem facts12_37 : und Tryz.prog 136 = .func := by kernel_rfl
theorem facts12_38 : und Tryz.prog 137 = .func := by kernel_rfl
theorem facts12_39 : und Tryz.prog 138 = .ptr 5 := by kernel_rfl
theorem facts12 : und Tryz.prog 115 = .func ∧ und Tryz.prog 116 = .func ∧ und Tryz.prog 117 = .func ∧ und Tryz.prog 118 = .func ∧ und Tryz.prog 119 = .arr 4 2 ∧ tk Tryz.prog 119 = some (true, 4) ∧ sz Tryz.prog 119 = some 4 ∧ nb Tryz.prog 119 = some 32 ∧ zeroV Tryz.prog 119 = some (.agg #[.int .i64 0, .int .i64 0, .int .i64 0, .int .i64 0]) ∧ buildOk Tryz.prog 119 = true ∧ kinds Tryz.prog 119 = some [.int, .int, .int, .int] ∧ und Tryz.prog 120 = .slice 119 ∧ tk Tryz.prog 120 = some (false, 1) ∧ sz Tryz.prog 120 = some 1 ∧ nb Tryz.prog 120 = some 24 ∧ zeroV Tryz.prog 120 = some (.slice none 0 0) ∧ und Tryz.prog 121 = .slice 3 ∧ tk Tryz.prog 121 = some (false, 1) ∧ sz Tryz.prog 121 = some 1 ∧ nb Tryz.prog 121 = some 24 ∧ zeroV Tryz.prog 121 = some (.slice none 0 0) ∧ und Tryz.prog 122 = .func ∧ und Tryz.prog 123 = .func ∧ und Tryz.prog 124 = .func ∧ und Tryz.prog 125 = .map 9 4 ∧ tk Tryz.prog 125 = some (false, 1) ∧ sz Tryz.prog 125 = some 1 ∧ nb Tryz.prog 125 = some 8 ∧ zeroV Tryz.prog 125 = some (.map none) ∧ und Tryz.prog 126 = .func ∧ und Tryz.prog 127 = .func ∧ und Tryz.prog 128 = .func ∧ und Tryz.prog 129 = .func ∧ und Tryz.prog 132 = .func ∧ und Tryz.prog 133 = .func ∧ und Tryz.prog 134 = .func ∧ und Tryz.prog 135 = .func ∧ und Tryz.prog 136 = .func ∧ und Tryz.prog 137 = .func ∧ und Tryz.prog 138 = .ptr 5 := ⟨facts12_0, facts12_1, facts12_2, facts12_3, facts12_4, facts12_5, facts12_6, facts12_7, facts12_8, facts12_9, facts12_10, facts12_11, facts12_12, facts12_13, facts12_14, facts12_15, facts12_16, facts12_17, facts12_18, facts12_19, facts12_20, facts12_21, facts12_22, facts12_23, facts12_24, facts12_25, facts12_26, facts12_27, facts12_28, facts12_29, facts12_30, facts12_31, facts12_32, facts12_33, facts12_34, facts12_35, facts12_36, facts12_37, facts12_38, facts12_39⟩
theorem facts13_0 : tk Tryz.prog 138 = some (false, 1) := by kernel_rfl
theorem facts13_1 : sz Tryz.prog 138 = some 1 := by kernel_rfl
theorem facts13_2 : nb Tryz.prog 138 = some 8 := by kernel_rfl
theorem facts13_3 : zeroV Tryz.prog 138 = some (.pointer none) := by kernel_rfl
theorem facts13_4 : und Tryz.prog 139 = .int .u64 := by kernel_rfl
theorem facts13_5 : tk Tryz.prog 139 = some (false, 1) := by kernel_rfl
theorem facts13_6 : sz Tryz.prog 139 = some 1 := by kernel_rfl
theorem facts13_7 : nb Tryz.prog 139 = some 8 := by kernel_rfl
theorem facts13_8 : zeroV Tryz.prog 139 = some (.int .u64 0) := by kernel_rfl
theorem facts13_9 : und Tryz.prog 140 = .func := by kernel_rfl
theorem facts13_10 : und Tryz.prog 141 = .func := by kernel_rfl
theorem facts13_11 : und Tryz.prog 142 = .func := by kernel_rfl
theorem facts13_12 : und Tryz.prog 143 = .func := by kernel_rfl
theorem facts13_13 : und Tryz.prog 144 = .func := by kernel_rfl
theorem facts13_14 : und Tryz.prog 145 = .func := by kernel_rfl
theorem facts13_15 : und Tryz.prog 146 = .func := by kernel_rfl
theorem facts13_16 : und Tryz.prog 147 = .func := by kernel_rfl
theorem facts13_17 : und Tryz.prog 149 = .func := by kernel_rfl
theorem facts13_18 : und Tryz.prog 150 = .int .u64 := by kernel_rfl
theorem facts13_19 : tk Tryz.prog 150 = some (false, 1) := by kernel_rfl
theorem facts13_20 : sz Tryz.prog 150 = some 1 := by kernel_rfl
theorem facts13_21 : nb Tryz.prog 150 = some 8 := by kernel_rfl
theorem facts13_22 : zeroV Tryz.prog 150 = some (.int .u64 0) := by kernel_rfl
theorem facts13_23 : und Tryz.prog 151 = .slice 39 := by kernel_rfl
theorem facts13_24 : tk Tryz.prog 151 = some (false, 1) := by kernel_rfl
theorem facts13_25 : sz Tryz.prog 151 = some 1 := by kernel_rfl
theorem facts13_26 : nb Tryz.prog 151 = some 24 := by kernel_rfl
theorem facts13_27 : zeroV Tryz.prog 151 = some (.slice none 0 0) := by kernel_rfl
theorem facts13_28 : und Tryz.prog 152 = .func := by kernel_rfl
theorem facts13_29 : und Tryz.prog 153 = .func := by kernel_rfl
theorem facts13_30 : und Tryz.prog 154 = .func := by kernel_rfl
theorem facts13_31 : und Tryz.prog 155 = .func := by kernel_rfl
theorem facts13_32 : und Tryz.prog 156 = .func := by kernel_rfl
theorem facts13_33 : und Tryz.prog 158 = .func := by kernel_rfl
theorem facts13_34 : und Tryz.prog 159 = .func := by kernel_rfl
theorem facts13_35 : und Tryz.prog 160 = .func := by kernel_rfl
theorem facts13_36 : und Tryz.prog 161 = .func := by kernel_rfl
theorem facts13_37 : und Tryz.prog 162 = .func := by kernel_rfl
theorem facts13_38 : und Tryz.prog 163 = .func := by kernel_rfl
theorem facts13_39 : und Tryz.prog 164 = .arr 24 5 := by kernel_rfl
theorem facts13 : tk Tryz.prog 138 = some (false, 1) ∧ sz Tryz.prog 138 = some 1 ∧ nb Tryz.prog 138 = some 8 ∧ zeroV Tryz.prog 138 = some (.pointer none) ∧ und Tryz.prog 139 = .int .u64 ∧ tk Tryz.prog 139 = some (false, 1) ∧ sz Tryz.prog 139 = some 1 ∧ nb Tryz.prog 139 = some 8 ∧ zeroV Tryz.prog 139 = some (.int .u64 0) ∧ und Tryz.prog 140 = .func ∧ und Tryz.prog 141 = .func ∧ und Tryz.prog 142 = .func ∧ und Tryz.prog 143 = .func ∧ und Tryz.prog 144 = .func ∧ und Tryz.prog 145 = .func ∧ und Tryz.prog 146 = .func ∧ und Tryz.prog 147 = .func ∧ und Tryz.prog 149 = .func ∧ und Tryz.prog 150 = .int .u64 ∧ tk Tryz.prog 150 = some (false, 1) ∧ sz Tryz.prog 150 = some 1 ∧ nb Tryz.prog 150 = some 8 ∧ zeroV Tryz.prog 150 = some (.int .u64 0) ∧ und Tryz.prog 151 = .slice 39 ∧ tk Tryz.prog 151 = some (false, 1) ∧ sz Tryz.prog 151 = some 1 ∧ nb Tryz.prog 151 = some 24 ∧ zeroV Tryz.prog 151 = some (.slice none 0 0) ∧ und Tryz.prog 152 = .func ∧ und Tryz.prog 153 = .func ∧ und Tryz.prog 154 = .func ∧ und Tryz.prog 155 = .func ∧ und Tryz.prog 156 = .func ∧ und Tryz.prog 158 = .func ∧ und Tryz.prog 159 = .func ∧ und Tryz.prog 160 = .func ∧ und Tryz.prog 161 = .func ∧ und Tryz.prog 162 = .func ∧ und Tryz.prog 163 = .func ∧ und Tryz.prog 164 = .arr 24 5 := ⟨facts13_0, facts13_1, facts13_2, facts13_3, facts13_4, facts13_5, facts13_6, facts13_7, facts13_8, facts13_9, facts13_10, facts13_11, facts13_12, facts13_13, facts13_14, facts13_15, facts13_16, facts13_17, facts13_18, facts13_19, facts13_20, facts13_21, facts13_22, facts13_23, facts13_24, facts13_25, facts13_26, facts13_27, facts13_28, facts13_29, facts13_30, facts13_31, facts13_32, facts13_33, facts13_34, facts13_35, facts13_36, facts13_37, facts13_38, facts13_39⟩
theorem facts14_0 : tk Tryz.prog 164 = some (true, 24) := by kernel_rfl
theorem facts14_1 : sz Tryz.prog 164 = some 24 := by kernel_rfl
theorem facts14_2 : nb Tryz.prog 164 = some 24 := by kernel_rfl
theorem facts14_3 : zeroV Tryz.prog 164 = some (.agg (rep 24 (.int .u8 0)).toArray) := by kernel_rfl
theorem facts14_4 : buildOk Tryz.prog 164 = true := by kernel_rfl
theorem facts14_5 : kinds Tryz.prog 164 = some [.int, .int, .int, .int, .int, .int, .int, .int, .int, .int, .int, .int, .int, .int, .int, .int, .int, .int, .int, .int, .int, .int, .int, .int] := by kernel_rfl
theorem facts14_6 : und Tryz.prog 165 = .func := by kernel_rfl
theorem facts14_7 : und Tryz.prog 166 = .func := by kernel_rfl
theorem facts14_8 : und Tryz.prog 168 = .func := by kernel_rfl
theorem facts14_9 : und Tryz.prog 169 = .func := by kernel_rfl
theorem facts14_10 : und Tryz.prog 170 = .int .i64 := by kernel_rfl
theorem facts14_11 : tk Tryz.prog 170 = some (false, 1) := by kernel_rfl
theorem facts14_12 : sz Tryz.prog 170 = some 1 := by kernel_rfl
theorem facts14_13 : nb Tryz.prog 170 = some 8 := by kernel_rfl
theorem facts14_14 : zeroV Tryz.prog 170 = some (.int .i64 0) := by kernel_rfl
theorem facts14_15 : und Tryz.prog 172 = .func := by kernel_rfl
theorem facts14_16 : und Tryz.prog 173 = .func := by kernel_rfl
theorem facts14_17 : und Tryz.prog 174 = .func := by kernel_rfl
theorem facts14_18 : und Tryz.prog 175 = .func := by kernel_rfl
theorem facts14_19 : und Tryz.prog 176 = .func := by kernel_rfl
theorem facts14_20 : und Tryz.prog 177 = .func := by kernel_rfl
theorem facts14_21 : und Tryz.prog 178 = .func := by kernel_rfl
theorem facts14_22 : und Tryz.prog 179 = .func := by kernel_rfl
theorem facts14_23 : und Tryz.prog 180 = .arr 20 139 := by kernel_rfl
theorem facts14_24 : tk Tryz.prog 180 = some (true, 20) := by kernel_rfl
theorem facts14_25 : sz Tryz.prog 180 = some 20 := by kernel_rfl
theorem facts14_26 : nb Tryz.prog 180 = some 160 := by kernel_rfl
theorem facts14_27 : zeroV Tryz.prog 180 = some (.agg (rep 20 (.int .u64 0)).toArray) := by kernel_rfl
theorem facts14_28 : buildOk Tryz.prog 180 = true := by kernel_rfl
theorem facts14_29 : kinds Tryz.prog 180 = some [.int, .int, .int, .int, .int, .int, .int, .int, .int, .int, .int, .int, .int, .int, .int, .int, .int, .int, .int, .int] := by kernel_rfl
theorem facts14_30 : und Tryz.prog 181 = .arr 65 5 := by kernel_rfl
theorem facts14_31 : tk Tryz.prog 181 = some (true, 65) := by kernel_rfl
theorem facts14_32 : sz Tryz.prog 181 = some 65 := by kernel_rfl
theorem facts14_33 : nb Tryz.prog 181 = some 65 := by kernel_rfl
theorem facts14_34 : zeroV Tryz.prog 181 = some (.agg (rep 65 (.int .u8 0)).toArray) := by kernel_rfl
theorem facts14_35 : buildOk Tryz.prog 181 = true := by kernel_rfl
theorem facts14_36 : kinds Tryz.prog 181 = some (List.replicate 65 .int) := by kernel_rfl
theorem facts14_37 : und Tryz.prog 182 = .int .u64 := by kernel_rfl
theorem facts14_38 : tk Tryz.prog 182 = some (false, 1) := by kernel_rfl
theorem facts14_39 : sz Tryz.prog 182 = some 1 := by kernel_rfl
theorem facts14 : tk Tryz.prog 164 = some (true, 24) ∧ sz Tryz.prog 164 = some 24 ∧ nb Tryz.prog 164 = some 24 ∧ zeroV Tryz.prog 164 = some (.agg (rep 24 (.int .u8 0)).toArray) ∧ buildOk Tryz.prog 164 = true ∧ kinds Tryz.prog 164 = some [.int, .int, .int, .int, .int, .int, .int, .int, .int, .int, .int, .int, .int, .int, .int, .int, .int, .int, .int, .int, .int, .int, .int, .int] ∧ und Tryz.prog 165 = .func ∧ und Tryz.prog 166 = .func ∧ und Tryz.prog 168 = .func ∧ und Tryz.prog 169 = .func ∧ und Tryz.prog 170 = .int .i64 ∧ tk Tryz.prog 170 = some (false, 1) ∧ sz Tryz.prog 170 = some 1 ∧ nb Tryz.prog 170 = some 8 ∧ zeroV Tryz.prog 170 = some (.int .i64 0) ∧ und Tryz.prog 172 = .func ∧ und Tryz.prog 173 = .func ∧ und Tryz.prog 174 = .func ∧ und Tryz.prog 175 = .func ∧ und Tryz.prog 176 = .func ∧ und Tryz.prog 177 = .func ∧ und Tryz.prog 178 = .func ∧ und Tryz.prog 179 = .func ∧ und Tryz.prog 180 = .arr 20 139 ∧ tk Tryz.prog 180 = some (true, 20) ∧ sz Tryz.prog 180 = some 20 ∧ nb Tryz.prog 180 = some 160 ∧ zeroV Tryz.prog 180 = some (.agg (rep 20 (.int .u64 0)).toArray) ∧ buildOk Tryz.prog 180 = true ∧ kinds Tryz.prog 180 = some [.int, .int, .int, .int, .int, .int, .int, .int, .int, .int, .int, .int, .int, .int, .int, .int, .int, .int, .int, .int] ∧ und Tryz.prog 181 = .arr 65 5 ∧ tk Tryz.prog 181 = some (true, 65) ∧ sz Tryz.prog 181 = some 65 ∧ nb Tryz.prog 181 = some 65 ∧ zeroV Tryz.prog 181 = some (.agg (rep 65 (.int .u8 0)).toArray) ∧ buildOk Tryz.prog 181 = true ∧ kinds Tryz.prog 181 = some (List.replicate 65 .int) ∧ und Tryz.prog 182 = .int .u64 ∧ tk Tryz.prog 182 = some (false, 1) ∧ sz Tryz.prog 182 = some 1 := ⟨facts14_0, facts14_1, facts14_2, facts14_3, facts14_4, facts14_5, facts14_6, facts14_7, facts14_8, facts14_9, facts14_10, facts14_11, facts14_12, facts14_13, facts14_14, facts14_15, facts14_16, facts14_17, facts14_18, facts14_19, facts14_20, facts14_21, facts14_22, facts14_23, facts14_24, facts14_25, facts14_26, facts14_27, facts14_28, facts14_29, facts14_30, facts14_31, facts14_32, facts14_33, facts14_34, facts14_35, facts14_36, facts14_37, facts14_38, facts14_39⟩
theorem facts15_0 : nb Tryz.prog 182 = some 8 := by kernel_rfl
theorem facts15_1 : zeroV Tryz.prog 182 = some (.int .u64 0) := by kernel_rfl
theorem facts15_2 : und Tryz.prog 183 = .func := by kernel_rfl
theorem facts15_3 : und Tryz.prog 184 = .func := by kernel_rfl
theorem facts15_4 : und Tryz.prog 185 = .func := by kernel_rfl
theorem facts15_5 : und Tryz.prog 186 = .ptr 3 := by kernel_rfl
theorem facts15_6 : tk Tryz.prog 186 = some (false, 1) := by kernel_rfl
theorem facts15_7 : sz Tryz.prog 186 = some 1 := by kernel_rfl
theorem facts15_8 : nb Tryz.prog 186 = some 8 := by kernel_rfl
theorem facts15_9 : zeroV Tryz.prog 186 = some (.pointer none) := by kernel_rfl
theorem facts15_10 : und Tryz.prog 187 = .func := by kernel_rfl
theorem facts15_11 : und Tryz.prog 188 = .ptr 182 := by kernel_rfl
theorem facts15_12 : tk Tryz.prog 188 = some (false, 1) := by kernel_rfl
theorem facts15_13 : sz Tryz.prog 188 = some 1 := by kernel_rfl
theorem facts15_14 : nb Tryz.prog 188 = some 8 := by kernel_rfl
theorem facts15_15 : zeroV Tryz.prog 188 = some (.pointer none) := by kernel_rfl
theorem facts15_16 : und Tryz.prog 190 = .func := by kernel_rfl
theorem facts15_17 : und Tryz.prog 191 = .arr 32 5 := by kernel_rfl
theorem facts15_18 : tk Tryz.prog 191 = some (true, 32) := by kernel_rfl
theorem facts15_19 : sz Tryz.prog 191 = some 32 := by kernel_rfl
theorem facts15_20 : nb Tryz.prog 191 = some 32 := by kernel_rfl
theorem facts15_21 : zeroV Tryz.prog 191 = some (.agg (rep 32 (.int .u8 0)).toArray) := by kernel_rfl
theorem facts15_22 : buildOk Tryz.prog 191 = true := by kernel_rfl
theorem facts15_23 : kinds Tryz.prog 191 = some (List.replicate 32 .int) := by kernel_rfl
theorem facts15_24 : und Tryz.prog 192 = .arr 64 5 := by kernel_rfl
theorem facts15_25 : tk Tryz.prog 192 = some (true, 64) := by kernel_rfl
theorem facts15_26 : sz Tryz.prog 192 = some 64 := by kernel_rfl
theorem facts15_27 : nb Tryz.prog 192 = some 64 := by kernel_rfl
theorem facts15_28 : zeroV Tryz.prog 192 = some (.agg (rep 64 (.int .u8 0)).toArray) := by kernel_rfl
theorem facts15_29 : buildOk Tryz.prog 192 = true := by kernel_rfl
theorem facts15_30 : kinds Tryz.prog 192 = some (List.replicate 64 .int) := by kernel_rfl
theorem facts15_31 : und Tryz.prog 200 = .func := by kernel_rfl
theorem facts15_32 : und Tryz.prog 205 = .func := by kernel_rfl
theorem facts15_33 : und Tryz.prog 206 = .func := by kernel_rfl
theorem facts15_34 : Tryz.prog.follows .mixedOrders = true := by kernel_rfl
theorem facts15_35 : callable Tryz.prog 3 = true := by kernel_rfl
theorem facts15_36 : callable Tryz.prog 4 = true := by kernel_rfl
theorem facts15_37 : callable Tryz.prog 5 = true := by kernel_rfl
theorem facts15_38 : callable Tryz.prog 6 = true := by kernel_rfl
theorem facts15_39 : callable Tryz.prog 7 = true := by kernel_rfl
theorem facts15 : nb Tryz.prog 182 = some 8 ∧ zeroV Tryz.prog 182 = some (.int .u64 0) ∧ und Tryz.prog 183 = .func ∧ und Tryz.prog 184 = .func ∧ und Tryz.prog 185 = .func ∧ und Tryz.prog 186 = .ptr 3 ∧ tk Tryz.prog 186 = some (false, 1) ∧ sz Tryz.prog 186 = some 1 ∧ nb Tryz.prog 186 = some 8 ∧ zeroV Tryz.prog 186 = some (.pointer none) ∧ und Tryz.prog 187 = .func ∧ und Tryz.prog 188 = .ptr 182 ∧ tk Tryz.prog 188 = some (false, 1) ∧ sz Tryz.prog 188 = some 1 ∧ nb Tryz.prog 188 = some 8 ∧ zeroV Tryz.prog 188 = some (.pointer none) ∧ und Tryz.prog 190 = .func ∧ und Tryz.prog 191 = .arr 32 5 ∧ tk Tryz.prog 191 = some (true, 32) ∧ sz Tryz.prog 191 = some 32 ∧ nb Tryz.prog 191 = some 32 ∧ zeroV Tryz.prog 191 = some (.agg (rep 32 (.int .u8 0)).toArray) ∧ buildOk Tryz.prog 191 = true ∧ kinds Tryz.prog 191 = some (List.replicate 32 .int) ∧ und Tryz.prog 192 = .arr 64 5 ∧ tk Tryz.prog 192 = some (true, 64) ∧ sz Tryz.prog 192 = some 64 ∧ nb Tryz.prog 192 = some 64 ∧ zeroV Tryz.prog 192 = some (.agg (rep 64 (.int .u8 0)).toArray) ∧ buildOk Tryz.prog 192 = true ∧ kinds Tryz.prog 192 = some (List.replicate 64 .int) ∧ und Tryz.prog 200 = .func ∧ und Tryz.prog 205 = .func ∧ und Tryz.prog 206 = .func ∧ Tryz.prog.follows .mixedOrders = true ∧ callable Tryz.prog 3 = true ∧ callable Tryz.prog 4 = true ∧ callable Tryz.prog 5 = true ∧ callable Tryz.prog 6 = true ∧ callable Tryz.prog 7 = true := ⟨facts15_0, facts15_1, facts15_2, facts15_3, facts15_4, facts15_5, facts15_6, facts15_7, facts15_8, facts15_9, facts15_10, facts15_11, facts15_12, facts15_13, facts15_14, facts15_15, facts15_16, facts15_17, facts15_18, facts15_19, facts15_20, facts15_21, facts15_22, facts15_23, facts15_24, facts15_25, facts15_26, facts15_27, facts15_28, facts15_29, facts15_30, facts15_31, facts15_32, facts15_33, facts15_34, facts15_35, facts15_36, facts15_37, facts15_38, facts15_39⟩
theorem facts16_0 : callable Tryz.prog 8 = true := by kernel_rfl
theorem facts16_1 : callable Tryz.prog 9 = true := by kernel_rfl
theorem facts16_2 : callable Tryz.prog 10 = true := by kernel_rfl
theorem facts16_3 : callable Tryz.prog 11 = true := by kernel_rfl
theorem facts16_4 : callable Tryz.prog 12 = true := by kernel_rfl
theorem facts16_5 : callable Tryz.prog 13 = true := by kernel_rfl
theorem facts16_6 : callable Tryz.prog 14 = true := by kernel_rfl
theorem facts16_7 : callable Tryz.prog 15 = true := by kernel_rfl
theorem facts16_8 : callable Tryz.prog 16 = true := by kernel_rfl
theorem facts16_9 : callable Tryz.prog 17 = true := by kernel_rfl
theorem facts16_10 : callable Tryz.prog 18 = true := by kernel_rfl
theorem facts16_11 : callable Tryz.prog 19 = true := by kernel_rfl
theorem facts16_12 : callable Tryz.prog 20 = true := by kernel_rfl
theorem facts16_13 : callable Tryz.prog 21 = true := by kernel_rfl
theorem facts16_14 : callable Tryz.prog 22 = true := by kernel_rfl
theorem facts16_15 : callable Tryz.prog 23 = true := by kernel_rfl
theorem facts16_16 : callable Tryz.prog 24 = true := by kernel_rfl
theorem facts16_17 : callable Tryz.prog 25 = true := by kernel_rfl
theorem facts16_18 : callable Tryz.prog 26 = true := by kernel_rfl
theorem facts16_19 : callable Tryz.prog 27 = true := by kernel_rfl
theorem facts16_20 : callable Tryz.prog 28 = true := by kernel_rfl
theorem facts16_21 : callable Tryz.prog 29 = true := by kernel_rfl
theorem facts16_22 : callable Tryz.prog 30 = true := by kernel_rfl
theorem facts16_23 : callable Tryz.prog 31 = true := by kernel_rfl
theorem facts16_24 : callable Tryz.prog 32 = true := by kernel_rfl
theorem facts16_25 : callable Tryz.prog 33 = true := by kernel_rfl
theorem facts16_26 : callable Tryz.prog 34 = true := by kernel_rfl
theorem facts16_27 : callable Tryz.prog 35 = true := by kernel_rfl
theorem facts16_28 : callable Tryz.prog 36 = true := by kernel_rfl
theorem facts16_29 : callable Tryz.prog 37 = true := by kernel_rfl
theorem facts16_30 : callable Tryz.prog 38 = true := by kernel_rfl
theorem facts16_31 : callable Tryz.prog 39 = true := by kernel_rfl
theorem facts16_32 : callable Tryz.prog 40 = true := by kernel_rfl
theorem facts16_33 : callable Tryz.prog 41 = true := by kernel_rfl
theorem facts16_34 : callable Tryz.prog 42 = true := by kernel_rfl
theorem facts16_35 : callable Tryz.prog 43 = true := by kernel_rfl
theorem facts16_36 : callable Tryz.prog 44 = true := by kernel_rfl
theorem facts16_37 : callable Tryz.prog 45 = true := by kernel_rfl
theorem facts16_38 : callable Tryz.prog 46 = true := by kernel_rfl
theorem facts16_39 : callable Tryz.prog 47 = true := by kernel_rfl
theorem facts16 : callable Tryz.prog 8 = true ∧ callable Tryz.prog 9 = true ∧ callable Tryz.prog 10 = true ∧ callable Tryz.prog 11 = true ∧ callable Tryz.prog 12 = true ∧ callable Tryz.prog 13 = true ∧ callable Tryz.prog 14 = true ∧ callable Tryz.prog 15 = true ∧ callable Tryz.prog 16 = true ∧ callable Tryz.prog 17 = true ∧ callable Tryz.prog 18 = true ∧ callable Tryz.prog 19 = true ∧ callable Tryz.prog 20 = true ∧ callable Tryz.prog 21 = true ∧ callable Tryz.prog 22 = true ∧ callable Tryz.prog 23 = true ∧ callable Tryz.prog 24 = true ∧ callable Tryz.prog 25 = true ∧ callable Tryz.prog 26 = true ∧ callable Tryz.prog 27 = true ∧ callable Tryz.prog 28 = true ∧ callable Tryz.prog 29 = true ∧ callable Tryz.prog 30 = true ∧ callable Tryz.prog 31 = true ∧ callable Tryz.prog 32 = true ∧ callable Tryz.prog 33 = true ∧ callable Tryz.prog 34 = true ∧ callable Tryz.prog 35 = true ∧ callable Tryz.prog 36 = true ∧ callable Tryz.prog 37 = true ∧ callable Tryz.prog 38 = true ∧ callable Tryz.prog 39 = true ∧ callable Tryz.prog 40 = true ∧ callable Tryz.prog 41 = true ∧ callable Tryz.prog 42 = true ∧ callable Tryz.prog 43 = true ∧ callable Tryz.prog 44 = true ∧ callable Tryz.prog 45 = true ∧ callable Tryz.prog 46 = true ∧ callable Tryz.prog 47 = true := ⟨facts16_0, facts16_1, facts16_2, facts16_3, facts16_4, facts16_5, facts16_6, facts16_7, facts16_8, facts16_9, facts16_10, facts16_11, facts16_12, facts16_13, facts16_14, facts16_15, facts16_16, facts16_17, facts16_18, facts16_19, facts16_20, facts16_21, facts16_22, facts16_23, facts16_24, facts16_25, facts16_26, facts16_27, facts16_28, facts16_29, facts16_30, facts16_31, facts16_32, facts16_33, facts16_34, facts16_35, facts16_36, facts16_37, facts16_38, facts16_39⟩
theorem facts17_0 : callable Tryz.prog 48 = true := by kernel_rfl
theorem facts17_1 : callable Tryz.prog 49 = true := by kernel_rfl
theorem facts17_2 : callable Tryz.prog 50 = true := by kernel_rfl
theorem facts17_3 : callable Tryz.prog 51 = true := by kernel_rfl
theorem facts17_4 : callable Tryz.prog 52 = true := by kernel_rfl
theorem facts17_5 : callable Tryz.prog 53 = true := by kernel_rfl
theorem facts17_6 : callable Tryz.prog 54 = true := by kernel_rfl
theorem facts17_7 : callable Tryz.prog 55 = true := by kernel_rfl
theorem facts17_8 : callable Tryz.prog 56 = true := by kernel_rfl
theorem facts17_9 : callable Tryz.prog 57 = true := by kernel_rfl
theorem facts17_10 : callable Tryz.prog 58 = true := by kernel_rfl
theorem facts17_11 : callable Tryz.prog 59 = true := by kernel_rfl
theorem facts17_12 : callable Tryz.prog 60 = true := by kernel_rfl
theorem facts17_13 : callable Tryz.prog 61 = true := by kernel_rfl
theorem facts17_14 : callable Tryz.prog 62 = true := by kernel_rfl
theorem facts17_15 : callable Tryz.prog 63 = true := by kernel_rfl
theorem facts17_16 : callable Tryz.prog 64 = true := by kernel_rfl
theorem facts17_17 : callable Tryz.prog 65 = true := by kernel_rfl
theorem facts17_18 : callable Tryz.prog 66 = true := by kernel_rfl
theorem facts17_19 : callable Tryz.prog 67 = true := by kernel_rfl
theorem facts17_20 : callable Tryz.prog 68 = true := by kernel_rfl
theorem facts17_21 : callable Tryz.prog 69 = true := by kernel_rfl
theorem facts17_22 : callable Tryz.prog 70 = false := by kernel_rfl
theorem facts17_23 : callable Tryz.prog 71 = true := by kernel_rfl
theorem facts17_24 : callable Tryz.prog 72 = true := by kernel_rfl
theorem facts17_25 : callable Tryz.prog 73 = true := by kernel_rfl
theorem facts17_26 : callable Tryz.prog 74 = true := by kernel_rfl
theorem facts17_27 : callable Tryz.prog 75 = true := by kernel_rfl
theorem facts17_28 : callable Tryz.prog 76 = true := by kernel_rfl
theorem facts17_29 : callable Tryz.prog 78 = true := by kernel_rfl
theorem facts17_30 : callable Tryz.prog 81 = true := by kernel_rfl
theorem facts17_31 : callable Tryz.prog 82 = true := by kernel_rfl
theorem facts17_32 : callable Tryz.prog 83 = true := by kernel_rfl
theorem facts17_33 : callable Tryz.prog 84 = true := by kernel_rfl
theorem facts17_34 : callable Tryz.prog 85 = true := by kernel_rfl
theorem facts17_35 : callable Tryz.prog 86 = true := by kernel_rfl
theorem facts17_36 : callable Tryz.prog 87 = true := by kernel_rfl
theorem facts17_37 : callable Tryz.prog 88 = true := by kernel_rfl
theorem facts17_38 : callable Tryz.prog 89 = true := by kernel_rfl
theorem facts17_39 : callable Tryz.prog 94 = true := by kernel_rfl
theorem facts17 : callable Tryz.prog 48 = true ∧ callable Tryz.prog 49 = true ∧ callable Tryz.prog 50 = true ∧ callable Tryz.prog 51 = true ∧ callable Tryz.prog 52 = true ∧ callable Tryz.prog 53 = true ∧ callable Tryz.prog 54 = true ∧ callable Tryz.prog 55 = true ∧ callable Tryz.prog 56 = true ∧ callable Tryz.prog 57 = true ∧ callable Tryz.prog 58 = true ∧ callable Tryz.prog 59 = true ∧ callable Tryz.prog 60 = true ∧ callable Tryz.prog 61 = true ∧ callable Tryz.prog 62 = true ∧ callable Tryz.prog 63 = true ∧ callable Tryz.prog 64 = true ∧ callable Tryz.prog 65 = true ∧ callable Tryz.prog 66 = true ∧ callable Tryz.prog 67 = true ∧ callable Tryz.prog 68 = true ∧ callable Tryz.prog 69 = true ∧ callable Tryz.prog 70 = false ∧ callable Tryz.prog 71 = true ∧ callable Tryz.prog 72 = true ∧ callable Tryz.prog 73 = true ∧ callable Tryz.prog 74 = true ∧ callable Tryz.prog 75 = true ∧ callable Tryz.prog 76 = true ∧ callable Tryz.prog 78 = true ∧ callable Tryz.prog 81 = true ∧ callable Tryz.prog 82 = true ∧ callable Tryz.prog 83 = true ∧ callable Tryz.prog 84 = true ∧ callable Tryz.prog 85 = true ∧ callable Tryz.prog 86 = true ∧ callable Tryz.prog 87 = true ∧ callable Tryz.prog 88 = true ∧ callable Tryz.prog 89 = true ∧ callable Tryz.prog 94 = true := ⟨facts17_0, facts17_1, facts17_2, facts17_3, facts17_4, facts17_5, facts17_6, facts17_7, facts17_8, facts17_9, facts17_10, facts17_11, facts17_12, facts17_13, facts17_14, facts17_15, facts17_16, facts17_17, facts17_18, facts17_19, facts17_20, facts17_21, facts17_22, facts17_23, facts17_24, facts17_25, facts17_26, facts17_27, facts17_28, facts17_29, facts17_30, facts17_31, facts17_32, facts17_33, facts17_34, facts17_35, facts17_36, facts17_37, facts17_38, facts17_39⟩
theorem facts18_0 : callable Tryz.prog 95 = true := by kernel_rfl
theorem facts18_1 : callable Tryz.prog 96 = true := by kernel_rfl
theorem facts18_2 : callable Tryz.prog 97 = true := by kernel_rfl
theorem facts18_3 : callable Tryz.prog 98 = true := by kernel_rfl
theorem facts18_4 : callable Tryz.prog 99 = true := by kernel_rfl
theorem facts18_5 : callable Tryz.prog 100 = true := by kernel_rfl
theorem facts18_6 : callable Tryz.prog 101 = true := by kernel_rfl
theorem facts18_7 : callable Tryz.prog 102 = true := by kernel_rfl
theorem facts18_8 : callable Tryz.prog 103 = true := by kernel_rfl
theorem facts18_9 : callable Tryz.prog 108 = true := by kernel_rfl
theorem facts18_10 : callable Tryz.prog 109 = true := by kernel_rfl
theorem facts18_11 : callable Tryz.prog 110 = true := by kernel_rfl
theorem facts18_12 : callable Tryz.prog 111 = true := by kernel_rfl
theorem facts18_13 : callable Tryz.prog 112 = true := by kernel_rfl
theorem facts18_14 : callable Tryz.prog 113 = true := by kernel_rfl
theorem facts18_15 : callable Tryz.prog 114 = true := by kernel_rfl
theorem facts18_16 : callable Tryz.prog 115 = true := by kernel_rfl
theorem facts18_17 : callable Tryz.prog 116 = true := by kernel_rfl
theorem facts18_18 : callable Tryz.prog 132 = false := by kernel_rfl
theorem facts18_19 : callable Tryz.prog 133 = false := by kernel_rfl
theorem facts18_20 : callable Tryz.prog 134 = false := by kernel_rfl
theorem facts18_21 : callable Tryz.prog 135 = false := by kernel_rfl
theorem facts18_22 : callable Tryz.prog 136 = false := by kernel_rfl
theorem facts18_23 : callable Tryz.prog 138 = false := by kernel_rfl
theorem facts18_24 : callable Tryz.prog 139 = false := by kernel_rfl
theorem facts18_25 : callable Tryz.prog 140 = false := by kernel_rfl
theorem facts18_26 : callable Tryz.prog 141 = false := by kernel_rfl
theorem facts18_27 : callable Tryz.prog 142 = false := by kernel_rfl
theorem facts18 : callable Tryz.prog 95 = true ∧ callable Tryz.prog 96 = true ∧ callable Tryz.prog 97 = true ∧ callable Tryz.prog 98 = true ∧ callable Tryz.prog 99 = true ∧ callable Tryz.prog 100 = true ∧ callable Tryz.prog 101 = true ∧ callable Tryz.prog 102 = true ∧ callable Tryz.prog 103 = true ∧ callable Tryz.prog 108 = true ∧ callable Tryz.prog 109 = true ∧ callable Tryz.prog 110 = true ∧ callable Tryz.prog 111 = true ∧ callable Tryz.prog 112 = true ∧ callable Tryz.prog 113 = true ∧ callable Tryz.prog 114 = true ∧ callable Tryz.prog 115 = true ∧ callable Tryz.prog 116 = true ∧ callable Tryz.prog 132 = false ∧ callable Tryz.prog 133 = false ∧ callable Tryz.prog 134 = false ∧ callable Tryz.prog 135 = false ∧ callable Tryz.prog 136 = false ∧ callable Tryz.prog 138 = false ∧ callable Tryz.prog 139 = false ∧ callable Tryz.prog 140 = false ∧ callable Tryz.prog 141 = false ∧ callable Tryz.prog 142 = false := ⟨facts18_0, facts18_1, facts18_2, facts18_3, facts18_4, facts18_5, facts18_6, facts18_7, facts18_8, facts18_9, facts18_10, facts18_11, facts18_12, facts18_13, facts18_14, facts18_15, facts18_16, facts18_17, facts18_18, facts18_19, facts18_20, facts18_21, facts18_22, facts18_23, facts18_24, facts18_25, facts18_26, facts18_27⟩
theorem facts : (und Tryz.prog 1 = .func ∧ und Tryz.prog 2 = .int .i64 ∧ tk Tryz.prog 2 = some (false, 1) ∧ sz Tryz.prog 2 = some 1 ∧ nb Tryz.prog 2 = some 8 ∧ zeroV Tryz.prog 2 = some (.int .i64 0) ∧ und Tryz.prog 3 = .int .i64 ∧ tk Tryz.prog 3 = some (false, 1) ∧ sz Tryz.prog 3 = some 1 ∧ nb Tryz.prog 3 = some 8 ∧ zeroV Tryz.prog 3 = some (.int .i64 0) ∧ und Tryz.prog 4 = .bool ∧ tk Tryz.prog 4 = some (false, 1) ∧ sz Tryz.prog 4 = some 1 ∧ nb Tryz.prog 4 = some 1 ∧ zeroV Tryz.prog 4 = some (.bool false) ∧ und Tryz.prog 5 = .int .u8 ∧ tk Tryz.prog 5 = some (false, 1) ∧ sz Tryz.prog 5 = some 1 ∧ nb Tryz.prog 5 = some 1 ∧ zeroV Tryz.prog 5 = some (.int .u8 0) ∧ und Tryz.prog 9 = .str ∧ tk Tryz.prog 9 = some (false, 1) ∧ sz Tryz.prog 9 = some 1 ∧ nb Tryz.prog 9 = some 16 ∧ zeroV Tryz.prog 9 = some (.string ByteArray.empty) ∧ und Tryz.prog 12 = .int .u64 ∧ tk Tryz.prog 12 = some (false, 1) ∧ sz Tryz.prog 12 = some 1 ∧ nb Tryz.prog 12 = some 8 ∧ zeroV Tryz.prog 12 = some (.int .u64 0) ∧ und Tryz.prog 13 = .struct ∧ tk Tryz.prog 13 = some (true, 2) ∧ sz Tryz.prog 13 = some 2 ∧ nb Tryz.prog 13 = some 24 ∧ zeroV Tryz.prog 13 = some (.agg #[.string ByteArray.empty, .int .u64 0]) ∧ fieldT Tryz.prog 13 0 = some (0, 9) ∧ fieldT Tryz.prog 13 1 = some (1, 12) ∧ buildOk Tryz.prog 13 = true ∧ und Tryz.prog 21 = .int .i32) ∧ (tk Tryz.prog 21 = some (false, 1) ∧ sz Tryz.prog 21 = some 1 ∧ nb Tryz.prog 21 = some 4 ∧ zeroV Tryz.prog 21 = some (.int .i32 0) ∧ und Tryz.prog 22 = .slice 44 ∧ tk Tryz.prog 22 = some (false, 1) ∧ sz Tryz.prog 22 = some 1 ∧ nb Tryz.prog 22 = some 24 ∧ zeroV Tryz.prog 22 = some (.slice none 0 0) ∧ und Tryz.prog 23 = .func ∧ und Tryz.prog 24 = .slice 60 ∧ tk Tryz.prog 24 = some (false, 1) ∧ sz Tryz.prog 24 = some 1 ∧ nb Tryz.prog 24 = some 24 ∧ zeroV Tryz.prog 24 = some (.slice none 0 0) ∧ und Tryz.prog 25 = .slice 9 ∧ tk Tryz.prog 25 = some (false, 1) ∧ sz Tryz.prog 25 = some 1 ∧ nb Tryz.prog 25 = some 24 ∧ zeroV Tryz.prog 25 = some (.slice none 0 0) ∧ und Tryz.prog 26 = .slice 2 ∧ tk Tryz.prog 26 = some (false, 1) ∧ sz Tryz.prog 26 = some 1 ∧ nb Tryz.prog 26 = some 24 ∧ zeroV Tryz.prog 26 = some (.slice none 0 0) ∧ und Tryz.prog 27 = .struct ∧ tk Tryz.prog 27 = some (true, 5) ∧ sz Tryz.prog 27 = some 5 ∧ nb Tryz.prog 27 = some 88 ∧ zeroV Tryz.prog 27 = some (.agg #[.slice none 0 0, .slice none 0 0, .slice none 0 0, .int .i64 0, .int .i64 0]) ∧ fieldT Tryz.prog 27 0 = some (0, 24) ∧ fieldT Tryz.prog 27 1 = some (1, 25) ∧ fieldT Tryz.prog 27 2 = some (2, 26) ∧ fieldT Tryz.prog 27 3 = some (3, 2) ∧ fieldT Tryz.prog 27 4 = some (4, 2) ∧ buildOk Tryz.prog 27 = true ∧ und Tryz.prog 28 = .struct ∧ tk Tryz.prog 28 = some (true, 5) ∧ sz Tryz.prog 28 = some 5 ∧ nb Tryz.prog 28 = some 88) ∧ (zeroV Tryz.prog 28 = some (.agg #[.slice none 0 0, .slice none 0 0, .slice none 0 0, .int .i64 0, .int .i64 0]) ∧ fieldT Tryz.prog 28 0 = some (0, 24) ∧ fieldT Tryz.prog 28 1 = some (1, 25) ∧ fieldT Tryz.prog 28 2 = some (2, 26) ∧ fieldT Tryz.prog 28 3 = some (3, 2) ∧ fieldT Tryz.prog 28 4 = some (4, 2) ∧ buildOk Tryz.prog 28 = true ∧ und Tryz.prog 29 = .func ∧ und Tryz.prog 30 = .ptr 74 ∧ tk Tryz.prog 30 = some (false, 1) ∧ sz Tryz.prog 30 = some 1 ∧ nb Tryz.prog 30 = some 8 ∧ zeroV Tryz.prog 30 = some (.pointer none) ∧ und Tryz.prog 31 = .func ∧ und Tryz.prog 32 = .ptr 56 ∧ tk Tryz.prog 32 = some (false, 1) ∧ sz Tryz.prog 32 = some 1 ∧ nb Tryz.prog 32 = some 8 ∧ zeroV Tryz.prog 32 = some (.pointer none) ∧ und Tryz.prog 33 = .func ∧ und Tryz.prog 34 = .int .u16 ∧ tk Tryz.prog 34 = some (false, 1) ∧ sz Tryz.prog 34 = some 1 ∧ nb Tryz.prog 34 = some 2 ∧ zeroV Tryz.prog 34 = some (.int .u16 0) ∧ und Tryz.prog 35 = .int .u32 ∧ tk Tryz.prog 35 = some (false, 1) ∧ sz Tryz.prog 35 = some 1 ∧ nb Tryz.prog 35 = some 4 ∧ zeroV Tryz.prog 35 = some (.int .u32 0) ∧ und Tryz.prog 36 = .struct ∧ tk Tryz.prog 36 = some (true, 2) ∧ sz Tryz.prog 36 = some 2 ∧ nb Tryz.prog 36 = some 8 ∧ zeroV Tryz.prog 36 = some (.agg #[.int .u16 0, .int .u32 0]) ∧ fieldT Tryz.prog 36 0 = some (0, 34) ∧ fieldT Tryz.prog 36 1 = some (1, 35) ∧ buildOk Tryz.prog 36 = true ∧ kinds Tryz.prog 36 = some [.int, .int] ∧ und Tryz.prog 37 = .struct) ∧ (tk Tryz.prog 37 = some (true, 2) ∧ sz Tryz.prog 37 = some 2 ∧ nb Tryz.prog 37 = some 8 ∧ zeroV Tryz.prog 37 = some (.agg #[.int .u16 0, .int .u32 0]) ∧ fieldT Tryz.prog 37 0 = some (0, 34) ∧ fieldT Tryz.prog 37 1 = some (1, 35) ∧ buildOk Tryz.prog 37 = true ∧ kinds Tryz.prog 37 = some [.int, .int] ∧ und Tryz.prog 38 = .arr 4 3 ∧ tk Tryz.prog 38 = some (true, 4) ∧ sz Tryz.prog 38 = some 4 ∧ nb Tryz.prog 38 = some 32 ∧ zeroV Tryz.prog 38 = some (.agg #[.int .i64 0, .int .i64 0, .int .i64 0, .int .i64 0]) ∧ buildOk Tryz.prog 38 = true ∧ kinds Tryz.prog 38 = some [.int, .int, .int, .int] ∧ und Tryz.prog 39 = .arr 4 3 ∧ tk Tryz.prog 39 = some (true, 4) ∧ sz Tryz.prog 39 = some 4 ∧ nb Tryz.prog 39 = some 32 ∧ zeroV Tryz.prog 39 = some (.agg #[.int .i64 0, .int .i64 0, .int .i64 0, .int .i64 0]) ∧ buildOk Tryz.prog 39 = true ∧ kinds Tryz.prog 39 = some [.int, .int, .int, .int] ∧ und Tryz.prog 40 = .struct ∧ tk Tryz.prog 40 = some (true, 17) ∧ sz Tryz.prog 40 = some 17 ∧ nb Tryz.prog 40 = some 136 ∧ zeroV Tryz.prog 40 = some (.agg (([.int .i64 0, .int .u16 0, .int .u32 0, .string ByteArray.empty] : List Value) ++ rep 13 (.int .i64 0)).toArray) ∧ fieldT Tryz.prog 40 0 = some (0, 3) ∧ fieldT Tryz.prog 40 1 = some (1, 37) ∧ fieldT Tryz.prog 40 2 = some (3, 9) ∧ fieldT Tryz.prog 40 3 = some (4, 2) ∧ fieldT Tryz.prog 40 4 = some (5, 39) ∧ fieldT Tryz.prog 40 5 = some (9, 39) ∧ fieldT Tryz.prog 40 6 = some (13, 39) ∧ buildOk Tryz.prog 40 = true ∧ kinds Tryz.prog 40 = some [.int, .int, .int, .str, .int, .int, .int, .int, .int, .int, .int, .int, .int, .int, .int, .int, .int] ∧ und Tryz.prog 41 = .struct ∧ tk Tryz.prog 41 = some (true, 17) ∧ sz Tryz.prog 41 = some 17 ∧ nb Tryz.prog 41 = some 136) ∧ (zeroV Tryz.prog 41 = some (.agg (([.int .i64 0, .int .u16 0, .int .u32 0, .string ByteArray.empty] : List Value) ++ rep 13 (.int .i64 0)).toArray) ∧ fieldT Tryz.prog 41 0 = some (0, 3) ∧ fieldT Tryz.prog 41 1 = some (1, 37) ∧ fieldT Tryz.prog 41 2 = some (3, 9) ∧ fieldT Tryz.prog 41 3 = some (4, 2) ∧ fieldT Tryz.prog 41 4 = some (5, 39) ∧ fieldT Tryz.prog 41 5 = some (9, 39) ∧ fieldT Tryz.prog 41 6 = some (13, 39) ∧ buildOk Tryz.prog 41 = true ∧ kinds Tryz.prog 41 = some [.int, .int, .int, .str, .int, .int, .int, .int, .int, .int, .int, .int, .int, .int, .int, .int, .int] ∧ und Tryz.prog 42 = .func ∧ und Tryz.prog 43 = .struct ∧ tk Tryz.prog 43 = some (true, 4) ∧ sz Tryz.prog 43 = some 4 ∧ nb Tryz.prog 43 = some 6 ∧ zeroV Tryz.prog 43 = some (.agg #[.int .u8 0, .int .u8 0, .int .u8 0, .int .u16 0]) ∧ fieldT Tryz.prog 43 0 = some (0, 5) ∧ fieldT Tryz.prog 43 1 = some (1, 5) ∧ fieldT Tryz.prog 43 2 = some (2, 5) ∧ fieldT Tryz.prog 43 3 = some (3, 34) ∧ buildOk Tryz.prog 43 = true ∧ kinds Tryz.prog 43 = some [.int, .int, .int, .int] ∧ und Tryz.prog 44 = .struct ∧ tk Tryz.prog 44 = some (true, 4) ∧ sz Tryz.prog 44 = some 4 ∧ nb Tryz.prog 44 = some 6 ∧ zeroV Tryz.prog 44 = some (.agg #[.int .u8 0, .int .u8 0, .int .u8 0, .int .u16 0]) ∧ fieldT Tryz.prog 44 0 = some (0, 5) ∧ fieldT Tryz.prog 44 1 = some (1, 5) ∧ fieldT Tryz.prog 44 2 = some (2, 5) ∧ fieldT Tryz.prog 44 3 = some (3, 34) ∧ buildOk Tryz.prog 44 = true ∧ kinds Tryz.prog 44 = some [.int, .int, .int, .int] ∧ und Tryz.prog 45 = .int .i64 ∧ tk Tryz.prog 45 = some (false, 1) ∧ sz Tryz.prog 45 = some 1 ∧ nb Tryz.prog 45 = some 8 ∧ zeroV Tryz.prog 45 = some (.int .i64 0) ∧ und Tryz.prog 46 = .func ∧ und Tryz.prog 47 = .func) ∧ (und Tryz.prog 49 = .func ∧ und Tryz.prog 50 = .func ∧ und Tryz.prog 51 = .func ∧ und Tryz.prog 52 = .slice 67 ∧ tk Tryz.prog 52 = some (false, 1) ∧ sz Tryz.prog 52 = some 1 ∧ nb Tryz.prog 52 = some 24 ∧ zeroV Tryz.prog 52 = some (.slice none 0 0) ∧ und Tryz.prog 53 = .func ∧ und Tryz.prog 54 = .slice 86 ∧ tk Tryz.prog 54 = some (false, 1) ∧ sz Tryz.prog 54 = some 1 ∧ nb Tryz.prog 54 = some 24 ∧ zeroV Tryz.prog 54 = some (.slice none 0 0) ∧ und Tryz.prog 55 = .struct ∧ tk Tryz.prog 55 = some (true, 2) ∧ sz Tryz.prog 55 = some 2 ∧ nb Tryz.prog 55 = some 48 ∧ zeroV Tryz.prog 55 = some (.agg #[.slice none 0 0, .slice none 0 0]) ∧ fieldT Tryz.prog 55 0 = some (0, 54) ∧ fieldT Tryz.prog 55 1 = some (1, 52) ∧ buildOk Tryz.prog 55 = true ∧ und Tryz.prog 56 = .struct ∧ tk Tryz.prog 56 = some (true, 2) ∧ sz Tryz.prog 56 = some 2 ∧ nb Tryz.prog 56 = some 48 ∧ zeroV Tryz.prog 56 = some (.agg #[.slice none 0 0, .slice none 0 0]) ∧ fieldT Tryz.prog 56 0 = some (0, 54) ∧ fieldT Tryz.prog 56 1 = some (1, 52) ∧ buildOk Tryz.prog 56 = true ∧ und Tryz.prog 57 = .func ∧ und Tryz.prog 58 = .struct ∧ tk Tryz.prog 58 = some (true, 4) ∧ sz Tryz.prog 58 = some 4 ∧ nb Tryz.prog 58 = some 32 ∧ zeroV Tryz.prog 58 = some (.agg #[.int .i64 0, .int .i64 0, .int .i64 0, .int .i64 0]) ∧ fieldT Tryz.prog 58 0 = some (0, 2) ∧ fieldT Tryz.prog 58 1 = some (1, 3) ∧ fieldT Tryz.prog 58 2 = some (2, 3) ∧ fieldT Tryz.prog 58 3 = some (3, 3)) ∧ (buildOk Tryz.prog 58 = true ∧ kinds Tryz.prog 58 = some [.int, .int, .int, .int] ∧ und Tryz.prog 59 = .struct ∧ tk Tryz.prog 59 = some (true, 4) ∧ sz Tryz.prog 59 = some 4 ∧ nb Tryz.prog 59 = some 32 ∧ zeroV Tryz.prog 59 = some (.agg #[.int .i64 0, .int .i64 0, .int .i64 0, .int .i64 0]) ∧ fieldT Tryz.prog 59 0 = some (0, 2) ∧ fieldT Tryz.prog 59 1 = some (1, 3) ∧ fieldT Tryz.prog 59 2 = some (2, 3) ∧ fieldT Tryz.prog 59 3 = some (3, 3) ∧ buildOk Tryz.prog 59 = true ∧ kinds Tryz.prog 59 = some [.int, .int, .int, .int] ∧ und Tryz.prog 60 = .arr 4 59 ∧ tk Tryz.prog 60 = some (true, 16) ∧ sz Tryz.prog 60 = some 16 ∧ nb Tryz.prog 60 = some 128 ∧ zeroV Tryz.prog 60 = some (.agg (rep 16 (.int .i64 0)).toArray) ∧ buildOk Tryz.prog 60 = true ∧ kinds Tryz.prog 60 = some [.int, .int, .int, .int, .int, .int, .int, .int, .int, .int, .int, .int, .int, .int, .int, .int] ∧ und Tryz.prog 61 = .func ∧ und Tryz.prog 62 = .slice 69 ∧ tk Tryz.prog 62 = some (false, 1) ∧ sz Tryz.prog 62 = some 1 ∧ nb Tryz.prog 62 = some 24 ∧ zeroV Tryz.prog 62 = some (.slice none 0 0) ∧ und Tryz.prog 63 = .func ∧ und Tryz.prog 65 = .func ∧ und Tryz.prog 66 = .struct ∧ tk Tryz.prog 66 = some (true, 11) ∧ sz Tryz.prog 66 = some 11 ∧ nb Tryz.prog 66 = some 88 ∧ zeroV Tryz.prog 66 = some (.agg #[.int .u16 0, .int .u32 0, .string ByteArray.empty, .int .i64 0, .int .i64 0, .int .i64 0, .int .i64 0, .int .i64 0, .int .i64 0, .int .i64 0, .int .i64 0]) ∧ fieldT Tryz.prog 66 0 = some (0, 37) ∧ fieldT Tryz.prog 66 1 = some (2, 9) ∧ fieldT Tryz.prog 66 2 = some (3, 2) ∧ fieldT Tryz.prog 66 3 = some (4, 3) ∧ fieldT Tryz.prog 66 4 = some (5, 39) ∧ fieldT Tryz.prog 66 5 = some (9, 2) ∧ fieldT Tryz.prog 66 6 = some (10, 2)) ∧ (buildOk Tryz.prog 66 = true ∧ kinds Tryz.prog 66 = some [.int, .int, .str, .int, .int, .int, .int, .int, .int, .int, .int] ∧ und Tryz.prog 67 = .struct ∧ tk Tryz.prog 67 = some (true, 11) ∧ sz Tryz.prog 67 = some 11 ∧ nb Tryz.prog 67 = some 88 ∧ zeroV Tryz.prog 67 = some (.agg #[.int .u16 0, .int .u32 0, .string ByteArray.empty, .int .i64 0, .int .i64 0, .int .i64 0, .int .i64 0, .int .i64 0, .int .i64 0, .int .i64 0, .int .i64 0]) ∧ fieldT Tryz.prog 67 0 = some (0, 37) ∧ fieldT Tryz.prog 67 1 = some (2, 9) ∧ fieldT Tryz.prog 67 2 = some (3, 2) ∧ fieldT Tryz.prog 67 3 = some (4, 3) ∧ fieldT Tryz.prog 67 4 = some (5, 39) ∧ fieldT Tryz.prog 67 5 = some (9, 2) ∧ fieldT Tryz.prog 67 6 = some (10, 2) ∧ buildOk Tryz.prog 67 = true ∧ kinds Tryz.prog 67 = some [.int, .int, .str, .int, .int, .int, .int, .int, .int, .int, .int] ∧ und Tryz.prog 68 = .struct ∧ tk Tryz.prog 68 = some (true, 3) ∧ sz Tryz.prog 68 = some 3 ∧ nb Tryz.prog 68 = some 24 ∧ zeroV Tryz.prog 68 = some (.agg #[.int .i64 0, .int .i64 0, .int .i64 0]) ∧ fieldT Tryz.prog 68 0 = some (0, 3) ∧ fieldT Tryz.prog 68 1 = some (1, 3) ∧ fieldT Tryz.prog 68 2 = some (2, 3) ∧ buildOk Tryz.prog 68 = true ∧ kinds Tryz.prog 68 = some [.int, .int, .int] ∧ und Tryz.prog 69 = .struct ∧ tk Tryz.prog 69 = some (true, 3) ∧ sz Tryz.prog 69 = some 3 ∧ nb Tryz.prog 69 = some 24 ∧ zeroV Tryz.prog 69 = some (.agg #[.int .i64 0, .int .i64 0, .int .i64 0]) ∧ fieldT Tryz.prog 69 0 = some (0, 3) ∧ fieldT Tryz.prog 69 1 = some (1, 3) ∧ fieldT Tryz.prog 69 2 = some (2, 3) ∧ buildOk Tryz.prog 69 = true ∧ kinds Tryz.prog 69 = some [.int, .int, .int] ∧ und Tryz.prog 70 = .func ∧ und Tryz.prog 71 = .map 37 67 ∧ tk Tryz.prog 71 = some (false, 1) ∧ sz Tryz.prog 71 = some 1) ∧ (nb Tryz.prog 71 = some 8 ∧ zeroV Tryz.prog 71 = some (.map none) ∧ und Tryz.prog 72 = .slice 81 ∧ tk Tryz.prog 72 = some (false, 1) ∧ sz Tryz.prog 72 = some 1 ∧ nb Tryz.prog 72 = some 24 ∧ zeroV Tryz.prog 72 = some (.slice none 0 0) ∧ und Tryz.prog 73 = .struct ∧ tk Tryz.prog 73 = some (true, 3) ∧ sz Tryz.prog 73 = some 3 ∧ nb Tryz.prog 73 = some 56 ∧ zeroV Tryz.prog 73 = some (.agg #[.slice none 0 0, .slice none 0 0, .map none]) ∧ fieldT Tryz.prog 73 0 = some (0, 72) ∧ fieldT Tryz.prog 73 1 = some (1, 72) ∧ fieldT Tryz.prog 73 2 = some (2, 71) ∧ buildOk Tryz.prog 73 = true ∧ und Tryz.prog 74 = .struct ∧ tk Tryz.prog 74 = some (true, 3) ∧ sz Tryz.prog 74 = some 3 ∧ nb Tryz.prog 74 = some 56 ∧ zeroV Tryz.prog 74 = some (.agg #[.slice none 0 0, .slice none 0 0, .map none]) ∧ fieldT Tryz.prog 74 0 = some (0, 72) ∧ fieldT Tryz.prog 74 1 = some (1, 72) ∧ fieldT Tryz.prog 74 2 = some (2, 71) ∧ buildOk Tryz.prog 74 = true ∧ und Tryz.prog 75 = .func ∧ und Tryz.prog 76 = .struct ∧ tk Tryz.prog 76 = some (true, 16) ∧ sz Tryz.prog 76 = some 16 ∧ nb Tryz.prog 76 = some 128 ∧ zeroV Tryz.prog 76 = some (.agg (rep 16 (.int .i64 0)).toArray) ∧ fieldT Tryz.prog 76 0 = some (0, 60) ∧ buildOk Tryz.prog 76 = true ∧ kinds Tryz.prog 76 = some [.int, .int, .int, .int, .int, .int, .int, .int, .int, .int, .int, .int, .int, .int, .int, .int] ∧ und Tryz.prog 77 = .struct ∧ tk Tryz.prog 77 = some (true, 16) ∧ sz Tryz.prog 77 = some 16 ∧ nb Tryz.prog 77 = some 128 ∧ zeroV Tryz.prog 77 = some (.agg (rep 16 (.int .i64 0)).toArray) ∧ fieldT Tryz.prog 77 0 = some (0, 60)) ∧ (buildOk Tryz.prog 77 = true ∧ kinds Tryz.prog 77 = some [.int, .int, .int, .int, .int, .int, .int, .int, .int, .int, .int, .int, .int, .int, .int, .int] ∧ und Tryz.prog 78 = .ptr 77 ∧ tk Tryz.prog 78 = some (false, 1) ∧ sz Tryz.prog 78 = some 1 ∧ nb Tryz.prog 78 = some 8 ∧ zeroV Tryz.prog 78 = some (.pointer none) ∧ und Tryz.prog 79 = .func ∧ und Tryz.prog 80 = .struct ∧ tk Tryz.prog 80 = some (true, 18) ∧ sz Tryz.prog 80 = some 18 ∧ nb Tryz.prog 80 = some 144 ∧ zeroV Tryz.prog 80 = some (.agg (rep 16 (.int .i64 0) ++ ([.bool false, .int .i64 0] : List Value)).toArray) ∧ fieldT Tryz.prog 80 0 = some (0, 77) ∧ fieldT Tryz.prog 80 1 = some (16, 4) ∧ fieldT Tryz.prog 80 2 = some (17, 3) ∧ buildOk Tryz.prog 80 = true ∧ kinds Tryz.prog 80 = some [.int, .int, .int, .int, .int, .int, .int, .int, .int, .int, .int, .int, .int, .int, .int, .int, .bool, .int] ∧ und Tryz.prog 81 = .struct ∧ tk Tryz.prog 81 = some (true, 18) ∧ sz Tryz.prog 81 = some 18 ∧ nb Tryz.prog 81 = some 144 ∧ zeroV Tryz.prog 81 = some (.agg (rep 16 (.int .i64 0) ++ ([.bool false, .int .i64 0] : List Value)).toArray) ∧ fieldT Tryz.prog 81 0 = some (0, 77) ∧ fieldT Tryz.prog 81 1 = some (16, 4) ∧ fieldT Tryz.prog 81 2 = some (17, 3) ∧ buildOk Tryz.prog 81 = true ∧ kinds Tryz.prog 81 = some [.int, .int, .int, .int, .int, .int, .int, .int, .int, .int, .int, .int, .int, .int, .int, .int, .bool, .int] ∧ und Tryz.prog 82 = .func ∧ und Tryz.prog 83 = .ptr 93 ∧ tk Tryz.prog 83 = some (false, 1) ∧ sz Tryz.prog 83 = some 1 ∧ nb Tryz.prog 83 = some 8 ∧ zeroV Tryz.prog 83 = some (.pointer none) ∧ und Tryz.prog 84 = .func ∧ und Tryz.prog 85 = .struct ∧ tk Tryz.prog 85 = some (true, 3) ∧ sz Tryz.prog 85 = some 3 ∧ nb Tryz.prog 85 = some 24 ∧ zeroV Tryz.prog 85 = some (.agg #[.pointer none, .bool false, .int .i64 0])) ∧ (fieldT Tryz.prog 85 0 = some (0, 83) ∧ fieldT Tryz.prog 85 1 = some (1, 4) ∧ fieldT Tryz.prog 85 2 = some (2, 3) ∧ buildOk Tryz.prog 85 = true ∧ und Tryz.prog 86 = .struct ∧ tk Tryz.prog 86 = some (true, 3) ∧ sz Tryz.prog 86 = some 3 ∧ nb Tryz.prog 86 = some 24 ∧ zeroV Tryz.prog 86 = some (.agg #[.pointer none, .bool false, .int .i64 0]) ∧ fieldT Tryz.prog 86 0 = some (0, 83) ∧ fieldT Tryz.prog 86 1 = some (1, 4) ∧ fieldT Tryz.prog 86 2 = some (2, 3) ∧ buildOk Tryz.prog 86 = true ∧ und Tryz.prog 87 = .func ∧ und Tryz.prog 88 = .func ∧ und Tryz.prog 89 = .func ∧ und Tryz.prog 90 = .func ∧ und Tryz.prog 91 = .ptr 86 ∧ tk Tryz.prog 91 = some (false, 1) ∧ sz Tryz.prog 91 = some 1 ∧ nb Tryz.prog 91 = some 8 ∧ zeroV Tryz.prog 91 = some (.pointer none) ∧ und Tryz.prog 92 = .struct ∧ tk Tryz.prog 92 = some (true, 16) ∧ sz Tryz.prog 92 = some 16 ∧ nb Tryz.prog 92 = some 128 ∧ zeroV Tryz.prog 92 = some (.agg (rep 16 (.int .i64 0)).toArray) ∧ fieldT Tryz.prog 92 0 = some (0, 60) ∧ buildOk Tryz.prog 92 = true ∧ kinds Tryz.prog 92 = some [.int, .int, .int, .int, .int, .int, .int, .int, .int, .int, .int, .int, .int, .int, .int, .int] ∧ und Tryz.prog 93 = .struct ∧ tk Tryz.prog 93 = some (true, 16) ∧ sz Tryz.prog 93 = some 16 ∧ nb Tryz.prog 93 = some 128 ∧ zeroV Tryz.prog 93 = some (.agg (rep 16 (.int .i64 0)).toArray) ∧ fieldT Tryz.prog 93 0 = some (0, 60) ∧ buildOk Tryz.prog 93 = true ∧ kinds Tryz.prog 93 = some [.int, .int, .int, .int, .int, .int, .int, .int, .int, .int, .int, .int, .int, .int, .int, .int] ∧ und Tryz.prog 94 = .func ∧ und Tryz.prog 95 = .func) ∧ (und Tryz.prog 97 = .func ∧ und Tryz.prog 99 = .func ∧ und Tryz.prog 100 = .ptr 103 ∧ tk Tryz.prog 100 = some (false, 1) ∧ sz Tryz.prog 100 = some 1 ∧ nb Tryz.prog 100 = some 8 ∧ zeroV Tryz.prog 100 = some (.pointer none) ∧ und Tryz.prog 101 = .slice 5 ∧ tk Tryz.prog 101 = some (false, 1) ∧ sz Tryz.prog 101 = some 1 ∧ nb Tryz.prog 101 = some 24 ∧ zeroV Tryz.prog 101 = some (.slice none 0 0) ∧ und Tryz.prog 102 = .struct ∧ tk Tryz.prog 102 = some (true, 2) ∧ sz Tryz.prog 102 = some 2 ∧ nb Tryz.prog 102 = some 32 ∧ zeroV Tryz.prog 102 = some (.agg #[.pointer none, .slice none 0 0]) ∧ fieldT Tryz.prog 102 0 = some (0, 100) ∧ fieldT Tryz.prog 102 1 = some (1, 101) ∧ buildOk Tryz.prog 102 = true ∧ und Tryz.prog 103 = .struct ∧ tk Tryz.prog 103 = some (true, 2) ∧ sz Tryz.prog 103 = some 2 ∧ nb Tryz.prog 103 = some 32 ∧ zeroV Tryz.prog 103 = some (.agg #[.pointer none, .slice none 0 0]) ∧ fieldT Tryz.prog 103 0 = some (0, 100) ∧ fieldT Tryz.prog 103 1 = some (1, 101) ∧ buildOk Tryz.prog 103 = true ∧ und Tryz.prog 104 = .func ∧ und Tryz.prog 108 = .func ∧ und Tryz.prog 109 = .func ∧ und Tryz.prog 110 = .func ∧ und Tryz.prog 111 = .func ∧ und Tryz.prog 112 = .func ∧ und Tryz.prog 113 = .slice 37 ∧ tk Tryz.prog 113 = some (false, 1) ∧ sz Tryz.prog 113 = some 1 ∧ nb Tryz.prog 113 = some 24 ∧ zeroV Tryz.prog 113 = some (.slice none 0 0) ∧ und Tryz.prog 114 = .func) ∧ (und Tryz.prog 115 = .func ∧ und Tryz.prog 116 = .func ∧ und Tryz.prog 117 = .func ∧ und Tryz.prog 118 = .func ∧ und Tryz.prog 119 = .arr 4 2 ∧ tk Tryz.prog 119 = some (true, 4) ∧ sz Tryz.prog 119 = some 4 ∧ nb Tryz.prog 119 = some 32 ∧ zeroV Tryz.prog 119 = some (.agg #[.int .i64 0, .int .i64 0, .int .i64 0, .int .i64 0]) ∧ buildOk Tryz.prog 119 = true ∧ kinds Tryz.prog 119 = some [.int, .int, .int, .int] ∧ und Tryz.prog 120 = .slice 119 ∧ tk Tryz.prog 120 = some (false, 1) ∧ sz Tryz.prog 120 = some 1 ∧ nb Tryz.prog 120 = some 24 ∧ zeroV Tryz.prog 120 = some (.slice none 0 0) ∧ und Tryz.prog 121 = .slice 3 ∧ tk Tryz.prog 121 = some (false, 1) ∧ sz Tryz.prog 121 = some 1 ∧ nb Tryz.prog 121 = some 24 ∧ zeroV Tryz.prog 121 = some (.slice none 0 0) ∧ und Tryz.prog 122 = .func ∧ und Tryz.prog 123 = .func ∧ und Tryz.prog 124 = .func ∧ und Tryz.prog 125 = .map 9 4 ∧ tk Tryz.prog 125 = some (false, 1) ∧ sz Tryz.prog 125 = some 1 ∧ nb Tryz.prog 125 = some 8 ∧ zeroV Tryz.prog 125 = some (.map none) ∧ und Tryz.prog 126 = .func ∧ und Tryz.prog 127 = .func ∧ und Tryz.prog 128 = .func ∧ und Tryz.prog 129 = .func ∧ und Tryz.prog 132 = .func ∧ und Tryz.prog 133 = .func ∧ und Tryz.prog 134 = .func ∧ und Tryz.prog 135 = .func ∧ und Tryz.prog 136 = .func ∧ und Tryz.prog 137 = .func ∧ und Tryz.prog 138 = .ptr 5) ∧ (tk Tryz.prog 138 = some (false, 1) ∧ sz Tryz.prog 138 = some 1 ∧ nb Tryz.prog 138 = some 8 ∧ zeroV Tryz.prog 138 = some (.pointer none) ∧ und Tryz.prog 139 = .int .u64 ∧ tk Tryz.prog 139 = some (false, 1) ∧ sz Tryz.prog 139 = some 1 ∧ nb Tryz.prog 139 = some 8 ∧ zeroV Tryz.prog 139 = some (.int .u64 0) ∧ und Tryz.prog 140 = .func ∧ und Tryz.prog 141 = .func ∧ und Tryz.prog 142 = .func ∧ und Tryz.prog 143 = .func ∧ und Tryz.prog 144 = .func ∧ und Tryz.prog 145 = .func ∧ und Tryz.prog 146 = .func ∧ und Tryz.prog 147 = .func ∧ und Tryz.prog 149 = .func ∧ und Tryz.prog 150 = .int .u64 ∧ tk Tryz.prog 150 = some (false, 1) ∧ sz Tryz.prog 150 = some 1 ∧ nb Tryz.prog 150 = some 8 ∧ zeroV Tryz.prog 150 = some (.int .u64 0) ∧ und Tryz.prog 151 = .slice 39 ∧ tk Tryz.prog 151 = some (false, 1) ∧ sz Tryz.prog 151 = some 1 ∧ nb Tryz.prog 151 = some 24 ∧ zeroV Tryz.prog 151 = some (.slice none 0 0) ∧ und Tryz.prog 152 = .func ∧ und Tryz.prog 153 = .func ∧ und Tryz.prog 154 = .func ∧ und Tryz.prog 155 = .func ∧ und Tryz.prog 156 = .func ∧ und Tryz.prog 158 = .func ∧ und Tryz.prog 159 = .func ∧ und Tryz.prog 160 = .func ∧ und Tryz.prog 161 = .func ∧ und Tryz.prog 162 = .func ∧ und Tryz.prog 163 = .func ∧ und Tryz.prog 164 = .arr 24 5) ∧ (tk Tryz.prog 164 = some (true, 24) ∧ sz Tryz.prog 164 = some 24 ∧ nb Tryz.prog 164 = some 24 ∧ zeroV Tryz.prog 164 = some (.agg (rep 24 (.int .u8 0)).toArray) ∧ buildOk Tryz.prog 164 = true ∧ kinds Tryz.prog 164 = some [.int, .int, .int, .int, .int, .int, .int, .int, .int, .int, .int, .int, .int, .int, .int, .int, .int, .int, .int, .int, .int, .int, .int, .int] ∧ und Tryz.prog 165 = .func ∧ und Tryz.prog 166 = .func ∧ und Tryz.prog 168 = .func ∧ und Tryz.prog 169 = .func ∧ und Tryz.prog 170 = .int .i64 ∧ tk Tryz.prog 170 = some (false, 1) ∧ sz Tryz.prog 170 = some 1 ∧ nb Tryz.prog 170 = some 8 ∧ zeroV Tryz.prog 170 = some (.int .i64 0) ∧ und Tryz.prog 172 = .func ∧ und Tryz.prog 173 = .func ∧ und Tryz.prog 174 = .func ∧ und Tryz.prog 175 = .func ∧ und Tryz.prog 176 = .func ∧ und Tryz.prog 177 = .func ∧ und Tryz.prog 178 = .func ∧ und Tryz.prog 179 = .func ∧ und Tryz.prog 180 = .arr 20 139 ∧ tk Tryz.prog 180 = some (true, 20) ∧ sz Tryz.prog 180 = some 20 ∧ nb Tryz.prog 180 = some 160 ∧ zeroV Tryz.prog 180 = some (.agg (rep 20 (.int .u64 0)).toArray) ∧ buildOk Tryz.prog 180 = true ∧ kinds Tryz.prog 180 = some [.int, .int, .int, .int, .int, .int, .int, .int, .int, .int, .int, .int, .int, .int, .int, .int, .int, .int, .int, .int] ∧ und Tryz.prog 181 = .arr 65 5 ∧ tk Tryz.prog 181 = some (true, 65) ∧ sz Tryz.prog 181 = some 65 ∧ nb Tryz.prog 181 = some 65 ∧ zeroV Tryz.prog 181 = some (.agg (rep 65 (.int .u8 0)).toArray) ∧ buildOk Tryz.prog 181 = true ∧ kinds Tryz.prog 181 = some (List.replicate 65 .int) ∧ und Tryz.prog 182 = .int .u64 ∧ tk Tryz.prog 182 = some (false, 1) ∧ sz Tryz.prog 182 = some 1) ∧ (nb Tryz.prog 182 = some 8 ∧ zeroV Tryz.prog 182 = some (.int .u64 0) ∧ und Tryz.prog 183 = .func ∧ und Tryz.prog 184 = .func ∧ und Tryz.prog 185 = .func ∧ und Tryz.prog 186 = .ptr 3 ∧ tk Tryz.prog 186 = some (false, 1) ∧ sz Tryz.prog 186 = some 1 ∧ nb Tryz.prog 186 = some 8 ∧ zeroV Tryz.prog 186 = some (.pointer none) ∧ und Tryz.prog 187 = .func ∧ und Tryz.prog 188 = .ptr 182 ∧ tk Tryz.prog 188 = some (false, 1) ∧ sz Tryz.prog 188 = some 1 ∧ nb Tryz.prog 188 = some 8 ∧ zeroV Tryz.prog 188 = some (.pointer none) ∧ und Tryz.prog 190 = .func ∧ und Tryz.prog 191 = .arr 32 5 ∧ tk Tryz.prog 191 = some (true, 32) ∧ sz Tryz.prog 191 = some 32 ∧ nb Tryz.prog 191 = some 32 ∧ zeroV Tryz.prog 191 = some (.agg (rep 32 (.int .u8 0)).toArray) ∧ buildOk Tryz.prog 191 = true ∧ kinds Tryz.prog 191 = some (List.replicate 32 .int) ∧ und Tryz.prog 192 = .arr 64 5 ∧ tk Tryz.prog 192 = some (true, 64) ∧ sz Tryz.prog 192 = some 64 ∧ nb Tryz.prog 192 = some 64 ∧ zeroV Tryz.prog 192 = some (.agg (rep 64 (.int .u8 0)).toArray) ∧ buildOk Tryz.prog 192 = true ∧ kinds Tryz.prog 192 = some (List.replicate 64 .int) ∧ und Tryz.prog 200 = .func ∧ und Tryz.prog 205 = .func ∧ und Tryz.prog 206 = .func ∧ Tryz.prog.follows .mixedOrders = true ∧ callable Tryz.prog 3 = true ∧ callable Tryz.prog 4 = true ∧ callable Tryz.prog 5 = true ∧ callable Tryz.prog 6 = true ∧ callable Tryz.prog 7 = true) ∧ (callable Tryz.prog 8 = true ∧ callable Tryz.prog 9 = true ∧ callable Tryz.prog 10 = true ∧ callable Tryz.prog 11 = true ∧ callable Tryz.prog 12 = true ∧ callable Tryz.prog 13 = true ∧ callable Tryz.prog 14 = true ∧ callable Tryz.prog 15 = true ∧ callable Tryz.prog 16 = true ∧ callable Tryz.prog 17 = true ∧ callable Tryz.prog 18 = true ∧ callable Tryz.prog 19 = true ∧ callable Tryz.prog 20 = true ∧ callable Tryz.prog 21 = true ∧ callable Tryz.prog 22 = true ∧ callable Tryz.prog 23 = true ∧ callable Tryz.prog 24 = true ∧ callable Tryz.prog 25 = true ∧ callable Tryz.prog 26 = true ∧ callable Tryz.prog 27 = true ∧ callable Tryz.prog 28 = true ∧ callable Tryz.prog 29 = true ∧ callable Tryz.prog 30 = true ∧ callable Tryz.prog 31 = true ∧ callable Tryz.prog 32 = true ∧ callable Tryz.prog 33 = true ∧ callable Tryz.prog 34 = true ∧ callable Tryz.prog 35 = true ∧ callable Tryz.prog 36 = true ∧ callable Tryz.prog 37 = true ∧ callable Tryz.prog 38 = true ∧ callable Tryz.prog 39 = true ∧ callable Tryz.prog 40 = true ∧ callable Tryz.prog 41 = true ∧ callable Tryz.prog 42 = true ∧ callable Tryz.prog 43 = true ∧ callable Tryz.prog 44 = true ∧ callable Tryz.prog 45 = true ∧ callable Tryz.prog 46 = true ∧ callable Tryz.prog 47 = true) ∧ (callable Tryz.prog 48 = true ∧ callable Tryz.prog 49 = true ∧ callable Tryz.prog 50 = true ∧ callable Tryz.prog 51 = true ∧ callable Tryz.prog 52 = true ∧ callable Tryz.prog 53 = true ∧ callable Tryz.prog 54 = true ∧ callable Tryz.prog 55 = true ∧ callable Tryz.prog 56 = true ∧ callable Tryz.prog 57 = true ∧ callable Tryz.prog 58 = true ∧ callable Tryz.prog 59 = true ∧ callable Tryz.prog 60 = true ∧ callable Tryz.prog 61 = true ∧ callable Tryz.prog 62 = true ∧ callable Tryz.prog 63 = true ∧ callable Tryz.prog 64 = true ∧ callable Tryz.prog 65 = true ∧ callable Tryz.prog 66 = true ∧ callable Tryz.prog 67 = true ∧ callable Tryz.prog 68 = true ∧ callable Tryz.prog 69 = true ∧ callable Tryz.prog 70 = false ∧ callable Tryz.prog 71 = true ∧ callable Tryz.prog 72 = true ∧ callable Tryz.prog 73 = true ∧ callable Tryz.prog 74 = true ∧ callable Tryz.prog 75 = true ∧ callable Tryz.prog 76 = true ∧ callable Tryz.prog 78 = true ∧ callable Tryz.prog 81 = true ∧ callable Tryz.prog 82 = true ∧ callable Tryz.prog 83 = true ∧ callable Tryz.prog 84 = true ∧ callable Tryz.prog 85 = true ∧ callable Tryz.prog 86 = true ∧ callable Tryz.prog 87 = true ∧ callable Tryz.prog 88 = true ∧ callable Tryz.prog 89 = true ∧ callable Tryz.prog 94 = true) ∧ (callable Tryz.prog 95 = true ∧ callable Tryz.prog 96 = true ∧ callable Tryz.prog 97 = true ∧ callable Tryz.prog 98 = true ∧ callable Tryz.prog 99 = true ∧ callable Tryz.prog 100 = true ∧ callable Tryz.prog 101 = true ∧ callable Tryz.prog 102 = true ∧ callable Tryz.prog 103 = true ∧ callable Tryz.prog 108 = true ∧ callable Tryz.prog 109 = true ∧ callable Tryz.prog 110 = true ∧ callable Tryz.prog 111 = true ∧ callable Tryz.prog 112 = true ∧ callable Tryz.prog 113 = true ∧ callable Tryz.prog 114 = true ∧ callable Tryz.prog 115 = true ∧ callable Tryz.prog 116 = true ∧ callable Tryz.prog 132 = false ∧ callable Tryz.prog 133 = false ∧ callable Tryz.prog 134 = false ∧ callable Tryz.prog 135 = false ∧ callable Tryz.prog 136 = false ∧ callable Tryz.prog 138 = false ∧ callable Tryz.prog 139 = false ∧ callable Tryz.prog 140 = false ∧ callable Tryz.prog 141 = false ∧ callable Tryz.prog 142 = false) := ⟨facts0, facts1, facts2, facts3, facts4, facts5, facts6, facts7, facts8, facts9, facts10, facts11, facts12, facts13, facts14, facts15, facts16, facts17, facts18⟩
end Go.Proofs.YtfpighmafofoeaaGreatDoor.GL
