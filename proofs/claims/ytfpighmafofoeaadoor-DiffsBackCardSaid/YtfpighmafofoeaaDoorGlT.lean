/- Closed facts on this seat's types and functions, printed by gltypes.py out of the translation. -/
import Derived.Test.YtfpighmafofoeaaDoorGlH
import Derived.Test.YtfpighmafofoeaaDoorProg
namespace Go.Proofs.YtfpighmafofoeaaDoor.GL
open Go
theorem facts0_0 : und Tryd.prog 1 = .func := by kernel_rfl
theorem facts0_1 : und Tryd.prog 2 = .int .i64 := by kernel_rfl
theorem facts0_2 : tk Tryd.prog 2 = some (false, 1) := by kernel_rfl
theorem facts0_3 : sz Tryd.prog 2 = some 1 := by kernel_rfl
theorem facts0_4 : nb Tryd.prog 2 = some 8 := by kernel_rfl
theorem facts0_5 : zeroV Tryd.prog 2 = some (.int .i64 0) := by kernel_rfl
theorem facts0_6 : und Tryd.prog 3 = .int .i64 := by kernel_rfl
theorem facts0_7 : tk Tryd.prog 3 = some (false, 1) := by kernel_rfl
theorem facts0_8 : sz Tryd.prog 3 = some 1 := by kernel_rfl
theorem facts0_9 : nb Tryd.prog 3 = some 8 := by kernel_rfl
theorem facts0_10 : zeroV Tryd.prog 3 = some (.int .i64 0) := by kernel_rfl
theorem facts0_11 : und Tryd.prog 4 = .bool := by kernel_rfl
theorem facts0_12 : tk Tryd.prog 4 = some (false, 1) := by kernel_rfl
theorem facts0_13 : sz Tryd.prog 4 = some 1 := by kernel_rfl
theorem facts0_14 : nb Tryd.prog 4 = some 1 := by kernel_rfl
theorem facts0_15 : zeroV Tryd.prog 4 = some (.bool false) := by kernel_rfl
theorem facts0_16 : und Tryd.prog 5 = .int .u8 := by kernel_rfl
theorem facts0_17 : tk Tryd.prog 5 = some (false, 1) := by kernel_rfl
theorem facts0_18 : sz Tryd.prog 5 = some 1 := by kernel_rfl
theorem facts0_19 : nb Tryd.prog 5 = some 1 := by kernel_rfl
theorem facts0_20 : zeroV Tryd.prog 5 = some (.int .u8 0) := by kernel_rfl
theorem facts0_21 : und Tryd.prog 9 = .str := by kernel_rfl
theorem facts0_22 : tk Tryd.prog 9 = some (false, 1) := by kernel_rfl
theorem facts0_23 : sz Tryd.prog 9 = some 1 := by kernel_rfl
theorem facts0_24 : nb Tryd.prog 9 = some 16 := by kernel_rfl
theorem facts0_25 : zeroV Tryd.prog 9 = some (.string ByteArray.empty) := by kernel_rfl
theorem facts0_26 : und Tryd.prog 12 = .int .u64 := by kernel_rfl
theorem facts0_27 : tk Tryd.prog 12 = some (false, 1) := by kernel_rfl
theorem facts0_28 : sz Tryd.prog 12 = some 1 := by kernel_rfl
theorem facts0_29 : nb Tryd.prog 12 = some 8 := by kernel_rfl
theorem facts0_30 : zeroV Tryd.prog 12 = some (.int .u64 0) := by kernel_rfl
theorem facts0_31 : und Tryd.prog 13 = .struct := by kernel_rfl
theorem facts0_32 : tk Tryd.prog 13 = some (true, 2) := by kernel_rfl
theorem facts0_33 : sz Tryd.prog 13 = some 2 := by kernel_rfl
theorem facts0_34 : nb Tryd.prog 13 = some 24 := by kernel_rfl
theorem facts0_35 : zeroV Tryd.prog 13 = some (.agg #[.string ByteArray.empty, .int .u64 0]) := by kernel_rfl
theorem facts0_36 : fieldT Tryd.prog 13 0 = some (0, 9) := by kernel_rfl
theorem facts0_37 : fieldT Tryd.prog 13 1 = some (1, 12) := by kernel_rfl
theorem facts0_38 : buildOk Tryd.prog 13 = true := by kernel_rfl
theorem facts0_39 : und Tryd.prog 21 = .int .i32 := by kernel_rfl
theorem facts0 : und Tryd.prog 1 = .func ∧ und Tryd.prog 2 = .int .i64 ∧ tk Tryd.prog 2 = some (false, 1) ∧ sz Tryd.prog 2 = some 1 ∧ nb Tryd.prog 2 = some 8 ∧ zeroV Tryd.prog 2 = some (.int .i64 0) ∧ und Tryd.prog 3 = .int .i64 ∧ tk Tryd.prog 3 = some (false, 1) ∧ sz Tryd.prog 3 = some 1 ∧ nb Tryd.prog 3 = some 8 ∧ zeroV Tryd.prog 3 = some (.int .i64 0) ∧ und Tryd.prog 4 = .bool ∧ tk Tryd.prog 4 = some (false, 1) ∧ sz Tryd.prog 4 = some 1 ∧ nb Tryd.prog 4 = some 1 ∧ zeroV Tryd.prog 4 = some (.bool false) ∧ und Tryd.prog 5 = .int .u8 ∧ tk Tryd.prog 5 = some (false, 1) ∧ sz Tryd.prog 5 = some 1 ∧ nb Tryd.prog 5 = some 1 ∧ zeroV Tryd.prog 5 = some (.int .u8 0) ∧ und Tryd.prog 9 = .str ∧ tk Tryd.prog 9 = some (false, 1) ∧ sz Tryd.prog 9 = some 1 ∧ nb Tryd.prog 9 = some 16 ∧ zeroV Tryd.prog 9 = some (.string ByteArray.empty) ∧ und Tryd.prog 12 = .int .u64 ∧ tk Tryd.prog 12 = some (false, 1) ∧ sz Tryd.prog 12 = some 1 ∧ nb Tryd.prog 12 = some 8 ∧ zeroV Tryd.prog 12 = some (.int .u64 0) ∧ und Tryd.prog 13 = .struct ∧ tk Tryd.prog 13 = some (true, 2) ∧ sz Tryd.prog 13 = some 2 ∧ nb Tryd.prog 13 = some 24 ∧ zeroV Tryd.prog 13 = some (.agg #[.string ByteArray.empty, .int .u64 0]) ∧ fieldT Tryd.prog 13 0 = some (0, 9) ∧ fieldT Tryd.prog 13 1 = some (1, 12) ∧ buildOk Tryd.prog 13 = true ∧ und Tryd.prog 21 = .int .i32 := ⟨facts0_0, facts0_1, facts0_2, facts0_3, facts0_4, facts0_5, facts0_6, facts0_7, facts0_8, facts0_9, facts0_10, facts0_11, facts0_12, facts0_13, facts0_14, facts0_15, facts0_16, facts0_17, facts0_18, facts0_19, facts0_20, facts0_21, facts0_22, facts0_23, facts0_24, facts0_25, facts0_26, facts0_27, facts0_28, facts0_29, facts0_30, facts0_31, facts0_32, facts0_33, facts0_34, facts0_35, facts0_36, facts0_37, facts0_38, facts0_39⟩
theorem facts1_0 : tk Tryd.prog 21 = some (false, 1) := by kernel_rfl
theorem facts1_1 : sz Tryd.prog 21 = some 1 := by kernel_rfl
theorem facts1_2 : nb Tryd.prog 21 = some 4 := by kernel_rfl
theorem facts1_3 : zeroV Tryd.prog 21 = some (.int .i32 0) := by kernel_rfl
theorem facts1_4 : und Tryd.prog 22 = .struct := by kernel_rfl
theorem facts1_5 : tk Tryd.prog 22 = some (true, 4) := by kernel_rfl
theorem facts1_6 : sz Tryd.prog 22 = some 4 := by kernel_rfl
theorem facts1_7 : nb Tryd.prog 22 = some 32 := by kernel_rfl
theorem facts1_8 : zeroV Tryd.prog 22 = some (.agg #[.int .i64 0, .int .i64 0, .int .i64 0, .int .i64 0]) := by kernel_rfl
theorem facts1_9 : fieldT Tryd.prog 22 0 = some (0, 2) := by kernel_rfl
theorem facts1_10 : fieldT Tryd.prog 22 1 = some (1, 3) := by kernel_rfl
theorem facts1_11 : fieldT Tryd.prog 22 2 = some (2, 3) := by kernel_rfl
theorem facts1_12 : fieldT Tryd.prog 22 3 = some (3, 3) := by kernel_rfl
theorem facts1_13 : buildOk Tryd.prog 22 = true := by kernel_rfl
theorem facts1_14 : kinds Tryd.prog 22 = some [.int, .int, .int, .int] := by kernel_rfl
theorem facts1_15 : und Tryd.prog 23 = .struct := by kernel_rfl
theorem facts1_16 : tk Tryd.prog 23 = some (true, 4) := by kernel_rfl
theorem facts1_17 : sz Tryd.prog 23 = some 4 := by kernel_rfl
theorem facts1_18 : nb Tryd.prog 23 = some 32 := by kernel_rfl
theorem facts1_19 : zeroV Tryd.prog 23 = some (.agg #[.int .i64 0, .int .i64 0, .int .i64 0, .int .i64 0]) := by kernel_rfl
theorem facts1_20 : fieldT Tryd.prog 23 0 = some (0, 2) := by kernel_rfl
theorem facts1_21 : fieldT Tryd.prog 23 1 = some (1, 3) := by kernel_rfl
theorem facts1_22 : fieldT Tryd.prog 23 2 = some (2, 3) := by kernel_rfl
theorem facts1_23 : fieldT Tryd.prog 23 3 = some (3, 3) := by kernel_rfl
theorem facts1_24 : buildOk Tryd.prog 23 = true := by kernel_rfl
theorem facts1_25 : kinds Tryd.prog 23 = some [.int, .int, .int, .int] := by kernel_rfl
theorem facts1_26 : und Tryd.prog 24 = .arr 4 23 := by kernel_rfl
theorem facts1_27 : tk Tryd.prog 24 = some (true, 16) := by kernel_rfl
theorem facts1_28 : sz Tryd.prog 24 = some 16 := by kernel_rfl
theorem facts1_29 : nb Tryd.prog 24 = some 128 := by kernel_rfl
theorem facts1_30 : zeroV Tryd.prog 24 = some (.agg (rep 16 (.int .i64 0)).toArray) := by kernel_rfl
theorem facts1_31 : buildOk Tryd.prog 24 = true := by kernel_rfl
theorem facts1_32 : kinds Tryd.prog 24 = some [.int, .int, .int, .int, .int, .int, .int, .int, .int, .int, .int, .int, .int, .int, .int, .int] := by kernel_rfl
theorem facts1_33 : und Tryd.prog 25 = .arr 4 3 := by kernel_rfl
theorem facts1_34 : tk Tryd.prog 25 = some (true, 4) := by kernel_rfl
theorem facts1_35 : sz Tryd.prog 25 = some 4 := by kernel_rfl
theorem facts1_36 : nb Tryd.prog 25 = some 32 := by kernel_rfl
theorem facts1_37 : zeroV Tryd.prog 25 = some (.agg #[.int .i64 0, .int .i64 0, .int .i64 0, .int .i64 0]) := by kernel_rfl
theorem facts1_38 : buildOk Tryd.prog 25 = true := by kernel_rfl
theorem facts1_39 : kinds Tryd.prog 25 = some [.int, .int, .int, .int] := by kernel_rfl
theorem facts1 : tk Tryd.prog 21 = some (false, 1) ∧ sz Tryd.prog 21 = some 1 ∧ nb Tryd.prog 21 = some 4 ∧ zeroV Tryd.prog 21 = some (.int .i32 0) ∧ und Tryd.prog 22 = .struct ∧ tk Tryd.prog 22 = some (true, 4) ∧ sz Tryd.prog 22 = some 4 ∧ nb Tryd.prog 22 = some 32 ∧ zeroV Tryd.prog 22 = some (.agg #[.int .i64 0, .int .i64 0, .int .i64 0, .int .i64 0]) ∧ fieldT Tryd.prog 22 0 = some (0, 2) ∧ fieldT Tryd.prog 22 1 = some (1, 3) ∧ fieldT Tryd.prog 22 2 = some (2, 3) ∧ fieldT Tryd.prog 22 3 = some (3, 3) ∧ buildOk Tryd.prog 22 = true ∧ kinds Tryd.prog 22 = some [.int, .int, .int, .int] ∧ und Tryd.prog 23 = .struct ∧ tk Tryd.prog 23 = some (true, 4) ∧ sz Tryd.prog 23 = some 4 ∧ nb Tryd.prog 23 = some 32 ∧ zeroV Tryd.prog 23 = some (.agg #[.int .i64 0, .int .i64 0, .int .i64 0, .int .i64 0]) ∧ fieldT Tryd.prog 23 0 = some (0, 2) ∧ fieldT Tryd.prog 23 1 = some (1, 3) ∧ fieldT Tryd.prog 23 2 = some (2, 3) ∧ fieldT Tryd.prog 23 3 = some (3, 3) ∧ buildOk Tryd.prog 23 = true ∧ kinds Tryd.prog 23 = some [.int, .int, .int, .int] ∧ und Tryd.prog 24 = .arr 4 23 ∧ tk Tryd.prog 24 = some (true, 16) ∧ sz Tryd.prog 24 = some 16 ∧ nb Tryd.prog 24 = some 128 ∧ zeroV Tryd.prog 24 = some (.agg (rep 16 (.int .i64 0)).toArray) ∧ buildOk Tryd.prog 24 = true ∧ kinds Tryd.prog 24 = some [.int, .int, .int, .int, .int, .int, .int, .int, .int, .int, .int, .int, .int, .int, .int, .int] ∧ und Tryd.prog 25 = .arr 4 3 ∧ tk Tryd.prog 25 = some (true, 4) ∧ sz Tryd.prog 25 = some 4 ∧ nb Tryd.prog 25 = some 32 ∧ zeroV Tryd.prog 25 = some (.agg #[.int .i64 0, .int .i64 0, .int .i64 0, .int .i64 0]) ∧ buildOk Tryd.prog 25 = true ∧ kinds Tryd.prog 25 = some [.int, .int, .int, .int] := ⟨facts1_0, facts1_1, facts1_2, facts1_3, facts1_4, facts1_5, facts1_6, facts1_7, facts1_8, facts1_9, facts1_10, facts1_11, facts1_12, facts1_13, facts1_14, facts1_15, facts1_16, facts1_17, facts1_18, facts1_19, facts1_20, facts1_21, facts1_22, facts1_23, facts1_24, facts1_25, facts1_26, facts1_27, facts1_28, facts1_29, facts1_30, facts1_31, facts1_32, facts1_33, facts1_34, facts1_35, facts1_36, facts1_37, facts1_38, facts1_39⟩
theorem facts2_0 : und Tryd.prog 26 = .arr 4 3 := by kernel_rfl
theorem facts2_1 : tk Tryd.prog 26 = some (true, 4) := by kernel_rfl
theorem facts2_2 : sz Tryd.prog 26 = some 4 := by kernel_rfl
theorem facts2_3 : nb Tryd.prog 26 = some 32 := by kernel_rfl
theorem facts2_4 : zeroV Tryd.prog 26 = some (.agg #[.int .i64 0, .int .i64 0, .int .i64 0, .int .i64 0]) := by kernel_rfl
theorem facts2_5 : buildOk Tryd.prog 26 = true := by kernel_rfl
theorem facts2_6 : kinds Tryd.prog 26 = some [.int, .int, .int, .int] := by kernel_rfl
theorem facts2_7 : und Tryd.prog 27 = .func := by kernel_rfl
theorem facts2_8 : und Tryd.prog 28 = .func := by kernel_rfl
theorem facts2_9 : und Tryd.prog 29 = .func := by kernel_rfl
theorem facts2_10 : und Tryd.prog 30 = .slice 46 := by kernel_rfl
theorem facts2_11 : tk Tryd.prog 30 = some (false, 1) := by kernel_rfl
theorem facts2_12 : sz Tryd.prog 30 = some 1 := by kernel_rfl
theorem facts2_13 : nb Tryd.prog 30 = some 24 := by kernel_rfl
theorem facts2_14 : zeroV Tryd.prog 30 = some (.slice none 0 0) := by kernel_rfl
theorem facts2_15 : und Tryd.prog 31 = .func := by kernel_rfl
theorem facts2_16 : und Tryd.prog 32 = .func := by kernel_rfl
theorem facts2_17 : und Tryd.prog 33 = .slice 40 := by kernel_rfl
theorem facts2_18 : tk Tryd.prog 33 = some (false, 1) := by kernel_rfl
theorem facts2_19 : sz Tryd.prog 33 = some 1 := by kernel_rfl
theorem facts2_20 : nb Tryd.prog 33 = some 24 := by kernel_rfl
theorem facts2_21 : zeroV Tryd.prog 33 = some (.slice none 0 0) := by kernel_rfl
theorem facts2_22 : und Tryd.prog 34 = .slice 5 := by kernel_rfl
theorem facts2_23 : tk Tryd.prog 34 = some (false, 1) := by kernel_rfl
theorem facts2_24 : sz Tryd.prog 34 = some 1 := by kernel_rfl
theorem facts2_25 : nb Tryd.prog 34 = some 24 := by kernel_rfl
theorem facts2_26 : zeroV Tryd.prog 34 = some (.slice none 0 0) := by kernel_rfl
theorem facts2_27 : und Tryd.prog 35 = .int .u16 := by kernel_rfl
theorem facts2_28 : tk Tryd.prog 35 = some (false, 1) := by kernel_rfl
theorem facts2_29 : sz Tryd.prog 35 = some 1 := by kernel_rfl
theorem facts2_30 : nb Tryd.prog 35 = some 2 := by kernel_rfl
theorem facts2_31 : zeroV Tryd.prog 35 = some (.int .u16 0) := by kernel_rfl
theorem facts2_32 : und Tryd.prog 36 = .int .u32 := by kernel_rfl
theorem facts2_33 : tk Tryd.prog 36 = some (false, 1) := by kernel_rfl
theorem facts2_34 : sz Tryd.prog 36 = some 1 := by kernel_rfl
theorem facts2_35 : nb Tryd.prog 36 = some 4 := by kernel_rfl
theorem facts2_36 : zeroV Tryd.prog 36 = some (.int .u32 0) := by kernel_rfl
theorem facts2_37 : und Tryd.prog 37 = .struct := by kernel_rfl
theorem facts2_38 : tk Tryd.prog 37 = some (true, 2) := by kernel_rfl
theorem facts2_39 : sz Tryd.prog 37 = some 2 := by kernel_rfl
theorem facts2 : und Tryd.prog 26 = .arr 4 3 ∧ tk Tryd.prog 26 = some (true, 4) ∧ sz Tryd.prog 26 = some 4 ∧ nb Tryd.prog 26 = some 32 ∧ zeroV Tryd.prog 26 = some (.agg #[.int .i64 0, .int .i64 0, .int .i64 0, .int .i64 0]) ∧ buildOk Tryd.prog 26 = true ∧ kinds Tryd.prog 26 = some [.int, .int, .int, .int] ∧ und Tryd.prog 27 = .func ∧ und Tryd.prog 28 = .func ∧ und Tryd.prog 29 = .func ∧ und Tryd.prog 30 = .slice 46 ∧ tk Tryd.prog 30 = some (false, 1) ∧ sz Tryd.prog 30 = some 1 ∧ nb Tryd.prog 30 = some 24 ∧ zeroV Tryd.prog 30 = some (.slice none 0 0) ∧ und Tryd.prog 31 = .func ∧ und Tryd.prog 32 = .func ∧ und Tryd.prog 33 = .slice 40 ∧ tk Tryd.prog 33 = some (false, 1) ∧ sz Tryd.prog 33 = some 1 ∧ nb Tryd.prog 33 = some 24 ∧ zeroV Tryd.prog 33 = some (.slice none 0 0) ∧ und Tryd.prog 34 = .slice 5 ∧ tk Tryd.prog 34 = some (false, 1) ∧ sz Tryd.prog 34 = some 1 ∧ nb Tryd.prog 34 = some 24 ∧ zeroV Tryd.prog 34 = some (.slice none 0 0) ∧ und Tryd.prog 35 = .int .u16 ∧ tk Tryd.prog 35 = some (false, 1) ∧ sz Tryd.prog 35 = some 1 ∧ nb Tryd.prog 35 = some 2 ∧ zeroV Tryd.prog 35 = some (.int .u16 0) ∧ und Tryd.prog 36 = .int .u32 ∧ tk Tryd.prog 36 = some (false, 1) ∧ sz Tryd.prog 36 = some 1 ∧ nb Tryd.prog 36 = some 4 ∧ zeroV Tryd.prog 36 = some (.int .u32 0) ∧ und Tryd.prog 37 = .struct ∧ tk Tryd.prog 37 = some (true, 2) ∧ sz Tryd.prog 37 = some 2 := ⟨facts2_0, facts2_1, facts2_2, facts2_3, facts2_4, facts2_5, facts2_6, facts2_7, facts2_8, facts2_9, facts2_10, facts2_11, facts2_12, facts2_13, facts2_14, facts2_15, facts2_16, facts2_17, facts2_18, facts2_19, facts2_20, facts2_21, facts2_22, facts2_23, facts2_24, facts2_25, facts2_26, facts2_27, facts2_28, facts2_29, facts2_30, facts2_31, facts2_32, facts2_33, facts2_34, facts2_35, facts2_36, facts2_37, facts2_38, facts2_39⟩
theorem facts3_0 : nb Tryd.prog 37 = some 8 := by kernel_rfl
theorem facts3_1 : zeroV Tryd.prog 37 = some (.agg #[.int .u16 0, .int .u32 0]) := by kernel_rfl
theorem facts3_2 : fieldT Tryd.prog 37 0 = some (0, 35) := by kernel_rfl
theorem facts3_3 : fieldT Tryd.prog 37 1 = some (1, 36) := by kernel_rfl
theorem facts3_4 : buildOk Tryd.prog 37 = true := by kernel_rfl
theorem facts3_5 : kinds Tryd.prog 37 = some [.int, .int] := by kernel_rfl
theorem facts3_6 : und Tryd.prog 38 = .struct := by kernel_rfl
theorem facts3_7 : tk Tryd.prog 38 = some (true, 2) := by kernel_rfl
theorem facts3_8 : sz Tryd.prog 38 = some 2 := by kernel_rfl
theorem facts3_9 : nb Tryd.prog 38 = some 8 := by kernel_rfl
theorem facts3_10 : zeroV Tryd.prog 38 = some (.agg #[.int .u16 0, .int .u32 0]) := by kernel_rfl
theorem facts3_11 : fieldT Tryd.prog 38 0 = some (0, 35) := by kernel_rfl
theorem facts3_12 : fieldT Tryd.prog 38 1 = some (1, 36) := by kernel_rfl
theorem facts3_13 : buildOk Tryd.prog 38 = true := by kernel_rfl
theorem facts3_14 : kinds Tryd.prog 38 = some [.int, .int] := by kernel_rfl
theorem facts3_15 : und Tryd.prog 39 = .struct := by kernel_rfl
theorem facts3_16 : tk Tryd.prog 39 = some (true, 11) := by kernel_rfl
theorem facts3_17 : sz Tryd.prog 39 = some 11 := by kernel_rfl
theorem facts3_18 : nb Tryd.prog 39 = some 88 := by kernel_rfl
theorem facts3_19 : zeroV Tryd.prog 39 = some (.agg #[.int .u16 0, .int .u32 0, .string ByteArray.empty, .int .i64 0, .int .i64 0, .int .i64 0, .int .i64 0, .int .i64 0, .int .i64 0, .int .i64 0, .int .i64 0]) := by kernel_rfl
theorem facts3_20 : fieldT Tryd.prog 39 0 = some (0, 38) := by kernel_rfl
theorem facts3_21 : fieldT Tryd.prog 39 1 = some (2, 9) := by kernel_rfl
theorem facts3_22 : fieldT Tryd.prog 39 2 = some (3, 2) := by kernel_rfl
theorem facts3_23 : fieldT Tryd.prog 39 3 = some (4, 3) := by kernel_rfl
theorem facts3_24 : fieldT Tryd.prog 39 4 = some (5, 26) := by kernel_rfl
theorem facts3_25 : fieldT Tryd.prog 39 5 = some (9, 2) := by kernel_rfl
theorem facts3_26 : fieldT Tryd.prog 39 6 = some (10, 2) := by kernel_rfl
theorem facts3_27 : buildOk Tryd.prog 39 = true := by kernel_rfl
theorem facts3_28 : kinds Tryd.prog 39 = some [.int, .int, .str, .int, .int, .int, .int, .int, .int, .int, .int] := by kernel_rfl
theorem facts3_29 : und Tryd.prog 40 = .struct := by kernel_rfl
theorem facts3_30 : tk Tryd.prog 40 = some (true, 11) := by kernel_rfl
theorem facts3_31 : sz Tryd.prog 40 = some 11 := by kernel_rfl
theorem facts3_32 : nb Tryd.prog 40 = some 88 := by kernel_rfl
theorem facts3_33 : zeroV Tryd.prog 40 = some (.agg #[.int .u16 0, .int .u32 0, .string ByteArray.empty, .int .i64 0, .int .i64 0, .int .i64 0, .int .i64 0, .int .i64 0, .int .i64 0, .int .i64 0, .int .i64 0]) := by kernel_rfl
theorem facts3_34 : fieldT Tryd.prog 40 0 = some (0, 38) := by kernel_rfl
theorem facts3_35 : fieldT Tryd.prog 40 1 = some (2, 9) := by kernel_rfl
theorem facts3_36 : fieldT Tryd.prog 40 2 = some (3, 2) := by kernel_rfl
theorem facts3_37 : fieldT Tryd.prog 40 3 = some (4, 3) := by kernel_rfl
theorem facts3_38 : fieldT Tryd.prog 40 4 = some (5, 26) := by kernel_rfl
theorem facts3_39 : fieldT Tryd.prog 40 5 = some (9, 2) := by kernel_rfl
theorem facts3 : nb Tryd.prog 37 = some 8 ∧ zeroV Tryd.prog 37 = some (.agg #[.int .u16 0, .int .u32 0]) ∧ fieldT Tryd.prog 37 0 = some (0, 35) ∧ fieldT Tryd.prog 37 1 = some (1, 36) ∧ buildOk Tryd.prog 37 = true ∧ kinds Tryd.prog 37 = some [.int, .int] ∧ und Tryd.prog 38 = .struct ∧ tk Tryd.prog 38 = some (true, 2) ∧ sz Tryd.prog 38 = some 2 ∧ nb Tryd.prog 38 = some 8 ∧ zeroV Tryd.prog 38 = some (.agg #[.int .u16 0, .int .u32 0]) ∧ fieldT Tryd.prog 38 0 = some (0, 35) ∧ fieldT Tryd.prog 38 1 = some (1, 36) ∧ buildOk Tryd.prog 38 = true ∧ kinds Tryd.prog 38 = some [.int, .int] ∧ und Tryd.prog 39 = .struct ∧ tk Tryd.prog 39 = some (true, 11) ∧ sz Tryd.prog 39 = some 11 ∧ nb Tryd.prog 39 = some 88 ∧ zeroV Tryd.prog 39 = some (.agg #[.int .u16 0, .int .u32 0, .string ByteArray.empty, .int .i64 0, .int .i64 0, .int .i64 0, .int .i64 0, .int .i64 0, .int .i64 0, .int .i64 0, .int .i64 0]) ∧ fieldT Tryd.prog 39 0 = some (0, 38) ∧ fieldT Tryd.prog 39 1 = some (2, 9) ∧ fieldT Tryd.prog 39 2 = some (3, 2) ∧ fieldT Tryd.prog 39 3 = some (4, 3) ∧ fieldT Tryd.prog 39 4 = some (5, 26) ∧ fieldT Tryd.prog 39 5 = some (9, 2) ∧ fieldT Tryd.prog 39 6 = some (10, 2) ∧ buildOk Tryd.prog 39 = true ∧ kinds Tryd.prog 39 = some [.int, .int, .str, .int, .int, .int, .int, .int, .int, .int, .int] ∧ und Tryd.prog 40 = .struct ∧ tk Tryd.prog 40 = some (true, 11) ∧ sz Tryd.prog 40 = some 11 ∧ nb Tryd.prog 40 = some 88 ∧ zeroV Tryd.prog 40 = some (.agg #[.int .u16 0, .int .u32 0, .string ByteArray.empty, .int .i64 0, .int .i64 0, .int .i64 0, .int .i64 0, .int .i64 0, .int .i64 0, .int .i64 0, .int .i64 0]) ∧ fieldT Tryd.prog 40 0 = some (0, 38) ∧ fieldT Tryd.prog 40 1 = some (2, 9) ∧ fieldT Tryd.prog 40 2 = some (3, 2) ∧ fieldT Tryd.prog 40 3 = some (4, 3) ∧ fieldT Tryd.prog 40 4 = some (5, 26) ∧ fieldT Tryd.prog 40 5 = some (9, 2) := ⟨facts3_0, facts3_1, facts3_2, facts3_3, facts3_4, facts3_5, facts3_6, facts3_7, facts3_8, facts3_9, facts3_10, facts3_11, facts3_12, facts3_13, facts3_14, facts3_15, facts3_16, facts3_17, facts3_18, facts3_19, facts3_20, facts3_21, facts3_22, facts3_23, facts3_24, facts3_25, facts3_26, facts3_27, facts3_28, facts3_29, facts3_30, facts3_31, facts3_32, facts3_33, facts3_34, facts3_35, facts3_36, facts3_37, facts3_38, facts3_39⟩
theorem facts4_0 : fieldT Tryd.prog 40 6 = some (10, 2) := by kernel_rfl
theorem facts4_1 : buildOk Tryd.prog 40 = true := by kernel_rfl
theorem facts4_2 : kinds Tryd.prog 40 = some [.int, .int, .str, .int, .int, .int, .int, .int, .int, .int, .int] := by kernel_rfl
theorem facts4_3 : und Tryd.prog 41 = .slice 33 := by kernel_rfl
theorem facts4_4 : tk Tryd.prog 41 = some (false, 1) := by kernel_rfl
theorem facts4_5 : sz Tryd.prog 41 = some 1 := by kernel_rfl
theorem facts4_6 : nb Tryd.prog 41 = some 24 := by kernel_rfl
theorem facts4_7 : zeroV Tryd.prog 41 = some (.slice none 0 0) := by kernel_rfl
theorem facts4_8 : und Tryd.prog 43 = .func := by kernel_rfl
theorem facts4_9 : und Tryd.prog 44 = .func := by kernel_rfl
theorem facts4_10 : und Tryd.prog 45 = .struct := by kernel_rfl
theorem facts4_11 : tk Tryd.prog 45 = some (true, 3) := by kernel_rfl
theorem facts4_12 : sz Tryd.prog 45 = some 3 := by kernel_rfl
theorem facts4_13 : nb Tryd.prog 45 = some 24 := by kernel_rfl
theorem facts4_14 : zeroV Tryd.prog 45 = some (.agg #[.int .i64 0, .int .i64 0, .int .i64 0]) := by kernel_rfl
theorem facts4_15 : fieldT Tryd.prog 45 0 = some (0, 3) := by kernel_rfl
theorem facts4_16 : fieldT Tryd.prog 45 1 = some (1, 3) := by kernel_rfl
theorem facts4_17 : fieldT Tryd.prog 45 2 = some (2, 3) := by kernel_rfl
theorem facts4_18 : buildOk Tryd.prog 45 = true := by kernel_rfl
theorem facts4_19 : kinds Tryd.prog 45 = some [.int, .int, .int] := by kernel_rfl
theorem facts4_20 : und Tryd.prog 46 = .struct := by kernel_rfl
theorem facts4_21 : tk Tryd.prog 46 = some (true, 3) := by kernel_rfl
theorem facts4_22 : sz Tryd.prog 46 = some 3 := by kernel_rfl
theorem facts4_23 : nb Tryd.prog 46 = some 24 := by kernel_rfl
theorem facts4_24 : zeroV Tryd.prog 46 = some (.agg #[.int .i64 0, .int .i64 0, .int .i64 0]) := by kernel_rfl
theorem facts4_25 : fieldT Tryd.prog 46 0 = some (0, 3) := by kernel_rfl
theorem facts4_26 : fieldT Tryd.prog 46 1 = some (1, 3) := by kernel_rfl
theorem facts4_27 : fieldT Tryd.prog 46 2 = some (2, 3) := by kernel_rfl
theorem facts4_28 : buildOk Tryd.prog 46 = true := by kernel_rfl
theorem facts4_29 : kinds Tryd.prog 46 = some [.int, .int, .int] := by kernel_rfl
theorem facts4_30 : und Tryd.prog 47 = .func := by kernel_rfl
theorem facts4_31 : und Tryd.prog 48 = .func := by kernel_rfl
theorem facts4_32 : und Tryd.prog 50 = .func := by kernel_rfl
theorem facts4_33 : und Tryd.prog 51 = .ptr 76 := by kernel_rfl
theorem facts4_34 : tk Tryd.prog 51 = some (false, 1) := by kernel_rfl
theorem facts4_35 : sz Tryd.prog 51 = some 1 := by kernel_rfl
theorem facts4_36 : nb Tryd.prog 51 = some 8 := by kernel_rfl
theorem facts4_37 : zeroV Tryd.prog 51 = some (.pointer none) := by kernel_rfl
theorem facts4_38 : und Tryd.prog 52 = .func := by kernel_rfl
theorem facts4_39 : und Tryd.prog 53 = .slice 24 := by kernel_rfl
theorem facts4 : fieldT Tryd.prog 40 6 = some (10, 2) ∧ buildOk Tryd.prog 40 = true ∧ kinds Tryd.prog 40 = some [.int, .int, .str, .int, .int, .int, .int, .int, .int, .int, .int] ∧ und Tryd.prog 41 = .slice 33 ∧ tk Tryd.prog 41 = some (false, 1) ∧ sz Tryd.prog 41 = some 1 ∧ nb Tryd.prog 41 = some 24 ∧ zeroV Tryd.prog 41 = some (.slice none 0 0) ∧ und Tryd.prog 43 = .func ∧ und Tryd.prog 44 = .func ∧ und Tryd.prog 45 = .struct ∧ tk Tryd.prog 45 = some (true, 3) ∧ sz Tryd.prog 45 = some 3 ∧ nb Tryd.prog 45 = some 24 ∧ zeroV Tryd.prog 45 = some (.agg #[.int .i64 0, .int .i64 0, .int .i64 0]) ∧ fieldT Tryd.prog 45 0 = some (0, 3) ∧ fieldT Tryd.prog 45 1 = some (1, 3) ∧ fieldT Tryd.prog 45 2 = some (2, 3) ∧ buildOk Tryd.prog 45 = true ∧ kinds Tryd.prog 45 = some [.int, .int, .int] ∧ und Tryd.prog 46 = .struct ∧ tk Tryd.prog 46 = some (true, 3) ∧ sz Tryd.prog 46 = some 3 ∧ nb Tryd.prog 46 = some 24 ∧ zeroV Tryd.prog 46 = some (.agg #[.int .i64 0, .int .i64 0, .int .i64 0]) ∧ fieldT Tryd.prog 46 0 = some (0, 3) ∧ fieldT Tryd.prog 46 1 = some (1, 3) ∧ fieldT Tryd.prog 46 2 = some (2, 3) ∧ buildOk Tryd.prog 46 = true ∧ kinds Tryd.prog 46 = some [.int, .int, .int] ∧ und Tryd.prog 47 = .func ∧ und Tryd.prog 48 = .func ∧ und Tryd.prog 50 = .func ∧ und Tryd.prog 51 = .ptr 76 ∧ tk Tryd.prog 51 = some (false, 1) ∧ sz Tryd.prog 51 = some 1 ∧ nb Tryd.prog 51 = some 8 ∧ zeroV Tryd.prog 51 = some (.pointer none) ∧ und Tryd.prog 52 = .func ∧ und Tryd.prog 53 = .slice 24 := ⟨facts4_0, facts4_1, facts4_2, facts4_3, facts4_4, facts4_5, facts4_6, facts4_7, facts4_8, facts4_9, facts4_10, facts4_11, facts4_12, facts4_13, facts4_14, facts4_15, facts4_16, facts4_17, facts4_18, facts4_19, facts4_20, facts4_21, facts4_22, facts4_23, facts4_24, facts4_25, facts4_26, facts4_27, facts4_28, facts4_29, facts4_30, facts4_31, facts4_32, facts4_33, facts4_34, facts4_35, facts4_36, facts4_37, facts4_38, facts4_39⟩
theorem facts5_0 : tk Tryd.prog 53 = some (false, 1) := by kernel_rfl
theorem facts5_1 : sz Tryd.prog 53 = some 1 := by kernel_rfl
theorem facts5_2 : nb Tryd.prog 53 = some 24 := by kernel_rfl
theorem facts5_3 : zeroV Tryd.prog 53 = some (.slice none 0 0) := by kernel_rfl
theorem facts5_4 : und Tryd.prog 54 = .slice 9 := by kernel_rfl
theorem facts5_5 : tk Tryd.prog 54 = some (false, 1) := by kernel_rfl
theorem facts5_6 : sz Tryd.prog 54 = some 1 := by kernel_rfl
theorem facts5_7 : nb Tryd.prog 54 = some 24 := by kernel_rfl
theorem facts5_8 : zeroV Tryd.prog 54 = some (.slice none 0 0) := by kernel_rfl
theorem facts5_9 : und Tryd.prog 55 = .slice 2 := by kernel_rfl
theorem facts5_10 : tk Tryd.prog 55 = some (false, 1) := by kernel_rfl
theorem facts5_11 : sz Tryd.prog 55 = some 1 := by kernel_rfl
theorem facts5_12 : nb Tryd.prog 55 = some 24 := by kernel_rfl
theorem facts5_13 : zeroV Tryd.prog 55 = some (.slice none 0 0) := by kernel_rfl
theorem facts5_14 : und Tryd.prog 56 = .struct := by kernel_rfl
theorem facts5_15 : tk Tryd.prog 56 = some (true, 5) := by kernel_rfl
theorem facts5_16 : sz Tryd.prog 56 = some 5 := by kernel_rfl
theorem facts5_17 : nb Tryd.prog 56 = some 88 := by kernel_rfl
theorem facts5_18 : zeroV Tryd.prog 56 = some (.agg #[.slice none 0 0, .slice none 0 0, .slice none 0 0, .int .i64 0, .int .i64 0]) := by kernel_rfl
theorem facts5_19 : fieldT Tryd.prog 56 0 = some (0, 53) := by kernel_rfl
theorem facts5_20 : fieldT Tryd.prog 56 1 = some (1, 54) := by kernel_rfl
theorem facts5_21 : fieldT Tryd.prog 56 2 = some (2, 55) := by kernel_rfl
theorem facts5_22 : fieldT Tryd.prog 56 3 = some (3, 2) := by kernel_rfl
theorem facts5_23 : fieldT Tryd.prog 56 4 = some (4, 2) := by kernel_rfl
theorem facts5_24 : buildOk Tryd.prog 56 = true := by kernel_rfl
theorem facts5_25 : und Tryd.prog 57 = .struct := by kernel_rfl
theorem facts5_26 : tk Tryd.prog 57 = some (true, 5) := by kernel_rfl
theorem facts5_27 : sz Tryd.prog 57 = some 5 := by kernel_rfl
theorem facts5_28 : nb Tryd.prog 57 = some 88 := by kernel_rfl
theorem facts5_29 : zeroV Tryd.prog 57 = some (.agg #[.slice none 0 0, .slice none 0 0, .slice none 0 0, .int .i64 0, .int .i64 0]) := by kernel_rfl
theorem facts5_30 : fieldT Tryd.prog 57 0 = some (0, 53) := by kernel_rfl
theorem facts5_31 : fieldT Tryd.prog 57 1 = some (1, 54) := by kernel_rfl
theorem facts5_32 : fieldT Tryd.prog 57 2 = some (2, 55) := by kernel_rfl
theorem facts5_33 : fieldT Tryd.prog 57 3 = some (3, 2) := by kernel_rfl
theorem facts5_34 : fieldT Tryd.prog 57 4 = some (4, 2) := by kernel_rfl
theorem facts5_35 : buildOk Tryd.prog 57 = true := by kernel_rfl
theorem facts5_36 : und Tryd.prog 58 = .func := by kernel_rfl
theorem facts5_37 : und Tryd.prog 59 = .func := by kernel_rfl
theorem facts5_38 : und Tryd.prog 60 = .arr 4 2 := by kernel_rfl
theorem facts5_39 : tk Tryd.prog 60 = some (true, 4) := by kernel_rfl
theorem facts5 : tk Tryd.prog 53 = some (false, 1) ∧ sz Tryd.prog 53 = some 1 ∧ nb Tryd.prog 53 = some 24 ∧ zeroV Tryd.prog 53 = some (.slice none 0 0) ∧ und Tryd.prog 54 = .slice 9 ∧ tk Tryd.prog 54 = some (false, 1) ∧ sz Tryd.prog 54 = some 1 ∧ nb Tryd.prog 54 = some 24 ∧ zeroV Tryd.prog 54 = some (.slice none 0 0) ∧ und Tryd.prog 55 = .slice 2 ∧ tk Tryd.prog 55 = some (false, 1) ∧ sz Tryd.prog 55 = some 1 ∧ nb Tryd.prog 55 = some 24 ∧ zeroV Tryd.prog 55 = some (.slice none 0 0) ∧ und Tryd.prog 56 = .struct ∧ tk Tryd.prog 56 = some (true, 5) ∧ sz Tryd.prog 56 = some 5 ∧ nb Tryd.prog 56 = some 88 ∧ zeroV Tryd.prog 56 = some (.agg #[.slice none 0 0, .slice none 0 0, .slice none 0 0, .int .i64 0, .int .i64 0]) ∧ fieldT Tryd.prog 56 0 = some (0, 53) ∧ fieldT Tryd.prog 56 1 = some (1, 54) ∧ fieldT Tryd.prog 56 2 = some (2, 55) ∧ fieldT Tryd.prog 56 3 = some (3, 2) ∧ fieldT Tryd.prog 56 4 = some (4, 2) ∧ buildOk Tryd.prog 56 = true ∧ und Tryd.prog 57 = .struct ∧ tk Tryd.prog 57 = some (true, 5) ∧ sz Tryd.prog 57 = some 5 ∧ nb Tryd.prog 57 = some 88 ∧ zeroV Tryd.prog 57 = some (.agg #[.slice none 0 0, .slice none 0 0, .slice none 0 0, .int .i64 0, .int .i64 0]) ∧ fieldT Tryd.prog 57 0 = some (0, 53) ∧ fieldT Tryd.prog 57 1 = some (1, 54) ∧ fieldT Tryd.prog 57 2 = some (2, 55) ∧ fieldT Tryd.prog 57 3 = some (3, 2) ∧ fieldT Tryd.prog 57 4 = some (4, 2) ∧ buildOk Tryd.prog 57 = true ∧ und Tryd.prog 58 = .func ∧ und Tryd.prog 59 = .func ∧ und Tryd.prog 60 = .arr 4 2 ∧ tk Tryd.prog 60 = some (true, 4) := ⟨facts5_0, facts5_1, facts5_2, facts5_3, facts5_4, facts5_5, facts5_6, facts5_7, facts5_8, facts5_9, facts5_10, facts5_11, facts5_12, facts5_13, facts5_14, facts5_15, facts5_16, facts5_17, facts5_18, facts5_19, facts5_20, facts5_21, facts5_22, facts5_23, facts5_24, facts5_25, facts5_26, facts5_27, facts5_28, facts5_29, facts5_30, facts5_31, facts5_32, facts5_33, facts5_34, facts5_35, facts5_36, facts5_37, facts5_38, facts5_39⟩
theorem facts6_0 : sz Tryd.prog 60 = some 4 := by kernel_rfl
theorem facts6_1 : nb Tryd.prog 60 = some 32 := by kernel_rfl
theorem facts6_2 : zeroV Tryd.prog 60 = some (.agg #[.int .i64 0, .int .i64 0, .int .i64 0, .int .i64 0]) := by kernel_rfl
theorem facts6_3 : buildOk Tryd.prog 60 = true := by kernel_rfl
theorem facts6_4 : kinds Tryd.prog 60 = some [.int, .int, .int, .int] := by kernel_rfl
theorem facts6_5 : und Tryd.prog 61 = .slice 60 := by kernel_rfl
theorem facts6_6 : tk Tryd.prog 61 = some (false, 1) := by kernel_rfl
theorem facts6_7 : sz Tryd.prog 61 = some 1 := by kernel_rfl
theorem facts6_8 : nb Tryd.prog 61 = some 24 := by kernel_rfl
theorem facts6_9 : zeroV Tryd.prog 61 = some (.slice none 0 0) := by kernel_rfl
theorem facts6_10 : und Tryd.prog 62 = .slice 3 := by kernel_rfl
theorem facts6_11 : tk Tryd.prog 62 = some (false, 1) := by kernel_rfl
theorem facts6_12 : sz Tryd.prog 62 = some 1 := by kernel_rfl
theorem facts6_13 : nb Tryd.prog 62 = some 24 := by kernel_rfl
theorem facts6_14 : zeroV Tryd.prog 62 = some (.slice none 0 0) := by kernel_rfl
theorem facts6_15 : und Tryd.prog 63 = .ptr 65 := by kernel_rfl
theorem facts6_16 : tk Tryd.prog 63 = some (false, 1) := by kernel_rfl
theorem facts6_17 : sz Tryd.prog 63 = some 1 := by kernel_rfl
theorem facts6_18 : nb Tryd.prog 63 = some 8 := by kernel_rfl
theorem facts6_19 : zeroV Tryd.prog 63 = some (.pointer none) := by kernel_rfl
theorem facts6_20 : und Tryd.prog 64 = .struct := by kernel_rfl
theorem facts6_21 : tk Tryd.prog 64 = some (true, 2) := by kernel_rfl
theorem facts6_22 : sz Tryd.prog 64 = some 2 := by kernel_rfl
theorem facts6_23 : nb Tryd.prog 64 = some 32 := by kernel_rfl
theorem facts6_24 : zeroV Tryd.prog 64 = some (.agg #[.pointer none, .slice none 0 0]) := by kernel_rfl
theorem facts6_25 : fieldT Tryd.prog 64 0 = some (0, 63) := by kernel_rfl
theorem facts6_26 : fieldT Tryd.prog 64 1 = some (1, 34) := by kernel_rfl
theorem facts6_27 : buildOk Tryd.prog 64 = true := by kernel_rfl
theorem facts6_28 : und Tryd.prog 65 = .struct := by kernel_rfl
theorem facts6_29 : tk Tryd.prog 65 = some (true, 2) := by kernel_rfl
theorem facts6_30 : sz Tryd.prog 65 = some 2 := by kernel_rfl
theorem facts6_31 : nb Tryd.prog 65 = some 32 := by kernel_rfl
theorem facts6_32 : zeroV Tryd.prog 65 = some (.agg #[.pointer none, .slice none 0 0]) := by kernel_rfl
theorem facts6_33 : fieldT Tryd.prog 65 0 = some (0, 63) := by kernel_rfl
theorem facts6_34 : fieldT Tryd.prog 65 1 = some (1, 34) := by kernel_rfl
theorem facts6_35 : buildOk Tryd.prog 65 = true := by kernel_rfl
theorem facts6_36 : und Tryd.prog 66 = .func := by kernel_rfl
theorem facts6_37 : und Tryd.prog 70 = .func := by kernel_rfl
theorem facts6_38 : und Tryd.prog 71 = .func := by kernel_rfl
theorem facts6_39 : und Tryd.prog 72 = .func := by kernel_rfl
theorem facts6 : sz Tryd.prog 60 = some 4 ∧ nb Tryd.prog 60 = some 32 ∧ zeroV Tryd.prog 60 = some (.agg #[.int .i64 0, .int .i64 0, .int .i64 0, .int .i64 0]) ∧ buildOk Tryd.prog 60 = true ∧ kinds Tryd.prog 60 = some [.int, .int, .int, .int] ∧ und Tryd.prog 61 = .slice 60 ∧ tk Tryd.prog 61 = some (false, 1) ∧ sz Tryd.prog 61 = some 1 ∧ nb Tryd.prog 61 = some 24 ∧ zeroV Tryd.prog 61 = some (.slice none 0 0) ∧ und Tryd.prog 62 = .slice 3 ∧ tk Tryd.prog 62 = some (false, 1) ∧ sz Tryd.prog 62 = some 1 ∧ nb Tryd.prog 62 = some 24 ∧ zeroV Tryd.prog 62 = some (.slice none 0 0) ∧ und Tryd.prog 63 = .ptr 65 ∧ tk Tryd.prog 63 = some (false, 1) ∧ sz Tryd.prog 63 = some 1 ∧ nb Tryd.prog 63 = some 8 ∧ zeroV Tryd.prog 63 = some (.pointer none) ∧ und Tryd.prog 64 = .struct ∧ tk Tryd.prog 64 = some (true, 2) ∧ sz Tryd.prog 64 = some 2 ∧ nb Tryd.prog 64 = some 32 ∧ zeroV Tryd.prog 64 = some (.agg #[.pointer none, .slice none 0 0]) ∧ fieldT Tryd.prog 64 0 = some (0, 63) ∧ fieldT Tryd.prog 64 1 = some (1, 34) ∧ buildOk Tryd.prog 64 = true ∧ und Tryd.prog 65 = .struct ∧ tk Tryd.prog 65 = some (true, 2) ∧ sz Tryd.prog 65 = some 2 ∧ nb Tryd.prog 65 = some 32 ∧ zeroV Tryd.prog 65 = some (.agg #[.pointer none, .slice none 0 0]) ∧ fieldT Tryd.prog 65 0 = some (0, 63) ∧ fieldT Tryd.prog 65 1 = some (1, 34) ∧ buildOk Tryd.prog 65 = true ∧ und Tryd.prog 66 = .func ∧ und Tryd.prog 70 = .func ∧ und Tryd.prog 71 = .func ∧ und Tryd.prog 72 = .func := ⟨facts6_0, facts6_1, facts6_2, facts6_3, facts6_4, facts6_5, facts6_6, facts6_7, facts6_8, facts6_9, facts6_10, facts6_11, facts6_12, facts6_13, facts6_14, facts6_15, facts6_16, facts6_17, facts6_18, facts6_19, facts6_20, facts6_21, facts6_22, facts6_23, facts6_24, facts6_25, facts6_26, facts6_27, facts6_28, facts6_29, facts6_30, facts6_31, facts6_32, facts6_33, facts6_34, facts6_35, facts6_36, facts6_37, facts6_38, facts6_39⟩
theorem facts7_0 : und Tryd.prog 73 = .map 38 40 := by kernel_rfl
theorem facts7_1 : tk Tryd.prog 73 = some (false, 1) := by kernel_rfl
theorem facts7_2 : sz Tryd.prog 73 = some 1 := by kernel_rfl
theorem facts7_3 : nb Tryd.prog 73 = some 8 := by kernel_rfl
theorem facts7_4 : zeroV Tryd.prog 73 = some (.map none) := by kernel_rfl
theorem facts7_5 : und Tryd.prog 74 = .slice 83 := by kernel_rfl
theorem facts7_6 : tk Tryd.prog 74 = some (false, 1) := by kernel_rfl
theorem facts7_7 : sz Tryd.prog 74 = some 1 := by kernel_rfl
theorem facts7_8 : nb Tryd.prog 74 = some 24 := by kernel_rfl
theorem facts7_9 : zeroV Tryd.prog 74 = some (.slice none 0 0) := by kernel_rfl
theorem facts7_10 : und Tryd.prog 75 = .struct := by kernel_rfl
theorem facts7_11 : tk Tryd.prog 75 = some (true, 3) := by kernel_rfl
theorem facts7_12 : sz Tryd.prog 75 = some 3 := by kernel_rfl
theorem facts7_13 : nb Tryd.prog 75 = some 56 := by kernel_rfl
theorem facts7_14 : zeroV Tryd.prog 75 = some (.agg #[.slice none 0 0, .slice none 0 0, .map none]) := by kernel_rfl
theorem facts7_15 : fieldT Tryd.prog 75 0 = some (0, 74) := by kernel_rfl
theorem facts7_16 : fieldT Tryd.prog 75 1 = some (1, 74) := by kernel_rfl
theorem facts7_17 : fieldT Tryd.prog 75 2 = some (2, 73) := by kernel_rfl
theorem facts7_18 : buildOk Tryd.prog 75 = true := by kernel_rfl
theorem facts7_19 : und Tryd.prog 76 = .struct := by kernel_rfl
theorem facts7_20 : tk Tryd.prog 76 = some (true, 3) := by kernel_rfl
theorem facts7_21 : sz Tryd.prog 76 = some 3 := by kernel_rfl
theorem facts7_22 : nb Tryd.prog 76 = some 56 := by kernel_rfl
theorem facts7_23 : zeroV Tryd.prog 76 = some (.agg #[.slice none 0 0, .slice none 0 0, .map none]) := by kernel_rfl
theorem facts7_24 : fieldT Tryd.prog 76 0 = some (0, 74) := by kernel_rfl
theorem facts7_25 : fieldT Tryd.prog 76 1 = some (1, 74) := by kernel_rfl
theorem facts7_26 : fieldT Tryd.prog 76 2 = some (2, 73) := by kernel_rfl
theorem facts7_27 : buildOk Tryd.prog 76 = true := by kernel_rfl
theorem facts7_28 : und Tryd.prog 77 = .func := by kernel_rfl
theorem facts7_29 : und Tryd.prog 78 = .struct := by kernel_rfl
theorem facts7_30 : tk Tryd.prog 78 = some (true, 16) := by kernel_rfl
theorem facts7_31 : sz Tryd.prog 78 = some 16 := by kernel_rfl
theorem facts7_32 : nb Tryd.prog 78 = some 128 := by kernel_rfl
theorem facts7_33 : zeroV Tryd.prog 78 = some (.agg (rep 16 (.int .i64 0)).toArray) := by kernel_rfl
theorem facts7_34 : fieldT Tryd.prog 78 0 = some (0, 24) := by kernel_rfl
theorem facts7_35 : buildOk Tryd.prog 78 = true := by kernel_rfl
theorem facts7_36 : kinds Tryd.prog 78 = some [.int, .int, .int, .int, .int, .int, .int, .int, .int, .int, .int, .int, .int, .int, .int, .int] := by kernel_rfl
theorem facts7_37 : und Tryd.prog 79 = .struct := by kernel_rfl
theorem facts7_38 : tk Tryd.prog 79 = some (true, 16) := by kernel_rfl
theorem facts7_39 : sz Tryd.prog 79 = some 16 := by kernel_rfl
theorem facts7 : und Tryd.prog 73 = .map 38 40 ∧ tk Tryd.prog 73 = some (false, 1) ∧ sz Tryd.prog 73 = some 1 ∧ nb Tryd.prog 73 = some 8 ∧ zeroV Tryd.prog 73 = some (.map none) ∧ und Tryd.prog 74 = .slice 83 ∧ tk Tryd.prog 74 = some (false, 1) ∧ sz Tryd.prog 74 = some 1 ∧ nb Tryd.prog 74 = some 24 ∧ zeroV Tryd.prog 74 = some (.slice none 0 0) ∧ und Tryd.prog 75 = .struct ∧ tk Tryd.prog 75 = some (true, 3) ∧ sz Tryd.prog 75 = some 3 ∧ nb Tryd.prog 75 = some 56 ∧ zeroV Tryd.prog 75 = some (.agg #[.slice none 0 0, .slice none 0 0, .map none]) ∧ fieldT Tryd.prog 75 0 = some (0, 74) ∧ fieldT Tryd.prog 75 1 = some (1, 74) ∧ fieldT Tryd.prog 75 2 = some (2, 73) ∧ buildOk Tryd.prog 75 = true ∧ und Tryd.prog 76 = .struct ∧ tk Tryd.prog 76 = some (true, 3) ∧ sz Tryd.prog 76 = some 3 ∧ nb Tryd.prog 76 = some 56 ∧ zeroV Tryd.prog 76 = some (.agg #[.slice none 0 0, .slice none 0 0, .map none]) ∧ fieldT Tryd.prog 76 0 = some (0, 74) ∧ fieldT Tryd.prog 76 1 = some (1, 74) ∧ fieldT Tryd.prog 76 2 = some (2, 73) ∧ buildOk Tryd.prog 76 = true ∧ und Tryd.prog 77 = .func ∧ und Tryd.prog 78 = .struct ∧ tk Tryd.prog 78 = some (true, 16) ∧ sz Tryd.prog 78 = some 16 ∧ nb Tryd.prog 78 = some 128 ∧ zeroV Tryd.prog 78 = some (.agg (rep 16 (.int .i64 0)).toArray) ∧ fieldT Tryd.prog 78 0 = some (0, 24) ∧ buildOk Tryd.prog 78 = true ∧ kinds Tryd.prog 78 = some [.int, .int, .int, .int, .int, .int, .int, .int, .int, .int, .int, .int, .int, .int, .int, .int] ∧ und Tryd.prog 79 = .struct ∧ tk Tryd.prog 79 = some (true, 16) ∧ sz Tryd.prog 79 = some 16 := ⟨facts7_0, facts7_1, facts7_2, facts7_3, facts7_4, facts7_5, facts7_6, facts7_7, facts7_8, facts7_9, facts7_10, facts7_11, facts7_12, facts7_13, facts7_14, facts7_15, facts7_16, facts7_17, facts7_18, facts7_19, facts7_20, facts7_21, facts7_22, facts7_23, facts7_24, facts7_25, facts7_26, facts7_27, facts7_28, facts7_29, facts7_30, facts7_31, facts7_32, facts7_33, facts7_34, facts7_35, facts7_36, facts7_37, facts7_38, facts7_39⟩
theorem facts8_0 : nb Tryd.prog 79 = some 128 := by kernel_rfl
theorem facts8_1 : zeroV Tryd.prog 79 = some (.agg (rep 16 (.int .i64 0)).toArray) := by kernel_rfl
theorem facts8_2 : fieldT Tryd.prog 79 0 = some (0, 24) := by kernel_rfl
theorem facts8_3 : buildOk Tryd.prog 79 = true := by kernel_rfl
theorem facts8_4 : kinds Tryd.prog 79 = some [.int, .int, .int, .int, .int, .int, .int, .int, .int, .int, .int, .int, .int, .int, .int, .int] := by kernel_rfl
theorem facts8_5 : und Tryd.prog 80 = .ptr 79 := by kernel_rfl
theorem facts8_6 : tk Tryd.prog 80 = some (false, 1) := by kernel_rfl
theorem facts8_7 : sz Tryd.prog 80 = some 1 := by kernel_rfl
theorem facts8_8 : nb Tryd.prog 80 = some 8 := by kernel_rfl
theorem facts8_9 : zeroV Tryd.prog 80 = some (.pointer none) := by kernel_rfl
theorem facts8_10 : und Tryd.prog 81 = .func := by kernel_rfl
theorem facts8_11 : und Tryd.prog 82 = .struct := by kernel_rfl
theorem facts8_12 : tk Tryd.prog 82 = some (true, 18) := by kernel_rfl
theorem facts8_13 : sz Tryd.prog 82 = some 18 := by kernel_rfl
theorem facts8_14 : nb Tryd.prog 82 = some 144 := by kernel_rfl
theorem facts8_15 : zeroV Tryd.prog 82 = some (.agg (rep 16 (.int .i64 0) ++ ([.bool false, .int .i64 0] : List Value)).toArray) := by kernel_rfl
theorem facts8_16 : fieldT Tryd.prog 82 0 = some (0, 79) := by kernel_rfl
theorem facts8_17 : fieldT Tryd.prog 82 1 = some (16, 4) := by kernel_rfl
theorem facts8_18 : fieldT Tryd.prog 82 2 = some (17, 3) := by kernel_rfl
theorem facts8_19 : buildOk Tryd.prog 82 = true := by kernel_rfl
theorem facts8_20 : kinds Tryd.prog 82 = some [.int, .int, .int, .int, .int, .int, .int, .int, .int, .int, .int, .int, .int, .int, .int, .int, .bool, .int] := by kernel_rfl
theorem facts8_21 : und Tryd.prog 83 = .struct := by kernel_rfl
theorem facts8_22 : tk Tryd.prog 83 = some (true, 18) := by kernel_rfl
theorem facts8_23 : sz Tryd.prog 83 = some 18 := by kernel_rfl
theorem facts8_24 : nb Tryd.prog 83 = some 144 := by kernel_rfl
theorem facts8_25 : zeroV Tryd.prog 83 = some (.agg (rep 16 (.int .i64 0) ++ ([.bool false, .int .i64 0] : List Value)).toArray) := by kernel_rfl
theorem facts8_26 : fieldT Tryd.prog 83 0 = some (0, 79) := by kernel_rfl
theorem facts8_27 : fieldT Tryd.prog 83 1 = some (16, 4) := by kernel_rfl
theorem facts8_28 : fieldT Tryd.prog 83 2 = some (17, 3) := by kernel_rfl
theorem facts8_29 : buildOk Tryd.prog 83 = true := by kernel_rfl
theorem facts8_30 : kinds Tryd.prog 83 = some [.int, .int, .int, .int, .int, .int, .int, .int, .int, .int, .int, .int, .int, .int, .int, .int, .bool, .int] := by kernel_rfl
theorem facts8_31 : und Tryd.prog 84 = .func := by kernel_rfl
theorem facts8_32 : und Tryd.prog 85 = .func := by kernel_rfl
theorem facts8_33 : und Tryd.prog 86 = .func := by kernel_rfl
theorem facts8_34 : und Tryd.prog 87 = .int .u64 := by kernel_rfl
theorem facts8_35 : tk Tryd.prog 87 = some (false, 1) := by kernel_rfl
theorem facts8_36 : sz Tryd.prog 87 = some 1 := by kernel_rfl
theorem facts8_37 : nb Tryd.prog 87 = some 8 := by kernel_rfl
theorem facts8_38 : zeroV Tryd.prog 87 = some (.int .u64 0) := by kernel_rfl
theorem facts8_39 : und Tryd.prog 89 = .func := by kernel_rfl
theorem facts8 : nb Tryd.prog 79 = some 128 ∧ zeroV Tryd.prog 79 = some (.agg (rep 16 (.int .i64 0)).toArray) ∧ fieldT Tryd.prog 79 0 = some (0, 24) ∧ buildOk Tryd.prog 79 = true ∧ kinds Tryd.prog 79 = some [.int, .int, .int, .int, .int, .int, .int, .int, .int, .int, .int, .int, .int, .int, .int, .int] ∧ und Tryd.prog 80 = .ptr 79 ∧ tk Tryd.prog 80 = some (false, 1) ∧ sz Tryd.prog 80 = some 1 ∧ nb Tryd.prog 80 = some 8 ∧ zeroV Tryd.prog 80 = some (.pointer none) ∧ und Tryd.prog 81 = .func ∧ und Tryd.prog 82 = .struct ∧ tk Tryd.prog 82 = some (true, 18) ∧ sz Tryd.prog 82 = some 18 ∧ nb Tryd.prog 82 = some 144 ∧ zeroV Tryd.prog 82 = some (.agg (rep 16 (.int .i64 0) ++ ([.bool false, .int .i64 0] : List Value)).toArray) ∧ fieldT Tryd.prog 82 0 = some (0, 79) ∧ fieldT Tryd.prog 82 1 = some (16, 4) ∧ fieldT Tryd.prog 82 2 = some (17, 3) ∧ buildOk Tryd.prog 82 = true ∧ kinds Tryd.prog 82 = some [.int, .int, .int, .int, .int, .int, .int, .int, .int, .int, .int, .int, .int, .int, .int, .int, .bool, .int] ∧ und Tryd.prog 83 = .struct ∧ tk Tryd.prog 83 = some (true, 18) ∧ sz Tryd.prog 83 = some 18 ∧ nb Tryd.prog 83 = some 144 ∧ zeroV Tryd.prog 83 = some (.agg (rep 16 (.int .i64 0) ++ ([.bool false, .int .i64 0] : List Value)).toArray) ∧ fieldT Tryd.prog 83 0 = some (0, 79) ∧ fieldT Tryd.prog 83 1 = some (16, 4) ∧ fieldT Tryd.prog 83 2 = some (17, 3) ∧ buildOk Tryd.prog 83 = true ∧ kinds Tryd.prog 83 = some [.int, .int, .int, .int, .int, .int, .int, .int, .int, .int, .int, .int, .int, .int, .int, .int, .bool, .int] ∧ und Tryd.prog 84 = .func ∧ und Tryd.prog 85 = .func ∧ und Tryd.prog 86 = .func ∧ und Tryd.prog 87 = .int .u64 ∧ tk Tryd.prog 87 = some (false, 1) ∧ sz Tryd.prog 87 = some 1 ∧ nb Tryd.prog 87 = some 8 ∧ zeroV Tryd.prog 87 = some (.int .u64 0) ∧ und Tryd.prog 89 = .func := ⟨facts8_0, facts8_1, facts8_2, facts8_3, facts8_4, facts8_5, facts8_6, facts8_7, facts8_8, facts8_9, facts8_10, facts8_11, facts8_12, facts8_13, facts8_14, facts8_15, facts8_16, facts8_17, facts8_18, facts8_19, facts8_20, facts8_21, facts8_22, facts8_23, facts8_24, facts8_25, facts8_26, facts8_27, facts8_28, facts8_29, facts8_30, facts8_31, facts8_32, facts8_33, facts8_34, facts8_35, facts8_36, facts8_37, facts8_38, facts8_39⟩
theorem facts9_0 : und Tryd.prog 90 = .int .u64 := by kernel_rfl
theorem facts9_1 : tk Tryd.prog 90 = some (false, 1) := by kernel_rfl
theorem facts9_2 : sz Tryd.prog 90 = some 1 := by kernel_rfl
theorem facts9_3 : nb Tryd.prog 90 = some 8 := by kernel_rfl
theorem facts9_4 : zeroV Tryd.prog 90 = some (.int .u64 0) := by kernel_rfl
theorem facts9_5 : und Tryd.prog 91 = .struct := by kernel_rfl
theorem facts9_6 : tk Tryd.prog 91 = some (true, 2) := by kernel_rfl
theorem facts9_7 : sz Tryd.prog 91 = some 2 := by kernel_rfl
theorem facts9_8 : nb Tryd.prog 91 = some 16 := by kernel_rfl
theorem facts9_9 : zeroV Tryd.prog 91 = some (.agg #[.int .i64 0, .int .u64 0]) := by kernel_rfl
theorem facts9_10 : fieldT Tryd.prog 91 0 = some (0, 2) := by kernel_rfl
theorem facts9_11 : fieldT Tryd.prog 91 1 = some (1, 87) := by kernel_rfl
theorem facts9_12 : buildOk Tryd.prog 91 = true := by kernel_rfl
theorem facts9_13 : kinds Tryd.prog 91 = some [.int, .int] := by kernel_rfl
theorem facts9_14 : und Tryd.prog 92 = .struct := by kernel_rfl
theorem facts9_15 : tk Tryd.prog 92 = some (true, 2) := by kernel_rfl
theorem facts9_16 : sz Tryd.prog 92 = some 2 := by kernel_rfl
theorem facts9_17 : nb Tryd.prog 92 = some 16 := by kernel_rfl
theorem facts9_18 : zeroV Tryd.prog 92 = some (.agg #[.int .i64 0, .int .u64 0]) := by kernel_rfl
theorem facts9_19 : fieldT Tryd.prog 92 0 = some (0, 2) := by kernel_rfl
theorem facts9_20 : fieldT Tryd.prog 92 1 = some (1, 87) := by kernel_rfl
theorem facts9_21 : buildOk Tryd.prog 92 = true := by kernel_rfl
theorem facts9_22 : kinds Tryd.prog 92 = some [.int, .int] := by kernel_rfl
theorem facts9_23 : und Tryd.prog 93 = .func := by kernel_rfl
theorem facts9_24 : und Tryd.prog 94 = .func := by kernel_rfl
theorem facts9_25 : und Tryd.prog 95 = .func := by kernel_rfl
theorem facts9_26 : und Tryd.prog 96 = .func := by kernel_rfl
theorem facts9_27 : und Tryd.prog 97 = .func := by kernel_rfl
theorem facts9_28 : und Tryd.prog 98 = .func := by kernel_rfl
theorem facts9_29 : und Tryd.prog 99 = .func := by kernel_rfl
theorem facts9_30 : und Tryd.prog 100 = .func := by kernel_rfl
theorem facts9_31 : und Tryd.prog 101 = .ptr 5 := by kernel_rfl
theorem facts9_32 : tk Tryd.prog 101 = some (false, 1) := by kernel_rfl
theorem facts9_33 : sz Tryd.prog 101 = some 1 := by kernel_rfl
theorem facts9_34 : nb Tryd.prog 101 = some 8 := by kernel_rfl
theorem facts9_35 : zeroV Tryd.prog 101 = some (.pointer none) := by kernel_rfl
theorem facts9_36 : und Tryd.prog 102 = .func := by kernel_rfl
theorem facts9_37 : und Tryd.prog 103 = .map 9 4 := by kernel_rfl
theorem facts9_38 : tk Tryd.prog 103 = some (false, 1) := by kernel_rfl
theorem facts9_39 : sz Tryd.prog 103 = some 1 := by kernel_rfl
theorem facts9 : und Tryd.prog 90 = .int .u64 ∧ tk Tryd.prog 90 = some (false, 1) ∧ sz Tryd.prog 90 = some 1 ∧ nb Tryd.prog 90 = some 8 ∧ zeroV Tryd.prog 90 = some (.int .u64 0) ∧ und Tryd.prog 91 = .struct ∧ tk Tryd.prog 91 = some (true, 2) ∧ sz Tryd.prog 91 = some 2 ∧ nb Tryd.prog 91 = some 16 ∧ zeroV Tryd.prog 91 = some (.agg #[.int .i64 0, .int .u64 0]) ∧ fieldT Tryd.prog 91 0 = some (0, 2) ∧ fieldT Tryd.prog 91 1 = some (1, 87) ∧ buildOk Tryd.prog 91 = true ∧ kinds Tryd.prog 91 = some [.int, .int] ∧ und Tryd.prog 92 = .struct ∧ tk Tryd.prog 92 = some (true, 2) ∧ sz Tryd.prog 92 = some 2 ∧ nb Tryd.prog 92 = some 16 ∧ zeroV Tryd.prog 92 = some (.agg #[.int .i64 0, .int .u64 0]) ∧ fieldT Tryd.prog 92 0 = some (0, 2) ∧ fieldT Tryd.prog 92 1 = some (1, 87) ∧ buildOk Tryd.prog 92 = true ∧ kinds Tryd.prog 92 = some [.int, .int] ∧ und Tryd.prog 93 = .func ∧ und Tryd.prog 94 = .func ∧ und Tryd.prog 95 = .func ∧ und Tryd.prog 96 = .func ∧ und Tryd.prog 97 = .func ∧ und Tryd.prog 98 = .func ∧ und Tryd.prog 99 = .func ∧ und Tryd.prog 100 = .func ∧ und Tryd.prog 101 = .ptr 5 ∧ tk Tryd.prog 101 = some (false, 1) ∧ sz Tryd.prog 101 = some 1 ∧ nb Tryd.prog 101 = some 8 ∧ zeroV Tryd.prog 101 = some (.pointer none) ∧ und Tryd.prog 102 = .func ∧ und Tryd.prog 103 = .map 9 4 ∧ tk Tryd.prog 103 = some (false, 1) ∧ sz Tryd.prog 103 = some 1 := ⟨facts9_0, facts9_1, facts9_2, facts9_3, facts9_4, facts9_5, facts9_6, facts9_7, facts9_8, facts9_9, facts9_10, facts9_11, facts9_12, facts9_13, facts9_14, facts9_15, facts9_16, facts9_17, facts9_18, facts9_19, facts9_20, facts9_21, facts9_22, facts9_23, facts9_24, facts9_25, facts9_26, facts9_27, facts9_28, facts9_29, facts9_30, facts9_31, facts9_32, facts9_33, facts9_34, facts9_35, facts9_36, facts9_37, facts9_38, facts9_39⟩
theorem facts10_0 : nb Tryd.prog 103 = some 8 := by kernel_rfl
theorem facts10_1 : zeroV Tryd.prog 103 = some (.map none) := by kernel_rfl
theorem facts10_2 : und Tryd.prog 104 = .func := by kernel_rfl
theorem facts10_3 : und Tryd.prog 106 = .func := by kernel_rfl
theorem facts10_4 : und Tryd.prog 107 = .slice 38 := by kernel_rfl
theorem facts10_5 : tk Tryd.prog 107 = some (false, 1) := by kernel_rfl
theorem facts10_6 : sz Tryd.prog 107 = some 1 := by kernel_rfl
theorem facts10_7 : nb Tryd.prog 107 = some 24 := by kernel_rfl
theorem facts10_8 : zeroV Tryd.prog 107 = some (.slice none 0 0) := by kernel_rfl
theorem facts10_9 : und Tryd.prog 108 = .func := by kernel_rfl
theorem facts10_10 : und Tryd.prog 109 = .func := by kernel_rfl
theorem facts10_11 : und Tryd.prog 110 = .func := by kernel_rfl
theorem facts10_12 : und Tryd.prog 111 = .func := by kernel_rfl
theorem facts10_13 : und Tryd.prog 112 = .func := by kernel_rfl
theorem facts10_14 : und Tryd.prog 113 = .func := by kernel_rfl
theorem facts10_15 : und Tryd.prog 114 = .func := by kernel_rfl
theorem facts10_16 : und Tryd.prog 115 = .func := by kernel_rfl
theorem facts10_17 : und Tryd.prog 116 = .func := by kernel_rfl
theorem facts10_18 : und Tryd.prog 117 = .func := by kernel_rfl
theorem facts10_19 : und Tryd.prog 118 = .func := by kernel_rfl
theorem facts10_20 : und Tryd.prog 119 = .func := by kernel_rfl
theorem facts10_21 : und Tryd.prog 120 = .arr 24 5 := by kernel_rfl
theorem facts10_22 : tk Tryd.prog 120 = some (true, 24) := by kernel_rfl
theorem facts10_23 : sz Tryd.prog 120 = some 24 := by kernel_rfl
theorem facts10_24 : nb Tryd.prog 120 = some 24 := by kernel_rfl
theorem facts10_25 : zeroV Tryd.prog 120 = some (.agg (rep 24 (.int .u8 0)).toArray) := by kernel_rfl
theorem facts10_26 : buildOk Tryd.prog 120 = true := by kernel_rfl
theorem facts10_27 : kinds Tryd.prog 120 = some [.int, .int, .int, .int, .int, .int, .int, .int, .int, .int, .int, .int, .int, .int, .int, .int, .int, .int, .int, .int, .int, .int, .int, .int] := by kernel_rfl
theorem facts10_28 : und Tryd.prog 121 = .func := by kernel_rfl
theorem facts10_29 : und Tryd.prog 122 = .func := by kernel_rfl
theorem facts10_30 : und Tryd.prog 124 = .func := by kernel_rfl
theorem facts10_31 : und Tryd.prog 125 = .func := by kernel_rfl
theorem facts10_32 : und Tryd.prog 126 = .func := by kernel_rfl
theorem facts10_33 : und Tryd.prog 127 = .func := by kernel_rfl
theorem facts10_34 : und Tryd.prog 128 = .func := by kernel_rfl
theorem facts10_35 : und Tryd.prog 129 = .func := by kernel_rfl
theorem facts10_36 : und Tryd.prog 130 = .func := by kernel_rfl
theorem facts10_37 : und Tryd.prog 131 = .func := by kernel_rfl
theorem facts10_38 : und Tryd.prog 132 = .arr 20 87 := by kernel_rfl
theorem facts10_39 : tk Tryd.prog 132 = some (true, 20) := by kernel_rfl
theorem facts10 : nb Tryd.prog 103 = some 8 ∧ zeroV Tryd.prog 103 = some (.map none) ∧ und Tryd.prog 104 = .func ∧ und Tryd.prog 106 = .func ∧ und Tryd.prog 107 = .slice 38 ∧ tk Tryd.prog 107 = some (false, 1) ∧ sz Tryd.prog 107 = some 1 ∧ nb Tryd.prog 107 = some 24 ∧ zeroV Tryd.prog 107 = some (.slice none 0 0) ∧ und Tryd.prog 108 = .func ∧ und Tryd.prog 109 = .func ∧ und Tryd.prog 110 = .func ∧ und Tryd.prog 111 = .func ∧ und Tryd.prog 112 = .func ∧ und Tryd.prog 113 = .func ∧ und Tryd.prog 114 = .func ∧ und Tryd.prog 115 = .func ∧ und Tryd.prog 116 = .func ∧ und Tryd.prog 117 = .func ∧ und Tryd.prog 118 = .func ∧ und Tryd.prog 119 = .func ∧ und Tryd.prog 120 = .arr 24 5 ∧ tk Tryd.prog 120 = some (true, 24) ∧ sz Tryd.prog 120 = some 24 ∧ nb Tryd.prog 120 = some 24 ∧ zeroV Tryd.prog 120 = some (.agg (rep 24 (.int .u8 0)).toArray) ∧ buildOk Tryd.prog 120 = true ∧ kinds Tryd.prog 120 = some [.int, .int, .int, .int, .int, .int, .int, .int, .int, .int, .int, .int, .int, .int, .int, .int, .int, .int, .int, .int, .int, .int, .int, .int] ∧ und Tryd.prog 121 = .func ∧ und Tryd.prog 122 = .func ∧ und Tryd.prog 124 = .func ∧ und Tryd.prog 125 = .func ∧ und Tryd.prog 126 = .func ∧ und Tryd.prog 127 = .func ∧ und Tryd.prog 128 = .func ∧ und Tryd.prog 129 = .func ∧ und Tryd.prog 130 = .func ∧ und Tryd.prog 131 = .func ∧ und Tryd.prog 132 = .arr 20 87 ∧ tk Tryd.prog 132 = some (true, 20) := ⟨facts10_0, facts10_1, facts10_2, facts10_3, facts10_4, facts10_5, facts10_6, facts10_7, facts10_8, facts10_9, facts10_10, facts10_11, facts10_12, facts10_13, facts10_14, facts10_15, facts10_16, facts10_17, facts10_18, facts10_19, facts10_20, facts10_21, facts10_22, facts10_23, facts10_24, facts10_25, facts10_26, facts10_27, facts10_28, facts10_29, facts10_30, facts10_31, facts10_32, facts10_33, facts10_34, facts10_35, facts10_36, facts10_37, facts10_38, facts10_39⟩
theorem facts11_0 : sz Tryd.prog 132 = some 20 := by kernel_rfl
theorem facts11_1 : nb Tryd.prog 132 = some 160 := by kernel_rfl
theorem facts11_2 : zeroV Tryd.prog 132 = some (.agg (rep 20 (.int .u64 0)).toArray) := by kernel_rfl
theorem facts11_3 : buildOk Tryd.prog 132 = true := by kernel_rfl
theorem facts11_4 : kinds Tryd.prog 132 = some [.int, .int, .int, .int, .int, .int, .int, .int, .int, .int, .int, .int, .int, .int, .int, .int, .int, .int, .int, .int] := by kernel_rfl
theorem facts11_5 : und Tryd.prog 133 = .arr 65 5 := by kernel_rfl
theorem facts11_6 : tk Tryd.prog 133 = some (true, 65) := by kernel_rfl
theorem facts11_7 : sz Tryd.prog 133 = some 65 := by kernel_rfl
theorem facts11_8 : nb Tryd.prog 133 = some 65 := by kernel_rfl
theorem facts11_9 : zeroV Tryd.prog 133 = some (.agg (rep 65 (.int .u8 0)).toArray) := by kernel_rfl
theorem facts11_10 : buildOk Tryd.prog 133 = true := by kernel_rfl
theorem facts11_11 : kinds Tryd.prog 133 = some (List.replicate 65 .int) := by kernel_rfl
theorem facts11_12 : und Tryd.prog 134 = .func := by kernel_rfl
theorem facts11_13 : und Tryd.prog 135 = .func := by kernel_rfl
theorem facts11_14 : und Tryd.prog 136 = .int .i64 := by kernel_rfl
theorem facts11_15 : tk Tryd.prog 136 = some (false, 1) := by kernel_rfl
theorem facts11_16 : sz Tryd.prog 136 = some 1 := by kernel_rfl
theorem facts11_17 : nb Tryd.prog 136 = some 8 := by kernel_rfl
theorem facts11_18 : zeroV Tryd.prog 136 = some (.int .i64 0) := by kernel_rfl
theorem facts11_19 : und Tryd.prog 138 = .func := by kernel_rfl
theorem facts11_20 : und Tryd.prog 139 = .func := by kernel_rfl
theorem facts11_21 : und Tryd.prog 140 = .func := by kernel_rfl
theorem facts11_22 : und Tryd.prog 142 = .func := by kernel_rfl
theorem facts11_23 : und Tryd.prog 143 = .func := by kernel_rfl
theorem facts11_24 : und Tryd.prog 144 = .int .u64 := by kernel_rfl
theorem facts11_25 : tk Tryd.prog 144 = some (false, 1) := by kernel_rfl
theorem facts11_26 : sz Tryd.prog 144 = some 1 := by kernel_rfl
theorem facts11_27 : nb Tryd.prog 144 = some 8 := by kernel_rfl
theorem facts11_28 : zeroV Tryd.prog 144 = some (.int .u64 0) := by kernel_rfl
theorem facts11_29 : und Tryd.prog 145 = .func := by kernel_rfl
theorem facts11_30 : und Tryd.prog 146 = .func := by kernel_rfl
theorem facts11_31 : und Tryd.prog 147 = .func := by kernel_rfl
theorem facts11_32 : und Tryd.prog 148 = .ptr 3 := by kernel_rfl
theorem facts11_33 : tk Tryd.prog 148 = some (false, 1) := by kernel_rfl
theorem facts11_34 : sz Tryd.prog 148 = some 1 := by kernel_rfl
theorem facts11_35 : nb Tryd.prog 148 = some 8 := by kernel_rfl
theorem facts11_36 : zeroV Tryd.prog 148 = some (.pointer none) := by kernel_rfl
theorem facts11_37 : und Tryd.prog 149 = .func := by kernel_rfl
theorem facts11_38 : und Tryd.prog 150 = .arr 32 5 := by kernel_rfl
theorem facts11_39 : tk Tryd.prog 150 = some (true, 32) := by kernel_rfl
theorem facts11 : sz Tryd.prog 132 = some 20 ∧ nb Tryd.prog 132 = some 160 ∧ zeroV Tryd.prog 132 = some (.agg (rep 20 (.int .u64 0)).toArray) ∧ buildOk Tryd.prog 132 = true ∧ kinds Tryd.prog 132 = some [.int, .int, .int, .int, .int, .int, .int, .int, .int, .int, .int, .int, .int, .int, .int, .int, .int, .int, .int, .int] ∧ und Tryd.prog 133 = .arr 65 5 ∧ tk Tryd.prog 133 = some (true, 65) ∧ sz Tryd.prog 133 = some 65 ∧ nb Tryd.prog 133 = some 65 ∧ zeroV Tryd.prog 133 = some (.agg (rep 65 (.int .u8 0)).toArray) ∧ buildOk Tryd.prog 133 = true ∧ kinds Tryd.prog 133 = some (List.replicate 65 .int) ∧ und Tryd.prog 134 = .func ∧ und Tryd.prog 135 = .func ∧ und Tryd.prog 136 = .int .i64 ∧ tk Tryd.prog 136 = some (false, 1) ∧ sz Tryd.prog 136 = some 1 ∧ nb Tryd.prog 136 = some 8 ∧ zeroV Tryd.prog 136 = some (.int .i64 0) ∧ und Tryd.prog 138 = .func ∧ und Tryd.prog 139 = .func ∧ und Tryd.prog 140 = .func ∧ und Tryd.prog 142 = .func ∧ und Tryd.prog 143 = .func ∧ und Tryd.prog 144 = .int .u64 ∧ tk Tryd.prog 144 = some (false, 1) ∧ sz Tryd.prog 144 = some 1 ∧ nb Tryd.prog 144 = some 8 ∧ zeroV Tryd.prog 144 = some (.int .u64 0) ∧ und Tryd.prog 145 = .func ∧ und Tryd.prog 146 = .func ∧ und Tryd.prog 147 = .func ∧ und Tryd.prog 148 = .ptr 3 ∧ tk Tryd.prog 148 = some (false, 1) ∧ sz Tryd.prog 148 = some 1 ∧ nb Tryd.prog 148 = some 8 ∧ zeroV Tryd.prog 148 = some (.pointer none) ∧ und Tryd.prog 149 = .func ∧ und Tryd.prog 150 = .arr 32 5 ∧ tk Tryd.prog 150 = some (true, 32) := ⟨facts11_0, facts11_1, facts11_2, facts11_3, facts11_4, facts11_5, facts11_6, facts11_7, facts11_8, facts11_9, facts11_10, facts11_11, facts11_12, facts11_13, facts11_14, facts11_15, facts11_16, facts11_17, facts11_18, facts11_19, facts11_20, facts11_21, facts11_22, facts11_23, facts11_24, facts11_25, facts11_26, facts11_27, facts11_28, facts11_29, facts11_30, facts11_31, facts11_32, facts11_33, facts11_34, facts11_35, facts11_36, facts11_37, facts11_38, facts11_39⟩
theorem facts12_0 : sz Tryd.prog 150 = some 32 := by kernel_rfl
theorem facts12_1 : nb Tryd.prog 150 = some 32 := by kernel_rfl
theorem facts12_2 : zeroV Tryd.prog 150 = some (.agg (rep 32 (.int .u8 0)).toArray) := by kernel_rfl
theorem facts12_3 : buildOk Tryd.prog 150 = true := by kernel_rfl
theorem facts12_4 : kinds Tryd.prog 150 = some (List.replicate 32 .int) := by kernel_rfl
theorem facts12_5 : und Tryd.prog 151 = .arr 64 5 := by kernel_rfl
theorem facts12_6 : tk Tryd.prog 151 = some (true, 64) := by kernel_rfl
theorem facts12_7 : sz Tryd.prog 151 = some 64 := by kernel_rfl
theorem facts12_8 : nb Tryd.prog 151 = some 64 := by kernel_rfl
theorem facts12_9 : zeroV Tryd.prog 151 = some (.agg (rep 64 (.int .u8 0)).toArray) := by kernel_rfl
theorem facts12_10 : buildOk Tryd.prog 151 = true := by kernel_rfl
theorem facts12_11 : kinds Tryd.prog 151 = some (List.replicate 64 .int) := by kernel_rfl
theorem facts12_12 : und Tryd.prog 152 = .ptr 144 := by kernel_rfl
theorem facts12_13 : tk Tryd.prog 152 = some (false, 1) := by kernel_rfl
theorem facts12_14 : sz Tryd.prog 152 = some 1 := by kernel_rfl
theorem facts12_15 : nb Tryd.prog 152 = some 8 := by kernel_rfl
theorem facts12_16 : zeroV Tryd.prog 152 = some (.pointer none) := by kernel_rfl
theorem facts12_17 : und Tryd.prog 154 = .func := by kernel_rfl
theorem facts12_18 : und Tryd.prog 162 = .func := by kernel_rfl
theorem facts12_19 : Tryd.prog.follows .mixedOrders = true := by kernel_rfl
theorem facts12_20 : callable Tryd.prog 3 = true := by kernel_rfl
theorem facts12_21 : callable Tryd.prog 4 = true := by kernel_rfl
theorem facts12_22 : callable Tryd.prog 5 = true := by kernel_rfl
theorem facts12_23 : callable Tryd.prog 6 = true := by kernel_rfl
theorem facts12_24 : callable Tryd.prog 7 = true := by kernel_rfl
theorem facts12_25 : callable Tryd.prog 8 = true := by kernel_rfl
theorem facts12_26 : callable Tryd.prog 9 = true := by kernel_rfl
theorem facts12_27 : callable Tryd.prog 10 = true := by kernel_rfl
theorem facts12_28 : callable Tryd.prog 11 = true := by kernel_rfl
theorem facts12_29 : callable Tryd.prog 12 = true := by kernel_rfl
theorem facts12_30 : callable Tryd.prog 13 = true := by kernel_rfl
theorem facts12_31 : callable Tryd.prog 14 = true := by kernel_rfl
theorem facts12_32 : callable Tryd.prog 15 = true := by kernel_rfl
theorem facts12_33 : callable Tryd.prog 16 = true := by kernel_rfl
theorem facts12_34 : callable Tryd.prog 17 = true := by kernel_rfl
theorem facts12_35 : callable Tryd.prog 18 = true := by kernel_rfl
theorem facts12_36 : callable Tryd.prog 19 = true := by kernel_rfl
theorem facts12_37 : callable Tryd.prog 20 = true := by kernel_rfl
theorem facts12_38 : callable Tryd.prog 21 = true := by kernel_rfl
theorem facts12_39 : callable Tryd.prog 22 = true := by kernel_rfl
theorem facts12 : sz Tryd.prog 150 = some 32 ∧ nb Tryd.prog 150 = some 32 ∧ zeroV Tryd.prog 150 = some (.agg (rep 32 (.int .u8 0)).toArray) ∧ buildOk Tryd.prog 150 = true ∧ kinds Tryd.prog 150 = some (List.replicate 32 .int) ∧ und Tryd.prog 151 = .arr 64 5 ∧ tk Tryd.prog 151 = some (true, 64) ∧ sz Tryd.prog 151 = some 64 ∧ nb Tryd.prog 151 = some 64 ∧ zeroV Tryd.prog 151 = some (.agg (rep 64 (.int .u8 0)).toArray) ∧ buildOk Tryd.prog 151 = true ∧ kinds Tryd.prog 151 = some (List.replicate 64 .int) ∧ und Tryd.prog 152 = .ptr 144 ∧ tk Tryd.prog 152 = some (false, 1) ∧ sz Tryd.prog 152 = some 1 ∧ nb Tryd.prog 152 = some 8 ∧ zeroV Tryd.prog 152 = some (.pointer none) ∧ und Tryd.prog 154 = .func ∧ und Tryd.prog 162 = .func ∧ Tryd.prog.follows .mixedOrders = true ∧ callable Tryd.prog 3 = true ∧ callable Tryd.prog 4 = true ∧ callable Tryd.prog 5 = true ∧ callable Tryd.prog 6 = true ∧ callable Tryd.prog 7 = true ∧ callable Tryd.prog 8 = true ∧ callable Tryd.prog 9 = true ∧ callable Tryd.prog 10 = true ∧ callable Tryd.prog 11 = true ∧ callable Tryd.prog 12 = true ∧ callable Tryd.prog 13 = true ∧ callable Tryd.prog 14 = true ∧ callable Tryd.prog 15 = true ∧ callable Tryd.prog 16 = true ∧ callable Tryd.prog 17 = true ∧ callable Tryd.prog 18 = true ∧ callable Tryd.prog 19 = true ∧ callable Tryd.prog 20 = true ∧ callable Tryd.prog 21 = true ∧ callable Tryd.prog 22 = true := ⟨facts12_0, facts12_1, facts12_2, facts12_3, facts12_4, facts12_5, facts12_6, facts12_7, facts12_8, facts12_9, facts12_10, facts12_11, facts12_12, facts12_13, facts12_14, facts12_15, facts12_16, facts12_17, facts12_18, facts12_19, facts12_20, facts12_21, facts12_22, facts12_23, facts12_24, facts12_25, facts12_26, facts12_27, facts12_28, facts12_29, facts12_30, facts12_31, facts12_32, facts12_33, facts12_34, facts12_35, facts12_36, facts12_37, facts12_38, facts12_39⟩
theorem facts13_0 : callable Tryd.prog 23 = true := by kernel_rfl
theorem facts13_1 : callable Tryd.prog 24 = true := by kernel_rfl
theorem facts13_2 : callable Tryd.prog 25 = true := by kernel_rfl
theorem facts13_3 : callable Tryd.prog 26 = true := by kernel_rfl
theorem facts13_4 : callable Tryd.prog 27 = true := by kernel_rfl
theorem facts13_5 : callable Tryd.prog 28 = true := by kernel_rfl
theorem facts13_6 : callable Tryd.prog 29 = true := by kernel_rfl
theorem facts13_7 : callable Tryd.prog 30 = true := by kernel_rfl
theorem facts13_8 : callable Tryd.prog 31 = false := by kernel_rfl
theorem facts13_9 : callable Tryd.prog 32 = true := by kernel_rfl
theorem facts13_10 : callable Tryd.prog 33 = true := by kernel_rfl
theorem facts13_11 : callable Tryd.prog 34 = true := by kernel_rfl
theorem facts13_12 : callable Tryd.prog 35 = true := by kernel_rfl
theorem facts13_13 : callable Tryd.prog 36 = true := by kernel_rfl
theorem facts13_14 : callable Tryd.prog 37 = true := by kernel_rfl
theorem facts13_15 : callable Tryd.prog 38 = true := by kernel_rfl
theorem facts13_16 : callable Tryd.prog 39 = true := by kernel_rfl
theorem facts13_17 : callable Tryd.prog 40 = true := by kernel_rfl
theorem facts13_18 : callable Tryd.prog 41 = true := by kernel_rfl
theorem facts13_19 : callable Tryd.prog 42 = true := by kernel_rfl
theorem facts13_20 : callable Tryd.prog 44 = true := by kernel_rfl
theorem facts13_21 : callable Tryd.prog 45 = true := by kernel_rfl
theorem facts13_22 : callable Tryd.prog 46 = true := by kernel_rfl
theorem facts13_23 : callable Tryd.prog 47 = true := by kernel_rfl
theorem facts13_24 : callable Tryd.prog 50 = true := by kernel_rfl
theorem facts13_25 : callable Tryd.prog 51 = true := by kernel_rfl
theorem facts13_26 : callable Tryd.prog 52 = true := by kernel_rfl
theorem facts13_27 : callable Tryd.prog 53 = true := by kernel_rfl
theorem facts13_28 : callable Tryd.prog 54 = true := by kernel_rfl
theorem facts13_29 : callable Tryd.prog 55 = true := by kernel_rfl
theorem facts13_30 : callable Tryd.prog 56 = true := by kernel_rfl
theorem facts13_31 : callable Tryd.prog 61 = true := by kernel_rfl
theorem facts13_32 : callable Tryd.prog 62 = true := by kernel_rfl
theorem facts13_33 : callable Tryd.prog 63 = true := by kernel_rfl
theorem facts13_34 : callable Tryd.prog 64 = true := by kernel_rfl
theorem facts13_35 : callable Tryd.prog 65 = true := by kernel_rfl
theorem facts13_36 : callable Tryd.prog 68 = true := by kernel_rfl
theorem facts13_37 : callable Tryd.prog 71 = true := by kernel_rfl
theorem facts13_38 : callable Tryd.prog 72 = true := by kernel_rfl
theorem facts13_39 : callable Tryd.prog 73 = true := by kernel_rfl
theorem facts13 : callable Tryd.prog 23 = true ∧ callable Tryd.prog 24 = true ∧ callable Tryd.prog 25 = true ∧ callable Tryd.prog 26 = true ∧ callable Tryd.prog 27 = true ∧ callable Tryd.prog 28 = true ∧ callable Tryd.prog 29 = true ∧ callable Tryd.prog 30 = true ∧ callable Tryd.prog 31 = false ∧ callable Tryd.prog 32 = true ∧ callable Tryd.prog 33 = true ∧ callable Tryd.prog 34 = true ∧ callable Tryd.prog 35 = true ∧ callable Tryd.prog 36 = true ∧ callable Tryd.prog 37 = true ∧ callable Tryd.prog 38 = true ∧ callable Tryd.prog 39 = true ∧ callable Tryd.prog 40 = true ∧ callable Tryd.prog 41 = true ∧ callable Tryd.prog 42 = true ∧ callable Tryd.prog 44 = true ∧ callable Tryd.prog 45 = true ∧ callable Tryd.prog 46 = true ∧ callable Tryd.prog 47 = true ∧ callable Tryd.prog 50 = true ∧ callable Tryd.prog 51 = true ∧ callable Tryd.prog 52 = true ∧ callable Tryd.prog 53 = true ∧ callable Tryd.prog 54 = true ∧ callable Tryd.prog 55 = true ∧ callable Tryd.prog 56 = true ∧ callable Tryd.prog 61 = true ∧ callable Tryd.prog 62 = true ∧ callable Tryd.prog 63 = true ∧ callable Tryd.prog 64 = true ∧ callable Tryd.prog 65 = true ∧ callable Tryd.prog 68 = true ∧ callable Tryd.prog 71 = true ∧ callable Tryd.prog 72 = true ∧ callable Tryd.prog 73 = true := ⟨facts13_0, facts13_1, facts13_2, facts13_3, facts13_4, facts13_5, facts13_6, facts13_7, facts13_8, facts13_9, facts13_10, facts13_11, facts13_12, facts13_13, facts13_14, facts13_15, facts13_16, facts13_17, facts13_18, facts13_19, facts13_20, facts13_21, facts13_22, facts13_23, facts13_24, facts13_25, facts13_26, facts13_27, facts13_28, facts13_29, facts13_30, facts13_31, facts13_32, facts13_33, facts13_34, facts13_35, facts13_36, facts13_37, facts13_38, facts13_39⟩
theorem facts14_0 : callable Tryd.prog 74 = true := by kernel_rfl
theorem facts14_1 : callable Tryd.prog 75 = true := by kernel_rfl
theorem facts14_2 : callable Tryd.prog 76 = true := by kernel_rfl
theorem facts14_3 : callable Tryd.prog 77 = true := by kernel_rfl
theorem facts14_4 : callable Tryd.prog 78 = true := by kernel_rfl
theorem facts14_5 : callable Tryd.prog 79 = true := by kernel_rfl
theorem facts14_6 : callable Tryd.prog 80 = true := by kernel_rfl
theorem facts14_7 : callable Tryd.prog 81 = true := by kernel_rfl
theorem facts14_8 : callable Tryd.prog 82 = true := by kernel_rfl
theorem facts14_9 : callable Tryd.prog 83 = true := by kernel_rfl
theorem facts14_10 : callable Tryd.prog 84 = true := by kernel_rfl
theorem facts14_11 : callable Tryd.prog 85 = true := by kernel_rfl
theorem facts14_12 : callable Tryd.prog 86 = true := by kernel_rfl
theorem facts14_13 : callable Tryd.prog 87 = true := by kernel_rfl
theorem facts14_14 : callable Tryd.prog 88 = true := by kernel_rfl
theorem facts14_15 : callable Tryd.prog 104 = false := by kernel_rfl
theorem facts14_16 : callable Tryd.prog 105 = false := by kernel_rfl
theorem facts14_17 : callable Tryd.prog 107 = false := by kernel_rfl
theorem facts14_18 : callable Tryd.prog 108 = false := by kernel_rfl
theorem facts14_19 : callable Tryd.prog 109 = false := by kernel_rfl
theorem facts14_20 : callable Tryd.prog 110 = false := by kernel_rfl
theorem facts14_21 : callable Tryd.prog 111 = false := by kernel_rfl
theorem facts14 : callable Tryd.prog 74 = true ∧ callable Tryd.prog 75 = true ∧ callable Tryd.prog 76 = true ∧ callable Tryd.prog 77 = true ∧ callable Tryd.prog 78 = true ∧ callable Tryd.prog 79 = true ∧ callable Tryd.prog 80 = true ∧ callable Tryd.prog 81 = true ∧ callable Tryd.prog 82 = true ∧ callable Tryd.prog 83 = true ∧ callable Tryd.prog 84 = true ∧ callable Tryd.prog 85 = true ∧ callable Tryd.prog 86 = true ∧ callable Tryd.prog 87 = true ∧ callable Tryd.prog 88 = true ∧ callable Tryd.prog 104 = false ∧ callable Tryd.prog 105 = false ∧ callable Tryd.prog 107 = false ∧ callable Tryd.prog 108 = false ∧ callable Tryd.prog 109 = false ∧ callable Tryd.prog 110 = false ∧ callable Tryd.prog 111 = false := ⟨facts14_0, facts14_1, facts14_2, facts14_3, facts14_4, facts14_5, facts14_6, facts14_7, facts14_8, facts14_9, facts14_10, facts14_11, facts14_12, facts14_13, facts14_14, facts14_15, facts14_16, facts14_17, facts14_18, facts14_19, facts14_20, facts14_21⟩
theorem facts : (und Tryd.prog 1 = .func ∧ und Tryd.prog 2 = .int .i64 ∧ tk Tryd.prog 2 = some (false, 1) ∧ sz Tryd.prog 2 = some 1 ∧ nb Tryd.prog 2 = some 8 ∧ zeroV Tryd.prog 2 = some (.int .i64 0) ∧ und Tryd.prog 3 = .int .i64 ∧ tk Tryd.prog 3 = some (false, 1) ∧ sz Tryd.prog 3 = some 1 ∧ nb Tryd.prog 3 = some 8 ∧ zeroV Tryd.prog 3 = some (.int .i64 0) ∧ und Tryd.prog 4 = .bool ∧ tk Tryd.prog 4 = some (false, 1) ∧ sz Tryd.prog 4 = some 1 ∧ nb Tryd.prog 4 = some 1 ∧ zeroV Tryd.prog 4 = some (.bool false) ∧ und Tryd.prog 5 = .int .u8 ∧ tk Tryd.prog 5 = some (false, 1) ∧ sz Tryd.prog 5 = some 1 ∧ nb Tryd.prog 5 = some 1 ∧ zeroV Tryd.prog 5 = some (.int .u8 0) ∧ und Tryd.prog 9 = .str ∧ tk Tryd.prog 9 = some (false, 1) ∧ sz Tryd.prog 9 = some 1 ∧ nb Tryd.prog 9 = some 16 ∧ zeroV Tryd.prog 9 = some (.string ByteArray.empty) ∧ und Tryd.prog 12 = .int .u64 ∧ tk Tryd.prog 12 = some (false, 1) ∧ sz Tryd.prog 12 = some 1 ∧ nb Tryd.prog 12 = some 8 ∧ zeroV Tryd.prog 12 = some (.int .u64 0) ∧ und Tryd.prog 13 = .struct ∧ tk Tryd.prog 13 = some (true, 2) ∧ sz Tryd.prog 13 = some 2 ∧ nb Tryd.prog 13 = some 24 ∧ zeroV Tryd.prog 13 = some (.agg #[.string ByteArray.empty, .int .u64 0]) ∧ fieldT Tryd.prog 13 0 = some (0, 9) ∧ fieldT Tryd.prog 13 1 = some (1, 12) ∧ buildOk Tryd.prog 13 = true ∧ und Tryd.prog 21 = .int .i32) ∧ (tk Tryd.prog 21 = some (false, 1) ∧ sz Tryd.prog 21 = some 1 ∧ nb Tryd.prog 21 = some 4 ∧ zeroV Tryd.prog 21 = some (.int .i32 0) ∧ und Tryd.prog 22 = .struct ∧ tk Tryd.prog 22 = some (true, 4) ∧ sz Tryd.prog 22 = some 4 ∧ nb Tryd.prog 22 = some 32 ∧ zeroV Tryd.prog 22 = some (.agg #[.int .i64 0, .int .i64 0, .int .i64 0, .int .i64 0]) ∧ fieldT Tryd.prog 22 0 = some (0, 2) ∧ fieldT Tryd.prog 22 1 = some (1, 3) ∧ fieldT Tryd.prog 22 2 = some (2, 3) ∧ fieldT Tryd.prog 22 3 = some (3, 3) ∧ buildOk Tryd.prog 22 = true ∧ kinds Tryd.prog 22 = some [.int, .int, .int, .int] ∧ und Tryd.prog 23 = .struct ∧ tk Tryd.prog 23 = some (true, 4) ∧ sz Tryd.prog 23 = some 4 ∧ nb Tryd.prog 23 = some 32 ∧ zeroV Tryd.prog 23 = some (.agg #[.int .i64 0, .int .i64 0, .int .i64 0, .int .i64 0]) ∧ fieldT Tryd.prog 23 0 = some (0, 2) ∧ fieldT Tryd.prog 23 1 = some (1, 3) ∧ fieldT Tryd.prog 23 2 = some (2, 3) ∧ fieldT Tryd.prog 23 3 = some (3, 3) ∧ buildOk Tryd.prog 23 = true ∧ kinds Tryd.prog 23 = some [.int, .int, .int, .int] ∧ und Tryd.prog 24 = .arr 4 23 ∧ tk Tryd.prog 24 = some (true, 16) ∧ sz Tryd.prog 24 = some 16 ∧ nb Tryd.prog 24 = some 128 ∧ zeroV Tryd.prog 24 = some (.agg (rep 16 (.int .i64 0)).toArray) ∧ buildOk Tryd.prog 24 = true ∧ kinds Tryd.prog 24 = some [.int, .int, .int, .int, .int, .int, .int, .int, .int, .int, .int, .int, .int, .int, .int, .int] ∧ und Tryd.prog 25 = .arr 4 3 ∧ tk Tryd.prog 25 = some (true, 4) ∧ sz Tryd.prog 25 = some 4 ∧ nb Tryd.prog 25 = some 32 ∧ zeroV Tryd.prog 25 = some (.agg #[.int .i64 0, .int .i64 0, .int .i64 0, .int .i64 0]) ∧ buildOk Tryd.prog 25 = true ∧ kinds Tryd.prog 25 = some [.int, .int, .int, .int]) ∧ (und Tryd.prog 26 = .arr 4 3 ∧ tk Tryd.prog 26 = some (true, 4) ∧ sz Tryd.prog 26 = some 4 ∧ nb Tryd.prog 26 = some 32 ∧ zeroV Tryd.prog 26 = some (.agg #[.int .i64 0, .int .i64 0, .int .i64 0, .int .i64 0]) ∧ buildOk Tryd.prog 26 = true ∧ kinds Tryd.prog 26 = some [.int, .int, .int, .int] ∧ und Tryd.prog 27 = .func ∧ und Tryd.prog 28 = .func ∧ und Tryd.prog 29 = .func ∧ und Tryd.prog 30 = .slice 46 ∧ tk Tryd.prog 30 = some (false, 1) ∧ sz Tryd.prog 30 = some 1 ∧ nb Tryd.prog 30 = some 24 ∧ zeroV Tryd.prog 30 = some (.slice none 0 0) ∧ und Tryd.prog 31 = .func ∧ und Tryd.prog 32 = .func ∧ und Tryd.prog 33 = .slice 40 ∧ tk Tryd.prog 33 = some (false, 1) ∧ sz Tryd.prog 33 = some 1 ∧ nb Tryd.prog 33 = some 24 ∧ zeroV Tryd.prog 33 = some (.slice none 0 0) ∧ und Tryd.prog 34 = .slice 5 ∧ tk Tryd.prog 34 = some (false, 1) ∧ sz Tryd.prog 34 = some 1 ∧ nb Tryd.prog 34 = some 24 ∧ zeroV Tryd.prog 34 = some (.slice none 0 0) ∧ und Tryd.prog 35 = .int .u16 ∧ tk Tryd.prog 35 = some (false, 1) ∧ sz Tryd.prog 35 = some 1 ∧ nb Tryd.prog 35 = some 2 ∧ zeroV Tryd.prog 35 = some (.int .u16 0) ∧ und Tryd.prog 36 = .int .u32 ∧ tk Tryd.prog 36 = some (false, 1) ∧ sz Tryd.prog 36 = some 1 ∧ nb Tryd.prog 36 = some 4 ∧ zeroV Tryd.prog 36 = some (.int .u32 0) ∧ und Tryd.prog 37 = .struct ∧ tk Tryd.prog 37 = some (true, 2) ∧ sz Tryd.prog 37 = some 2) ∧ (nb Tryd.prog 37 = some 8 ∧ zeroV Tryd.prog 37 = some (.agg #[.int .u16 0, .int .u32 0]) ∧ fieldT Tryd.prog 37 0 = some (0, 35) ∧ fieldT Tryd.prog 37 1 = some (1, 36) ∧ buildOk Tryd.prog 37 = true ∧ kinds Tryd.prog 37 = some [.int, .int] ∧ und Tryd.prog 38 = .struct ∧ tk Tryd.prog 38 = some (true, 2) ∧ sz Tryd.prog 38 = some 2 ∧ nb Tryd.prog 38 = some 8 ∧ zeroV Tryd.prog 38 = some (.agg #[.int .u16 0, .int .u32 0]) ∧ fieldT Tryd.prog 38 0 = some (0, 35) ∧ fieldT Tryd.prog 38 1 = some (1, 36) ∧ buildOk Tryd.prog 38 = true ∧ kinds Tryd.prog 38 = some [.int, .int] ∧ und Tryd.prog 39 = .struct ∧ tk Tryd.prog 39 = some (true, 11) ∧ sz Tryd.prog 39 = some 11 ∧ nb Tryd.prog 39 = some 88 ∧ zeroV Tryd.prog 39 = some (.agg #[.int .u16 0, .int .u32 0, .string ByteArray.empty, .int .i64 0, .int .i64 0, .int .i64 0, .int .i64 0, .int .i64 0, .int .i64 0, .int .i64 0, .int .i64 0]) ∧ fieldT Tryd.prog 39 0 = some (0, 38) ∧ fieldT Tryd.prog 39 1 = some (2, 9) ∧ fieldT Tryd.prog 39 2 = some (3, 2) ∧ fieldT Tryd.prog 39 3 = some (4, 3) ∧ fieldT Tryd.prog 39 4 = some (5, 26) ∧ fieldT Tryd.prog 39 5 = some (9, 2) ∧ fieldT Tryd.prog 39 6 = some (10, 2) ∧ buildOk Tryd.prog 39 = true ∧ kinds Tryd.prog 39 = some [.int, .int, .str, .int, .int, .int, .int, .int, .int, .int, .int] ∧ und Tryd.prog 40 = .struct ∧ tk Tryd.prog 40 = some (true, 11) ∧ sz Tryd.prog 40 = some 11 ∧ nb Tryd.prog 40 = some 88 ∧ zeroV Tryd.prog 40 = some (.agg #[.int .u16 0, .int .u32 0, .string ByteArray.empty, .int .i64 0, .int .i64 0, .int .i64 0, .int .i64 0, .int .i64 0, .int .i64 0, .int .i64 0, .int .i64 0]) ∧ fieldT Tryd.prog 40 0 = some (0, 38) ∧ fieldT Tryd.prog 40 1 = some (2, 9) ∧ fieldT Tryd.prog 40 2 = some (3, 2) ∧ fieldT Tryd.prog 40 3 = some (4, 3) ∧ fieldT Tryd.prog 40 4 = some (5, 26) ∧ fieldT Tryd.prog 40 5 = some (9, 2)) ∧ (fieldT Tryd.prog 40 6 = some (10, 2) ∧ buildOk Tryd.prog 40 = true ∧ kinds Tryd.prog 40 = some [.int, .int, .str, .int, .int, .int, .int, .int, .int, .int, .int] ∧ und Tryd.prog 41 = .slice 33 ∧ tk Tryd.prog 41 = some (false, 1) ∧ sz Tryd.prog 41 = some 1 ∧ nb Tryd.prog 41 = some 24 ∧ zeroV Tryd.prog 41 = some (.slice none 0 0) ∧ und Tryd.prog 43 = .func ∧ und Tryd.prog 44 = .func ∧ und Tryd.prog 45 = .struct ∧ tk Tryd.prog 45 = some (true, 3) ∧ sz Tryd.prog 45 = some 3 ∧ nb Tryd.prog 45 = some 24 ∧ zeroV Tryd.prog 45 = some (.agg #[.int .i64 0, .int .i64 0, .int .i64 0]) ∧ fieldT Tryd.prog 45 0 = some (0, 3) ∧ fieldT Tryd.prog 45 1 = some (1, 3) ∧ fieldT Tryd.prog 45 2 = some (2, 3) ∧ buildOk Tryd.prog 45 = true ∧ kinds Tryd.prog 45 = some [.int, .int, .int] ∧ und Tryd.prog 46 = .struct ∧ tk Tryd.prog 46 = some (true, 3) ∧ sz Tryd.prog 46 = some 3 ∧ nb Tryd.prog 46 = some 24 ∧ zeroV Tryd.prog 46 = some (.agg #[.int .i64 0, .int .i64 0, .int .i64 0]) ∧ fieldT Tryd.prog 46 0 = some (0, 3) ∧ fieldT Tryd.prog 46 1 = some (1, 3) ∧ fieldT Tryd.prog 46 2 = some (2, 3) ∧ buildOk Tryd.prog 46 = true ∧ kinds Tryd.prog 46 = some [.int, .int, .int] ∧ und Tryd.prog 47 = .func ∧ und Tryd.prog 48 = .func ∧ und Tryd.prog 50 = .func ∧ und Tryd.prog 51 = .ptr 76 ∧ tk Tryd.prog 51 = some (false, 1) ∧ sz Tryd.prog 51 = some 1 ∧ nb Tryd.prog 51 = some 8 ∧ zeroV Tryd.prog 51 = some (.pointer none) ∧ und Tryd.prog 52 = .func ∧ und Tryd.prog 53 = .slice 24) ∧ (tk Tryd.prog 53 = some (false, 1) ∧ sz Tryd.prog 53 = some 1 ∧ nb Tryd.prog 53 = some 24 ∧ zeroV Tryd.prog 53 = some (.slice none 0 0) ∧ und Tryd.prog 54 = .slice 9 ∧ tk Tryd.prog 54 = some (false, 1) ∧ sz Tryd.prog 54 = some 1 ∧ nb Tryd.prog 54 = some 24 ∧ zeroV Tryd.prog 54 = some (.slice none 0 0) ∧ und Tryd.prog 55 = .slice 2 ∧ tk Tryd.prog 55 = some (false, 1) ∧ sz Tryd.prog 55 = some 1 ∧ nb Tryd.prog 55 = some 24 ∧ zeroV Tryd.prog 55 = some (.slice none 0 0) ∧ und Tryd.prog 56 = .struct ∧ tk Tryd.prog 56 = some (true, 5) ∧ sz Tryd.prog 56 = some 5 ∧ nb Tryd.prog 56 = some 88 ∧ zeroV Tryd.prog 56 = some (.agg #[.slice none 0 0, .slice none 0 0, .slice none 0 0, .int .i64 0, .int .i64 0]) ∧ fieldT Tryd.prog 56 0 = some (0, 53) ∧ fieldT Tryd.prog 56 1 = some (1, 54) ∧ fieldT Tryd.prog 56 2 = some (2, 55) ∧ fieldT Tryd.prog 56 3 = some (3, 2) ∧ fieldT Tryd.prog 56 4 = some (4, 2) ∧ buildOk Tryd.prog 56 = true ∧ und Tryd.prog 57 = .struct ∧ tk Tryd.prog 57 = some (true, 5) ∧ sz Tryd.prog 57 = some 5 ∧ nb Tryd.prog 57 = some 88 ∧ zeroV Tryd.prog 57 = some (.agg #[.slice none 0 0, .slice none 0 0, .slice none 0 0, .int .i64 0, .int .i64 0]) ∧ fieldT Tryd.prog 57 0 = some (0, 53) ∧ fieldT Tryd.prog 57 1 = some (1, 54) ∧ fieldT Tryd.prog 57 2 = some (2, 55) ∧ fieldT Tryd.prog 57 3 = some (3, 2) ∧ fieldT Tryd.prog 57 4 = some (4, 2) ∧ buildOk Tryd.prog 57 = true ∧ und Tryd.prog 58 = .func ∧ und Tryd.prog 59 = .func ∧ und Tryd.prog 60 = .arr 4 2 ∧ tk Tryd.prog 60 = some (true, 4)) ∧ (sz Tryd.prog 60 = some 4 ∧ nb Tryd.prog 60 = some 32 ∧ zeroV Tryd.prog 60 = some (.agg #[.int .i64 0, .int .i64 0, .int .i64 0, .int .i64 0]) ∧ buildOk Tryd.prog 60 = true ∧ kinds Tryd.prog 60 = some [.int, .int, .int, .int] ∧ und Tryd.prog 61 = .slice 60 ∧ tk Tryd.prog 61 = some (false, 1) ∧ sz Tryd.prog 61 = some 1 ∧ nb Tryd.prog 61 = some 24 ∧ zeroV Tryd.prog 61 = some (.slice none 0 0) ∧ und Tryd.prog 62 = .slice 3 ∧ tk Tryd.prog 62 = some (false, 1) ∧ sz Tryd.prog 62 = some 1 ∧ nb Tryd.prog 62 = some 24 ∧ zeroV Tryd.prog 62 = some (.slice none 0 0) ∧ und Tryd.prog 63 = .ptr 65 ∧ tk Tryd.prog 63 = some (false, 1) ∧ sz Tryd.prog 63 = some 1 ∧ nb Tryd.prog 63 = some 8 ∧ zeroV Tryd.prog 63 = some (.pointer none) ∧ und Tryd.prog 64 = .struct ∧ tk Tryd.prog 64 = some (true, 2) ∧ sz Tryd.prog 64 = some 2 ∧ nb Tryd.prog 64 = some 32 ∧ zeroV Tryd.prog 64 = some (.agg #[.pointer none, .slice none 0 0]) ∧ fieldT Tryd.prog 64 0 = some (0, 63) ∧ fieldT Tryd.prog 64 1 = some (1, 34) ∧ buildOk Tryd.prog 64 = true ∧ und Tryd.prog 65 = .struct ∧ tk Tryd.prog 65 = some (true, 2) ∧ sz Tryd.prog 65 = some 2 ∧ nb Tryd.prog 65 = some 32 ∧ zeroV Tryd.prog 65 = some (.agg #[.pointer none, .slice none 0 0]) ∧ fieldT Tryd.prog 65 0 = some (0, 63) ∧ fieldT Tryd.prog 65 1 = some (1, 34) ∧ buildOk Tryd.prog 65 = true ∧ und Tryd.prog 66 = .func ∧ und Tryd.prog 70 = .func ∧ und Tryd.prog 71 = .func ∧ und Tryd.prog 72 = .func) ∧ (und Tryd.prog 73 = .map 38 40 ∧ tk Tryd.prog 73 = some (false, 1) ∧ sz Tryd.prog 73 = some 1 ∧ nb Tryd.prog 73 = some 8 ∧ zeroV Tryd.prog 73 = some (.map none) ∧ und Tryd.prog 74 = .slice 83 ∧ tk Tryd.prog 74 = some (false, 1) ∧ sz Tryd.prog 74 = some 1 ∧ nb Tryd.prog 74 = some 24 ∧ zeroV Tryd.prog 74 = some (.slice none 0 0) ∧ und Tryd.prog 75 = .struct ∧ tk Tryd.prog 75 = some (true, 3) ∧ sz Tryd.prog 75 = some 3 ∧ nb Tryd.prog 75 = some 56 ∧ zeroV Tryd.prog 75 = some (.agg #[.slice none 0 0, .slice none 0 0, .map none]) ∧ fieldT Tryd.prog 75 0 = some (0, 74) ∧ fieldT Tryd.prog 75 1 = some (1, 74) ∧ fieldT Tryd.prog 75 2 = some (2, 73) ∧ buildOk Tryd.prog 75 = true ∧ und Tryd.prog 76 = .struct ∧ tk Tryd.prog 76 = some (true, 3) ∧ sz Tryd.prog 76 = some 3 ∧ nb Tryd.prog 76 = some 56 ∧ zeroV Tryd.prog 76 = some (.agg #[.slice none 0 0, .slice none 0 0, .map none]) ∧ fieldT Tryd.prog 76 0 = some (0, 74) ∧ fieldT Tryd.prog 76 1 = some (1, 74) ∧ fieldT Tryd.prog 76 2 = some (2, 73) ∧ buildOk Tryd.prog 76 = true ∧ und Tryd.prog 77 = .func ∧ und Tryd.prog 78 = .struct ∧ tk Tryd.prog 78 = some (true, 16) ∧ sz Tryd.prog 78 = some 16 ∧ nb Tryd.prog 78 = some 128 ∧ zeroV Tryd.prog 78 = some (.agg (rep 16 (.int .i64 0)).toArray) ∧ fieldT Tryd.prog 78 0 = some (0, 24) ∧ buildOk Tryd.prog 78 = true ∧ kinds Tryd.prog 78 = some [.int, .int, .int, .int, .int, .int, .int, .int, .int, .int, .int, .int, .int, .int, .int, .int] ∧ und Tryd.prog 79 = .struct ∧ tk Tryd.prog 79 = some (true, 16) ∧ sz Tryd.prog 79 = some 16) ∧ (nb Tryd.prog 79 = some 128 ∧ zeroV Tryd.prog 79 = some (.agg (rep 16 (.int .i64 0)).toArray) ∧ fieldT Tryd.prog 79 0 = some (0, 24) ∧ buildOk Tryd.prog 79 = true ∧ kinds Tryd.prog 79 = some [.int, .int, .int, .int, .int, .int, .int, .int, .int, .int, .int, .int, .int, .int, .int, .int] ∧ und Tryd.prog 80 = .ptr 79 ∧ tk Tryd.prog 80 = some (false, 1) ∧ sz Tryd.prog 80 = some 1 ∧ nb Tryd.prog 80 = some 8 ∧ zeroV Tryd.prog 80 = some (.pointer none) ∧ und Tryd.prog 81 = .func ∧ und Tryd.prog 82 = .struct ∧ tk Tryd.prog 82 = some (true, 18) ∧ sz Tryd.prog 82 = some 18 ∧ nb Tryd.prog 82 = some 144 ∧ zeroV Tryd.prog 82 = some (.agg (rep 16 (.int .i64 0) ++ ([.bool false, .int .i64 0] : List Value)).toArray) ∧ fieldT Tryd.prog 82 0 = some (0, 79) ∧ fieldT Tryd.prog 82 1 = some (16, 4) ∧ fieldT Tryd.prog 82 2 = some (17, 3) ∧ buildOk Tryd.prog 82 = true ∧ kinds Tryd.prog 82 = some [.int, .int, .int, .int, .int, .int, .int, .int, .int, .int, .int, .int, .int, .int, .int, .int, .bool, .int] ∧ und Tryd.prog 83 = .struct ∧ tk Tryd.prog 83 = some (true, 18) ∧ sz Tryd.prog 83 = some 18 ∧ nb Tryd.prog 83 = some 144 ∧ zeroV Tryd.prog 83 = some (.agg (rep 16 (.int .i64 0) ++ ([.bool false, .int .i64 0] : List Value)).toArray) ∧ fieldT Tryd.prog 83 0 = some (0, 79) ∧ fieldT Tryd.prog 83 1 = some (16, 4) ∧ fieldT Tryd.prog 83 2 = some (17, 3) ∧ buildOk Tryd.prog 83 = true ∧ kinds Tryd.prog 83 = some [.int, .int, .int, .int, .int, .int, .int, .int, .int, .int, .int, .int, .int, .int, .int, .int, .bool, .int] ∧ und Tryd.prog 84 = .func ∧ und Tryd.prog 85 = .func ∧ und Tryd.prog 86 = .func ∧ und Tryd.prog 87 = .int .u64 ∧ tk Tryd.prog 87 = some (false, 1) ∧ sz Tryd.prog 87 = some 1 ∧ nb Tryd.prog 87 = some 8 ∧ zeroV Tryd.prog 87 = some (.int .u64 0) ∧ und Tryd.prog 89 = .func) ∧ (und Tryd.prog 90 = .int .u64 ∧ tk Tryd.prog 90 = some (false, 1) ∧ sz Tryd.prog 90 = some 1 ∧ nb Tryd.prog 90 = some 8 ∧ zeroV Tryd.prog 90 = some (.int .u64 0) ∧ und Tryd.prog 91 = .struct ∧ tk Tryd.prog 91 = some (true, 2) ∧ sz Tryd.prog 91 = some 2 ∧ nb Tryd.prog 91 = some 16 ∧ zeroV Tryd.prog 91 = some (.agg #[.int .i64 0, .int .u64 0]) ∧ fieldT Tryd.prog 91 0 = some (0, 2) ∧ fieldT Tryd.prog 91 1 = some (1, 87) ∧ buildOk Tryd.prog 91 = true ∧ kinds Tryd.prog 91 = some [.int, .int] ∧ und Tryd.prog 92 = .struct ∧ tk Tryd.prog 92 = some (true, 2) ∧ sz Tryd.prog 92 = some 2 ∧ nb Tryd.prog 92 = some 16 ∧ zeroV Tryd.prog 92 = some (.agg #[.int .i64 0, .int .u64 0]) ∧ fieldT Tryd.prog 92 0 = some (0, 2) ∧ fieldT Tryd.prog 92 1 = some (1, 87) ∧ buildOk Tryd.prog 92 = true ∧ kinds Tryd.prog 92 = some [.int, .int] ∧ und Tryd.prog 93 = .func ∧ und Tryd.prog 94 = .func ∧ und Tryd.prog 95 = .func ∧ und Tryd.prog 96 = .func ∧ und Tryd.prog 97 = .func ∧ und Tryd.prog 98 = .func ∧ und Tryd.prog 99 = .func ∧ und Tryd.prog 100 = .func ∧ und Tryd.prog 101 = .ptr 5 ∧ tk Tryd.prog 101 = some (false, 1) ∧ sz Tryd.prog 101 = some 1 ∧ nb Tryd.prog 101 = some 8 ∧ zeroV Tryd.prog 101 = some (.pointer none) ∧ und Tryd.prog 102 = .func ∧ und Tryd.prog 103 = .map 9 4 ∧ tk Tryd.prog 103 = some (false, 1) ∧ sz Tryd.prog 103 = some 1) ∧ (nb Tryd.prog 103 = some 8 ∧ zeroV Tryd.prog 103 = some (.map none) ∧ und Tryd.prog 104 = .func ∧ und Tryd.prog 106 = .func ∧ und Tryd.prog 107 = .slice 38 ∧ tk Tryd.prog 107 = some (false, 1) ∧ sz Tryd.prog 107 = some 1 ∧ nb Tryd.prog 107 = some 24 ∧ zeroV Tryd.prog 107 = some (.slice none 0 0) ∧ und Tryd.prog 108 = .func ∧ und Tryd.prog 109 = .func ∧ und Tryd.prog 110 = .func ∧ und Tryd.prog 111 = .func ∧ und Tryd.prog 112 = .func ∧ und Tryd.prog 113 = .func ∧ und Tryd.prog 114 = .func ∧ und Tryd.prog 115 = .func ∧ und Tryd.prog 116 = .func ∧ und Tryd.prog 117 = .func ∧ und Tryd.prog 118 = .func ∧ und Tryd.prog 119 = .func ∧ und Tryd.prog 120 = .arr 24 5 ∧ tk Tryd.prog 120 = some (true, 24) ∧ sz Tryd.prog 120 = some 24 ∧ nb Tryd.prog 120 = some 24 ∧ zeroV Tryd.prog 120 = some (.agg (rep 24 (.int .u8 0)).toArray) ∧ buildOk Tryd.prog 120 = true ∧ kinds Tryd.prog 120 = some [.int, .int, .int, .int, .int, .int, .int, .int, .int, .int, .int, .int, .int, .int, .int, .int, .int, .int, .int, .int, .int, .int, .int, .int] ∧ und Tryd.prog 121 = .func ∧ und Tryd.prog 122 = .func ∧ und Tryd.prog 124 = .func ∧ und Tryd.prog 125 = .func ∧ und Tryd.prog 126 = .func ∧ und Tryd.prog 127 = .func ∧ und Tryd.prog 128 = .func ∧ und Tryd.prog 129 = .func ∧ und Tryd.prog 130 = .func ∧ und Tryd.prog 131 = .func ∧ und Tryd.prog 132 = .arr 20 87 ∧ tk Tryd.prog 132 = some (true, 20)) ∧ (sz Tryd.prog 132 = some 20 ∧ nb Tryd.prog 132 = some 160 ∧ zeroV Tryd.prog 132 = some (.agg (rep 20 (.int .u64 0)).toArray) ∧ buildOk Tryd.prog 132 = true ∧ kinds Tryd.prog 132 = some [.int, .int, .int, .int, .int, .int, .int, .int, .int, .int, .int, .int, .int, .int, .int, .int, .int, .int, .int, .int] ∧ und Tryd.prog 133 = .arr 65 5 ∧ tk Tryd.prog 133 = some (true, 65) ∧ sz Tryd.prog 133 = some 65 ∧ nb Tryd.prog 133 = some 65 ∧ zeroV Tryd.prog 133 = some (.agg (rep 65 (.int .u8 0)).toArray) ∧ buildOk Tryd.prog 133 = true ∧ kinds Tryd.prog 133 = some (List.replicate 65 .int) ∧ und Tryd.prog 134 = .func ∧ und Tryd.prog 135 = .func ∧ und Tryd.prog 136 = .int .i64 ∧ tk Tryd.prog 136 = some (false, 1) ∧ sz Tryd.prog 136 = some 1 ∧ nb Tryd.prog 136 = some 8 ∧ zeroV Tryd.prog 136 = some (.int .i64 0) ∧ und Tryd.prog 138 = .func ∧ und Tryd.prog 139 = .func ∧ und Tryd.prog 140 = .func ∧ und Tryd.prog 142 = .func ∧ und Tryd.prog 143 = .func ∧ und Tryd.prog 144 = .int .u64 ∧ tk Tryd.prog 144 = some (false, 1) ∧ sz Tryd.prog 144 = some 1 ∧ nb Tryd.prog 144 = some 8 ∧ zeroV Tryd.prog 144 = some (.int .u64 0) ∧ und Tryd.prog 145 = .func ∧ und Tryd.prog 146 = .func ∧ und Tryd.prog 147 = .func ∧ und Tryd.prog 148 = .ptr 3 ∧ tk Tryd.prog 148 = some (false, 1) ∧ sz Tryd.prog 148 = some 1 ∧ nb Tryd.prog 148 = some 8 ∧ zeroV Tryd.prog 148 = some (.pointer none) ∧ und Tryd.prog 149 = .func ∧ und Tryd.prog 150 = .arr 32 5 ∧ tk Tryd.prog 150 = some (true, 32)) ∧ (sz Tryd.prog 150 = some 32 ∧ nb Tryd.prog 150 = some 32 ∧ zeroV Tryd.prog 150 = some (.agg (rep 32 (.int .u8 0)).toArray) ∧ buildOk Tryd.prog 150 = true ∧ kinds Tryd.prog 150 = some (List.replicate 32 .int) ∧ und Tryd.prog 151 = .arr 64 5 ∧ tk Tryd.prog 151 = some (true, 64) ∧ sz Tryd.prog 151 = some 64 ∧ nb Tryd.prog 151 = some 64 ∧ zeroV Tryd.prog 151 = some (.agg (rep 64 (.int .u8 0)).toArray) ∧ buildOk Tryd.prog 151 = true ∧ kinds Tryd.prog 151 = some (List.replicate 64 .int) ∧ und Tryd.prog 152 = .ptr 144 ∧ tk Tryd.prog 152 = some (false, 1) ∧ sz Tryd.prog 152 = some 1 ∧ nb Tryd.prog 152 = some 8 ∧ zeroV Tryd.prog 152 = some (.pointer none) ∧ und Tryd.prog 154 = .func ∧ und Tryd.prog 162 = .func ∧ Tryd.prog.follows .mixedOrders = true ∧ callable Tryd.prog 3 = true ∧ callable Tryd.prog 4 = true ∧ callable Tryd.prog 5 = true ∧ callable Tryd.prog 6 = true ∧ callable Tryd.prog 7 = true ∧ callable Tryd.prog 8 = true ∧ callable Tryd.prog 9 = true ∧ callable Tryd.prog 10 = true ∧ callable Tryd.prog 11 = true ∧ callable Tryd.prog 12 = true ∧ callable Tryd.prog 13 = true ∧ callable Tryd.prog 14 = true ∧ callable Tryd.prog 15 = true ∧ callable Tryd.prog 16 = true ∧ callable Tryd.prog 17 = true ∧ callable Tryd.prog 18 = true ∧ callable Tryd.prog 19 = true ∧ callable Tryd.prog 20 = true ∧ callable Tryd.prog 21 = true ∧ callable Tryd.prog 22 = true) ∧ (callable Tryd.prog 23 = true ∧ callable Tryd.prog 24 = true ∧ callable Tryd.prog 25 = true ∧ callable Tryd.prog 26 = true ∧ callable Tryd.prog 27 = true ∧ callable Tryd.prog 28 = true ∧ callable Tryd.prog 29 = true ∧ callable Tryd.prog 30 = true ∧ callable Tryd.prog 31 = false ∧ callable Tryd.prog 32 = true ∧ callable Tryd.prog 33 = true ∧ callable Tryd.prog 34 = true ∧ callable Tryd.prog 35 = true ∧ callable Tryd.prog 36 = true ∧ callable Tryd.prog 37 = true ∧ callable Tryd.prog 38 = true ∧ callable Tryd.prog 39 = true ∧ callable Tryd.prog 40 = true ∧ callable Tryd.prog 41 = true ∧ callable Tryd.prog 42 = true ∧ callable Tryd.prog 44 = true ∧ callable Tryd.prog 45 = true ∧ callable Tryd.prog 46 = true ∧ callable Tryd.prog 47 = true ∧ callable Tryd.prog 50 = true ∧ callable Tryd.prog 51 = true ∧ callable Tryd.prog 52 = true ∧ callable Tryd.prog 53 = true ∧ callable Tryd.prog 54 = true ∧ callable Tryd.prog 55 = true ∧ callable Tryd.prog 56 = true ∧ callable Tryd.prog 61 = true ∧ callable Tryd.prog 62 = true ∧ callable Tryd.prog 63 = true ∧ callable Tryd.prog 64 = true ∧ callable Tryd.prog 65 = true ∧ callable Tryd.prog 68 = true ∧ callable Tryd.prog 71 = true ∧ callable Tryd.prog 72 = true ∧ callable Tryd.prog 73 = true) ∧ (callable Tryd.prog 74 = true ∧ callable Tryd.prog 75 = true ∧ callable Tryd.prog 76 = true ∧ callable Tryd.prog 77 = true ∧ callable Tryd.prog 78 = true ∧ callable Tryd.prog 79 = true ∧ callable Tryd.prog 80 = true ∧ callable Tryd.prog 81 = true ∧ callable Tryd.prog 82 = true ∧ callable Tryd.prog 83 = true ∧ callable Tryd.prog 84 = true ∧ callable Tryd.prog 85 = true ∧ callable Tryd.prog 86 = true ∧ callable Tryd.prog 87 = true ∧ callable Tryd.prog 88 = true ∧ callable Tryd.prog 104 = false ∧ callable Tryd.prog 105 = false ∧ callable Tryd.prog 107 = false ∧ callable Tryd.prog 108 = false ∧ callable Tryd.prog 109 = false ∧ callable Tryd.prog 110 = false ∧ callable Tryd.prog 111 = false) := ⟨facts0, facts1, facts2, facts3, facts4, facts5, facts6, facts7, facts8, facts9, facts10, facts11, facts12, facts13, facts14⟩
end Go.Proofs.YtfpighmafofoeaaDoor.GL
