/- Closed facts on this seat's types and functions, printed by gltypes.py out of the translation. -/
import Derived.Test.YtahmnhdmnhijcaaGlG
import Derived.Test.YtahmnhdmnhijcaaProg
namespace Go.Proofs.Ytahmnhdmnhijcaa.GL
open Go
theorem facts0_0 : und Try.prog 1 = .func := by kernel_rfl
theorem facts0_1 : und Try.prog 2 = .int .i64 := by kernel_rfl
theorem facts0_2 : tk Try.prog 2 = some (false, 1) := by kernel_rfl
theorem facts0_3 : sz Try.prog 2 = some 1 := by kernel_rfl
theorem facts0_4 : nb Try.prog 2 = some 8 := by kernel_rfl
theorem facts0_5 : zeroV Try.prog 2 = some (.int .i64 0) := by kernel_rfl
theorem facts0_6 : und Try.prog 3 = .int .i64 := by kernel_rfl
theorem facts0_7 : tk Try.prog 3 = some (false, 1) := by kernel_rfl
theorem facts0_8 : sz Try.prog 3 = some 1 := by kernel_rfl
theorem facts0_9 : nb Try.prog 3 = some 8 := by kernel_rfl
theorem facts0_10 : zeroV Try.prog 3 = some (.int .i64 0) := by kernel_rfl
theorem facts0_11 : und Try.prog 4 = .bool := by kernel_rfl
theorem facts0_12 : tk Try.prog 4 = some (false, 1) := by kernel_rfl
theorem facts0_13 : sz Try.prog 4 = some 1 := by kernel_rfl
theorem facts0_14 : nb Try.prog 4 = some 1 := by kernel_rfl
theorem facts0_15 : zeroV Try.prog 4 = some (.bool false) := by kernel_rfl
theorem facts0_16 : und Try.prog 5 = .int .u8 := by kernel_rfl
theorem facts0_17 : tk Try.prog 5 = some (false, 1) := by kernel_rfl
theorem facts0_18 : sz Try.prog 5 = some 1 := by kernel_rfl
theorem facts0_19 : nb Try.prog 5 = some 1 := by kernel_rfl
theorem facts0_20 : zeroV Try.prog 5 = some (.int .u8 0) := by kernel_rfl
theorem facts0_21 : und Try.prog 9 = .str := by kernel_rfl
theorem facts0_22 : tk Try.prog 9 = some (false, 1) := by kernel_rfl
theorem facts0_23 : sz Try.prog 9 = some 1 := by kernel_rfl
theorem facts0_24 : nb Try.prog 9 = some 16 := by kernel_rfl
theorem facts0_25 : zeroV Try.prog 9 = some (.string ByteArray.empty) := by kernel_rfl
theorem facts0_26 : und Try.prog 12 = .int .u64 := by kernel_rfl
theorem facts0_27 : tk Try.prog 12 = some (false, 1) := by kernel_rfl
theorem facts0_28 : sz Try.prog 12 = some 1 := by kernel_rfl
theorem facts0_29 : nb Try.prog 12 = some 8 := by kernel_rfl
theorem facts0_30 : zeroV Try.prog 12 = some (.int .u64 0) := by kernel_rfl
theorem facts0_31 : und Try.prog 13 = .struct := by kernel_rfl
theorem facts0_32 : tk Try.prog 13 = some (true, 2) := by kernel_rfl
theorem facts0_33 : sz Try.prog 13 = some 2 := by kernel_rfl
theorem facts0_34 : nb Try.prog 13 = some 24 := by kernel_rfl
theorem facts0_35 : zeroV Try.prog 13 = some (.agg #[.string ByteArray.empty, .int .u64 0]) := by kernel_rfl
theorem facts0_36 : fieldT Try.prog 13 0 = some (0, 9) := by kernel_rfl
theorem facts0_37 : fieldT Try.prog 13 1 = some (1, 12) := by kernel_rfl
theorem facts0_38 : buildOk Try.prog 13 = true := by kernel_rfl
theorem facts0_39 : und Try.prog 21 = .int .i32 := by kernel_rfl
theorem facts0 : und Try.prog 1 = .func ∧ und Try.prog 2 = .int .i64 ∧ tk Try.prog 2 = some (false, 1) ∧ sz Try.prog 2 = some 1 ∧ nb Try.prog 2 = some 8 ∧ zeroV Try.prog 2 = some (.int .i64 0) ∧ und Try.prog 3 = .int .i64 ∧ tk Try.prog 3 = some (false, 1) ∧ sz Try.prog 3 = some 1 ∧ nb Try.prog 3 = some 8 ∧ zeroV Try.prog 3 = some (.int .i64 0) ∧ und Try.prog 4 = .bool ∧ tk Try.prog 4 = some (false, 1) ∧ sz Try.prog 4 = some 1 ∧ nb Try.prog 4 = some 1 ∧ zeroV Try.prog 4 = some (.bool false) ∧ und Try.prog 5 = .int .u8 ∧ tk Try.prog 5 = some (false, 1) ∧ sz Try.prog 5 = some 1 ∧ nb Try.prog 5 = some 1 ∧ zeroV Try.prog 5 = some (.int .u8 0) ∧ und Try.prog 9 = .str ∧ tk Try.prog 9 = some (false, 1) ∧ sz Try.prog 9 = some 1 ∧ nb Try.prog 9 = some 16 ∧ zeroV Try.prog 9 = some (.string ByteArray.empty) ∧ und Try.prog 12 = .int .u64 ∧ tk Try.prog 12 = some (false, 1) ∧ sz Try.prog 12 = some 1 ∧ nb Try.prog 12 = some 8 ∧ zeroV Try.prog 12 = some (.int .u64 0) ∧ und Try.prog 13 = .struct ∧ tk Try.prog 13 = some (true, 2) ∧ sz Try.prog 13 = some 2 ∧ nb Try.prog 13 = some 24 ∧ zeroV Try.prog 13 = some (.agg #[.string ByteArray.empty, .int .u64 0]) ∧ fieldT Try.prog 13 0 = some (0, 9) ∧ fieldT Try.prog 13 1 = some (1, 12) ∧ buildOk Try.prog 13 = true ∧ und Try.prog 21 = .int .i32 := ⟨facts0_0, facts0_1, facts0_2, facts0_3, facts0_4, facts0_5, facts0_6, facts0_7, facts0_8, facts0_9, facts0_10, facts0_11, facts0_12, facts0_13, facts0_14, facts0_15, facts0_16, facts0_17, facts0_18, facts0_19, facts0_20, facts0_21, facts0_22, facts0_23, facts0_24, facts0_25, facts0_26, facts0_27, facts0_28, facts0_29, facts0_30, facts0_31, facts0_32, facts0_33, facts0_34, facts0_35, facts0_36, facts0_37, facts0_38, facts0_39⟩
theorem facts1_0 : tk Try.prog 21 = some (false, 1) := by kernel_rfl
theorem facts1_1 : sz Try.prog 21 = some 1 := by kernel_rfl
theorem facts1_2 : nb Try.prog 21 = some 4 := by kernel_rfl
theorem facts1_3 : zeroV Try.prog 21 = some (.int .i32 0) := by kernel_rfl
theorem facts1_4 : und Try.prog 22 = .slice 5 := by kernel_rfl
theorem facts1_5 : tk Try.prog 22 = some (false, 1) := by kernel_rfl
theorem facts1_6 : sz Try.prog 22 = some 1 := by kernel_rfl
theorem facts1_7 : nb Try.prog 22 = some 24 := by kernel_rfl
theorem facts1_8 : zeroV Try.prog 22 = some (.slice none 0 0) := by kernel_rfl
theorem facts1_9 : und Try.prog 23 = .int .u16 := by kernel_rfl
theorem facts1_10 : tk Try.prog 23 = some (false, 1) := by kernel_rfl
theorem facts1_11 : sz Try.prog 23 = some 1 := by kernel_rfl
theorem facts1_12 : nb Try.prog 23 = some 2 := by kernel_rfl
theorem facts1_13 : zeroV Try.prog 23 = some (.int .u16 0) := by kernel_rfl
theorem facts1_14 : und Try.prog 24 = .func := by kernel_rfl
theorem facts1_15 : und Try.prog 25 = .int .u32 := by kernel_rfl
theorem facts1_16 : tk Try.prog 25 = some (false, 1) := by kernel_rfl
theorem facts1_17 : sz Try.prog 25 = some 1 := by kernel_rfl
theorem facts1_18 : nb Try.prog 25 = some 4 := by kernel_rfl
theorem facts1_19 : zeroV Try.prog 25 = some (.int .u32 0) := by kernel_rfl
theorem facts1_20 : und Try.prog 26 = .struct := by kernel_rfl
theorem facts1_21 : tk Try.prog 26 = some (true, 2) := by kernel_rfl
theorem facts1_22 : sz Try.prog 26 = some 2 := by kernel_rfl
theorem facts1_23 : nb Try.prog 26 = some 8 := by kernel_rfl
theorem facts1_24 : zeroV Try.prog 26 = some (.agg #[.int .u16 0, .int .u32 0]) := by kernel_rfl
theorem facts1_25 : fieldT Try.prog 26 0 = some (0, 23) := by kernel_rfl
theorem facts1_26 : fieldT Try.prog 26 1 = some (1, 25) := by kernel_rfl
theorem facts1_27 : buildOk Try.prog 26 = true := by kernel_rfl
theorem facts1_28 : kinds Try.prog 26 = some [.int, .int] := by kernel_rfl
theorem facts1_29 : und Try.prog 27 = .struct := by kernel_rfl
theorem facts1_30 : tk Try.prog 27 = some (true, 2) := by kernel_rfl
theorem facts1_31 : sz Try.prog 27 = some 2 := by kernel_rfl
theorem facts1_32 : nb Try.prog 27 = some 8 := by kernel_rfl
theorem facts1_33 : zeroV Try.prog 27 = some (.agg #[.int .u16 0, .int .u32 0]) := by kernel_rfl
theorem facts1_34 : fieldT Try.prog 27 0 = some (0, 23) := by kernel_rfl
theorem facts1_35 : fieldT Try.prog 27 1 = some (1, 25) := by kernel_rfl
theorem facts1_36 : buildOk Try.prog 27 = true := by kernel_rfl
theorem facts1_37 : kinds Try.prog 27 = some [.int, .int] := by kernel_rfl
theorem facts1_38 : und Try.prog 28 = .arr 4 3 := by kernel_rfl
theorem facts1_39 : tk Try.prog 28 = some (true, 4) := by kernel_rfl
theorem facts1 : tk Try.prog 21 = some (false, 1) ∧ sz Try.prog 21 = some 1 ∧ nb Try.prog 21 = some 4 ∧ zeroV Try.prog 21 = some (.int .i32 0) ∧ und Try.prog 22 = .slice 5 ∧ tk Try.prog 22 = some (false, 1) ∧ sz Try.prog 22 = some 1 ∧ nb Try.prog 22 = some 24 ∧ zeroV Try.prog 22 = some (.slice none 0 0) ∧ und Try.prog 23 = .int .u16 ∧ tk Try.prog 23 = some (false, 1) ∧ sz Try.prog 23 = some 1 ∧ nb Try.prog 23 = some 2 ∧ zeroV Try.prog 23 = some (.int .u16 0) ∧ und Try.prog 24 = .func ∧ und Try.prog 25 = .int .u32 ∧ tk Try.prog 25 = some (false, 1) ∧ sz Try.prog 25 = some 1 ∧ nb Try.prog 25 = some 4 ∧ zeroV Try.prog 25 = some (.int .u32 0) ∧ und Try.prog 26 = .struct ∧ tk Try.prog 26 = some (true, 2) ∧ sz Try.prog 26 = some 2 ∧ nb Try.prog 26 = some 8 ∧ zeroV Try.prog 26 = some (.agg #[.int .u16 0, .int .u32 0]) ∧ fieldT Try.prog 26 0 = some (0, 23) ∧ fieldT Try.prog 26 1 = some (1, 25) ∧ buildOk Try.prog 26 = true ∧ kinds Try.prog 26 = some [.int, .int] ∧ und Try.prog 27 = .struct ∧ tk Try.prog 27 = some (true, 2) ∧ sz Try.prog 27 = some 2 ∧ nb Try.prog 27 = some 8 ∧ zeroV Try.prog 27 = some (.agg #[.int .u16 0, .int .u32 0]) ∧ fieldT Try.prog 27 0 = some (0, 23) ∧ fieldT Try.prog 27 1 = some (1, 25) ∧ buildOk Try.prog 27 = true ∧ kinds Try.prog 27 = some [.int, .int] ∧ und Try.prog 28 = .arr 4 3 ∧ tk Try.prog 28 = some (true, 4) := ⟨facts1_0, facts1_1, facts1_2, facts1_3, facts1_4, facts1_5, facts1_6, facts1_7, facts1_8, facts1_9, facts1_10, facts1_11, facts1_12, facts1_13, facts1_14, facts1_15, facts1_16, facts1_17, facts1_18, facts1_19, facts1_20, facts1_21, facts1_22, facts1_23, facts1_24, facts1_25, facts1_26, facts1_27, facts1_28, facts1_29, facts1_30, facts1_31, facts1_32, facts1_33, facts1_34, facts1_35, facts1_36, facts1_37, facts1_38, facts1_39⟩
theorem facts2_0 : sz Try.prog 28 = some 4 := by kernel_rfl
theorem facts2_1 : nb Try.prog 28 = some 32 := by kernel_rfl
theorem facts2_2 : zeroV Try.prog 28 = some (.agg #[.int .i64 0, .int .i64 0, .int .i64 0, .int .i64 0]) := by kernel_rfl
theorem facts2_3 : buildOk Try.prog 28 = true := by kernel_rfl
theorem facts2_4 : kinds Try.prog 28 = some [.int, .int, .int, .int] := by kernel_rfl
theorem facts2_5 : und Try.prog 29 = .arr 4 3 := by kernel_rfl
theorem facts2_6 : tk Try.prog 29 = some (true, 4) := by kernel_rfl
theorem facts2_7 : sz Try.prog 29 = some 4 := by kernel_rfl
theorem facts2_8 : nb Try.prog 29 = some 32 := by kernel_rfl
theorem facts2_9 : zeroV Try.prog 29 = some (.agg #[.int .i64 0, .int .i64 0, .int .i64 0, .int .i64 0]) := by kernel_rfl
theorem facts2_10 : buildOk Try.prog 29 = true := by kernel_rfl
theorem facts2_11 : kinds Try.prog 29 = some [.int, .int, .int, .int] := by kernel_rfl
theorem facts2_12 : und Try.prog 30 = .struct := by kernel_rfl
theorem facts2_13 : tk Try.prog 30 = some (true, 11) := by kernel_rfl
theorem facts2_14 : sz Try.prog 30 = some 11 := by kernel_rfl
theorem facts2_15 : nb Try.prog 30 = some 88 := by kernel_rfl
theorem facts2_16 : zeroV Try.prog 30 = some (.agg #[.int .u16 0, .int .u32 0, .string ByteArray.empty, .int .i64 0, .int .i64 0, .int .i64 0, .int .i64 0, .int .i64 0, .int .i64 0, .int .i64 0, .int .i64 0]) := by kernel_rfl
theorem facts2_17 : fieldT Try.prog 30 0 = some (0, 27) := by kernel_rfl
theorem facts2_18 : fieldT Try.prog 30 1 = some (2, 9) := by kernel_rfl
theorem facts2_19 : fieldT Try.prog 30 2 = some (3, 2) := by kernel_rfl
theorem facts2_20 : fieldT Try.prog 30 3 = some (4, 3) := by kernel_rfl
theorem facts2_21 : fieldT Try.prog 30 4 = some (5, 29) := by kernel_rfl
theorem facts2_22 : fieldT Try.prog 30 5 = some (9, 2) := by kernel_rfl
theorem facts2_23 : fieldT Try.prog 30 6 = some (10, 2) := by kernel_rfl
theorem facts2_24 : buildOk Try.prog 30 = true := by kernel_rfl
theorem facts2_25 : kinds Try.prog 30 = some [.int, .int, .str, .int, .int, .int, .int, .int, .int, .int, .int] := by kernel_rfl
theorem facts2_26 : und Try.prog 31 = .struct := by kernel_rfl
theorem facts2_27 : tk Try.prog 31 = some (true, 11) := by kernel_rfl
theorem facts2_28 : sz Try.prog 31 = some 11 := by kernel_rfl
theorem facts2_29 : nb Try.prog 31 = some 88 := by kernel_rfl
theorem facts2_30 : zeroV Try.prog 31 = some (.agg #[.int .u16 0, .int .u32 0, .string ByteArray.empty, .int .i64 0, .int .i64 0, .int .i64 0, .int .i64 0, .int .i64 0, .int .i64 0, .int .i64 0, .int .i64 0]) := by kernel_rfl
theorem facts2_31 : fieldT Try.prog 31 0 = some (0, 27) := by kernel_rfl
theorem facts2_32 : fieldT Try.prog 31 1 = some (2, 9) := by kernel_rfl
theorem facts2_33 : fieldT Try.prog 31 2 = some (3, 2) := by kernel_rfl
theorem facts2_34 : fieldT Try.prog 31 3 = some (4, 3) := by kernel_rfl
theorem facts2_35 : fieldT Try.prog 31 4 = some (5, 29) := by kernel_rfl
theorem facts2_36 : fieldT Try.prog 31 5 = some (9, 2) := by kernel_rfl
theorem facts2_37 : fieldT Try.prog 31 6 = some (10, 2) := by kernel_rfl
theorem facts2_38 : buildOk Try.prog 31 = true := by kernel_rfl
theorem facts2_39 : kinds Try.prog 31 = some [.int, .int, .str, .int, .int, .int, .int, .int, .int, .int, .int] := by kernel_rfl
theorem facts2 : sz Try.prog 28 = some 4 ∧ nb Try.prog 28 = some 32 ∧ zeroV Try.prog 28 = some (.agg #[.int .i64 0, .int .i64 0, .int .i64 0, .int .i64 0]) ∧ buildOk Try.prog 28 = true ∧ kinds Try.prog 28 = some [.int, .int, .int, .int] ∧ und Try.prog 29 = .arr 4 3 ∧ tk Try.prog 29 = some (true, 4) ∧ sz Try.prog 29 = some 4 ∧ nb Try.prog 29 = some 32 ∧ zeroV Try.prog 29 = some (.agg #[.int .i64 0, .int .i64 0, .int .i64 0, .int .i64 0]) ∧ buildOk Try.prog 29 = true ∧ kinds Try.prog 29 = some [.int, .int, .int, .int] ∧ und Try.prog 30 = .struct ∧ tk Try.prog 30 = some (true, 11) ∧ sz Try.prog 30 = some 11 ∧ nb Try.prog 30 = some 88 ∧ zeroV Try.prog 30 = some (.agg #[.int .u16 0, .int .u32 0, .string ByteArray.empty, .int .i64 0, .int .i64 0, .int .i64 0, .int .i64 0, .int .i64 0, .int .i64 0, .int .i64 0, .int .i64 0]) ∧ fieldT Try.prog 30 0 = some (0, 27) ∧ fieldT Try.prog 30 1 = some (2, 9) ∧ fieldT Try.prog 30 2 = some (3, 2) ∧ fieldT Try.prog 30 3 = some (4, 3) ∧ fieldT Try.prog 30 4 = some (5, 29) ∧ fieldT Try.prog 30 5 = some (9, 2) ∧ fieldT Try.prog 30 6 = some (10, 2) ∧ buildOk Try.prog 30 = true ∧ kinds Try.prog 30 = some [.int, .int, .str, .int, .int, .int, .int, .int, .int, .int, .int] ∧ und Try.prog 31 = .struct ∧ tk Try.prog 31 = some (true, 11) ∧ sz Try.prog 31 = some 11 ∧ nb Try.prog 31 = some 88 ∧ zeroV Try.prog 31 = some (.agg #[.int .u16 0, .int .u32 0, .string ByteArray.empty, .int .i64 0, .int .i64 0, .int .i64 0, .int .i64 0, .int .i64 0, .int .i64 0, .int .i64 0, .int .i64 0]) ∧ fieldT Try.prog 31 0 = some (0, 27) ∧ fieldT Try.prog 31 1 = some (2, 9) ∧ fieldT Try.prog 31 2 = some (3, 2) ∧ fieldT Try.prog 31 3 = some (4, 3) ∧ fieldT Try.prog 31 4 = some (5, 29) ∧ fieldT Try.prog 31 5 = some (9, 2) ∧ fieldT Try.prog 31 6 = some (10, 2) ∧ buildOk Try.prog 31 = true ∧ kinds Try.prog 31 = some [.int, .int, .str, .int, .int, .int, .int, .int, .int, .int, .int] := ⟨facts2_0, facts2_1, facts2_2, facts2_3, facts2_4, facts2_5, facts2_6, facts2_7, facts2_8, facts2_9, facts2_10, facts2_11, facts2_12, facts2_13, facts2_14, facts2_15, facts2_16, facts2_17, facts2_18, facts2_19, facts2_20, facts2_21, facts2_22, facts2_23, facts2_24, facts2_25, facts2_26, facts2_27, facts2_28, facts2_29, facts2_30, facts2_31, facts2_32, facts2_33, facts2_34, facts2_35, facts2_36, facts2_37, facts2_38, facts2_39⟩
theorem facts3_0 : und Try.prog 32 = .struct := by kernel_rfl
theorem facts3_1 : tk Try.prog 32 = some (true, 17) := by kernel_rfl
theorem facts3_2 : sz Try.prog 32 = some 17 := by kernel_rfl
theorem facts3_3 : nb Try.prog 32 = some 136 := by kernel_rfl
theorem facts3_4 : zeroV Try.prog 32 = some (.agg #[.int .i64 0, .int .u16 0, .int .u32 0, .string ByteArray.empty, .int .i64 0, .int .i64 0, .int .i64 0, .int .i64 0, .int .i64 0, .int .i64 0, .int .i64 0, .int .i64 0, .int .i64 0, .int .i64 0, .int .i64 0, .int .i64 0, .int .i64 0]) := by kernel_rfl
theorem facts3_5 : fieldT Try.prog 32 0 = some (0, 3) := by kernel_rfl
theorem facts3_6 : fieldT Try.prog 32 1 = some (1, 27) := by kernel_rfl
theorem facts3_7 : fieldT Try.prog 32 2 = some (3, 9) := by kernel_rfl
theorem facts3_8 : fieldT Try.prog 32 3 = some (4, 2) := by kernel_rfl
theorem facts3_9 : fieldT Try.prog 32 4 = some (5, 29) := by kernel_rfl
theorem facts3_10 : fieldT Try.prog 32 5 = some (9, 29) := by kernel_rfl
theorem facts3_11 : fieldT Try.prog 32 6 = some (13, 29) := by kernel_rfl
theorem facts3_12 : buildOk Try.prog 32 = true := by kernel_rfl
theorem facts3_13 : kinds Try.prog 32 = some [.int, .int, .int, .str, .int, .int, .int, .int, .int, .int, .int, .int, .int, .int, .int, .int, .int] := by kernel_rfl
theorem facts3_14 : und Try.prog 33 = .struct := by kernel_rfl
theorem facts3_15 : tk Try.prog 33 = some (true, 17) := by kernel_rfl
theorem facts3_16 : sz Try.prog 33 = some 17 := by kernel_rfl
theorem facts3_17 : nb Try.prog 33 = some 136 := by kernel_rfl
theorem facts3_18 : zeroV Try.prog 33 = some (.agg #[.int .i64 0, .int .u16 0, .int .u32 0, .string ByteArray.empty, .int .i64 0, .int .i64 0, .int .i64 0, .int .i64 0, .int .i64 0, .int .i64 0, .int .i64 0, .int .i64 0, .int .i64 0, .int .i64 0, .int .i64 0, .int .i64 0, .int .i64 0]) := by kernel_rfl
theorem facts3_19 : fieldT Try.prog 33 0 = some (0, 3) := by kernel_rfl
theorem facts3_20 : fieldT Try.prog 33 1 = some (1, 27) := by kernel_rfl
theorem facts3_21 : fieldT Try.prog 33 2 = some (3, 9) := by kernel_rfl
theorem facts3_22 : fieldT Try.prog 33 3 = some (4, 2) := by kernel_rfl
theorem facts3_23 : fieldT Try.prog 33 4 = some (5, 29) := by kernel_rfl
theorem facts3_24 : fieldT Try.prog 33 5 = some (9, 29) := by kernel_rfl
theorem facts3_25 : fieldT Try.prog 33 6 = some (13, 29) := by kernel_rfl
theorem facts3_26 : buildOk Try.prog 33 = true := by kernel_rfl
theorem facts3_27 : kinds Try.prog 33 = some [.int, .int, .int, .str, .int, .int, .int, .int, .int, .int, .int, .int, .int, .int, .int, .int, .int] := by kernel_rfl
theorem facts3_28 : und Try.prog 34 = .int .i64 := by kernel_rfl
theorem facts3_29 : tk Try.prog 34 = some (false, 1) := by kernel_rfl
theorem facts3_30 : sz Try.prog 34 = some 1 := by kernel_rfl
theorem facts3_31 : nb Try.prog 34 = some 8 := by kernel_rfl
theorem facts3_32 : zeroV Try.prog 34 = some (.int .i64 0) := by kernel_rfl
theorem facts3_33 : und Try.prog 36 = .func := by kernel_rfl
theorem facts3_34 : und Try.prog 37 = .func := by kernel_rfl
theorem facts3_35 : und Try.prog 38 = .func := by kernel_rfl
theorem facts3_36 : und Try.prog 39 = .func := by kernel_rfl
theorem facts3_37 : und Try.prog 40 = .func := by kernel_rfl
theorem facts3_38 : und Try.prog 41 = .func := by kernel_rfl
theorem facts3_39 : und Try.prog 42 = .func := by kernel_rfl
theorem facts3 : und Try.prog 32 = .struct ∧ tk Try.prog 32 = some (true, 17) ∧ sz Try.prog 32 = some 17 ∧ nb Try.prog 32 = some 136 ∧ zeroV Try.prog 32 = some (.agg #[.int .i64 0, .int .u16 0, .int .u32 0, .string ByteArray.empty, .int .i64 0, .int .i64 0, .int .i64 0, .int .i64 0, .int .i64 0, .int .i64 0, .int .i64 0, .int .i64 0, .int .i64 0, .int .i64 0, .int .i64 0, .int .i64 0, .int .i64 0]) ∧ fieldT Try.prog 32 0 = some (0, 3) ∧ fieldT Try.prog 32 1 = some (1, 27) ∧ fieldT Try.prog 32 2 = some (3, 9) ∧ fieldT Try.prog 32 3 = some (4, 2) ∧ fieldT Try.prog 32 4 = some (5, 29) ∧ fieldT Try.prog 32 5 = some (9, 29) ∧ fieldT Try.prog 32 6 = some (13, 29) ∧ buildOk Try.prog 32 = true ∧ kinds Try.prog 32 = some [.int, .int, .int, .str, .int, .int, .int, .int, .int, .int, .int, .int, .int, .int, .int, .int, .int] ∧ und Try.prog 33 = .struct ∧ tk Try.prog 33 = some (true, 17) ∧ sz Try.prog 33 = some 17 ∧ nb Try.prog 33 = some 136 ∧ zeroV Try.prog 33 = some (.agg #[.int .i64 0, .int .u16 0, .int .u32 0, .string ByteArray.empty, .int .i64 0, .int .i64 0, .int .i64 0, .int .i64 0, .int .i64 0, .int .i64 0, .int .i64 0, .int .i64 0, .int .i64 0, .int .i64 0, .int .i64 0, .int .i64 0, .int .i64 0]) ∧ fieldT Try.prog 33 0 = some (0, 3) ∧ fieldT Try.prog 33 1 = some (1, 27) ∧ fieldT Try.prog 33 2 = some (3, 9) ∧ fieldT Try.prog 33 3 = some (4, 2) ∧ fieldT Try.prog 33 4 = some (5, 29) ∧ fieldT Try.prog 33 5 = some (9, 29) ∧ fieldT Try.prog 33 6 = some (13, 29) ∧ buildOk Try.prog 33 = true ∧ kinds Try.prog 33 = some [.int, .int, .int, .str, .int, .int, .int, .int, .int, .int, .int, .int, .int, .int, .int, .int, .int] ∧ und Try.prog 34 = .int .i64 ∧ tk Try.prog 34 = some (false, 1) ∧ sz Try.prog 34 = some 1 ∧ nb Try.prog 34 = some 8 ∧ zeroV Try.prog 34 = some (.int .i64 0) ∧ und Try.prog 36 = .func ∧ und Try.prog 37 = .func ∧ und Try.prog 38 = .func ∧ und Try.prog 39 = .func ∧ und Try.prog 40 = .func ∧ und Try.prog 41 = .func ∧ und Try.prog 42 = .func := ⟨facts3_0, facts3_1, facts3_2, facts3_3, facts3_4, facts3_5, facts3_6, facts3_7, facts3_8, facts3_9, facts3_10, facts3_11, facts3_12, facts3_13, facts3_14, facts3_15, facts3_16, facts3_17, facts3_18, facts3_19, facts3_20, facts3_21, facts3_22, facts3_23, facts3_24, facts3_25, facts3_26, facts3_27, facts3_28, facts3_29, facts3_30, facts3_31, facts3_32, facts3_33, facts3_34, facts3_35, facts3_36, facts3_37, facts3_38, facts3_39⟩
theorem facts4_0 : und Try.prog 43 = .func := by kernel_rfl
theorem facts4_1 : und Try.prog 44 = .func := by kernel_rfl
theorem facts4_2 : und Try.prog 45 = .slice 3 := by kernel_rfl
theorem facts4_3 : tk Try.prog 45 = some (false, 1) := by kernel_rfl
theorem facts4_4 : sz Try.prog 45 = some 1 := by kernel_rfl
theorem facts4_5 : nb Try.prog 45 = some 24 := by kernel_rfl
theorem facts4_6 : zeroV Try.prog 45 = some (.slice none 0 0) := by kernel_rfl
theorem facts4_7 : und Try.prog 46 = .func := by kernel_rfl
theorem facts4_8 : und Try.prog 47 = .func := by kernel_rfl
theorem facts4_9 : und Try.prog 48 = .func := by kernel_rfl
theorem facts4_10 : und Try.prog 49 = .func := by kernel_rfl
theorem facts4_11 : und Try.prog 50 = .func := by kernel_rfl
theorem facts4_12 : und Try.prog 51 = .func := by kernel_rfl
theorem facts4_13 : und Try.prog 52 = .func := by kernel_rfl
theorem facts4_14 : und Try.prog 53 = .slice 9 := by kernel_rfl
theorem facts4_15 : tk Try.prog 53 = some (false, 1) := by kernel_rfl
theorem facts4_16 : sz Try.prog 53 = some 1 := by kernel_rfl
theorem facts4_17 : nb Try.prog 53 = some 24 := by kernel_rfl
theorem facts4_18 : zeroV Try.prog 53 = some (.slice none 0 0) := by kernel_rfl
theorem facts4_19 : und Try.prog 54 = .slice 29 := by kernel_rfl
theorem facts4_20 : tk Try.prog 54 = some (false, 1) := by kernel_rfl
theorem facts4_21 : sz Try.prog 54 = some 1 := by kernel_rfl
theorem facts4_22 : nb Try.prog 54 = some 24 := by kernel_rfl
theorem facts4_23 : zeroV Try.prog 54 = some (.slice none 0 0) := by kernel_rfl
theorem facts4_24 : und Try.prog 55 = .func := by kernel_rfl
theorem facts4_25 : und Try.prog 61 = .func := by kernel_rfl
theorem facts4_26 : und Try.prog 64 = .func := by kernel_rfl
theorem facts4_27 : und Try.prog 65 = .ptr 5 := by kernel_rfl
theorem facts4_28 : tk Try.prog 65 = some (false, 1) := by kernel_rfl
theorem facts4_29 : sz Try.prog 65 = some 1 := by kernel_rfl
theorem facts4_30 : nb Try.prog 65 = some 8 := by kernel_rfl
theorem facts4_31 : zeroV Try.prog 65 = some (.pointer none) := by kernel_rfl
theorem facts4_32 : Try.prog.follows .mixedOrders = true := by kernel_rfl
theorem facts4_33 : callable Try.prog 3 = true := by kernel_rfl
theorem facts4_34 : callable Try.prog 4 = true := by kernel_rfl
theorem facts4_35 : callable Try.prog 5 = true := by kernel_rfl
theorem facts4_36 : callable Try.prog 6 = true := by kernel_rfl
theorem facts4_37 : callable Try.prog 7 = true := by kernel_rfl
theorem facts4_38 : callable Try.prog 8 = true := by kernel_rfl
theorem facts4_39 : callable Try.prog 9 = true := by kernel_rfl
theorem facts4 : und Try.prog 43 = .func ∧ und Try.prog 44 = .func ∧ und Try.prog 45 = .slice 3 ∧ tk Try.prog 45 = some (false, 1) ∧ sz Try.prog 45 = some 1 ∧ nb Try.prog 45 = some 24 ∧ zeroV Try.prog 45 = some (.slice none 0 0) ∧ und Try.prog 46 = .func ∧ und Try.prog 47 = .func ∧ und Try.prog 48 = .func ∧ und Try.prog 49 = .func ∧ und Try.prog 50 = .func ∧ und Try.prog 51 = .func ∧ und Try.prog 52 = .func ∧ und Try.prog 53 = .slice 9 ∧ tk Try.prog 53 = some (false, 1) ∧ sz Try.prog 53 = some 1 ∧ nb Try.prog 53 = some 24 ∧ zeroV Try.prog 53 = some (.slice none 0 0) ∧ und Try.prog 54 = .slice 29 ∧ tk Try.prog 54 = some (false, 1) ∧ sz Try.prog 54 = some 1 ∧ nb Try.prog 54 = some 24 ∧ zeroV Try.prog 54 = some (.slice none 0 0) ∧ und Try.prog 55 = .func ∧ und Try.prog 61 = .func ∧ und Try.prog 64 = .func ∧ und Try.prog 65 = .ptr 5 ∧ tk Try.prog 65 = some (false, 1) ∧ sz Try.prog 65 = some 1 ∧ nb Try.prog 65 = some 8 ∧ zeroV Try.prog 65 = some (.pointer none) ∧ Try.prog.follows .mixedOrders = true ∧ callable Try.prog 3 = true ∧ callable Try.prog 4 = true ∧ callable Try.prog 5 = true ∧ callable Try.prog 6 = true ∧ callable Try.prog 7 = true ∧ callable Try.prog 8 = true ∧ callable Try.prog 9 = true := ⟨facts4_0, facts4_1, facts4_2, facts4_3, facts4_4, facts4_5, facts4_6, facts4_7, facts4_8, facts4_9, facts4_10, facts4_11, facts4_12, facts4_13, facts4_14, facts4_15, facts4_16, facts4_17, facts4_18, facts4_19, facts4_20, facts4_21, facts4_22, facts4_23, facts4_24, facts4_25, facts4_26, facts4_27, facts4_28, facts4_29, facts4_30, facts4_31, facts4_32, facts4_33, facts4_34, facts4_35, facts4_36, facts4_37, facts4_38, facts4_39⟩
theorem facts5_0 : callable Try.prog 10 = true := by kernel_rfl
theorem facts5_1 : callable Try.prog 11 = true := by kernel_rfl
theorem facts5_2 : callable Try.prog 12 = true := by kernel_rfl
theorem facts5_3 : callable Try.prog 13 = true := by kernel_rfl
theorem facts5_4 : callable Try.prog 14 = true := by kernel_rfl
theorem facts5_5 : callable Try.prog 15 = true := by kernel_rfl
theorem facts5_6 : callable Try.prog 16 = true := by kernel_rfl
theorem facts5_7 : callable Try.prog 17 = true := by kernel_rfl
theorem facts5_8 : callable Try.prog 18 = true := by kernel_rfl
theorem facts5_9 : callable Try.prog 19 = true := by kernel_rfl
theorem facts5_10 : callable Try.prog 20 = true := by kernel_rfl
theorem facts5_11 : callable Try.prog 21 = true := by kernel_rfl
theorem facts5_12 : callable Try.prog 22 = true := by kernel_rfl
theorem facts5_13 : callable Try.prog 38 = false := by kernel_rfl
theorem facts5 : callable Try.prog 10 = true ∧ callable Try.prog 11 = true ∧ callable Try.prog 12 = true ∧ callable Try.prog 13 = true ∧ callable Try.prog 14 = true ∧ callable Try.prog 15 = true ∧ callable Try.prog 16 = true ∧ callable Try.prog 17 = true ∧ callable Try.prog 18 = true ∧ callable Try.prog 19 = true ∧ callable Try.prog 20 = true ∧ callable Try.prog 21 = true ∧ callable Try.prog 22 = true ∧ callable Try.prog 38 = false := ⟨facts5_0, facts5_1, facts5_2, facts5_3, facts5_4, facts5_5, facts5_6, facts5_7, facts5_8, facts5_9, facts5_10, facts5_11, facts5_12, facts5_13⟩
theorem facts : (und Try.prog 1 = .func ∧ und Try.prog 2 = .int .i64 ∧ tk Try.prog 2 = some (false, 1) ∧ sz Try.prog 2 = some 1 ∧ nb Try.prog 2 = some 8 ∧ zeroV Try.prog 2 = some (.int .i64 0) ∧ und Try.prog 3 = .int .i64 ∧ tk Try.prog 3 = some (false, 1) ∧ sz Try.prog 3 = some 1 ∧ nb Try.prog 3 = some 8 ∧ zeroV Try.prog 3 = some (.int .i64 0) ∧ und Try.prog 4 = .bool ∧ tk Try.prog 4 = some (false, 1) ∧ sz Try.prog 4 = some 1 ∧ nb Try.prog 4 = some 1 ∧ zeroV Try.prog 4 = some (.bool false) ∧ und Try.prog 5 = .int .u8 ∧ tk Try.prog 5 = some (false, 1) ∧ sz Try.prog 5 = some 1 ∧ nb Try.prog 5 = some 1 ∧ zeroV Try.prog 5 = some (.int .u8 0) ∧ und Try.prog 9 = .str ∧ tk Try.prog 9 = some (false, 1) ∧ sz Try.prog 9 = some 1 ∧ nb Try.prog 9 = some 16 ∧ zeroV Try.prog 9 = some (.string ByteArray.empty) ∧ und Try.prog 12 = .int .u64 ∧ tk Try.prog 12 = some (false, 1) ∧ sz Try.prog 12 = some 1 ∧ nb Try.prog 12 = some 8 ∧ zeroV Try.prog 12 = some (.int .u64 0) ∧ und Try.prog 13 = .struct ∧ tk Try.prog 13 = some (true, 2) ∧ sz Try.prog 13 = some 2 ∧ nb Try.prog 13 = some 24 ∧ zeroV Try.prog 13 = some (.agg #[.string ByteArray.empty, .int .u64 0]) ∧ fieldT Try.prog 13 0 = some (0, 9) ∧ fieldT Try.prog 13 1 = some (1, 12) ∧ buildOk Try.prog 13 = true ∧ und Try.prog 21 = .int .i32) ∧ (tk Try.prog 21 = some (false, 1) ∧ sz Try.prog 21 = some 1 ∧ nb Try.prog 21 = some 4 ∧ zeroV Try.prog 21 = some (.int .i32 0) ∧ und Try.prog 22 = .slice 5 ∧ tk Try.prog 22 = some (false, 1) ∧ sz Try.prog 22 = some 1 ∧ nb Try.prog 22 = some 24 ∧ zeroV Try.prog 22 = some (.slice none 0 0) ∧ und Try.prog 23 = .int .u16 ∧ tk Try.prog 23 = some (false, 1) ∧ sz Try.prog 23 = some 1 ∧ nb Try.prog 23 = some 2 ∧ zeroV Try.prog 23 = some (.int .u16 0) ∧ und Try.prog 24 = .func ∧ und Try.prog 25 = .int .u32 ∧ tk Try.prog 25 = some (false, 1) ∧ sz Try.prog 25 = some 1 ∧ nb Try.prog 25 = some 4 ∧ zeroV Try.prog 25 = some (.int .u32 0) ∧ und Try.prog 26 = .struct ∧ tk Try.prog 26 = some (true, 2) ∧ sz Try.prog 26 = some 2 ∧ nb Try.prog 26 = some 8 ∧ zeroV Try.prog 26 = some (.agg #[.int .u16 0, .int .u32 0]) ∧ fieldT Try.prog 26 0 = some (0, 23) ∧ fieldT Try.prog 26 1 = some (1, 25) ∧ buildOk Try.prog 26 = true ∧ kinds Try.prog 26 = some [.int, .int] ∧ und Try.prog 27 = .struct ∧ tk Try.prog 27 = some (true, 2) ∧ sz Try.prog 27 = some 2 ∧ nb Try.prog 27 = some 8 ∧ zeroV Try.prog 27 = some (.agg #[.int .u16 0, .int .u32 0]) ∧ fieldT Try.prog 27 0 = some (0, 23) ∧ fieldT Try.prog 27 1 = some (1, 25) ∧ buildOk Try.prog 27 = true ∧ kinds Try.prog 27 = some [.int, .int] ∧ und Try.prog 28 = .arr 4 3 ∧ tk Try.prog 28 = some (true, 4)) ∧ (sz Try.prog 28 = some 4 ∧ nb Try.prog 28 = some 32 ∧ zeroV Try.prog 28 = some (.agg #[.int .i64 0, .int .i64 0, .int .i64 0, .int .i64 0]) ∧ buildOk Try.prog 28 = true ∧ kinds Try.prog 28 = some [.int, .int, .int, .int] ∧ und Try.prog 29 = .arr 4 3 ∧ tk Try.prog 29 = some (true, 4) ∧ sz Try.prog 29 = some 4 ∧ nb Try.prog 29 = some 32 ∧ zeroV Try.prog 29 = some (.agg #[.int .i64 0, .int .i64 0, .int .i64 0, .int .i64 0]) ∧ buildOk Try.prog 29 = true ∧ kinds Try.prog 29 = some [.int, .int, .int, .int] ∧ und Try.prog 30 = .struct ∧ tk Try.prog 30 = some (true, 11) ∧ sz Try.prog 30 = some 11 ∧ nb Try.prog 30 = some 88 ∧ zeroV Try.prog 30 = some (.agg #[.int .u16 0, .int .u32 0, .string ByteArray.empty, .int .i64 0, .int .i64 0, .int .i64 0, .int .i64 0, .int .i64 0, .int .i64 0, .int .i64 0, .int .i64 0]) ∧ fieldT Try.prog 30 0 = some (0, 27) ∧ fieldT Try.prog 30 1 = some (2, 9) ∧ fieldT Try.prog 30 2 = some (3, 2) ∧ fieldT Try.prog 30 3 = some (4, 3) ∧ fieldT Try.prog 30 4 = some (5, 29) ∧ fieldT Try.prog 30 5 = some (9, 2) ∧ fieldT Try.prog 30 6 = some (10, 2) ∧ buildOk Try.prog 30 = true ∧ kinds Try.prog 30 = some [.int, .int, .str, .int, .int, .int, .int, .int, .int, .int, .int] ∧ und Try.prog 31 = .struct ∧ tk Try.prog 31 = some (true, 11) ∧ sz Try.prog 31 = some 11 ∧ nb Try.prog 31 = some 88 ∧ zeroV Try.prog 31 = some (.agg #[.int .u16 0, .int .u32 0, .string ByteArray.empty, .int .i64 0, .int .i64 0, .int .i64 0, .int .i64 0, .int .i64 0, .int .i64 0, .int .i64 0, .int .i64 0]) ∧ fieldT Try.prog 31 0 = some (0, 27) ∧ fieldT Try.prog 31 1 = some (2, 9) ∧ fieldT Try.prog 31 2 = some (3, 2) ∧ fieldT Try.prog 31 3 = some (4, 3) ∧ fieldT Try.prog 31 4 = some (5, 29) ∧ fieldT Try.prog 31 5 = some (9, 2) ∧ fieldT Try.prog 31 6 = some (10, 2) ∧ buildOk Try.prog 31 = true ∧ kinds Try.prog 31 = some [.int, .int, .str, .int, .int, .int, .int, .int, .int, .int, .int]) ∧ (und Try.prog 32 = .struct ∧ tk Try.prog 32 = some (true, 17) ∧ sz Try.prog 32 = some 17 ∧ nb Try.prog 32 = some 136 ∧ zeroV Try.prog 32 = some (.agg #[.int .i64 0, .int .u16 0, .int .u32 0, .string ByteArray.empty, .int .i64 0, .int .i64 0, .int .i64 0, .int .i64 0, .int .i64 0, .int .i64 0, .int .i64 0, .int .i64 0, .int .i64 0, .int .i64 0, .int .i64 0, .int .i64 0, .int .i64 0]) ∧ fieldT Try.prog 32 0 = some (0, 3) ∧ fieldT Try.prog 32 1 = some (1, 27) ∧ fieldT Try.prog 32 2 = some (3, 9) ∧ fieldT Try.prog 32 3 = some (4, 2) ∧ fieldT Try.prog 32 4 = some (5, 29) ∧ fieldT Try.prog 32 5 = some (9, 29) ∧ fieldT Try.prog 32 6 = some (13, 29) ∧ buildOk Try.prog 32 = true ∧ kinds Try.prog 32 = some [.int, .int, .int, .str, .int, .int, .int, .int, .int, .int, .int, .int, .int, .int, .int, .int, .int] ∧ und Try.prog 33 = .struct ∧ tk Try.prog 33 = some (true, 17) ∧ sz Try.prog 33 = some 17 ∧ nb Try.prog 33 = some 136 ∧ zeroV Try.prog 33 = some (.agg #[.int .i64 0, .int .u16 0, .int .u32 0, .string ByteArray.empty, .int .i64 0, .int .i64 0, .int .i64 0, .int .i64 0, .int .i64 0, .int .i64 0, .int .i64 0, .int .i64 0, .int .i64 0, .int .i64 0, .int .i64 0, .int .i64 0, .int .i64 0]) ∧ fieldT Try.prog 33 0 = some (0, 3) ∧ fieldT Try.prog 33 1 = some (1, 27) ∧ fieldT Try.prog 33 2 = some (3, 9) ∧ fieldT Try.prog 33 3 = some (4, 2) ∧ fieldT Try.prog 33 4 = some (5, 29) ∧ fieldT Try.prog 33 5 = some (9, 29) ∧ fieldT Try.prog 33 6 = some (13, 29) ∧ buildOk Try.prog 33 = true ∧ kinds Try.prog 33 = some [.int, .int, .int, .str, .int, .int, .int, .int, .int, .int, .int, .int, .int, .int, .int, .int, .int] ∧ und Try.prog 34 = .int .i64 ∧ tk Try.prog 34 = some (false, 1) ∧ sz Try.prog 34 = some 1 ∧ nb Try.prog 34 = some 8 ∧ zeroV Try.prog 34 = some (.int .i64 0) ∧ und Try.prog 36 = .func ∧ und Try.prog 37 = .func ∧ und Try.prog 38 = .func ∧ und Try.prog 39 = .func ∧ und Try.prog 40 = .func ∧ und Try.prog 41 = .func ∧ und Try.prog 42 = .func) ∧ (und Try.prog 43 = .func ∧ und Try.prog 44 = .func ∧ und Try.prog 45 = .slice 3 ∧ tk Try.prog 45 = some (false, 1) ∧ sz Try.prog 45 = some 1 ∧ nb Try.prog 45 = some 24 ∧ zeroV Try.prog 45 = some (.slice none 0 0) ∧ und Try.prog 46 = .func ∧ und Try.prog 47 = .func ∧ und Try.prog 48 = .func ∧ und Try.prog 49 = .func ∧ und Try.prog 50 = .func ∧ und Try.prog 51 = .func ∧ und Try.prog 52 = .func ∧ und Try.prog 53 = .slice 9 ∧ tk Try.prog 53 = some (false, 1) ∧ sz Try.prog 53 = some 1 ∧ nb Try.prog 53 = some 24 ∧ zeroV Try.prog 53 = some (.slice none 0 0) ∧ und Try.prog 54 = .slice 29 ∧ tk Try.prog 54 = some (false, 1) ∧ sz Try.prog 54 = some 1 ∧ nb Try.prog 54 = some 24 ∧ zeroV Try.prog 54 = some (.slice none 0 0) ∧ und Try.prog 55 = .func ∧ und Try.prog 61 = .func ∧ und Try.prog 64 = .func ∧ und Try.prog 65 = .ptr 5 ∧ tk Try.prog 65 = some (false, 1) ∧ sz Try.prog 65 = some 1 ∧ nb Try.prog 65 = some 8 ∧ zeroV Try.prog 65 = some (.pointer none) ∧ Try.prog.follows .mixedOrders = true ∧ callable Try.prog 3 = true ∧ callable Try.prog 4 = true ∧ callable Try.prog 5 = true ∧ callable Try.prog 6 = true ∧ callable Try.prog 7 = true ∧ callable Try.prog 8 = true ∧ callable Try.prog 9 = true) ∧ (callable Try.prog 10 = true ∧ callable Try.prog 11 = true ∧ callable Try.prog 12 = true ∧ callable Try.prog 13 = true ∧ callable Try.prog 14 = true ∧ callable Try.prog 15 = true ∧ callable Try.prog 16 = true ∧ callable Try.prog 17 = true ∧ callable Try.prog 18 = true ∧ callable Try.prog 19 = true ∧ callable Try.prog 20 = true ∧ callable Try.prog 21 = true ∧ callable Try.prog 22 = true ∧ callable Try.prog 38 = false) := ⟨facts0, facts1, facts2, facts3, facts4, facts5⟩
end Go.Proofs.Ytahmnhdmnhijcaa.GL
