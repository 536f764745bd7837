/- Closed facts on this seat's types and functions, printed by gltypes.py out of the translation. -/
import Derived.Test.YthaggpicjpkjiaaGlH
import Derived.Test.YthaggpicjpkjiaaProg
namespace Go.Proofs.Ythaggpicjpkjiaa.GL
open Go
theorem facts0_0 : und Try.prog 1 = .func := by kernel_rfl
theorem facts0_1 : und Try.prog 2 = .int .i64 := by kernel_rfl
theorem facts0_2 : tk Try.prog 2 = some (false, 1) := by kernel_rfl
theorem facts0_3 : sz Try.prog 2 = some 1 := by kernel_rfl
theorem facts0_4 : nb Try.prog 2 = some 8 := by kernel_rfl
theorem facts0_5 : zeroV Try.prog 2 = some (.int .i64 0) := by kernel_rfl
theorem facts0_6 : und Try.prog 3 = .int .i64 := by kernel_rfl
theorem facts0_7 : tk Try.prog 3 = some (false, 1) := by kernel_rfl
theorem facts0_8 : sz Try.prog 3 = some 1 := by kernel_rfl
theorem facts0_9 : nb Try.prog 3 = some 8 := by kernel_rfl
theorem facts0_10 : zeroV Try.prog 3 = some (.int .i64 0) := by kernel_rfl
theorem facts0_11 : und Try.prog 4 = .bool := by kernel_rfl
theorem facts0_12 : tk Try.prog 4 = some (false, 1) := by kernel_rfl
theorem facts0_13 : sz Try.prog 4 = some 1 := by kernel_rfl
theorem facts0_14 : nb Try.prog 4 = some 1 := by kernel_rfl
theorem facts0_15 : zeroV Try.prog 4 = some (.bool false) := by kernel_rfl
theorem facts0_16 : und Try.prog 5 = .int .u8 := by kernel_rfl
theorem facts0_17 : tk Try.prog 5 = some (false, 1) := by kernel_rfl
theorem facts0_18 : sz Try.prog 5 = some 1 := by kernel_rfl
theorem facts0_19 : nb Try.prog 5 = some 1 := by kernel_rfl
theorem facts0_20 : zeroV Try.prog 5 = some (.int .u8 0) := by kernel_rfl
theorem facts0_21 : und Try.prog 9 = .str := by kernel_rfl
theorem facts0_22 : tk Try.prog 9 = some (false, 1) := by kernel_rfl
theorem facts0_23 : sz Try.prog 9 = some 1 := by kernel_rfl
theorem facts0_24 : nb Try.prog 9 = some 16 := by kernel_rfl
theorem facts0_25 : zeroV Try.prog 9 = some (.string ByteArray.empty) := by kernel_rfl
theorem facts0_26 : und Try.prog 12 = .int .u64 := by kernel_rfl
theorem facts0_27 : tk Try.prog 12 = some (false, 1) := by kernel_rfl
theorem facts0_28 : sz Try.prog 12 = some 1 := by kernel_rfl
theorem facts0_29 : nb Try.prog 12 = some 8 := by kernel_rfl
theorem facts0_30 : zeroV Try.prog 12 = some (.int .u64 0) := by kernel_rfl
theorem facts0_31 : und Try.prog 13 = .struct := by kernel_rfl
theorem facts0_32 : tk Try.prog 13 = some (true, 2) := by kernel_rfl
theorem facts0_33 : sz Try.prog 13 = some 2 := by kernel_rfl
theorem facts0_34 : nb Try.prog 13 = some 24 := by kernel_rfl
theorem facts0_35 : zeroV Try.prog 13 = some (.agg #[.string ByteArray.empty, .int .u64 0]) := by kernel_rfl
theorem facts0_36 : fieldT Try.prog 13 0 = some (0, 9) := by kernel_rfl
theorem facts0_37 : fieldT Try.prog 13 1 = some (1, 12) := by kernel_rfl
theorem facts0_38 : buildOk Try.prog 13 = true := by kernel_rfl
theorem facts0_39 : und Try.prog 21 = .int .i32 := by kernel_rfl
theorem facts0 : und Try.prog 1 = .func ∧ und Try.prog 2 = .int .i64 ∧ tk Try.prog 2 = some (false, 1) ∧ sz Try.prog 2 = some 1 ∧ nb Try.prog 2 = some 8 ∧ zeroV Try.prog 2 = some (.int .i64 0) ∧ und Try.prog 3 = .int .i64 ∧ tk Try.prog 3 = some (false, 1) ∧ sz Try.prog 3 = some 1 ∧ nb Try.prog 3 = some 8 ∧ zeroV Try.prog 3 = some (.int .i64 0) ∧ und Try.prog 4 = .bool ∧ tk Try.prog 4 = some (false, 1) ∧ sz Try.prog 4 = some 1 ∧ nb Try.prog 4 = some 1 ∧ zeroV Try.prog 4 = some (.bool false) ∧ und Try.prog 5 = .int .u8 ∧ tk Try.prog 5 = some (false, 1) ∧ sz Try.prog 5 = some 1 ∧ nb Try.prog 5 = some 1 ∧ zeroV Try.prog 5 = some (.int .u8 0) ∧ und Try.prog 9 = .str ∧ tk Try.prog 9 = some (false, 1) ∧ sz Try.prog 9 = some 1 ∧ nb Try.prog 9 = some 16 ∧ zeroV Try.prog 9 = some (.string ByteArray.empty) ∧ und Try.prog 12 = .int .u64 ∧ tk Try.prog 12 = some (false, 1) ∧ sz Try.prog 12 = some 1 ∧ nb Try.prog 12 = some 8 ∧ zeroV Try.prog 12 = some (.int .u64 0) ∧ und Try.prog 13 = .struct ∧ tk Try.prog 13 = some (true, 2) ∧ sz Try.prog 13 = some 2 ∧ nb Try.prog 13 = some 24 ∧ zeroV Try.prog 13 = some (.agg #[.string ByteArray.empty, .int .u64 0]) ∧ fieldT Try.prog 13 0 = some (0, 9) ∧ fieldT Try.prog 13 1 = some (1, 12) ∧ buildOk Try.prog 13 = true ∧ und Try.prog 21 = .int .i32 := ⟨facts0_0, facts0_1, facts0_2, facts0_3, facts0_4, facts0_5, facts0_6, facts0_7, facts0_8, facts0_9, facts0_10, facts0_11, facts0_12, facts0_13, facts0_14, facts0_15, facts0_16, facts0_17, facts0_18, facts0_19, facts0_20, facts0_21, facts0_22, facts0_23, facts0_24, facts0_25, facts0_26, facts0_27, facts0_28, facts0_29, facts0_30, facts0_31, facts0_32, facts0_33, facts0_34, facts0_35, facts0_36, facts0_37, facts0_38, facts0_39⟩
theorem facts1_0 : tk Try.prog 21 = some (false, 1) := by kernel_rfl
theorem facts1_1 : sz Try.prog 21 = some 1 := by kernel_rfl
theorem facts1_2 : nb Try.prog 21 = some 4 := by kernel_rfl
theorem facts1_3 : zeroV Try.prog 21 = some (.int .i32 0) := by kernel_rfl
theorem facts1_4 : und Try.prog 22 = .slice 43 := by kernel_rfl
theorem facts1_5 : tk Try.prog 22 = some (false, 1) := by kernel_rfl
theorem facts1_6 : sz Try.prog 22 = some 1 := by kernel_rfl
theorem facts1_7 : nb Try.prog 22 = some 24 := by kernel_rfl
theorem facts1_8 : zeroV Try.prog 22 = some (.slice none 0 0) := by kernel_rfl
theorem facts1_9 : und Try.prog 23 = .int .u16 := by kernel_rfl
theorem facts1_10 : tk Try.prog 23 = some (false, 1) := by kernel_rfl
theorem facts1_11 : sz Try.prog 23 = some 1 := by kernel_rfl
theorem facts1_12 : nb Try.prog 23 = some 2 := by kernel_rfl
theorem facts1_13 : zeroV Try.prog 23 = some (.int .u16 0) := by kernel_rfl
theorem facts1_14 : und Try.prog 24 = .int .u32 := by kernel_rfl
theorem facts1_15 : tk Try.prog 24 = some (false, 1) := by kernel_rfl
theorem facts1_16 : sz Try.prog 24 = some 1 := by kernel_rfl
theorem facts1_17 : nb Try.prog 24 = some 4 := by kernel_rfl
theorem facts1_18 : zeroV Try.prog 24 = some (.int .u32 0) := by kernel_rfl
theorem facts1_19 : und Try.prog 25 = .struct := by kernel_rfl
theorem facts1_20 : tk Try.prog 25 = some (true, 2) := by kernel_rfl
theorem facts1_21 : sz Try.prog 25 = some 2 := by kernel_rfl
theorem facts1_22 : nb Try.prog 25 = some 8 := by kernel_rfl
theorem facts1_23 : zeroV Try.prog 25 = some (.agg #[.int .u16 0, .int .u32 0]) := by kernel_rfl
theorem facts1_24 : fieldT Try.prog 25 0 = some (0, 23) := by kernel_rfl
theorem facts1_25 : fieldT Try.prog 25 1 = some (1, 24) := by kernel_rfl
theorem facts1_26 : buildOk Try.prog 25 = true := by kernel_rfl
theorem facts1_27 : kinds Try.prog 25 = some [.int, .int] := by kernel_rfl
theorem facts1_28 : und Try.prog 26 = .struct := by kernel_rfl
theorem facts1_29 : tk Try.prog 26 = some (true, 2) := by kernel_rfl
theorem facts1_30 : sz Try.prog 26 = some 2 := by kernel_rfl
theorem facts1_31 : nb Try.prog 26 = some 8 := by kernel_rfl
theorem facts1_32 : zeroV Try.prog 26 = some (.agg #[.int .u16 0, .int .u32 0]) := by kernel_rfl
theorem facts1_33 : fieldT Try.prog 26 0 = some (0, 23) := by kernel_rfl
theorem facts1_34 : fieldT Try.prog 26 1 = some (1, 24) := by kernel_rfl
theorem facts1_35 : buildOk Try.prog 26 = true := by kernel_rfl
theorem facts1_36 : kinds Try.prog 26 = some [.int, .int] := by kernel_rfl
theorem facts1_37 : und Try.prog 27 = .func := by kernel_rfl
theorem facts1_38 : und Try.prog 28 = .slice 60 := by kernel_rfl
theorem facts1_39 : tk Try.prog 28 = some (false, 1) := by kernel_rfl
theorem facts1 : tk Try.prog 21 = some (false, 1) ∧ sz Try.prog 21 = some 1 ∧ nb Try.prog 21 = some 4 ∧ zeroV Try.prog 21 = some (.int .i32 0) ∧ und Try.prog 22 = .slice 43 ∧ tk Try.prog 22 = some (false, 1) ∧ sz Try.prog 22 = some 1 ∧ nb Try.prog 22 = some 24 ∧ zeroV Try.prog 22 = some (.slice none 0 0) ∧ und Try.prog 23 = .int .u16 ∧ tk Try.prog 23 = some (false, 1) ∧ sz Try.prog 23 = some 1 ∧ nb Try.prog 23 = some 2 ∧ zeroV Try.prog 23 = some (.int .u16 0) ∧ und Try.prog 24 = .int .u32 ∧ tk Try.prog 24 = some (false, 1) ∧ sz Try.prog 24 = some 1 ∧ nb Try.prog 24 = some 4 ∧ zeroV Try.prog 24 = some (.int .u32 0) ∧ und Try.prog 25 = .struct ∧ tk Try.prog 25 = some (true, 2) ∧ sz Try.prog 25 = some 2 ∧ nb Try.prog 25 = some 8 ∧ zeroV Try.prog 25 = some (.agg #[.int .u16 0, .int .u32 0]) ∧ fieldT Try.prog 25 0 = some (0, 23) ∧ fieldT Try.prog 25 1 = some (1, 24) ∧ buildOk Try.prog 25 = true ∧ kinds Try.prog 25 = some [.int, .int] ∧ und Try.prog 26 = .struct ∧ tk Try.prog 26 = some (true, 2) ∧ sz Try.prog 26 = some 2 ∧ nb Try.prog 26 = some 8 ∧ zeroV Try.prog 26 = some (.agg #[.int .u16 0, .int .u32 0]) ∧ fieldT Try.prog 26 0 = some (0, 23) ∧ fieldT Try.prog 26 1 = some (1, 24) ∧ buildOk Try.prog 26 = true ∧ kinds Try.prog 26 = some [.int, .int] ∧ und Try.prog 27 = .func ∧ und Try.prog 28 = .slice 60 ∧ tk Try.prog 28 = some (false, 1) := ⟨facts1_0, facts1_1, facts1_2, facts1_3, facts1_4, facts1_5, facts1_6, facts1_7, facts1_8, facts1_9, facts1_10, facts1_11, facts1_12, facts1_13, facts1_14, facts1_15, facts1_16, facts1_17, facts1_18, facts1_19, facts1_20, facts1_21, facts1_22, facts1_23, facts1_24, facts1_25, facts1_26, facts1_27, facts1_28, facts1_29, facts1_30, facts1_31, facts1_32, facts1_33, facts1_34, facts1_35, facts1_36, facts1_37, facts1_38, facts1_39⟩
theorem facts2_0 : sz Try.prog 28 = some 1 := by kernel_rfl
theorem facts2_1 : nb Try.prog 28 = some 24 := by kernel_rfl
theorem facts2_2 : zeroV Try.prog 28 = some (.slice none 0 0) := by kernel_rfl
theorem facts2_3 : und Try.prog 29 = .slice 9 := by kernel_rfl
theorem facts2_4 : tk Try.prog 29 = some (false, 1) := by kernel_rfl
theorem facts2_5 : sz Try.prog 29 = some 1 := by kernel_rfl
theorem facts2_6 : nb Try.prog 29 = some 24 := by kernel_rfl
theorem facts2_7 : zeroV Try.prog 29 = some (.slice none 0 0) := by kernel_rfl
theorem facts2_8 : und Try.prog 30 = .slice 2 := by kernel_rfl
theorem facts2_9 : tk Try.prog 30 = some (false, 1) := by kernel_rfl
theorem facts2_10 : sz Try.prog 30 = some 1 := by kernel_rfl
theorem facts2_11 : nb Try.prog 30 = some 24 := by kernel_rfl
theorem facts2_12 : zeroV Try.prog 30 = some (.slice none 0 0) := by kernel_rfl
theorem facts2_13 : und Try.prog 31 = .struct := by kernel_rfl
theorem facts2_14 : tk Try.prog 31 = some (true, 5) := by kernel_rfl
theorem facts2_15 : sz Try.prog 31 = some 5 := by kernel_rfl
theorem facts2_16 : nb Try.prog 31 = some 88 := by kernel_rfl
theorem facts2_17 : zeroV Try.prog 31 = some (.agg #[.slice none 0 0, .slice none 0 0, .slice none 0 0, .int .i64 0, .int .i64 0]) := by kernel_rfl
theorem facts2_18 : fieldT Try.prog 31 0 = some (0, 28) := by kernel_rfl
theorem facts2_19 : fieldT Try.prog 31 1 = some (1, 29) := by kernel_rfl
theorem facts2_20 : fieldT Try.prog 31 2 = some (2, 30) := by kernel_rfl
theorem facts2_21 : fieldT Try.prog 31 3 = some (3, 2) := by kernel_rfl
theorem facts2_22 : fieldT Try.prog 31 4 = some (4, 2) := by kernel_rfl
theorem facts2_23 : buildOk Try.prog 31 = true := by kernel_rfl
theorem facts2_24 : und Try.prog 32 = .struct := by kernel_rfl
theorem facts2_25 : tk Try.prog 32 = some (true, 5) := by kernel_rfl
theorem facts2_26 : sz Try.prog 32 = some 5 := by kernel_rfl
theorem facts2_27 : nb Try.prog 32 = some 88 := by kernel_rfl
theorem facts2_28 : zeroV Try.prog 32 = some (.agg #[.slice none 0 0, .slice none 0 0, .slice none 0 0, .int .i64 0, .int .i64 0]) := by kernel_rfl
theorem facts2_29 : fieldT Try.prog 32 0 = some (0, 28) := by kernel_rfl
theorem facts2_30 : fieldT Try.prog 32 1 = some (1, 29) := by kernel_rfl
theorem facts2_31 : fieldT Try.prog 32 2 = some (2, 30) := by kernel_rfl
theorem facts2_32 : fieldT Try.prog 32 3 = some (3, 2) := by kernel_rfl
theorem facts2_33 : fieldT Try.prog 32 4 = some (4, 2) := by kernel_rfl
theorem facts2_34 : buildOk Try.prog 32 = true := by kernel_rfl
theorem facts2_35 : und Try.prog 33 = .func := by kernel_rfl
theorem facts2_36 : und Try.prog 34 = .ptr 75 := by kernel_rfl
theorem facts2_37 : tk Try.prog 34 = some (false, 1) := by kernel_rfl
theorem facts2_38 : sz Try.prog 34 = some 1 := by kernel_rfl
theorem facts2_39 : nb Try.prog 34 = some 8 := by kernel_rfl
theorem facts2 : sz Try.prog 28 = some 1 ∧ nb Try.prog 28 = some 24 ∧ zeroV Try.prog 28 = some (.slice none 0 0) ∧ und Try.prog 29 = .slice 9 ∧ tk Try.prog 29 = some (false, 1) ∧ sz Try.prog 29 = some 1 ∧ nb Try.prog 29 = some 24 ∧ zeroV Try.prog 29 = some (.slice none 0 0) ∧ und Try.prog 30 = .slice 2 ∧ tk Try.prog 30 = some (false, 1) ∧ sz Try.prog 30 = some 1 ∧ nb Try.prog 30 = some 24 ∧ zeroV Try.prog 30 = some (.slice none 0 0) ∧ und Try.prog 31 = .struct ∧ tk Try.prog 31 = some (true, 5) ∧ sz Try.prog 31 = some 5 ∧ nb Try.prog 31 = some 88 ∧ zeroV Try.prog 31 = some (.agg #[.slice none 0 0, .slice none 0 0, .slice none 0 0, .int .i64 0, .int .i64 0]) ∧ fieldT Try.prog 31 0 = some (0, 28) ∧ fieldT Try.prog 31 1 = some (1, 29) ∧ fieldT Try.prog 31 2 = some (2, 30) ∧ fieldT Try.prog 31 3 = some (3, 2) ∧ fieldT Try.prog 31 4 = some (4, 2) ∧ buildOk Try.prog 31 = true ∧ und Try.prog 32 = .struct ∧ tk Try.prog 32 = some (true, 5) ∧ sz Try.prog 32 = some 5 ∧ nb Try.prog 32 = some 88 ∧ zeroV Try.prog 32 = some (.agg #[.slice none 0 0, .slice none 0 0, .slice none 0 0, .int .i64 0, .int .i64 0]) ∧ fieldT Try.prog 32 0 = some (0, 28) ∧ fieldT Try.prog 32 1 = some (1, 29) ∧ fieldT Try.prog 32 2 = some (2, 30) ∧ fieldT Try.prog 32 3 = some (3, 2) ∧ fieldT Try.prog 32 4 = some (4, 2) ∧ buildOk Try.prog 32 = true ∧ und Try.prog 33 = .func ∧ und Try.prog 34 = .ptr 75 ∧ tk Try.prog 34 = some (false, 1) ∧ sz Try.prog 34 = some 1 ∧ nb Try.prog 34 = some 8 := ⟨facts2_0, facts2_1, facts2_2, facts2_3, facts2_4, facts2_5, facts2_6, facts2_7, facts2_8, facts2_9, facts2_10, facts2_11, facts2_12, facts2_13, facts2_14, facts2_15, facts2_16, facts2_17, facts2_18, facts2_19, facts2_20, facts2_21, facts2_22, facts2_23, facts2_24, facts2_25, facts2_26, facts2_27, facts2_28, facts2_29, facts2_30, facts2_31, facts2_32, facts2_33, facts2_34, facts2_35, facts2_36, facts2_37, facts2_38, facts2_39⟩
theorem facts3_0 : zeroV Try.prog 34 = some (.pointer none) := by kernel_rfl
theorem facts3_1 : und Try.prog 35 = .func := by kernel_rfl
theorem facts3_2 : und Try.prog 36 = .ptr 86 := by kernel_rfl
theorem facts3_3 : tk Try.prog 36 = some (false, 1) := by kernel_rfl
theorem facts3_4 : sz Try.prog 36 = some 1 := by kernel_rfl
theorem facts3_5 : nb Try.prog 36 = some 8 := by kernel_rfl
theorem facts3_6 : zeroV Try.prog 36 = some (.pointer none) := by kernel_rfl
theorem facts3_7 : und Try.prog 37 = .func := by kernel_rfl
theorem facts3_8 : und Try.prog 38 = .arr 4 3 := by kernel_rfl
theorem facts3_9 : tk Try.prog 38 = some (true, 4) := by kernel_rfl
theorem facts3_10 : sz Try.prog 38 = some 4 := by kernel_rfl
theorem facts3_11 : nb Try.prog 38 = some 32 := by kernel_rfl
theorem facts3_12 : zeroV Try.prog 38 = some (.agg #[.int .i64 0, .int .i64 0, .int .i64 0, .int .i64 0]) := by kernel_rfl
theorem facts3_13 : buildOk Try.prog 38 = true := by kernel_rfl
theorem facts3_14 : kinds Try.prog 38 = some [.int, .int, .int, .int] := by kernel_rfl
theorem facts3_15 : und Try.prog 39 = .arr 4 3 := by kernel_rfl
theorem facts3_16 : tk Try.prog 39 = some (true, 4) := by kernel_rfl
theorem facts3_17 : sz Try.prog 39 = some 4 := by kernel_rfl
theorem facts3_18 : nb Try.prog 39 = some 32 := by kernel_rfl
theorem facts3_19 : zeroV Try.prog 39 = some (.agg #[.int .i64 0, .int .i64 0, .int .i64 0, .int .i64 0]) := by kernel_rfl
theorem facts3_20 : buildOk Try.prog 39 = true := by kernel_rfl
theorem facts3_21 : kinds Try.prog 39 = some [.int, .int, .int, .int] := by kernel_rfl
theorem facts3_22 : und Try.prog 40 = .struct := by kernel_rfl
theorem facts3_23 : tk Try.prog 40 = some (true, 17) := by kernel_rfl
theorem facts3_24 : sz Try.prog 40 = some 17 := by kernel_rfl
theorem facts3_25 : nb Try.prog 40 = some 136 := by kernel_rfl
theorem facts3_26 : zeroV Try.prog 40 = some (.agg (([.int .i64 0, .int .u16 0, .int .u32 0, .string ByteArray.empty] : List Value) ++ rep 13 (.int .i64 0)).toArray) := by kernel_rfl
theorem facts3_27 : fieldT Try.prog 40 0 = some (0, 3) := by kernel_rfl
theorem facts3_28 : fieldT Try.prog 40 1 = some (1, 26) := by kernel_rfl
theorem facts3_29 : fieldT Try.prog 40 2 = some (3, 9) := by kernel_rfl
theorem facts3_30 : fieldT Try.prog 40 3 = some (4, 2) := by kernel_rfl
theorem facts3_31 : fieldT Try.prog 40 4 = some (5, 39) := by kernel_rfl
theorem facts3_32 : fieldT Try.prog 40 5 = some (9, 39) := by kernel_rfl
theorem facts3_33 : fieldT Try.prog 40 6 = some (13, 39) := by kernel_rfl
theorem facts3_34 : buildOk Try.prog 40 = true := by kernel_rfl
theorem facts3_35 : kinds Try.prog 40 = some [.int, .int, .int, .str, .int, .int, .int, .int, .int, .int, .int, .int, .int, .int, .int, .int, .int] := by kernel_rfl
theorem facts3_36 : und Try.prog 41 = .struct := by kernel_rfl
theorem facts3_37 : tk Try.prog 41 = some (true, 17) := by kernel_rfl
theorem facts3_38 : sz Try.prog 41 = some 17 := by kernel_rfl
theorem facts3_39 : nb Try.prog 41 = some 136 := by kernel_rfl
theorem facts3 : zeroV Try.prog 34 = some (.pointer none) ∧ und Try.prog 35 = .func ∧ und Try.prog 36 = .ptr 86 ∧ tk Try.prog 36 = some (false, 1) ∧ sz Try.prog 36 = some 1 ∧ nb Try.prog 36 = some 8 ∧ zeroV Try.prog 36 = some (.pointer none) ∧ und Try.prog 37 = .func ∧ und Try.prog 38 = .arr 4 3 ∧ tk Try.prog 38 = some (true, 4) ∧ sz Try.prog 38 = some 4 ∧ nb Try.prog 38 = some 32 ∧ zeroV Try.prog 38 = some (.agg #[.int .i64 0, .int .i64 0, .int .i64 0, .int .i64 0]) ∧ buildOk Try.prog 38 = true ∧ kinds Try.prog 38 = some [.int, .int, .int, .int] ∧ und Try.prog 39 = .arr 4 3 ∧ tk Try.prog 39 = some (true, 4) ∧ sz Try.prog 39 = some 4 ∧ nb Try.prog 39 = some 32 ∧ zeroV Try.prog 39 = some (.agg #[.int .i64 0, .int .i64 0, .int .i64 0, .int .i64 0]) ∧ buildOk Try.prog 39 = true ∧ kinds Try.prog 39 = some [.int, .int, .int, .int] ∧ und Try.prog 40 = .struct ∧ tk Try.prog 40 = some (true, 17) ∧ sz Try.prog 40 = some 17 ∧ nb Try.prog 40 = some 136 ∧ zeroV Try.prog 40 = some (.agg (([.int .i64 0, .int .u16 0, .int .u32 0, .string ByteArray.empty] : List Value) ++ rep 13 (.int .i64 0)).toArray) ∧ fieldT Try.prog 40 0 = some (0, 3) ∧ fieldT Try.prog 40 1 = some (1, 26) ∧ fieldT Try.prog 40 2 = some (3, 9) ∧ fieldT Try.prog 40 3 = some (4, 2) ∧ fieldT Try.prog 40 4 = some (5, 39) ∧ fieldT Try.prog 40 5 = some (9, 39) ∧ fieldT Try.prog 40 6 = some (13, 39) ∧ buildOk Try.prog 40 = true ∧ kinds Try.prog 40 = some [.int, .int, .int, .str, .int, .int, .int, .int, .int, .int, .int, .int, .int, .int, .int, .int, .int] ∧ und Try.prog 41 = .struct ∧ tk Try.prog 41 = some (true, 17) ∧ sz Try.prog 41 = some 17 ∧ nb Try.prog 41 = some 136 := ⟨facts3_0, facts3_1, facts3_2, facts3_3, facts3_4, facts3_5, facts3_6, facts3_7, facts3_8, facts3_9, facts3_10, facts3_11, facts3_12, facts3_13, facts3_14, facts3_15, facts3_16, facts3_17, facts3_18, facts3_19, facts3_20, facts3_21, facts3_22, facts3_23, facts3_24, facts3_25, facts3_26, facts3_27, facts3_28, facts3_29, facts3_30, facts3_31, facts3_32, facts3_33, facts3_34, facts3_35, facts3_36, facts3_37, facts3_38, facts3_39⟩
theorem facts4_0 : zeroV Try.prog 41 = some (.agg (([.int .i64 0, .int .u16 0, .int .u32 0, .string ByteArray.empty] : List Value) ++ rep 13 (.int .i64 0)).toArray) := by kernel_rfl
theorem facts4_1 : fieldT Try.prog 41 0 = some (0, 3) := by kernel_rfl
theorem facts4_2 : fieldT Try.prog 41 1 = some (1, 26) := by kernel_rfl
theorem facts4_3 : fieldT Try.prog 41 2 = some (3, 9) := by kernel_rfl
theorem facts4_4 : fieldT Try.prog 41 3 = some (4, 2) := by kernel_rfl
theorem facts4_5 : fieldT Try.prog 41 4 = some (5, 39) := by kernel_rfl
theorem facts4_6 : fieldT Try.prog 41 5 = some (9, 39) := by kernel_rfl
theorem facts4_7 : fieldT Try.prog 41 6 = some (13, 39) := by kernel_rfl
theorem facts4_8 : buildOk Try.prog 41 = true := by kernel_rfl
theorem facts4_9 : kinds Try.prog 41 = some [.int, .int, .int, .str, .int, .int, .int, .int, .int, .int, .int, .int, .int, .int, .int, .int, .int] := by kernel_rfl
theorem facts4_10 : und Try.prog 42 = .struct := by kernel_rfl
theorem facts4_11 : tk Try.prog 42 = some (true, 21) := by kernel_rfl
theorem facts4_12 : sz Try.prog 42 = some 21 := by kernel_rfl
theorem facts4_13 : nb Try.prog 42 = some 144 := by kernel_rfl
theorem facts4_14 : zeroV Try.prog 42 = some (.agg (([.int .u8 0, .int .u8 0, .int .u8 0, .int .u16 0, .int .i64 0, .int .u16 0, .int .u32 0, .string ByteArray.empty] : List Value) ++ rep 13 (.int .i64 0)).toArray) := by kernel_rfl
theorem facts4_15 : fieldT Try.prog 42 0 = some (0, 5) := by kernel_rfl
theorem facts4_16 : fieldT Try.prog 42 1 = some (1, 5) := by kernel_rfl
theorem facts4_17 : fieldT Try.prog 42 2 = some (2, 5) := by kernel_rfl
theorem facts4_18 : fieldT Try.prog 42 3 = some (3, 23) := by kernel_rfl
theorem facts4_19 : fieldT Try.prog 42 4 = some (4, 41) := by kernel_rfl
theorem facts4_20 : buildOk Try.prog 42 = true := by kernel_rfl
theorem facts4_21 : kinds Try.prog 42 = some [.int, .int, .int, .int, .int, .int, .int, .str, .int, .int, .int, .int, .int, .int, .int, .int, .int, .int, .int, .int, .int] := by kernel_rfl
theorem facts4_22 : und Try.prog 43 = .struct := by kernel_rfl
theorem facts4_23 : tk Try.prog 43 = some (true, 21) := by kernel_rfl
theorem facts4_24 : sz Try.prog 43 = some 21 := by kernel_rfl
theorem facts4_25 : nb Try.prog 43 = some 144 := by kernel_rfl
theorem facts4_26 : zeroV Try.prog 43 = some (.agg (([.int .u8 0, .int .u8 0, .int .u8 0, .int .u16 0, .int .i64 0, .int .u16 0, .int .u32 0, .string ByteArray.empty] : List Value) ++ rep 13 (.int .i64 0)).toArray) := by kernel_rfl
theorem facts4_27 : fieldT Try.prog 43 0 = some (0, 5) := by kernel_rfl
theorem facts4_28 : fieldT Try.prog 43 1 = some (1, 5) := by kernel_rfl
theorem facts4_29 : fieldT Try.prog 43 2 = some (2, 5) := by kernel_rfl
theorem facts4_30 : fieldT Try.prog 43 3 = some (3, 23) := by kernel_rfl
theorem facts4_31 : fieldT Try.prog 43 4 = some (4, 41) := by kernel_rfl
theorem facts4_32 : buildOk Try.prog 43 = true := by kernel_rfl
theorem facts4_33 : kinds Try.prog 43 = some [.int, .int, .int, .int, .int, .int, .int, .str, .int, .int, .int, .int, .int, .int, .int, .int, .int, .int, .int, .int, .int] := by kernel_rfl
theorem facts4_34 : und Try.prog 44 = .func := by kernel_rfl
theorem facts4_35 : und Try.prog 45 = .int .i64 := by kernel_rfl
theorem facts4_36 : tk Try.prog 45 = some (false, 1) := by kernel_rfl
theorem facts4_37 : sz Try.prog 45 = some 1 := by kernel_rfl
theorem facts4_38 : nb Try.prog 45 = some 8 := by kernel_rfl
theorem facts4_39 : zeroV Try.prog 45 = some (.int .i64 0) := by kernel_rfl
theorem facts4 : zeroV Try.prog 41 = some (.agg (([.int .i64 0, .int .u16 0, .int .u32 0, .string ByteArray.empty] : List Value) ++ rep 13 (.int .i64 0)).toArray) ∧ fieldT Try.prog 41 0 = some (0, 3) ∧ fieldT Try.prog 41 1 = some (1, 26) ∧ fieldT Try.prog 41 2 = some (3, 9) ∧ fieldT Try.prog 41 3 = some (4, 2) ∧ fieldT Try.prog 41 4 = some (5, 39) ∧ fieldT Try.prog 41 5 = some (9, 39) ∧ fieldT Try.prog 41 6 = some (13, 39) ∧ buildOk Try.prog 41 = true ∧ kinds Try.prog 41 = some [.int, .int, .int, .str, .int, .int, .int, .int, .int, .int, .int, .int, .int, .int, .int, .int, .int] ∧ und Try.prog 42 = .struct ∧ tk Try.prog 42 = some (true, 21) ∧ sz Try.prog 42 = some 21 ∧ nb Try.prog 42 = some 144 ∧ zeroV Try.prog 42 = some (.agg (([.int .u8 0, .int .u8 0, .int .u8 0, .int .u16 0, .int .i64 0, .int .u16 0, .int .u32 0, .string ByteArray.empty] : List Value) ++ rep 13 (.int .i64 0)).toArray) ∧ fieldT Try.prog 42 0 = some (0, 5) ∧ fieldT Try.prog 42 1 = some (1, 5) ∧ fieldT Try.prog 42 2 = some (2, 5) ∧ fieldT Try.prog 42 3 = some (3, 23) ∧ fieldT Try.prog 42 4 = some (4, 41) ∧ buildOk Try.prog 42 = true ∧ kinds Try.prog 42 = some [.int, .int, .int, .int, .int, .int, .int, .str, .int, .int, .int, .int, .int, .int, .int, .int, .int, .int, .int, .int, .int] ∧ und Try.prog 43 = .struct ∧ tk Try.prog 43 = some (true, 21) ∧ sz Try.prog 43 = some 21 ∧ nb Try.prog 43 = some 144 ∧ zeroV Try.prog 43 = some (.agg (([.int .u8 0, .int .u8 0, .int .u8 0, .int .u16 0, .int .i64 0, .int .u16 0, .int .u32 0, .string ByteArray.empty] : List Value) ++ rep 13 (.int .i64 0)).toArray) ∧ fieldT Try.prog 43 0 = some (0, 5) ∧ fieldT Try.prog 43 1 = some (1, 5) ∧ fieldT Try.prog 43 2 = some (2, 5) ∧ fieldT Try.prog 43 3 = some (3, 23) ∧ fieldT Try.prog 43 4 = some (4, 41) ∧ buildOk Try.prog 43 = true ∧ kinds Try.prog 43 = some [.int, .int, .int, .int, .int, .int, .int, .str, .int, .int, .int, .int, .int, .int, .int, .int, .int, .int, .int, .int, .int] ∧ und Try.prog 44 = .func ∧ und Try.prog 45 = .int .i64 ∧ tk Try.prog 45 = some (false, 1) ∧ sz Try.prog 45 = some 1 ∧ nb Try.prog 45 = some 8 ∧ zeroV Try.prog 45 = some (.int .i64 0) := ⟨facts4_0, facts4_1, facts4_2, facts4_3, facts4_4, facts4_5, facts4_6, facts4_7, facts4_8, facts4_9, facts4_10, facts4_11, facts4_12, facts4_13, facts4_14, facts4_15, facts4_16, facts4_17, facts4_18, facts4_19, facts4_20, facts4_21, facts4_22, facts4_23, facts4_24, facts4_25, facts4_26, facts4_27, facts4_28, facts4_29, facts4_30, facts4_31, facts4_32, facts4_33, facts4_34, facts4_35, facts4_36, facts4_37, facts4_38, facts4_39⟩
theorem facts5_0 : und Try.prog 46 = .func := by kernel_rfl
theorem facts5_1 : und Try.prog 47 = .func := by kernel_rfl
theorem facts5_2 : und Try.prog 48 = .func := by kernel_rfl
theorem facts5_3 : und Try.prog 49 = .struct := by kernel_rfl
theorem facts5_4 : tk Try.prog 49 = some (true, 11) := by kernel_rfl
theorem facts5_5 : sz Try.prog 49 = some 11 := by kernel_rfl
theorem facts5_6 : nb Try.prog 49 = some 88 := by kernel_rfl
theorem facts5_7 : zeroV Try.prog 49 = some (.agg #[.int .u16 0, .int .u32 0, .string ByteArray.empty, .int .i64 0, .int .i64 0, .int .i64 0, .int .i64 0, .int .i64 0, .int .i64 0, .int .i64 0, .int .i64 0]) := by kernel_rfl
theorem facts5_8 : fieldT Try.prog 49 0 = some (0, 26) := by kernel_rfl
theorem facts5_9 : fieldT Try.prog 49 1 = some (2, 9) := by kernel_rfl
theorem facts5_10 : fieldT Try.prog 49 2 = some (3, 2) := by kernel_rfl
theorem facts5_11 : fieldT Try.prog 49 3 = some (4, 3) := by kernel_rfl
theorem facts5_12 : fieldT Try.prog 49 4 = some (5, 39) := by kernel_rfl
theorem facts5_13 : fieldT Try.prog 49 5 = some (9, 2) := by kernel_rfl
theorem facts5_14 : fieldT Try.prog 49 6 = some (10, 2) := by kernel_rfl
theorem facts5_15 : buildOk Try.prog 49 = true := by kernel_rfl
theorem facts5_16 : kinds Try.prog 49 = some [.int, .int, .str, .int, .int, .int, .int, .int, .int, .int, .int] := by kernel_rfl
theorem facts5_17 : und Try.prog 50 = .struct := by kernel_rfl
theorem facts5_18 : tk Try.prog 50 = some (true, 11) := by kernel_rfl
theorem facts5_19 : sz Try.prog 50 = some 11 := by kernel_rfl
theorem facts5_20 : nb Try.prog 50 = some 88 := by kernel_rfl
theorem facts5_21 : zeroV Try.prog 50 = some (.agg #[.int .u16 0, .int .u32 0, .string ByteArray.empty, .int .i64 0, .int .i64 0, .int .i64 0, .int .i64 0, .int .i64 0, .int .i64 0, .int .i64 0, .int .i64 0]) := by kernel_rfl
theorem facts5_22 : fieldT Try.prog 50 0 = some (0, 26) := by kernel_rfl
theorem facts5_23 : fieldT Try.prog 50 1 = some (2, 9) := by kernel_rfl
theorem facts5_24 : fieldT Try.prog 50 2 = some (3, 2) := by kernel_rfl
theorem facts5_25 : fieldT Try.prog 50 3 = some (4, 3) := by kernel_rfl
theorem facts5_26 : fieldT Try.prog 50 4 = some (5, 39) := by kernel_rfl
theorem facts5_27 : fieldT Try.prog 50 5 = some (9, 2) := by kernel_rfl
theorem facts5_28 : fieldT Try.prog 50 6 = some (10, 2) := by kernel_rfl
theorem facts5_29 : buildOk Try.prog 50 = true := by kernel_rfl
theorem facts5_30 : kinds Try.prog 50 = some [.int, .int, .str, .int, .int, .int, .int, .int, .int, .int, .int] := by kernel_rfl
theorem facts5_31 : und Try.prog 52 = .func := by kernel_rfl
theorem facts5_32 : und Try.prog 53 = .func := by kernel_rfl
theorem facts5_33 : und Try.prog 54 = .slice 50 := by kernel_rfl
theorem facts5_34 : tk Try.prog 54 = some (false, 1) := by kernel_rfl
theorem facts5_35 : sz Try.prog 54 = some 1 := by kernel_rfl
theorem facts5_36 : nb Try.prog 54 = some 24 := by kernel_rfl
theorem facts5_37 : zeroV Try.prog 54 = some (.slice none 0 0) := by kernel_rfl
theorem facts5_38 : und Try.prog 55 = .func := by kernel_rfl
theorem facts5_39 : und Try.prog 56 = .func := by kernel_rfl
theorem facts5 : und Try.prog 46 = .func ∧ und Try.prog 47 = .func ∧ und Try.prog 48 = .func ∧ und Try.prog 49 = .struct ∧ tk Try.prog 49 = some (true, 11) ∧ sz Try.prog 49 = some 11 ∧ nb Try.prog 49 = some 88 ∧ zeroV Try.prog 49 = some (.agg #[.int .u16 0, .int .u32 0, .string ByteArray.empty, .int .i64 0, .int .i64 0, .int .i64 0, .int .i64 0, .int .i64 0, .int .i64 0, .int .i64 0, .int .i64 0]) ∧ fieldT Try.prog 49 0 = some (0, 26) ∧ fieldT Try.prog 49 1 = some (2, 9) ∧ fieldT Try.prog 49 2 = some (3, 2) ∧ fieldT Try.prog 49 3 = some (4, 3) ∧ fieldT Try.prog 49 4 = some (5, 39) ∧ fieldT Try.prog 49 5 = some (9, 2) ∧ fieldT Try.prog 49 6 = some (10, 2) ∧ buildOk Try.prog 49 = true ∧ kinds Try.prog 49 = some [.int, .int, .str, .int, .int, .int, .int, .int, .int, .int, .int] ∧ und Try.prog 50 = .struct ∧ tk Try.prog 50 = some (true, 11) ∧ sz Try.prog 50 = some 11 ∧ nb Try.prog 50 = some 88 ∧ zeroV Try.prog 50 = some (.agg #[.int .u16 0, .int .u32 0, .string ByteArray.empty, .int .i64 0, .int .i64 0, .int .i64 0, .int .i64 0, .int .i64 0, .int .i64 0, .int .i64 0, .int .i64 0]) ∧ fieldT Try.prog 50 0 = some (0, 26) ∧ fieldT Try.prog 50 1 = some (2, 9) ∧ fieldT Try.prog 50 2 = some (3, 2) ∧ fieldT Try.prog 50 3 = some (4, 3) ∧ fieldT Try.prog 50 4 = some (5, 39) ∧ fieldT Try.prog 50 5 = some (9, 2) ∧ fieldT Try.prog 50 6 = some (10, 2) ∧ buildOk Try.prog 50 = true ∧ kinds Try.prog 50 = some [.int, .int, .str, .int, .int, .int, .int, .int, .int, .int, .int] ∧ und Try.prog 52 = .func ∧ und Try.prog 53 = .func ∧ und Try.prog 54 = .slice 50 ∧ tk Try.prog 54 = some (false, 1) ∧ sz Try.prog 54 = some 1 ∧ nb Try.prog 54 = some 24 ∧ zeroV Try.prog 54 = some (.slice none 0 0) ∧ und Try.prog 55 = .func ∧ und Try.prog 56 = .func := ⟨facts5_0, facts5_1, facts5_2, facts5_3, facts5_4, facts5_5, facts5_6, facts5_7, facts5_8, facts5_9, facts5_10, facts5_11, facts5_12, facts5_13, facts5_14, facts5_15, facts5_16, facts5_17, facts5_18, facts5_19, facts5_20, facts5_21, facts5_22, facts5_23, facts5_24, facts5_25, facts5_26, facts5_27, facts5_28, facts5_29, facts5_30, facts5_31, facts5_32, facts5_33, facts5_34, facts5_35, facts5_36, facts5_37, facts5_38, facts5_39⟩
theorem facts6_0 : und Try.prog 57 = .slice 5 := by kernel_rfl
theorem facts6_1 : tk Try.prog 57 = some (false, 1) := by kernel_rfl
theorem facts6_2 : sz Try.prog 57 = some 1 := by kernel_rfl
theorem facts6_3 : nb Try.prog 57 = some 24 := by kernel_rfl
theorem facts6_4 : zeroV Try.prog 57 = some (.slice none 0 0) := by kernel_rfl
theorem facts6_5 : und Try.prog 58 = .struct := by kernel_rfl
theorem facts6_6 : tk Try.prog 58 = some (true, 4) := by kernel_rfl
theorem facts6_7 : sz Try.prog 58 = some 4 := by kernel_rfl
theorem facts6_8 : nb Try.prog 58 = some 32 := by kernel_rfl
theorem facts6_9 : zeroV Try.prog 58 = some (.agg #[.int .i64 0, .int .i64 0, .int .i64 0, .int .i64 0]) := by kernel_rfl
theorem facts6_10 : fieldT Try.prog 58 0 = some (0, 2) := by kernel_rfl
theorem facts6_11 : fieldT Try.prog 58 1 = some (1, 3) := by kernel_rfl
theorem facts6_12 : fieldT Try.prog 58 2 = some (2, 3) := by kernel_rfl
theorem facts6_13 : fieldT Try.prog 58 3 = some (3, 3) := by kernel_rfl
theorem facts6_14 : buildOk Try.prog 58 = true := by kernel_rfl
theorem facts6_15 : kinds Try.prog 58 = some [.int, .int, .int, .int] := by kernel_rfl
theorem facts6_16 : und Try.prog 59 = .struct := by kernel_rfl
theorem facts6_17 : tk Try.prog 59 = some (true, 4) := by kernel_rfl
theorem facts6_18 : sz Try.prog 59 = some 4 := by kernel_rfl
theorem facts6_19 : nb Try.prog 59 = some 32 := by kernel_rfl
theorem facts6_20 : zeroV Try.prog 59 = some (.agg #[.int .i64 0, .int .i64 0, .int .i64 0, .int .i64 0]) := by kernel_rfl
theorem facts6_21 : fieldT Try.prog 59 0 = some (0, 2) := by kernel_rfl
theorem facts6_22 : fieldT Try.prog 59 1 = some (1, 3) := by kernel_rfl
theorem facts6_23 : fieldT Try.prog 59 2 = some (2, 3) := by kernel_rfl
theorem facts6_24 : fieldT Try.prog 59 3 = some (3, 3) := by kernel_rfl
theorem facts6_25 : buildOk Try.prog 59 = true := by kernel_rfl
theorem facts6_26 : kinds Try.prog 59 = some [.int, .int, .int, .int] := by kernel_rfl
theorem facts6_27 : und Try.prog 60 = .arr 4 59 := by kernel_rfl
theorem facts6_28 : tk Try.prog 60 = some (true, 16) := by kernel_rfl
theorem facts6_29 : sz Try.prog 60 = some 16 := by kernel_rfl
theorem facts6_30 : nb Try.prog 60 = some 128 := by kernel_rfl
theorem facts6_31 : zeroV Try.prog 60 = some (.agg (rep 16 (.int .i64 0)).toArray) := by kernel_rfl
theorem facts6_32 : buildOk Try.prog 60 = true := by kernel_rfl
theorem facts6_33 : kinds Try.prog 60 = some [.int, .int, .int, .int, .int, .int, .int, .int, .int, .int, .int, .int, .int, .int, .int, .int] := by kernel_rfl
theorem facts6_34 : und Try.prog 62 = .func := by kernel_rfl
theorem facts6_35 : und Try.prog 63 = .func := by kernel_rfl
theorem facts6_36 : und Try.prog 64 = .func := by kernel_rfl
theorem facts6_37 : und Try.prog 65 = .func := by kernel_rfl
theorem facts6_38 : und Try.prog 66 = .func := by kernel_rfl
theorem facts6_39 : und Try.prog 67 = .func := by kernel_rfl
theorem facts6 : und Try.prog 57 = .slice 5 ∧ tk Try.prog 57 = some (false, 1) ∧ sz Try.prog 57 = some 1 ∧ nb Try.prog 57 = some 24 ∧ zeroV Try.prog 57 = some (.slice none 0 0) ∧ und Try.prog 58 = .struct ∧ tk Try.prog 58 = some (true, 4) ∧ sz Try.prog 58 = some 4 ∧ nb Try.prog 58 = some 32 ∧ zeroV Try.prog 58 = some (.agg #[.int .i64 0, .int .i64 0, .int .i64 0, .int .i64 0]) ∧ fieldT Try.prog 58 0 = some (0, 2) ∧ fieldT Try.prog 58 1 = some (1, 3) ∧ fieldT Try.prog 58 2 = some (2, 3) ∧ fieldT Try.prog 58 3 = some (3, 3) ∧ buildOk Try.prog 58 = true ∧ kinds Try.prog 58 = some [.int, .int, .int, .int] ∧ und Try.prog 59 = .struct ∧ tk Try.prog 59 = some (true, 4) ∧ sz Try.prog 59 = some 4 ∧ nb Try.prog 59 = some 32 ∧ zeroV Try.prog 59 = some (.agg #[.int .i64 0, .int .i64 0, .int .i64 0, .int .i64 0]) ∧ fieldT Try.prog 59 0 = some (0, 2) ∧ fieldT Try.prog 59 1 = some (1, 3) ∧ fieldT Try.prog 59 2 = some (2, 3) ∧ fieldT Try.prog 59 3 = some (3, 3) ∧ buildOk Try.prog 59 = true ∧ kinds Try.prog 59 = some [.int, .int, .int, .int] ∧ und Try.prog 60 = .arr 4 59 ∧ tk Try.prog 60 = some (true, 16) ∧ sz Try.prog 60 = some 16 ∧ nb Try.prog 60 = some 128 ∧ zeroV Try.prog 60 = some (.agg (rep 16 (.int .i64 0)).toArray) ∧ buildOk Try.prog 60 = true ∧ kinds Try.prog 60 = some [.int, .int, .int, .int, .int, .int, .int, .int, .int, .int, .int, .int, .int, .int, .int, .int] ∧ und Try.prog 62 = .func ∧ und Try.prog 63 = .func ∧ und Try.prog 64 = .func ∧ und Try.prog 65 = .func ∧ und Try.prog 66 = .func ∧ und Try.prog 67 = .func := ⟨facts6_0, facts6_1, facts6_2, facts6_3, facts6_4, facts6_5, facts6_6, facts6_7, facts6_8, facts6_9, facts6_10, facts6_11, facts6_12, facts6_13, facts6_14, facts6_15, facts6_16, facts6_17, facts6_18, facts6_19, facts6_20, facts6_21, facts6_22, facts6_23, facts6_24, facts6_25, facts6_26, facts6_27, facts6_28, facts6_29, facts6_30, facts6_31, facts6_32, facts6_33, facts6_34, facts6_35, facts6_36, facts6_37, facts6_38, facts6_39⟩
theorem facts7_0 : und Try.prog 68 = .func := by kernel_rfl
theorem facts7_1 : und Try.prog 69 = .func := by kernel_rfl
theorem facts7_2 : und Try.prog 70 = .func := by kernel_rfl
theorem facts7_3 : und Try.prog 71 = .func := by kernel_rfl
theorem facts7_4 : und Try.prog 72 = .map 26 50 := by kernel_rfl
theorem facts7_5 : tk Try.prog 72 = some (false, 1) := by kernel_rfl
theorem facts7_6 : sz Try.prog 72 = some 1 := by kernel_rfl
theorem facts7_7 : nb Try.prog 72 = some 8 := by kernel_rfl
theorem facts7_8 : zeroV Try.prog 72 = some (.map none) := by kernel_rfl
theorem facts7_9 : und Try.prog 73 = .slice 82 := by kernel_rfl
theorem facts7_10 : tk Try.prog 73 = some (false, 1) := by kernel_rfl
theorem facts7_11 : sz Try.prog 73 = some 1 := by kernel_rfl
theorem facts7_12 : nb Try.prog 73 = some 24 := by kernel_rfl
theorem facts7_13 : zeroV Try.prog 73 = some (.slice none 0 0) := by kernel_rfl
theorem facts7_14 : und Try.prog 74 = .struct := by kernel_rfl
theorem facts7_15 : tk Try.prog 74 = some (true, 3) := by kernel_rfl
theorem facts7_16 : sz Try.prog 74 = some 3 := by kernel_rfl
theorem facts7_17 : nb Try.prog 74 = some 56 := by kernel_rfl
theorem facts7_18 : zeroV Try.prog 74 = some (.agg #[.slice none 0 0, .slice none 0 0, .map none]) := by kernel_rfl
theorem facts7_19 : fieldT Try.prog 74 0 = some (0, 73) := by kernel_rfl
theorem facts7_20 : fieldT Try.prog 74 1 = some (1, 73) := by kernel_rfl
theorem facts7_21 : fieldT Try.prog 74 2 = some (2, 72) := by kernel_rfl
theorem facts7_22 : buildOk Try.prog 74 = true := by kernel_rfl
theorem facts7_23 : und Try.prog 75 = .struct := by kernel_rfl
theorem facts7_24 : tk Try.prog 75 = some (true, 3) := by kernel_rfl
theorem facts7_25 : sz Try.prog 75 = some 3 := by kernel_rfl
theorem facts7_26 : nb Try.prog 75 = some 56 := by kernel_rfl
theorem facts7_27 : zeroV Try.prog 75 = some (.agg #[.slice none 0 0, .slice none 0 0, .map none]) := by kernel_rfl
theorem facts7_28 : fieldT Try.prog 75 0 = some (0, 73) := by kernel_rfl
theorem facts7_29 : fieldT Try.prog 75 1 = some (1, 73) := by kernel_rfl
theorem facts7_30 : fieldT Try.prog 75 2 = some (2, 72) := by kernel_rfl
theorem facts7_31 : buildOk Try.prog 75 = true := by kernel_rfl
theorem facts7_32 : und Try.prog 76 = .func := by kernel_rfl
theorem facts7_33 : und Try.prog 77 = .struct := by kernel_rfl
theorem facts7_34 : tk Try.prog 77 = some (true, 16) := by kernel_rfl
theorem facts7_35 : sz Try.prog 77 = some 16 := by kernel_rfl
theorem facts7_36 : nb Try.prog 77 = some 128 := by kernel_rfl
theorem facts7_37 : zeroV Try.prog 77 = some (.agg (rep 16 (.int .i64 0)).toArray) := by kernel_rfl
theorem facts7_38 : fieldT Try.prog 77 0 = some (0, 60) := by kernel_rfl
theorem facts7_39 : buildOk Try.prog 77 = true := by kernel_rfl
theorem facts7 : und Try.prog 68 = .func ∧ und Try.prog 69 = .func ∧ und Try.prog 70 = .func ∧ und Try.prog 71 = .func ∧ und Try.prog 72 = .map 26 50 ∧ tk Try.prog 72 = some (false, 1) ∧ sz Try.prog 72 = some 1 ∧ nb Try.prog 72 = some 8 ∧ zeroV Try.prog 72 = some (.map none) ∧ und Try.prog 73 = .slice 82 ∧ tk Try.prog 73 = some (false, 1) ∧ sz Try.prog 73 = some 1 ∧ nb Try.prog 73 = some 24 ∧ zeroV Try.prog 73 = some (.slice none 0 0) ∧ und Try.prog 74 = .struct ∧ tk Try.prog 74 = some (true, 3) ∧ sz Try.prog 74 = some 3 ∧ nb Try.prog 74 = some 56 ∧ zeroV Try.prog 74 = some (.agg #[.slice none 0 0, .slice none 0 0, .map none]) ∧ fieldT Try.prog 74 0 = some (0, 73) ∧ fieldT Try.prog 74 1 = some (1, 73) ∧ fieldT Try.prog 74 2 = some (2, 72) ∧ buildOk Try.prog 74 = true ∧ und Try.prog 75 = .struct ∧ tk Try.prog 75 = some (true, 3) ∧ sz Try.prog 75 = some 3 ∧ nb Try.prog 75 = some 56 ∧ zeroV Try.prog 75 = some (.agg #[.slice none 0 0, .slice none 0 0, .map none]) ∧ fieldT Try.prog 75 0 = some (0, 73) ∧ fieldT Try.prog 75 1 = some (1, 73) ∧ fieldT Try.prog 75 2 = some (2, 72) ∧ buildOk Try.prog 75 = true ∧ und Try.prog 76 = .func ∧ und Try.prog 77 = .struct ∧ tk Try.prog 77 = some (true, 16) ∧ sz Try.prog 77 = some 16 ∧ nb Try.prog 77 = some 128 ∧ zeroV Try.prog 77 = some (.agg (rep 16 (.int .i64 0)).toArray) ∧ fieldT Try.prog 77 0 = some (0, 60) ∧ buildOk Try.prog 77 = true := ⟨facts7_0, facts7_1, facts7_2, facts7_3, facts7_4, facts7_5, facts7_6, facts7_7, facts7_8, facts7_9, facts7_10, facts7_11, facts7_12, facts7_13, facts7_14, facts7_15, facts7_16, facts7_17, facts7_18, facts7_19, facts7_20, facts7_21, facts7_22, facts7_23, facts7_24, facts7_25, facts7_26, facts7_27, facts7_28, facts7_29, facts7_30, facts7_31, facts7_32, facts7_33, facts7_34, facts7_35, facts7_36, facts7_37, facts7_38, facts7_39⟩
theorem facts8_0 : kinds Try.prog 77 = some [.int, .int, .int, .int, .int, .int, .int, .int, .int, .int, .int, .int, .int, .int, .int, .int] := by kernel_rfl
theorem facts8_1 : und Try.prog 78 = .struct := by kernel_rfl
theorem facts8_2 : tk Try.prog 78 = some (true, 16) := by kernel_rfl
theorem facts8_3 : sz Try.prog 78 = some 16 := by kernel_rfl
theorem facts8_4 : nb Try.prog 78 = some 128 := by kernel_rfl
theorem facts8_5 : zeroV Try.prog 78 = some (.agg (rep 16 (.int .i64 0)).toArray) := by kernel_rfl
theorem facts8_6 : fieldT Try.prog 78 0 = some (0, 60) := by kernel_rfl
theorem facts8_7 : buildOk Try.prog 78 = true := by kernel_rfl
theorem facts8_8 : kinds Try.prog 78 = some [.int, .int, .int, .int, .int, .int, .int, .int, .int, .int, .int, .int, .int, .int, .int, .int] := by kernel_rfl
theorem facts8_9 : und Try.prog 79 = .ptr 78 := by kernel_rfl
theorem facts8_10 : tk Try.prog 79 = some (false, 1) := by kernel_rfl
theorem facts8_11 : sz Try.prog 79 = some 1 := by kernel_rfl
theorem facts8_12 : nb Try.prog 79 = some 8 := by kernel_rfl
theorem facts8_13 : zeroV Try.prog 79 = some (.pointer none) := by kernel_rfl
theorem facts8_14 : und Try.prog 80 = .func := by kernel_rfl
theorem facts8_15 : und Try.prog 81 = .struct := by kernel_rfl
theorem facts8_16 : tk Try.prog 81 = some (true, 18) := by kernel_rfl
theorem facts8_17 : sz Try.prog 81 = some 18 := by kernel_rfl
theorem facts8_18 : nb Try.prog 81 = some 144 := by kernel_rfl
theorem facts8_19 : zeroV Try.prog 81 = some (.agg (rep 16 (.int .i64 0) ++ ([.bool false, .int .i64 0] : List Value)).toArray) := by kernel_rfl
theorem facts8_20 : fieldT Try.prog 81 0 = some (0, 78) := by kernel_rfl
theorem facts8_21 : fieldT Try.prog 81 1 = some (16, 4) := by kernel_rfl
theorem facts8_22 : fieldT Try.prog 81 2 = some (17, 3) := by kernel_rfl
theorem facts8_23 : buildOk Try.prog 81 = true := by kernel_rfl
theorem facts8_24 : kinds Try.prog 81 = some [.int, .int, .int, .int, .int, .int, .int, .int, .int, .int, .int, .int, .int, .int, .int, .int, .bool, .int] := by kernel_rfl
theorem facts8_25 : und Try.prog 82 = .struct := by kernel_rfl
theorem facts8_26 : tk Try.prog 82 = some (true, 18) := by kernel_rfl
theorem facts8_27 : sz Try.prog 82 = some 18 := by kernel_rfl
theorem facts8_28 : nb Try.prog 82 = some 144 := by kernel_rfl
theorem facts8_29 : zeroV Try.prog 82 = some (.agg (rep 16 (.int .i64 0) ++ ([.bool false, .int .i64 0] : List Value)).toArray) := by kernel_rfl
theorem facts8_30 : fieldT Try.prog 82 0 = some (0, 78) := by kernel_rfl
theorem facts8_31 : fieldT Try.prog 82 1 = some (16, 4) := by kernel_rfl
theorem facts8_32 : fieldT Try.prog 82 2 = some (17, 3) := by kernel_rfl
theorem facts8_33 : buildOk Try.prog 82 = true := by kernel_rfl
theorem facts8_34 : kinds Try.prog 82 = some [.int, .int, .int, .int, .int, .int, .int, .int, .int, .int, .int, .int, .int, .int, .int, .int, .bool, .int] := by kernel_rfl
theorem facts8_35 : und Try.prog 83 = .func := by kernel_rfl
theorem facts8_36 : und Try.prog 84 = .slice 90 := by kernel_rfl
theorem facts8_37 : tk Try.prog 84 = some (false, 1) := by kernel_rfl
theorem facts8_38 : sz Try.prog 84 = some 1 := by kernel_rfl
theorem facts8_39 : nb Try.prog 84 = some 24 := by kernel_rfl
theorem facts8 : kinds Try.prog 77 = some [.int, .int, .int, .int, .int, .int, .int, .int, .int, .int, .int, .int, .int, .int, .int, .int] ∧ und Try.prog 78 = .struct ∧ tk Try.prog 78 = some (true, 16) ∧ sz Try.prog 78 = some 16 ∧ nb Try.prog 78 = some 128 ∧ zeroV Try.prog 78 = some (.agg (rep 16 (.int .i64 0)).toArray) ∧ fieldT Try.prog 78 0 = some (0, 60) ∧ buildOk Try.prog 78 = true ∧ kinds Try.prog 78 = some [.int, .int, .int, .int, .int, .int, .int, .int, .int, .int, .int, .int, .int, .int, .int, .int] ∧ und Try.prog 79 = .ptr 78 ∧ tk Try.prog 79 = some (false, 1) ∧ sz Try.prog 79 = some 1 ∧ nb Try.prog 79 = some 8 ∧ zeroV Try.prog 79 = some (.pointer none) ∧ und Try.prog 80 = .func ∧ und Try.prog 81 = .struct ∧ tk Try.prog 81 = some (true, 18) ∧ sz Try.prog 81 = some 18 ∧ nb Try.prog 81 = some 144 ∧ zeroV Try.prog 81 = some (.agg (rep 16 (.int .i64 0) ++ ([.bool false, .int .i64 0] : List Value)).toArray) ∧ fieldT Try.prog 81 0 = some (0, 78) ∧ fieldT Try.prog 81 1 = some (16, 4) ∧ fieldT Try.prog 81 2 = some (17, 3) ∧ buildOk Try.prog 81 = true ∧ kinds Try.prog 81 = some [.int, .int, .int, .int, .int, .int, .int, .int, .int, .int, .int, .int, .int, .int, .int, .int, .bool, .int] ∧ und Try.prog 82 = .struct ∧ tk Try.prog 82 = some (true, 18) ∧ sz Try.prog 82 = some 18 ∧ nb Try.prog 82 = some 144 ∧ zeroV Try.prog 82 = some (.agg (rep 16 (.int .i64 0) ++ ([.bool false, .int .i64 0] : List Value)).toArray) ∧ fieldT Try.prog 82 0 = some (0, 78) ∧ fieldT Try.prog 82 1 = some (16, 4) ∧ fieldT Try.prog 82 2 = some (17, 3) ∧ buildOk Try.prog 82 = true ∧ kinds Try.prog 82 = some [.int, .int, .int, .int, .int, .int, .int, .int, .int, .int, .int, .int, .int, .int, .int, .int, .bool, .int] ∧ und Try.prog 83 = .func ∧ und Try.prog 84 = .slice 90 ∧ tk Try.prog 84 = some (false, 1) ∧ sz Try.prog 84 = some 1 ∧ nb Try.prog 84 = some 24 := ⟨facts8_0, facts8_1, facts8_2, facts8_3, facts8_4, facts8_5, facts8_6, facts8_7, facts8_8, facts8_9, facts8_10, facts8_11, facts8_12, facts8_13, facts8_14, facts8_15, facts8_16, facts8_17, facts8_18, facts8_19, facts8_20, facts8_21, facts8_22, facts8_23, facts8_24, facts8_25, facts8_26, facts8_27, facts8_28, facts8_29, facts8_30, facts8_31, facts8_32, facts8_33, facts8_34, facts8_35, facts8_36, facts8_37, facts8_38, facts8_39⟩
theorem facts9_0 : zeroV Try.prog 84 = some (.slice none 0 0) := by kernel_rfl
theorem facts9_1 : und Try.prog 85 = .struct := by kernel_rfl
theorem facts9_2 : tk Try.prog 85 = some (true, 2) := by kernel_rfl
theorem facts9_3 : sz Try.prog 85 = some 2 := by kernel_rfl
theorem facts9_4 : nb Try.prog 85 = some 48 := by kernel_rfl
theorem facts9_5 : zeroV Try.prog 85 = some (.agg #[.slice none 0 0, .slice none 0 0]) := by kernel_rfl
theorem facts9_6 : fieldT Try.prog 85 0 = some (0, 84) := by kernel_rfl
theorem facts9_7 : fieldT Try.prog 85 1 = some (1, 54) := by kernel_rfl
theorem facts9_8 : buildOk Try.prog 85 = true := by kernel_rfl
theorem facts9_9 : und Try.prog 86 = .struct := by kernel_rfl
theorem facts9_10 : tk Try.prog 86 = some (true, 2) := by kernel_rfl
theorem facts9_11 : sz Try.prog 86 = some 2 := by kernel_rfl
theorem facts9_12 : nb Try.prog 86 = some 48 := by kernel_rfl
theorem facts9_13 : zeroV Try.prog 86 = some (.agg #[.slice none 0 0, .slice none 0 0]) := by kernel_rfl
theorem facts9_14 : fieldT Try.prog 86 0 = some (0, 84) := by kernel_rfl
theorem facts9_15 : fieldT Try.prog 86 1 = some (1, 54) := by kernel_rfl
theorem facts9_16 : buildOk Try.prog 86 = true := by kernel_rfl
theorem facts9_17 : und Try.prog 87 = .ptr 97 := by kernel_rfl
theorem facts9_18 : tk Try.prog 87 = some (false, 1) := by kernel_rfl
theorem facts9_19 : sz Try.prog 87 = some 1 := by kernel_rfl
theorem facts9_20 : nb Try.prog 87 = some 8 := by kernel_rfl
theorem facts9_21 : zeroV Try.prog 87 = some (.pointer none) := by kernel_rfl
theorem facts9_22 : und Try.prog 88 = .func := by kernel_rfl
theorem facts9_23 : und Try.prog 89 = .struct := by kernel_rfl
theorem facts9_24 : tk Try.prog 89 = some (true, 3) := by kernel_rfl
theorem facts9_25 : sz Try.prog 89 = some 3 := by kernel_rfl
theorem facts9_26 : nb Try.prog 89 = some 24 := by kernel_rfl
theorem facts9_27 : zeroV Try.prog 89 = some (.agg #[.pointer none, .bool false, .int .i64 0]) := by kernel_rfl
theorem facts9_28 : fieldT Try.prog 89 0 = some (0, 87) := by kernel_rfl
theorem facts9_29 : fieldT Try.prog 89 1 = some (1, 4) := by kernel_rfl
theorem facts9_30 : fieldT Try.prog 89 2 = some (2, 3) := by kernel_rfl
theorem facts9_31 : buildOk Try.prog 89 = true := by kernel_rfl
theorem facts9_32 : und Try.prog 90 = .struct := by kernel_rfl
theorem facts9_33 : tk Try.prog 90 = some (true, 3) := by kernel_rfl
theorem facts9_34 : sz Try.prog 90 = some 3 := by kernel_rfl
theorem facts9_35 : nb Try.prog 90 = some 24 := by kernel_rfl
theorem facts9_36 : zeroV Try.prog 90 = some (.agg #[.pointer none, .bool false, .int .i64 0]) := by kernel_rfl
theorem facts9_37 : fieldT Try.prog 90 0 = some (0, 87) := by kernel_rfl
theorem facts9_38 : fieldT Try.prog 90 1 = some (1, 4) := by kernel_rfl
theorem facts9_39 : fieldT Try.prog 90 2 = some (2, 3) := by kernel_rfl
theorem facts9 : zeroV Try.prog 84 = some (.slice none 0 0) ∧ und Try.prog 85 = .struct ∧ tk Try.prog 85 = some (true, 2) ∧ sz Try.prog 85 = some 2 ∧ nb Try.prog 85 = some 48 ∧ zeroV Try.prog 85 = some (.agg #[.slice none 0 0, .slice none 0 0]) ∧ fieldT Try.prog 85 0 = some (0, 84) ∧ fieldT Try.prog 85 1 = some (1, 54) ∧ buildOk Try.prog 85 = true ∧ und Try.prog 86 = .struct ∧ tk Try.prog 86 = some (true, 2) ∧ sz Try.prog 86 = some 2 ∧ nb Try.prog 86 = some 48 ∧ zeroV Try.prog 86 = some (.agg #[.slice none 0 0, .slice none 0 0]) ∧ fieldT Try.prog 86 0 = some (0, 84) ∧ fieldT Try.prog 86 1 = some (1, 54) ∧ buildOk Try.prog 86 = true ∧ und Try.prog 87 = .ptr 97 ∧ tk Try.prog 87 = some (false, 1) ∧ sz Try.prog 87 = some 1 ∧ nb Try.prog 87 = some 8 ∧ zeroV Try.prog 87 = some (.pointer none) ∧ und Try.prog 88 = .func ∧ und Try.prog 89 = .struct ∧ tk Try.prog 89 = some (true, 3) ∧ sz Try.prog 89 = some 3 ∧ nb Try.prog 89 = some 24 ∧ zeroV Try.prog 89 = some (.agg #[.pointer none, .bool false, .int .i64 0]) ∧ fieldT Try.prog 89 0 = some (0, 87) ∧ fieldT Try.prog 89 1 = some (1, 4) ∧ fieldT Try.prog 89 2 = some (2, 3) ∧ buildOk Try.prog 89 = true ∧ und Try.prog 90 = .struct ∧ tk Try.prog 90 = some (true, 3) ∧ sz Try.prog 90 = some 3 ∧ nb Try.prog 90 = some 24 ∧ zeroV Try.prog 90 = some (.agg #[.pointer none, .bool false, .int .i64 0]) ∧ fieldT Try.prog 90 0 = some (0, 87) ∧ fieldT Try.prog 90 1 = some (1, 4) ∧ fieldT Try.prog 90 2 = some (2, 3) := ⟨facts9_0, facts9_1, facts9_2, facts9_3, facts9_4, facts9_5, facts9_6, facts9_7, facts9_8, facts9_9, facts9_10, facts9_11, facts9_12, facts9_13, facts9_14, facts9_15, facts9_16, facts9_17, facts9_18, facts9_19, facts9_20, facts9_21, facts9_22, facts9_23, facts9_24, facts9_25, facts9_26, facts9_27, facts9_28, facts9_29, facts9_30, facts9_31, facts9_32, facts9_33, facts9_34, facts9_35, facts9_36, facts9_37, facts9_38, facts9_39⟩
theorem facts10_0 : buildOk Try.prog 90 = true := by kernel_rfl
theorem facts10_1 : und Try.prog 91 = .func := by kernel_rfl
theorem facts10_2 : und Try.prog 92 = .func := by kernel_rfl
theorem facts10_3 : und Try.prog 93 = .func := by kernel_rfl
theorem facts10_4 : und Try.prog 94 = .func := by kernel_rfl
theorem facts10_5 : und Try.prog 95 = .ptr 90 := by kernel_rfl
theorem facts10_6 : tk Try.prog 95 = some (false, 1) := by kernel_rfl
theorem facts10_7 : sz Try.prog 95 = some 1 := by kernel_rfl
theorem facts10_8 : nb Try.prog 95 = some 8 := by kernel_rfl
theorem facts10_9 : zeroV Try.prog 95 = some (.pointer none) := by kernel_rfl
theorem facts10_10 : und Try.prog 96 = .struct := by kernel_rfl
theorem facts10_11 : tk Try.prog 96 = some (true, 16) := by kernel_rfl
theorem facts10_12 : sz Try.prog 96 = some 16 := by kernel_rfl
theorem facts10_13 : nb Try.prog 96 = some 128 := by kernel_rfl
theorem facts10_14 : zeroV Try.prog 96 = some (.agg (rep 16 (.int .i64 0)).toArray) := by kernel_rfl
theorem facts10_15 : fieldT Try.prog 96 0 = some (0, 60) := by kernel_rfl
theorem facts10_16 : buildOk Try.prog 96 = true := by kernel_rfl
theorem facts10_17 : kinds Try.prog 96 = some [.int, .int, .int, .int, .int, .int, .int, .int, .int, .int, .int, .int, .int, .int, .int, .int] := by kernel_rfl
theorem facts10_18 : und Try.prog 97 = .struct := by kernel_rfl
theorem facts10_19 : tk Try.prog 97 = some (true, 16) := by kernel_rfl
theorem facts10_20 : sz Try.prog 97 = some 16 := by kernel_rfl
theorem facts10_21 : nb Try.prog 97 = some 128 := by kernel_rfl
theorem facts10_22 : zeroV Try.prog 97 = some (.agg (rep 16 (.int .i64 0)).toArray) := by kernel_rfl
theorem facts10_23 : fieldT Try.prog 97 0 = some (0, 60) := by kernel_rfl
theorem facts10_24 : buildOk Try.prog 97 = true := by kernel_rfl
theorem facts10_25 : kinds Try.prog 97 = some [.int, .int, .int, .int, .int, .int, .int, .int, .int, .int, .int, .int, .int, .int, .int, .int] := by kernel_rfl
theorem facts10_26 : und Try.prog 98 = .func := by kernel_rfl
theorem facts10_27 : und Try.prog 99 = .func := by kernel_rfl
theorem facts10_28 : und Try.prog 101 = .func := by kernel_rfl
theorem facts10_29 : und Try.prog 103 = .func := by kernel_rfl
theorem facts10_30 : und Try.prog 104 = .func := by kernel_rfl
theorem facts10_31 : und Try.prog 105 = .slice 26 := by kernel_rfl
theorem facts10_32 : tk Try.prog 105 = some (false, 1) := by kernel_rfl
theorem facts10_33 : sz Try.prog 105 = some 1 := by kernel_rfl
theorem facts10_34 : nb Try.prog 105 = some 24 := by kernel_rfl
theorem facts10_35 : zeroV Try.prog 105 = some (.slice none 0 0) := by kernel_rfl
theorem facts10_36 : und Try.prog 106 = .func := by kernel_rfl
theorem facts10_37 : und Try.prog 107 = .func := by kernel_rfl
theorem facts10_38 : und Try.prog 108 = .func := by kernel_rfl
theorem facts10_39 : und Try.prog 109 = .func := by kernel_rfl
theorem facts10 : buildOk Try.prog 90 = true ∧ und Try.prog 91 = .func ∧ und Try.prog 92 = .func ∧ und Try.prog 93 = .func ∧ und Try.prog 94 = .func ∧ und Try.prog 95 = .ptr 90 ∧ tk Try.prog 95 = some (false, 1) ∧ sz Try.prog 95 = some 1 ∧ nb Try.prog 95 = some 8 ∧ zeroV Try.prog 95 = some (.pointer none) ∧ und Try.prog 96 = .struct ∧ tk Try.prog 96 = some (true, 16) ∧ sz Try.prog 96 = some 16 ∧ nb Try.prog 96 = some 128 ∧ zeroV Try.prog 96 = some (.agg (rep 16 (.int .i64 0)).toArray) ∧ fieldT Try.prog 96 0 = some (0, 60) ∧ buildOk Try.prog 96 = true ∧ kinds Try.prog 96 = some [.int, .int, .int, .int, .int, .int, .int, .int, .int, .int, .int, .int, .int, .int, .int, .int] ∧ und Try.prog 97 = .struct ∧ tk Try.prog 97 = some (true, 16) ∧ sz Try.prog 97 = some 16 ∧ nb Try.prog 97 = some 128 ∧ zeroV Try.prog 97 = some (.agg (rep 16 (.int .i64 0)).toArray) ∧ fieldT Try.prog 97 0 = some (0, 60) ∧ buildOk Try.prog 97 = true ∧ kinds Try.prog 97 = some [.int, .int, .int, .int, .int, .int, .int, .int, .int, .int, .int, .int, .int, .int, .int, .int] ∧ und Try.prog 98 = .func ∧ und Try.prog 99 = .func ∧ und Try.prog 101 = .func ∧ und Try.prog 103 = .func ∧ und Try.prog 104 = .func ∧ und Try.prog 105 = .slice 26 ∧ tk Try.prog 105 = some (false, 1) ∧ sz Try.prog 105 = some 1 ∧ nb Try.prog 105 = some 24 ∧ zeroV Try.prog 105 = some (.slice none 0 0) ∧ und Try.prog 106 = .func ∧ und Try.prog 107 = .func ∧ und Try.prog 108 = .func ∧ und Try.prog 109 = .func := ⟨facts10_0, facts10_1, facts10_2, facts10_3, facts10_4, facts10_5, facts10_6, facts10_7, facts10_8, facts10_9, facts10_10, facts10_11, facts10_12, facts10_13, facts10_14, facts10_15, facts10_16, facts10_17, facts10_18, facts10_19, facts10_20, facts10_21, facts10_22, facts10_23, facts10_24, facts10_25, facts10_26, facts10_27, facts10_28, facts10_29, facts10_30, facts10_31, facts10_32, facts10_33, facts10_34, facts10_35, facts10_36, facts10_37, facts10_38, facts10_39⟩
theorem facts11_0 : und Try.prog 110 = .func := by kernel_rfl
theorem facts11_1 : und Try.prog 111 = .func := by kernel_rfl
theorem facts11_2 : und Try.prog 112 = .func := by kernel_rfl
theorem facts11_3 : und Try.prog 113 = .func := by kernel_rfl
theorem facts11_4 : und Try.prog 114 = .func := by kernel_rfl
theorem facts11_5 : und Try.prog 115 = .arr 4 2 := by kernel_rfl
theorem facts11_6 : tk Try.prog 115 = some (true, 4) := by kernel_rfl
theorem facts11_7 : sz Try.prog 115 = some 4 := by kernel_rfl
theorem facts11_8 : nb Try.prog 115 = some 32 := by kernel_rfl
theorem facts11_9 : zeroV Try.prog 115 = some (.agg #[.int .i64 0, .int .i64 0, .int .i64 0, .int .i64 0]) := by kernel_rfl
theorem facts11_10 : buildOk Try.prog 115 = true := by kernel_rfl
theorem facts11_11 : kinds Try.prog 115 = some [.int, .int, .int, .int] := by kernel_rfl
theorem facts11_12 : und Try.prog 116 = .slice 115 := by kernel_rfl
theorem facts11_13 : tk Try.prog 116 = some (false, 1) := by kernel_rfl
theorem facts11_14 : sz Try.prog 116 = some 1 := by kernel_rfl
theorem facts11_15 : nb Try.prog 116 = some 24 := by kernel_rfl
theorem facts11_16 : zeroV Try.prog 116 = some (.slice none 0 0) := by kernel_rfl
theorem facts11_17 : und Try.prog 117 = .slice 3 := by kernel_rfl
theorem facts11_18 : tk Try.prog 117 = some (false, 1) := by kernel_rfl
theorem facts11_19 : sz Try.prog 117 = some 1 := by kernel_rfl
theorem facts11_20 : nb Try.prog 117 = some 24 := by kernel_rfl
theorem facts11_21 : zeroV Try.prog 117 = some (.slice none 0 0) := by kernel_rfl
theorem facts11_22 : und Try.prog 118 = .func := by kernel_rfl
theorem facts11_23 : und Try.prog 119 = .map 9 4 := by kernel_rfl
theorem facts11_24 : tk Try.prog 119 = some (false, 1) := by kernel_rfl
theorem facts11_25 : sz Try.prog 119 = some 1 := by kernel_rfl
theorem facts11_26 : nb Try.prog 119 = some 8 := by kernel_rfl
theorem facts11_27 : zeroV Try.prog 119 = some (.map none) := by kernel_rfl
theorem facts11_28 : und Try.prog 120 = .func := by kernel_rfl
theorem facts11_29 : und Try.prog 121 = .func := by kernel_rfl
theorem facts11_30 : und Try.prog 122 = .func := by kernel_rfl
theorem facts11_31 : und Try.prog 124 = .func := by kernel_rfl
theorem facts11_32 : und Try.prog 125 = .func := by kernel_rfl
theorem facts11_33 : und Try.prog 126 = .func := by kernel_rfl
theorem facts11_34 : und Try.prog 127 = .func := by kernel_rfl
theorem facts11_35 : und Try.prog 128 = .func := by kernel_rfl
theorem facts11_36 : und Try.prog 129 = .func := by kernel_rfl
theorem facts11_37 : und Try.prog 130 = .func := by kernel_rfl
theorem facts11_38 : und Try.prog 131 = .func := by kernel_rfl
theorem facts11_39 : und Try.prog 132 = .func := by kernel_rfl
theorem facts11 : und Try.prog 110 = .func ∧ und Try.prog 111 = .func ∧ und Try.prog 112 = .func ∧ und Try.prog 113 = .func ∧ und Try.prog 114 = .func ∧ und Try.prog 115 = .arr 4 2 ∧ tk Try.prog 115 = some (true, 4) ∧ sz Try.prog 115 = some 4 ∧ nb Try.prog 115 = some 32 ∧ zeroV Try.prog 115 = some (.agg #[.int .i64 0, .int .i64 0, .int .i64 0, .int .i64 0]) ∧ buildOk Try.prog 115 = true ∧ kinds Try.prog 115 = some [.int, .int, .int, .int] ∧ und Try.prog 116 = .slice 115 ∧ tk Try.prog 116 = some (false, 1) ∧ sz Try.prog 116 = some 1 ∧ nb Try.prog 116 = some 24 ∧ zeroV Try.prog 116 = some (.slice none 0 0) ∧ und Try.prog 117 = .slice 3 ∧ tk Try.prog 117 = some (false, 1) ∧ sz Try.prog 117 = some 1 ∧ nb Try.prog 117 = some 24 ∧ zeroV Try.prog 117 = some (.slice none 0 0) ∧ und Try.prog 118 = .func ∧ und Try.prog 119 = .map 9 4 ∧ tk Try.prog 119 = some (false, 1) ∧ sz Try.prog 119 = some 1 ∧ nb Try.prog 119 = some 8 ∧ zeroV Try.prog 119 = some (.map none) ∧ und Try.prog 120 = .func ∧ und Try.prog 121 = .func ∧ und Try.prog 122 = .func ∧ und Try.prog 124 = .func ∧ und Try.prog 125 = .func ∧ und Try.prog 126 = .func ∧ und Try.prog 127 = .func ∧ und Try.prog 128 = .func ∧ und Try.prog 129 = .func ∧ und Try.prog 130 = .func ∧ und Try.prog 131 = .func ∧ und Try.prog 132 = .func := ⟨facts11_0, facts11_1, facts11_2, facts11_3, facts11_4, facts11_5, facts11_6, facts11_7, facts11_8, facts11_9, facts11_10, facts11_11, facts11_12, facts11_13, facts11_14, facts11_15, facts11_16, facts11_17, facts11_18, facts11_19, facts11_20, facts11_21, facts11_22, facts11_23, facts11_24, facts11_25, facts11_26, facts11_27, facts11_28, facts11_29, facts11_30, facts11_31, facts11_32, facts11_33, facts11_34, facts11_35, facts11_36, facts11_37, facts11_38, facts11_39⟩
theorem facts12_0 : und Try.prog 133 = .slice 39 := by kernel_rfl
theorem facts12_1 : tk Try.prog 133 = some (false, 1) := by kernel_rfl
theorem facts12_2 : sz Try.prog 133 = some 1 := by kernel_rfl
theorem facts12_3 : nb Try.prog 133 = some 24 := by kernel_rfl
theorem facts12_4 : zeroV Try.prog 133 = some (.slice none 0 0) := by kernel_rfl
theorem facts12_5 : und Try.prog 134 = .func := by kernel_rfl
theorem facts12_6 : und Try.prog 135 = .func := by kernel_rfl
theorem facts12_7 : und Try.prog 136 = .func := by kernel_rfl
theorem facts12_8 : und Try.prog 137 = .func := by kernel_rfl
theorem facts12_9 : und Try.prog 138 = .func := by kernel_rfl
theorem facts12_10 : und Try.prog 139 = .func := by kernel_rfl
theorem facts12_11 : und Try.prog 140 = .func := by kernel_rfl
theorem facts12_12 : und Try.prog 141 = .int .u64 := by kernel_rfl
theorem facts12_13 : tk Try.prog 141 = some (false, 1) := by kernel_rfl
theorem facts12_14 : sz Try.prog 141 = some 1 := by kernel_rfl
theorem facts12_15 : nb Try.prog 141 = some 8 := by kernel_rfl
theorem facts12_16 : zeroV Try.prog 141 = some (.int .u64 0) := by kernel_rfl
theorem facts12_17 : und Try.prog 142 = .func := by kernel_rfl
theorem facts12_18 : und Try.prog 143 = .func := by kernel_rfl
theorem facts12_19 : und Try.prog 144 = .int .i64 := by kernel_rfl
theorem facts12_20 : tk Try.prog 144 = some (false, 1) := by kernel_rfl
theorem facts12_21 : sz Try.prog 144 = some 1 := by kernel_rfl
theorem facts12_22 : nb Try.prog 144 = some 8 := by kernel_rfl
theorem facts12_23 : zeroV Try.prog 144 = some (.int .i64 0) := by kernel_rfl
theorem facts12_24 : und Try.prog 146 = .func := by kernel_rfl
theorem facts12_25 : und Try.prog 147 = .func := by kernel_rfl
theorem facts12_26 : und Try.prog 148 = .func := by kernel_rfl
theorem facts12_27 : und Try.prog 149 = .func := by kernel_rfl
theorem facts12_28 : und Try.prog 150 = .func := by kernel_rfl
theorem facts12_29 : und Try.prog 151 = .func := by kernel_rfl
theorem facts12_30 : und Try.prog 152 = .int .u64 := by kernel_rfl
theorem facts12_31 : tk Try.prog 152 = some (false, 1) := by kernel_rfl
theorem facts12_32 : sz Try.prog 152 = some 1 := by kernel_rfl
theorem facts12_33 : nb Try.prog 152 = some 8 := by kernel_rfl
theorem facts12_34 : zeroV Try.prog 152 = some (.int .u64 0) := by kernel_rfl
theorem facts12_35 : und Try.prog 153 = .int .u64 := by kernel_rfl
theorem facts12_36 : tk Try.prog 153 = some (false, 1) := by kernel_rfl
theorem facts12_37 : sz Try.prog 153 = some 1 := by kernel_rfl
theorem facts12_38 : nb Try.prog 153 = some 8 := by kernel_rfl
theorem facts12_39 : zeroV Try.prog 153 = some (.int .u64 0) := by kernel_rfl
theorem facts12 : und Try.prog 133 = .slice 39 ∧ tk Try.prog 133 = some (false, 1) ∧ sz Try.prog 133 = some 1 ∧ nb Try.prog 133 = some 24 ∧ zeroV Try.prog 133 = some (.slice none 0 0) ∧ und Try.prog 134 = .func ∧ und Try.prog 135 = .func ∧ und Try.prog 136 = .func ∧ und Try.prog 137 = .func ∧ und Try.prog 138 = .func ∧ und Try.prog 139 = .func ∧ und Try.prog 140 = .func ∧ und Try.prog 141 = .int .u64 ∧ tk Try.prog 141 = some (false, 1) ∧ sz Try.prog 141 = some 1 ∧ nb Try.prog 141 = some 8 ∧ zeroV Try.prog 141 = some (.int .u64 0) ∧ und Try.prog 142 = .func ∧ und Try.prog 143 = .func ∧ und Try.prog 144 = .int .i64 ∧ tk Try.prog 144 = some (false, 1) ∧ sz Try.prog 144 = some 1 ∧ nb Try.prog 144 = some 8 ∧ zeroV Try.prog 144 = some (.int .i64 0) ∧ und Try.prog 146 = .func ∧ und Try.prog 147 = .func ∧ und Try.prog 148 = .func ∧ und Try.prog 149 = .func ∧ und Try.prog 150 = .func ∧ und Try.prog 151 = .func ∧ und Try.prog 152 = .int .u64 ∧ tk Try.prog 152 = some (false, 1) ∧ sz Try.prog 152 = some 1 ∧ nb Try.prog 152 = some 8 ∧ zeroV Try.prog 152 = some (.int .u64 0) ∧ und Try.prog 153 = .int .u64 ∧ tk Try.prog 153 = some (false, 1) ∧ sz Try.prog 153 = some 1 ∧ nb Try.prog 153 = some 8 ∧ zeroV Try.prog 153 = some (.int .u64 0) := ⟨facts12_0, facts12_1, facts12_2, facts12_3, facts12_4, facts12_5, facts12_6, facts12_7, facts12_8, facts12_9, facts12_10, facts12_11, facts12_12, facts12_13, facts12_14, facts12_15, facts12_16, facts12_17, facts12_18, facts12_19, facts12_20, facts12_21, facts12_22, facts12_23, facts12_24, facts12_25, facts12_26, facts12_27, facts12_28, facts12_29, facts12_30, facts12_31, facts12_32, facts12_33, facts12_34, facts12_35, facts12_36, facts12_37, facts12_38, facts12_39⟩
theorem facts13_0 : und Try.prog 154 = .func := by kernel_rfl
theorem facts13_1 : und Try.prog 155 = .func := by kernel_rfl
theorem facts13_2 : und Try.prog 156 = .func := by kernel_rfl
theorem facts13_3 : und Try.prog 157 = .ptr 3 := by kernel_rfl
theorem facts13_4 : tk Try.prog 157 = some (false, 1) := by kernel_rfl
theorem facts13_5 : sz Try.prog 157 = some 1 := by kernel_rfl
theorem facts13_6 : nb Try.prog 157 = some 8 := by kernel_rfl
theorem facts13_7 : zeroV Try.prog 157 = some (.pointer none) := by kernel_rfl
theorem facts13_8 : und Try.prog 158 = .func := by kernel_rfl
theorem facts13_9 : und Try.prog 159 = .ptr 153 := by kernel_rfl
theorem facts13_10 : tk Try.prog 159 = some (false, 1) := by kernel_rfl
theorem facts13_11 : sz Try.prog 159 = some 1 := by kernel_rfl
theorem facts13_12 : nb Try.prog 159 = some 8 := by kernel_rfl
theorem facts13_13 : zeroV Try.prog 159 = some (.pointer none) := by kernel_rfl
theorem facts13_14 : und Try.prog 161 = .func := by kernel_rfl
theorem facts13_15 : und Try.prog 162 = .func := by kernel_rfl
theorem facts13_16 : und Try.prog 168 = .func := by kernel_rfl
theorem facts13_17 : und Try.prog 171 = .func := by kernel_rfl
theorem facts13_18 : und Try.prog 172 = .ptr 5 := by kernel_rfl
theorem facts13_19 : tk Try.prog 172 = some (false, 1) := by kernel_rfl
theorem facts13_20 : sz Try.prog 172 = some 1 := by kernel_rfl
theorem facts13_21 : nb Try.prog 172 = some 8 := by kernel_rfl
theorem facts13_22 : zeroV Try.prog 172 = some (.pointer none) := by kernel_rfl
theorem facts13_23 : und Try.prog 177 = .func := by kernel_rfl
theorem facts13_24 : Try.prog.follows .mixedOrders = true := by kernel_rfl
theorem facts13_25 : callable Try.prog 3 = true := by kernel_rfl
theorem facts13_26 : callable Try.prog 4 = true := by kernel_rfl
theorem facts13_27 : callable Try.prog 5 = true := by kernel_rfl
theorem facts13_28 : callable Try.prog 6 = true := by kernel_rfl
theorem facts13_29 : callable Try.prog 7 = true := by kernel_rfl
theorem facts13_30 : callable Try.prog 8 = true := by kernel_rfl
theorem facts13_31 : callable Try.prog 9 = true := by kernel_rfl
theorem facts13_32 : callable Try.prog 10 = true := by kernel_rfl
theorem facts13_33 : callable Try.prog 11 = true := by kernel_rfl
theorem facts13_34 : callable Try.prog 12 = true := by kernel_rfl
theorem facts13_35 : callable Try.prog 13 = true := by kernel_rfl
theorem facts13_36 : callable Try.prog 14 = true := by kernel_rfl
theorem facts13_37 : callable Try.prog 15 = true := by kernel_rfl
theorem facts13_38 : callable Try.prog 16 = true := by kernel_rfl
theorem facts13_39 : callable Try.prog 17 = true := by kernel_rfl
theorem facts13 : und Try.prog 154 = .func ∧ und Try.prog 155 = .func ∧ und Try.prog 156 = .func ∧ und Try.prog 157 = .ptr 3 ∧ tk Try.prog 157 = some (false, 1) ∧ sz Try.prog 157 = some 1 ∧ nb Try.prog 157 = some 8 ∧ zeroV Try.prog 157 = some (.pointer none) ∧ und Try.prog 158 = .func ∧ und Try.prog 159 = .ptr 153 ∧ tk Try.prog 159 = some (false, 1) ∧ sz Try.prog 159 = some 1 ∧ nb Try.prog 159 = some 8 ∧ zeroV Try.prog 159 = some (.pointer none) ∧ und Try.prog 161 = .func ∧ und Try.prog 162 = .func ∧ und Try.prog 168 = .func ∧ und Try.prog 171 = .func ∧ und Try.prog 172 = .ptr 5 ∧ tk Try.prog 172 = some (false, 1) ∧ sz Try.prog 172 = some 1 ∧ nb Try.prog 172 = some 8 ∧ zeroV Try.prog 172 = some (.pointer none) ∧ und Try.prog 177 = .func ∧ Try.prog.follows .mixedOrders = true ∧ callable Try.prog 3 = true ∧ callable Try.prog 4 = true ∧ callable Try.prog 5 = true ∧ callable Try.prog 6 = true ∧ callable Try.prog 7 = true ∧ callable Try.prog 8 = true ∧ callable Try.prog 9 = true ∧ callable Try.prog 10 = true ∧ callable Try.prog 11 = true ∧ callable Try.prog 12 = true ∧ callable Try.prog 13 = true ∧ callable Try.prog 14 = true ∧ callable Try.prog 15 = true ∧ callable Try.prog 16 = true ∧ callable Try.prog 17 = true := ⟨facts13_0, facts13_1, facts13_2, facts13_3, facts13_4, facts13_5, facts13_6, facts13_7, facts13_8, facts13_9, facts13_10, facts13_11, facts13_12, facts13_13, facts13_14, facts13_15, facts13_16, facts13_17, facts13_18, facts13_19, facts13_20, facts13_21, facts13_22, facts13_23, facts13_24, facts13_25, facts13_26, facts13_27, facts13_28, facts13_29, facts13_30, facts13_31, facts13_32, facts13_33, facts13_34, facts13_35, facts13_36, facts13_37, facts13_38, facts13_39⟩
theorem facts14_0 : callable Try.prog 18 = true := by kernel_rfl
theorem facts14_1 : callable Try.prog 19 = true := by kernel_rfl
theorem facts14_2 : callable Try.prog 20 = true := by kernel_rfl
theorem facts14_3 : callable Try.prog 21 = true := by kernel_rfl
theorem facts14_4 : callable Try.prog 22 = true := by kernel_rfl
theorem facts14_5 : callable Try.prog 23 = true := by kernel_rfl
theorem facts14_6 : callable Try.prog 24 = true := by kernel_rfl
theorem facts14_7 : callable Try.prog 25 = true := by kernel_rfl
theorem facts14_8 : callable Try.prog 26 = true := by kernel_rfl
theorem facts14_9 : callable Try.prog 27 = true := by kernel_rfl
theorem facts14_10 : callable Try.prog 28 = true := by kernel_rfl
theorem facts14_11 : callable Try.prog 29 = true := by kernel_rfl
theorem facts14_12 : callable Try.prog 30 = true := by kernel_rfl
theorem facts14_13 : callable Try.prog 31 = true := by kernel_rfl
theorem facts14_14 : callable Try.prog 32 = true := by kernel_rfl
theorem facts14_15 : callable Try.prog 33 = true := by kernel_rfl
theorem facts14_16 : callable Try.prog 34 = true := by kernel_rfl
theorem facts14_17 : callable Try.prog 35 = true := by kernel_rfl
theorem facts14_18 : callable Try.prog 36 = true := by kernel_rfl
theorem facts14_19 : callable Try.prog 37 = true := by kernel_rfl
theorem facts14_20 : callable Try.prog 38 = true := by kernel_rfl
theorem facts14_21 : callable Try.prog 39 = true := by kernel_rfl
theorem facts14_22 : callable Try.prog 40 = true := by kernel_rfl
theorem facts14_23 : callable Try.prog 41 = true := by kernel_rfl
theorem facts14_24 : callable Try.prog 42 = true := by kernel_rfl
theorem facts14_25 : callable Try.prog 43 = true := by kernel_rfl
theorem facts14_26 : callable Try.prog 44 = true := by kernel_rfl
theorem facts14_27 : callable Try.prog 45 = true := by kernel_rfl
theorem facts14_28 : callable Try.prog 46 = true := by kernel_rfl
theorem facts14_29 : callable Try.prog 47 = true := by kernel_rfl
theorem facts14_30 : callable Try.prog 48 = true := by kernel_rfl
theorem facts14_31 : callable Try.prog 49 = true := by kernel_rfl
theorem facts14_32 : callable Try.prog 50 = true := by kernel_rfl
theorem facts14_33 : callable Try.prog 51 = true := by kernel_rfl
theorem facts14_34 : callable Try.prog 52 = true := by kernel_rfl
theorem facts14_35 : callable Try.prog 53 = true := by kernel_rfl
theorem facts14_36 : callable Try.prog 54 = true := by kernel_rfl
theorem facts14_37 : callable Try.prog 55 = true := by kernel_rfl
theorem facts14_38 : callable Try.prog 56 = true := by kernel_rfl
theorem facts14_39 : callable Try.prog 57 = true := by kernel_rfl
theorem facts14 : callable Try.prog 18 = true ∧ callable Try.prog 19 = true ∧ callable Try.prog 20 = true ∧ callable Try.prog 21 = true ∧ callable Try.prog 22 = true ∧ callable Try.prog 23 = true ∧ callable Try.prog 24 = true ∧ callable Try.prog 25 = true ∧ callable Try.prog 26 = true ∧ callable Try.prog 27 = true ∧ callable Try.prog 28 = true ∧ callable Try.prog 29 = true ∧ callable Try.prog 30 = true ∧ callable Try.prog 31 = true ∧ callable Try.prog 32 = true ∧ callable Try.prog 33 = true ∧ callable Try.prog 34 = true ∧ callable Try.prog 35 = true ∧ callable Try.prog 36 = true ∧ callable Try.prog 37 = true ∧ callable Try.prog 38 = true ∧ callable Try.prog 39 = true ∧ callable Try.prog 40 = true ∧ callable Try.prog 41 = true ∧ callable Try.prog 42 = true ∧ callable Try.prog 43 = true ∧ callable Try.prog 44 = true ∧ callable Try.prog 45 = true ∧ callable Try.prog 46 = true ∧ callable Try.prog 47 = true ∧ callable Try.prog 48 = true ∧ callable Try.prog 49 = true ∧ callable Try.prog 50 = true ∧ callable Try.prog 51 = true ∧ callable Try.prog 52 = true ∧ callable Try.prog 53 = true ∧ callable Try.prog 54 = true ∧ callable Try.prog 55 = true ∧ callable Try.prog 56 = true ∧ callable Try.prog 57 = true := ⟨facts14_0, facts14_1, facts14_2, facts14_3, facts14_4, facts14_5, facts14_6, facts14_7, facts14_8, facts14_9, facts14_10, facts14_11, facts14_12, facts14_13, facts14_14, facts14_15, facts14_16, facts14_17, facts14_18, facts14_19, facts14_20, facts14_21, facts14_22, facts14_23, facts14_24, facts14_25, facts14_26, facts14_27, facts14_28, facts14_29, facts14_30, facts14_31, facts14_32, facts14_33, facts14_34, facts14_35, facts14_36, facts14_37, facts14_38, facts14_39⟩
theorem facts15_0 : callable Try.prog 58 = true := by kernel_rfl
theorem facts15_1 : callable Try.prog 59 = true := by kernel_rfl
theorem facts15_2 : callable Try.prog 60 = true := by kernel_rfl
theorem facts15_3 : callable Try.prog 61 = true := by kernel_rfl
theorem facts15_4 : callable Try.prog 62 = true := by kernel_rfl
theorem facts15_5 : callable Try.prog 63 = true := by kernel_rfl
theorem facts15_6 : callable Try.prog 64 = true := by kernel_rfl
theorem facts15_7 : callable Try.prog 65 = true := by kernel_rfl
theorem facts15_8 : callable Try.prog 66 = true := by kernel_rfl
theorem facts15_9 : callable Try.prog 67 = true := by kernel_rfl
theorem facts15_10 : callable Try.prog 68 = true := by kernel_rfl
theorem facts15_11 : callable Try.prog 69 = true := by kernel_rfl
theorem facts15_12 : callable Try.prog 70 = true := by kernel_rfl
theorem facts15_13 : callable Try.prog 71 = true := by kernel_rfl
theorem facts15_14 : callable Try.prog 72 = true := by kernel_rfl
theorem facts15_15 : callable Try.prog 73 = true := by kernel_rfl
theorem facts15_16 : callable Try.prog 74 = true := by kernel_rfl
theorem facts15_17 : callable Try.prog 75 = true := by kernel_rfl
theorem facts15_18 : callable Try.prog 76 = true := by kernel_rfl
theorem facts15_19 : callable Try.prog 77 = true := by kernel_rfl
theorem facts15_20 : callable Try.prog 78 = true := by kernel_rfl
theorem facts15_21 : callable Try.prog 79 = true := by kernel_rfl
theorem facts15_22 : callable Try.prog 80 = true := by kernel_rfl
theorem facts15_23 : callable Try.prog 81 = true := by kernel_rfl
theorem facts15_24 : callable Try.prog 82 = true := by kernel_rfl
theorem facts15_25 : callable Try.prog 83 = true := by kernel_rfl
theorem facts15_26 : callable Try.prog 84 = true := by kernel_rfl
theorem facts15_27 : callable Try.prog 85 = true := by kernel_rfl
theorem facts15_28 : callable Try.prog 86 = true := by kernel_rfl
theorem facts15_29 : callable Try.prog 87 = true := by kernel_rfl
theorem facts15_30 : callable Try.prog 88 = true := by kernel_rfl
theorem facts15_31 : callable Try.prog 89 = true := by kernel_rfl
theorem facts15_32 : callable Try.prog 90 = true := by kernel_rfl
theorem facts15_33 : callable Try.prog 91 = true := by kernel_rfl
theorem facts15_34 : callable Try.prog 92 = true := by kernel_rfl
theorem facts15_35 : callable Try.prog 93 = true := by kernel_rfl
theorem facts15_36 : callable Try.prog 94 = true := by kernel_rfl
theorem facts15_37 : callable Try.prog 95 = true := by kernel_rfl
theorem facts15_38 : callable Try.prog 96 = true := by kernel_rfl
theorem facts15_39 : callable Try.prog 97 = true := by kernel_rfl
theorem facts15 : callable Try.prog 58 = true ∧ callable Try.prog 59 = true ∧ callable Try.prog 60 = true ∧ callable Try.prog 61 = true ∧ callable Try.prog 62 = true ∧ callable Try.prog 63 = true ∧ callable Try.prog 64 = true ∧ callable Try.prog 65 = true ∧ callable Try.prog 66 = true ∧ callable Try.prog 67 = true ∧ callable Try.prog 68 = true ∧ callable Try.prog 69 = true ∧ callable Try.prog 70 = true ∧ callable Try.prog 71 = true ∧ callable Try.prog 72 = true ∧ callable Try.prog 73 = true ∧ callable Try.prog 74 = true ∧ callable Try.prog 75 = true ∧ callable Try.prog 76 = true ∧ callable Try.prog 77 = true ∧ callable Try.prog 78 = true ∧ callable Try.prog 79 = true ∧ callable Try.prog 80 = true ∧ callable Try.prog 81 = true ∧ callable Try.prog 82 = true ∧ callable Try.prog 83 = true ∧ callable Try.prog 84 = true ∧ callable Try.prog 85 = true ∧ callable Try.prog 86 = true ∧ callable Try.prog 87 = true ∧ callable Try.prog 88 = true ∧ callable Try.prog 89 = true ∧ callable Try.prog 90 = true ∧ callable Try.prog 91 = true ∧ callable Try.prog 92 = true ∧ callable Try.prog 93 = true ∧ callable Try.prog 94 = true ∧ callable Try.prog 95 = true ∧ callable Try.prog 96 = true ∧ callable Try.prog 97 = true := ⟨facts15_0, facts15_1, facts15_2, facts15_3, facts15_4, facts15_5, facts15_6, facts15_7, facts15_8, facts15_9, facts15_10, facts15_11, facts15_12, facts15_13, facts15_14, facts15_15, facts15_16, facts15_17, facts15_18, facts15_19, facts15_20, facts15_21, facts15_22, facts15_23, facts15_24, facts15_25, facts15_26, facts15_27, facts15_28, facts15_29, facts15_30, facts15_31, facts15_32, facts15_33, facts15_34, facts15_35, facts15_36, facts15_37, facts15_38, facts15_39⟩
theorem facts16_0 : callable Try.prog 98 = true := by kernel_rfl
theorem facts16_1 : callable Try.prog 99 = true := by kernel_rfl
theorem facts16_2 : callable Try.prog 100 = true := by kernel_rfl
theorem facts16_3 : callable Try.prog 116 = false := by kernel_rfl
theorem facts16_4 : callable Try.prog 117 = false := by kernel_rfl
theorem facts16_5 : callable Try.prog 118 = false := by kernel_rfl
theorem facts16_6 : callable Try.prog 119 = false := by kernel_rfl
theorem facts16 : callable Try.prog 98 = true ∧ callable Try.prog 99 = true ∧ callable Try.prog 100 = true ∧ callable Try.prog 116 = false ∧ callable Try.prog 117 = false ∧ callable Try.prog 118 = false ∧ callable Try.prog 119 = false := ⟨facts16_0, facts16_1, facts16_2, facts16_3, facts16_4, facts16_5, facts16_6⟩
theorem facts : (und Try.prog 1 = .func ∧ und Try.prog 2 = .int .i64 ∧ tk Try.prog 2 = some (false, 1) ∧ sz Try.prog 2 = some 1 ∧ nb Try.prog 2 = some 8 ∧ zeroV Try.prog 2 = some (.int .i64 0) ∧ und Try.prog 3 = .int .i64 ∧ tk Try.prog 3 = some (false, 1) ∧ sz Try.prog 3 = some 1 ∧ nb Try.prog 3 = some 8 ∧ zeroV Try.prog 3 = some (.int .i64 0) ∧ und Try.prog 4 = .bool ∧ tk Try.prog 4 = some (false, 1) ∧ sz Try.prog 4 = some 1 ∧ nb Try.prog 4 = some 1 ∧ zeroV Try.prog 4 = some (.bool false) ∧ und Try.prog 5 = .int .u8 ∧ tk Try.prog 5 = some (false, 1) ∧ sz Try.prog 5 = some 1 ∧ nb Try.prog 5 = some 1 ∧ zeroV Try.prog 5 = some (.int .u8 0) ∧ und Try.prog 9 = .str ∧ tk Try.prog 9 = some (false, 1) ∧ sz Try.prog 9 = some 1 ∧ nb Try.prog 9 = some 16 ∧ zeroV Try.prog 9 = some (.string ByteArray.empty) ∧ und Try.prog 12 = .int .u64 ∧ tk Try.prog 12 = some (false, 1) ∧ sz Try.prog 12 = some 1 ∧ nb Try.prog 12 = some 8 ∧ zeroV Try.prog 12 = some (.int .u64 0) ∧ und Try.prog 13 = .struct ∧ tk Try.prog 13 = some (true, 2) ∧ sz Try.prog 13 = some 2 ∧ nb Try.prog 13 = some 24 ∧ zeroV Try.prog 13 = some (.agg #[.string ByteArray.empty, .int .u64 0]) ∧ fieldT Try.prog 13 0 = some (0, 9) ∧ fieldT Try.prog 13 1 = some (1, 12) ∧ buildOk Try.prog 13 = true ∧ und Try.prog 21 = .int .i32) ∧ (tk Try.prog 21 = some (false, 1) ∧ sz Try.prog 21 = some 1 ∧ nb Try.prog 21 = some 4 ∧ zeroV Try.prog 21 = some (.int .i32 0) ∧ und Try.prog 22 = .slice 43 ∧ tk Try.prog 22 = some (false, 1) ∧ sz Try.prog 22 = some 1 ∧ nb Try.prog 22 = some 24 ∧ zeroV Try.prog 22 = some (.slice none 0 0) ∧ und Try.prog 23 = .int .u16 ∧ tk Try.prog 23 = some (false, 1) ∧ sz Try.prog 23 = some 1 ∧ nb Try.prog 23 = some 2 ∧ zeroV Try.prog 23 = some (.int .u16 0) ∧ und Try.prog 24 = .int .u32 ∧ tk Try.prog 24 = some (false, 1) ∧ sz Try.prog 24 = some 1 ∧ nb Try.prog 24 = some 4 ∧ zeroV Try.prog 24 = some (.int .u32 0) ∧ und Try.prog 25 = .struct ∧ tk Try.prog 25 = some (true, 2) ∧ sz Try.prog 25 = some 2 ∧ nb Try.prog 25 = some 8 ∧ zeroV Try.prog 25 = some (.agg #[.int .u16 0, .int .u32 0]) ∧ fieldT Try.prog 25 0 = some (0, 23) ∧ fieldT Try.prog 25 1 = some (1, 24) ∧ buildOk Try.prog 25 = true ∧ kinds Try.prog 25 = some [.int, .int] ∧ und Try.prog 26 = .struct ∧ tk Try.prog 26 = some (true, 2) ∧ sz Try.prog 26 = some 2 ∧ nb Try.prog 26 = some 8 ∧ zeroV Try.prog 26 = some (.agg #[.int .u16 0, .int .u32 0]) ∧ fieldT Try.prog 26 0 = some (0, 23) ∧ fieldT Try.prog 26 1 = some (1, 24) ∧ buildOk Try.prog 26 = true ∧ kinds Try.prog 26 = some [.int, .int] ∧ und Try.prog 27 = .func ∧ und Try.prog 28 = .slice 60 ∧ tk Try.prog 28 = some (false, 1)) ∧ (sz Try.prog 28 = some 1 ∧ nb Try.prog 28 = some 24 ∧ zeroV Try.prog 28 = some (.slice none 0 0) ∧ und Try.prog 29 = .slice 9 ∧ tk Try.prog 29 = some (false, 1) ∧ sz Try.prog 29 = some 1 ∧ nb Try.prog 29 = some 24 ∧ zeroV Try.prog 29 = some (.slice none 0 0) ∧ und Try.prog 30 = .slice 2 ∧ tk Try.prog 30 = some (false, 1) ∧ sz Try.prog 30 = some 1 ∧ nb Try.prog 30 = some 24 ∧ zeroV Try.prog 30 = some (.slice none 0 0) ∧ und Try.prog 31 = .struct ∧ tk Try.prog 31 = some (true, 5) ∧ sz Try.prog 31 = some 5 ∧ nb Try.prog 31 = some 88 ∧ zeroV Try.prog 31 = some (.agg #[.slice none 0 0, .slice none 0 0, .slice none 0 0, .int .i64 0, .int .i64 0]) ∧ fieldT Try.prog 31 0 = some (0, 28) ∧ fieldT Try.prog 31 1 = some (1, 29) ∧ fieldT Try.prog 31 2 = some (2, 30) ∧ fieldT Try.prog 31 3 = some (3, 2) ∧ fieldT Try.prog 31 4 = some (4, 2) ∧ buildOk Try.prog 31 = true ∧ und Try.prog 32 = .struct ∧ tk Try.prog 32 = some (true, 5) ∧ sz Try.prog 32 = some 5 ∧ nb Try.prog 32 = some 88 ∧ zeroV Try.prog 32 = some (.agg #[.slice none 0 0, .slice none 0 0, .slice none 0 0, .int .i64 0, .int .i64 0]) ∧ fieldT Try.prog 32 0 = some (0, 28) ∧ fieldT Try.prog 32 1 = some (1, 29) ∧ fieldT Try.prog 32 2 = some (2, 30) ∧ fieldT Try.prog 32 3 = some (3, 2) ∧ fieldT Try.prog 32 4 = some (4, 2) ∧ buildOk Try.prog 32 = true ∧ und Try.prog 33 = .func ∧ und Try.prog 34 = .ptr 75 ∧ tk Try.prog 34 = some (false, 1) ∧ sz Try.prog 34 = some 1 ∧ nb Try.prog 34 = some 8) ∧ (zeroV Try.prog 34 = some (.pointer none) ∧ und Try.prog 35 = .func ∧ und Try.prog 36 = .ptr 86 ∧ tk Try.prog 36 = some (false, 1) ∧ sz Try.prog 36 = some 1 ∧ nb Try.prog 36 = some 8 ∧ zeroV Try.prog 36 = some (.pointer none) ∧ und Try.prog 37 = .func ∧ und Try.prog 38 = .arr 4 3 ∧ tk Try.prog 38 = some (true, 4) ∧ sz Try.prog 38 = some 4 ∧ nb Try.prog 38 = some 32 ∧ zeroV Try.prog 38 = some (.agg #[.int .i64 0, .int .i64 0, .int .i64 0, .int .i64 0]) ∧ buildOk Try.prog 38 = true ∧ kinds Try.prog 38 = some [.int, .int, .int, .int] ∧ und Try.prog 39 = .arr 4 3 ∧ tk Try.prog 39 = some (true, 4) ∧ sz Try.prog 39 = some 4 ∧ nb Try.prog 39 = some 32 ∧ zeroV Try.prog 39 = some (.agg #[.int .i64 0, .int .i64 0, .int .i64 0, .int .i64 0]) ∧ buildOk Try.prog 39 = true ∧ kinds Try.prog 39 = some [.int, .int, .int, .int] ∧ und Try.prog 40 = .struct ∧ tk Try.prog 40 = some (true, 17) ∧ sz Try.prog 40 = some 17 ∧ nb Try.prog 40 = some 136 ∧ zeroV Try.prog 40 = some (.agg (([.int .i64 0, .int .u16 0, .int .u32 0, .string ByteArray.empty] : List Value) ++ rep 13 (.int .i64 0)).toArray) ∧ fieldT Try.prog 40 0 = some (0, 3) ∧ fieldT Try.prog 40 1 = some (1, 26) ∧ fieldT Try.prog 40 2 = some (3, 9) ∧ fieldT Try.prog 40 3 = some (4, 2) ∧ fieldT Try.prog 40 4 = some (5, 39) ∧ fieldT Try.prog 40 5 = some (9, 39) ∧ fieldT Try.prog 40 6 = some (13, 39) ∧ buildOk Try.prog 40 = true ∧ kinds Try.prog 40 = some [.int, .int, .int, .str, .int, .int, .int, .int, .int, .int, .int, .int, .int, .int, .int, .int, .int] ∧ und Try.prog 41 = .struct ∧ tk Try.prog 41 = some (true, 17) ∧ sz Try.prog 41 = some 17 ∧ nb Try.prog 41 = some 136) ∧ (zeroV Try.prog 41 = some (.agg (([.int .i64 0, .int .u16 0, .int .u32 0, .string ByteArray.empty] : List Value) ++ rep 13 (.int .i64 0)).toArray) ∧ fieldT Try.prog 41 0 = some (0, 3) ∧ fieldT Try.prog 41 1 = some (1, 26) ∧ fieldT Try.prog 41 2 = some (3, 9) ∧ fieldT Try.prog 41 3 = some (4, 2) ∧ fieldT Try.prog 41 4 = some (5, 39) ∧ fieldT Try.prog 41 5 = some (9, 39) ∧ fieldT Try.prog 41 6 = some (13, 39) ∧ buildOk Try.prog 41 = true ∧ kinds Try.prog 41 = some [.int, .int, .int, .str, .int, .int, .int, .int, .int, .int, .int, .int, .int, .int, .int, .int, .int] ∧ und Try.prog 42 = .struct ∧ tk Try.prog 42 = some (true, 21) ∧ sz Try.prog 42 = some 21 ∧ nb Try.prog 42 = some 144 ∧ zeroV Try.prog 42 = some (.agg (([.int .u8 0, .int .u8 0, .int .u8 0, .int .u16 0, .int .i64 0, .int .u16 0, .int .u32 0, .string ByteArray.empty] : List Value) ++ rep 13 (.int .i64 0)).toArray) ∧ fieldT Try.prog 42 0 = some (0, 5) ∧ fieldT Try.prog 42 1 = some (1, 5) ∧ fieldT Try.prog 42 2 = some (2, 5) ∧ fieldT Try.prog 42 3 = some (3, 23) ∧ fieldT Try.prog 42 4 = some (4, 41) ∧ buildOk Try.prog 42 = true ∧ kinds Try.prog 42 = some [.int, .int, .int, .int, .int, .int, .int, .str, .int, .int, .int, .int, .int, .int, .int, .int, .int, .int, .int, .int, .int] ∧ und Try.prog 43 = .struct ∧ tk Try.prog 43 = some (true, 21) ∧ sz Try.prog 43 = some 21 ∧ nb Try.prog 43 = some 144 ∧ zeroV Try.prog 43 = some (.agg (([.int .u8 0, .int .u8 0, .int .u8 0, .int .u16 0, .int .i64 0, .int .u16 0, .int .u32 0, .string ByteArray.empty] : List Value) ++ rep 13 (.int .i64 0)).toArray) ∧ fieldT Try.prog 43 0 = some (0, 5) ∧ fieldT Try.prog 43 1 = some (1, 5) ∧ fieldT Try.prog 43 2 = some (2, 5) ∧ fieldT Try.prog 43 3 = some (3, 23) ∧ fieldT Try.prog 43 4 = some (4, 41) ∧ buildOk Try.prog 43 = true ∧ kinds Try.prog 43 = some [.int, .int, .int, .int, .int, .int, .int, .str, .int, .int, .int, .int, .int, .int, .int, .int, .int, .int, .int, .int, .int] ∧ und Try.prog 44 = .func ∧ und Try.prog 45 = .int .i64 ∧ tk Try.prog 45 = some (false, 1) ∧ sz Try.prog 45 = some 1 ∧ nb Try.prog 45 = some 8 ∧ zeroV Try.prog 45 = some (.int .i64 0)) ∧ (und Try.prog 46 = .func ∧ und Try.prog 47 = .func ∧ und Try.prog 48 = .func ∧ und Try.prog 49 = .struct ∧ tk Try.prog 49 = some (true, 11) ∧ sz Try.prog 49 = some 11 ∧ nb Try.prog 49 = some 88 ∧ zeroV Try.prog 49 = some (.agg #[.int .u16 0, .int .u32 0, .string ByteArray.empty, .int .i64 0, .int .i64 0, .int .i64 0, .int .i64 0, .int .i64 0, .int .i64 0, .int .i64 0, .int .i64 0]) ∧ fieldT Try.prog 49 0 = some (0, 26) ∧ fieldT Try.prog 49 1 = some (2, 9) ∧ fieldT Try.prog 49 2 = some (3, 2) ∧ fieldT Try.prog 49 3 = some (4, 3) ∧ fieldT Try.prog 49 4 = some (5, 39) ∧ fieldT Try.prog 49 5 = some (9, 2) ∧ fieldT Try.prog 49 6 = some (10, 2) ∧ buildOk Try.prog 49 = true ∧ kinds Try.prog 49 = some [.int, .int, .str, .int, .int, .int, .int, .int, .int, .int, .int] ∧ und Try.prog 50 = .struct ∧ tk Try.prog 50 = some (true, 11) ∧ sz Try.prog 50 = some 11 ∧ nb Try.prog 50 = some 88 ∧ zeroV Try.prog 50 = some (.agg #[.int .u16 0, .int .u32 0, .string ByteArray.empty, .int .i64 0, .int .i64 0, .int .i64 0, .int .i64 0, .int .i64 0, .int .i64 0, .int .i64 0, .int .i64 0]) ∧ fieldT Try.prog 50 0 = some (0, 26) ∧ fieldT Try.prog 50 1 = some (2, 9) ∧ fieldT Try.prog 50 2 = some (3, 2) ∧ fieldT Try.prog 50 3 = some (4, 3) ∧ fieldT Try.prog 50 4 = some (5, 39) ∧ fieldT Try.prog 50 5 = some (9, 2) ∧ fieldT Try.prog 50 6 = some (10, 2) ∧ buildOk Try.prog 50 = true ∧ kinds Try.prog 50 = some [.int, .int, .str, .int, .int, .int, .int, .int, .int, .int, .int] ∧ und Try.prog 52 = .func ∧ und Try.prog 53 = .func ∧ und Try.prog 54 = .slice 50 ∧ tk Try.prog 54 = some (false, 1) ∧ sz Try.prog 54 = some 1 ∧ nb Try.prog 54 = some 24 ∧ zeroV Try.prog 54 = some (.slice none 0 0) ∧ und Try.prog 55 = .func ∧ und Try.prog 56 = .func) ∧ (und Try.prog 57 = .slice 5 ∧ tk Try.prog 57 = some (false, 1) ∧ sz Try.prog 57 = some 1 ∧ nb Try.prog 57 = some 24 ∧ zeroV Try.prog 57 = some (.slice none 0 0) ∧ und Try.prog 58 = .struct ∧ tk Try.prog 58 = some (true, 4) ∧ sz Try.prog 58 = some 4 ∧ nb Try.prog 58 = some 32 ∧ zeroV Try.prog 58 = some (.agg #[.int .i64 0, .int .i64 0, .int .i64 0, .int .i64 0]) ∧ fieldT Try.prog 58 0 = some (0, 2) ∧ fieldT Try.prog 58 1 = some (1, 3) ∧ fieldT Try.prog 58 2 = some (2, 3) ∧ fieldT Try.prog 58 3 = some (3, 3) ∧ buildOk Try.prog 58 = true ∧ kinds Try.prog 58 = some [.int, .int, .int, .int] ∧ und Try.prog 59 = .struct ∧ tk Try.prog 59 = some (true, 4) ∧ sz Try.prog 59 = some 4 ∧ nb Try.prog 59 = some 32 ∧ zeroV Try.prog 59 = some (.agg #[.int .i64 0, .int .i64 0, .int .i64 0, .int .i64 0]) ∧ fieldT Try.prog 59 0 = some (0, 2) ∧ fieldT Try.prog 59 1 = some (1, 3) ∧ fieldT Try.prog 59 2 = some (2, 3) ∧ fieldT Try.prog 59 3 = some (3, 3) ∧ buildOk Try.prog 59 = true ∧ kinds Try.prog 59 = some [.int, .int, .int, .int] ∧ und Try.prog 60 = .arr 4 59 ∧ tk Try.prog 60 = some (true, 16) ∧ sz Try.prog 60 = some 16 ∧ nb Try.prog 60 = some 128 ∧ zeroV Try.prog 60 = some (.agg (rep 16 (.int .i64 0)).toArray) ∧ buildOk Try.prog 60 = true ∧ kinds Try.prog 60 = some [.int, .int, .int, .int, .int, .int, .int, .int, .int, .int, .int, .int, .int, .int, .int, .int] ∧ und Try.prog 62 = .func ∧ und Try.prog 63 = .func ∧ und Try.prog 64 = .func ∧ und Try.prog 65 = .func ∧ und Try.prog 66 = .func ∧ und Try.prog 67 = .func) ∧ (und Try.prog 68 = .func ∧ und Try.prog 69 = .func ∧ und Try.prog 70 = .func ∧ und Try.prog 71 = .func ∧ und Try.prog 72 = .map 26 50 ∧ tk Try.prog 72 = some (false, 1) ∧ sz Try.prog 72 = some 1 ∧ nb Try.prog 72 = some 8 ∧ zeroV Try.prog 72 = some (.map none) ∧ und Try.prog 73 = .slice 82 ∧ tk Try.prog 73 = some (false, 1) ∧ sz Try.prog 73 = some 1 ∧ nb Try.prog 73 = some 24 ∧ zeroV Try.prog 73 = some (.slice none 0 0) ∧ und Try.prog 74 = .struct ∧ tk Try.prog 74 = some (true, 3) ∧ sz Try.prog 74 = some 3 ∧ nb Try.prog 74 = some 56 ∧ zeroV Try.prog 74 = some (.agg #[.slice none 0 0, .slice none 0 0, .map none]) ∧ fieldT Try.prog 74 0 = some (0, 73) ∧ fieldT Try.prog 74 1 = some (1, 73) ∧ fieldT Try.prog 74 2 = some (2, 72) ∧ buildOk Try.prog 74 = true ∧ und Try.prog 75 = .struct ∧ tk Try.prog 75 = some (true, 3) ∧ sz Try.prog 75 = some 3 ∧ nb Try.prog 75 = some 56 ∧ zeroV Try.prog 75 = some (.agg #[.slice none 0 0, .slice none 0 0, .map none]) ∧ fieldT Try.prog 75 0 = some (0, 73) ∧ fieldT Try.prog 75 1 = some (1, 73) ∧ fieldT Try.prog 75 2 = some (2, 72) ∧ buildOk Try.prog 75 = true ∧ und Try.prog 76 = .func ∧ und Try.prog 77 = .struct ∧ tk Try.prog 77 = some (true, 16) ∧ sz Try.prog 77 = some 16 ∧ nb Try.prog 77 = some 128 ∧ zeroV Try.prog 77 = some (.agg (rep 16 (.int .i64 0)).toArray) ∧ fieldT Try.prog 77 0 = some (0, 60) ∧ buildOk Try.prog 77 = true) ∧ (kinds Try.prog 77 = some [.int, .int, .int, .int, .int, .int, .int, .int, .int, .int, .int, .int, .int, .int, .int, .int] ∧ und Try.prog 78 = .struct ∧ tk Try.prog 78 = some (true, 16) ∧ sz Try.prog 78 = some 16 ∧ nb Try.prog 78 = some 128 ∧ zeroV Try.prog 78 = some (.agg (rep 16 (.int .i64 0)).toArray) ∧ fieldT Try.prog 78 0 = some (0, 60) ∧ buildOk Try.prog 78 = true ∧ kinds Try.prog 78 = some [.int, .int, .int, .int, .int, .int, .int, .int, .int, .int, .int, .int, .int, .int, .int, .int] ∧ und Try.prog 79 = .ptr 78 ∧ tk Try.prog 79 = some (false, 1) ∧ sz Try.prog 79 = some 1 ∧ nb Try.prog 79 = some 8 ∧ zeroV Try.prog 79 = some (.pointer none) ∧ und Try.prog 80 = .func ∧ und Try.prog 81 = .struct ∧ tk Try.prog 81 = some (true, 18) ∧ sz Try.prog 81 = some 18 ∧ nb Try.prog 81 = some 144 ∧ zeroV Try.prog 81 = some (.agg (rep 16 (.int .i64 0) ++ ([.bool false, .int .i64 0] : List Value)).toArray) ∧ fieldT Try.prog 81 0 = some (0, 78) ∧ fieldT Try.prog 81 1 = some (16, 4) ∧ fieldT Try.prog 81 2 = some (17, 3) ∧ buildOk Try.prog 81 = true ∧ kinds Try.prog 81 = some [.int, .int, .int, .int, .int, .int, .int, .int, .int, .int, .int, .int, .int, .int, .int, .int, .bool, .int] ∧ und Try.prog 82 = .struct ∧ tk Try.prog 82 = some (true, 18) ∧ sz Try.prog 82 = some 18 ∧ nb Try.prog 82 = some 144 ∧ zeroV Try.prog 82 = some (.agg (rep 16 (.int .i64 0) ++ ([.bool false, .int .i64 0] : List Value)).toArray) ∧ fieldT Try.prog 82 0 = some (0, 78) ∧ fieldT Try.prog 82 1 = some (16, 4) ∧ fieldT Try.prog 82 2 = some (17, 3) ∧ buildOk Try.prog 82 = true ∧ kinds Try.prog 82 = some [.int, .int, .int, .int, .int, .int, .int, .int, .int, .int, .int, .int, .int, .int, .int, .int, .bool, .int] ∧ und Try.prog 83 = .func ∧ und Try.prog 84 = .slice 90 ∧ tk Try.prog 84 = some (false, 1) ∧ sz Try.prog 84 = some 1 ∧ nb Try.prog 84 = some 24) ∧ (zeroV Try.prog 84 = some (.slice none 0 0) ∧ und Try.prog 85 = .struct ∧ tk Try.prog 85 = some (true, 2) ∧ sz Try.prog 85 = some 2 ∧ nb Try.prog 85 = some 48 ∧ zeroV Try.prog 85 = some (.agg #[.slice none 0 0, .slice none 0 0]) ∧ fieldT Try.prog 85 0 = some (0, 84) ∧ fieldT Try.prog 85 1 = some (1, 54) ∧ buildOk Try.prog 85 = true ∧ und Try.prog 86 = .struct ∧ tk Try.prog 86 = some (true, 2) ∧ sz Try.prog 86 = some 2 ∧ nb Try.prog 86 = some 48 ∧ zeroV Try.prog 86 = some (.agg #[.slice none 0 0, .slice none 0 0]) ∧ fieldT Try.prog 86 0 = some (0, 84) ∧ fieldT Try.prog 86 1 = some (1, 54) ∧ buildOk Try.prog 86 = true ∧ und Try.prog 87 = .ptr 97 ∧ tk Try.prog 87 = some (false, 1) ∧ sz Try.prog 87 = some 1 ∧ nb Try.prog 87 = some 8 ∧ zeroV Try.prog 87 = some (.pointer none) ∧ und Try.prog 88 = .func ∧ und Try.prog 89 = .struct ∧ tk Try.prog 89 = some (true, 3) ∧ sz Try.prog 89 = some 3 ∧ nb Try.prog 89 = some 24 ∧ zeroV Try.prog 89 = some (.agg #[.pointer none, .bool false, .int .i64 0]) ∧ fieldT Try.prog 89 0 = some (0, 87) ∧ fieldT Try.prog 89 1 = some (1, 4) ∧ fieldT Try.prog 89 2 = some (2, 3) ∧ buildOk Try.prog 89 = true ∧ und Try.prog 90 = .struct ∧ tk Try.prog 90 = some (true, 3) ∧ sz Try.prog 90 = some 3 ∧ nb Try.prog 90 = some 24 ∧ zeroV Try.prog 90 = some (.agg #[.pointer none, .bool false, .int .i64 0]) ∧ fieldT Try.prog 90 0 = some (0, 87) ∧ fieldT Try.prog 90 1 = some (1, 4) ∧ fieldT Try.prog 90 2 = some (2, 3)) ∧ (buildOk Try.prog 90 = true ∧ und Try.prog 91 = .func ∧ und Try.prog 92 = .func ∧ und Try.prog 93 = .func ∧ und Try.prog 94 = .func ∧ und Try.prog 95 = .ptr 90 ∧ tk Try.prog 95 = some (false, 1) ∧ sz Try.prog 95 = some 1 ∧ nb Try.prog 95 = some 8 ∧ zeroV Try.prog 95 = some (.pointer none) ∧ und Try.prog 96 = .struct ∧ tk Try.prog 96 = some (true, 16) ∧ sz Try.prog 96 = some 16 ∧ nb Try.prog 96 = some 128 ∧ zeroV Try.prog 96 = some (.agg (rep 16 (.int .i64 0)).toArray) ∧ fieldT Try.prog 96 0 = some (0, 60) ∧ buildOk Try.prog 96 = true ∧ kinds Try.prog 96 = some [.int, .int, .int, .int, .int, .int, .int, .int, .int, .int, .int, .int, .int, .int, .int, .int] ∧ und Try.prog 97 = .struct ∧ tk Try.prog 97 = some (true, 16) ∧ sz Try.prog 97 = some 16 ∧ nb Try.prog 97 = some 128 ∧ zeroV Try.prog 97 = some (.agg (rep 16 (.int .i64 0)).toArray) ∧ fieldT Try.prog 97 0 = some (0, 60) ∧ buildOk Try.prog 97 = true ∧ kinds Try.prog 97 = some [.int, .int, .int, .int, .int, .int, .int, .int, .int, .int, .int, .int, .int, .int, .int, .int] ∧ und Try.prog 98 = .func ∧ und Try.prog 99 = .func ∧ und Try.prog 101 = .func ∧ und Try.prog 103 = .func ∧ und Try.prog 104 = .func ∧ und Try.prog 105 = .slice 26 ∧ tk Try.prog 105 = some (false, 1) ∧ sz Try.prog 105 = some 1 ∧ nb Try.prog 105 = some 24 ∧ zeroV Try.prog 105 = some (.slice none 0 0) ∧ und Try.prog 106 = .func ∧ und Try.prog 107 = .func ∧ und Try.prog 108 = .func ∧ und Try.prog 109 = .func) ∧ (und Try.prog 110 = .func ∧ und Try.prog 111 = .func ∧ und Try.prog 112 = .func ∧ und Try.prog 113 = .func ∧ und Try.prog 114 = .func ∧ und Try.prog 115 = .arr 4 2 ∧ tk Try.prog 115 = some (true, 4) ∧ sz Try.prog 115 = some 4 ∧ nb Try.prog 115 = some 32 ∧ zeroV Try.prog 115 = some (.agg #[.int .i64 0, .int .i64 0, .int .i64 0, .int .i64 0]) ∧ buildOk Try.prog 115 = true ∧ kinds Try.prog 115 = some [.int, .int, .int, .int] ∧ und Try.prog 116 = .slice 115 ∧ tk Try.prog 116 = some (false, 1) ∧ sz Try.prog 116 = some 1 ∧ nb Try.prog 116 = some 24 ∧ zeroV Try.prog 116 = some (.slice none 0 0) ∧ und Try.prog 117 = .slice 3 ∧ tk Try.prog 117 = some (false, 1) ∧ sz Try.prog 117 = some 1 ∧ nb Try.prog 117 = some 24 ∧ zeroV Try.prog 117 = some (.slice none 0 0) ∧ und Try.prog 118 = .func ∧ und Try.prog 119 = .map 9 4 ∧ tk Try.prog 119 = some (false, 1) ∧ sz Try.prog 119 = some 1 ∧ nb Try.prog 119 = some 8 ∧ zeroV Try.prog 119 = some (.map none) ∧ und Try.prog 120 = .func ∧ und Try.prog 121 = .func ∧ und Try.prog 122 = .func ∧ und Try.prog 124 = .func ∧ und Try.prog 125 = .func ∧ und Try.prog 126 = .func ∧ und Try.prog 127 = .func ∧ und Try.prog 128 = .func ∧ und Try.prog 129 = .func ∧ und Try.prog 130 = .func ∧ und Try.prog 131 = .func ∧ und Try.prog 132 = .func) ∧ (und Try.prog 133 = .slice 39 ∧ tk Try.prog 133 = some (false, 1) ∧ sz Try.prog 133 = some 1 ∧ nb Try.prog 133 = some 24 ∧ zeroV Try.prog 133 = some (.slice none 0 0) ∧ und Try.prog 134 = .func ∧ und Try.prog 135 = .func ∧ und Try.prog 136 = .func ∧ und Try.prog 137 = .func ∧ und Try.prog 138 = .func ∧ und Try.prog 139 = .func ∧ und Try.prog 140 = .func ∧ und Try.prog 141 = .int .u64 ∧ tk Try.prog 141 = some (false, 1) ∧ sz Try.prog 141 = some 1 ∧ nb Try.prog 141 = some 8 ∧ zeroV Try.prog 141 = some (.int .u64 0) ∧ und Try.prog 142 = .func ∧ und Try.prog 143 = .func ∧ und Try.prog 144 = .int .i64 ∧ tk Try.prog 144 = some (false, 1) ∧ sz Try.prog 144 = some 1 ∧ nb Try.prog 144 = some 8 ∧ zeroV Try.prog 144 = some (.int .i64 0) ∧ und Try.prog 146 = .func ∧ und Try.prog 147 = .func ∧ und Try.prog 148 = .func ∧ und Try.prog 149 = .func ∧ und Try.prog 150 = .func ∧ und Try.prog 151 = .func ∧ und Try.prog 152 = .int .u64 ∧ tk Try.prog 152 = some (false, 1) ∧ sz Try.prog 152 = some 1 ∧ nb Try.prog 152 = some 8 ∧ zeroV Try.prog 152 = some (.int .u64 0) ∧ und Try.prog 153 = .int .u64 ∧ tk Try.prog 153 = some (false, 1) ∧ sz Try.prog 153 = some 1 ∧ nb Try.prog 153 = some 8 ∧ zeroV Try.prog 153 = some (.int .u64 0)) ∧ (und Try.prog 154 = .func ∧ und Try.prog 155 = .func ∧ und Try.prog 156 = .func ∧ und Try.prog 157 = .ptr 3 ∧ tk Try.prog 157 = some (false, 1) ∧ sz Try.prog 157 = some 1 ∧ nb Try.prog 157 = some 8 ∧ zeroV Try.prog 157 = some (.pointer none) ∧ und Try.prog 158 = .func ∧ und Try.prog 159 = .ptr 153 ∧ tk Try.prog 159 = some (false, 1) ∧ sz Try.prog 159 = some 1 ∧ nb Try.prog 159 = some 8 ∧ zeroV Try.prog 159 = some (.pointer none) ∧ und Try.prog 161 = .func ∧ und Try.prog 162 = .func ∧ und Try.prog 168 = .func ∧ und Try.prog 171 = .func ∧ und Try.prog 172 = .ptr 5 ∧ tk Try.prog 172 = some (false, 1) ∧ sz Try.prog 172 = some 1 ∧ nb Try.prog 172 = some 8 ∧ zeroV Try.prog 172 = some (.pointer none) ∧ und Try.prog 177 = .func ∧ Try.prog.follows .mixedOrders = true ∧ callable Try.prog 3 = true ∧ callable Try.prog 4 = true ∧ callable Try.prog 5 = true ∧ callable Try.prog 6 = true ∧ callable Try.prog 7 = true ∧ callable Try.prog 8 = true ∧ callable Try.prog 9 = true ∧ callable Try.prog 10 = true ∧ callable Try.prog 11 = true ∧ callable Try.prog 12 = true ∧ callable Try.prog 13 = true ∧ callable Try.prog 14 = true ∧ callable Try.prog 15 = true ∧ callable Try.prog 16 = true ∧ callable Try.prog 17 = true) ∧ (callable Try.prog 18 = true ∧ callable Try.prog 19 = true ∧ callable Try.prog 20 = true ∧ callable Try.prog 21 = true ∧ callable Try.prog 22 = true ∧ callable Try.prog 23 = true ∧ callable Try.prog 24 = true ∧ callable Try.prog 25 = true ∧ callable Try.prog 26 = true ∧ callable Try.prog 27 = true ∧ callable Try.prog 28 = true ∧ callable Try.prog 29 = true ∧ callable Try.prog 30 = true ∧ callable Try.prog 31 = true ∧ callable Try.prog 32 = true ∧ callable Try.prog 33 = true ∧ callable Try.prog 34 = true ∧ callable Try.prog 35 = true ∧ callable Try.prog 36 = true ∧ callable Try.prog 37 = true ∧ callable Try.prog 38 = true ∧ callable Try.prog 39 = true ∧ callable Try.prog 40 = true ∧ callable Try.prog 41 = true ∧ callable Try.prog 42 = true ∧ callable Try.prog 43 = true ∧ callable Try.prog 44 = true ∧ callable Try.prog 45 = true ∧ callable Try.prog 46 = true ∧ callable Try.prog 47 = true ∧ callable Try.prog 48 = true ∧ callable Try.prog 49 = true ∧ callable Try.prog 50 = true ∧ callable Try.prog 51 = true ∧ callable Try.prog 52 = true ∧ callable Try.prog 53 = true ∧ callable Try.prog 54 = true ∧ callable Try.prog 55 = true ∧ callable Try.prog 56 = true ∧ callable Try.prog 57 = true) ∧ (callable Try.prog 58 = true ∧ callable Try.prog 59 = true ∧ callable Try.prog 60 = true ∧ callable Try.prog 61 = true ∧ callable Try.prog 62 = true ∧ callable Try.prog 63 = true ∧ callable Try.prog 64 = true ∧ callable Try.prog 65 = true ∧ callable Try.prog 66 = true ∧ callable Try.prog 67 = true ∧ callable Try.prog 68 = true ∧ callable Try.prog 69 = true ∧ callable Try.prog 70 = true ∧ callable Try.prog 71 = true ∧ callable Try.prog 72 = true ∧ callable Try.prog 73 = true ∧ callable Try.prog 74 = true ∧ callable Try.prog 75 = true ∧ callable Try.prog 76 = true ∧ callable Try.prog 77 = true ∧ callable Try.prog 78 = true ∧ callable Try.prog 79 = true ∧ callable Try.prog 80 = true ∧ callable Try.prog 81 = true ∧ callable Try.prog 82 = true ∧ callable Try.prog 83 = true ∧ callable Try.prog 84 = true ∧ callable Try.prog 85 = true ∧ callable Try.prog 86 = true ∧ callable Try.prog 87 = true ∧ callable Try.prog 88 = true ∧ callable Try.prog 89 = true ∧ callable Try.prog 90 = true ∧ callable Try.prog 91 = true ∧ callable Try.prog 92 = true ∧ callable Try.prog 93 = true ∧ callable Try.prog 94 = true ∧ callable Try.prog 95 = true ∧ callable Try.prog 96 = true ∧ callable Try.prog 97 = true) ∧ (callable Try.prog 98 = true ∧ callable Try.prog 99 = true ∧ callable Try.prog 100 = true ∧ callable Try.prog 116 = false ∧ callable Try.prog 117 = false ∧ callable Try.prog 118 = false ∧ callable Try.prog 119 = false) := ⟨facts0, facts1, facts2, facts3, facts4, facts5, facts6, facts7, facts8, facts9, facts10, facts11, facts12, facts13, facts14, facts15, facts16⟩
end Go.Proofs.Ythaggpicjpkjiaa.GL
