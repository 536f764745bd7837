/- Closed facts on this seat's types and functions, printed by gltypes.py out of the translation. -/
import Derived.Test.YtdeffhibolcebaaGlH
import Derived.Test.YtdeffhibolcebaaProg
namespace Go.Proofs.Ytdeffhibolcebaa.GL
open Go
theorem facts0_0 : und Try.prog 1 = .func := by kernel_rfl
theorem facts0_1 : und Try.prog 2 = .int .i64 := by kernel_rfl
theorem facts0_2 : tk Try.prog 2 = some (false, 1) := by kernel_rfl
theorem facts0_3 : sz Try.prog 2 = some 1 := by kernel_rfl
theorem facts0_4 : nb Try.prog 2 = some 8 := by kernel_rfl
theorem facts0_5 : zeroV Try.prog 2 = some (.int .i64 0) := by kernel_rfl
theorem facts0_6 : und Try.prog 3 = .int .i64 := by kernel_rfl
theorem facts0_7 : tk Try.prog 3 = some (false, 1) := by kernel_rfl
theorem facts0_8 : sz Try.prog 3 = some 1 := by kernel_rfl
theorem facts0_9 : nb Try.prog 3 = some 8 := by kernel_rfl
theorem facts0_10 : zeroV Try.prog 3 = some (.int .i64 0) := by kernel_rfl
theorem facts0_11 : und Try.prog 4 = .bool := by kernel_rfl
theorem facts0_12 : tk Try.prog 4 = some (false, 1) := by kernel_rfl
theorem facts0_13 : sz Try.prog 4 = some 1 := by kernel_rfl
theorem facts0_14 : nb Try.prog 4 = some 1 := by kernel_rfl
theorem facts0_15 : zeroV Try.prog 4 = some (.bool false) := by kernel_rfl
theorem facts0_16 : und Try.prog 5 = .int .u8 := by kernel_rfl
theorem facts0_17 : tk Try.prog 5 = some (false, 1) := by kernel_rfl
theorem facts0_18 : sz Try.prog 5 = some 1 := by kernel_rfl
theorem facts0_19 : nb Try.prog 5 = some 1 := by kernel_rfl
theorem facts0_20 : zeroV Try.prog 5 = some (.int .u8 0) := by kernel_rfl
theorem facts0_21 : und Try.prog 9 = .str := by kernel_rfl
theorem facts0_22 : tk Try.prog 9 = some (false, 1) := by kernel_rfl
theorem facts0_23 : sz Try.prog 9 = some 1 := by kernel_rfl
theorem facts0_24 : nb Try.prog 9 = some 16 := by kernel_rfl
theorem facts0_25 : zeroV Try.prog 9 = some (.string ByteArray.empty) := by kernel_rfl
theorem facts0_26 : und Try.prog 12 = .int .u64 := by kernel_rfl
theorem facts0_27 : tk Try.prog 12 = some (false, 1) := by kernel_rfl
theorem facts0_28 : sz Try.prog 12 = some 1 := by kernel_rfl
theorem facts0_29 : nb Try.prog 12 = some 8 := by kernel_rfl
theorem facts0_30 : zeroV Try.prog 12 = some (.int .u64 0) := by kernel_rfl
theorem facts0_31 : und Try.prog 13 = .struct := by kernel_rfl
theorem facts0_32 : tk Try.prog 13 = some (true, 2) := by kernel_rfl
theorem facts0_33 : sz Try.prog 13 = some 2 := by kernel_rfl
theorem facts0_34 : nb Try.prog 13 = some 24 := by kernel_rfl
theorem facts0_35 : zeroV Try.prog 13 = some (.agg #[.string ByteArray.empty, .int .u64 0]) := by kernel_rfl
theorem facts0_36 : fieldT Try.prog 13 0 = some (0, 9) := by kernel_rfl
theorem facts0_37 : fieldT Try.prog 13 1 = some (1, 12) := by kernel_rfl
theorem facts0_38 : buildOk Try.prog 13 = true := by kernel_rfl
theorem facts0_39 : und Try.prog 21 = .int .i32 := by kernel_rfl
theorem facts0 : und Try.prog 1 = .func ∧ und Try.prog 2 = .int .i64 ∧ tk Try.prog 2 = some (false, 1) ∧ sz Try.prog 2 = some 1 ∧ nb Try.prog 2 = some 8 ∧ zeroV Try.prog 2 = some (.int .i64 0) ∧ und Try.prog 3 = .int .i64 ∧ tk Try.prog 3 = some (false, 1) ∧ sz Try.prog 3 = some 1 ∧ nb Try.prog 3 = some 8 ∧ zeroV Try.prog 3 = some (.int .i64 0) ∧ und Try.prog 4 = .bool ∧ tk Try.prog 4 = some (false, 1) ∧ sz Try.prog 4 = some 1 ∧ nb Try.prog 4 = some 1 ∧ zeroV Try.prog 4 = some (.bool false) ∧ und Try.prog 5 = .int .u8 ∧ tk Try.prog 5 = some (false, 1) ∧ sz Try.prog 5 = some 1 ∧ nb Try.prog 5 = some 1 ∧ zeroV Try.prog 5 = some (.int .u8 0) ∧ und Try.prog 9 = .str ∧ tk Try.prog 9 = some (false, 1) ∧ sz Try.prog 9 = some 1 ∧ nb Try.prog 9 = some 16 ∧ zeroV Try.prog 9 = some (.string ByteArray.empty) ∧ und Try.prog 12 = .int .u64 ∧ tk Try.prog 12 = some (false, 1) ∧ sz Try.prog 12 = some 1 ∧ nb Try.prog 12 = some 8 ∧ zeroV Try.prog 12 = some (.int .u64 0) ∧ und Try.prog 13 = .struct ∧ tk Try.prog 13 = some (true, 2) ∧ sz Try.prog 13 = some 2 ∧ nb Try.prog 13 = some 24 ∧ zeroV Try.prog 13 = some (.agg #[.string ByteArray.empty, .int .u64 0]) ∧ fieldT Try.prog 13 0 = some (0, 9) ∧ fieldT Try.prog 13 1 = some (1, 12) ∧ buildOk Try.prog 13 = true ∧ und Try.prog 21 = .int .i32 := ⟨facts0_0, facts0_1, facts0_2, facts0_3, facts0_4, facts0_5, facts0_6, facts0_7, facts0_8, facts0_9, facts0_10, facts0_11, facts0_12, facts0_13, facts0_14, facts0_15, facts0_16, facts0_17, facts0_18, facts0_19, facts0_20, facts0_21, facts0_22, facts0_23, facts0_24, facts0_25, facts0_26, facts0_27, facts0_28, facts0_29, facts0_30, facts0_31, facts0_32, facts0_33, facts0_34, facts0_35, facts0_36, facts0_37, facts0_38, facts0_39⟩
theorem facts1_0 : tk Try.prog 21 = some (false, 1) := by kernel_rfl
theorem facts1_1 : sz Try.prog 21 = some 1 := by kernel_rfl
theorem facts1_2 : nb Try.prog 21 = some 4 := by kernel_rfl
theorem facts1_3 : zeroV Try.prog 21 = some (.int .i32 0) := by kernel_rfl
theorem facts1_4 : und Try.prog 22 = .slice 5 := by kernel_rfl
theorem facts1_5 : tk Try.prog 22 = some (false, 1) := by kernel_rfl
theorem facts1_6 : sz Try.prog 22 = some 1 := by kernel_rfl
theorem facts1_7 : nb Try.prog 22 = some 24 := by kernel_rfl
theorem facts1_8 : zeroV Try.prog 22 = some (.slice none 0 0) := by kernel_rfl
theorem facts1_9 : und Try.prog 23 = .slice 2 := by kernel_rfl
theorem facts1_10 : tk Try.prog 23 = some (false, 1) := by kernel_rfl
theorem facts1_11 : sz Try.prog 23 = some 1 := by kernel_rfl
theorem facts1_12 : nb Try.prog 23 = some 24 := by kernel_rfl
theorem facts1_13 : zeroV Try.prog 23 = some (.slice none 0 0) := by kernel_rfl
theorem facts1_14 : und Try.prog 24 = .slice 34 := by kernel_rfl
theorem facts1_15 : tk Try.prog 24 = some (false, 1) := by kernel_rfl
theorem facts1_16 : sz Try.prog 24 = some 1 := by kernel_rfl
theorem facts1_17 : nb Try.prog 24 = some 24 := by kernel_rfl
theorem facts1_18 : zeroV Try.prog 24 = some (.slice none 0 0) := by kernel_rfl
theorem facts1_19 : und Try.prog 25 = .func := by kernel_rfl
theorem facts1_20 : und Try.prog 26 = .slice 9 := by kernel_rfl
theorem facts1_21 : tk Try.prog 26 = some (false, 1) := by kernel_rfl
theorem facts1_22 : sz Try.prog 26 = some 1 := by kernel_rfl
theorem facts1_23 : nb Try.prog 26 = some 24 := by kernel_rfl
theorem facts1_24 : zeroV Try.prog 26 = some (.slice none 0 0) := by kernel_rfl
theorem facts1_25 : und Try.prog 27 = .func := by kernel_rfl
theorem facts1_26 : und Try.prog 28 = .ptr 56 := by kernel_rfl
theorem facts1_27 : tk Try.prog 28 = some (false, 1) := by kernel_rfl
theorem facts1_28 : sz Try.prog 28 = some 1 := by kernel_rfl
theorem facts1_29 : nb Try.prog 28 = some 8 := by kernel_rfl
theorem facts1_30 : zeroV Try.prog 28 = some (.pointer none) := by kernel_rfl
theorem facts1_31 : und Try.prog 29 = .func := by kernel_rfl
theorem facts1_32 : und Try.prog 30 = .ptr 44 := by kernel_rfl
theorem facts1_33 : tk Try.prog 30 = some (false, 1) := by kernel_rfl
theorem facts1_34 : sz Try.prog 30 = some 1 := by kernel_rfl
theorem facts1_35 : nb Try.prog 30 = some 8 := by kernel_rfl
theorem facts1_36 : zeroV Try.prog 30 = some (.pointer none) := by kernel_rfl
theorem facts1_37 : und Try.prog 31 = .func := by kernel_rfl
theorem facts1_38 : und Try.prog 32 = .int .u16 := by kernel_rfl
theorem facts1_39 : tk Try.prog 32 = some (false, 1) := by kernel_rfl
theorem facts1 : tk Try.prog 21 = some (false, 1) ∧ sz Try.prog 21 = some 1 ∧ nb Try.prog 21 = some 4 ∧ zeroV Try.prog 21 = some (.int .i32 0) ∧ und Try.prog 22 = .slice 5 ∧ tk Try.prog 22 = some (false, 1) ∧ sz Try.prog 22 = some 1 ∧ nb Try.prog 22 = some 24 ∧ zeroV Try.prog 22 = some (.slice none 0 0) ∧ und Try.prog 23 = .slice 2 ∧ tk Try.prog 23 = some (false, 1) ∧ sz Try.prog 23 = some 1 ∧ nb Try.prog 23 = some 24 ∧ zeroV Try.prog 23 = some (.slice none 0 0) ∧ und Try.prog 24 = .slice 34 ∧ tk Try.prog 24 = some (false, 1) ∧ sz Try.prog 24 = some 1 ∧ nb Try.prog 24 = some 24 ∧ zeroV Try.prog 24 = some (.slice none 0 0) ∧ und Try.prog 25 = .func ∧ und Try.prog 26 = .slice 9 ∧ tk Try.prog 26 = some (false, 1) ∧ sz Try.prog 26 = some 1 ∧ nb Try.prog 26 = some 24 ∧ zeroV Try.prog 26 = some (.slice none 0 0) ∧ und Try.prog 27 = .func ∧ und Try.prog 28 = .ptr 56 ∧ tk Try.prog 28 = some (false, 1) ∧ sz Try.prog 28 = some 1 ∧ nb Try.prog 28 = some 8 ∧ zeroV Try.prog 28 = some (.pointer none) ∧ und Try.prog 29 = .func ∧ und Try.prog 30 = .ptr 44 ∧ tk Try.prog 30 = some (false, 1) ∧ sz Try.prog 30 = some 1 ∧ nb Try.prog 30 = some 8 ∧ zeroV Try.prog 30 = some (.pointer none) ∧ und Try.prog 31 = .func ∧ und Try.prog 32 = .int .u16 ∧ tk Try.prog 32 = some (false, 1) := ⟨facts1_0, facts1_1, facts1_2, facts1_3, facts1_4, facts1_5, facts1_6, facts1_7, facts1_8, facts1_9, facts1_10, facts1_11, facts1_12, facts1_13, facts1_14, facts1_15, facts1_16, facts1_17, facts1_18, facts1_19, facts1_20, facts1_21, facts1_22, facts1_23, facts1_24, facts1_25, facts1_26, facts1_27, facts1_28, facts1_29, facts1_30, facts1_31, facts1_32, facts1_33, facts1_34, facts1_35, facts1_36, facts1_37, facts1_38, facts1_39⟩
theorem facts2_0 : sz Try.prog 32 = some 1 := by kernel_rfl
theorem facts2_1 : nb Try.prog 32 = some 2 := by kernel_rfl
theorem facts2_2 : zeroV Try.prog 32 = some (.int .u16 0) := by kernel_rfl
theorem facts2_3 : und Try.prog 33 = .struct := by kernel_rfl
theorem facts2_4 : tk Try.prog 33 = some (true, 6) := by kernel_rfl
theorem facts2_5 : sz Try.prog 33 = some 6 := by kernel_rfl
theorem facts2_6 : nb Try.prog 33 = some 32 := by kernel_rfl
theorem facts2_7 : zeroV Try.prog 33 = some (.agg #[.int .u8 0, .int .u8 0, .int .u8 0, .int .i64 0, .int .i64 0, .int .u16 0]) := by kernel_rfl
theorem facts2_8 : fieldT Try.prog 33 0 = some (0, 5) := by kernel_rfl
theorem facts2_9 : fieldT Try.prog 33 1 = some (1, 5) := by kernel_rfl
theorem facts2_10 : fieldT Try.prog 33 2 = some (2, 5) := by kernel_rfl
theorem facts2_11 : fieldT Try.prog 33 3 = some (3, 2) := by kernel_rfl
theorem facts2_12 : fieldT Try.prog 33 4 = some (4, 2) := by kernel_rfl
theorem facts2_13 : fieldT Try.prog 33 5 = some (5, 32) := by kernel_rfl
theorem facts2_14 : buildOk Try.prog 33 = true := by kernel_rfl
theorem facts2_15 : kinds Try.prog 33 = some [.int, .int, .int, .int, .int, .int] := by kernel_rfl
theorem facts2_16 : und Try.prog 34 = .struct := by kernel_rfl
theorem facts2_17 : tk Try.prog 34 = some (true, 6) := by kernel_rfl
theorem facts2_18 : sz Try.prog 34 = some 6 := by kernel_rfl
theorem facts2_19 : nb Try.prog 34 = some 32 := by kernel_rfl
theorem facts2_20 : zeroV Try.prog 34 = some (.agg #[.int .u8 0, .int .u8 0, .int .u8 0, .int .i64 0, .int .i64 0, .int .u16 0]) := by kernel_rfl
theorem facts2_21 : fieldT Try.prog 34 0 = some (0, 5) := by kernel_rfl
theorem facts2_22 : fieldT Try.prog 34 1 = some (1, 5) := by kernel_rfl
theorem facts2_23 : fieldT Try.prog 34 2 = some (2, 5) := by kernel_rfl
theorem facts2_24 : fieldT Try.prog 34 3 = some (3, 2) := by kernel_rfl
theorem facts2_25 : fieldT Try.prog 34 4 = some (4, 2) := by kernel_rfl
theorem facts2_26 : fieldT Try.prog 34 5 = some (5, 32) := by kernel_rfl
theorem facts2_27 : buildOk Try.prog 34 = true := by kernel_rfl
theorem facts2_28 : kinds Try.prog 34 = some [.int, .int, .int, .int, .int, .int] := by kernel_rfl
theorem facts2_29 : und Try.prog 35 = .func := by kernel_rfl
theorem facts2_30 : und Try.prog 36 = .int .u32 := by kernel_rfl
theorem facts2_31 : tk Try.prog 36 = some (false, 1) := by kernel_rfl
theorem facts2_32 : sz Try.prog 36 = some 1 := by kernel_rfl
theorem facts2_33 : nb Try.prog 36 = some 4 := by kernel_rfl
theorem facts2_34 : zeroV Try.prog 36 = some (.int .u32 0) := by kernel_rfl
theorem facts2_35 : und Try.prog 37 = .struct := by kernel_rfl
theorem facts2_36 : tk Try.prog 37 = some (true, 2) := by kernel_rfl
theorem facts2_37 : sz Try.prog 37 = some 2 := by kernel_rfl
theorem facts2_38 : nb Try.prog 37 = some 8 := by kernel_rfl
theorem facts2_39 : zeroV Try.prog 37 = some (.agg #[.int .u16 0, .int .u32 0]) := by kernel_rfl
theorem facts2 : sz Try.prog 32 = some 1 ∧ nb Try.prog 32 = some 2 ∧ zeroV Try.prog 32 = some (.int .u16 0) ∧ und Try.prog 33 = .struct ∧ tk Try.prog 33 = some (true, 6) ∧ sz Try.prog 33 = some 6 ∧ nb Try.prog 33 = some 32 ∧ zeroV Try.prog 33 = some (.agg #[.int .u8 0, .int .u8 0, .int .u8 0, .int .i64 0, .int .i64 0, .int .u16 0]) ∧ fieldT Try.prog 33 0 = some (0, 5) ∧ fieldT Try.prog 33 1 = some (1, 5) ∧ fieldT Try.prog 33 2 = some (2, 5) ∧ fieldT Try.prog 33 3 = some (3, 2) ∧ fieldT Try.prog 33 4 = some (4, 2) ∧ fieldT Try.prog 33 5 = some (5, 32) ∧ buildOk Try.prog 33 = true ∧ kinds Try.prog 33 = some [.int, .int, .int, .int, .int, .int] ∧ und Try.prog 34 = .struct ∧ tk Try.prog 34 = some (true, 6) ∧ sz Try.prog 34 = some 6 ∧ nb Try.prog 34 = some 32 ∧ zeroV Try.prog 34 = some (.agg #[.int .u8 0, .int .u8 0, .int .u8 0, .int .i64 0, .int .i64 0, .int .u16 0]) ∧ fieldT Try.prog 34 0 = some (0, 5) ∧ fieldT Try.prog 34 1 = some (1, 5) ∧ fieldT Try.prog 34 2 = some (2, 5) ∧ fieldT Try.prog 34 3 = some (3, 2) ∧ fieldT Try.prog 34 4 = some (4, 2) ∧ fieldT Try.prog 34 5 = some (5, 32) ∧ buildOk Try.prog 34 = true ∧ kinds Try.prog 34 = some [.int, .int, .int, .int, .int, .int] ∧ und Try.prog 35 = .func ∧ und Try.prog 36 = .int .u32 ∧ tk Try.prog 36 = some (false, 1) ∧ sz Try.prog 36 = some 1 ∧ nb Try.prog 36 = some 4 ∧ zeroV Try.prog 36 = some (.int .u32 0) ∧ und Try.prog 37 = .struct ∧ tk Try.prog 37 = some (true, 2) ∧ sz Try.prog 37 = some 2 ∧ nb Try.prog 37 = some 8 ∧ zeroV Try.prog 37 = some (.agg #[.int .u16 0, .int .u32 0]) := ⟨facts2_0, facts2_1, facts2_2, facts2_3, facts2_4, facts2_5, facts2_6, facts2_7, facts2_8, facts2_9, facts2_10, facts2_11, facts2_12, facts2_13, facts2_14, facts2_15, facts2_16, facts2_17, facts2_18, facts2_19, facts2_20, facts2_21, facts2_22, facts2_23, facts2_24, facts2_25, facts2_26, facts2_27, facts2_28, facts2_29, facts2_30, facts2_31, facts2_32, facts2_33, facts2_34, facts2_35, facts2_36, facts2_37, facts2_38, facts2_39⟩
theorem facts3_0 : fieldT Try.prog 37 0 = some (0, 32) := by kernel_rfl
theorem facts3_1 : fieldT Try.prog 37 1 = some (1, 36) := by kernel_rfl
theorem facts3_2 : buildOk Try.prog 37 = true := by kernel_rfl
theorem facts3_3 : kinds Try.prog 37 = some [.int, .int] := by kernel_rfl
theorem facts3_4 : und Try.prog 38 = .struct := by kernel_rfl
theorem facts3_5 : tk Try.prog 38 = some (true, 2) := by kernel_rfl
theorem facts3_6 : sz Try.prog 38 = some 2 := by kernel_rfl
theorem facts3_7 : nb Try.prog 38 = some 8 := by kernel_rfl
theorem facts3_8 : zeroV Try.prog 38 = some (.agg #[.int .u16 0, .int .u32 0]) := by kernel_rfl
theorem facts3_9 : fieldT Try.prog 38 0 = some (0, 32) := by kernel_rfl
theorem facts3_10 : fieldT Try.prog 38 1 = some (1, 36) := by kernel_rfl
theorem facts3_11 : buildOk Try.prog 38 = true := by kernel_rfl
theorem facts3_12 : kinds Try.prog 38 = some [.int, .int] := by kernel_rfl
theorem facts3_13 : und Try.prog 39 = .func := by kernel_rfl
theorem facts3_14 : und Try.prog 40 = .func := by kernel_rfl
theorem facts3_15 : und Try.prog 41 = .slice 38 := by kernel_rfl
theorem facts3_16 : tk Try.prog 41 = some (false, 1) := by kernel_rfl
theorem facts3_17 : sz Try.prog 41 = some 1 := by kernel_rfl
theorem facts3_18 : nb Try.prog 41 = some 24 := by kernel_rfl
theorem facts3_19 : zeroV Try.prog 41 = some (.slice none 0 0) := by kernel_rfl
theorem facts3_20 : und Try.prog 42 = .slice 3 := by kernel_rfl
theorem facts3_21 : tk Try.prog 42 = some (false, 1) := by kernel_rfl
theorem facts3_22 : sz Try.prog 42 = some 1 := by kernel_rfl
theorem facts3_23 : nb Try.prog 42 = some 24 := by kernel_rfl
theorem facts3_24 : zeroV Try.prog 42 = some (.slice none 0 0) := by kernel_rfl
theorem facts3_25 : und Try.prog 43 = .struct := by kernel_rfl
theorem facts3_26 : tk Try.prog 43 = some (true, 6) := by kernel_rfl
theorem facts3_27 : sz Try.prog 43 = some 6 := by kernel_rfl
theorem facts3_28 : nb Try.prog 43 = some 144 := by kernel_rfl
theorem facts3_29 : zeroV Try.prog 43 = some (.agg #[.slice none 0 0, .slice none 0 0, .slice none 0 0, .slice none 0 0, .slice none 0 0, .slice none 0 0]) := by kernel_rfl
theorem facts3_30 : fieldT Try.prog 43 0 = some (0, 26) := by kernel_rfl
theorem facts3_31 : fieldT Try.prog 43 1 = some (1, 23) := by kernel_rfl
theorem facts3_32 : fieldT Try.prog 43 2 = some (2, 41) := by kernel_rfl
theorem facts3_33 : fieldT Try.prog 43 3 = some (3, 26) := by kernel_rfl
theorem facts3_34 : fieldT Try.prog 43 4 = some (4, 42) := by kernel_rfl
theorem facts3_35 : fieldT Try.prog 43 5 = some (5, 23) := by kernel_rfl
theorem facts3_36 : buildOk Try.prog 43 = true := by kernel_rfl
theorem facts3_37 : und Try.prog 44 = .struct := by kernel_rfl
theorem facts3_38 : tk Try.prog 44 = some (true, 6) := by kernel_rfl
theorem facts3_39 : sz Try.prog 44 = some 6 := by kernel_rfl
theorem facts3 : fieldT Try.prog 37 0 = some (0, 32) ∧ fieldT Try.prog 37 1 = some (1, 36) ∧ buildOk Try.prog 37 = true ∧ kinds Try.prog 37 = some [.int, .int] ∧ und Try.prog 38 = .struct ∧ tk Try.prog 38 = some (true, 2) ∧ sz Try.prog 38 = some 2 ∧ nb Try.prog 38 = some 8 ∧ zeroV Try.prog 38 = some (.agg #[.int .u16 0, .int .u32 0]) ∧ fieldT Try.prog 38 0 = some (0, 32) ∧ fieldT Try.prog 38 1 = some (1, 36) ∧ buildOk Try.prog 38 = true ∧ kinds Try.prog 38 = some [.int, .int] ∧ und Try.prog 39 = .func ∧ und Try.prog 40 = .func ∧ und Try.prog 41 = .slice 38 ∧ tk Try.prog 41 = some (false, 1) ∧ sz Try.prog 41 = some 1 ∧ nb Try.prog 41 = some 24 ∧ zeroV Try.prog 41 = some (.slice none 0 0) ∧ und Try.prog 42 = .slice 3 ∧ tk Try.prog 42 = some (false, 1) ∧ sz Try.prog 42 = some 1 ∧ nb Try.prog 42 = some 24 ∧ zeroV Try.prog 42 = some (.slice none 0 0) ∧ und Try.prog 43 = .struct ∧ tk Try.prog 43 = some (true, 6) ∧ sz Try.prog 43 = some 6 ∧ nb Try.prog 43 = some 144 ∧ zeroV Try.prog 43 = some (.agg #[.slice none 0 0, .slice none 0 0, .slice none 0 0, .slice none 0 0, .slice none 0 0, .slice none 0 0]) ∧ fieldT Try.prog 43 0 = some (0, 26) ∧ fieldT Try.prog 43 1 = some (1, 23) ∧ fieldT Try.prog 43 2 = some (2, 41) ∧ fieldT Try.prog 43 3 = some (3, 26) ∧ fieldT Try.prog 43 4 = some (4, 42) ∧ fieldT Try.prog 43 5 = some (5, 23) ∧ buildOk Try.prog 43 = true ∧ und Try.prog 44 = .struct ∧ tk Try.prog 44 = some (true, 6) ∧ sz Try.prog 44 = some 6 := ⟨facts3_0, facts3_1, facts3_2, facts3_3, facts3_4, facts3_5, facts3_6, facts3_7, facts3_8, facts3_9, facts3_10, facts3_11, facts3_12, facts3_13, facts3_14, facts3_15, facts3_16, facts3_17, facts3_18, facts3_19, facts3_20, facts3_21, facts3_22, facts3_23, facts3_24, facts3_25, facts3_26, facts3_27, facts3_28, facts3_29, facts3_30, facts3_31, facts3_32, facts3_33, facts3_34, facts3_35, facts3_36, facts3_37, facts3_38, facts3_39⟩
theorem facts4_0 : nb Try.prog 44 = some 144 := by kernel_rfl
theorem facts4_1 : zeroV Try.prog 44 = some (.agg #[.slice none 0 0, .slice none 0 0, .slice none 0 0, .slice none 0 0, .slice none 0 0, .slice none 0 0]) := by kernel_rfl
theorem facts4_2 : fieldT Try.prog 44 0 = some (0, 26) := by kernel_rfl
theorem facts4_3 : fieldT Try.prog 44 1 = some (1, 23) := by kernel_rfl
theorem facts4_4 : fieldT Try.prog 44 2 = some (2, 41) := by kernel_rfl
theorem facts4_5 : fieldT Try.prog 44 3 = some (3, 26) := by kernel_rfl
theorem facts4_6 : fieldT Try.prog 44 4 = some (4, 42) := by kernel_rfl
theorem facts4_7 : fieldT Try.prog 44 5 = some (5, 23) := by kernel_rfl
theorem facts4_8 : buildOk Try.prog 44 = true := by kernel_rfl
theorem facts4_9 : und Try.prog 45 = .func := by kernel_rfl
theorem facts4_10 : und Try.prog 46 = .func := by kernel_rfl
theorem facts4_11 : und Try.prog 48 = .func := by kernel_rfl
theorem facts4_12 : und Try.prog 49 = .func := by kernel_rfl
theorem facts4_13 : und Try.prog 50 = .slice 32 := by kernel_rfl
theorem facts4_14 : tk Try.prog 50 = some (false, 1) := by kernel_rfl
theorem facts4_15 : sz Try.prog 50 = some 1 := by kernel_rfl
theorem facts4_16 : nb Try.prog 50 = some 24 := by kernel_rfl
theorem facts4_17 : zeroV Try.prog 50 = some (.slice none 0 0) := by kernel_rfl
theorem facts4_18 : und Try.prog 51 = .func := by kernel_rfl
theorem facts4_19 : und Try.prog 52 = .func := by kernel_rfl
theorem facts4_20 : und Try.prog 53 = .map 9 2 := by kernel_rfl
theorem facts4_21 : tk Try.prog 53 = some (false, 1) := by kernel_rfl
theorem facts4_22 : sz Try.prog 53 = some 1 := by kernel_rfl
theorem facts4_23 : nb Try.prog 53 = some 8 := by kernel_rfl
theorem facts4_24 : zeroV Try.prog 53 = some (.map none) := by kernel_rfl
theorem facts4_25 : und Try.prog 54 = .map 38 59 := by kernel_rfl
theorem facts4_26 : tk Try.prog 54 = some (false, 1) := by kernel_rfl
theorem facts4_27 : sz Try.prog 54 = some 1 := by kernel_rfl
theorem facts4_28 : nb Try.prog 54 = some 8 := by kernel_rfl
theorem facts4_29 : zeroV Try.prog 54 = some (.map none) := by kernel_rfl
theorem facts4_30 : und Try.prog 55 = .struct := by kernel_rfl
theorem facts4_31 : tk Try.prog 55 = some (true, 2) := by kernel_rfl
theorem facts4_32 : sz Try.prog 55 = some 2 := by kernel_rfl
theorem facts4_33 : nb Try.prog 55 = some 16 := by kernel_rfl
theorem facts4_34 : zeroV Try.prog 55 = some (.agg #[.map none, .map none]) := by kernel_rfl
theorem facts4_35 : fieldT Try.prog 55 0 = some (0, 53) := by kernel_rfl
theorem facts4_36 : fieldT Try.prog 55 1 = some (1, 54) := by kernel_rfl
theorem facts4_37 : buildOk Try.prog 55 = true := by kernel_rfl
theorem facts4_38 : und Try.prog 56 = .struct := by kernel_rfl
theorem facts4_39 : tk Try.prog 56 = some (true, 2) := by kernel_rfl
theorem facts4 : nb Try.prog 44 = some 144 ∧ zeroV Try.prog 44 = some (.agg #[.slice none 0 0, .slice none 0 0, .slice none 0 0, .slice none 0 0, .slice none 0 0, .slice none 0 0]) ∧ fieldT Try.prog 44 0 = some (0, 26) ∧ fieldT Try.prog 44 1 = some (1, 23) ∧ fieldT Try.prog 44 2 = some (2, 41) ∧ fieldT Try.prog 44 3 = some (3, 26) ∧ fieldT Try.prog 44 4 = some (4, 42) ∧ fieldT Try.prog 44 5 = some (5, 23) ∧ buildOk Try.prog 44 = true ∧ und Try.prog 45 = .func ∧ und Try.prog 46 = .func ∧ und Try.prog 48 = .func ∧ und Try.prog 49 = .func ∧ und Try.prog 50 = .slice 32 ∧ tk Try.prog 50 = some (false, 1) ∧ sz Try.prog 50 = some 1 ∧ nb Try.prog 50 = some 24 ∧ zeroV Try.prog 50 = some (.slice none 0 0) ∧ und Try.prog 51 = .func ∧ und Try.prog 52 = .func ∧ und Try.prog 53 = .map 9 2 ∧ tk Try.prog 53 = some (false, 1) ∧ sz Try.prog 53 = some 1 ∧ nb Try.prog 53 = some 8 ∧ zeroV Try.prog 53 = some (.map none) ∧ und Try.prog 54 = .map 38 59 ∧ tk Try.prog 54 = some (false, 1) ∧ sz Try.prog 54 = some 1 ∧ nb Try.prog 54 = some 8 ∧ zeroV Try.prog 54 = some (.map none) ∧ und Try.prog 55 = .struct ∧ tk Try.prog 55 = some (true, 2) ∧ sz Try.prog 55 = some 2 ∧ nb Try.prog 55 = some 16 ∧ zeroV Try.prog 55 = some (.agg #[.map none, .map none]) ∧ fieldT Try.prog 55 0 = some (0, 53) ∧ fieldT Try.prog 55 1 = some (1, 54) ∧ buildOk Try.prog 55 = true ∧ und Try.prog 56 = .struct ∧ tk Try.prog 56 = some (true, 2) := ⟨facts4_0, facts4_1, facts4_2, facts4_3, facts4_4, facts4_5, facts4_6, facts4_7, facts4_8, facts4_9, facts4_10, facts4_11, facts4_12, facts4_13, facts4_14, facts4_15, facts4_16, facts4_17, facts4_18, facts4_19, facts4_20, facts4_21, facts4_22, facts4_23, facts4_24, facts4_25, facts4_26, facts4_27, facts4_28, facts4_29, facts4_30, facts4_31, facts4_32, facts4_33, facts4_34, facts4_35, facts4_36, facts4_37, facts4_38, facts4_39⟩
theorem facts5_0 : sz Try.prog 56 = some 2 := by kernel_rfl
theorem facts5_1 : nb Try.prog 56 = some 16 := by kernel_rfl
theorem facts5_2 : zeroV Try.prog 56 = some (.agg #[.map none, .map none]) := by kernel_rfl
theorem facts5_3 : fieldT Try.prog 56 0 = some (0, 53) := by kernel_rfl
theorem facts5_4 : fieldT Try.prog 56 1 = some (1, 54) := by kernel_rfl
theorem facts5_5 : buildOk Try.prog 56 = true := by kernel_rfl
theorem facts5_6 : und Try.prog 57 = .func := by kernel_rfl
theorem facts5_7 : und Try.prog 58 = .struct := by kernel_rfl
theorem facts5_8 : tk Try.prog 58 = some (true, 3) := by kernel_rfl
theorem facts5_9 : sz Try.prog 58 = some 3 := by kernel_rfl
theorem facts5_10 : nb Try.prog 58 = some 40 := by kernel_rfl
theorem facts5_11 : zeroV Try.prog 58 = some (.agg #[.string ByteArray.empty, .string ByteArray.empty, .int .i64 0]) := by kernel_rfl
theorem facts5_12 : fieldT Try.prog 58 0 = some (0, 9) := by kernel_rfl
theorem facts5_13 : fieldT Try.prog 58 1 = some (1, 9) := by kernel_rfl
theorem facts5_14 : fieldT Try.prog 58 2 = some (2, 2) := by kernel_rfl
theorem facts5_15 : buildOk Try.prog 58 = true := by kernel_rfl
theorem facts5_16 : kinds Try.prog 58 = some [.str, .str, .int] := by kernel_rfl
theorem facts5_17 : und Try.prog 59 = .struct := by kernel_rfl
theorem facts5_18 : tk Try.prog 59 = some (true, 3) := by kernel_rfl
theorem facts5_19 : sz Try.prog 59 = some 3 := by kernel_rfl
theorem facts5_20 : nb Try.prog 59 = some 40 := by kernel_rfl
theorem facts5_21 : zeroV Try.prog 59 = some (.agg #[.string ByteArray.empty, .string ByteArray.empty, .int .i64 0]) := by kernel_rfl
theorem facts5_22 : fieldT Try.prog 59 0 = some (0, 9) := by kernel_rfl
theorem facts5_23 : fieldT Try.prog 59 1 = some (1, 9) := by kernel_rfl
theorem facts5_24 : fieldT Try.prog 59 2 = some (2, 2) := by kernel_rfl
theorem facts5_25 : buildOk Try.prog 59 = true := by kernel_rfl
theorem facts5_26 : kinds Try.prog 59 = some [.str, .str, .int] := by kernel_rfl
theorem facts5_27 : und Try.prog 61 = .func := by kernel_rfl
theorem facts5_28 : und Try.prog 62 = .func := by kernel_rfl
theorem facts5_29 : und Try.prog 63 = .func := by kernel_rfl
theorem facts5_30 : und Try.prog 64 = .func := by kernel_rfl
theorem facts5_31 : und Try.prog 70 = .func := by kernel_rfl
theorem facts5_32 : und Try.prog 73 = .func := by kernel_rfl
theorem facts5_33 : und Try.prog 74 = .ptr 5 := by kernel_rfl
theorem facts5_34 : tk Try.prog 74 = some (false, 1) := by kernel_rfl
theorem facts5_35 : sz Try.prog 74 = some 1 := by kernel_rfl
theorem facts5_36 : nb Try.prog 74 = some 8 := by kernel_rfl
theorem facts5_37 : zeroV Try.prog 74 = some (.pointer none) := by kernel_rfl
theorem facts5_38 : Try.prog.follows .mixedOrders = true := by kernel_rfl
theorem facts5_39 : callable Try.prog 3 = true := by kernel_rfl
theorem facts5 : sz Try.prog 56 = some 2 ∧ nb Try.prog 56 = some 16 ∧ zeroV Try.prog 56 = some (.agg #[.map none, .map none]) ∧ fieldT Try.prog 56 0 = some (0, 53) ∧ fieldT Try.prog 56 1 = some (1, 54) ∧ buildOk Try.prog 56 = true ∧ und Try.prog 57 = .func ∧ und Try.prog 58 = .struct ∧ tk Try.prog 58 = some (true, 3) ∧ sz Try.prog 58 = some 3 ∧ nb Try.prog 58 = some 40 ∧ zeroV Try.prog 58 = some (.agg #[.string ByteArray.empty, .string ByteArray.empty, .int .i64 0]) ∧ fieldT Try.prog 58 0 = some (0, 9) ∧ fieldT Try.prog 58 1 = some (1, 9) ∧ fieldT Try.prog 58 2 = some (2, 2) ∧ buildOk Try.prog 58 = true ∧ kinds Try.prog 58 = some [.str, .str, .int] ∧ und Try.prog 59 = .struct ∧ tk Try.prog 59 = some (true, 3) ∧ sz Try.prog 59 = some 3 ∧ nb Try.prog 59 = some 40 ∧ zeroV Try.prog 59 = some (.agg #[.string ByteArray.empty, .string ByteArray.empty, .int .i64 0]) ∧ fieldT Try.prog 59 0 = some (0, 9) ∧ fieldT Try.prog 59 1 = some (1, 9) ∧ fieldT Try.prog 59 2 = some (2, 2) ∧ buildOk Try.prog 59 = true ∧ kinds Try.prog 59 = some [.str, .str, .int] ∧ und Try.prog 61 = .func ∧ und Try.prog 62 = .func ∧ und Try.prog 63 = .func ∧ und Try.prog 64 = .func ∧ und Try.prog 70 = .func ∧ und Try.prog 73 = .func ∧ und Try.prog 74 = .ptr 5 ∧ tk Try.prog 74 = some (false, 1) ∧ sz Try.prog 74 = some 1 ∧ nb Try.prog 74 = some 8 ∧ zeroV Try.prog 74 = some (.pointer none) ∧ Try.prog.follows .mixedOrders = true ∧ callable Try.prog 3 = true := ⟨facts5_0, facts5_1, facts5_2, facts5_3, facts5_4, facts5_5, facts5_6, facts5_7, facts5_8, facts5_9, facts5_10, facts5_11, facts5_12, facts5_13, facts5_14, facts5_15, facts5_16, facts5_17, facts5_18, facts5_19, facts5_20, facts5_21, facts5_22, facts5_23, facts5_24, facts5_25, facts5_26, facts5_27, facts5_28, facts5_29, facts5_30, facts5_31, facts5_32, facts5_33, facts5_34, facts5_35, facts5_36, facts5_37, facts5_38, facts5_39⟩
theorem facts6_0 : callable Try.prog 4 = true := by kernel_rfl
theorem facts6_1 : callable Try.prog 5 = true := by kernel_rfl
theorem facts6_2 : callable Try.prog 6 = true := by kernel_rfl
theorem facts6_3 : callable Try.prog 7 = true := by kernel_rfl
theorem facts6_4 : callable Try.prog 8 = true := by kernel_rfl
theorem facts6_5 : callable Try.prog 9 = true := by kernel_rfl
theorem facts6_6 : callable Try.prog 10 = true := by kernel_rfl
theorem facts6_7 : callable Try.prog 11 = true := by kernel_rfl
theorem facts6_8 : callable Try.prog 12 = true := by kernel_rfl
theorem facts6_9 : callable Try.prog 13 = true := by kernel_rfl
theorem facts6_10 : callable Try.prog 14 = true := by kernel_rfl
theorem facts6_11 : callable Try.prog 15 = true := by kernel_rfl
theorem facts6_12 : callable Try.prog 16 = true := by kernel_rfl
theorem facts6_13 : callable Try.prog 17 = true := by kernel_rfl
theorem facts6_14 : callable Try.prog 18 = true := by kernel_rfl
theorem facts6_15 : callable Try.prog 19 = true := by kernel_rfl
theorem facts6_16 : callable Try.prog 20 = true := by kernel_rfl
theorem facts6_17 : callable Try.prog 21 = true := by kernel_rfl
theorem facts6_18 : callable Try.prog 22 = true := by kernel_rfl
theorem facts6 : callable Try.prog 4 = true ∧ callable Try.prog 5 = true ∧ callable Try.prog 6 = true ∧ callable Try.prog 7 = true ∧ callable Try.prog 8 = true ∧ callable Try.prog 9 = true ∧ callable Try.prog 10 = true ∧ callable Try.prog 11 = true ∧ callable Try.prog 12 = true ∧ callable Try.prog 13 = true ∧ callable Try.prog 14 = true ∧ callable Try.prog 15 = true ∧ callable Try.prog 16 = true ∧ callable Try.prog 17 = true ∧ callable Try.prog 18 = true ∧ callable Try.prog 19 = true ∧ callable Try.prog 20 = true ∧ callable Try.prog 21 = true ∧ callable Try.prog 22 = true := ⟨facts6_0, facts6_1, facts6_2, facts6_3, facts6_4, facts6_5, facts6_6, facts6_7, facts6_8, facts6_9, facts6_10, facts6_11, facts6_12, facts6_13, facts6_14, facts6_15, facts6_16, facts6_17, facts6_18⟩
theorem facts : (und Try.prog 1 = .func ∧ und Try.prog 2 = .int .i64 ∧ tk Try.prog 2 = some (false, 1) ∧ sz Try.prog 2 = some 1 ∧ nb Try.prog 2 = some 8 ∧ zeroV Try.prog 2 = some (.int .i64 0) ∧ und Try.prog 3 = .int .i64 ∧ tk Try.prog 3 = some (false, 1) ∧ sz Try.prog 3 = some 1 ∧ nb Try.prog 3 = some 8 ∧ zeroV Try.prog 3 = some (.int .i64 0) ∧ und Try.prog 4 = .bool ∧ tk Try.prog 4 = some (false, 1) ∧ sz Try.prog 4 = some 1 ∧ nb Try.prog 4 = some 1 ∧ zeroV Try.prog 4 = some (.bool false) ∧ und Try.prog 5 = .int .u8 ∧ tk Try.prog 5 = some (false, 1) ∧ sz Try.prog 5 = some 1 ∧ nb Try.prog 5 = some 1 ∧ zeroV Try.prog 5 = some (.int .u8 0) ∧ und Try.prog 9 = .str ∧ tk Try.prog 9 = some (false, 1) ∧ sz Try.prog 9 = some 1 ∧ nb Try.prog 9 = some 16 ∧ zeroV Try.prog 9 = some (.string ByteArray.empty) ∧ und Try.prog 12 = .int .u64 ∧ tk Try.prog 12 = some (false, 1) ∧ sz Try.prog 12 = some 1 ∧ nb Try.prog 12 = some 8 ∧ zeroV Try.prog 12 = some (.int .u64 0) ∧ und Try.prog 13 = .struct ∧ tk Try.prog 13 = some (true, 2) ∧ sz Try.prog 13 = some 2 ∧ nb Try.prog 13 = some 24 ∧ zeroV Try.prog 13 = some (.agg #[.string ByteArray.empty, .int .u64 0]) ∧ fieldT Try.prog 13 0 = some (0, 9) ∧ fieldT Try.prog 13 1 = some (1, 12) ∧ buildOk Try.prog 13 = true ∧ und Try.prog 21 = .int .i32) ∧ (tk Try.prog 21 = some (false, 1) ∧ sz Try.prog 21 = some 1 ∧ nb Try.prog 21 = some 4 ∧ zeroV Try.prog 21 = some (.int .i32 0) ∧ und Try.prog 22 = .slice 5 ∧ tk Try.prog 22 = some (false, 1) ∧ sz Try.prog 22 = some 1 ∧ nb Try.prog 22 = some 24 ∧ zeroV Try.prog 22 = some (.slice none 0 0) ∧ und Try.prog 23 = .slice 2 ∧ tk Try.prog 23 = some (false, 1) ∧ sz Try.prog 23 = some 1 ∧ nb Try.prog 23 = some 24 ∧ zeroV Try.prog 23 = some (.slice none 0 0) ∧ und Try.prog 24 = .slice 34 ∧ tk Try.prog 24 = some (false, 1) ∧ sz Try.prog 24 = some 1 ∧ nb Try.prog 24 = some 24 ∧ zeroV Try.prog 24 = some (.slice none 0 0) ∧ und Try.prog 25 = .func ∧ und Try.prog 26 = .slice 9 ∧ tk Try.prog 26 = some (false, 1) ∧ sz Try.prog 26 = some 1 ∧ nb Try.prog 26 = some 24 ∧ zeroV Try.prog 26 = some (.slice none 0 0) ∧ und Try.prog 27 = .func ∧ und Try.prog 28 = .ptr 56 ∧ tk Try.prog 28 = some (false, 1) ∧ sz Try.prog 28 = some 1 ∧ nb Try.prog 28 = some 8 ∧ zeroV Try.prog 28 = some (.pointer none) ∧ und Try.prog 29 = .func ∧ und Try.prog 30 = .ptr 44 ∧ tk Try.prog 30 = some (false, 1) ∧ sz Try.prog 30 = some 1 ∧ nb Try.prog 30 = some 8 ∧ zeroV Try.prog 30 = some (.pointer none) ∧ und Try.prog 31 = .func ∧ und Try.prog 32 = .int .u16 ∧ tk Try.prog 32 = some (false, 1)) ∧ (sz Try.prog 32 = some 1 ∧ nb Try.prog 32 = some 2 ∧ zeroV Try.prog 32 = some (.int .u16 0) ∧ und Try.prog 33 = .struct ∧ tk Try.prog 33 = some (true, 6) ∧ sz Try.prog 33 = some 6 ∧ nb Try.prog 33 = some 32 ∧ zeroV Try.prog 33 = some (.agg #[.int .u8 0, .int .u8 0, .int .u8 0, .int .i64 0, .int .i64 0, .int .u16 0]) ∧ fieldT Try.prog 33 0 = some (0, 5) ∧ fieldT Try.prog 33 1 = some (1, 5) ∧ fieldT Try.prog 33 2 = some (2, 5) ∧ fieldT Try.prog 33 3 = some (3, 2) ∧ fieldT Try.prog 33 4 = some (4, 2) ∧ fieldT Try.prog 33 5 = some (5, 32) ∧ buildOk Try.prog 33 = true ∧ kinds Try.prog 33 = some [.int, .int, .int, .int, .int, .int] ∧ und Try.prog 34 = .struct ∧ tk Try.prog 34 = some (true, 6) ∧ sz Try.prog 34 = some 6 ∧ nb Try.prog 34 = some 32 ∧ zeroV Try.prog 34 = some (.agg #[.int .u8 0, .int .u8 0, .int .u8 0, .int .i64 0, .int .i64 0, .int .u16 0]) ∧ fieldT Try.prog 34 0 = some (0, 5) ∧ fieldT Try.prog 34 1 = some (1, 5) ∧ fieldT Try.prog 34 2 = some (2, 5) ∧ fieldT Try.prog 34 3 = some (3, 2) ∧ fieldT Try.prog 34 4 = some (4, 2) ∧ fieldT Try.prog 34 5 = some (5, 32) ∧ buildOk Try.prog 34 = true ∧ kinds Try.prog 34 = some [.int, .int, .int, .int, .int, .int] ∧ und Try.prog 35 = .func ∧ und Try.prog 36 = .int .u32 ∧ tk Try.prog 36 = some (false, 1) ∧ sz Try.prog 36 = some 1 ∧ nb Try.prog 36 = some 4 ∧ zeroV Try.prog 36 = some (.int .u32 0) ∧ und Try.prog 37 = .struct ∧ tk Try.prog 37 = some (true, 2) ∧ sz Try.prog 37 = some 2 ∧ nb Try.prog 37 = some 8 ∧ zeroV Try.prog 37 = some (.agg #[.int .u16 0, .int .u32 0])) ∧ (fieldT Try.prog 37 0 = some (0, 32) ∧ fieldT Try.prog 37 1 = some (1, 36) ∧ buildOk Try.prog 37 = true ∧ kinds Try.prog 37 = some [.int, .int] ∧ und Try.prog 38 = .struct ∧ tk Try.prog 38 = some (true, 2) ∧ sz Try.prog 38 = some 2 ∧ nb Try.prog 38 = some 8 ∧ zeroV Try.prog 38 = some (.agg #[.int .u16 0, .int .u32 0]) ∧ fieldT Try.prog 38 0 = some (0, 32) ∧ fieldT Try.prog 38 1 = some (1, 36) ∧ buildOk Try.prog 38 = true ∧ kinds Try.prog 38 = some [.int, .int] ∧ und Try.prog 39 = .func ∧ und Try.prog 40 = .func ∧ und Try.prog 41 = .slice 38 ∧ tk Try.prog 41 = some (false, 1) ∧ sz Try.prog 41 = some 1 ∧ nb Try.prog 41 = some 24 ∧ zeroV Try.prog 41 = some (.slice none 0 0) ∧ und Try.prog 42 = .slice 3 ∧ tk Try.prog 42 = some (false, 1) ∧ sz Try.prog 42 = some 1 ∧ nb Try.prog 42 = some 24 ∧ zeroV Try.prog 42 = some (.slice none 0 0) ∧ und Try.prog 43 = .struct ∧ tk Try.prog 43 = some (true, 6) ∧ sz Try.prog 43 = some 6 ∧ nb Try.prog 43 = some 144 ∧ zeroV Try.prog 43 = some (.agg #[.slice none 0 0, .slice none 0 0, .slice none 0 0, .slice none 0 0, .slice none 0 0, .slice none 0 0]) ∧ fieldT Try.prog 43 0 = some (0, 26) ∧ fieldT Try.prog 43 1 = some (1, 23) ∧ fieldT Try.prog 43 2 = some (2, 41) ∧ fieldT Try.prog 43 3 = some (3, 26) ∧ fieldT Try.prog 43 4 = some (4, 42) ∧ fieldT Try.prog 43 5 = some (5, 23) ∧ buildOk Try.prog 43 = true ∧ und Try.prog 44 = .struct ∧ tk Try.prog 44 = some (true, 6) ∧ sz Try.prog 44 = some 6) ∧ (nb Try.prog 44 = some 144 ∧ zeroV Try.prog 44 = some (.agg #[.slice none 0 0, .slice none 0 0, .slice none 0 0, .slice none 0 0, .slice none 0 0, .slice none 0 0]) ∧ fieldT Try.prog 44 0 = some (0, 26) ∧ fieldT Try.prog 44 1 = some (1, 23) ∧ fieldT Try.prog 44 2 = some (2, 41) ∧ fieldT Try.prog 44 3 = some (3, 26) ∧ fieldT Try.prog 44 4 = some (4, 42) ∧ fieldT Try.prog 44 5 = some (5, 23) ∧ buildOk Try.prog 44 = true ∧ und Try.prog 45 = .func ∧ und Try.prog 46 = .func ∧ und Try.prog 48 = .func ∧ und Try.prog 49 = .func ∧ und Try.prog 50 = .slice 32 ∧ tk Try.prog 50 = some (false, 1) ∧ sz Try.prog 50 = some 1 ∧ nb Try.prog 50 = some 24 ∧ zeroV Try.prog 50 = some (.slice none 0 0) ∧ und Try.prog 51 = .func ∧ und Try.prog 52 = .func ∧ und Try.prog 53 = .map 9 2 ∧ tk Try.prog 53 = some (false, 1) ∧ sz Try.prog 53 = some 1 ∧ nb Try.prog 53 = some 8 ∧ zeroV Try.prog 53 = some (.map none) ∧ und Try.prog 54 = .map 38 59 ∧ tk Try.prog 54 = some (false, 1) ∧ sz Try.prog 54 = some 1 ∧ nb Try.prog 54 = some 8 ∧ zeroV Try.prog 54 = some (.map none) ∧ und Try.prog 55 = .struct ∧ tk Try.prog 55 = some (true, 2) ∧ sz Try.prog 55 = some 2 ∧ nb Try.prog 55 = some 16 ∧ zeroV Try.prog 55 = some (.agg #[.map none, .map none]) ∧ fieldT Try.prog 55 0 = some (0, 53) ∧ fieldT Try.prog 55 1 = some (1, 54) ∧ buildOk Try.prog 55 = true ∧ und Try.prog 56 = .struct ∧ tk Try.prog 56 = some (true, 2)) ∧ (sz Try.prog 56 = some 2 ∧ nb Try.prog 56 = some 16 ∧ zeroV Try.prog 56 = some (.agg #[.map none, .map none]) ∧ fieldT Try.prog 56 0 = some (0, 53) ∧ fieldT Try.prog 56 1 = some (1, 54) ∧ buildOk Try.prog 56 = true ∧ und Try.prog 57 = .func ∧ und Try.prog 58 = .struct ∧ tk Try.prog 58 = some (true, 3) ∧ sz Try.prog 58 = some 3 ∧ nb Try.prog 58 = some 40 ∧ zeroV Try.prog 58 = some (.agg #[.string ByteArray.empty, .string ByteArray.empty, .int .i64 0]) ∧ fieldT Try.prog 58 0 = some (0, 9) ∧ fieldT Try.prog 58 1 = some (1, 9) ∧ fieldT Try.prog 58 2 = some (2, 2) ∧ buildOk Try.prog 58 = true ∧ kinds Try.prog 58 = some [.str, .str, .int] ∧ und Try.prog 59 = .struct ∧ tk Try.prog 59 = some (true, 3) ∧ sz Try.prog 59 = some 3 ∧ nb Try.prog 59 = some 40 ∧ zeroV Try.prog 59 = some (.agg #[.string ByteArray.empty, .string ByteArray.empty, .int .i64 0]) ∧ fieldT Try.prog 59 0 = some (0, 9) ∧ fieldT Try.prog 59 1 = some (1, 9) ∧ fieldT Try.prog 59 2 = some (2, 2) ∧ buildOk Try.prog 59 = true ∧ kinds Try.prog 59 = some [.str, .str, .int] ∧ und Try.prog 61 = .func ∧ und Try.prog 62 = .func ∧ und Try.prog 63 = .func ∧ und Try.prog 64 = .func ∧ und Try.prog 70 = .func ∧ und Try.prog 73 = .func ∧ und Try.prog 74 = .ptr 5 ∧ tk Try.prog 74 = some (false, 1) ∧ sz Try.prog 74 = some 1 ∧ nb Try.prog 74 = some 8 ∧ zeroV Try.prog 74 = some (.pointer none) ∧ Try.prog.follows .mixedOrders = true ∧ callable Try.prog 3 = true) ∧ (callable Try.prog 4 = true ∧ callable Try.prog 5 = true ∧ callable Try.prog 6 = true ∧ callable Try.prog 7 = true ∧ callable Try.prog 8 = true ∧ callable Try.prog 9 = true ∧ callable Try.prog 10 = true ∧ callable Try.prog 11 = true ∧ callable Try.prog 12 = true ∧ callable Try.prog 13 = true ∧ callable Try.prog 14 = true ∧ callable Try.prog 15 = true ∧ callable Try.prog 16 = true ∧ callable Try.prog 17 = true ∧ callable Try.prog 18 = true ∧ callable Try.prog 19 = true ∧ callable Try.prog 20 = true ∧ callable Try.prog 21 = true ∧ callable Try.prog 22 = true) := ⟨facts0, facts1, facts2, facts3, facts4, facts5, facts6⟩
end Go.Proofs.Ytdeffhibolcebaa.GL
