/- Closed facts on this seat's types and functions, printed by gltypes.py out of the translation. -/
import Derived.Test.YtodflnpiabhpeaaGlG
import Derived.Test.YtodflnpiabhpeaaProg
namespace Go.Proofs.Ytodflnpiabhpeaa.GL
open Go
theorem facts0_0 : und Try.prog 1 = .func := by kernel_rfl
theorem facts0_1 : und Try.prog 2 = .int .i64 := by kernel_rfl
theorem facts0_2 : tk Try.prog 2 = some (false, 1) := by kernel_rfl
theorem facts0_3 : sz Try.prog 2 = some 1 := by kernel_rfl
theorem facts0_4 : nb Try.prog 2 = some 8 := by kernel_rfl
theorem facts0_5 : zeroV Try.prog 2 = some (.int .i64 0) := by kernel_rfl
theorem facts0_6 : und Try.prog 3 = .int .i64 := by kernel_rfl
theorem facts0_7 : tk Try.prog 3 = some (false, 1) := by kernel_rfl
theorem facts0_8 : sz Try.prog 3 = some 1 := by kernel_rfl
theorem facts0_9 : nb Try.prog 3 = some 8 := by kernel_rfl
theorem facts0_10 : zeroV Try.prog 3 = some (.int .i64 0) := by kernel_rfl
theorem facts0_11 : und Try.prog 4 = .bool := by kernel_rfl
theorem facts0_12 : tk Try.prog 4 = some (false, 1) := by kernel_rfl
theorem facts0_13 : sz Try.prog 4 = some 1 := by kernel_rfl
theorem facts0_14 : nb Try.prog 4 = some 1 := by kernel_rfl
theorem facts0_15 : zeroV Try.prog 4 = some (.bool false) := by kernel_rfl
theorem facts0_16 : und Try.prog 5 = .int .u8 := by kernel_rfl
theorem facts0_17 : tk Try.prog 5 = some (false, 1) := by kernel_rfl
theorem facts0_18 : sz Try.prog 5 = some 1 := by kernel_rfl
theorem facts0_19 : nb Try.prog 5 = some 1 := by kernel_rfl
theorem facts0_20 : zeroV Try.prog 5 = some (.int .u8 0) := by kernel_rfl
theorem facts0_21 : und Try.prog 9 = .str := by kernel_rfl
theorem facts0_22 : tk Try.prog 9 = some (false, 1) := by kernel_rfl
theorem facts0_23 : sz Try.prog 9 = some 1 := by kernel_rfl
theorem facts0_24 : nb Try.prog 9 = some 16 := by kernel_rfl
theorem facts0_25 : zeroV Try.prog 9 = some (.string ByteArray.empty) := by kernel_rfl
theorem facts0_26 : und Try.prog 12 = .int .u64 := by kernel_rfl
theorem facts0_27 : tk Try.prog 12 = some (false, 1) := by kernel_rfl
theorem facts0_28 : sz Try.prog 12 = some 1 := by kernel_rfl
theorem facts0_29 : nb Try.prog 12 = some 8 := by kernel_rfl
theorem facts0_30 : zeroV Try.prog 12 = some (.int .u64 0) := by kernel_rfl
theorem facts0_31 : und Try.prog 13 = .struct := by kernel_rfl
theorem facts0_32 : tk Try.prog 13 = some (true, 2) := by kernel_rfl
theorem facts0_33 : sz Try.prog 13 = some 2 := by kernel_rfl
theorem facts0_34 : nb Try.prog 13 = some 24 := by kernel_rfl
theorem facts0_35 : zeroV Try.prog 13 = some (.agg #[.string ByteArray.empty, .int .u64 0]) := by kernel_rfl
theorem facts0_36 : fieldT Try.prog 13 0 = some (0, 9) := by kernel_rfl
theorem facts0_37 : fieldT Try.prog 13 1 = some (1, 12) := by kernel_rfl
theorem facts0_38 : buildOk Try.prog 13 = true := by kernel_rfl
theorem facts0_39 : und Try.prog 21 = .int .i32 := by kernel_rfl
theorem facts0 : und Try.prog 1 = .func ∧ und Try.prog 2 = .int .i64 ∧ tk Try.prog 2 = some (false, 1) ∧ sz Try.prog 2 = some 1 ∧ nb Try.prog 2 = some 8 ∧ zeroV Try.prog 2 = some (.int .i64 0) ∧ und Try.prog 3 = .int .i64 ∧ tk Try.prog 3 = some (false, 1) ∧ sz Try.prog 3 = some 1 ∧ nb Try.prog 3 = some 8 ∧ zeroV Try.prog 3 = some (.int .i64 0) ∧ und Try.prog 4 = .bool ∧ tk Try.prog 4 = some (false, 1) ∧ sz Try.prog 4 = some 1 ∧ nb Try.prog 4 = some 1 ∧ zeroV Try.prog 4 = some (.bool false) ∧ und Try.prog 5 = .int .u8 ∧ tk Try.prog 5 = some (false, 1) ∧ sz Try.prog 5 = some 1 ∧ nb Try.prog 5 = some 1 ∧ zeroV Try.prog 5 = some (.int .u8 0) ∧ und Try.prog 9 = .str ∧ tk Try.prog 9 = some (false, 1) ∧ sz Try.prog 9 = some 1 ∧ nb Try.prog 9 = some 16 ∧ zeroV Try.prog 9 = some (.string ByteArray.empty) ∧ und Try.prog 12 = .int .u64 ∧ tk Try.prog 12 = some (false, 1) ∧ sz Try.prog 12 = some 1 ∧ nb Try.prog 12 = some 8 ∧ zeroV Try.prog 12 = some (.int .u64 0) ∧ und Try.prog 13 = .struct ∧ tk Try.prog 13 = some (true, 2) ∧ sz Try.prog 13 = some 2 ∧ nb Try.prog 13 = some 24 ∧ zeroV Try.prog 13 = some (.agg #[.string ByteArray.empty, .int .u64 0]) ∧ fieldT Try.prog 13 0 = some (0, 9) ∧ fieldT Try.prog 13 1 = some (1, 12) ∧ buildOk Try.prog 13 = true ∧ und Try.prog 21 = .int .i32 := ⟨facts0_0, facts0_1, facts0_2, facts0_3, facts0_4, facts0_5, facts0_6, facts0_7, facts0_8, facts0_9, facts0_10, facts0_11, facts0_12, facts0_13, facts0_14, facts0_15, facts0_16, facts0_17, facts0_18, facts0_19, facts0_20, facts0_21, facts0_22, facts0_23, facts0_24, facts0_25, facts0_26, facts0_27, facts0_28, facts0_29, facts0_30, facts0_31, facts0_32, facts0_33, facts0_34, facts0_35, facts0_36, facts0_37, facts0_38, facts0_39⟩
theorem facts1_0 : tk Try.prog 21 = some (false, 1) := by kernel_rfl
theorem facts1_1 : sz Try.prog 21 = some 1 := by kernel_rfl
theorem facts1_2 : nb Try.prog 21 = some 4 := by kernel_rfl
theorem facts1_3 : zeroV Try.prog 21 = some (.int .i32 0) := by kernel_rfl
theorem facts1_4 : und Try.prog 22 = .slice 26 := by kernel_rfl
theorem facts1_5 : tk Try.prog 22 = some (false, 1) := by kernel_rfl
theorem facts1_6 : sz Try.prog 22 = some 1 := by kernel_rfl
theorem facts1_7 : nb Try.prog 22 = some 24 := by kernel_rfl
theorem facts1_8 : zeroV Try.prog 22 = some (.slice none 0 0) := by kernel_rfl
theorem facts1_9 : und Try.prog 23 = .func := by kernel_rfl
theorem facts1_10 : und Try.prog 24 = .ptr 43 := by kernel_rfl
theorem facts1_11 : tk Try.prog 24 = some (false, 1) := by kernel_rfl
theorem facts1_12 : sz Try.prog 24 = some 1 := by kernel_rfl
theorem facts1_13 : nb Try.prog 24 = some 8 := by kernel_rfl
theorem facts1_14 : zeroV Try.prog 24 = some (.pointer none) := by kernel_rfl
theorem facts1_15 : und Try.prog 25 = .func := by kernel_rfl
theorem facts1_16 : und Try.prog 26 = .slice 5 := by kernel_rfl
theorem facts1_17 : tk Try.prog 26 = some (false, 1) := by kernel_rfl
theorem facts1_18 : sz Try.prog 26 = some 1 := by kernel_rfl
theorem facts1_19 : nb Try.prog 26 = some 24 := by kernel_rfl
theorem facts1_20 : zeroV Try.prog 26 = some (.slice none 0 0) := by kernel_rfl
theorem facts1_21 : und Try.prog 27 = .func := by kernel_rfl
theorem facts1_22 : und Try.prog 28 = .struct := by kernel_rfl
theorem facts1_23 : tk Try.prog 28 = some (true, 3) := by kernel_rfl
theorem facts1_24 : sz Try.prog 28 = some 3 := by kernel_rfl
theorem facts1_25 : nb Try.prog 28 = some 40 := by kernel_rfl
theorem facts1_26 : zeroV Try.prog 28 = some (.agg #[.int .i64 0, .int .i64 0, .slice none 0 0]) := by kernel_rfl
theorem facts1_27 : fieldT Try.prog 28 0 = some (0, 3) := by kernel_rfl
theorem facts1_28 : fieldT Try.prog 28 1 = some (1, 3) := by kernel_rfl
theorem facts1_29 : fieldT Try.prog 28 2 = some (2, 26) := by kernel_rfl
theorem facts1_30 : buildOk Try.prog 28 = true := by kernel_rfl
theorem facts1_31 : und Try.prog 29 = .struct := by kernel_rfl
theorem facts1_32 : tk Try.prog 29 = some (true, 3) := by kernel_rfl
theorem facts1_33 : sz Try.prog 29 = some 3 := by kernel_rfl
theorem facts1_34 : nb Try.prog 29 = some 40 := by kernel_rfl
theorem facts1_35 : zeroV Try.prog 29 = some (.agg #[.int .i64 0, .int .i64 0, .slice none 0 0]) := by kernel_rfl
theorem facts1_36 : fieldT Try.prog 29 0 = some (0, 3) := by kernel_rfl
theorem facts1_37 : fieldT Try.prog 29 1 = some (1, 3) := by kernel_rfl
theorem facts1_38 : fieldT Try.prog 29 2 = some (2, 26) := by kernel_rfl
theorem facts1_39 : buildOk Try.prog 29 = true := by kernel_rfl
theorem facts1 : tk Try.prog 21 = some (false, 1) ∧ sz Try.prog 21 = some 1 ∧ nb Try.prog 21 = some 4 ∧ zeroV Try.prog 21 = some (.int .i32 0) ∧ und Try.prog 22 = .slice 26 ∧ tk Try.prog 22 = some (false, 1) ∧ sz Try.prog 22 = some 1 ∧ nb Try.prog 22 = some 24 ∧ zeroV Try.prog 22 = some (.slice none 0 0) ∧ und Try.prog 23 = .func ∧ und Try.prog 24 = .ptr 43 ∧ tk Try.prog 24 = some (false, 1) ∧ sz Try.prog 24 = some 1 ∧ nb Try.prog 24 = some 8 ∧ zeroV Try.prog 24 = some (.pointer none) ∧ und Try.prog 25 = .func ∧ und Try.prog 26 = .slice 5 ∧ tk Try.prog 26 = some (false, 1) ∧ sz Try.prog 26 = some 1 ∧ nb Try.prog 26 = some 24 ∧ zeroV Try.prog 26 = some (.slice none 0 0) ∧ und Try.prog 27 = .func ∧ und Try.prog 28 = .struct ∧ tk Try.prog 28 = some (true, 3) ∧ sz Try.prog 28 = some 3 ∧ nb Try.prog 28 = some 40 ∧ zeroV Try.prog 28 = some (.agg #[.int .i64 0, .int .i64 0, .slice none 0 0]) ∧ fieldT Try.prog 28 0 = some (0, 3) ∧ fieldT Try.prog 28 1 = some (1, 3) ∧ fieldT Try.prog 28 2 = some (2, 26) ∧ buildOk Try.prog 28 = true ∧ und Try.prog 29 = .struct ∧ tk Try.prog 29 = some (true, 3) ∧ sz Try.prog 29 = some 3 ∧ nb Try.prog 29 = some 40 ∧ zeroV Try.prog 29 = some (.agg #[.int .i64 0, .int .i64 0, .slice none 0 0]) ∧ fieldT Try.prog 29 0 = some (0, 3) ∧ fieldT Try.prog 29 1 = some (1, 3) ∧ fieldT Try.prog 29 2 = some (2, 26) ∧ buildOk Try.prog 29 = true := ⟨facts1_0, facts1_1, facts1_2, facts1_3, facts1_4, facts1_5, facts1_6, facts1_7, facts1_8, facts1_9, facts1_10, facts1_11, facts1_12, facts1_13, facts1_14, facts1_15, facts1_16, facts1_17, facts1_18, facts1_19, facts1_20, facts1_21, facts1_22, facts1_23, facts1_24, facts1_25, facts1_26, facts1_27, facts1_28, facts1_29, facts1_30, facts1_31, facts1_32, facts1_33, facts1_34, facts1_35, facts1_36, facts1_37, facts1_38, facts1_39⟩
theorem facts2_0 : und Try.prog 31 = .func := by kernel_rfl
theorem facts2_1 : und Try.prog 32 = .func := by kernel_rfl
theorem facts2_2 : und Try.prog 33 = .func := by kernel_rfl
theorem facts2_3 : und Try.prog 34 = .slice 36 := by kernel_rfl
theorem facts2_4 : tk Try.prog 34 = some (false, 1) := by kernel_rfl
theorem facts2_5 : sz Try.prog 34 = some 1 := by kernel_rfl
theorem facts2_6 : nb Try.prog 34 = some 24 := by kernel_rfl
theorem facts2_7 : zeroV Try.prog 34 = some (.slice none 0 0) := by kernel_rfl
theorem facts2_8 : und Try.prog 35 = .struct := by kernel_rfl
theorem facts2_9 : tk Try.prog 35 = some (true, 5) := by kernel_rfl
theorem facts2_10 : sz Try.prog 35 = some 5 := by kernel_rfl
theorem facts2_11 : nb Try.prog 35 = some 56 := by kernel_rfl
theorem facts2_12 : zeroV Try.prog 35 = some (.agg #[.int .u8 0, .int .i64 0, .int .i64 0, .int .i64 0, .slice none 0 0]) := by kernel_rfl
theorem facts2_13 : fieldT Try.prog 35 0 = some (0, 5) := by kernel_rfl
theorem facts2_14 : fieldT Try.prog 35 1 = some (1, 3) := by kernel_rfl
theorem facts2_15 : fieldT Try.prog 35 2 = some (2, 3) := by kernel_rfl
theorem facts2_16 : fieldT Try.prog 35 3 = some (3, 3) := by kernel_rfl
theorem facts2_17 : fieldT Try.prog 35 4 = some (4, 26) := by kernel_rfl
theorem facts2_18 : buildOk Try.prog 35 = true := by kernel_rfl
theorem facts2_19 : und Try.prog 36 = .struct := by kernel_rfl
theorem facts2_20 : tk Try.prog 36 = some (true, 5) := by kernel_rfl
theorem facts2_21 : sz Try.prog 36 = some 5 := by kernel_rfl
theorem facts2_22 : nb Try.prog 36 = some 56 := by kernel_rfl
theorem facts2_23 : zeroV Try.prog 36 = some (.agg #[.int .u8 0, .int .i64 0, .int .i64 0, .int .i64 0, .slice none 0 0]) := by kernel_rfl
theorem facts2_24 : fieldT Try.prog 36 0 = some (0, 5) := by kernel_rfl
theorem facts2_25 : fieldT Try.prog 36 1 = some (1, 3) := by kernel_rfl
theorem facts2_26 : fieldT Try.prog 36 2 = some (2, 3) := by kernel_rfl
theorem facts2_27 : fieldT Try.prog 36 3 = some (3, 3) := by kernel_rfl
theorem facts2_28 : fieldT Try.prog 36 4 = some (4, 26) := by kernel_rfl
theorem facts2_29 : buildOk Try.prog 36 = true := by kernel_rfl
theorem facts2_30 : und Try.prog 37 = .int .u64 := by kernel_rfl
theorem facts2_31 : tk Try.prog 37 = some (false, 1) := by kernel_rfl
theorem facts2_32 : sz Try.prog 37 = some 1 := by kernel_rfl
theorem facts2_33 : nb Try.prog 37 = some 8 := by kernel_rfl
theorem facts2_34 : zeroV Try.prog 37 = some (.int .u64 0) := by kernel_rfl
theorem facts2_35 : und Try.prog 38 = .func := by kernel_rfl
theorem facts2_36 : und Try.prog 39 = .slice 29 := by kernel_rfl
theorem facts2_37 : tk Try.prog 39 = some (false, 1) := by kernel_rfl
theorem facts2_38 : sz Try.prog 39 = some 1 := by kernel_rfl
theorem facts2_39 : nb Try.prog 39 = some 24 := by kernel_rfl
theorem facts2 : und Try.prog 31 = .func ∧ und Try.prog 32 = .func ∧ und Try.prog 33 = .func ∧ und Try.prog 34 = .slice 36 ∧ tk Try.prog 34 = some (false, 1) ∧ sz Try.prog 34 = some 1 ∧ nb Try.prog 34 = some 24 ∧ zeroV Try.prog 34 = some (.slice none 0 0) ∧ und Try.prog 35 = .struct ∧ tk Try.prog 35 = some (true, 5) ∧ sz Try.prog 35 = some 5 ∧ nb Try.prog 35 = some 56 ∧ zeroV Try.prog 35 = some (.agg #[.int .u8 0, .int .i64 0, .int .i64 0, .int .i64 0, .slice none 0 0]) ∧ fieldT Try.prog 35 0 = some (0, 5) ∧ fieldT Try.prog 35 1 = some (1, 3) ∧ fieldT Try.prog 35 2 = some (2, 3) ∧ fieldT Try.prog 35 3 = some (3, 3) ∧ fieldT Try.prog 35 4 = some (4, 26) ∧ buildOk Try.prog 35 = true ∧ und Try.prog 36 = .struct ∧ tk Try.prog 36 = some (true, 5) ∧ sz Try.prog 36 = some 5 ∧ nb Try.prog 36 = some 56 ∧ zeroV Try.prog 36 = some (.agg #[.int .u8 0, .int .i64 0, .int .i64 0, .int .i64 0, .slice none 0 0]) ∧ fieldT Try.prog 36 0 = some (0, 5) ∧ fieldT Try.prog 36 1 = some (1, 3) ∧ fieldT Try.prog 36 2 = some (2, 3) ∧ fieldT Try.prog 36 3 = some (3, 3) ∧ fieldT Try.prog 36 4 = some (4, 26) ∧ buildOk Try.prog 36 = true ∧ und Try.prog 37 = .int .u64 ∧ tk Try.prog 37 = some (false, 1) ∧ sz Try.prog 37 = some 1 ∧ nb Try.prog 37 = some 8 ∧ zeroV Try.prog 37 = some (.int .u64 0) ∧ und Try.prog 38 = .func ∧ und Try.prog 39 = .slice 29 ∧ tk Try.prog 39 = some (false, 1) ∧ sz Try.prog 39 = some 1 ∧ nb Try.prog 39 = some 24 := ⟨facts2_0, facts2_1, facts2_2, facts2_3, facts2_4, facts2_5, facts2_6, facts2_7, facts2_8, facts2_9, facts2_10, facts2_11, facts2_12, facts2_13, facts2_14, facts2_15, facts2_16, facts2_17, facts2_18, facts2_19, facts2_20, facts2_21, facts2_22, facts2_23, facts2_24, facts2_25, facts2_26, facts2_27, facts2_28, facts2_29, facts2_30, facts2_31, facts2_32, facts2_33, facts2_34, facts2_35, facts2_36, facts2_37, facts2_38, facts2_39⟩
theorem facts3_0 : zeroV Try.prog 39 = some (.slice none 0 0) := by kernel_rfl
theorem facts3_1 : und Try.prog 40 = .func := by kernel_rfl
theorem facts3_2 : und Try.prog 41 = .func := by kernel_rfl
theorem facts3_3 : und Try.prog 42 = .struct := by kernel_rfl
theorem facts3_4 : tk Try.prog 42 = some (true, 1) := by kernel_rfl
theorem facts3_5 : sz Try.prog 42 = some 1 := by kernel_rfl
theorem facts3_6 : nb Try.prog 42 = some 24 := by kernel_rfl
theorem facts3_7 : zeroV Try.prog 42 = some (.agg #[.slice none 0 0]) := by kernel_rfl
theorem facts3_8 : fieldT Try.prog 42 0 = some (0, 39) := by kernel_rfl
theorem facts3_9 : buildOk Try.prog 42 = true := by kernel_rfl
theorem facts3_10 : und Try.prog 43 = .struct := by kernel_rfl
theorem facts3_11 : tk Try.prog 43 = some (true, 1) := by kernel_rfl
theorem facts3_12 : sz Try.prog 43 = some 1 := by kernel_rfl
theorem facts3_13 : nb Try.prog 43 = some 24 := by kernel_rfl
theorem facts3_14 : zeroV Try.prog 43 = some (.agg #[.slice none 0 0]) := by kernel_rfl
theorem facts3_15 : fieldT Try.prog 43 0 = some (0, 39) := by kernel_rfl
theorem facts3_16 : buildOk Try.prog 43 = true := by kernel_rfl
theorem facts3_17 : und Try.prog 44 = .func := by kernel_rfl
theorem facts3_18 : und Try.prog 45 = .func := by kernel_rfl
theorem facts3_19 : und Try.prog 46 = .func := by kernel_rfl
theorem facts3_20 : und Try.prog 47 = .func := by kernel_rfl
theorem facts3_21 : und Try.prog 53 = .int .u32 := by kernel_rfl
theorem facts3_22 : tk Try.prog 53 = some (false, 1) := by kernel_rfl
theorem facts3_23 : sz Try.prog 53 = some 1 := by kernel_rfl
theorem facts3_24 : nb Try.prog 53 = some 4 := by kernel_rfl
theorem facts3_25 : zeroV Try.prog 53 = some (.int .u32 0) := by kernel_rfl
theorem facts3_26 : und Try.prog 56 = .func := by kernel_rfl
theorem facts3_27 : und Try.prog 57 = .ptr 5 := by kernel_rfl
theorem facts3_28 : tk Try.prog 57 = some (false, 1) := by kernel_rfl
theorem facts3_29 : sz Try.prog 57 = some 1 := by kernel_rfl
theorem facts3_30 : nb Try.prog 57 = some 8 := by kernel_rfl
theorem facts3_31 : zeroV Try.prog 57 = some (.pointer none) := by kernel_rfl
theorem facts3_32 : Try.prog.follows .mixedOrders = true := by kernel_rfl
theorem facts3_33 : callable Try.prog 3 = true := by kernel_rfl
theorem facts3_34 : callable Try.prog 4 = true := by kernel_rfl
theorem facts3_35 : callable Try.prog 5 = true := by kernel_rfl
theorem facts3_36 : callable Try.prog 6 = true := by kernel_rfl
theorem facts3_37 : callable Try.prog 7 = true := by kernel_rfl
theorem facts3_38 : callable Try.prog 8 = true := by kernel_rfl
theorem facts3_39 : callable Try.prog 9 = true := by kernel_rfl
theorem facts3 : zeroV Try.prog 39 = some (.slice none 0 0) ∧ und Try.prog 40 = .func ∧ und Try.prog 41 = .func ∧ und Try.prog 42 = .struct ∧ tk Try.prog 42 = some (true, 1) ∧ sz Try.prog 42 = some 1 ∧ nb Try.prog 42 = some 24 ∧ zeroV Try.prog 42 = some (.agg #[.slice none 0 0]) ∧ fieldT Try.prog 42 0 = some (0, 39) ∧ buildOk Try.prog 42 = true ∧ und Try.prog 43 = .struct ∧ tk Try.prog 43 = some (true, 1) ∧ sz Try.prog 43 = some 1 ∧ nb Try.prog 43 = some 24 ∧ zeroV Try.prog 43 = some (.agg #[.slice none 0 0]) ∧ fieldT Try.prog 43 0 = some (0, 39) ∧ buildOk Try.prog 43 = true ∧ und Try.prog 44 = .func ∧ und Try.prog 45 = .func ∧ und Try.prog 46 = .func ∧ und Try.prog 47 = .func ∧ und Try.prog 53 = .int .u32 ∧ tk Try.prog 53 = some (false, 1) ∧ sz Try.prog 53 = some 1 ∧ nb Try.prog 53 = some 4 ∧ zeroV Try.prog 53 = some (.int .u32 0) ∧ und Try.prog 56 = .func ∧ und Try.prog 57 = .ptr 5 ∧ tk Try.prog 57 = some (false, 1) ∧ sz Try.prog 57 = some 1 ∧ nb Try.prog 57 = some 8 ∧ zeroV Try.prog 57 = some (.pointer none) ∧ Try.prog.follows .mixedOrders = true ∧ callable Try.prog 3 = true ∧ callable Try.prog 4 = true ∧ callable Try.prog 5 = true ∧ callable Try.prog 6 = true ∧ callable Try.prog 7 = true ∧ callable Try.prog 8 = true ∧ callable Try.prog 9 = true := ⟨facts3_0, facts3_1, facts3_2, facts3_3, facts3_4, facts3_5, facts3_6, facts3_7, facts3_8, facts3_9, facts3_10, facts3_11, facts3_12, facts3_13, facts3_14, facts3_15, facts3_16, facts3_17, facts3_18, facts3_19, facts3_20, facts3_21, facts3_22, facts3_23, facts3_24, facts3_25, facts3_26, facts3_27, facts3_28, facts3_29, facts3_30, facts3_31, facts3_32, facts3_33, facts3_34, facts3_35, facts3_36, facts3_37, facts3_38, facts3_39⟩
theorem facts4_0 : callable Try.prog 10 = true := by kernel_rfl
theorem facts4_1 : callable Try.prog 11 = true := by kernel_rfl
theorem facts4_2 : callable Try.prog 12 = true := by kernel_rfl
theorem facts4_3 : callable Try.prog 13 = true := by kernel_rfl
theorem facts4_4 : callable Try.prog 14 = true := by kernel_rfl
theorem facts4_5 : callable Try.prog 15 = true := by kernel_rfl
theorem facts4 : callable Try.prog 10 = true ∧ callable Try.prog 11 = true ∧ callable Try.prog 12 = true ∧ callable Try.prog 13 = true ∧ callable Try.prog 14 = true ∧ callable Try.prog 15 = true := ⟨facts4_0, facts4_1, facts4_2, facts4_3, facts4_4, facts4_5⟩
theorem facts : (und Try.prog 1 = .func ∧ und Try.prog 2 = .int .i64 ∧ tk Try.prog 2 = some (false, 1) ∧ sz Try.prog 2 = some 1 ∧ nb Try.prog 2 = some 8 ∧ zeroV Try.prog 2 = some (.int .i64 0) ∧ und Try.prog 3 = .int .i64 ∧ tk Try.prog 3 = some (false, 1) ∧ sz Try.prog 3 = some 1 ∧ nb Try.prog 3 = some 8 ∧ zeroV Try.prog 3 = some (.int .i64 0) ∧ und Try.prog 4 = .bool ∧ tk Try.prog 4 = some (false, 1) ∧ sz Try.prog 4 = some 1 ∧ nb Try.prog 4 = some 1 ∧ zeroV Try.prog 4 = some (.bool false) ∧ und Try.prog 5 = .int .u8 ∧ tk Try.prog 5 = some (false, 1) ∧ sz Try.prog 5 = some 1 ∧ nb Try.prog 5 = some 1 ∧ zeroV Try.prog 5 = some (.int .u8 0) ∧ und Try.prog 9 = .str ∧ tk Try.prog 9 = some (false, 1) ∧ sz Try.prog 9 = some 1 ∧ nb Try.prog 9 = some 16 ∧ zeroV Try.prog 9 = some (.string ByteArray.empty) ∧ und Try.prog 12 = .int .u64 ∧ tk Try.prog 12 = some (false, 1) ∧ sz Try.prog 12 = some 1 ∧ nb Try.prog 12 = some 8 ∧ zeroV Try.prog 12 = some (.int .u64 0) ∧ und Try.prog 13 = .struct ∧ tk Try.prog 13 = some (true, 2) ∧ sz Try.prog 13 = some 2 ∧ nb Try.prog 13 = some 24 ∧ zeroV Try.prog 13 = some (.agg #[.string ByteArray.empty, .int .u64 0]) ∧ fieldT Try.prog 13 0 = some (0, 9) ∧ fieldT Try.prog 13 1 = some (1, 12) ∧ buildOk Try.prog 13 = true ∧ und Try.prog 21 = .int .i32) ∧ (tk Try.prog 21 = some (false, 1) ∧ sz Try.prog 21 = some 1 ∧ nb Try.prog 21 = some 4 ∧ zeroV Try.prog 21 = some (.int .i32 0) ∧ und Try.prog 22 = .slice 26 ∧ tk Try.prog 22 = some (false, 1) ∧ sz Try.prog 22 = some 1 ∧ nb Try.prog 22 = some 24 ∧ zeroV Try.prog 22 = some (.slice none 0 0) ∧ und Try.prog 23 = .func ∧ und Try.prog 24 = .ptr 43 ∧ tk Try.prog 24 = some (false, 1) ∧ sz Try.prog 24 = some 1 ∧ nb Try.prog 24 = some 8 ∧ zeroV Try.prog 24 = some (.pointer none) ∧ und Try.prog 25 = .func ∧ und Try.prog 26 = .slice 5 ∧ tk Try.prog 26 = some (false, 1) ∧ sz Try.prog 26 = some 1 ∧ nb Try.prog 26 = some 24 ∧ zeroV Try.prog 26 = some (.slice none 0 0) ∧ und Try.prog 27 = .func ∧ und Try.prog 28 = .struct ∧ tk Try.prog 28 = some (true, 3) ∧ sz Try.prog 28 = some 3 ∧ nb Try.prog 28 = some 40 ∧ zeroV Try.prog 28 = some (.agg #[.int .i64 0, .int .i64 0, .slice none 0 0]) ∧ fieldT Try.prog 28 0 = some (0, 3) ∧ fieldT Try.prog 28 1 = some (1, 3) ∧ fieldT Try.prog 28 2 = some (2, 26) ∧ buildOk Try.prog 28 = true ∧ und Try.prog 29 = .struct ∧ tk Try.prog 29 = some (true, 3) ∧ sz Try.prog 29 = some 3 ∧ nb Try.prog 29 = some 40 ∧ zeroV Try.prog 29 = some (.agg #[.int .i64 0, .int .i64 0, .slice none 0 0]) ∧ fieldT Try.prog 29 0 = some (0, 3) ∧ fieldT Try.prog 29 1 = some (1, 3) ∧ fieldT Try.prog 29 2 = some (2, 26) ∧ buildOk Try.prog 29 = true) ∧ (und Try.prog 31 = .func ∧ und Try.prog 32 = .func ∧ und Try.prog 33 = .func ∧ und Try.prog 34 = .slice 36 ∧ tk Try.prog 34 = some (false, 1) ∧ sz Try.prog 34 = some 1 ∧ nb Try.prog 34 = some 24 ∧ zeroV Try.prog 34 = some (.slice none 0 0) ∧ und Try.prog 35 = .struct ∧ tk Try.prog 35 = some (true, 5) ∧ sz Try.prog 35 = some 5 ∧ nb Try.prog 35 = some 56 ∧ zeroV Try.prog 35 = some (.agg #[.int .u8 0, .int .i64 0, .int .i64 0, .int .i64 0, .slice none 0 0]) ∧ fieldT Try.prog 35 0 = some (0, 5) ∧ fieldT Try.prog 35 1 = some (1, 3) ∧ fieldT Try.prog 35 2 = some (2, 3) ∧ fieldT Try.prog 35 3 = some (3, 3) ∧ fieldT Try.prog 35 4 = some (4, 26) ∧ buildOk Try.prog 35 = true ∧ und Try.prog 36 = .struct ∧ tk Try.prog 36 = some (true, 5) ∧ sz Try.prog 36 = some 5 ∧ nb Try.prog 36 = some 56 ∧ zeroV Try.prog 36 = some (.agg #[.int .u8 0, .int .i64 0, .int .i64 0, .int .i64 0, .slice none 0 0]) ∧ fieldT Try.prog 36 0 = some (0, 5) ∧ fieldT Try.prog 36 1 = some (1, 3) ∧ fieldT Try.prog 36 2 = some (2, 3) ∧ fieldT Try.prog 36 3 = some (3, 3) ∧ fieldT Try.prog 36 4 = some (4, 26) ∧ buildOk Try.prog 36 = true ∧ und Try.prog 37 = .int .u64 ∧ tk Try.prog 37 = some (false, 1) ∧ sz Try.prog 37 = some 1 ∧ nb Try.prog 37 = some 8 ∧ zeroV Try.prog 37 = some (.int .u64 0) ∧ und Try.prog 38 = .func ∧ und Try.prog 39 = .slice 29 ∧ tk Try.prog 39 = some (false, 1) ∧ sz Try.prog 39 = some 1 ∧ nb Try.prog 39 = some 24) ∧ (zeroV Try.prog 39 = some (.slice none 0 0) ∧ und Try.prog 40 = .func ∧ und Try.prog 41 = .func ∧ und Try.prog 42 = .struct ∧ tk Try.prog 42 = some (true, 1) ∧ sz Try.prog 42 = some 1 ∧ nb Try.prog 42 = some 24 ∧ zeroV Try.prog 42 = some (.agg #[.slice none 0 0]) ∧ fieldT Try.prog 42 0 = some (0, 39) ∧ buildOk Try.prog 42 = true ∧ und Try.prog 43 = .struct ∧ tk Try.prog 43 = some (true, 1) ∧ sz Try.prog 43 = some 1 ∧ nb Try.prog 43 = some 24 ∧ zeroV Try.prog 43 = some (.agg #[.slice none 0 0]) ∧ fieldT Try.prog 43 0 = some (0, 39) ∧ buildOk Try.prog 43 = true ∧ und Try.prog 44 = .func ∧ und Try.prog 45 = .func ∧ und Try.prog 46 = .func ∧ und Try.prog 47 = .func ∧ und Try.prog 53 = .int .u32 ∧ tk Try.prog 53 = some (false, 1) ∧ sz Try.prog 53 = some 1 ∧ nb Try.prog 53 = some 4 ∧ zeroV Try.prog 53 = some (.int .u32 0) ∧ und Try.prog 56 = .func ∧ und Try.prog 57 = .ptr 5 ∧ tk Try.prog 57 = some (false, 1) ∧ sz Try.prog 57 = some 1 ∧ nb Try.prog 57 = some 8 ∧ zeroV Try.prog 57 = some (.pointer none) ∧ Try.prog.follows .mixedOrders = true ∧ callable Try.prog 3 = true ∧ callable Try.prog 4 = true ∧ callable Try.prog 5 = true ∧ callable Try.prog 6 = true ∧ callable Try.prog 7 = true ∧ callable Try.prog 8 = true ∧ callable Try.prog 9 = true) ∧ (callable Try.prog 10 = true ∧ callable Try.prog 11 = true ∧ callable Try.prog 12 = true ∧ callable Try.prog 13 = true ∧ callable Try.prog 14 = true ∧ callable Try.prog 15 = true) := ⟨facts0, facts1, facts2, facts3, facts4⟩
end Go.Proofs.Ytodflnpiabhpeaa.GL
