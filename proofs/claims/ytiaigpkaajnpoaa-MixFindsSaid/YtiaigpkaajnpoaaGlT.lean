/- Closed facts on this seat's types and functions, printed by gltypes.py out of the translation. -/
import Derived.Test.YtiaigpkaajnpoaaGlH
import Derived.Test.YtiaigpkaajnpoaaProg
namespace Go.Proofs.Ytiaigpkaajnpoaa.GL
open Go
theorem facts0_0 : und Try.prog 1 = .func := by kernel_rfl
theorem facts0_1 : und Try.prog 2 = .int .i64 := by kernel_rfl
theorem facts0_2 : tk Try.prog 2 = some (false, 1) := by kernel_rfl
theorem facts0_3 : sz Try.prog 2 = some 1 := by kernel_rfl
theorem facts0_4 : nb Try.prog 2 = some 8 := by kernel_rfl
theorem facts0_5 : zeroV Try.prog 2 = some (.int .i64 0) := by kernel_rfl
theorem facts0_6 : und Try.prog 3 = .int .i64 := by kernel_rfl
theorem facts0_7 : tk Try.prog 3 = some (false, 1) := by kernel_rfl
theorem facts0_8 : sz Try.prog 3 = some 1 := by kernel_rfl
theorem facts0_9 : nb Try.prog 3 = some 8 := by kernel_rfl
theorem facts0_10 : zeroV Try.prog 3 = some (.int .i64 0) := by kernel_rfl
theorem facts0_11 : und Try.prog 4 = .bool := by kernel_rfl
theorem facts0_12 : tk Try.prog 4 = some (false, 1) := by kernel_rfl
theorem facts0_13 : sz Try.prog 4 = some 1 := by kernel_rfl
theorem facts0_14 : nb Try.prog 4 = some 1 := by kernel_rfl
theorem facts0_15 : zeroV Try.prog 4 = some (.bool false) := by kernel_rfl
theorem facts0_16 : und Try.prog 5 = .int .u8 := by kernel_rfl
theorem facts0_17 : tk Try.prog 5 = some (false, 1) := by kernel_rfl
theorem facts0_18 : sz Try.prog 5 = some 1 := by kernel_rfl
theorem facts0_19 : nb Try.prog 5 = some 1 := by kernel_rfl
theorem facts0_20 : zeroV Try.prog 5 = some (.int .u8 0) := by kernel_rfl
theorem facts0_21 : und Try.prog 9 = .str := by kernel_rfl
theorem facts0_22 : tk Try.prog 9 = some (false, 1) := by kernel_rfl
theorem facts0_23 : sz Try.prog 9 = some 1 := by kernel_rfl
theorem facts0_24 : nb Try.prog 9 = some 16 := by kernel_rfl
theorem facts0_25 : zeroV Try.prog 9 = some (.string ByteArray.empty) := by kernel_rfl
theorem facts0_26 : und Try.prog 12 = .int .u64 := by kernel_rfl
theorem facts0_27 : tk Try.prog 12 = some (false, 1) := by kernel_rfl
theorem facts0_28 : sz Try.prog 12 = some 1 := by kernel_rfl
theorem facts0_29 : nb Try.prog 12 = some 8 := by kernel_rfl
theorem facts0_30 : zeroV Try.prog 12 = some (.int .u64 0) := by kernel_rfl
theorem facts0_31 : und Try.prog 13 = .struct := by kernel_rfl
theorem facts0_32 : tk Try.prog 13 = some (true, 2) := by kernel_rfl
theorem facts0_33 : sz Try.prog 13 = some 2 := by kernel_rfl
theorem facts0_34 : nb Try.prog 13 = some 24 := by kernel_rfl
theorem facts0_35 : zeroV Try.prog 13 = some (.agg #[.string ByteArray.empty, .int .u64 0]) := by kernel_rfl
theorem facts0_36 : fieldT Try.prog 13 0 = some (0, 9) := by kernel_rfl
theorem facts0_37 : fieldT Try.prog 13 1 = some (1, 12) := by kernel_rfl
theorem facts0_38 : buildOk Try.prog 13 = true := by kernel_rfl
theorem facts0_39 : und Try.prog 21 = .int .i32 := by kernel_rfl
theorem facts0 : und Try.prog 1 = .func ∧ und Try.prog 2 = .int .i64 ∧ tk Try.prog 2 = some (false, 1) ∧ sz Try.prog 2 = some 1 ∧ nb Try.prog 2 = some 8 ∧ zeroV Try.prog 2 = some (.int .i64 0) ∧ und Try.prog 3 = .int .i64 ∧ tk Try.prog 3 = some (false, 1) ∧ sz Try.prog 3 = some 1 ∧ nb Try.prog 3 = some 8 ∧ zeroV Try.prog 3 = some (.int .i64 0) ∧ und Try.prog 4 = .bool ∧ tk Try.prog 4 = some (false, 1) ∧ sz Try.prog 4 = some 1 ∧ nb Try.prog 4 = some 1 ∧ zeroV Try.prog 4 = some (.bool false) ∧ und Try.prog 5 = .int .u8 ∧ tk Try.prog 5 = some (false, 1) ∧ sz Try.prog 5 = some 1 ∧ nb Try.prog 5 = some 1 ∧ zeroV Try.prog 5 = some (.int .u8 0) ∧ und Try.prog 9 = .str ∧ tk Try.prog 9 = some (false, 1) ∧ sz Try.prog 9 = some 1 ∧ nb Try.prog 9 = some 16 ∧ zeroV Try.prog 9 = some (.string ByteArray.empty) ∧ und Try.prog 12 = .int .u64 ∧ tk Try.prog 12 = some (false, 1) ∧ sz Try.prog 12 = some 1 ∧ nb Try.prog 12 = some 8 ∧ zeroV Try.prog 12 = some (.int .u64 0) ∧ und Try.prog 13 = .struct ∧ tk Try.prog 13 = some (true, 2) ∧ sz Try.prog 13 = some 2 ∧ nb Try.prog 13 = some 24 ∧ zeroV Try.prog 13 = some (.agg #[.string ByteArray.empty, .int .u64 0]) ∧ fieldT Try.prog 13 0 = some (0, 9) ∧ fieldT Try.prog 13 1 = some (1, 12) ∧ buildOk Try.prog 13 = true ∧ und Try.prog 21 = .int .i32 := ⟨facts0_0, facts0_1, facts0_2, facts0_3, facts0_4, facts0_5, facts0_6, facts0_7, facts0_8, facts0_9, facts0_10, facts0_11, facts0_12, facts0_13, facts0_14, facts0_15, facts0_16, facts0_17, facts0_18, facts0_19, facts0_20, facts0_21, facts0_22, facts0_23, facts0_24, facts0_25, facts0_26, facts0_27, facts0_28, facts0_29, facts0_30, facts0_31, facts0_32, facts0_33, facts0_34, facts0_35, facts0_36, facts0_37, facts0_38, facts0_39⟩
theorem facts1_0 : tk Try.prog 21 = some (false, 1) := by kernel_rfl
theorem facts1_1 : sz Try.prog 21 = some 1 := by kernel_rfl
theorem facts1_2 : nb Try.prog 21 = some 4 := by kernel_rfl
theorem facts1_3 : zeroV Try.prog 21 = some (.int .i32 0) := by kernel_rfl
theorem facts1_4 : und Try.prog 22 = .struct := by kernel_rfl
theorem facts1_5 : tk Try.prog 22 = some (true, 4) := by kernel_rfl
theorem facts1_6 : sz Try.prog 22 = some 4 := by kernel_rfl
theorem facts1_7 : nb Try.prog 22 = some 32 := by kernel_rfl
theorem facts1_8 : zeroV Try.prog 22 = some (.agg #[.int .i64 0, .int .i64 0, .int .i64 0, .int .i64 0]) := by kernel_rfl
theorem facts1_9 : fieldT Try.prog 22 0 = some (0, 2) := by kernel_rfl
theorem facts1_10 : fieldT Try.prog 22 1 = some (1, 3) := by kernel_rfl
theorem facts1_11 : fieldT Try.prog 22 2 = some (2, 3) := by kernel_rfl
theorem facts1_12 : fieldT Try.prog 22 3 = some (3, 3) := by kernel_rfl
theorem facts1_13 : buildOk Try.prog 22 = true := by kernel_rfl
theorem facts1_14 : kinds Try.prog 22 = some [.int, .int, .int, .int] := by kernel_rfl
theorem facts1_15 : und Try.prog 23 = .struct := by kernel_rfl
theorem facts1_16 : tk Try.prog 23 = some (true, 4) := by kernel_rfl
theorem facts1_17 : sz Try.prog 23 = some 4 := by kernel_rfl
theorem facts1_18 : nb Try.prog 23 = some 32 := by kernel_rfl
theorem facts1_19 : zeroV Try.prog 23 = some (.agg #[.int .i64 0, .int .i64 0, .int .i64 0, .int .i64 0]) := by kernel_rfl
theorem facts1_20 : fieldT Try.prog 23 0 = some (0, 2) := by kernel_rfl
theorem facts1_21 : fieldT Try.prog 23 1 = some (1, 3) := by kernel_rfl
theorem facts1_22 : fieldT Try.prog 23 2 = some (2, 3) := by kernel_rfl
theorem facts1_23 : fieldT Try.prog 23 3 = some (3, 3) := by kernel_rfl
theorem facts1_24 : buildOk Try.prog 23 = true := by kernel_rfl
theorem facts1_25 : kinds Try.prog 23 = some [.int, .int, .int, .int] := by kernel_rfl
theorem facts1_26 : und Try.prog 24 = .arr 4 23 := by kernel_rfl
theorem facts1_27 : tk Try.prog 24 = some (true, 16) := by kernel_rfl
theorem facts1_28 : sz Try.prog 24 = some 16 := by kernel_rfl
theorem facts1_29 : nb Try.prog 24 = some 128 := by kernel_rfl
theorem facts1_30 : zeroV Try.prog 24 = some (.agg (rep 16 (.int .i64 0)).toArray) := by kernel_rfl
theorem facts1_31 : buildOk Try.prog 24 = true := by kernel_rfl
theorem facts1_32 : kinds Try.prog 24 = some [.int, .int, .int, .int, .int, .int, .int, .int, .int, .int, .int, .int, .int, .int, .int, .int] := by kernel_rfl
theorem facts1_33 : und Try.prog 25 = .arr 4 3 := by kernel_rfl
theorem facts1_34 : tk Try.prog 25 = some (true, 4) := by kernel_rfl
theorem facts1_35 : sz Try.prog 25 = some 4 := by kernel_rfl
theorem facts1_36 : nb Try.prog 25 = some 32 := by kernel_rfl
theorem facts1_37 : zeroV Try.prog 25 = some (.agg #[.int .i64 0, .int .i64 0, .int .i64 0, .int .i64 0]) := by kernel_rfl
theorem facts1_38 : buildOk Try.prog 25 = true := by kernel_rfl
theorem facts1_39 : kinds Try.prog 25 = some [.int, .int, .int, .int] := by kernel_rfl
theorem facts1 : tk Try.prog 21 = some (false, 1) ∧ sz Try.prog 21 = some 1 ∧ nb Try.prog 21 = some 4 ∧ zeroV Try.prog 21 = some (.int .i32 0) ∧ und Try.prog 22 = .struct ∧ tk Try.prog 22 = some (true, 4) ∧ sz Try.prog 22 = some 4 ∧ nb Try.prog 22 = some 32 ∧ zeroV Try.prog 22 = some (.agg #[.int .i64 0, .int .i64 0, .int .i64 0, .int .i64 0]) ∧ fieldT Try.prog 22 0 = some (0, 2) ∧ fieldT Try.prog 22 1 = some (1, 3) ∧ fieldT Try.prog 22 2 = some (2, 3) ∧ fieldT Try.prog 22 3 = some (3, 3) ∧ buildOk Try.prog 22 = true ∧ kinds Try.prog 22 = some [.int, .int, .int, .int] ∧ und Try.prog 23 = .struct ∧ tk Try.prog 23 = some (true, 4) ∧ sz Try.prog 23 = some 4 ∧ nb Try.prog 23 = some 32 ∧ zeroV Try.prog 23 = some (.agg #[.int .i64 0, .int .i64 0, .int .i64 0, .int .i64 0]) ∧ fieldT Try.prog 23 0 = some (0, 2) ∧ fieldT Try.prog 23 1 = some (1, 3) ∧ fieldT Try.prog 23 2 = some (2, 3) ∧ fieldT Try.prog 23 3 = some (3, 3) ∧ buildOk Try.prog 23 = true ∧ kinds Try.prog 23 = some [.int, .int, .int, .int] ∧ und Try.prog 24 = .arr 4 23 ∧ tk Try.prog 24 = some (true, 16) ∧ sz Try.prog 24 = some 16 ∧ nb Try.prog 24 = some 128 ∧ zeroV Try.prog 24 = some (.agg (rep 16 (.int .i64 0)).toArray) ∧ buildOk Try.prog 24 = true ∧ kinds Try.prog 24 = some [.int, .int, .int, .int, .int, .int, .int, .int, .int, .int, .int, .int, .int, .int, .int, .int] ∧ und Try.prog 25 = .arr 4 3 ∧ tk Try.prog 25 = some (true, 4) ∧ sz Try.prog 25 = some 4 ∧ nb Try.prog 25 = some 32 ∧ zeroV Try.prog 25 = some (.agg #[.int .i64 0, .int .i64 0, .int .i64 0, .int .i64 0]) ∧ buildOk Try.prog 25 = true ∧ kinds Try.prog 25 = some [.int, .int, .int, .int] := ⟨facts1_0, facts1_1, facts1_2, facts1_3, facts1_4, facts1_5, facts1_6, facts1_7, facts1_8, facts1_9, facts1_10, facts1_11, facts1_12, facts1_13, facts1_14, facts1_15, facts1_16, facts1_17, facts1_18, facts1_19, facts1_20, facts1_21, facts1_22, facts1_23, facts1_24, facts1_25, facts1_26, facts1_27, facts1_28, facts1_29, facts1_30, facts1_31, facts1_32, facts1_33, facts1_34, facts1_35, facts1_36, facts1_37, facts1_38, facts1_39⟩
theorem facts2_0 : und Try.prog 26 = .arr 4 3 := by kernel_rfl
theorem facts2_1 : tk Try.prog 26 = some (true, 4) := by kernel_rfl
theorem facts2_2 : sz Try.prog 26 = some 4 := by kernel_rfl
theorem facts2_3 : nb Try.prog 26 = some 32 := by kernel_rfl
theorem facts2_4 : zeroV Try.prog 26 = some (.agg #[.int .i64 0, .int .i64 0, .int .i64 0, .int .i64 0]) := by kernel_rfl
theorem facts2_5 : buildOk Try.prog 26 = true := by kernel_rfl
theorem facts2_6 : kinds Try.prog 26 = some [.int, .int, .int, .int] := by kernel_rfl
theorem facts2_7 : und Try.prog 27 = .int .u16 := by kernel_rfl
theorem facts2_8 : tk Try.prog 27 = some (false, 1) := by kernel_rfl
theorem facts2_9 : sz Try.prog 27 = some 1 := by kernel_rfl
theorem facts2_10 : nb Try.prog 27 = some 2 := by kernel_rfl
theorem facts2_11 : zeroV Try.prog 27 = some (.int .u16 0) := by kernel_rfl
theorem facts2_12 : und Try.prog 28 = .func := by kernel_rfl
theorem facts2_13 : und Try.prog 29 = .func := by kernel_rfl
theorem facts2_14 : und Try.prog 30 = .func := by kernel_rfl
theorem facts2_15 : und Try.prog 31 = .slice 24 := by kernel_rfl
theorem facts2_16 : tk Try.prog 31 = some (false, 1) := by kernel_rfl
theorem facts2_17 : sz Try.prog 31 = some 1 := by kernel_rfl
theorem facts2_18 : nb Try.prog 31 = some 24 := by kernel_rfl
theorem facts2_19 : zeroV Try.prog 31 = some (.slice none 0 0) := by kernel_rfl
theorem facts2_20 : und Try.prog 32 = .slice 2 := by kernel_rfl
theorem facts2_21 : tk Try.prog 32 = some (false, 1) := by kernel_rfl
theorem facts2_22 : sz Try.prog 32 = some 1 := by kernel_rfl
theorem facts2_23 : nb Try.prog 32 = some 24 := by kernel_rfl
theorem facts2_24 : zeroV Try.prog 32 = some (.slice none 0 0) := by kernel_rfl
theorem facts2_25 : und Try.prog 33 = .int .i64 := by kernel_rfl
theorem facts2_26 : tk Try.prog 33 = some (false, 1) := by kernel_rfl
theorem facts2_27 : sz Try.prog 33 = some 1 := by kernel_rfl
theorem facts2_28 : nb Try.prog 33 = some 8 := by kernel_rfl
theorem facts2_29 : zeroV Try.prog 33 = some (.int .i64 0) := by kernel_rfl
theorem facts2_30 : und Try.prog 35 = .func := by kernel_rfl
theorem facts2_31 : und Try.prog 37 = .func := by kernel_rfl
theorem facts2_32 : und Try.prog 38 = .func := by kernel_rfl
theorem facts2_33 : und Try.prog 40 = .func := by kernel_rfl
theorem facts2_34 : und Try.prog 41 = .func := by kernel_rfl
theorem facts2_35 : und Try.prog 43 = .func := by kernel_rfl
theorem facts2_36 : und Try.prog 44 = .func := by kernel_rfl
theorem facts2_37 : und Try.prog 45 = .func := by kernel_rfl
theorem facts2_38 : und Try.prog 46 = .func := by kernel_rfl
theorem facts2_39 : und Try.prog 47 = .func := by kernel_rfl
theorem facts2 : und Try.prog 26 = .arr 4 3 ∧ tk Try.prog 26 = some (true, 4) ∧ sz Try.prog 26 = some 4 ∧ nb Try.prog 26 = some 32 ∧ zeroV Try.prog 26 = some (.agg #[.int .i64 0, .int .i64 0, .int .i64 0, .int .i64 0]) ∧ buildOk Try.prog 26 = true ∧ kinds Try.prog 26 = some [.int, .int, .int, .int] ∧ und Try.prog 27 = .int .u16 ∧ tk Try.prog 27 = some (false, 1) ∧ sz Try.prog 27 = some 1 ∧ nb Try.prog 27 = some 2 ∧ zeroV Try.prog 27 = some (.int .u16 0) ∧ und Try.prog 28 = .func ∧ und Try.prog 29 = .func ∧ und Try.prog 30 = .func ∧ und Try.prog 31 = .slice 24 ∧ tk Try.prog 31 = some (false, 1) ∧ sz Try.prog 31 = some 1 ∧ nb Try.prog 31 = some 24 ∧ zeroV Try.prog 31 = some (.slice none 0 0) ∧ und Try.prog 32 = .slice 2 ∧ tk Try.prog 32 = some (false, 1) ∧ sz Try.prog 32 = some 1 ∧ nb Try.prog 32 = some 24 ∧ zeroV Try.prog 32 = some (.slice none 0 0) ∧ und Try.prog 33 = .int .i64 ∧ tk Try.prog 33 = some (false, 1) ∧ sz Try.prog 33 = some 1 ∧ nb Try.prog 33 = some 8 ∧ zeroV Try.prog 33 = some (.int .i64 0) ∧ und Try.prog 35 = .func ∧ und Try.prog 37 = .func ∧ und Try.prog 38 = .func ∧ und Try.prog 40 = .func ∧ und Try.prog 41 = .func ∧ und Try.prog 43 = .func ∧ und Try.prog 44 = .func ∧ und Try.prog 45 = .func ∧ und Try.prog 46 = .func ∧ und Try.prog 47 = .func := ⟨facts2_0, facts2_1, facts2_2, facts2_3, facts2_4, facts2_5, facts2_6, facts2_7, facts2_8, facts2_9, facts2_10, facts2_11, facts2_12, facts2_13, facts2_14, facts2_15, facts2_16, facts2_17, facts2_18, facts2_19, facts2_20, facts2_21, facts2_22, facts2_23, facts2_24, facts2_25, facts2_26, facts2_27, facts2_28, facts2_29, facts2_30, facts2_31, facts2_32, facts2_33, facts2_34, facts2_35, facts2_36, facts2_37, facts2_38, facts2_39⟩
theorem facts3_0 : und Try.prog 48 = .arr 4 2 := by kernel_rfl
theorem facts3_1 : tk Try.prog 48 = some (true, 4) := by kernel_rfl
theorem facts3_2 : sz Try.prog 48 = some 4 := by kernel_rfl
theorem facts3_3 : nb Try.prog 48 = some 32 := by kernel_rfl
theorem facts3_4 : zeroV Try.prog 48 = some (.agg #[.int .i64 0, .int .i64 0, .int .i64 0, .int .i64 0]) := by kernel_rfl
theorem facts3_5 : buildOk Try.prog 48 = true := by kernel_rfl
theorem facts3_6 : kinds Try.prog 48 = some [.int, .int, .int, .int] := by kernel_rfl
theorem facts3_7 : und Try.prog 49 = .slice 48 := by kernel_rfl
theorem facts3_8 : tk Try.prog 49 = some (false, 1) := by kernel_rfl
theorem facts3_9 : sz Try.prog 49 = some 1 := by kernel_rfl
theorem facts3_10 : nb Try.prog 49 = some 24 := by kernel_rfl
theorem facts3_11 : zeroV Try.prog 49 = some (.slice none 0 0) := by kernel_rfl
theorem facts3_12 : und Try.prog 50 = .slice 3 := by kernel_rfl
theorem facts3_13 : tk Try.prog 50 = some (false, 1) := by kernel_rfl
theorem facts3_14 : sz Try.prog 50 = some 1 := by kernel_rfl
theorem facts3_15 : nb Try.prog 50 = some 24 := by kernel_rfl
theorem facts3_16 : zeroV Try.prog 50 = some (.slice none 0 0) := by kernel_rfl
theorem facts3_17 : und Try.prog 51 = .ptr 55 := by kernel_rfl
theorem facts3_18 : tk Try.prog 51 = some (false, 1) := by kernel_rfl
theorem facts3_19 : sz Try.prog 51 = some 1 := by kernel_rfl
theorem facts3_20 : nb Try.prog 51 = some 8 := by kernel_rfl
theorem facts3_21 : zeroV Try.prog 51 = some (.pointer none) := by kernel_rfl
theorem facts3_22 : und Try.prog 52 = .map 26 4 := by kernel_rfl
theorem facts3_23 : tk Try.prog 52 = some (false, 1) := by kernel_rfl
theorem facts3_24 : sz Try.prog 52 = some 1 := by kernel_rfl
theorem facts3_25 : nb Try.prog 52 = some 8 := by kernel_rfl
theorem facts3_26 : zeroV Try.prog 52 = some (.map none) := by kernel_rfl
theorem facts3_27 : und Try.prog 53 = .arr 5 2 := by kernel_rfl
theorem facts3_28 : tk Try.prog 53 = some (true, 5) := by kernel_rfl
theorem facts3_29 : sz Try.prog 53 = some 5 := by kernel_rfl
theorem facts3_30 : nb Try.prog 53 = some 40 := by kernel_rfl
theorem facts3_31 : zeroV Try.prog 53 = some (.agg #[.int .i64 0, .int .i64 0, .int .i64 0, .int .i64 0, .int .i64 0]) := by kernel_rfl
theorem facts3_32 : buildOk Try.prog 53 = true := by kernel_rfl
theorem facts3_33 : kinds Try.prog 53 = some [.int, .int, .int, .int, .int] := by kernel_rfl
theorem facts3_34 : und Try.prog 54 = .struct := by kernel_rfl
theorem facts3_35 : tk Try.prog 54 = some (true, 15) := by kernel_rfl
theorem facts3_36 : sz Try.prog 54 = some 15 := by kernel_rfl
theorem facts3_37 : nb Try.prog 54 = some 120 := by kernel_rfl
theorem facts3_38 : zeroV Try.prog 54 = some (.agg (rep 14 (.int .i64 0) ++ ([.map none] : List Value)).toArray) := by kernel_rfl
theorem facts3_39 : fieldT Try.prog 54 0 = some (0, 26) := by kernel_rfl
theorem facts3 : und Try.prog 48 = .arr 4 2 ∧ tk Try.prog 48 = some (true, 4) ∧ sz Try.prog 48 = some 4 ∧ nb Try.prog 48 = some 32 ∧ zeroV Try.prog 48 = some (.agg #[.int .i64 0, .int .i64 0, .int .i64 0, .int .i64 0]) ∧ buildOk Try.prog 48 = true ∧ kinds Try.prog 48 = some [.int, .int, .int, .int] ∧ und Try.prog 49 = .slice 48 ∧ tk Try.prog 49 = some (false, 1) ∧ sz Try.prog 49 = some 1 ∧ nb Try.prog 49 = some 24 ∧ zeroV Try.prog 49 = some (.slice none 0 0) ∧ und Try.prog 50 = .slice 3 ∧ tk Try.prog 50 = some (false, 1) ∧ sz Try.prog 50 = some 1 ∧ nb Try.prog 50 = some 24 ∧ zeroV Try.prog 50 = some (.slice none 0 0) ∧ und Try.prog 51 = .ptr 55 ∧ tk Try.prog 51 = some (false, 1) ∧ sz Try.prog 51 = some 1 ∧ nb Try.prog 51 = some 8 ∧ zeroV Try.prog 51 = some (.pointer none) ∧ und Try.prog 52 = .map 26 4 ∧ tk Try.prog 52 = some (false, 1) ∧ sz Try.prog 52 = some 1 ∧ nb Try.prog 52 = some 8 ∧ zeroV Try.prog 52 = some (.map none) ∧ und Try.prog 53 = .arr 5 2 ∧ tk Try.prog 53 = some (true, 5) ∧ sz Try.prog 53 = some 5 ∧ nb Try.prog 53 = some 40 ∧ zeroV Try.prog 53 = some (.agg #[.int .i64 0, .int .i64 0, .int .i64 0, .int .i64 0, .int .i64 0]) ∧ buildOk Try.prog 53 = true ∧ kinds Try.prog 53 = some [.int, .int, .int, .int, .int] ∧ und Try.prog 54 = .struct ∧ tk Try.prog 54 = some (true, 15) ∧ sz Try.prog 54 = some 15 ∧ nb Try.prog 54 = some 120 ∧ zeroV Try.prog 54 = some (.agg (rep 14 (.int .i64 0) ++ ([.map none] : List Value)).toArray) ∧ fieldT Try.prog 54 0 = some (0, 26) := ⟨facts3_0, facts3_1, facts3_2, facts3_3, facts3_4, facts3_5, facts3_6, facts3_7, facts3_8, facts3_9, facts3_10, facts3_11, facts3_12, facts3_13, facts3_14, facts3_15, facts3_16, facts3_17, facts3_18, facts3_19, facts3_20, facts3_21, facts3_22, facts3_23, facts3_24, facts3_25, facts3_26, facts3_27, facts3_28, facts3_29, facts3_30, facts3_31, facts3_32, facts3_33, facts3_34, facts3_35, facts3_36, facts3_37, facts3_38, facts3_39⟩
theorem facts4_0 : fieldT Try.prog 54 1 = some (4, 48) := by kernel_rfl
theorem facts4_1 : fieldT Try.prog 54 2 = some (8, 53) := by kernel_rfl
theorem facts4_2 : fieldT Try.prog 54 3 = some (13, 3) := by kernel_rfl
theorem facts4_3 : fieldT Try.prog 54 4 = some (14, 52) := by kernel_rfl
theorem facts4_4 : buildOk Try.prog 54 = true := by kernel_rfl
theorem facts4_5 : und Try.prog 55 = .struct := by kernel_rfl
theorem facts4_6 : tk Try.prog 55 = some (true, 15) := by kernel_rfl
theorem facts4_7 : sz Try.prog 55 = some 15 := by kernel_rfl
theorem facts4_8 : nb Try.prog 55 = some 120 := by kernel_rfl
theorem facts4_9 : zeroV Try.prog 55 = some (.agg (rep 14 (.int .i64 0) ++ ([.map none] : List Value)).toArray) := by kernel_rfl
theorem facts4_10 : fieldT Try.prog 55 0 = some (0, 26) := by kernel_rfl
theorem facts4_11 : fieldT Try.prog 55 1 = some (4, 48) := by kernel_rfl
theorem facts4_12 : fieldT Try.prog 55 2 = some (8, 53) := by kernel_rfl
theorem facts4_13 : fieldT Try.prog 55 3 = some (13, 3) := by kernel_rfl
theorem facts4_14 : fieldT Try.prog 55 4 = some (14, 52) := by kernel_rfl
theorem facts4_15 : buildOk Try.prog 55 = true := by kernel_rfl
theorem facts4_16 : und Try.prog 56 = .func := by kernel_rfl
theorem facts4_17 : und Try.prog 57 = .func := by kernel_rfl
theorem facts4_18 : und Try.prog 58 = .func := by kernel_rfl
theorem facts4_19 : und Try.prog 59 = .func := by kernel_rfl
theorem facts4_20 : und Try.prog 60 = .func := by kernel_rfl
theorem facts4_21 : und Try.prog 61 = .func := by kernel_rfl
theorem facts4_22 : und Try.prog 62 = .func := by kernel_rfl
theorem facts4_23 : und Try.prog 63 = .func := by kernel_rfl
theorem facts4_24 : und Try.prog 64 = .func := by kernel_rfl
theorem facts4_25 : und Try.prog 65 = .int .u64 := by kernel_rfl
theorem facts4_26 : tk Try.prog 65 = some (false, 1) := by kernel_rfl
theorem facts4_27 : sz Try.prog 65 = some 1 := by kernel_rfl
theorem facts4_28 : nb Try.prog 65 = some 8 := by kernel_rfl
theorem facts4_29 : zeroV Try.prog 65 = some (.int .u64 0) := by kernel_rfl
theorem facts4_30 : und Try.prog 66 = .struct := by kernel_rfl
theorem facts4_31 : tk Try.prog 66 = some (true, 2) := by kernel_rfl
theorem facts4_32 : sz Try.prog 66 = some 2 := by kernel_rfl
theorem facts4_33 : nb Try.prog 66 = some 16 := by kernel_rfl
theorem facts4_34 : zeroV Try.prog 66 = some (.agg #[.int .i64 0, .int .u64 0]) := by kernel_rfl
theorem facts4_35 : fieldT Try.prog 66 0 = some (0, 2) := by kernel_rfl
theorem facts4_36 : fieldT Try.prog 66 1 = some (1, 65) := by kernel_rfl
theorem facts4_37 : buildOk Try.prog 66 = true := by kernel_rfl
theorem facts4_38 : kinds Try.prog 66 = some [.int, .int] := by kernel_rfl
theorem facts4_39 : und Try.prog 67 = .struct := by kernel_rfl
theorem facts4 : fieldT Try.prog 54 1 = some (4, 48) ∧ fieldT Try.prog 54 2 = some (8, 53) ∧ fieldT Try.prog 54 3 = some (13, 3) ∧ fieldT Try.prog 54 4 = some (14, 52) ∧ buildOk Try.prog 54 = true ∧ und Try.prog 55 = .struct ∧ tk Try.prog 55 = some (true, 15) ∧ sz Try.prog 55 = some 15 ∧ nb Try.prog 55 = some 120 ∧ zeroV Try.prog 55 = some (.agg (rep 14 (.int .i64 0) ++ ([.map none] : List Value)).toArray) ∧ fieldT Try.prog 55 0 = some (0, 26) ∧ fieldT Try.prog 55 1 = some (4, 48) ∧ fieldT Try.prog 55 2 = some (8, 53) ∧ fieldT Try.prog 55 3 = some (13, 3) ∧ fieldT Try.prog 55 4 = some (14, 52) ∧ buildOk Try.prog 55 = true ∧ und Try.prog 56 = .func ∧ und Try.prog 57 = .func ∧ und Try.prog 58 = .func ∧ und Try.prog 59 = .func ∧ und Try.prog 60 = .func ∧ und Try.prog 61 = .func ∧ und Try.prog 62 = .func ∧ und Try.prog 63 = .func ∧ und Try.prog 64 = .func ∧ und Try.prog 65 = .int .u64 ∧ tk Try.prog 65 = some (false, 1) ∧ sz Try.prog 65 = some 1 ∧ nb Try.prog 65 = some 8 ∧ zeroV Try.prog 65 = some (.int .u64 0) ∧ und Try.prog 66 = .struct ∧ tk Try.prog 66 = some (true, 2) ∧ sz Try.prog 66 = some 2 ∧ nb Try.prog 66 = some 16 ∧ zeroV Try.prog 66 = some (.agg #[.int .i64 0, .int .u64 0]) ∧ fieldT Try.prog 66 0 = some (0, 2) ∧ fieldT Try.prog 66 1 = some (1, 65) ∧ buildOk Try.prog 66 = true ∧ kinds Try.prog 66 = some [.int, .int] ∧ und Try.prog 67 = .struct := ⟨facts4_0, facts4_1, facts4_2, facts4_3, facts4_4, facts4_5, facts4_6, facts4_7, facts4_8, facts4_9, facts4_10, facts4_11, facts4_12, facts4_13, facts4_14, facts4_15, facts4_16, facts4_17, facts4_18, facts4_19, facts4_20, facts4_21, facts4_22, facts4_23, facts4_24, facts4_25, facts4_26, facts4_27, facts4_28, facts4_29, facts4_30, facts4_31, facts4_32, facts4_33, facts4_34, facts4_35, facts4_36, facts4_37, facts4_38, facts4_39⟩
theorem facts5_0 : tk Try.prog 67 = some (true, 2) := by kernel_rfl
theorem facts5_1 : sz Try.prog 67 = some 2 := by kernel_rfl
theorem facts5_2 : nb Try.prog 67 = some 16 := by kernel_rfl
theorem facts5_3 : zeroV Try.prog 67 = some (.agg #[.int .i64 0, .int .u64 0]) := by kernel_rfl
theorem facts5_4 : fieldT Try.prog 67 0 = some (0, 2) := by kernel_rfl
theorem facts5_5 : fieldT Try.prog 67 1 = some (1, 65) := by kernel_rfl
theorem facts5_6 : buildOk Try.prog 67 = true := by kernel_rfl
theorem facts5_7 : kinds Try.prog 67 = some [.int, .int] := by kernel_rfl
theorem facts5_8 : und Try.prog 68 = .func := by kernel_rfl
theorem facts5_9 : und Try.prog 69 = .func := by kernel_rfl
theorem facts5_10 : und Try.prog 71 = .func := by kernel_rfl
theorem facts5_11 : und Try.prog 72 = .func := by kernel_rfl
theorem facts5_12 : und Try.prog 73 = .func := by kernel_rfl
theorem facts5_13 : und Try.prog 74 = .int .u64 := by kernel_rfl
theorem facts5_14 : tk Try.prog 74 = some (false, 1) := by kernel_rfl
theorem facts5_15 : sz Try.prog 74 = some 1 := by kernel_rfl
theorem facts5_16 : nb Try.prog 74 = some 8 := by kernel_rfl
theorem facts5_17 : zeroV Try.prog 74 = some (.int .u64 0) := by kernel_rfl
theorem facts5_18 : und Try.prog 75 = .func := by kernel_rfl
theorem facts5_19 : und Try.prog 81 = .func := by kernel_rfl
theorem facts5_20 : und Try.prog 82 = .int .u32 := by kernel_rfl
theorem facts5_21 : tk Try.prog 82 = some (false, 1) := by kernel_rfl
theorem facts5_22 : sz Try.prog 82 = some 1 := by kernel_rfl
theorem facts5_23 : nb Try.prog 82 = some 4 := by kernel_rfl
theorem facts5_24 : zeroV Try.prog 82 = some (.int .u32 0) := by kernel_rfl
theorem facts5_25 : und Try.prog 85 = .func := by kernel_rfl
theorem facts5_26 : und Try.prog 86 = .ptr 5 := by kernel_rfl
theorem facts5_27 : tk Try.prog 86 = some (false, 1) := by kernel_rfl
theorem facts5_28 : sz Try.prog 86 = some 1 := by kernel_rfl
theorem facts5_29 : nb Try.prog 86 = some 8 := by kernel_rfl
theorem facts5_30 : zeroV Try.prog 86 = some (.pointer none) := by kernel_rfl
theorem facts5_31 : Try.prog.follows .mixedOrders = true := by kernel_rfl
theorem facts5_32 : callable Try.prog 3 = true := by kernel_rfl
theorem facts5_33 : callable Try.prog 4 = true := by kernel_rfl
theorem facts5_34 : callable Try.prog 5 = true := by kernel_rfl
theorem facts5_35 : callable Try.prog 6 = true := by kernel_rfl
theorem facts5_36 : callable Try.prog 7 = true := by kernel_rfl
theorem facts5_37 : callable Try.prog 8 = true := by kernel_rfl
theorem facts5_38 : callable Try.prog 9 = true := by kernel_rfl
theorem facts5_39 : callable Try.prog 10 = true := by kernel_rfl
theorem facts5 : tk Try.prog 67 = some (true, 2) ∧ sz Try.prog 67 = some 2 ∧ nb Try.prog 67 = some 16 ∧ zeroV Try.prog 67 = some (.agg #[.int .i64 0, .int .u64 0]) ∧ fieldT Try.prog 67 0 = some (0, 2) ∧ fieldT Try.prog 67 1 = some (1, 65) ∧ buildOk Try.prog 67 = true ∧ kinds Try.prog 67 = some [.int, .int] ∧ und Try.prog 68 = .func ∧ und Try.prog 69 = .func ∧ und Try.prog 71 = .func ∧ und Try.prog 72 = .func ∧ und Try.prog 73 = .func ∧ und Try.prog 74 = .int .u64 ∧ tk Try.prog 74 = some (false, 1) ∧ sz Try.prog 74 = some 1 ∧ nb Try.prog 74 = some 8 ∧ zeroV Try.prog 74 = some (.int .u64 0) ∧ und Try.prog 75 = .func ∧ und Try.prog 81 = .func ∧ und Try.prog 82 = .int .u32 ∧ tk Try.prog 82 = some (false, 1) ∧ sz Try.prog 82 = some 1 ∧ nb Try.prog 82 = some 4 ∧ zeroV Try.prog 82 = some (.int .u32 0) ∧ und Try.prog 85 = .func ∧ und Try.prog 86 = .ptr 5 ∧ tk Try.prog 86 = some (false, 1) ∧ sz Try.prog 86 = some 1 ∧ nb Try.prog 86 = some 8 ∧ zeroV Try.prog 86 = some (.pointer none) ∧ Try.prog.follows .mixedOrders = true ∧ callable Try.prog 3 = true ∧ callable Try.prog 4 = true ∧ callable Try.prog 5 = true ∧ callable Try.prog 6 = true ∧ callable Try.prog 7 = true ∧ callable Try.prog 8 = true ∧ callable Try.prog 9 = true ∧ callable Try.prog 10 = true := ⟨facts5_0, facts5_1, facts5_2, facts5_3, facts5_4, facts5_5, facts5_6, facts5_7, facts5_8, facts5_9, facts5_10, facts5_11, facts5_12, facts5_13, facts5_14, facts5_15, facts5_16, facts5_17, facts5_18, facts5_19, facts5_20, facts5_21, facts5_22, facts5_23, facts5_24, facts5_25, facts5_26, facts5_27, facts5_28, facts5_29, facts5_30, facts5_31, facts5_32, facts5_33, facts5_34, facts5_35, facts5_36, facts5_37, facts5_38, facts5_39⟩
theorem facts6_0 : callable Try.prog 11 = true := by kernel_rfl
theorem facts6_1 : callable Try.prog 12 = true := by kernel_rfl
theorem facts6_2 : callable Try.prog 13 = true := by kernel_rfl
theorem facts6_3 : callable Try.prog 14 = true := by kernel_rfl
theorem facts6_4 : callable Try.prog 15 = true := by kernel_rfl
theorem facts6_5 : callable Try.prog 16 = true := by kernel_rfl
theorem facts6_6 : callable Try.prog 17 = true := by kernel_rfl
theorem facts6_7 : callable Try.prog 18 = true := by kernel_rfl
theorem facts6_8 : callable Try.prog 19 = true := by kernel_rfl
theorem facts6_9 : callable Try.prog 20 = true := by kernel_rfl
theorem facts6_10 : callable Try.prog 21 = true := by kernel_rfl
theorem facts6_11 : callable Try.prog 22 = true := by kernel_rfl
theorem facts6_12 : callable Try.prog 23 = true := by kernel_rfl
theorem facts6_13 : callable Try.prog 24 = true := by kernel_rfl
theorem facts6_14 : callable Try.prog 25 = true := by kernel_rfl
theorem facts6_15 : callable Try.prog 26 = true := by kernel_rfl
theorem facts6_16 : callable Try.prog 27 = true := by kernel_rfl
theorem facts6_17 : callable Try.prog 28 = true := by kernel_rfl
theorem facts6_18 : callable Try.prog 29 = true := by kernel_rfl
theorem facts6_19 : callable Try.prog 30 = true := by kernel_rfl
theorem facts6_20 : callable Try.prog 31 = true := by kernel_rfl
theorem facts6_21 : callable Try.prog 32 = true := by kernel_rfl
theorem facts6_22 : callable Try.prog 33 = true := by kernel_rfl
theorem facts6_23 : callable Try.prog 34 = false := by kernel_rfl
theorem facts6_24 : callable Try.prog 35 = true := by kernel_rfl
theorem facts6_25 : callable Try.prog 51 = false := by kernel_rfl
theorem facts6 : callable Try.prog 11 = true ∧ callable Try.prog 12 = true ∧ callable Try.prog 13 = true ∧ callable Try.prog 14 = true ∧ callable Try.prog 15 = true ∧ callable Try.prog 16 = true ∧ callable Try.prog 17 = true ∧ callable Try.prog 18 = true ∧ callable Try.prog 19 = true ∧ callable Try.prog 20 = true ∧ callable Try.prog 21 = true ∧ callable Try.prog 22 = true ∧ callable Try.prog 23 = true ∧ callable Try.prog 24 = true ∧ callable Try.prog 25 = true ∧ callable Try.prog 26 = true ∧ callable Try.prog 27 = true ∧ callable Try.prog 28 = true ∧ callable Try.prog 29 = true ∧ callable Try.prog 30 = true ∧ callable Try.prog 31 = true ∧ callable Try.prog 32 = true ∧ callable Try.prog 33 = true ∧ callable Try.prog 34 = false ∧ callable Try.prog 35 = true ∧ callable Try.prog 51 = false := ⟨facts6_0, facts6_1, facts6_2, facts6_3, facts6_4, facts6_5, facts6_6, facts6_7, facts6_8, facts6_9, facts6_10, facts6_11, facts6_12, facts6_13, facts6_14, facts6_15, facts6_16, facts6_17, facts6_18, facts6_19, facts6_20, facts6_21, facts6_22, facts6_23, facts6_24, facts6_25⟩
theorem facts : (und Try.prog 1 = .func ∧ und Try.prog 2 = .int .i64 ∧ tk Try.prog 2 = some (false, 1) ∧ sz Try.prog 2 = some 1 ∧ nb Try.prog 2 = some 8 ∧ zeroV Try.prog 2 = some (.int .i64 0) ∧ und Try.prog 3 = .int .i64 ∧ tk Try.prog 3 = some (false, 1) ∧ sz Try.prog 3 = some 1 ∧ nb Try.prog 3 = some 8 ∧ zeroV Try.prog 3 = some (.int .i64 0) ∧ und Try.prog 4 = .bool ∧ tk Try.prog 4 = some (false, 1) ∧ sz Try.prog 4 = some 1 ∧ nb Try.prog 4 = some 1 ∧ zeroV Try.prog 4 = some (.bool false) ∧ und Try.prog 5 = .int .u8 ∧ tk Try.prog 5 = some (false, 1) ∧ sz Try.prog 5 = some 1 ∧ nb Try.prog 5 = some 1 ∧ zeroV Try.prog 5 = some (.int .u8 0) ∧ und Try.prog 9 = .str ∧ tk Try.prog 9 = some (false, 1) ∧ sz Try.prog 9 = some 1 ∧ nb Try.prog 9 = some 16 ∧ zeroV Try.prog 9 = some (.string ByteArray.empty) ∧ und Try.prog 12 = .int .u64 ∧ tk Try.prog 12 = some (false, 1) ∧ sz Try.prog 12 = some 1 ∧ nb Try.prog 12 = some 8 ∧ zeroV Try.prog 12 = some (.int .u64 0) ∧ und Try.prog 13 = .struct ∧ tk Try.prog 13 = some (true, 2) ∧ sz Try.prog 13 = some 2 ∧ nb Try.prog 13 = some 24 ∧ zeroV Try.prog 13 = some (.agg #[.string ByteArray.empty, .int .u64 0]) ∧ fieldT Try.prog 13 0 = some (0, 9) ∧ fieldT Try.prog 13 1 = some (1, 12) ∧ buildOk Try.prog 13 = true ∧ und Try.prog 21 = .int .i32) ∧ (tk Try.prog 21 = some (false, 1) ∧ sz Try.prog 21 = some 1 ∧ nb Try.prog 21 = some 4 ∧ zeroV Try.prog 21 = some (.int .i32 0) ∧ und Try.prog 22 = .struct ∧ tk Try.prog 22 = some (true, 4) ∧ sz Try.prog 22 = some 4 ∧ nb Try.prog 22 = some 32 ∧ zeroV Try.prog 22 = some (.agg #[.int .i64 0, .int .i64 0, .int .i64 0, .int .i64 0]) ∧ fieldT Try.prog 22 0 = some (0, 2) ∧ fieldT Try.prog 22 1 = some (1, 3) ∧ fieldT Try.prog 22 2 = some (2, 3) ∧ fieldT Try.prog 22 3 = some (3, 3) ∧ buildOk Try.prog 22 = true ∧ kinds Try.prog 22 = some [.int, .int, .int, .int] ∧ und Try.prog 23 = .struct ∧ tk Try.prog 23 = some (true, 4) ∧ sz Try.prog 23 = some 4 ∧ nb Try.prog 23 = some 32 ∧ zeroV Try.prog 23 = some (.agg #[.int .i64 0, .int .i64 0, .int .i64 0, .int .i64 0]) ∧ fieldT Try.prog 23 0 = some (0, 2) ∧ fieldT Try.prog 23 1 = some (1, 3) ∧ fieldT Try.prog 23 2 = some (2, 3) ∧ fieldT Try.prog 23 3 = some (3, 3) ∧ buildOk Try.prog 23 = true ∧ kinds Try.prog 23 = some [.int, .int, .int, .int] ∧ und Try.prog 24 = .arr 4 23 ∧ tk Try.prog 24 = some (true, 16) ∧ sz Try.prog 24 = some 16 ∧ nb Try.prog 24 = some 128 ∧ zeroV Try.prog 24 = some (.agg (rep 16 (.int .i64 0)).toArray) ∧ buildOk Try.prog 24 = true ∧ kinds Try.prog 24 = some [.int, .int, .int, .int, .int, .int, .int, .int, .int, .int, .int, .int, .int, .int, .int, .int] ∧ und Try.prog 25 = .arr 4 3 ∧ tk Try.prog 25 = some (true, 4) ∧ sz Try.prog 25 = some 4 ∧ nb Try.prog 25 = some 32 ∧ zeroV Try.prog 25 = some (.agg #[.int .i64 0, .int .i64 0, .int .i64 0, .int .i64 0]) ∧ buildOk Try.prog 25 = true ∧ kinds Try.prog 25 = some [.int, .int, .int, .int]) ∧ (und Try.prog 26 = .arr 4 3 ∧ tk Try.prog 26 = some (true, 4) ∧ sz Try.prog 26 = some 4 ∧ nb Try.prog 26 = some 32 ∧ zeroV Try.prog 26 = some (.agg #[.int .i64 0, .int .i64 0, .int .i64 0, .int .i64 0]) ∧ buildOk Try.prog 26 = true ∧ kinds Try.prog 26 = some [.int, .int, .int, .int] ∧ und Try.prog 27 = .int .u16 ∧ tk Try.prog 27 = some (false, 1) ∧ sz Try.prog 27 = some 1 ∧ nb Try.prog 27 = some 2 ∧ zeroV Try.prog 27 = some (.int .u16 0) ∧ und Try.prog 28 = .func ∧ und Try.prog 29 = .func ∧ und Try.prog 30 = .func ∧ und Try.prog 31 = .slice 24 ∧ tk Try.prog 31 = some (false, 1) ∧ sz Try.prog 31 = some 1 ∧ nb Try.prog 31 = some 24 ∧ zeroV Try.prog 31 = some (.slice none 0 0) ∧ und Try.prog 32 = .slice 2 ∧ tk Try.prog 32 = some (false, 1) ∧ sz Try.prog 32 = some 1 ∧ nb Try.prog 32 = some 24 ∧ zeroV Try.prog 32 = some (.slice none 0 0) ∧ und Try.prog 33 = .int .i64 ∧ tk Try.prog 33 = some (false, 1) ∧ sz Try.prog 33 = some 1 ∧ nb Try.prog 33 = some 8 ∧ zeroV Try.prog 33 = some (.int .i64 0) ∧ und Try.prog 35 = .func ∧ und Try.prog 37 = .func ∧ und Try.prog 38 = .func ∧ und Try.prog 40 = .func ∧ und Try.prog 41 = .func ∧ und Try.prog 43 = .func ∧ und Try.prog 44 = .func ∧ und Try.prog 45 = .func ∧ und Try.prog 46 = .func ∧ und Try.prog 47 = .func) ∧ (und Try.prog 48 = .arr 4 2 ∧ tk Try.prog 48 = some (true, 4) ∧ sz Try.prog 48 = some 4 ∧ nb Try.prog 48 = some 32 ∧ zeroV Try.prog 48 = some (.agg #[.int .i64 0, .int .i64 0, .int .i64 0, .int .i64 0]) ∧ buildOk Try.prog 48 = true ∧ kinds Try.prog 48 = some [.int, .int, .int, .int] ∧ und Try.prog 49 = .slice 48 ∧ tk Try.prog 49 = some (false, 1) ∧ sz Try.prog 49 = some 1 ∧ nb Try.prog 49 = some 24 ∧ zeroV Try.prog 49 = some (.slice none 0 0) ∧ und Try.prog 50 = .slice 3 ∧ tk Try.prog 50 = some (false, 1) ∧ sz Try.prog 50 = some 1 ∧ nb Try.prog 50 = some 24 ∧ zeroV Try.prog 50 = some (.slice none 0 0) ∧ und Try.prog 51 = .ptr 55 ∧ tk Try.prog 51 = some (false, 1) ∧ sz Try.prog 51 = some 1 ∧ nb Try.prog 51 = some 8 ∧ zeroV Try.prog 51 = some (.pointer none) ∧ und Try.prog 52 = .map 26 4 ∧ tk Try.prog 52 = some (false, 1) ∧ sz Try.prog 52 = some 1 ∧ nb Try.prog 52 = some 8 ∧ zeroV Try.prog 52 = some (.map none) ∧ und Try.prog 53 = .arr 5 2 ∧ tk Try.prog 53 = some (true, 5) ∧ sz Try.prog 53 = some 5 ∧ nb Try.prog 53 = some 40 ∧ zeroV Try.prog 53 = some (.agg #[.int .i64 0, .int .i64 0, .int .i64 0, .int .i64 0, .int .i64 0]) ∧ buildOk Try.prog 53 = true ∧ kinds Try.prog 53 = some [.int, .int, .int, .int, .int] ∧ und Try.prog 54 = .struct ∧ tk Try.prog 54 = some (true, 15) ∧ sz Try.prog 54 = some 15 ∧ nb Try.prog 54 = some 120 ∧ zeroV Try.prog 54 = some (.agg (rep 14 (.int .i64 0) ++ ([.map none] : List Value)).toArray) ∧ fieldT Try.prog 54 0 = some (0, 26)) ∧ (fieldT Try.prog 54 1 = some (4, 48) ∧ fieldT Try.prog 54 2 = some (8, 53) ∧ fieldT Try.prog 54 3 = some (13, 3) ∧ fieldT Try.prog 54 4 = some (14, 52) ∧ buildOk Try.prog 54 = true ∧ und Try.prog 55 = .struct ∧ tk Try.prog 55 = some (true, 15) ∧ sz Try.prog 55 = some 15 ∧ nb Try.prog 55 = some 120 ∧ zeroV Try.prog 55 = some (.agg (rep 14 (.int .i64 0) ++ ([.map none] : List Value)).toArray) ∧ fieldT Try.prog 55 0 = some (0, 26) ∧ fieldT Try.prog 55 1 = some (4, 48) ∧ fieldT Try.prog 55 2 = some (8, 53) ∧ fieldT Try.prog 55 3 = some (13, 3) ∧ fieldT Try.prog 55 4 = some (14, 52) ∧ buildOk Try.prog 55 = true ∧ und Try.prog 56 = .func ∧ und Try.prog 57 = .func ∧ und Try.prog 58 = .func ∧ und Try.prog 59 = .func ∧ und Try.prog 60 = .func ∧ und Try.prog 61 = .func ∧ und Try.prog 62 = .func ∧ und Try.prog 63 = .func ∧ und Try.prog 64 = .func ∧ und Try.prog 65 = .int .u64 ∧ tk Try.prog 65 = some (false, 1) ∧ sz Try.prog 65 = some 1 ∧ nb Try.prog 65 = some 8 ∧ zeroV Try.prog 65 = some (.int .u64 0) ∧ und Try.prog 66 = .struct ∧ tk Try.prog 66 = some (true, 2) ∧ sz Try.prog 66 = some 2 ∧ nb Try.prog 66 = some 16 ∧ zeroV Try.prog 66 = some (.agg #[.int .i64 0, .int .u64 0]) ∧ fieldT Try.prog 66 0 = some (0, 2) ∧ fieldT Try.prog 66 1 = some (1, 65) ∧ buildOk Try.prog 66 = true ∧ kinds Try.prog 66 = some [.int, .int] ∧ und Try.prog 67 = .struct) ∧ (tk Try.prog 67 = some (true, 2) ∧ sz Try.prog 67 = some 2 ∧ nb Try.prog 67 = some 16 ∧ zeroV Try.prog 67 = some (.agg #[.int .i64 0, .int .u64 0]) ∧ fieldT Try.prog 67 0 = some (0, 2) ∧ fieldT Try.prog 67 1 = some (1, 65) ∧ buildOk Try.prog 67 = true ∧ kinds Try.prog 67 = some [.int, .int] ∧ und Try.prog 68 = .func ∧ und Try.prog 69 = .func ∧ und Try.prog 71 = .func ∧ und Try.prog 72 = .func ∧ und Try.prog 73 = .func ∧ und Try.prog 74 = .int .u64 ∧ tk Try.prog 74 = some (false, 1) ∧ sz Try.prog 74 = some 1 ∧ nb Try.prog 74 = some 8 ∧ zeroV Try.prog 74 = some (.int .u64 0) ∧ und Try.prog 75 = .func ∧ und Try.prog 81 = .func ∧ und Try.prog 82 = .int .u32 ∧ tk Try.prog 82 = some (false, 1) ∧ sz Try.prog 82 = some 1 ∧ nb Try.prog 82 = some 4 ∧ zeroV Try.prog 82 = some (.int .u32 0) ∧ und Try.prog 85 = .func ∧ und Try.prog 86 = .ptr 5 ∧ tk Try.prog 86 = some (false, 1) ∧ sz Try.prog 86 = some 1 ∧ nb Try.prog 86 = some 8 ∧ zeroV Try.prog 86 = some (.pointer none) ∧ Try.prog.follows .mixedOrders = true ∧ callable Try.prog 3 = true ∧ callable Try.prog 4 = true ∧ callable Try.prog 5 = true ∧ callable Try.prog 6 = true ∧ callable Try.prog 7 = true ∧ callable Try.prog 8 = true ∧ callable Try.prog 9 = true ∧ callable Try.prog 10 = true) ∧ (callable Try.prog 11 = true ∧ callable Try.prog 12 = true ∧ callable Try.prog 13 = true ∧ callable Try.prog 14 = true ∧ callable Try.prog 15 = true ∧ callable Try.prog 16 = true ∧ callable Try.prog 17 = true ∧ callable Try.prog 18 = true ∧ callable Try.prog 19 = true ∧ callable Try.prog 20 = true ∧ callable Try.prog 21 = true ∧ callable Try.prog 22 = true ∧ callable Try.prog 23 = true ∧ callable Try.prog 24 = true ∧ callable Try.prog 25 = true ∧ callable Try.prog 26 = true ∧ callable Try.prog 27 = true ∧ callable Try.prog 28 = true ∧ callable Try.prog 29 = true ∧ callable Try.prog 30 = true ∧ callable Try.prog 31 = true ∧ callable Try.prog 32 = true ∧ callable Try.prog 33 = true ∧ callable Try.prog 34 = false ∧ callable Try.prog 35 = true ∧ callable Try.prog 51 = false) := ⟨facts0, facts1, facts2, facts3, facts4, facts5, facts6⟩
end Go.Proofs.Ytiaigpkaajnpoaa.GL
