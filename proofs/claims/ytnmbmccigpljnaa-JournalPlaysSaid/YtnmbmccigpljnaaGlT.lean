/- Closed facts on this seat's types and functions, printed by gltypes.py out of the translation. -/
import Derived.Test.YtnmbmccigpljnaaGlH
import Derived.Test.YtnmbmccigpljnaaProg
namespace Go.Proofs.Ytnmbmccigpljnaa.GL
open Go
theorem facts0_0 : und Try.prog 1 = .func := by kernel_rfl
theorem facts0_1 : und Try.prog 2 = .int .i64 := by kernel_rfl
theorem facts0_2 : tk Try.prog 2 = some (false, 1) := by kernel_rfl
theorem facts0_3 : sz Try.prog 2 = some 1 := by kernel_rfl
theorem facts0_4 : nb Try.prog 2 = some 8 := by kernel_rfl
theorem facts0_5 : zeroV Try.prog 2 = some (.int .i64 0) := by kernel_rfl
theorem facts0_6 : und Try.prog 3 = .int .i64 := by kernel_rfl
theorem facts0_7 : tk Try.prog 3 = some (false, 1) := by kernel_rfl
theorem facts0_8 : sz Try.prog 3 = some 1 := by kernel_rfl
theorem facts0_9 : nb Try.prog 3 = some 8 := by kernel_rfl
theorem facts0_10 : zeroV Try.prog 3 = some (.int .i64 0) := by kernel_rfl
theorem facts0_11 : und Try.prog 4 = .bool := by kernel_rfl
theorem facts0_12 : tk Try.prog 4 = some (false, 1) := by kernel_rfl
theorem facts0_13 : sz Try.prog 4 = some 1 := by kernel_rfl
theorem facts0_14 : nb Try.prog 4 = some 1 := by kernel_rfl
theorem facts0_15 : zeroV Try.prog 4 = some (.bool false) := by kernel_rfl
theorem facts0_16 : und Try.prog 5 = .int .u8 := by kernel_rfl
theorem facts0_17 : tk Try.prog 5 = some (false, 1) := by kernel_rfl
theorem facts0_18 : sz Try.prog 5 = some 1 := by kernel_rfl
theorem facts0_19 : nb Try.prog 5 = some 1 := by kernel_rfl
theorem facts0_20 : zeroV Try.prog 5 = some (.int .u8 0) := by kernel_rfl
theorem facts0_21 : und Try.prog 9 = .str := by kernel_rfl
theorem facts0_22 : tk Try.prog 9 = some (false, 1) := by kernel_rfl
theorem facts0_23 : sz Try.prog 9 = some 1 := by kernel_rfl
theorem facts0_24 : nb Try.prog 9 = some 16 := by kernel_rfl
theorem facts0_25 : zeroV Try.prog 9 = some (.string ByteArray.empty) := by kernel_rfl
theorem facts0_26 : und Try.prog 12 = .int .u64 := by kernel_rfl
theorem facts0_27 : tk Try.prog 12 = some (false, 1) := by kernel_rfl
theorem facts0_28 : sz Try.prog 12 = some 1 := by kernel_rfl
theorem facts0_29 : nb Try.prog 12 = some 8 := by kernel_rfl
theorem facts0_30 : zeroV Try.prog 12 = some (.int .u64 0) := by kernel_rfl
theorem facts0_31 : und Try.prog 13 = .struct := by kernel_rfl
theorem facts0_32 : tk Try.prog 13 = some (true, 2) := by kernel_rfl
theorem facts0_33 : sz Try.prog 13 = some 2 := by kernel_rfl
theorem facts0_34 : nb Try.prog 13 = some 24 := by kernel_rfl
theorem facts0_35 : zeroV Try.prog 13 = some (.agg #[.string ByteArray.empty, .int .u64 0]) := by kernel_rfl
theorem facts0_36 : fieldT Try.prog 13 0 = some (0, 9) := by kernel_rfl
theorem facts0_37 : fieldT Try.prog 13 1 = some (1, 12) := by kernel_rfl
theorem facts0_38 : buildOk Try.prog 13 = true := by kernel_rfl
theorem facts0_39 : und Try.prog 21 = .int .i32 := by kernel_rfl
theorem facts0 : und Try.prog 1 = .func ∧ und Try.prog 2 = .int .i64 ∧ tk Try.prog 2 = some (false, 1) ∧ sz Try.prog 2 = some 1 ∧ nb Try.prog 2 = some 8 ∧ zeroV Try.prog 2 = some (.int .i64 0) ∧ und Try.prog 3 = .int .i64 ∧ tk Try.prog 3 = some (false, 1) ∧ sz Try.prog 3 = some 1 ∧ nb Try.prog 3 = some 8 ∧ zeroV Try.prog 3 = some (.int .i64 0) ∧ und Try.prog 4 = .bool ∧ tk Try.prog 4 = some (false, 1) ∧ sz Try.prog 4 = some 1 ∧ nb Try.prog 4 = some 1 ∧ zeroV Try.prog 4 = some (.bool false) ∧ und Try.prog 5 = .int .u8 ∧ tk Try.prog 5 = some (false, 1) ∧ sz Try.prog 5 = some 1 ∧ nb Try.prog 5 = some 1 ∧ zeroV Try.prog 5 = some (.int .u8 0) ∧ und Try.prog 9 = .str ∧ tk Try.prog 9 = some (false, 1) ∧ sz Try.prog 9 = some 1 ∧ nb Try.prog 9 = some 16 ∧ zeroV Try.prog 9 = some (.string ByteArray.empty) ∧ und Try.prog 12 = .int .u64 ∧ tk Try.prog 12 = some (false, 1) ∧ sz Try.prog 12 = some 1 ∧ nb Try.prog 12 = some 8 ∧ zeroV Try.prog 12 = some (.int .u64 0) ∧ und Try.prog 13 = .struct ∧ tk Try.prog 13 = some (true, 2) ∧ sz Try.prog 13 = some 2 ∧ nb Try.prog 13 = some 24 ∧ zeroV Try.prog 13 = some (.agg #[.string ByteArray.empty, .int .u64 0]) ∧ fieldT Try.prog 13 0 = some (0, 9) ∧ fieldT Try.prog 13 1 = some (1, 12) ∧ buildOk Try.prog 13 = true ∧ und Try.prog 21 = .int .i32 := ⟨facts0_0, facts0_1, facts0_2, facts0_3, facts0_4, facts0_5, facts0_6, facts0_7, facts0_8, facts0_9, facts0_10, facts0_11, facts0_12, facts0_13, facts0_14, facts0_15, facts0_16, facts0_17, facts0_18, facts0_19, facts0_20, facts0_21, facts0_22, facts0_23, facts0_24, facts0_25, facts0_26, facts0_27, facts0_28, facts0_29, facts0_30, facts0_31, facts0_32, facts0_33, facts0_34, facts0_35, facts0_36, facts0_37, facts0_38, facts0_39⟩
theorem facts1_0 : tk Try.prog 21 = some (false, 1) := by kernel_rfl
theorem facts1_1 : sz Try.prog 21 = some 1 := by kernel_rfl
theorem facts1_2 : nb Try.prog 21 = some 4 := by kernel_rfl
theorem facts1_3 : zeroV Try.prog 21 = some (.int .i32 0) := by kernel_rfl
theorem facts1_4 : und Try.prog 22 = .int .u16 := by kernel_rfl
theorem facts1_5 : tk Try.prog 22 = some (false, 1) := by kernel_rfl
theorem facts1_6 : sz Try.prog 22 = some 1 := by kernel_rfl
theorem facts1_7 : nb Try.prog 22 = some 2 := by kernel_rfl
theorem facts1_8 : zeroV Try.prog 22 = some (.int .u16 0) := by kernel_rfl
theorem facts1_9 : und Try.prog 23 = .func := by kernel_rfl
theorem facts1_10 : und Try.prog 24 = .ptr 63 := by kernel_rfl
theorem facts1_11 : tk Try.prog 24 = some (false, 1) := by kernel_rfl
theorem facts1_12 : sz Try.prog 24 = some 1 := by kernel_rfl
theorem facts1_13 : nb Try.prog 24 = some 8 := by kernel_rfl
theorem facts1_14 : zeroV Try.prog 24 = some (.pointer none) := by kernel_rfl
theorem facts1_15 : und Try.prog 25 = .func := by kernel_rfl
theorem facts1_16 : und Try.prog 26 = .ptr 65 := by kernel_rfl
theorem facts1_17 : tk Try.prog 26 = some (false, 1) := by kernel_rfl
theorem facts1_18 : sz Try.prog 26 = some 1 := by kernel_rfl
theorem facts1_19 : nb Try.prog 26 = some 8 := by kernel_rfl
theorem facts1_20 : zeroV Try.prog 26 = some (.pointer none) := by kernel_rfl
theorem facts1_21 : und Try.prog 27 = .slice 42 := by kernel_rfl
theorem facts1_22 : tk Try.prog 27 = some (false, 1) := by kernel_rfl
theorem facts1_23 : sz Try.prog 27 = some 1 := by kernel_rfl
theorem facts1_24 : nb Try.prog 27 = some 24 := by kernel_rfl
theorem facts1_25 : zeroV Try.prog 27 = some (.slice none 0 0) := by kernel_rfl
theorem facts1_26 : und Try.prog 28 = .int .i64 := by kernel_rfl
theorem facts1_27 : tk Try.prog 28 = some (false, 1) := by kernel_rfl
theorem facts1_28 : sz Try.prog 28 = some 1 := by kernel_rfl
theorem facts1_29 : nb Try.prog 28 = some 8 := by kernel_rfl
theorem facts1_30 : zeroV Try.prog 28 = some (.int .i64 0) := by kernel_rfl
theorem facts1_31 : und Try.prog 30 = .func := by kernel_rfl
theorem facts1_32 : und Try.prog 31 = .func := by kernel_rfl
theorem facts1_33 : und Try.prog 32 = .func := by kernel_rfl
theorem facts1_34 : und Try.prog 33 = .func := by kernel_rfl
theorem facts1_35 : und Try.prog 34 = .func := by kernel_rfl
theorem facts1_36 : und Try.prog 35 = .func := by kernel_rfl
theorem facts1_37 : und Try.prog 36 = .int .u32 := by kernel_rfl
theorem facts1_38 : tk Try.prog 36 = some (false, 1) := by kernel_rfl
theorem facts1_39 : sz Try.prog 36 = some 1 := by kernel_rfl
theorem facts1 : tk Try.prog 21 = some (false, 1) ∧ sz Try.prog 21 = some 1 ∧ nb Try.prog 21 = some 4 ∧ zeroV Try.prog 21 = some (.int .i32 0) ∧ und Try.prog 22 = .int .u16 ∧ tk Try.prog 22 = some (false, 1) ∧ sz Try.prog 22 = some 1 ∧ nb Try.prog 22 = some 2 ∧ zeroV Try.prog 22 = some (.int .u16 0) ∧ und Try.prog 23 = .func ∧ und Try.prog 24 = .ptr 63 ∧ tk Try.prog 24 = some (false, 1) ∧ sz Try.prog 24 = some 1 ∧ nb Try.prog 24 = some 8 ∧ zeroV Try.prog 24 = some (.pointer none) ∧ und Try.prog 25 = .func ∧ und Try.prog 26 = .ptr 65 ∧ tk Try.prog 26 = some (false, 1) ∧ sz Try.prog 26 = some 1 ∧ nb Try.prog 26 = some 8 ∧ zeroV Try.prog 26 = some (.pointer none) ∧ und Try.prog 27 = .slice 42 ∧ tk Try.prog 27 = some (false, 1) ∧ sz Try.prog 27 = some 1 ∧ nb Try.prog 27 = some 24 ∧ zeroV Try.prog 27 = some (.slice none 0 0) ∧ und Try.prog 28 = .int .i64 ∧ tk Try.prog 28 = some (false, 1) ∧ sz Try.prog 28 = some 1 ∧ nb Try.prog 28 = some 8 ∧ zeroV Try.prog 28 = some (.int .i64 0) ∧ und Try.prog 30 = .func ∧ und Try.prog 31 = .func ∧ und Try.prog 32 = .func ∧ und Try.prog 33 = .func ∧ und Try.prog 34 = .func ∧ und Try.prog 35 = .func ∧ und Try.prog 36 = .int .u32 ∧ tk Try.prog 36 = some (false, 1) ∧ sz Try.prog 36 = some 1 := ⟨facts1_0, facts1_1, facts1_2, facts1_3, facts1_4, facts1_5, facts1_6, facts1_7, facts1_8, facts1_9, facts1_10, facts1_11, facts1_12, facts1_13, facts1_14, facts1_15, facts1_16, facts1_17, facts1_18, facts1_19, facts1_20, facts1_21, facts1_22, facts1_23, facts1_24, facts1_25, facts1_26, facts1_27, facts1_28, facts1_29, facts1_30, facts1_31, facts1_32, facts1_33, facts1_34, facts1_35, facts1_36, facts1_37, facts1_38, facts1_39⟩
theorem facts2_0 : nb Try.prog 36 = some 4 := by kernel_rfl
theorem facts2_1 : zeroV Try.prog 36 = some (.int .u32 0) := by kernel_rfl
theorem facts2_2 : und Try.prog 37 = .struct := by kernel_rfl
theorem facts2_3 : tk Try.prog 37 = some (true, 2) := by kernel_rfl
theorem facts2_4 : sz Try.prog 37 = some 2 := by kernel_rfl
theorem facts2_5 : nb Try.prog 37 = some 8 := by kernel_rfl
theorem facts2_6 : zeroV Try.prog 37 = some (.agg #[.int .u16 0, .int .u32 0]) := by kernel_rfl
theorem facts2_7 : fieldT Try.prog 37 0 = some (0, 22) := by kernel_rfl
theorem facts2_8 : fieldT Try.prog 37 1 = some (1, 36) := by kernel_rfl
theorem facts2_9 : buildOk Try.prog 37 = true := by kernel_rfl
theorem facts2_10 : kinds Try.prog 37 = some [.int, .int] := by kernel_rfl
theorem facts2_11 : und Try.prog 38 = .struct := by kernel_rfl
theorem facts2_12 : tk Try.prog 38 = some (true, 2) := by kernel_rfl
theorem facts2_13 : sz Try.prog 38 = some 2 := by kernel_rfl
theorem facts2_14 : nb Try.prog 38 = some 8 := by kernel_rfl
theorem facts2_15 : zeroV Try.prog 38 = some (.agg #[.int .u16 0, .int .u32 0]) := by kernel_rfl
theorem facts2_16 : fieldT Try.prog 38 0 = some (0, 22) := by kernel_rfl
theorem facts2_17 : fieldT Try.prog 38 1 = some (1, 36) := by kernel_rfl
theorem facts2_18 : buildOk Try.prog 38 = true := by kernel_rfl
theorem facts2_19 : kinds Try.prog 38 = some [.int, .int] := by kernel_rfl
theorem facts2_20 : und Try.prog 39 = .arr 4 3 := by kernel_rfl
theorem facts2_21 : tk Try.prog 39 = some (true, 4) := by kernel_rfl
theorem facts2_22 : sz Try.prog 39 = some 4 := by kernel_rfl
theorem facts2_23 : nb Try.prog 39 = some 32 := by kernel_rfl
theorem facts2_24 : zeroV Try.prog 39 = some (.agg #[.int .i64 0, .int .i64 0, .int .i64 0, .int .i64 0]) := by kernel_rfl
theorem facts2_25 : buildOk Try.prog 39 = true := by kernel_rfl
theorem facts2_26 : kinds Try.prog 39 = some [.int, .int, .int, .int] := by kernel_rfl
theorem facts2_27 : und Try.prog 40 = .arr 4 3 := by kernel_rfl
theorem facts2_28 : tk Try.prog 40 = some (true, 4) := by kernel_rfl
theorem facts2_29 : sz Try.prog 40 = some 4 := by kernel_rfl
theorem facts2_30 : nb Try.prog 40 = some 32 := by kernel_rfl
theorem facts2_31 : zeroV Try.prog 40 = some (.agg #[.int .i64 0, .int .i64 0, .int .i64 0, .int .i64 0]) := by kernel_rfl
theorem facts2_32 : buildOk Try.prog 40 = true := by kernel_rfl
theorem facts2_33 : kinds Try.prog 40 = some [.int, .int, .int, .int] := by kernel_rfl
theorem facts2_34 : und Try.prog 41 = .struct := by kernel_rfl
theorem facts2_35 : tk Try.prog 41 = some (true, 17) := by kernel_rfl
theorem facts2_36 : sz Try.prog 41 = some 17 := by kernel_rfl
theorem facts2_37 : nb Try.prog 41 = some 136 := by kernel_rfl
theorem facts2_38 : zeroV Try.prog 41 = some (.agg (([.int .i64 0, .int .u16 0, .int .u32 0, .string ByteArray.empty] : List Value) ++ rep 13 (.int .i64 0)).toArray) := by kernel_rfl
theorem facts2_39 : fieldT Try.prog 41 0 = some (0, 3) := by kernel_rfl
theorem facts2 : nb Try.prog 36 = some 4 ∧ zeroV Try.prog 36 = some (.int .u32 0) ∧ und Try.prog 37 = .struct ∧ tk Try.prog 37 = some (true, 2) ∧ sz Try.prog 37 = some 2 ∧ nb Try.prog 37 = some 8 ∧ zeroV Try.prog 37 = some (.agg #[.int .u16 0, .int .u32 0]) ∧ fieldT Try.prog 37 0 = some (0, 22) ∧ fieldT Try.prog 37 1 = some (1, 36) ∧ buildOk Try.prog 37 = true ∧ kinds Try.prog 37 = some [.int, .int] ∧ und Try.prog 38 = .struct ∧ tk Try.prog 38 = some (true, 2) ∧ sz Try.prog 38 = some 2 ∧ nb Try.prog 38 = some 8 ∧ zeroV Try.prog 38 = some (.agg #[.int .u16 0, .int .u32 0]) ∧ fieldT Try.prog 38 0 = some (0, 22) ∧ fieldT Try.prog 38 1 = some (1, 36) ∧ buildOk Try.prog 38 = true ∧ kinds Try.prog 38 = some [.int, .int] ∧ und Try.prog 39 = .arr 4 3 ∧ tk Try.prog 39 = some (true, 4) ∧ sz Try.prog 39 = some 4 ∧ nb Try.prog 39 = some 32 ∧ zeroV Try.prog 39 = some (.agg #[.int .i64 0, .int .i64 0, .int .i64 0, .int .i64 0]) ∧ buildOk Try.prog 39 = true ∧ kinds Try.prog 39 = some [.int, .int, .int, .int] ∧ und Try.prog 40 = .arr 4 3 ∧ tk Try.prog 40 = some (true, 4) ∧ sz Try.prog 40 = some 4 ∧ nb Try.prog 40 = some 32 ∧ zeroV Try.prog 40 = some (.agg #[.int .i64 0, .int .i64 0, .int .i64 0, .int .i64 0]) ∧ buildOk Try.prog 40 = true ∧ kinds Try.prog 40 = some [.int, .int, .int, .int] ∧ und Try.prog 41 = .struct ∧ tk Try.prog 41 = some (true, 17) ∧ sz Try.prog 41 = some 17 ∧ nb Try.prog 41 = some 136 ∧ zeroV Try.prog 41 = some (.agg (([.int .i64 0, .int .u16 0, .int .u32 0, .string ByteArray.empty] : List Value) ++ rep 13 (.int .i64 0)).toArray) ∧ fieldT Try.prog 41 0 = some (0, 3) := ⟨facts2_0, facts2_1, facts2_2, facts2_3, facts2_4, facts2_5, facts2_6, facts2_7, facts2_8, facts2_9, facts2_10, facts2_11, facts2_12, facts2_13, facts2_14, facts2_15, facts2_16, facts2_17, facts2_18, facts2_19, facts2_20, facts2_21, facts2_22, facts2_23, facts2_24, facts2_25, facts2_26, facts2_27, facts2_28, facts2_29, facts2_30, facts2_31, facts2_32, facts2_33, facts2_34, facts2_35, facts2_36, facts2_37, facts2_38, facts2_39⟩
theorem facts3_0 : fieldT Try.prog 41 1 = some (1, 38) := by kernel_rfl
theorem facts3_1 : fieldT Try.prog 41 2 = some (3, 9) := by kernel_rfl
theorem facts3_2 : fieldT Try.prog 41 3 = some (4, 2) := by kernel_rfl
theorem facts3_3 : fieldT Try.prog 41 4 = some (5, 40) := by kernel_rfl
theorem facts3_4 : fieldT Try.prog 41 5 = some (9, 40) := by kernel_rfl
theorem facts3_5 : fieldT Try.prog 41 6 = some (13, 40) := by kernel_rfl
theorem facts3_6 : buildOk Try.prog 41 = true := by kernel_rfl
theorem facts3_7 : kinds Try.prog 41 = some [.int, .int, .int, .str, .int, .int, .int, .int, .int, .int, .int, .int, .int, .int, .int, .int, .int] := by kernel_rfl
theorem facts3_8 : und Try.prog 42 = .struct := by kernel_rfl
theorem facts3_9 : tk Try.prog 42 = some (true, 17) := by kernel_rfl
theorem facts3_10 : sz Try.prog 42 = some 17 := by kernel_rfl
theorem facts3_11 : nb Try.prog 42 = some 136 := by kernel_rfl
theorem facts3_12 : zeroV Try.prog 42 = some (.agg (([.int .i64 0, .int .u16 0, .int .u32 0, .string ByteArray.empty] : List Value) ++ rep 13 (.int .i64 0)).toArray) := by kernel_rfl
theorem facts3_13 : fieldT Try.prog 42 0 = some (0, 3) := by kernel_rfl
theorem facts3_14 : fieldT Try.prog 42 1 = some (1, 38) := by kernel_rfl
theorem facts3_15 : fieldT Try.prog 42 2 = some (3, 9) := by kernel_rfl
theorem facts3_16 : fieldT Try.prog 42 3 = some (4, 2) := by kernel_rfl
theorem facts3_17 : fieldT Try.prog 42 4 = some (5, 40) := by kernel_rfl
theorem facts3_18 : fieldT Try.prog 42 5 = some (9, 40) := by kernel_rfl
theorem facts3_19 : fieldT Try.prog 42 6 = some (13, 40) := by kernel_rfl
theorem facts3_20 : buildOk Try.prog 42 = true := by kernel_rfl
theorem facts3_21 : kinds Try.prog 42 = some [.int, .int, .int, .str, .int, .int, .int, .int, .int, .int, .int, .int, .int, .int, .int, .int, .int] := by kernel_rfl
theorem facts3_22 : und Try.prog 43 = .func := by kernel_rfl
theorem facts3_23 : und Try.prog 44 = .func := by kernel_rfl
theorem facts3_24 : und Try.prog 45 = .func := by kernel_rfl
theorem facts3_25 : und Try.prog 46 = .func := by kernel_rfl
theorem facts3_26 : und Try.prog 47 = .func := by kernel_rfl
theorem facts3_27 : und Try.prog 48 = .slice 4 := by kernel_rfl
theorem facts3_28 : tk Try.prog 48 = some (false, 1) := by kernel_rfl
theorem facts3_29 : sz Try.prog 48 = some 1 := by kernel_rfl
theorem facts3_30 : nb Try.prog 48 = some 24 := by kernel_rfl
theorem facts3_31 : zeroV Try.prog 48 = some (.slice none 0 0) := by kernel_rfl
theorem facts3_32 : und Try.prog 49 = .func := by kernel_rfl
theorem facts3_33 : und Try.prog 50 = .func := by kernel_rfl
theorem facts3_34 : und Try.prog 51 = .func := by kernel_rfl
theorem facts3_35 : und Try.prog 52 = .func := by kernel_rfl
theorem facts3_36 : und Try.prog 53 = .func := by kernel_rfl
theorem facts3_37 : und Try.prog 54 = .slice 5 := by kernel_rfl
theorem facts3_38 : tk Try.prog 54 = some (false, 1) := by kernel_rfl
theorem facts3_39 : sz Try.prog 54 = some 1 := by kernel_rfl
theorem facts3 : fieldT Try.prog 41 1 = some (1, 38) ∧ fieldT Try.prog 41 2 = some (3, 9) ∧ fieldT Try.prog 41 3 = some (4, 2) ∧ fieldT Try.prog 41 4 = some (5, 40) ∧ fieldT Try.prog 41 5 = some (9, 40) ∧ fieldT Try.prog 41 6 = some (13, 40) ∧ buildOk Try.prog 41 = true ∧ kinds Try.prog 41 = some [.int, .int, .int, .str, .int, .int, .int, .int, .int, .int, .int, .int, .int, .int, .int, .int, .int] ∧ und Try.prog 42 = .struct ∧ tk Try.prog 42 = some (true, 17) ∧ sz Try.prog 42 = some 17 ∧ nb Try.prog 42 = some 136 ∧ zeroV Try.prog 42 = some (.agg (([.int .i64 0, .int .u16 0, .int .u32 0, .string ByteArray.empty] : List Value) ++ rep 13 (.int .i64 0)).toArray) ∧ fieldT Try.prog 42 0 = some (0, 3) ∧ fieldT Try.prog 42 1 = some (1, 38) ∧ fieldT Try.prog 42 2 = some (3, 9) ∧ fieldT Try.prog 42 3 = some (4, 2) ∧ fieldT Try.prog 42 4 = some (5, 40) ∧ fieldT Try.prog 42 5 = some (9, 40) ∧ fieldT Try.prog 42 6 = some (13, 40) ∧ buildOk Try.prog 42 = true ∧ kinds Try.prog 42 = some [.int, .int, .int, .str, .int, .int, .int, .int, .int, .int, .int, .int, .int, .int, .int, .int, .int] ∧ und Try.prog 43 = .func ∧ und Try.prog 44 = .func ∧ und Try.prog 45 = .func ∧ und Try.prog 46 = .func ∧ und Try.prog 47 = .func ∧ und Try.prog 48 = .slice 4 ∧ tk Try.prog 48 = some (false, 1) ∧ sz Try.prog 48 = some 1 ∧ nb Try.prog 48 = some 24 ∧ zeroV Try.prog 48 = some (.slice none 0 0) ∧ und Try.prog 49 = .func ∧ und Try.prog 50 = .func ∧ und Try.prog 51 = .func ∧ und Try.prog 52 = .func ∧ und Try.prog 53 = .func ∧ und Try.prog 54 = .slice 5 ∧ tk Try.prog 54 = some (false, 1) ∧ sz Try.prog 54 = some 1 := ⟨facts3_0, facts3_1, facts3_2, facts3_3, facts3_4, facts3_5, facts3_6, facts3_7, facts3_8, facts3_9, facts3_10, facts3_11, facts3_12, facts3_13, facts3_14, facts3_15, facts3_16, facts3_17, facts3_18, facts3_19, facts3_20, facts3_21, facts3_22, facts3_23, facts3_24, facts3_25, facts3_26, facts3_27, facts3_28, facts3_29, facts3_30, facts3_31, facts3_32, facts3_33, facts3_34, facts3_35, facts3_36, facts3_37, facts3_38, facts3_39⟩
theorem facts4_0 : nb Try.prog 54 = some 24 := by kernel_rfl
theorem facts4_1 : zeroV Try.prog 54 = some (.slice none 0 0) := by kernel_rfl
theorem facts4_2 : und Try.prog 55 = .func := by kernel_rfl
theorem facts4_3 : und Try.prog 56 = .slice 58 := by kernel_rfl
theorem facts4_4 : tk Try.prog 56 = some (false, 1) := by kernel_rfl
theorem facts4_5 : sz Try.prog 56 = some 1 := by kernel_rfl
theorem facts4_6 : nb Try.prog 56 = some 24 := by kernel_rfl
theorem facts4_7 : zeroV Try.prog 56 = some (.slice none 0 0) := by kernel_rfl
theorem facts4_8 : und Try.prog 57 = .struct := by kernel_rfl
theorem facts4_9 : tk Try.prog 57 = some (true, 4) := by kernel_rfl
theorem facts4_10 : sz Try.prog 57 = some 4 := by kernel_rfl
theorem facts4_11 : nb Try.prog 57 = some 32 := by kernel_rfl
theorem facts4_12 : zeroV Try.prog 57 = some (.agg #[.int .u8 0, .int .u8 0, .int .u8 0, .slice none 0 0]) := by kernel_rfl
theorem facts4_13 : fieldT Try.prog 57 0 = some (0, 5) := by kernel_rfl
theorem facts4_14 : fieldT Try.prog 57 1 = some (1, 5) := by kernel_rfl
theorem facts4_15 : fieldT Try.prog 57 2 = some (2, 5) := by kernel_rfl
theorem facts4_16 : fieldT Try.prog 57 3 = some (3, 48) := by kernel_rfl
theorem facts4_17 : buildOk Try.prog 57 = true := by kernel_rfl
theorem facts4_18 : und Try.prog 58 = .struct := by kernel_rfl
theorem facts4_19 : tk Try.prog 58 = some (true, 4) := by kernel_rfl
theorem facts4_20 : sz Try.prog 58 = some 4 := by kernel_rfl
theorem facts4_21 : nb Try.prog 58 = some 32 := by kernel_rfl
theorem facts4_22 : zeroV Try.prog 58 = some (.agg #[.int .u8 0, .int .u8 0, .int .u8 0, .slice none 0 0]) := by kernel_rfl
theorem facts4_23 : fieldT Try.prog 58 0 = some (0, 5) := by kernel_rfl
theorem facts4_24 : fieldT Try.prog 58 1 = some (1, 5) := by kernel_rfl
theorem facts4_25 : fieldT Try.prog 58 2 = some (2, 5) := by kernel_rfl
theorem facts4_26 : fieldT Try.prog 58 3 = some (3, 48) := by kernel_rfl
theorem facts4_27 : buildOk Try.prog 58 = true := by kernel_rfl
theorem facts4_28 : und Try.prog 59 = .func := by kernel_rfl
theorem facts4_29 : und Try.prog 60 = .slice 83 := by kernel_rfl
theorem facts4_30 : tk Try.prog 60 = some (false, 1) := by kernel_rfl
theorem facts4_31 : sz Try.prog 60 = some 1 := by kernel_rfl
theorem facts4_32 : nb Try.prog 60 = some 24 := by kernel_rfl
theorem facts4_33 : zeroV Try.prog 60 = some (.slice none 0 0) := by kernel_rfl
theorem facts4_34 : und Try.prog 61 = .slice 85 := by kernel_rfl
theorem facts4_35 : tk Try.prog 61 = some (false, 1) := by kernel_rfl
theorem facts4_36 : sz Try.prog 61 = some 1 := by kernel_rfl
theorem facts4_37 : nb Try.prog 61 = some 24 := by kernel_rfl
theorem facts4_38 : zeroV Try.prog 61 = some (.slice none 0 0) := by kernel_rfl
theorem facts4_39 : und Try.prog 62 = .struct := by kernel_rfl
theorem facts4 : nb Try.prog 54 = some 24 ∧ zeroV Try.prog 54 = some (.slice none 0 0) ∧ und Try.prog 55 = .func ∧ und Try.prog 56 = .slice 58 ∧ tk Try.prog 56 = some (false, 1) ∧ sz Try.prog 56 = some 1 ∧ nb Try.prog 56 = some 24 ∧ zeroV Try.prog 56 = some (.slice none 0 0) ∧ und Try.prog 57 = .struct ∧ tk Try.prog 57 = some (true, 4) ∧ sz Try.prog 57 = some 4 ∧ nb Try.prog 57 = some 32 ∧ zeroV Try.prog 57 = some (.agg #[.int .u8 0, .int .u8 0, .int .u8 0, .slice none 0 0]) ∧ fieldT Try.prog 57 0 = some (0, 5) ∧ fieldT Try.prog 57 1 = some (1, 5) ∧ fieldT Try.prog 57 2 = some (2, 5) ∧ fieldT Try.prog 57 3 = some (3, 48) ∧ buildOk Try.prog 57 = true ∧ und Try.prog 58 = .struct ∧ tk Try.prog 58 = some (true, 4) ∧ sz Try.prog 58 = some 4 ∧ nb Try.prog 58 = some 32 ∧ zeroV Try.prog 58 = some (.agg #[.int .u8 0, .int .u8 0, .int .u8 0, .slice none 0 0]) ∧ fieldT Try.prog 58 0 = some (0, 5) ∧ fieldT Try.prog 58 1 = some (1, 5) ∧ fieldT Try.prog 58 2 = some (2, 5) ∧ fieldT Try.prog 58 3 = some (3, 48) ∧ buildOk Try.prog 58 = true ∧ und Try.prog 59 = .func ∧ und Try.prog 60 = .slice 83 ∧ tk Try.prog 60 = some (false, 1) ∧ sz Try.prog 60 = some 1 ∧ nb Try.prog 60 = some 24 ∧ zeroV Try.prog 60 = some (.slice none 0 0) ∧ und Try.prog 61 = .slice 85 ∧ tk Try.prog 61 = some (false, 1) ∧ sz Try.prog 61 = some 1 ∧ nb Try.prog 61 = some 24 ∧ zeroV Try.prog 61 = some (.slice none 0 0) ∧ und Try.prog 62 = .struct := ⟨facts4_0, facts4_1, facts4_2, facts4_3, facts4_4, facts4_5, facts4_6, facts4_7, facts4_8, facts4_9, facts4_10, facts4_11, facts4_12, facts4_13, facts4_14, facts4_15, facts4_16, facts4_17, facts4_18, facts4_19, facts4_20, facts4_21, facts4_22, facts4_23, facts4_24, facts4_25, facts4_26, facts4_27, facts4_28, facts4_29, facts4_30, facts4_31, facts4_32, facts4_33, facts4_34, facts4_35, facts4_36, facts4_37, facts4_38, facts4_39⟩
theorem facts5_0 : tk Try.prog 62 = some (true, 5) := by kernel_rfl
theorem facts5_1 : sz Try.prog 62 = some 5 := by kernel_rfl
theorem facts5_2 : nb Try.prog 62 = some 88 := by kernel_rfl
theorem facts5_3 : zeroV Try.prog 62 = some (.agg #[.slice none 0 0, .slice none 0 0, .slice none 0 0, .int .i64 0, .bool false]) := by kernel_rfl
theorem facts5_4 : fieldT Try.prog 62 0 = some (0, 60) := by kernel_rfl
theorem facts5_5 : fieldT Try.prog 62 1 = some (1, 60) := by kernel_rfl
theorem facts5_6 : fieldT Try.prog 62 2 = some (2, 61) := by kernel_rfl
theorem facts5_7 : fieldT Try.prog 62 3 = some (3, 3) := by kernel_rfl
theorem facts5_8 : fieldT Try.prog 62 4 = some (4, 4) := by kernel_rfl
theorem facts5_9 : buildOk Try.prog 62 = true := by kernel_rfl
theorem facts5_10 : und Try.prog 63 = .struct := by kernel_rfl
theorem facts5_11 : tk Try.prog 63 = some (true, 5) := by kernel_rfl
theorem facts5_12 : sz Try.prog 63 = some 5 := by kernel_rfl
theorem facts5_13 : nb Try.prog 63 = some 88 := by kernel_rfl
theorem facts5_14 : zeroV Try.prog 63 = some (.agg #[.slice none 0 0, .slice none 0 0, .slice none 0 0, .int .i64 0, .bool false]) := by kernel_rfl
theorem facts5_15 : fieldT Try.prog 63 0 = some (0, 60) := by kernel_rfl
theorem facts5_16 : fieldT Try.prog 63 1 = some (1, 60) := by kernel_rfl
theorem facts5_17 : fieldT Try.prog 63 2 = some (2, 61) := by kernel_rfl
theorem facts5_18 : fieldT Try.prog 63 3 = some (3, 3) := by kernel_rfl
theorem facts5_19 : fieldT Try.prog 63 4 = some (4, 4) := by kernel_rfl
theorem facts5_20 : buildOk Try.prog 63 = true := by kernel_rfl
theorem facts5_21 : und Try.prog 64 = .struct := by kernel_rfl
theorem facts5_22 : tk Try.prog 64 = some (true, 6) := by kernel_rfl
theorem facts5_23 : sz Try.prog 64 = some 6 := by kernel_rfl
theorem facts5_24 : nb Try.prog 64 = some 64 := by kernel_rfl
theorem facts5_25 : zeroV Try.prog 64 = some (.agg #[.pointer none, .int .i64 0, .int .i64 0, .int .i64 0, .int .u32 0, .slice none 0 0]) := by kernel_rfl
theorem facts5_26 : fieldT Try.prog 64 0 = some (0, 24) := by kernel_rfl
theorem facts5_27 : fieldT Try.prog 64 1 = some (1, 3) := by kernel_rfl
theorem facts5_28 : fieldT Try.prog 64 2 = some (2, 3) := by kernel_rfl
theorem facts5_29 : fieldT Try.prog 64 3 = some (3, 3) := by kernel_rfl
theorem facts5_30 : fieldT Try.prog 64 4 = some (4, 36) := by kernel_rfl
theorem facts5_31 : fieldT Try.prog 64 5 = some (5, 27) := by kernel_rfl
theorem facts5_32 : buildOk Try.prog 64 = true := by kernel_rfl
theorem facts5_33 : und Try.prog 65 = .struct := by kernel_rfl
theorem facts5_34 : tk Try.prog 65 = some (true, 6) := by kernel_rfl
theorem facts5_35 : sz Try.prog 65 = some 6 := by kernel_rfl
theorem facts5_36 : nb Try.prog 65 = some 64 := by kernel_rfl
theorem facts5_37 : zeroV Try.prog 65 = some (.agg #[.pointer none, .int .i64 0, .int .i64 0, .int .i64 0, .int .u32 0, .slice none 0 0]) := by kernel_rfl
theorem facts5_38 : fieldT Try.prog 65 0 = some (0, 24) := by kernel_rfl
theorem facts5_39 : fieldT Try.prog 65 1 = some (1, 3) := by kernel_rfl
theorem facts5 : tk Try.prog 62 = some (true, 5) ∧ sz Try.prog 62 = some 5 ∧ nb Try.prog 62 = some 88 ∧ zeroV Try.prog 62 = some (.agg #[.slice none 0 0, .slice none 0 0, .slice none 0 0, .int .i64 0, .bool false]) ∧ fieldT Try.prog 62 0 = some (0, 60) ∧ fieldT Try.prog 62 1 = some (1, 60) ∧ fieldT Try.prog 62 2 = some (2, 61) ∧ fieldT Try.prog 62 3 = some (3, 3) ∧ fieldT Try.prog 62 4 = some (4, 4) ∧ buildOk Try.prog 62 = true ∧ und Try.prog 63 = .struct ∧ tk Try.prog 63 = some (true, 5) ∧ sz Try.prog 63 = some 5 ∧ nb Try.prog 63 = some 88 ∧ zeroV Try.prog 63 = some (.agg #[.slice none 0 0, .slice none 0 0, .slice none 0 0, .int .i64 0, .bool false]) ∧ fieldT Try.prog 63 0 = some (0, 60) ∧ fieldT Try.prog 63 1 = some (1, 60) ∧ fieldT Try.prog 63 2 = some (2, 61) ∧ fieldT Try.prog 63 3 = some (3, 3) ∧ fieldT Try.prog 63 4 = some (4, 4) ∧ buildOk Try.prog 63 = true ∧ und Try.prog 64 = .struct ∧ tk Try.prog 64 = some (true, 6) ∧ sz Try.prog 64 = some 6 ∧ nb Try.prog 64 = some 64 ∧ zeroV Try.prog 64 = some (.agg #[.pointer none, .int .i64 0, .int .i64 0, .int .i64 0, .int .u32 0, .slice none 0 0]) ∧ fieldT Try.prog 64 0 = some (0, 24) ∧ fieldT Try.prog 64 1 = some (1, 3) ∧ fieldT Try.prog 64 2 = some (2, 3) ∧ fieldT Try.prog 64 3 = some (3, 3) ∧ fieldT Try.prog 64 4 = some (4, 36) ∧ fieldT Try.prog 64 5 = some (5, 27) ∧ buildOk Try.prog 64 = true ∧ und Try.prog 65 = .struct ∧ tk Try.prog 65 = some (true, 6) ∧ sz Try.prog 65 = some 6 ∧ nb Try.prog 65 = some 64 ∧ zeroV Try.prog 65 = some (.agg #[.pointer none, .int .i64 0, .int .i64 0, .int .i64 0, .int .u32 0, .slice none 0 0]) ∧ fieldT Try.prog 65 0 = some (0, 24) ∧ fieldT Try.prog 65 1 = some (1, 3) := ⟨facts5_0, facts5_1, facts5_2, facts5_3, facts5_4, facts5_5, facts5_6, facts5_7, facts5_8, facts5_9, facts5_10, facts5_11, facts5_12, facts5_13, facts5_14, facts5_15, facts5_16, facts5_17, facts5_18, facts5_19, facts5_20, facts5_21, facts5_22, facts5_23, facts5_24, facts5_25, facts5_26, facts5_27, facts5_28, facts5_29, facts5_30, facts5_31, facts5_32, facts5_33, facts5_34, facts5_35, facts5_36, facts5_37, facts5_38, facts5_39⟩
theorem facts6_0 : fieldT Try.prog 65 2 = some (2, 3) := by kernel_rfl
theorem facts6_1 : fieldT Try.prog 65 3 = some (3, 3) := by kernel_rfl
theorem facts6_2 : fieldT Try.prog 65 4 = some (4, 36) := by kernel_rfl
theorem facts6_3 : fieldT Try.prog 65 5 = some (5, 27) := by kernel_rfl
theorem facts6_4 : buildOk Try.prog 65 = true := by kernel_rfl
theorem facts6_5 : und Try.prog 66 = .struct := by kernel_rfl
theorem facts6_6 : tk Try.prog 66 = some (true, 3) := by kernel_rfl
theorem facts6_7 : sz Try.prog 66 = some 3 := by kernel_rfl
theorem facts6_8 : nb Try.prog 66 = some 40 := by kernel_rfl
theorem facts6_9 : zeroV Try.prog 66 = some (.agg #[.int .u32 0, .int .i64 0, .slice none 0 0]) := by kernel_rfl
theorem facts6_10 : fieldT Try.prog 66 0 = some (0, 36) := by kernel_rfl
theorem facts6_11 : fieldT Try.prog 66 1 = some (1, 3) := by kernel_rfl
theorem facts6_12 : fieldT Try.prog 66 2 = some (2, 54) := by kernel_rfl
theorem facts6_13 : buildOk Try.prog 66 = true := by kernel_rfl
theorem facts6_14 : und Try.prog 67 = .struct := by kernel_rfl
theorem facts6_15 : tk Try.prog 67 = some (true, 3) := by kernel_rfl
theorem facts6_16 : sz Try.prog 67 = some 3 := by kernel_rfl
theorem facts6_17 : nb Try.prog 67 = some 40 := by kernel_rfl
theorem facts6_18 : zeroV Try.prog 67 = some (.agg #[.int .u32 0, .int .i64 0, .slice none 0 0]) := by kernel_rfl
theorem facts6_19 : fieldT Try.prog 67 0 = some (0, 36) := by kernel_rfl
theorem facts6_20 : fieldT Try.prog 67 1 = some (1, 3) := by kernel_rfl
theorem facts6_21 : fieldT Try.prog 67 2 = some (2, 54) := by kernel_rfl
theorem facts6_22 : buildOk Try.prog 67 = true := by kernel_rfl
theorem facts6_23 : und Try.prog 69 = .func := by kernel_rfl
theorem facts6_24 : und Try.prog 71 = .func := by kernel_rfl
theorem facts6_25 : und Try.prog 72 = .func := by kernel_rfl
theorem facts6_26 : und Try.prog 74 = .func := by kernel_rfl
theorem facts6_27 : und Try.prog 76 = .func := by kernel_rfl
theorem facts6_28 : und Try.prog 77 = .func := by kernel_rfl
theorem facts6_29 : und Try.prog 78 = .func := by kernel_rfl
theorem facts6_30 : und Try.prog 79 = .func := by kernel_rfl
theorem facts6_31 : und Try.prog 80 = .func := by kernel_rfl
theorem facts6_32 : und Try.prog 81 = .func := by kernel_rfl
theorem facts6_33 : und Try.prog 82 = .arr 64 5 := by kernel_rfl
theorem facts6_34 : tk Try.prog 82 = some (true, 64) := by kernel_rfl
theorem facts6_35 : sz Try.prog 82 = some 64 := by kernel_rfl
theorem facts6_36 : nb Try.prog 82 = some 64 := by kernel_rfl
theorem facts6_37 : zeroV Try.prog 82 = some (.agg (rep 64 (.int .u8 0)).toArray) := by kernel_rfl
theorem facts6_38 : buildOk Try.prog 82 = true := by kernel_rfl
theorem facts6_39 : kinds Try.prog 82 = some (List.replicate 64 .int) := by kernel_rfl
theorem facts6 : fieldT Try.prog 65 2 = some (2, 3) ∧ fieldT Try.prog 65 3 = some (3, 3) ∧ fieldT Try.prog 65 4 = some (4, 36) ∧ fieldT Try.prog 65 5 = some (5, 27) ∧ buildOk Try.prog 65 = true ∧ und Try.prog 66 = .struct ∧ tk Try.prog 66 = some (true, 3) ∧ sz Try.prog 66 = some 3 ∧ nb Try.prog 66 = some 40 ∧ zeroV Try.prog 66 = some (.agg #[.int .u32 0, .int .i64 0, .slice none 0 0]) ∧ fieldT Try.prog 66 0 = some (0, 36) ∧ fieldT Try.prog 66 1 = some (1, 3) ∧ fieldT Try.prog 66 2 = some (2, 54) ∧ buildOk Try.prog 66 = true ∧ und Try.prog 67 = .struct ∧ tk Try.prog 67 = some (true, 3) ∧ sz Try.prog 67 = some 3 ∧ nb Try.prog 67 = some 40 ∧ zeroV Try.prog 67 = some (.agg #[.int .u32 0, .int .i64 0, .slice none 0 0]) ∧ fieldT Try.prog 67 0 = some (0, 36) ∧ fieldT Try.prog 67 1 = some (1, 3) ∧ fieldT Try.prog 67 2 = some (2, 54) ∧ buildOk Try.prog 67 = true ∧ und Try.prog 69 = .func ∧ und Try.prog 71 = .func ∧ und Try.prog 72 = .func ∧ und Try.prog 74 = .func ∧ und Try.prog 76 = .func ∧ und Try.prog 77 = .func ∧ und Try.prog 78 = .func ∧ und Try.prog 79 = .func ∧ und Try.prog 80 = .func ∧ und Try.prog 81 = .func ∧ und Try.prog 82 = .arr 64 5 ∧ tk Try.prog 82 = some (true, 64) ∧ sz Try.prog 82 = some 64 ∧ nb Try.prog 82 = some 64 ∧ zeroV Try.prog 82 = some (.agg (rep 64 (.int .u8 0)).toArray) ∧ buildOk Try.prog 82 = true ∧ kinds Try.prog 82 = some (List.replicate 64 .int) := ⟨facts6_0, facts6_1, facts6_2, facts6_3, facts6_4, facts6_5, facts6_6, facts6_7, facts6_8, facts6_9, facts6_10, facts6_11, facts6_12, facts6_13, facts6_14, facts6_15, facts6_16, facts6_17, facts6_18, facts6_19, facts6_20, facts6_21, facts6_22, facts6_23, facts6_24, facts6_25, facts6_26, facts6_27, facts6_28, facts6_29, facts6_30, facts6_31, facts6_32, facts6_33, facts6_34, facts6_35, facts6_36, facts6_37, facts6_38, facts6_39⟩
theorem facts7_0 : und Try.prog 83 = .arr 64 5 := by kernel_rfl
theorem facts7_1 : tk Try.prog 83 = some (true, 64) := by kernel_rfl
theorem facts7_2 : sz Try.prog 83 = some 64 := by kernel_rfl
theorem facts7_3 : nb Try.prog 83 = some 64 := by kernel_rfl
theorem facts7_4 : zeroV Try.prog 83 = some (.agg (rep 64 (.int .u8 0)).toArray) := by kernel_rfl
theorem facts7_5 : buildOk Try.prog 83 = true := by kernel_rfl
theorem facts7_6 : kinds Try.prog 83 = some (List.replicate 64 .int) := by kernel_rfl
theorem facts7_7 : und Try.prog 84 = .struct := by kernel_rfl
theorem facts7_8 : tk Try.prog 84 = some (true, 65) := by kernel_rfl
theorem facts7_9 : sz Try.prog 84 = some 65 := by kernel_rfl
theorem facts7_10 : nb Try.prog 84 = some 72 := by kernel_rfl
theorem facts7_11 : zeroV Try.prog 84 = some (.agg (([.int .i64 0] : List Value) ++ rep 64 (.int .u8 0)).toArray) := by kernel_rfl
theorem facts7_12 : fieldT Try.prog 84 0 = some (0, 3) := by kernel_rfl
theorem facts7_13 : fieldT Try.prog 84 1 = some (1, 83) := by kernel_rfl
theorem facts7_14 : buildOk Try.prog 84 = true := by kernel_rfl
theorem facts7_15 : kinds Try.prog 84 = some (List.replicate 65 .int) := by kernel_rfl
theorem facts7_16 : und Try.prog 85 = .struct := by kernel_rfl
theorem facts7_17 : tk Try.prog 85 = some (true, 65) := by kernel_rfl
theorem facts7_18 : sz Try.prog 85 = some 65 := by kernel_rfl
theorem facts7_19 : nb Try.prog 85 = some 72 := by kernel_rfl
theorem facts7_20 : zeroV Try.prog 85 = some (.agg (([.int .i64 0] : List Value) ++ rep 64 (.int .u8 0)).toArray) := by kernel_rfl
theorem facts7_21 : fieldT Try.prog 85 0 = some (0, 3) := by kernel_rfl
theorem facts7_22 : fieldT Try.prog 85 1 = some (1, 83) := by kernel_rfl
theorem facts7_23 : buildOk Try.prog 85 = true := by kernel_rfl
theorem facts7_24 : kinds Try.prog 85 = some (List.replicate 65 .int) := by kernel_rfl
theorem facts7_25 : und Try.prog 86 = .struct := by kernel_rfl
theorem facts7_26 : tk Try.prog 86 = some (true, 4) := by kernel_rfl
theorem facts7_27 : sz Try.prog 86 = some 4 := by kernel_rfl
theorem facts7_28 : nb Try.prog 86 = some 48 := by kernel_rfl
theorem facts7_29 : zeroV Try.prog 86 = some (.agg #[.int .u32 0, .int .i64 0, .int .i64 0, .slice none 0 0]) := by kernel_rfl
theorem facts7_30 : fieldT Try.prog 86 0 = some (0, 36) := by kernel_rfl
theorem facts7_31 : fieldT Try.prog 86 1 = some (1, 3) := by kernel_rfl
theorem facts7_32 : fieldT Try.prog 86 2 = some (2, 3) := by kernel_rfl
theorem facts7_33 : fieldT Try.prog 86 3 = some (3, 54) := by kernel_rfl
theorem facts7_34 : buildOk Try.prog 86 = true := by kernel_rfl
theorem facts7_35 : und Try.prog 87 = .struct := by kernel_rfl
theorem facts7_36 : tk Try.prog 87 = some (true, 4) := by kernel_rfl
theorem facts7_37 : sz Try.prog 87 = some 4 := by kernel_rfl
theorem facts7_38 : nb Try.prog 87 = some 48 := by kernel_rfl
theorem facts7_39 : zeroV Try.prog 87 = some (.agg #[.int .u32 0, .int .i64 0, .int .i64 0, .slice none 0 0]) := by kernel_rfl
theorem facts7 : und Try.prog 83 = .arr 64 5 ∧ tk Try.prog 83 = some (true, 64) ∧ sz Try.prog 83 = some 64 ∧ nb Try.prog 83 = some 64 ∧ zeroV Try.prog 83 = some (.agg (rep 64 (.int .u8 0)).toArray) ∧ buildOk Try.prog 83 = true ∧ kinds Try.prog 83 = some (List.replicate 64 .int) ∧ und Try.prog 84 = .struct ∧ tk Try.prog 84 = some (true, 65) ∧ sz Try.prog 84 = some 65 ∧ nb Try.prog 84 = some 72 ∧ zeroV Try.prog 84 = some (.agg (([.int .i64 0] : List Value) ++ rep 64 (.int .u8 0)).toArray) ∧ fieldT Try.prog 84 0 = some (0, 3) ∧ fieldT Try.prog 84 1 = some (1, 83) ∧ buildOk Try.prog 84 = true ∧ kinds Try.prog 84 = some (List.replicate 65 .int) ∧ und Try.prog 85 = .struct ∧ tk Try.prog 85 = some (true, 65) ∧ sz Try.prog 85 = some 65 ∧ nb Try.prog 85 = some 72 ∧ zeroV Try.prog 85 = some (.agg (([.int .i64 0] : List Value) ++ rep 64 (.int .u8 0)).toArray) ∧ fieldT Try.prog 85 0 = some (0, 3) ∧ fieldT Try.prog 85 1 = some (1, 83) ∧ buildOk Try.prog 85 = true ∧ kinds Try.prog 85 = some (List.replicate 65 .int) ∧ und Try.prog 86 = .struct ∧ tk Try.prog 86 = some (true, 4) ∧ sz Try.prog 86 = some 4 ∧ nb Try.prog 86 = some 48 ∧ zeroV Try.prog 86 = some (.agg #[.int .u32 0, .int .i64 0, .int .i64 0, .slice none 0 0]) ∧ fieldT Try.prog 86 0 = some (0, 36) ∧ fieldT Try.prog 86 1 = some (1, 3) ∧ fieldT Try.prog 86 2 = some (2, 3) ∧ fieldT Try.prog 86 3 = some (3, 54) ∧ buildOk Try.prog 86 = true ∧ und Try.prog 87 = .struct ∧ tk Try.prog 87 = some (true, 4) ∧ sz Try.prog 87 = some 4 ∧ nb Try.prog 87 = some 48 ∧ zeroV Try.prog 87 = some (.agg #[.int .u32 0, .int .i64 0, .int .i64 0, .slice none 0 0]) := ⟨facts7_0, facts7_1, facts7_2, facts7_3, facts7_4, facts7_5, facts7_6, facts7_7, facts7_8, facts7_9, facts7_10, facts7_11, facts7_12, facts7_13, facts7_14, facts7_15, facts7_16, facts7_17, facts7_18, facts7_19, facts7_20, facts7_21, facts7_22, facts7_23, facts7_24, facts7_25, facts7_26, facts7_27, facts7_28, facts7_29, facts7_30, facts7_31, facts7_32, facts7_33, facts7_34, facts7_35, facts7_36, facts7_37, facts7_38, facts7_39⟩
theorem facts8_0 : fieldT Try.prog 87 0 = some (0, 36) := by kernel_rfl
theorem facts8_1 : fieldT Try.prog 87 1 = some (1, 3) := by kernel_rfl
theorem facts8_2 : fieldT Try.prog 87 2 = some (2, 3) := by kernel_rfl
theorem facts8_3 : fieldT Try.prog 87 3 = some (3, 54) := by kernel_rfl
theorem facts8_4 : buildOk Try.prog 87 = true := by kernel_rfl
theorem facts8_5 : und Try.prog 89 = .func := by kernel_rfl
theorem facts8_6 : und Try.prog 91 = .func := by kernel_rfl
theorem facts8_7 : und Try.prog 92 = .int .u64 := by kernel_rfl
theorem facts8_8 : tk Try.prog 92 = some (false, 1) := by kernel_rfl
theorem facts8_9 : sz Try.prog 92 = some 1 := by kernel_rfl
theorem facts8_10 : nb Try.prog 92 = some 8 := by kernel_rfl
theorem facts8_11 : zeroV Try.prog 92 = some (.int .u64 0) := by kernel_rfl
theorem facts8_12 : und Try.prog 94 = .func := by kernel_rfl
theorem facts8_13 : und Try.prog 95 = .func := by kernel_rfl
theorem facts8_14 : und Try.prog 96 = .func := by kernel_rfl
theorem facts8_15 : und Try.prog 97 = .func := by kernel_rfl
theorem facts8_16 : und Try.prog 98 = .func := by kernel_rfl
theorem facts8_17 : und Try.prog 99 = .func := by kernel_rfl
theorem facts8_18 : und Try.prog 100 = .func := by kernel_rfl
theorem facts8_19 : und Try.prog 101 = .slice 9 := by kernel_rfl
theorem facts8_20 : tk Try.prog 101 = some (false, 1) := by kernel_rfl
theorem facts8_21 : sz Try.prog 101 = some 1 := by kernel_rfl
theorem facts8_22 : nb Try.prog 101 = some 24 := by kernel_rfl
theorem facts8_23 : zeroV Try.prog 101 = some (.slice none 0 0) := by kernel_rfl
theorem facts8_24 : und Try.prog 102 = .func := by kernel_rfl
theorem facts8_25 : und Try.prog 103 = .ptr 105 := by kernel_rfl
theorem facts8_26 : tk Try.prog 103 = some (false, 1) := by kernel_rfl
theorem facts8_27 : sz Try.prog 103 = some 1 := by kernel_rfl
theorem facts8_28 : nb Try.prog 103 = some 8 := by kernel_rfl
theorem facts8_29 : zeroV Try.prog 103 = some (.pointer none) := by kernel_rfl
theorem facts8_30 : und Try.prog 104 = .struct := by kernel_rfl
theorem facts8_31 : tk Try.prog 104 = some (true, 1) := by kernel_rfl
theorem facts8_32 : sz Try.prog 104 = some 1 := by kernel_rfl
theorem facts8_33 : nb Try.prog 104 = some 24 := by kernel_rfl
theorem facts8_34 : zeroV Try.prog 104 = some (.agg #[.slice none 0 0]) := by kernel_rfl
theorem facts8_35 : fieldT Try.prog 104 0 = some (0, 54) := by kernel_rfl
theorem facts8_36 : buildOk Try.prog 104 = true := by kernel_rfl
theorem facts8_37 : und Try.prog 105 = .struct := by kernel_rfl
theorem facts8_38 : tk Try.prog 105 = some (true, 1) := by kernel_rfl
theorem facts8_39 : sz Try.prog 105 = some 1 := by kernel_rfl
theorem facts8 : fieldT Try.prog 87 0 = some (0, 36) ∧ fieldT Try.prog 87 1 = some (1, 3) ∧ fieldT Try.prog 87 2 = some (2, 3) ∧ fieldT Try.prog 87 3 = some (3, 54) ∧ buildOk Try.prog 87 = true ∧ und Try.prog 89 = .func ∧ und Try.prog 91 = .func ∧ und Try.prog 92 = .int .u64 ∧ tk Try.prog 92 = some (false, 1) ∧ sz Try.prog 92 = some 1 ∧ nb Try.prog 92 = some 8 ∧ zeroV Try.prog 92 = some (.int .u64 0) ∧ und Try.prog 94 = .func ∧ und Try.prog 95 = .func ∧ und Try.prog 96 = .func ∧ und Try.prog 97 = .func ∧ und Try.prog 98 = .func ∧ und Try.prog 99 = .func ∧ und Try.prog 100 = .func ∧ und Try.prog 101 = .slice 9 ∧ tk Try.prog 101 = some (false, 1) ∧ sz Try.prog 101 = some 1 ∧ nb Try.prog 101 = some 24 ∧ zeroV Try.prog 101 = some (.slice none 0 0) ∧ und Try.prog 102 = .func ∧ und Try.prog 103 = .ptr 105 ∧ tk Try.prog 103 = some (false, 1) ∧ sz Try.prog 103 = some 1 ∧ nb Try.prog 103 = some 8 ∧ zeroV Try.prog 103 = some (.pointer none) ∧ und Try.prog 104 = .struct ∧ tk Try.prog 104 = some (true, 1) ∧ sz Try.prog 104 = some 1 ∧ nb Try.prog 104 = some 24 ∧ zeroV Try.prog 104 = some (.agg #[.slice none 0 0]) ∧ fieldT Try.prog 104 0 = some (0, 54) ∧ buildOk Try.prog 104 = true ∧ und Try.prog 105 = .struct ∧ tk Try.prog 105 = some (true, 1) ∧ sz Try.prog 105 = some 1 := ⟨facts8_0, facts8_1, facts8_2, facts8_3, facts8_4, facts8_5, facts8_6, facts8_7, facts8_8, facts8_9, facts8_10, facts8_11, facts8_12, facts8_13, facts8_14, facts8_15, facts8_16, facts8_17, facts8_18, facts8_19, facts8_20, facts8_21, facts8_22, facts8_23, facts8_24, facts8_25, facts8_26, facts8_27, facts8_28, facts8_29, facts8_30, facts8_31, facts8_32, facts8_33, facts8_34, facts8_35, facts8_36, facts8_37, facts8_38, facts8_39⟩
theorem facts9_0 : nb Try.prog 105 = some 24 := by kernel_rfl
theorem facts9_1 : zeroV Try.prog 105 = some (.agg #[.slice none 0 0]) := by kernel_rfl
theorem facts9_2 : fieldT Try.prog 105 0 = some (0, 54) := by kernel_rfl
theorem facts9_3 : buildOk Try.prog 105 = true := by kernel_rfl
theorem facts9_4 : und Try.prog 106 = .func := by kernel_rfl
theorem facts9_5 : und Try.prog 107 = .func := by kernel_rfl
theorem facts9_6 : und Try.prog 108 = .int .u64 := by kernel_rfl
theorem facts9_7 : tk Try.prog 108 = some (false, 1) := by kernel_rfl
theorem facts9_8 : sz Try.prog 108 = some 1 := by kernel_rfl
theorem facts9_9 : nb Try.prog 108 = some 8 := by kernel_rfl
theorem facts9_10 : zeroV Try.prog 108 = some (.int .u64 0) := by kernel_rfl
theorem facts9_11 : und Try.prog 109 = .slice 40 := by kernel_rfl
theorem facts9_12 : tk Try.prog 109 = some (false, 1) := by kernel_rfl
theorem facts9_13 : sz Try.prog 109 = some 1 := by kernel_rfl
theorem facts9_14 : nb Try.prog 109 = some 24 := by kernel_rfl
theorem facts9_15 : zeroV Try.prog 109 = some (.slice none 0 0) := by kernel_rfl
theorem facts9_16 : und Try.prog 110 = .slice 54 := by kernel_rfl
theorem facts9_17 : tk Try.prog 110 = some (false, 1) := by kernel_rfl
theorem facts9_18 : sz Try.prog 110 = some 1 := by kernel_rfl
theorem facts9_19 : nb Try.prog 110 = some 24 := by kernel_rfl
theorem facts9_20 : zeroV Try.prog 110 = some (.slice none 0 0) := by kernel_rfl
theorem facts9_21 : und Try.prog 111 = .func := by kernel_rfl
theorem facts9_22 : und Try.prog 112 = .func := by kernel_rfl
theorem facts9_23 : und Try.prog 113 = .func := by kernel_rfl
theorem facts9_24 : und Try.prog 114 = .func := by kernel_rfl
theorem facts9_25 : und Try.prog 115 = .func := by kernel_rfl
theorem facts9_26 : und Try.prog 123 = .func := by kernel_rfl
theorem facts9_27 : und Try.prog 124 = .ptr 5 := by kernel_rfl
theorem facts9_28 : tk Try.prog 124 = some (false, 1) := by kernel_rfl
theorem facts9_29 : sz Try.prog 124 = some 1 := by kernel_rfl
theorem facts9_30 : nb Try.prog 124 = some 8 := by kernel_rfl
theorem facts9_31 : zeroV Try.prog 124 = some (.pointer none) := by kernel_rfl
theorem facts9_32 : Try.prog.follows .mixedOrders = true := by kernel_rfl
theorem facts9_33 : callable Try.prog 3 = true := by kernel_rfl
theorem facts9_34 : callable Try.prog 4 = true := by kernel_rfl
theorem facts9_35 : callable Try.prog 5 = true := by kernel_rfl
theorem facts9_36 : callable Try.prog 6 = true := by kernel_rfl
theorem facts9_37 : callable Try.prog 7 = true := by kernel_rfl
theorem facts9_38 : callable Try.prog 8 = true := by kernel_rfl
theorem facts9_39 : callable Try.prog 9 = true := by kernel_rfl
theorem facts9 : nb Try.prog 105 = some 24 ∧ zeroV Try.prog 105 = some (.agg #[.slice none 0 0]) ∧ fieldT Try.prog 105 0 = some (0, 54) ∧ buildOk Try.prog 105 = true ∧ und Try.prog 106 = .func ∧ und Try.prog 107 = .func ∧ und Try.prog 108 = .int .u64 ∧ tk Try.prog 108 = some (false, 1) ∧ sz Try.prog 108 = some 1 ∧ nb Try.prog 108 = some 8 ∧ zeroV Try.prog 108 = some (.int .u64 0) ∧ und Try.prog 109 = .slice 40 ∧ tk Try.prog 109 = some (false, 1) ∧ sz Try.prog 109 = some 1 ∧ nb Try.prog 109 = some 24 ∧ zeroV Try.prog 109 = some (.slice none 0 0) ∧ und Try.prog 110 = .slice 54 ∧ tk Try.prog 110 = some (false, 1) ∧ sz Try.prog 110 = some 1 ∧ nb Try.prog 110 = some 24 ∧ zeroV Try.prog 110 = some (.slice none 0 0) ∧ und Try.prog 111 = .func ∧ und Try.prog 112 = .func ∧ und Try.prog 113 = .func ∧ und Try.prog 114 = .func ∧ und Try.prog 115 = .func ∧ und Try.prog 123 = .func ∧ und Try.prog 124 = .ptr 5 ∧ tk Try.prog 124 = some (false, 1) ∧ sz Try.prog 124 = some 1 ∧ nb Try.prog 124 = some 8 ∧ zeroV Try.prog 124 = some (.pointer none) ∧ Try.prog.follows .mixedOrders = true ∧ callable Try.prog 3 = true ∧ callable Try.prog 4 = true ∧ callable Try.prog 5 = true ∧ callable Try.prog 6 = true ∧ callable Try.prog 7 = true ∧ callable Try.prog 8 = true ∧ callable Try.prog 9 = true := ⟨facts9_0, facts9_1, facts9_2, facts9_3, facts9_4, facts9_5, facts9_6, facts9_7, facts9_8, facts9_9, facts9_10, facts9_11, facts9_12, facts9_13, facts9_14, facts9_15, facts9_16, facts9_17, facts9_18, facts9_19, facts9_20, facts9_21, facts9_22, facts9_23, facts9_24, facts9_25, facts9_26, facts9_27, facts9_28, facts9_29, facts9_30, facts9_31, facts9_32, facts9_33, facts9_34, facts9_35, facts9_36, facts9_37, facts9_38, facts9_39⟩
theorem facts10_0 : callable Try.prog 10 = true := by kernel_rfl
theorem facts10_1 : callable Try.prog 11 = true := by kernel_rfl
theorem facts10_2 : callable Try.prog 12 = true := by kernel_rfl
theorem facts10_3 : callable Try.prog 13 = true := by kernel_rfl
theorem facts10_4 : callable Try.prog 14 = true := by kernel_rfl
theorem facts10_5 : callable Try.prog 15 = true := by kernel_rfl
theorem facts10_6 : callable Try.prog 16 = true := by kernel_rfl
theorem facts10_7 : callable Try.prog 17 = true := by kernel_rfl
theorem facts10_8 : callable Try.prog 18 = true := by kernel_rfl
theorem facts10_9 : callable Try.prog 19 = true := by kernel_rfl
theorem facts10_10 : callable Try.prog 20 = true := by kernel_rfl
theorem facts10_11 : callable Try.prog 21 = true := by kernel_rfl
theorem facts10_12 : callable Try.prog 22 = true := by kernel_rfl
theorem facts10_13 : callable Try.prog 23 = true := by kernel_rfl
theorem facts10_14 : callable Try.prog 24 = true := by kernel_rfl
theorem facts10_15 : callable Try.prog 25 = true := by kernel_rfl
theorem facts10_16 : callable Try.prog 26 = true := by kernel_rfl
theorem facts10_17 : callable Try.prog 27 = true := by kernel_rfl
theorem facts10_18 : callable Try.prog 28 = true := by kernel_rfl
theorem facts10_19 : callable Try.prog 29 = true := by kernel_rfl
theorem facts10_20 : callable Try.prog 30 = true := by kernel_rfl
theorem facts10_21 : callable Try.prog 31 = true := by kernel_rfl
theorem facts10_22 : callable Try.prog 32 = true := by kernel_rfl
theorem facts10_23 : callable Try.prog 33 = true := by kernel_rfl
theorem facts10_24 : callable Try.prog 34 = true := by kernel_rfl
theorem facts10_25 : callable Try.prog 35 = true := by kernel_rfl
theorem facts10_26 : callable Try.prog 36 = true := by kernel_rfl
theorem facts10_27 : callable Try.prog 37 = true := by kernel_rfl
theorem facts10_28 : callable Try.prog 38 = true := by kernel_rfl
theorem facts10_29 : callable Try.prog 39 = true := by kernel_rfl
theorem facts10_30 : callable Try.prog 40 = true := by kernel_rfl
theorem facts10_31 : callable Try.prog 41 = true := by kernel_rfl
theorem facts10_32 : callable Try.prog 42 = true := by kernel_rfl
theorem facts10_33 : callable Try.prog 43 = true := by kernel_rfl
theorem facts10_34 : callable Try.prog 44 = true := by kernel_rfl
theorem facts10_35 : callable Try.prog 45 = true := by kernel_rfl
theorem facts10_36 : callable Try.prog 46 = true := by kernel_rfl
theorem facts10_37 : callable Try.prog 47 = true := by kernel_rfl
theorem facts10_38 : callable Try.prog 48 = true := by kernel_rfl
theorem facts10_39 : callable Try.prog 49 = true := by kernel_rfl
theorem facts10 : callable Try.prog 10 = true ∧ callable Try.prog 11 = true ∧ callable Try.prog 12 = true ∧ callable Try.prog 13 = true ∧ callable Try.prog 14 = true ∧ callable Try.prog 15 = true ∧ callable Try.prog 16 = true ∧ callable Try.prog 17 = true ∧ callable Try.prog 18 = true ∧ callable Try.prog 19 = true ∧ callable Try.prog 20 = true ∧ callable Try.prog 21 = true ∧ callable Try.prog 22 = true ∧ callable Try.prog 23 = true ∧ callable Try.prog 24 = true ∧ callable Try.prog 25 = true ∧ callable Try.prog 26 = true ∧ callable Try.prog 27 = true ∧ callable Try.prog 28 = true ∧ callable Try.prog 29 = true ∧ callable Try.prog 30 = true ∧ callable Try.prog 31 = true ∧ callable Try.prog 32 = true ∧ callable Try.prog 33 = true ∧ callable Try.prog 34 = true ∧ callable Try.prog 35 = true ∧ callable Try.prog 36 = true ∧ callable Try.prog 37 = true ∧ callable Try.prog 38 = true ∧ callable Try.prog 39 = true ∧ callable Try.prog 40 = true ∧ callable Try.prog 41 = true ∧ callable Try.prog 42 = true ∧ callable Try.prog 43 = true ∧ callable Try.prog 44 = true ∧ callable Try.prog 45 = true ∧ callable Try.prog 46 = true ∧ callable Try.prog 47 = true ∧ callable Try.prog 48 = true ∧ callable Try.prog 49 = true := ⟨facts10_0, facts10_1, facts10_2, facts10_3, facts10_4, facts10_5, facts10_6, facts10_7, facts10_8, facts10_9, facts10_10, facts10_11, facts10_12, facts10_13, facts10_14, facts10_15, facts10_16, facts10_17, facts10_18, facts10_19, facts10_20, facts10_21, facts10_22, facts10_23, facts10_24, facts10_25, facts10_26, facts10_27, facts10_28, facts10_29, facts10_30, facts10_31, facts10_32, facts10_33, facts10_34, facts10_35, facts10_36, facts10_37, facts10_38, facts10_39⟩
theorem facts11_0 : callable Try.prog 50 = true := by kernel_rfl
theorem facts11_1 : callable Try.prog 51 = true := by kernel_rfl
theorem facts11_2 : callable Try.prog 52 = true := by kernel_rfl
theorem facts11_3 : callable Try.prog 53 = true := by kernel_rfl
theorem facts11_4 : callable Try.prog 54 = true := by kernel_rfl
theorem facts11_5 : callable Try.prog 55 = true := by kernel_rfl
theorem facts11_6 : callable Try.prog 56 = true := by kernel_rfl
theorem facts11_7 : callable Try.prog 57 = true := by kernel_rfl
theorem facts11_8 : callable Try.prog 58 = true := by kernel_rfl
theorem facts11_9 : callable Try.prog 74 = false := by kernel_rfl
theorem facts11 : callable Try.prog 50 = true ∧ callable Try.prog 51 = true ∧ callable Try.prog 52 = true ∧ callable Try.prog 53 = true ∧ callable Try.prog 54 = true ∧ callable Try.prog 55 = true ∧ callable Try.prog 56 = true ∧ callable Try.prog 57 = true ∧ callable Try.prog 58 = true ∧ callable Try.prog 74 = false := ⟨facts11_0, facts11_1, facts11_2, facts11_3, facts11_4, facts11_5, facts11_6, facts11_7, facts11_8, facts11_9⟩
theorem facts : (und Try.prog 1 = .func ∧ und Try.prog 2 = .int .i64 ∧ tk Try.prog 2 = some (false, 1) ∧ sz Try.prog 2 = some 1 ∧ nb Try.prog 2 = some 8 ∧ zeroV Try.prog 2 = some (.int .i64 0) ∧ und Try.prog 3 = .int .i64 ∧ tk Try.prog 3 = some (false, 1) ∧ sz Try.prog 3 = some 1 ∧ nb Try.prog 3 = some 8 ∧ zeroV Try.prog 3 = some (.int .i64 0) ∧ und Try.prog 4 = .bool ∧ tk Try.prog 4 = some (false, 1) ∧ sz Try.prog 4 = some 1 ∧ nb Try.prog 4 = some 1 ∧ zeroV Try.prog 4 = some (.bool false) ∧ und Try.prog 5 = .int .u8 ∧ tk Try.prog 5 = some (false, 1) ∧ sz Try.prog 5 = some 1 ∧ nb Try.prog 5 = some 1 ∧ zeroV Try.prog 5 = some (.int .u8 0) ∧ und Try.prog 9 = .str ∧ tk Try.prog 9 = some (false, 1) ∧ sz Try.prog 9 = some 1 ∧ nb Try.prog 9 = some 16 ∧ zeroV Try.prog 9 = some (.string ByteArray.empty) ∧ und Try.prog 12 = .int .u64 ∧ tk Try.prog 12 = some (false, 1) ∧ sz Try.prog 12 = some 1 ∧ nb Try.prog 12 = some 8 ∧ zeroV Try.prog 12 = some (.int .u64 0) ∧ und Try.prog 13 = .struct ∧ tk Try.prog 13 = some (true, 2) ∧ sz Try.prog 13 = some 2 ∧ nb Try.prog 13 = some 24 ∧ zeroV Try.prog 13 = some (.agg #[.string ByteArray.empty, .int .u64 0]) ∧ fieldT Try.prog 13 0 = some (0, 9) ∧ fieldT Try.prog 13 1 = some (1, 12) ∧ buildOk Try.prog 13 = true ∧ und Try.prog 21 = .int .i32) ∧ (tk Try.prog 21 = some (false, 1) ∧ sz Try.prog 21 = some 1 ∧ nb Try.prog 21 = some 4 ∧ zeroV Try.prog 21 = some (.int .i32 0) ∧ und Try.prog 22 = .int .u16 ∧ tk Try.prog 22 = some (false, 1) ∧ sz Try.prog 22 = some 1 ∧ nb Try.prog 22 = some 2 ∧ zeroV Try.prog 22 = some (.int .u16 0) ∧ und Try.prog 23 = .func ∧ und Try.prog 24 = .ptr 63 ∧ tk Try.prog 24 = some (false, 1) ∧ sz Try.prog 24 = some 1 ∧ nb Try.prog 24 = some 8 ∧ zeroV Try.prog 24 = some (.pointer none) ∧ und Try.prog 25 = .func ∧ und Try.prog 26 = .ptr 65 ∧ tk Try.prog 26 = some (false, 1) ∧ sz Try.prog 26 = some 1 ∧ nb Try.prog 26 = some 8 ∧ zeroV Try.prog 26 = some (.pointer none) ∧ und Try.prog 27 = .slice 42 ∧ tk Try.prog 27 = some (false, 1) ∧ sz Try.prog 27 = some 1 ∧ nb Try.prog 27 = some 24 ∧ zeroV Try.prog 27 = some (.slice none 0 0) ∧ und Try.prog 28 = .int .i64 ∧ tk Try.prog 28 = some (false, 1) ∧ sz Try.prog 28 = some 1 ∧ nb Try.prog 28 = some 8 ∧ zeroV Try.prog 28 = some (.int .i64 0) ∧ und Try.prog 30 = .func ∧ und Try.prog 31 = .func ∧ und Try.prog 32 = .func ∧ und Try.prog 33 = .func ∧ und Try.prog 34 = .func ∧ und Try.prog 35 = .func ∧ und Try.prog 36 = .int .u32 ∧ tk Try.prog 36 = some (false, 1) ∧ sz Try.prog 36 = some 1) ∧ (nb Try.prog 36 = some 4 ∧ zeroV Try.prog 36 = some (.int .u32 0) ∧ und Try.prog 37 = .struct ∧ tk Try.prog 37 = some (true, 2) ∧ sz Try.prog 37 = some 2 ∧ nb Try.prog 37 = some 8 ∧ zeroV Try.prog 37 = some (.agg #[.int .u16 0, .int .u32 0]) ∧ fieldT Try.prog 37 0 = some (0, 22) ∧ fieldT Try.prog 37 1 = some (1, 36) ∧ buildOk Try.prog 37 = true ∧ kinds Try.prog 37 = some [.int, .int] ∧ und Try.prog 38 = .struct ∧ tk Try.prog 38 = some (true, 2) ∧ sz Try.prog 38 = some 2 ∧ nb Try.prog 38 = some 8 ∧ zeroV Try.prog 38 = some (.agg #[.int .u16 0, .int .u32 0]) ∧ fieldT Try.prog 38 0 = some (0, 22) ∧ fieldT Try.prog 38 1 = some (1, 36) ∧ buildOk Try.prog 38 = true ∧ kinds Try.prog 38 = some [.int, .int] ∧ und Try.prog 39 = .arr 4 3 ∧ tk Try.prog 39 = some (true, 4) ∧ sz Try.prog 39 = some 4 ∧ nb Try.prog 39 = some 32 ∧ zeroV Try.prog 39 = some (.agg #[.int .i64 0, .int .i64 0, .int .i64 0, .int .i64 0]) ∧ buildOk Try.prog 39 = true ∧ kinds Try.prog 39 = some [.int, .int, .int, .int] ∧ und Try.prog 40 = .arr 4 3 ∧ tk Try.prog 40 = some (true, 4) ∧ sz Try.prog 40 = some 4 ∧ nb Try.prog 40 = some 32 ∧ zeroV Try.prog 40 = some (.agg #[.int .i64 0, .int .i64 0, .int .i64 0, .int .i64 0]) ∧ buildOk Try.prog 40 = true ∧ kinds Try.prog 40 = some [.int, .int, .int, .int] ∧ und Try.prog 41 = .struct ∧ tk Try.prog 41 = some (true, 17) ∧ sz Try.prog 41 = some 17 ∧ nb Try.prog 41 = some 136 ∧ zeroV Try.prog 41 = some (.agg (([.int .i64 0, .int .u16 0, .int .u32 0, .string ByteArray.empty] : List Value) ++ rep 13 (.int .i64 0)).toArray) ∧ fieldT Try.prog 41 0 = some (0, 3)) ∧ (fieldT Try.prog 41 1 = some (1, 38) ∧ fieldT Try.prog 41 2 = some (3, 9) ∧ fieldT Try.prog 41 3 = some (4, 2) ∧ fieldT Try.prog 41 4 = some (5, 40) ∧ fieldT Try.prog 41 5 = some (9, 40) ∧ fieldT Try.prog 41 6 = some (13, 40) ∧ buildOk Try.prog 41 = true ∧ kinds Try.prog 41 = some [.int, .int, .int, .str, .int, .int, .int, .int, .int, .int, .int, .int, .int, .int, .int, .int, .int] ∧ und Try.prog 42 = .struct ∧ tk Try.prog 42 = some (true, 17) ∧ sz Try.prog 42 = some 17 ∧ nb Try.prog 42 = some 136 ∧ zeroV Try.prog 42 = some (.agg (([.int .i64 0, .int .u16 0, .int .u32 0, .string ByteArray.empty] : List Value) ++ rep 13 (.int .i64 0)).toArray) ∧ fieldT Try.prog 42 0 = some (0, 3) ∧ fieldT Try.prog 42 1 = some (1, 38) ∧ fieldT Try.prog 42 2 = some (3, 9) ∧ fieldT Try.prog 42 3 = some (4, 2) ∧ fieldT Try.prog 42 4 = some (5, 40) ∧ fieldT Try.prog 42 5 = some (9, 40) ∧ fieldT Try.prog 42 6 = some (13, 40) ∧ buildOk Try.prog 42 = true ∧ kinds Try.prog 42 = some [.int, .int, .int, .str, .int, .int, .int, .int, .int, .int, .int, .int, .int, .int, .int, .int, .int] ∧ und Try.prog 43 = .func ∧ und Try.prog 44 = .func ∧ und Try.prog 45 = .func ∧ und Try.prog 46 = .func ∧ und Try.prog 47 = .func ∧ und Try.prog 48 = .slice 4 ∧ tk Try.prog 48 = some (false, 1) ∧ sz Try.prog 48 = some 1 ∧ nb Try.prog 48 = some 24 ∧ zeroV Try.prog 48 = some (.slice none 0 0) ∧ und Try.prog 49 = .func ∧ und Try.prog 50 = .func ∧ und Try.prog 51 = .func ∧ und Try.prog 52 = .func ∧ und Try.prog 53 = .func ∧ und Try.prog 54 = .slice 5 ∧ tk Try.prog 54 = some (false, 1) ∧ sz Try.prog 54 = some 1) ∧ (nb Try.prog 54 = some 24 ∧ zeroV Try.prog 54 = some (.slice none 0 0) ∧ und Try.prog 55 = .func ∧ und Try.prog 56 = .slice 58 ∧ tk Try.prog 56 = some (false, 1) ∧ sz Try.prog 56 = some 1 ∧ nb Try.prog 56 = some 24 ∧ zeroV Try.prog 56 = some (.slice none 0 0) ∧ und Try.prog 57 = .struct ∧ tk Try.prog 57 = some (true, 4) ∧ sz Try.prog 57 = some 4 ∧ nb Try.prog 57 = some 32 ∧ zeroV Try.prog 57 = some (.agg #[.int .u8 0, .int .u8 0, .int .u8 0, .slice none 0 0]) ∧ fieldT Try.prog 57 0 = some (0, 5) ∧ fieldT Try.prog 57 1 = some (1, 5) ∧ fieldT Try.prog 57 2 = some (2, 5) ∧ fieldT Try.prog 57 3 = some (3, 48) ∧ buildOk Try.prog 57 = true ∧ und Try.prog 58 = .struct ∧ tk Try.prog 58 = some (true, 4) ∧ sz Try.prog 58 = some 4 ∧ nb Try.prog 58 = some 32 ∧ zeroV Try.prog 58 = some (.agg #[.int .u8 0, .int .u8 0, .int .u8 0, .slice none 0 0]) ∧ fieldT Try.prog 58 0 = some (0, 5) ∧ fieldT Try.prog 58 1 = some (1, 5) ∧ fieldT Try.prog 58 2 = some (2, 5) ∧ fieldT Try.prog 58 3 = some (3, 48) ∧ buildOk Try.prog 58 = true ∧ und Try.prog 59 = .func ∧ und Try.prog 60 = .slice 83 ∧ tk Try.prog 60 = some (false, 1) ∧ sz Try.prog 60 = some 1 ∧ nb Try.prog 60 = some 24 ∧ zeroV Try.prog 60 = some (.slice none 0 0) ∧ und Try.prog 61 = .slice 85 ∧ tk Try.prog 61 = some (false, 1) ∧ sz Try.prog 61 = some 1 ∧ nb Try.prog 61 = some 24 ∧ zeroV Try.prog 61 = some (.slice none 0 0) ∧ und Try.prog 62 = .struct) ∧ (tk Try.prog 62 = some (true, 5) ∧ sz Try.prog 62 = some 5 ∧ nb Try.prog 62 = some 88 ∧ zeroV Try.prog 62 = some (.agg #[.slice none 0 0, .slice none 0 0, .slice none 0 0, .int .i64 0, .bool false]) ∧ fieldT Try.prog 62 0 = some (0, 60) ∧ fieldT Try.prog 62 1 = some (1, 60) ∧ fieldT Try.prog 62 2 = some (2, 61) ∧ fieldT Try.prog 62 3 = some (3, 3) ∧ fieldT Try.prog 62 4 = some (4, 4) ∧ buildOk Try.prog 62 = true ∧ und Try.prog 63 = .struct ∧ tk Try.prog 63 = some (true, 5) ∧ sz Try.prog 63 = some 5 ∧ nb Try.prog 63 = some 88 ∧ zeroV Try.prog 63 = some (.agg #[.slice none 0 0, .slice none 0 0, .slice none 0 0, .int .i64 0, .bool false]) ∧ fieldT Try.prog 63 0 = some (0, 60) ∧ fieldT Try.prog 63 1 = some (1, 60) ∧ fieldT Try.prog 63 2 = some (2, 61) ∧ fieldT Try.prog 63 3 = some (3, 3) ∧ fieldT Try.prog 63 4 = some (4, 4) ∧ buildOk Try.prog 63 = true ∧ und Try.prog 64 = .struct ∧ tk Try.prog 64 = some (true, 6) ∧ sz Try.prog 64 = some 6 ∧ nb Try.prog 64 = some 64 ∧ zeroV Try.prog 64 = some (.agg #[.pointer none, .int .i64 0, .int .i64 0, .int .i64 0, .int .u32 0, .slice none 0 0]) ∧ fieldT Try.prog 64 0 = some (0, 24) ∧ fieldT Try.prog 64 1 = some (1, 3) ∧ fieldT Try.prog 64 2 = some (2, 3) ∧ fieldT Try.prog 64 3 = some (3, 3) ∧ fieldT Try.prog 64 4 = some (4, 36) ∧ fieldT Try.prog 64 5 = some (5, 27) ∧ buildOk Try.prog 64 = true ∧ und Try.prog 65 = .struct ∧ tk Try.prog 65 = some (true, 6) ∧ sz Try.prog 65 = some 6 ∧ nb Try.prog 65 = some 64 ∧ zeroV Try.prog 65 = some (.agg #[.pointer none, .int .i64 0, .int .i64 0, .int .i64 0, .int .u32 0, .slice none 0 0]) ∧ fieldT Try.prog 65 0 = some (0, 24) ∧ fieldT Try.prog 65 1 = some (1, 3)) ∧ (fieldT Try.prog 65 2 = some (2, 3) ∧ fieldT Try.prog 65 3 = some (3, 3) ∧ fieldT Try.prog 65 4 = some (4, 36) ∧ fieldT Try.prog 65 5 = some (5, 27) ∧ buildOk Try.prog 65 = true ∧ und Try.prog 66 = .struct ∧ tk Try.prog 66 = some (true, 3) ∧ sz Try.prog 66 = some 3 ∧ nb Try.prog 66 = some 40 ∧ zeroV Try.prog 66 = some (.agg #[.int .u32 0, .int .i64 0, .slice none 0 0]) ∧ fieldT Try.prog 66 0 = some (0, 36) ∧ fieldT Try.prog 66 1 = some (1, 3) ∧ fieldT Try.prog 66 2 = some (2, 54) ∧ buildOk Try.prog 66 = true ∧ und Try.prog 67 = .struct ∧ tk Try.prog 67 = some (true, 3) ∧ sz Try.prog 67 = some 3 ∧ nb Try.prog 67 = some 40 ∧ zeroV Try.prog 67 = some (.agg #[.int .u32 0, .int .i64 0, .slice none 0 0]) ∧ fieldT Try.prog 67 0 = some (0, 36) ∧ fieldT Try.prog 67 1 = some (1, 3) ∧ fieldT Try.prog 67 2 = some (2, 54) ∧ buildOk Try.prog 67 = true ∧ und Try.prog 69 = .func ∧ und Try.prog 71 = .func ∧ und Try.prog 72 = .func ∧ und Try.prog 74 = .func ∧ und Try.prog 76 = .func ∧ und Try.prog 77 = .func ∧ und Try.prog 78 = .func ∧ und Try.prog 79 = .func ∧ und Try.prog 80 = .func ∧ und Try.prog 81 = .func ∧ und Try.prog 82 = .arr 64 5 ∧ tk Try.prog 82 = some (true, 64) ∧ sz Try.prog 82 = some 64 ∧ nb Try.prog 82 = some 64 ∧ zeroV Try.prog 82 = some (.agg (rep 64 (.int .u8 0)).toArray) ∧ buildOk Try.prog 82 = true ∧ kinds Try.prog 82 = some (List.replicate 64 .int)) ∧ (und Try.prog 83 = .arr 64 5 ∧ tk Try.prog 83 = some (true, 64) ∧ sz Try.prog 83 = some 64 ∧ nb Try.prog 83 = some 64 ∧ zeroV Try.prog 83 = some (.agg (rep 64 (.int .u8 0)).toArray) ∧ buildOk Try.prog 83 = true ∧ kinds Try.prog 83 = some (List.replicate 64 .int) ∧ und Try.prog 84 = .struct ∧ tk Try.prog 84 = some (true, 65) ∧ sz Try.prog 84 = some 65 ∧ nb Try.prog 84 = some 72 ∧ zeroV Try.prog 84 = some (.agg (([.int .i64 0] : List Value) ++ rep 64 (.int .u8 0)).toArray) ∧ fieldT Try.prog 84 0 = some (0, 3) ∧ fieldT Try.prog 84 1 = some (1, 83) ∧ buildOk Try.prog 84 = true ∧ kinds Try.prog 84 = some (List.replicate 65 .int) ∧ und Try.prog 85 = .struct ∧ tk Try.prog 85 = some (true, 65) ∧ sz Try.prog 85 = some 65 ∧ nb Try.prog 85 = some 72 ∧ zeroV Try.prog 85 = some (.agg (([.int .i64 0] : List Value) ++ rep 64 (.int .u8 0)).toArray) ∧ fieldT Try.prog 85 0 = some (0, 3) ∧ fieldT Try.prog 85 1 = some (1, 83) ∧ buildOk Try.prog 85 = true ∧ kinds Try.prog 85 = some (List.replicate 65 .int) ∧ und Try.prog 86 = .struct ∧ tk Try.prog 86 = some (true, 4) ∧ sz Try.prog 86 = some 4 ∧ nb Try.prog 86 = some 48 ∧ zeroV Try.prog 86 = some (.agg #[.int .u32 0, .int .i64 0, .int .i64 0, .slice none 0 0]) ∧ fieldT Try.prog 86 0 = some (0, 36) ∧ fieldT Try.prog 86 1 = some (1, 3) ∧ fieldT Try.prog 86 2 = some (2, 3) ∧ fieldT Try.prog 86 3 = some (3, 54) ∧ buildOk Try.prog 86 = true ∧ und Try.prog 87 = .struct ∧ tk Try.prog 87 = some (true, 4) ∧ sz Try.prog 87 = some 4 ∧ nb Try.prog 87 = some 48 ∧ zeroV Try.prog 87 = some (.agg #[.int .u32 0, .int .i64 0, .int .i64 0, .slice none 0 0])) ∧ (fieldT Try.prog 87 0 = some (0, 36) ∧ fieldT Try.prog 87 1 = some (1, 3) ∧ fieldT Try.prog 87 2 = some (2, 3) ∧ fieldT Try.prog 87 3 = some (3, 54) ∧ buildOk Try.prog 87 = true ∧ und Try.prog 89 = .func ∧ und Try.prog 91 = .func ∧ und Try.prog 92 = .int .u64 ∧ tk Try.prog 92 = some (false, 1) ∧ sz Try.prog 92 = some 1 ∧ nb Try.prog 92 = some 8 ∧ zeroV Try.prog 92 = some (.int .u64 0) ∧ und Try.prog 94 = .func ∧ und Try.prog 95 = .func ∧ und Try.prog 96 = .func ∧ und Try.prog 97 = .func ∧ und Try.prog 98 = .func ∧ und Try.prog 99 = .func ∧ und Try.prog 100 = .func ∧ und Try.prog 101 = .slice 9 ∧ tk Try.prog 101 = some (false, 1) ∧ sz Try.prog 101 = some 1 ∧ nb Try.prog 101 = some 24 ∧ zeroV Try.prog 101 = some (.slice none 0 0) ∧ und Try.prog 102 = .func ∧ und Try.prog 103 = .ptr 105 ∧ tk Try.prog 103 = some (false, 1) ∧ sz Try.prog 103 = some 1 ∧ nb Try.prog 103 = some 8 ∧ zeroV Try.prog 103 = some (.pointer none) ∧ und Try.prog 104 = .struct ∧ tk Try.prog 104 = some (true, 1) ∧ sz Try.prog 104 = some 1 ∧ nb Try.prog 104 = some 24 ∧ zeroV Try.prog 104 = some (.agg #[.slice none 0 0]) ∧ fieldT Try.prog 104 0 = some (0, 54) ∧ buildOk Try.prog 104 = true ∧ und Try.prog 105 = .struct ∧ tk Try.prog 105 = some (true, 1) ∧ sz Try.prog 105 = some 1) ∧ (nb Try.prog 105 = some 24 ∧ zeroV Try.prog 105 = some (.agg #[.slice none 0 0]) ∧ fieldT Try.prog 105 0 = some (0, 54) ∧ buildOk Try.prog 105 = true ∧ und Try.prog 106 = .func ∧ und Try.prog 107 = .func ∧ und Try.prog 108 = .int .u64 ∧ tk Try.prog 108 = some (false, 1) ∧ sz Try.prog 108 = some 1 ∧ nb Try.prog 108 = some 8 ∧ zeroV Try.prog 108 = some (.int .u64 0) ∧ und Try.prog 109 = .slice 40 ∧ tk Try.prog 109 = some (false, 1) ∧ sz Try.prog 109 = some 1 ∧ nb Try.prog 109 = some 24 ∧ zeroV Try.prog 109 = some (.slice none 0 0) ∧ und Try.prog 110 = .slice 54 ∧ tk Try.prog 110 = some (false, 1) ∧ sz Try.prog 110 = some 1 ∧ nb Try.prog 110 = some 24 ∧ zeroV Try.prog 110 = some (.slice none 0 0) ∧ und Try.prog 111 = .func ∧ und Try.prog 112 = .func ∧ und Try.prog 113 = .func ∧ und Try.prog 114 = .func ∧ und Try.prog 115 = .func ∧ und Try.prog 123 = .func ∧ und Try.prog 124 = .ptr 5 ∧ tk Try.prog 124 = some (false, 1) ∧ sz Try.prog 124 = some 1 ∧ nb Try.prog 124 = some 8 ∧ zeroV Try.prog 124 = some (.pointer none) ∧ Try.prog.follows .mixedOrders = true ∧ callable Try.prog 3 = true ∧ callable Try.prog 4 = true ∧ callable Try.prog 5 = true ∧ callable Try.prog 6 = true ∧ callable Try.prog 7 = true ∧ callable Try.prog 8 = true ∧ callable Try.prog 9 = true) ∧ (callable Try.prog 10 = true ∧ callable Try.prog 11 = true ∧ callable Try.prog 12 = true ∧ callable Try.prog 13 = true ∧ callable Try.prog 14 = true ∧ callable Try.prog 15 = true ∧ callable Try.prog 16 = true ∧ callable Try.prog 17 = true ∧ callable Try.prog 18 = true ∧ callable Try.prog 19 = true ∧ callable Try.prog 20 = true ∧ callable Try.prog 21 = true ∧ callable Try.prog 22 = true ∧ callable Try.prog 23 = true ∧ callable Try.prog 24 = true ∧ callable Try.prog 25 = true ∧ callable Try.prog 26 = true ∧ callable Try.prog 27 = true ∧ callable Try.prog 28 = true ∧ callable Try.prog 29 = true ∧ callable Try.prog 30 = true ∧ callable Try.prog 31 = true ∧ callable Try.prog 32 = true ∧ callable Try.prog 33 = true ∧ callable Try.prog 34 = true ∧ callable Try.prog 35 = true ∧ callable Try.prog 36 = true ∧ callable Try.prog 37 = true ∧ callable Try.prog 38 = true ∧ callable Try.prog 39 = true ∧ callable Try.prog 40 = true ∧ callable Try.prog 41 = true ∧ callable Try.prog 42 = true ∧ callable Try.prog 43 = true ∧ callable Try.prog 44 = true ∧ callable Try.prog 45 = true ∧ callable Try.prog 46 = true ∧ callable Try.prog 47 = true ∧ callable Try.prog 48 = true ∧ callable Try.prog 49 = true) ∧ (callable Try.prog 50 = true ∧ callable Try.prog 51 = true ∧ callable Try.prog 52 = true ∧ callable Try.prog 53 = true ∧ callable Try.prog 54 = true ∧ callable Try.prog 55 = true ∧ callable Try.prog 56 = true ∧ callable Try.prog 57 = true ∧ callable Try.prog 58 = true ∧ callable Try.prog 74 = false) := ⟨facts0, facts1, facts2, facts3, facts4, facts5, facts6, facts7, facts8, facts9, facts10, facts11⟩
end Go.Proofs.Ytnmbmccigpljnaa.GL
