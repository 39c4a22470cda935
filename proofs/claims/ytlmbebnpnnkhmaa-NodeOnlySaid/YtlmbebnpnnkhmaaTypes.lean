/- What my walk asks of the types and the functions of this seat. Written by a program of mine (gen_types.py). -/
import Derived.Test.YtlmbebnpnnkhmaaAgg
import Derived.Test.YtlmbebnpnnkhmaaChecked
namespace Go.Proofs.Ytlmbebnpnnkhmaa
namespace H
theorem sz_1 : szOf Try.prog 1 = some 1 := by kernel_rfl
theorem ld_1 : ldk Try.prog 1 = some none := by kernel_rfl
theorem kd_2 : kd Try.prog 2 = some (.int .i64) := by kernel_rfl
theorem sz_2 : szOf Try.prog 2 = some 1 := by kernel_rfl
theorem ld_2 : ldk Try.prog 2 = some none := by kernel_rfl
theorem zero_2 : zeroT Try.prog 2 = some (.int .i64 0) := by kernel_rfl
theorem kd_3 : kd Try.prog 3 = some (.int .i64) := by kernel_rfl
theorem sz_3 : szOf Try.prog 3 = some 1 := by kernel_rfl
theorem ld_3 : ldk Try.prog 3 = some none := by kernel_rfl
theorem zero_3 : zeroT Try.prog 3 = some (.int .i64 0) := by kernel_rfl
theorem kd_4 : kd Try.prog 4 = some (.bool) := by kernel_rfl
theorem sz_4 : szOf Try.prog 4 = some 1 := by kernel_rfl
theorem ld_4 : ldk Try.prog 4 = some none := by kernel_rfl
theorem zero_4 : zeroT Try.prog 4 = some (.bool false) := by kernel_rfl
theorem kd_5 : kd Try.prog 5 = some (.int .u8) := by kernel_rfl
theorem sz_5 : szOf Try.prog 5 = some 1 := by kernel_rfl
theorem ld_5 : ldk Try.prog 5 = some none := by kernel_rfl
theorem zero_5 : zeroT Try.prog 5 = some (.int .u8 0) := by kernel_rfl
theorem kd_9 : kd Try.prog 9 = some (.str) := by kernel_rfl
theorem sz_9 : szOf Try.prog 9 = some 1 := by kernel_rfl
theorem ld_9 : ldk Try.prog 9 = some none := by kernel_rfl
theorem zero_9 : zeroT Try.prog 9 = some (str []) := by kernel_rfl
theorem kd_12 : kd Try.prog 12 = some (.int .u64) := by kernel_rfl
theorem sz_12 : szOf Try.prog 12 = some 1 := by kernel_rfl
theorem ld_12 : ldk Try.prog 12 = some none := by kernel_rfl
theorem zero_12 : zeroT Try.prog 12 = some (.int .u64 0) := by kernel_rfl
theorem kd_21 : kd Try.prog 21 = some (.int .i32) := by kernel_rfl
theorem sz_21 : szOf Try.prog 21 = some 1 := by kernel_rfl
theorem ld_21 : ldk Try.prog 21 = some none := by kernel_rfl
theorem zero_21 : zeroT Try.prog 21 = some (.int .i32 0) := by kernel_rfl
theorem kd_22 : kd Try.prog 22 = some (.slice 27 3) := by kernel_rfl
theorem sz_22 : szOf Try.prog 22 = some 1 := by kernel_rfl
theorem ld_22 : ldk Try.prog 22 = some none := by kernel_rfl
theorem zero_22 : zeroT Try.prog 22 = some (.slice none 0 0) := by kernel_rfl
theorem kd_23 : kd Try.prog 23 = some (.slice 65 3) := by kernel_rfl
theorem sz_23 : szOf Try.prog 23 = some 1 := by kernel_rfl
theorem ld_23 : ldk Try.prog 23 = some none := by kernel_rfl
theorem zero_23 : zeroT Try.prog 23 = some (.slice none 0 0) := by kernel_rfl
theorem kd_24 : kd Try.prog 24 = some (.struct [(0, 1, false), (1, 1, false), (2, 1, false)]) := by kernel_rfl
theorem sz_24 : szOf Try.prog 24 = some 3 := by kernel_rfl
theorem ld_24 : ldk Try.prog 24 = some (some 3) := by kernel_rfl
theorem zero_24 : zeroT Try.prog 24 = some (.agg #[.bool false, .slice none 0 0, .slice none 0 0]) := by kernel_rfl
theorem kd_25 : kd Try.prog 25 = some (.struct [(0, 1, false), (1, 1, false), (2, 1, false)]) := by kernel_rfl
theorem sz_25 : szOf Try.prog 25 = some 3 := by kernel_rfl
theorem ld_25 : ldk Try.prog 25 = some (some 3) := by kernel_rfl
theorem zero_25 : zeroT Try.prog 25 = some (.agg #[.bool false, .slice none 0 0, .slice none 0 0]) := by kernel_rfl
theorem kd_26 : kd Try.prog 26 = some (.struct [(0, 1, false), (1, 1, false), (2, 1, false)]) := by kernel_rfl
theorem sz_26 : szOf Try.prog 26 = some 3 := by kernel_rfl
theorem ld_26 : ldk Try.prog 26 = some (some 3) := by kernel_rfl
theorem lvs_26 : leaves Try.prog 26 = some [.int .i64, .int .i64, .int .i64] := by kernel_rfl
theorem zero_26 : zeroT Try.prog 26 = some (.agg #[.int .i64 0, .int .i64 0, .int .i64 0]) := by kernel_rfl
theorem kd_27 : kd Try.prog 27 = some (.struct [(0, 1, false), (1, 1, false), (2, 1, false)]) := by kernel_rfl
theorem sz_27 : szOf Try.prog 27 = some 3 := by kernel_rfl
theorem ld_27 : ldk Try.prog 27 = some (some 3) := by kernel_rfl
theorem lvs_27 : leaves Try.prog 27 = some [.int .i64, .int .i64, .int .i64] := by kernel_rfl
theorem zero_27 : zeroT Try.prog 27 = some (.agg #[.int .i64 0, .int .i64 0, .int .i64 0]) := by kernel_rfl
theorem sz_28 : szOf Try.prog 28 = some 1 := by kernel_rfl
theorem ld_28 : ldk Try.prog 28 = some none := by kernel_rfl
theorem sz_29 : szOf Try.prog 29 = some 1 := by kernel_rfl
theorem ld_29 : ldk Try.prog 29 = some none := by kernel_rfl
theorem kd_30 : kd Try.prog 30 = some (.int .i64) := by kernel_rfl
theorem sz_30 : szOf Try.prog 30 = some 1 := by kernel_rfl
theorem ld_30 : ldk Try.prog 30 = some none := by kernel_rfl
theorem zero_30 : zeroT Try.prog 30 = some (.int .i64 0) := by kernel_rfl
theorem sz_32 : szOf Try.prog 32 = some 1 := by kernel_rfl
theorem ld_32 : ldk Try.prog 32 = some none := by kernel_rfl
theorem kd_33 : kd Try.prog 33 = some (.slice 63 3) := by kernel_rfl
theorem sz_33 : szOf Try.prog 33 = some 1 := by kernel_rfl
theorem ld_33 : ldk Try.prog 33 = some none := by kernel_rfl
theorem zero_33 : zeroT Try.prog 33 = some (.slice none 0 0) := by kernel_rfl
theorem kd_34 : kd Try.prog 34 = some (.struct [(0, 1, false), (1, 1, false), (2, 1, false)]) := by kernel_rfl
theorem sz_34 : szOf Try.prog 34 = some 3 := by kernel_rfl
theorem ld_34 : ldk Try.prog 34 = some (some 3) := by kernel_rfl
theorem zero_34 : zeroT Try.prog 34 = some (.agg #[.bool false, .slice none 0 0, .slice none 0 0]) := by kernel_rfl
theorem kd_35 : kd Try.prog 35 = some (.struct [(0, 1, false), (1, 1, false), (2, 1, false)]) := by kernel_rfl
theorem sz_35 : szOf Try.prog 35 = some 3 := by kernel_rfl
theorem ld_35 : ldk Try.prog 35 = some (some 3) := by kernel_rfl
theorem zero_35 : zeroT Try.prog 35 = some (.agg #[.bool false, .slice none 0 0, .slice none 0 0]) := by kernel_rfl
theorem sz_36 : szOf Try.prog 36 = some 1 := by kernel_rfl
theorem ld_36 : ldk Try.prog 36 = some none := by kernel_rfl
theorem sz_37 : szOf Try.prog 37 = some 1 := by kernel_rfl
theorem ld_37 : ldk Try.prog 37 = some none := by kernel_rfl
theorem sz_38 : szOf Try.prog 38 = some 1 := by kernel_rfl
theorem ld_38 : ldk Try.prog 38 = some none := by kernel_rfl
theorem sz_39 : szOf Try.prog 39 = some 1 := by kernel_rfl
theorem ld_39 : ldk Try.prog 39 = some none := by kernel_rfl
theorem sz_40 : szOf Try.prog 40 = some 1 := by kernel_rfl
theorem ld_40 : ldk Try.prog 40 = some none := by kernel_rfl
theorem sz_42 : szOf Try.prog 42 = some 1 := by kernel_rfl
theorem ld_42 : ldk Try.prog 42 = some none := by kernel_rfl
theorem sz_44 : szOf Try.prog 44 = some 1 := by kernel_rfl
theorem ld_44 : ldk Try.prog 44 = some none := by kernel_rfl
theorem sz_45 : szOf Try.prog 45 = some 1 := by kernel_rfl
theorem ld_45 : ldk Try.prog 45 = some none := by kernel_rfl
theorem sz_46 : szOf Try.prog 46 = some 1 := by kernel_rfl
theorem ld_46 : ldk Try.prog 46 = some none := by kernel_rfl
theorem sz_47 : szOf Try.prog 47 = some 1 := by kernel_rfl
theorem ld_47 : ldk Try.prog 47 = some none := by kernel_rfl
theorem kd_48 : kd Try.prog 48 = some (.struct [(0, 1, false), (1, 1, false), (2, 1, false), (3, 1, false), (4, 1, false), (5, 1, false), (6, 1, false), (7, 1, false), (8, 1, false)]) := by kernel_rfl
theorem sz_48 : szOf Try.prog 48 = some 9 := by kernel_rfl
theorem ld_48 : ldk Try.prog 48 = some (some 9) := by kernel_rfl
theorem lvs_48 : leaves Try.prog 48 = some [.int .i64, .str, .str, .str, .int .i64, .int .i64, .bool, .bool, .int .i64] := by kernel_rfl
theorem zero_48 : zeroT Try.prog 48 = some (.agg #[.int .i64 0, str [], str [], str [], .int .i64 0, .int .i64 0, .bool false, .bool false, .int .i64 0]) := by kernel_rfl
theorem kd_49 : kd Try.prog 49 = some (.struct [(0, 1, false), (1, 1, false), (2, 1, false), (3, 1, false), (4, 1, false), (5, 1, false), (6, 1, false), (7, 1, false), (8, 1, false)]) := by kernel_rfl
theorem sz_49 : szOf Try.prog 49 = some 9 := by kernel_rfl
theorem ld_49 : ldk Try.prog 49 = some (some 9) := by kernel_rfl
theorem lvs_49 : leaves Try.prog 49 = some [.int .i64, .str, .str, .str, .int .i64, .int .i64, .bool, .bool, .int .i64] := by kernel_rfl
theorem zero_49 : zeroT Try.prog 49 = some (.agg #[.int .i64 0, str [], str [], str [], .int .i64 0, .int .i64 0, .bool false, .bool false, .int .i64 0]) := by kernel_rfl
theorem sz_50 : szOf Try.prog 50 = some 1 := by kernel_rfl
theorem ld_50 : ldk Try.prog 50 = some none := by kernel_rfl
theorem sz_51 : szOf Try.prog 51 = some 1 := by kernel_rfl
theorem ld_51 : ldk Try.prog 51 = some none := by kernel_rfl
theorem sz_53 : szOf Try.prog 53 = some 1 := by kernel_rfl
theorem ld_53 : ldk Try.prog 53 = some none := by kernel_rfl
theorem sz_54 : szOf Try.prog 54 = some 1 := by kernel_rfl
theorem ld_54 : ldk Try.prog 54 = some none := by kernel_rfl
theorem kd_55 : kd Try.prog 55 = some (.struct [(0, 9, true), (9, 1, false), (10, 1, false), (11, 1, false)]) := by kernel_rfl
theorem sz_55 : szOf Try.prog 55 = some 12 := by kernel_rfl
theorem ld_55 : ldk Try.prog 55 = some (some 12) := by kernel_rfl
theorem zero_55 : zeroT Try.prog 55 = some (.agg #[.int .i64 0, str [], str [], str [], .int .i64 0, .int .i64 0, .bool false, .bool false, .int .i64 0, str [], str [], .int .i64 0]) := by kernel_rfl
theorem kd_56 : kd Try.prog 56 = some (.struct [(0, 9, true), (9, 1, false), (10, 1, false), (11, 1, false)]) := by kernel_rfl
theorem sz_56 : szOf Try.prog 56 = some 12 := by kernel_rfl
theorem ld_56 : ldk Try.prog 56 = some (some 12) := by kernel_rfl
theorem zero_56 : zeroT Try.prog 56 = some (.agg #[.int .i64 0, str [], str [], str [], .int .i64 0, .int .i64 0, .bool false, .bool false, .int .i64 0, str [], str [], .int .i64 0]) := by kernel_rfl
theorem sz_57 : szOf Try.prog 57 = some 1 := by kernel_rfl
theorem ld_57 : ldk Try.prog 57 = some none := by kernel_rfl
theorem sz_58 : szOf Try.prog 58 = some 1 := by kernel_rfl
theorem ld_58 : ldk Try.prog 58 = some none := by kernel_rfl
theorem sz_59 : szOf Try.prog 59 = some 1 := by kernel_rfl
theorem ld_59 : ldk Try.prog 59 = some none := by kernel_rfl
theorem kd_60 : kd Try.prog 60 = some (.struct [(0, 1, false), (1, 1, false)]) := by kernel_rfl
theorem sz_60 : szOf Try.prog 60 = some 2 := by kernel_rfl
theorem ld_60 : ldk Try.prog 60 = some (some 2) := by kernel_rfl
theorem lvs_60 : leaves Try.prog 60 = some [.int .i64, .int .i64] := by kernel_rfl
theorem zero_60 : zeroT Try.prog 60 = some (.agg #[.int .i64 0, .int .i64 0]) := by kernel_rfl
theorem kd_61 : kd Try.prog 61 = some (.struct [(0, 1, false), (1, 1, false)]) := by kernel_rfl
theorem sz_61 : szOf Try.prog 61 = some 2 := by kernel_rfl
theorem ld_61 : ldk Try.prog 61 = some (some 2) := by kernel_rfl
theorem lvs_61 : leaves Try.prog 61 = some [.int .i64, .int .i64] := by kernel_rfl
theorem zero_61 : zeroT Try.prog 61 = some (.agg #[.int .i64 0, .int .i64 0]) := by kernel_rfl
theorem kd_62 : kd Try.prog 62 = some (.struct [(0, 1, false), (1, 1, false), (2, 1, false)]) := by kernel_rfl
theorem sz_62 : szOf Try.prog 62 = some 3 := by kernel_rfl
theorem ld_62 : ldk Try.prog 62 = some (some 3) := by kernel_rfl
theorem lvs_62 : leaves Try.prog 62 = some [.int .i64, .int .i64, .int .i64] := by kernel_rfl
theorem zero_62 : zeroT Try.prog 62 = some (.agg #[.int .i64 0, .int .i64 0, .int .i64 0]) := by kernel_rfl
theorem kd_63 : kd Try.prog 63 = some (.struct [(0, 1, false), (1, 1, false), (2, 1, false)]) := by kernel_rfl
theorem sz_63 : szOf Try.prog 63 = some 3 := by kernel_rfl
theorem ld_63 : ldk Try.prog 63 = some (some 3) := by kernel_rfl
theorem lvs_63 : leaves Try.prog 63 = some [.int .i64, .int .i64, .int .i64] := by kernel_rfl
theorem zero_63 : zeroT Try.prog 63 = some (.agg #[.int .i64 0, .int .i64 0, .int .i64 0]) := by kernel_rfl
theorem kd_64 : kd Try.prog 64 = some (.slice 5 1) := by kernel_rfl
theorem sz_64 : szOf Try.prog 64 = some 1 := by kernel_rfl
theorem ld_64 : ldk Try.prog 64 = some none := by kernel_rfl
theorem zero_64 : zeroT Try.prog 64 = some (.slice none 0 0) := by kernel_rfl
theorem kd_65 : kd Try.prog 65 = some (.struct [(0, 1, false), (1, 1, false), (2, 1, false)]) := by kernel_rfl
theorem sz_65 : szOf Try.prog 65 = some 3 := by kernel_rfl
theorem ld_65 : ldk Try.prog 65 = some (some 3) := by kernel_rfl
theorem lvs_65 : leaves Try.prog 65 = some [.int .i64, .int .i64, .int .i64] := by kernel_rfl
theorem zero_65 : zeroT Try.prog 65 = some (.agg #[.int .i64 0, .int .i64 0, .int .i64 0]) := by kernel_rfl
theorem sz_66 : szOf Try.prog 66 = some 1 := by kernel_rfl
theorem ld_66 : ldk Try.prog 66 = some none := by kernel_rfl
theorem sz_67 : szOf Try.prog 67 = some 1 := by kernel_rfl
theorem ld_67 : ldk Try.prog 67 = some none := by kernel_rfl
theorem sz_68 : szOf Try.prog 68 = some 1 := by kernel_rfl
theorem ld_68 : ldk Try.prog 68 = some none := by kernel_rfl
theorem kd_69 : kd Try.prog 69 = some (.slice 3 1) := by kernel_rfl
theorem sz_69 : szOf Try.prog 69 = some 1 := by kernel_rfl
theorem ld_69 : ldk Try.prog 69 = some none := by kernel_rfl
theorem zero_69 : zeroT Try.prog 69 = some (.slice none 0 0) := by kernel_rfl
theorem sz_70 : szOf Try.prog 70 = some 1 := by kernel_rfl
theorem ld_70 : ldk Try.prog 70 = some none := by kernel_rfl
theorem sz_71 : szOf Try.prog 71 = some 1 := by kernel_rfl
theorem ld_71 : ldk Try.prog 71 = some none := by kernel_rfl
theorem sz_72 : szOf Try.prog 72 = some 1 := by kernel_rfl
theorem ld_72 : ldk Try.prog 72 = some none := by kernel_rfl
theorem sz_73 : szOf Try.prog 73 = some 1 := by kernel_rfl
theorem ld_73 : ldk Try.prog 73 = some none := by kernel_rfl
theorem sz_74 : szOf Try.prog 74 = some 1 := by kernel_rfl
theorem ld_74 : ldk Try.prog 74 = some none := by kernel_rfl
theorem sz_75 : szOf Try.prog 75 = some 1 := by kernel_rfl
theorem ld_75 : ldk Try.prog 75 = some none := by kernel_rfl
theorem kd_76 : kd Try.prog 76 = some (.int .u32) := by kernel_rfl
theorem sz_76 : szOf Try.prog 76 = some 1 := by kernel_rfl
theorem ld_76 : ldk Try.prog 76 = some none := by kernel_rfl
theorem zero_76 : zeroT Try.prog 76 = some (.int .u32 0) := by kernel_rfl
theorem sz_77 : szOf Try.prog 77 = some 1 := by kernel_rfl
theorem ld_77 : ldk Try.prog 77 = some none := by kernel_rfl
theorem kd_78 : kd Try.prog 78 = some (.struct [(0, 1, false), (1, 1, false)]) := by kernel_rfl
theorem sz_78 : szOf Try.prog 78 = some 2 := by kernel_rfl
theorem ld_78 : ldk Try.prog 78 = some (some 2) := by kernel_rfl
theorem lvs_78 : leaves Try.prog 78 = some [.int .i64, .str] := by kernel_rfl
theorem zero_78 : zeroT Try.prog 78 = some (.agg #[.int .i64 0, str []]) := by kernel_rfl
theorem kd_79 : kd Try.prog 79 = some (.slice 78 2) := by kernel_rfl
theorem sz_79 : szOf Try.prog 79 = some 1 := by kernel_rfl
theorem ld_79 : ldk Try.prog 79 = some none := by kernel_rfl
theorem zero_79 : zeroT Try.prog 79 = some (.slice none 0 0) := by kernel_rfl
theorem kd_80 : kd Try.prog 80 = some (.ptr 82) := by kernel_rfl
theorem sz_80 : szOf Try.prog 80 = some 1 := by kernel_rfl
theorem ld_80 : ldk Try.prog 80 = some none := by kernel_rfl
theorem zero_80 : zeroT Try.prog 80 = some (.pointer none) := by kernel_rfl
theorem kd_81 : kd Try.prog 81 = some (.struct [(0, 1, false), (1, 1, false), (2, 1, false)]) := by kernel_rfl
theorem sz_81 : szOf Try.prog 81 = some 3 := by kernel_rfl
theorem ld_81 : ldk Try.prog 81 = some (some 3) := by kernel_rfl
theorem lvs_81 : leaves Try.prog 81 = some [.str, .int .i64, .bool] := by kernel_rfl
theorem zero_81 : zeroT Try.prog 81 = some (.agg #[str [], .int .i64 0, .bool false]) := by kernel_rfl
theorem kd_82 : kd Try.prog 82 = some (.struct [(0, 1, false), (1, 1, false), (2, 1, false)]) := by kernel_rfl
theorem sz_82 : szOf Try.prog 82 = some 3 := by kernel_rfl
theorem ld_82 : ldk Try.prog 82 = some (some 3) := by kernel_rfl
theorem lvs_82 : leaves Try.prog 82 = some [.str, .int .i64, .bool] := by kernel_rfl
theorem zero_82 : zeroT Try.prog 82 = some (.agg #[str [], .int .i64 0, .bool false]) := by kernel_rfl
theorem sz_83 : szOf Try.prog 83 = some 1 := by kernel_rfl
theorem ld_83 : ldk Try.prog 83 = some none := by kernel_rfl
theorem sz_84 : szOf Try.prog 84 = some 1 := by kernel_rfl
theorem ld_84 : ldk Try.prog 84 = some none := by kernel_rfl
theorem kd_85 : kd Try.prog 85 = some (.ptr 49) := by kernel_rfl
theorem sz_85 : szOf Try.prog 85 = some 1 := by kernel_rfl
theorem ld_85 : ldk Try.prog 85 = some none := by kernel_rfl
theorem zero_85 : zeroT Try.prog 85 = some (.pointer none) := by kernel_rfl
theorem sz_87 : szOf Try.prog 87 = some 1 := by kernel_rfl
theorem ld_87 : ldk Try.prog 87 = some none := by kernel_rfl
theorem sz_89 : szOf Try.prog 89 = some 1 := by kernel_rfl
theorem ld_89 : ldk Try.prog 89 = some none := by kernel_rfl
theorem kd_90 : kd Try.prog 90 = some (.slice 61 2) := by kernel_rfl
theorem sz_90 : szOf Try.prog 90 = some 1 := by kernel_rfl
theorem ld_90 : ldk Try.prog 90 = some none := by kernel_rfl
theorem zero_90 : zeroT Try.prog 90 = some (.slice none 0 0) := by kernel_rfl
theorem sz_91 : szOf Try.prog 91 = some 1 := by kernel_rfl
theorem ld_91 : ldk Try.prog 91 = some none := by kernel_rfl
theorem kd_92 : kd Try.prog 92 = some (.int .u64) := by kernel_rfl
theorem sz_92 : szOf Try.prog 92 = some 1 := by kernel_rfl
theorem ld_92 : ldk Try.prog 92 = some none := by kernel_rfl
theorem zero_92 : zeroT Try.prog 92 = some (.int .u64 0) := by kernel_rfl
theorem sz_93 : szOf Try.prog 93 = some 1 := by kernel_rfl
theorem ld_93 : ldk Try.prog 93 = some none := by kernel_rfl
theorem sz_94 : szOf Try.prog 94 = some 1 := by kernel_rfl
theorem ld_94 : ldk Try.prog 94 = some none := by kernel_rfl
theorem kd_95 : kd Try.prog 95 = some (.ptr 9) := by kernel_rfl
theorem sz_95 : szOf Try.prog 95 = some 1 := by kernel_rfl
theorem ld_95 : ldk Try.prog 95 = some none := by kernel_rfl
theorem zero_95 : zeroT Try.prog 95 = some (.pointer none) := by kernel_rfl
theorem kd_96 : kd Try.prog 96 = some (.struct [(0, 1, false), (1, 1, false), (2, 1, false)]) := by kernel_rfl
theorem sz_96 : szOf Try.prog 96 = some 3 := by kernel_rfl
theorem ld_96 : ldk Try.prog 96 = some (some 3) := by kernel_rfl
theorem zero_96 : zeroT Try.prog 96 = some (.agg #[.int .i64 0, .nilFunc, .pointer none]) := by kernel_rfl
theorem kd_97 : kd Try.prog 97 = some (.slice 96 3) := by kernel_rfl
theorem sz_97 : szOf Try.prog 97 = some 1 := by kernel_rfl
theorem ld_97 : ldk Try.prog 97 = some none := by kernel_rfl
theorem zero_97 : zeroT Try.prog 97 = some (.slice none 0 0) := by kernel_rfl
theorem kd_98 : kd Try.prog 98 = some (.int .u64) := by kernel_rfl
theorem sz_98 : szOf Try.prog 98 = some 1 := by kernel_rfl
theorem ld_98 : ldk Try.prog 98 = some none := by kernel_rfl
theorem zero_98 : zeroT Try.prog 98 = some (.int .u64 0) := by kernel_rfl
theorem sz_99 : szOf Try.prog 99 = some 1 := by kernel_rfl
theorem ld_99 : ldk Try.prog 99 = some none := by kernel_rfl
theorem kd_100 : kd Try.prog 100 = some (.arr 256 76 1 false) := by kernel_rfl
theorem sz_100 : szOf Try.prog 100 = some 256 := by kernel_rfl
theorem ld_100 : ldk Try.prog 100 = some (some 256) := by kernel_rfl
theorem zero_100 : zeroT Try.prog 100 = some (.agg (Array.replicate 256 (.int .u32 0))) := by kernel_rfl
theorem sz_101 : szOf Try.prog 101 = some 1 := by kernel_rfl
theorem ld_101 : ldk Try.prog 101 = some none := by kernel_rfl
theorem sz_102 : szOf Try.prog 102 = some 1 := by kernel_rfl
theorem ld_102 : ldk Try.prog 102 = some none := by kernel_rfl
theorem kd_103 : kd Try.prog 103 = some (.ptr 100) := by kernel_rfl
theorem sz_103 : szOf Try.prog 103 = some 1 := by kernel_rfl
theorem ld_103 : ldk Try.prog 103 = some none := by kernel_rfl
theorem zero_103 : zeroT Try.prog 103 = some (.pointer none) := by kernel_rfl
theorem sz_104 : szOf Try.prog 104 = some 1 := by kernel_rfl
theorem ld_104 : ldk Try.prog 104 = some none := by kernel_rfl
theorem sz_110 : szOf Try.prog 110 = some 1 := by kernel_rfl
theorem ld_110 : ldk Try.prog 110 = some none := by kernel_rfl
theorem kd_114 : kd Try.prog 114 = some (.ptr 5) := by kernel_rfl
theorem sz_114 : szOf Try.prog 114 = some 1 := by kernel_rfl
theorem ld_114 : ldk Try.prog 114 = some none := by kernel_rfl
theorem zero_114 : zeroT Try.prog 114 = some (.pointer none) := by kernel_rfl
theorem ent_3 : enters Try.prog 3 := Try.call3
theorem ent_4 : enters Try.prog 4 := Try.call4
theorem ent_5 : enters Try.prog 5 := Try.call5
theorem ent_6 : enters Try.prog 6 := Try.call6
theorem ent_7 : enters Try.prog 7 := Try.call7
theorem ent_8 : enters Try.prog 8 := Try.call8
theorem ent_9 : enters Try.prog 9 := Try.call9
theorem ent_10 : enters Try.prog 10 := Try.call10
theorem ent_11 : enters Try.prog 11 := Try.call11
theorem ent_12 : enters Try.prog 12 := Try.call12
theorem ent_13 : enters Try.prog 13 := Try.call13
theorem ent_14 : enters Try.prog 14 := Try.call14
theorem ent_15 : enters Try.prog 15 := Try.call15
theorem ent_16 : enters Try.prog 16 := Try.call16
theorem ent_17 : enters Try.prog 17 := Try.call17
theorem ent_18 : enters Try.prog 18 := Try.call18
theorem ent_19 : enters Try.prog 19 := Try.call19
theorem ent_20 : enters Try.prog 20 := Try.call20
theorem ent_21 : enters Try.prog 21 := Try.call21
theorem ent_22 : enters Try.prog 22 := Try.call22
theorem ent_23 : enters Try.prog 23 := Try.call23
theorem ent_24 : enters Try.prog 24 := Try.call24
theorem ent_25 : enters Try.prog 25 := Try.call25
theorem ent_26 : enters Try.prog 26 := Try.call26
theorem ent_27 : enters Try.prog 27 := Try.call27
theorem ent_28 : enters Try.prog 28 := Try.call28
theorem ent_29 : enters Try.prog 29 := Try.call29
theorem ent_30 : enters Try.prog 30 := Try.call30
theorem ent_31 : enters Try.prog 31 := Try.call31
theorem ent_32 : enters Try.prog 32 := Try.call32
theorem ent_33 : enters Try.prog 33 := Try.call33
theorem ent_34 : enters Try.prog 34 := Try.call34
theorem ent_35 : enters Try.prog 35 := Try.call35
theorem ent_36 : enters Try.prog 36 := Try.call36
theorem ent_37 : enters Try.prog 37 := Try.call37
theorem ent_38 : enters Try.prog 38 := Try.call38
theorem ent_39 : enters Try.prog 39 := Try.call39
theorem ent_40 : enters Try.prog 40 := Try.call40
theorem ent_41 : enters Try.prog 41 := Try.call41
theorem ent_42 : enters Try.prog 42 := Try.call42
theorem ent_43 : enters Try.prog 43 := Try.call43
theorem ent_44 : enters Try.prog 44 := Try.call44
theorem ent_45 : enters Try.prog 45 := Try.call45
theorem ent_46 : enters Try.prog 46 := Try.call46
theorem ent_47 : enters Try.prog 47 := Try.call47
theorem ent_48 : enters Try.prog 48 := Try.call48
theorem ent_49 : enters Try.prog 49 := Try.call49
theorem ent_50 : enters Try.prog 50 := Try.call50
theorem ent_51 : enters Try.prog 51 := Try.call51
theorem ent_52 : enters Try.prog 52 := Try.call52
theorem ent_53 : enters Try.prog 53 := Try.call53
theorem ent_54 : enters Try.prog 54 := Try.call54
theorem ent_55 : enters Try.prog 55 := Try.call55
theorem ent_56 : enters Try.prog 56 := Try.call56
theorem ent_57 : enters Try.prog 57 := Try.call57
theorem ent_58 : enters Try.prog 58 := Try.call58
theorem ent_59 : enters Try.prog 59 := Try.call59
theorem ent_60 : enters Try.prog 60 := Try.call60
theorem ent_61 : enters Try.prog 61 := Try.call61
theorem ent_62 : enters Try.prog 62 := Try.call62
theorem ent_63 : enters Try.prog 63 := Try.call63
theorem ent_64 : enters Try.prog 64 := Try.call64
theorem ent_65 : enters Try.prog 65 := Try.call65
theorem ent_66 : enters Try.prog 66 := Try.call66
attribute [go_sem] sz_1 ld_1 kd_2 sz_2 ld_2 zero_2 kd_3 sz_3 ld_3 zero_3 kd_4 sz_4 ld_4 zero_4 kd_5 sz_5 ld_5 zero_5 kd_9 sz_9 ld_9 zero_9 kd_12 sz_12 ld_12 zero_12 kd_21 sz_21 ld_21 zero_21 kd_22 sz_22 ld_22 zero_22 kd_23 sz_23 ld_23 zero_23 kd_24 sz_24 ld_24 zero_24 kd_25 sz_25 ld_25 zero_25 kd_26 sz_26 ld_26 lvs_26 zero_26 kd_27 sz_27 ld_27 lvs_27 zero_27 sz_28 ld_28 sz_29 ld_29 kd_30 sz_30 ld_30 zero_30 sz_32 ld_32 kd_33 sz_33 ld_33 zero_33 kd_34 sz_34 ld_34 zero_34 kd_35 sz_35 ld_35 zero_35 sz_36 ld_36 sz_37 ld_37 sz_38 ld_38 sz_39 ld_39 sz_40 ld_40 sz_42 ld_42 sz_44 ld_44 sz_45 ld_45 sz_46 ld_46 sz_47 ld_47 kd_48 sz_48 ld_48 lvs_48 zero_48 kd_49 sz_49 ld_49 lvs_49 zero_49 sz_50 ld_50 sz_51 ld_51 sz_53 ld_53 sz_54 ld_54 kd_55 sz_55 ld_55 zero_55 kd_56 sz_56 ld_56 zero_56 sz_57 ld_57 sz_58 ld_58 sz_59 ld_59 kd_60 sz_60 ld_60 lvs_60 zero_60 kd_61 sz_61 ld_61 lvs_61 zero_61 kd_62 sz_62 ld_62 lvs_62 zero_62 kd_63 sz_63 ld_63 lvs_63 zero_63 kd_64 sz_64 ld_64 zero_64 kd_65 sz_65 ld_65 lvs_65 zero_65 sz_66 ld_66 sz_67 ld_67 sz_68 ld_68 kd_69 sz_69 ld_69 zero_69 sz_70 ld_70 sz_71 ld_71 sz_72 ld_72 sz_73 ld_73 sz_74 ld_74 sz_75 ld_75 kd_76 sz_76 ld_76 zero_76 sz_77 ld_77 kd_78 sz_78 ld_78 lvs_78 zero_78 kd_79 sz_79 ld_79 zero_79 kd_80 sz_80 ld_80 zero_80 kd_81 sz_81 ld_81 lvs_81 zero_81 kd_82 sz_82 ld_82 lvs_82 zero_82 sz_83 ld_83 sz_84 ld_84 kd_85 sz_85 ld_85 zero_85 sz_87 ld_87 sz_89 ld_89 kd_90 sz_90 ld_90 zero_90 sz_91 ld_91 kd_92 sz_92 ld_92 zero_92 sz_93 ld_93 sz_94 ld_94 kd_95 sz_95 ld_95 zero_95 kd_96 sz_96 ld_96 zero_96 kd_97 sz_97 ld_97 zero_97 kd_98 sz_98 ld_98 zero_98 sz_99 ld_99 kd_100 sz_100 ld_100 zero_100 sz_101 ld_101 sz_102 ld_102 kd_103 sz_103 ld_103 zero_103 sz_104 ld_104 sz_110 ld_110 kd_114 sz_114 ld_114 zero_114 Try.results3 Try.results4 Try.results5 Try.results6 Try.results7 Try.results8 Try.results9 Try.results10 Try.results11 Try.results12 Try.results13 Try.results14 Try.results15 Try.results16 Try.results17 Try.results18 Try.results19 Try.results20 Try.results21 Try.results22 Try.results23 Try.results24 Try.results25 Try.results26 Try.results27 Try.results28 Try.results29 Try.results30 Try.results31 Try.results32 Try.results33 Try.results34 Try.results35 Try.results36 Try.results37 Try.results38 Try.results39 Try.results40 Try.results41 Try.results42 Try.results43 Try.results44 Try.results45 Try.results46 Try.results47 Try.results48 Try.results49 Try.results50 Try.results51 Try.results52 Try.results53 Try.results54 Try.results55 Try.results56 Try.results57 Try.results58 Try.results59 Try.results60 Try.results61 Try.results62 Try.results63 Try.results64 Try.results65 Try.results66
end H
end Go.Proofs.Ytlmbebnpnnkhmaa
