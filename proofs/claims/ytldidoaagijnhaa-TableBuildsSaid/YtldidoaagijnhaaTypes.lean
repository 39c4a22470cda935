/- What my walk asks of the types and the functions of this seat. Written by a program of mine (gen_types.py). -/
import Derived.Test.YtldidoaagijnhaaAgg
import Derived.Test.YtldidoaagijnhaaChecked
namespace Go.Proofs.Ytldidoaagijnhaa
namespace H
theorem sz_1 : szOf Try.prog 1 = some 1 := by kernel_rfl
theorem ld_1 : ldk Try.prog 1 = some none := by kernel_rfl
theorem kd_2 : kd Try.prog 2 = some (.int .i64) := by kernel_rfl
theorem sz_2 : szOf Try.prog 2 = some 1 := by kernel_rfl
theorem ld_2 : ldk Try.prog 2 = some none := by kernel_rfl
theorem zero_2 : zeroT Try.prog 2 = some (.int .i64 0) := by kernel_rfl
theorem kd_3 : kd Try.prog 3 = some (.int .i64) := by kernel_rfl
theorem sz_3 : szOf Try.prog 3 = some 1 := by kernel_rfl
theorem ld_3 : ldk Try.prog 3 = some none := by kernel_rfl
theorem zero_3 : zeroT Try.prog 3 = some (.int .i64 0) := by kernel_rfl
theorem kd_4 : kd Try.prog 4 = some (.bool) := by kernel_rfl
theorem sz_4 : szOf Try.prog 4 = some 1 := by kernel_rfl
theorem ld_4 : ldk Try.prog 4 = some none := by kernel_rfl
theorem zero_4 : zeroT Try.prog 4 = some (.bool false) := by kernel_rfl
theorem kd_5 : kd Try.prog 5 = some (.int .u8) := by kernel_rfl
theorem sz_5 : szOf Try.prog 5 = some 1 := by kernel_rfl
theorem ld_5 : ldk Try.prog 5 = some none := by kernel_rfl
theorem zero_5 : zeroT Try.prog 5 = some (.int .u8 0) := by kernel_rfl
theorem kd_9 : kd Try.prog 9 = some (.str) := by kernel_rfl
theorem sz_9 : szOf Try.prog 9 = some 1 := by kernel_rfl
theorem ld_9 : ldk Try.prog 9 = some none := by kernel_rfl
theorem zero_9 : zeroT Try.prog 9 = some (str []) := by kernel_rfl
theorem kd_12 : kd Try.prog 12 = some (.int .u64) := by kernel_rfl
theorem sz_12 : szOf Try.prog 12 = some 1 := by kernel_rfl
theorem ld_12 : ldk Try.prog 12 = some none := by kernel_rfl
theorem zero_12 : zeroT Try.prog 12 = some (.int .u64 0) := by kernel_rfl
theorem kd_21 : kd Try.prog 21 = some (.int .i32) := by kernel_rfl
theorem sz_21 : szOf Try.prog 21 = some 1 := by kernel_rfl
theorem ld_21 : ldk Try.prog 21 = some none := by kernel_rfl
theorem zero_21 : zeroT Try.prog 21 = some (.int .i32 0) := by kernel_rfl
theorem kd_22 : kd Try.prog 22 = some (.slice 9 1) := by kernel_rfl
theorem sz_22 : szOf Try.prog 22 = some 1 := by kernel_rfl
theorem ld_22 : ldk Try.prog 22 = some none := by kernel_rfl
theorem zero_22 : zeroT Try.prog 22 = some (.slice none 0 0) := by kernel_rfl
theorem kd_23 : kd Try.prog 23 = some (.ptr 62) := by kernel_rfl
theorem sz_23 : szOf Try.prog 23 = some 1 := by kernel_rfl
theorem ld_23 : ldk Try.prog 23 = some none := by kernel_rfl
theorem zero_23 : zeroT Try.prog 23 = some (.pointer none) := by kernel_rfl
theorem sz_24 : szOf Try.prog 24 = some 1 := by kernel_rfl
theorem ld_24 : ldk Try.prog 24 = some none := by kernel_rfl
theorem kd_25 : kd Try.prog 25 = some (.int .i64) := by kernel_rfl
theorem sz_25 : szOf Try.prog 25 = some 1 := by kernel_rfl
theorem ld_25 : ldk Try.prog 25 = some none := by kernel_rfl
theorem zero_25 : zeroT Try.prog 25 = some (.int .i64 0) := by kernel_rfl
theorem sz_27 : szOf Try.prog 27 = some 1 := by kernel_rfl
theorem ld_27 : ldk Try.prog 27 = some none := by kernel_rfl
theorem sz_28 : szOf Try.prog 28 = some 1 := by kernel_rfl
theorem ld_28 : ldk Try.prog 28 = some none := by kernel_rfl
theorem sz_29 : szOf Try.prog 29 = some 1 := by kernel_rfl
theorem ld_29 : ldk Try.prog 29 = some none := by kernel_rfl
theorem sz_30 : szOf Try.prog 30 = some 1 := by kernel_rfl
theorem ld_30 : ldk Try.prog 30 = some none := by kernel_rfl
theorem sz_32 : szOf Try.prog 32 = some 1 := by kernel_rfl
theorem ld_32 : ldk Try.prog 32 = some none := by kernel_rfl
theorem sz_33 : szOf Try.prog 33 = some 1 := by kernel_rfl
theorem ld_33 : ldk Try.prog 33 = some none := by kernel_rfl
theorem sz_35 : szOf Try.prog 35 = some 1 := by kernel_rfl
theorem ld_35 : ldk Try.prog 35 = some none := by kernel_rfl
theorem sz_36 : szOf Try.prog 36 = some 1 := by kernel_rfl
theorem ld_36 : ldk Try.prog 36 = some none := by kernel_rfl
theorem kd_37 : kd Try.prog 37 = some (.ptr 39) := by kernel_rfl
theorem sz_37 : szOf Try.prog 37 = some 1 := by kernel_rfl
theorem ld_37 : ldk Try.prog 37 = some none := by kernel_rfl
theorem zero_37 : zeroT Try.prog 37 = some (.pointer none) := by kernel_rfl
theorem kd_38 : kd Try.prog 38 = some (.struct [(0, 1, false), (1, 1, false), (2, 1, false)]) := by kernel_rfl
theorem sz_38 : szOf Try.prog 38 = some 3 := by kernel_rfl
theorem ld_38 : ldk Try.prog 38 = some (some 3) := by kernel_rfl
theorem zero_38 : zeroT Try.prog 38 = some (.agg #[str [], .slice none 0 0, .int .i64 0]) := by kernel_rfl
theorem kd_39 : kd Try.prog 39 = some (.struct [(0, 1, false), (1, 1, false), (2, 1, false)]) := by kernel_rfl
theorem sz_39 : szOf Try.prog 39 = some 3 := by kernel_rfl
theorem ld_39 : ldk Try.prog 39 = some (some 3) := by kernel_rfl
theorem zero_39 : zeroT Try.prog 39 = some (.agg #[str [], .slice none 0 0, .int .i64 0]) := by kernel_rfl
theorem sz_41 : szOf Try.prog 41 = some 1 := by kernel_rfl
theorem ld_41 : ldk Try.prog 41 = some none := by kernel_rfl
theorem sz_42 : szOf Try.prog 42 = some 1 := by kernel_rfl
theorem ld_42 : ldk Try.prog 42 = some none := by kernel_rfl
theorem sz_43 : szOf Try.prog 43 = some 1 := by kernel_rfl
theorem ld_43 : ldk Try.prog 43 = some none := by kernel_rfl
theorem kd_44 : kd Try.prog 44 = some (.arr 256 3 1 false) := by kernel_rfl
theorem sz_44 : szOf Try.prog 44 = some 256 := by kernel_rfl
theorem ld_44 : ldk Try.prog 44 = some (some 256) := by kernel_rfl
theorem zero_44 : zeroT Try.prog 44 = some (.agg (Array.replicate 256 (.int .i64 0))) := by kernel_rfl
theorem kd_45 : kd Try.prog 45 = some (.slice 46 1) := by kernel_rfl
theorem sz_45 : szOf Try.prog 45 = some 1 := by kernel_rfl
theorem ld_45 : ldk Try.prog 45 = some none := by kernel_rfl
theorem zero_45 : zeroT Try.prog 45 = some (.slice none 0 0) := by kernel_rfl
theorem kd_46 : kd Try.prog 46 = some (.slice 3 1) := by kernel_rfl
theorem sz_46 : szOf Try.prog 46 = some 1 := by kernel_rfl
theorem ld_46 : ldk Try.prog 46 = some none := by kernel_rfl
theorem zero_46 : zeroT Try.prog 46 = some (.slice none 0 0) := by kernel_rfl
theorem kd_47 : kd Try.prog 47 = some (.struct [(0, 256, true), (256, 1, false), (257, 1, false)]) := by kernel_rfl
theorem sz_47 : szOf Try.prog 47 = some 258 := by kernel_rfl
theorem ld_47 : ldk Try.prog 47 = some (some 258) := by kernel_rfl
theorem zero_47 : zeroT Try.prog 47 = some (.agg (Array.replicate 256 (.int .i64 0) ++ #[.slice none 0 0, .slice none 0 0])) := by kernel_rfl
theorem kd_48 : kd Try.prog 48 = some (.struct [(0, 256, true), (256, 1, false), (257, 1, false)]) := by kernel_rfl
theorem sz_48 : szOf Try.prog 48 = some 258 := by kernel_rfl
theorem ld_48 : ldk Try.prog 48 = some (some 258) := by kernel_rfl
theorem zero_48 : zeroT Try.prog 48 = some (.agg (Array.replicate 256 (.int .i64 0) ++ #[.slice none 0 0, .slice none 0 0])) := by kernel_rfl
theorem sz_49 : szOf Try.prog 49 = some 1 := by kernel_rfl
theorem ld_49 : ldk Try.prog 49 = some none := by kernel_rfl
theorem sz_50 : szOf Try.prog 50 = some 1 := by kernel_rfl
theorem ld_50 : ldk Try.prog 50 = some none := by kernel_rfl
theorem sz_52 : szOf Try.prog 52 = some 1 := by kernel_rfl
theorem ld_52 : ldk Try.prog 52 = some none := by kernel_rfl
theorem sz_53 : szOf Try.prog 53 = some 1 := by kernel_rfl
theorem ld_53 : ldk Try.prog 53 = some none := by kernel_rfl
theorem sz_54 : szOf Try.prog 54 = some 1 := by kernel_rfl
theorem ld_54 : ldk Try.prog 54 = some none := by kernel_rfl
theorem sz_56 : szOf Try.prog 56 = some 1 := by kernel_rfl
theorem ld_56 : ldk Try.prog 56 = some none := by kernel_rfl
theorem sz_57 : szOf Try.prog 57 = some 1 := by kernel_rfl
theorem ld_57 : ldk Try.prog 57 = some none := by kernel_rfl
theorem sz_58 : szOf Try.prog 58 = some 1 := by kernel_rfl
theorem ld_58 : ldk Try.prog 58 = some none := by kernel_rfl
theorem kd_59 : kd Try.prog 59 = some (.slice 5 1) := by kernel_rfl
theorem sz_59 : szOf Try.prog 59 = some 1 := by kernel_rfl
theorem ld_59 : ldk Try.prog 59 = some none := by kernel_rfl
theorem zero_59 : zeroT Try.prog 59 = some (.slice none 0 0) := by kernel_rfl
theorem sz_60 : szOf Try.prog 60 = some 1 := by kernel_rfl
theorem ld_60 : ldk Try.prog 60 = some none := by kernel_rfl
theorem kd_61 : kd Try.prog 61 = some (.struct [(0, 1, false), (1, 1, false), (2, 1, false)]) := by kernel_rfl
theorem sz_61 : szOf Try.prog 61 = some 3 := by kernel_rfl
theorem ld_61 : ldk Try.prog 61 = some (some 3) := by kernel_rfl
theorem zero_61 : zeroT Try.prog 61 = some (.agg #[.slice none 0 0, str [], .int .i64 0]) := by kernel_rfl
theorem kd_62 : kd Try.prog 62 = some (.struct [(0, 1, false), (1, 1, false), (2, 1, false)]) := by kernel_rfl
theorem sz_62 : szOf Try.prog 62 = some 3 := by kernel_rfl
theorem ld_62 : ldk Try.prog 62 = some (some 3) := by kernel_rfl
theorem zero_62 : zeroT Try.prog 62 = some (.agg #[.slice none 0 0, str [], .int .i64 0]) := by kernel_rfl
theorem sz_63 : szOf Try.prog 63 = some 1 := by kernel_rfl
theorem ld_63 : ldk Try.prog 63 = some none := by kernel_rfl
theorem sz_64 : szOf Try.prog 64 = some 1 := by kernel_rfl
theorem ld_64 : ldk Try.prog 64 = some none := by kernel_rfl
theorem sz_65 : szOf Try.prog 65 = some 1 := by kernel_rfl
theorem ld_65 : ldk Try.prog 65 = some none := by kernel_rfl
theorem sz_66 : szOf Try.prog 66 = some 1 := by kernel_rfl
theorem ld_66 : ldk Try.prog 66 = some none := by kernel_rfl
theorem sz_67 : szOf Try.prog 67 = some 1 := by kernel_rfl
theorem ld_67 : ldk Try.prog 67 = some none := by kernel_rfl
theorem sz_69 : szOf Try.prog 69 = some 1 := by kernel_rfl
theorem ld_69 : ldk Try.prog 69 = some none := by kernel_rfl
theorem sz_70 : szOf Try.prog 70 = some 1 := by kernel_rfl
theorem ld_70 : ldk Try.prog 70 = some none := by kernel_rfl
theorem sz_72 : szOf Try.prog 72 = some 1 := by kernel_rfl
theorem ld_72 : ldk Try.prog 72 = some none := by kernel_rfl
theorem sz_73 : szOf Try.prog 73 = some 1 := by kernel_rfl
theorem ld_73 : ldk Try.prog 73 = some none := by kernel_rfl
theorem sz_74 : szOf Try.prog 74 = some 1 := by kernel_rfl
theorem ld_74 : ldk Try.prog 74 = some none := by kernel_rfl
theorem sz_75 : szOf Try.prog 75 = some 1 := by kernel_rfl
theorem ld_75 : ldk Try.prog 75 = some none := by kernel_rfl
theorem sz_76 : szOf Try.prog 76 = some 1 := by kernel_rfl
theorem ld_76 : ldk Try.prog 76 = some none := by kernel_rfl
theorem kd_77 : kd Try.prog 77 = some (.int .u32) := by kernel_rfl
theorem sz_77 : szOf Try.prog 77 = some 1 := by kernel_rfl
theorem ld_77 : ldk Try.prog 77 = some none := by kernel_rfl
theorem zero_77 : zeroT Try.prog 77 = some (.int .u32 0) := by kernel_rfl
theorem sz_78 : szOf Try.prog 78 = some 1 := by kernel_rfl
theorem ld_78 : ldk Try.prog 78 = some none := by kernel_rfl
theorem kd_79 : kd Try.prog 79 = some (.map 9 3) := by kernel_rfl
theorem sz_79 : szOf Try.prog 79 = some 1 := by kernel_rfl
theorem ld_79 : ldk Try.prog 79 = some none := by kernel_rfl
theorem zero_79 : zeroT Try.prog 79 = some (.map none) := by kernel_rfl
theorem sz_82 : szOf Try.prog 82 = some 1 := by kernel_rfl
theorem ld_82 : ldk Try.prog 82 = some none := by kernel_rfl
theorem sz_83 : szOf Try.prog 83 = some 1 := by kernel_rfl
theorem ld_83 : ldk Try.prog 83 = some none := by kernel_rfl
theorem kd_84 : kd Try.prog 84 = some (.int .u64) := by kernel_rfl
theorem sz_84 : szOf Try.prog 84 = some 1 := by kernel_rfl
theorem ld_84 : ldk Try.prog 84 = some none := by kernel_rfl
theorem zero_84 : zeroT Try.prog 84 = some (.int .u64 0) := by kernel_rfl
theorem kd_85 : kd Try.prog 85 = some (.int .u64) := by kernel_rfl
theorem sz_85 : szOf Try.prog 85 = some 1 := by kernel_rfl
theorem ld_85 : ldk Try.prog 85 = some none := by kernel_rfl
theorem zero_85 : zeroT Try.prog 85 = some (.int .u64 0) := by kernel_rfl
theorem sz_87 : szOf Try.prog 87 = some 1 := by kernel_rfl
theorem ld_87 : ldk Try.prog 87 = some none := by kernel_rfl
theorem sz_88 : szOf Try.prog 88 = some 1 := by kernel_rfl
theorem ld_88 : ldk Try.prog 88 = some none := by kernel_rfl
theorem sz_89 : szOf Try.prog 89 = some 1 := by kernel_rfl
theorem ld_89 : ldk Try.prog 89 = some none := by kernel_rfl
theorem kd_90 : kd Try.prog 90 = some (.ptr 92) := by kernel_rfl
theorem sz_90 : szOf Try.prog 90 = some 1 := by kernel_rfl
theorem ld_90 : ldk Try.prog 90 = some none := by kernel_rfl
theorem zero_90 : zeroT Try.prog 90 = some (.pointer none) := by kernel_rfl
theorem kd_91 : kd Try.prog 91 = some (.struct [(0, 1, false), (1, 1, false), (2, 1, false)]) := by kernel_rfl
theorem sz_91 : szOf Try.prog 91 = some 3 := by kernel_rfl
theorem ld_91 : ldk Try.prog 91 = some (some 3) := by kernel_rfl
theorem lvs_91 : leaves Try.prog 91 = some [.str, .int .i64, .bool] := by kernel_rfl
theorem zero_91 : zeroT Try.prog 91 = some (.agg #[str [], .int .i64 0, .bool false]) := by kernel_rfl
theorem kd_92 : kd Try.prog 92 = some (.struct [(0, 1, false), (1, 1, false), (2, 1, false)]) := by kernel_rfl
theorem sz_92 : szOf Try.prog 92 = some 3 := by kernel_rfl
theorem ld_92 : ldk Try.prog 92 = some (some 3) := by kernel_rfl
theorem lvs_92 : leaves Try.prog 92 = some [.str, .int .i64, .bool] := by kernel_rfl
theorem zero_92 : zeroT Try.prog 92 = some (.agg #[str [], .int .i64 0, .bool false]) := by kernel_rfl
theorem sz_93 : szOf Try.prog 93 = some 1 := by kernel_rfl
theorem ld_93 : ldk Try.prog 93 = some none := by kernel_rfl
theorem sz_94 : szOf Try.prog 94 = some 1 := by kernel_rfl
theorem ld_94 : ldk Try.prog 94 = some none := by kernel_rfl
theorem sz_95 : szOf Try.prog 95 = some 1 := by kernel_rfl
theorem ld_95 : ldk Try.prog 95 = some none := by kernel_rfl
theorem kd_96 : kd Try.prog 96 = some (.ptr 98) := by kernel_rfl
theorem sz_96 : szOf Try.prog 96 = some 1 := by kernel_rfl
theorem ld_96 : ldk Try.prog 96 = some none := by kernel_rfl
theorem zero_96 : zeroT Try.prog 96 = some (.pointer none) := by kernel_rfl
theorem kd_97 : kd Try.prog 97 = some (.struct [(0, 1, false), (1, 1, false), (2, 1, false)]) := by kernel_rfl
theorem sz_97 : szOf Try.prog 97 = some 3 := by kernel_rfl
theorem ld_97 : ldk Try.prog 97 = some (some 3) := by kernel_rfl
theorem lvs_97 : leaves Try.prog 97 = some [.str, .int .i64, .bool] := by kernel_rfl
theorem zero_97 : zeroT Try.prog 97 = some (.agg #[str [], .int .i64 0, .bool false]) := by kernel_rfl
theorem kd_98 : kd Try.prog 98 = some (.struct [(0, 1, false), (1, 1, false), (2, 1, false)]) := by kernel_rfl
theorem sz_98 : szOf Try.prog 98 = some 3 := by kernel_rfl
theorem ld_98 : ldk Try.prog 98 = some (some 3) := by kernel_rfl
theorem lvs_98 : leaves Try.prog 98 = some [.str, .int .i64, .bool] := by kernel_rfl
theorem zero_98 : zeroT Try.prog 98 = some (.agg #[str [], .int .i64 0, .bool false]) := by kernel_rfl
theorem sz_99 : szOf Try.prog 99 = some 1 := by kernel_rfl
theorem ld_99 : ldk Try.prog 99 = some none := by kernel_rfl
theorem kd_100 : kd Try.prog 100 = some (.arr 256 77 1 false) := by kernel_rfl
theorem sz_100 : szOf Try.prog 100 = some 256 := by kernel_rfl
theorem ld_100 : ldk Try.prog 100 = some (some 256) := by kernel_rfl
theorem zero_100 : zeroT Try.prog 100 = some (.agg (Array.replicate 256 (.int .u32 0))) := by kernel_rfl
theorem sz_101 : szOf Try.prog 101 = some 1 := by kernel_rfl
theorem ld_101 : ldk Try.prog 101 = some none := by kernel_rfl
theorem sz_102 : szOf Try.prog 102 = some 1 := by kernel_rfl
theorem ld_102 : ldk Try.prog 102 = some none := by kernel_rfl
theorem kd_103 : kd Try.prog 103 = some (.ptr 100) := by kernel_rfl
theorem sz_103 : szOf Try.prog 103 = some 1 := by kernel_rfl
theorem ld_103 : ldk Try.prog 103 = some none := by kernel_rfl
theorem zero_103 : zeroT Try.prog 103 = some (.pointer none) := by kernel_rfl
theorem sz_104 : szOf Try.prog 104 = some 1 := by kernel_rfl
theorem ld_104 : ldk Try.prog 104 = some none := by kernel_rfl
theorem kd_113 : kd Try.prog 113 = some (.ptr 5) := by kernel_rfl
theorem sz_113 : szOf Try.prog 113 = some 1 := by kernel_rfl
theorem ld_113 : ldk Try.prog 113 = some none := by kernel_rfl
theorem zero_113 : zeroT Try.prog 113 = some (.pointer none) := by kernel_rfl
theorem ent_3 : enters Try.prog 3 := Try.call3
theorem ent_4 : enters Try.prog 4 := Try.call4
theorem ent_5 : enters Try.prog 5 := Try.call5
theorem ent_6 : enters Try.prog 6 := Try.call6
theorem ent_7 : enters Try.prog 7 := Try.call7
theorem ent_8 : enters Try.prog 8 := Try.call8
theorem ent_9 : enters Try.prog 9 := Try.call9
theorem ent_10 : enters Try.prog 10 := Try.call10
theorem ent_11 : enters Try.prog 11 := Try.call11
theorem ent_12 : enters Try.prog 12 := Try.call12
theorem ent_13 : enters Try.prog 13 := Try.call13
theorem ent_14 : enters Try.prog 14 := Try.call14
theorem ent_15 : enters Try.prog 15 := Try.call15
theorem ent_16 : enters Try.prog 16 := Try.call16
theorem ent_17 : enters Try.prog 17 := Try.call17
theorem ent_18 : enters Try.prog 18 := Try.call18
theorem ent_19 : enters Try.prog 19 := Try.call19
theorem ent_20 : enters Try.prog 20 := Try.call20
theorem ent_21 : enters Try.prog 21 := Try.call21
theorem ent_22 : enters Try.prog 22 := Try.call22
theorem ent_23 : enters Try.prog 23 := Try.call23
theorem ent_24 : enters Try.prog 24 := Try.call24
theorem ent_25 : enters Try.prog 25 := Try.call25
theorem ent_26 : enters Try.prog 26 := Try.call26
theorem ent_27 : enters Try.prog 27 := Try.call27
theorem ent_28 : enters Try.prog 28 := Try.call28
theorem ent_29 : enters Try.prog 29 := Try.call29
theorem ent_30 : enters Try.prog 30 := Try.call30
theorem ent_31 : enters Try.prog 31 := Try.call31
theorem ent_32 : enters Try.prog 32 := Try.call32
theorem ent_33 : enters Try.prog 33 := Try.call33
theorem ent_34 : enters Try.prog 34 := Try.call34
theorem ent_35 : enters Try.prog 35 := Try.call35
theorem ent_36 : enters Try.prog 36 := Try.call36
theorem ent_37 : enters Try.prog 37 := Try.call37
theorem ent_38 : enters Try.prog 38 := Try.call38
theorem ent_39 : enters Try.prog 39 := Try.call39
theorem ent_40 : enters Try.prog 40 := Try.call40
theorem ent_41 : enters Try.prog 41 := Try.call41
theorem ent_42 : enters Try.prog 42 := Try.call42
theorem ent_43 : enters Try.prog 43 := Try.call43
theorem ent_44 : enters Try.prog 44 := Try.call44
theorem ent_45 : enters Try.prog 45 := Try.call45
theorem ent_46 : enters Try.prog 46 := Try.call46
theorem ent_47 : enters Try.prog 47 := Try.call47
theorem ent_48 : enters Try.prog 48 := Try.call48
theorem ent_49 : enters Try.prog 49 := Try.call49
theorem ent_50 : enters Try.prog 50 := Try.call50
theorem ent_51 : enters Try.prog 51 := Try.call51
theorem ent_52 : enters Try.prog 52 := Try.call52
theorem ent_53 : enters Try.prog 53 := Try.call53
theorem ent_54 : enters Try.prog 54 := Try.call54
theorem ent_55 : enters Try.prog 55 := Try.call55
theorem ent_56 : enters Try.prog 56 := Try.call56
theorem ent_57 : enters Try.prog 57 := Try.call57
theorem ent_58 : enters Try.prog 58 := Try.call58
theorem ent_59 : enters Try.prog 59 := Try.call59
theorem ent_60 : enters Try.prog 60 := Try.call60
theorem ent_61 : enters Try.prog 61 := Try.call61
theorem ent_62 : enters Try.prog 62 := Try.call62
theorem ent_63 : enters Try.prog 63 := Try.call63
theorem ent_64 : enters Try.prog 64 := Try.call64
theorem ent_65 : enters Try.prog 65 := Try.call65
theorem ent_66 : enters Try.prog 66 := Try.call66
theorem ent_67 : enters Try.prog 67 := Try.call67
theorem ent_68 : enters Try.prog 68 := Try.call68
theorem ent_69 : enters Try.prog 69 := Try.call69
theorem ent_70 : enters Try.prog 70 := Try.call70
theorem ent_71 : enters Try.prog 71 := Try.call71
theorem ent_72 : enters Try.prog 72 := Try.call72
theorem ent_73 : enters Try.prog 73 := Try.call73
theorem ent_74 : enters Try.prog 74 := Try.call74
theorem ent_75 : enters Try.prog 75 := Try.call75
theorem ent_76 : enters Try.prog 76 := Try.call76
theorem ent_77 : enters Try.prog 77 := Try.call77
theorem ent_78 : enters Try.prog 78 := Try.call78
theorem ent_79 : enters Try.prog 79 := Try.call79
theorem ent_80 : enters Try.prog 80 := Try.call80
theorem ent_81 : enters Try.prog 81 := Try.call81
theorem ent_82 : enters Try.prog 82 := Try.call82
theorem ent_83 : enters Try.prog 83 := Try.call83
theorem ent_84 : enters Try.prog 84 := Try.call84
attribute [go_sem] sz_1 ld_1 kd_2 sz_2 ld_2 zero_2 kd_3 sz_3 ld_3 zero_3 kd_4 sz_4 ld_4 zero_4 kd_5 sz_5 ld_5 zero_5 kd_9 sz_9 ld_9 zero_9 kd_12 sz_12 ld_12 zero_12 kd_21 sz_21 ld_21 zero_21 kd_22 sz_22 ld_22 zero_22 kd_23 sz_23 ld_23 zero_23 sz_24 ld_24 kd_25 sz_25 ld_25 zero_25 sz_27 ld_27 sz_28 ld_28 sz_29 ld_29 sz_30 ld_30 sz_32 ld_32 sz_33 ld_33 sz_35 ld_35 sz_36 ld_36 kd_37 sz_37 ld_37 zero_37 kd_38 sz_38 ld_38 zero_38 kd_39 sz_39 ld_39 zero_39 sz_41 ld_41 sz_42 ld_42 sz_43 ld_43 kd_44 sz_44 ld_44 zero_44 kd_45 sz_45 ld_45 zero_45 kd_46 sz_46 ld_46 zero_46 kd_47 sz_47 ld_47 kd_48 sz_48 ld_48 sz_49 ld_49 sz_50 ld_50 sz_52 ld_52 sz_53 ld_53 sz_54 ld_54 sz_56 ld_56 sz_57 ld_57 sz_58 ld_58 kd_59 sz_59 ld_59 zero_59 sz_60 ld_60 kd_61 sz_61 ld_61 zero_61 kd_62 sz_62 ld_62 zero_62 sz_63 ld_63 sz_64 ld_64 sz_65 ld_65 sz_66 ld_66 sz_67 ld_67 sz_69 ld_69 sz_70 ld_70 sz_72 ld_72 sz_73 ld_73 sz_74 ld_74 sz_75 ld_75 sz_76 ld_76 kd_77 sz_77 ld_77 zero_77 sz_78 ld_78 kd_79 sz_79 ld_79 zero_79 sz_82 ld_82 sz_83 ld_83 kd_84 sz_84 ld_84 zero_84 kd_85 sz_85 ld_85 zero_85 sz_87 ld_87 sz_88 ld_88 sz_89 ld_89 kd_90 sz_90 ld_90 zero_90 kd_91 sz_91 ld_91 lvs_91 zero_91 kd_92 sz_92 ld_92 lvs_92 zero_92 sz_93 ld_93 sz_94 ld_94 sz_95 ld_95 kd_96 sz_96 ld_96 zero_96 kd_97 sz_97 ld_97 lvs_97 zero_97 kd_98 sz_98 ld_98 lvs_98 zero_98 sz_99 ld_99 kd_100 sz_100 ld_100 zero_100 sz_101 ld_101 sz_102 ld_102 kd_103 sz_103 ld_103 zero_103 sz_104 ld_104 kd_113 sz_113 ld_113 zero_113 Try.results3 Try.results4 Try.results5 Try.results6 Try.results7 Try.results8 Try.results9 Try.results10 Try.results11 Try.results12 Try.results13 Try.results14 Try.results15 Try.results16 Try.results17 Try.results18 Try.results19 Try.results20 Try.results21 Try.results22 Try.results23 Try.results24 Try.results25 Try.results26 Try.results27 Try.results28 Try.results29 Try.results30 Try.results31 Try.results32 Try.results33 Try.results34 Try.results35 Try.results36 Try.results37 Try.results38 Try.results39 Try.results40 Try.results41 Try.results42 Try.results43 Try.results44 Try.results45 Try.results46 Try.results47 Try.results48 Try.results49 Try.results50 Try.results51 Try.results52 Try.results53 Try.results54 Try.results55 Try.results56 Try.results57 Try.results58 Try.results59 Try.results60 Try.results61 Try.results62 Try.results63 Try.results64 Try.results65 Try.results66 Try.results67 Try.results68 Try.results69 Try.results70 Try.results71 Try.results72 Try.results73 Try.results74 Try.results75 Try.results76 Try.results77 Try.results78 Try.results79 Try.results80 Try.results81 Try.results82 Try.results83 Try.results84
end H
end Go.Proofs.Ytldidoaagijnhaa
