/- What my walk asks of the types and the functions of this seat. Written by a program of mine (gen_types.py). -/
import Derived.Test.YtjcchmlideknpaaAgg
import Derived.Test.YtjcchmlideknpaaChecked
namespace Go.Proofs.Ytjcchmlideknpaa
namespace H
theorem kd_2 : kd Try.prog 2 = some (.int .i64) := by kernel_rfl
theorem sz_2 : szOf Try.prog 2 = some 1 := by kernel_rfl
theorem ld_2 : ldk Try.prog 2 = some none := by kernel_rfl
theorem zero_2 : zeroT Try.prog 2 = some (.int .i64 0) := by kernel_rfl
theorem kd_3 : kd Try.prog 3 = some (.int .i64) := by kernel_rfl
theorem sz_3 : szOf Try.prog 3 = some 1 := by kernel_rfl
theorem ld_3 : ldk Try.prog 3 = some none := by kernel_rfl
theorem zero_3 : zeroT Try.prog 3 = some (.int .i64 0) := by kernel_rfl
theorem kd_4 : kd Try.prog 4 = some (.bool) := by kernel_rfl
theorem sz_4 : szOf Try.prog 4 = some 1 := by kernel_rfl
theorem ld_4 : ldk Try.prog 4 = some none := by kernel_rfl
theorem zero_4 : zeroT Try.prog 4 = some (.bool false) := by kernel_rfl
theorem kd_5 : kd Try.prog 5 = some (.int .u8) := by kernel_rfl
theorem sz_5 : szOf Try.prog 5 = some 1 := by kernel_rfl
theorem ld_5 : ldk Try.prog 5 = some none := by kernel_rfl
theorem zero_5 : zeroT Try.prog 5 = some (.int .u8 0) := by kernel_rfl
theorem kd_9 : kd Try.prog 9 = some (.str) := by kernel_rfl
theorem sz_9 : szOf Try.prog 9 = some 1 := by kernel_rfl
theorem ld_9 : ldk Try.prog 9 = some none := by kernel_rfl
theorem zero_9 : zeroT Try.prog 9 = some (str []) := by kernel_rfl
theorem kd_12 : kd Try.prog 12 = some (.int .u64) := by kernel_rfl
theorem sz_12 : szOf Try.prog 12 = some 1 := by kernel_rfl
theorem ld_12 : ldk Try.prog 12 = some none := by kernel_rfl
theorem zero_12 : zeroT Try.prog 12 = some (.int .u64 0) := by kernel_rfl
theorem kd_21 : kd Try.prog 21 = some (.int .i32) := by kernel_rfl
theorem sz_21 : szOf Try.prog 21 = some 1 := by kernel_rfl
theorem ld_21 : ldk Try.prog 21 = some none := by kernel_rfl
theorem zero_21 : zeroT Try.prog 21 = some (.int .i32 0) := by kernel_rfl
theorem kd_22 : kd Try.prog 22 = some (.slice 46 5) := by kernel_rfl
theorem sz_22 : szOf Try.prog 22 = some 1 := by kernel_rfl
theorem ld_22 : ldk Try.prog 22 = some none := by kernel_rfl
theorem zero_22 : zeroT Try.prog 22 = some (.slice none 0 0) := by kernel_rfl
theorem kd_25 : kd Try.prog 25 = some (.int .i64) := by kernel_rfl
theorem sz_25 : szOf Try.prog 25 = some 1 := by kernel_rfl
theorem ld_25 : ldk Try.prog 25 = some none := by kernel_rfl
theorem zero_25 : zeroT Try.prog 25 = some (.int .i64 0) := by kernel_rfl
theorem kd_30 : kd Try.prog 30 = some (.slice 48 2) := by kernel_rfl
theorem sz_30 : szOf Try.prog 30 = some 1 := by kernel_rfl
theorem ld_30 : ldk Try.prog 30 = some none := by kernel_rfl
theorem zero_30 : zeroT Try.prog 30 = some (.slice none 0 0) := by kernel_rfl
theorem kd_31 : kd Try.prog 31 = some (.slice 5 1) := by kernel_rfl
theorem sz_31 : szOf Try.prog 31 = some 1 := by kernel_rfl
theorem ld_31 : ldk Try.prog 31 = some none := by kernel_rfl
theorem zero_31 : zeroT Try.prog 31 = some (.slice none 0 0) := by kernel_rfl
theorem kd_32 : kd Try.prog 32 = some (.slice 88 1) := by kernel_rfl
theorem sz_32 : szOf Try.prog 32 = some 1 := by kernel_rfl
theorem ld_32 : ldk Try.prog 32 = some none := by kernel_rfl
theorem zero_32 : zeroT Try.prog 32 = some (.slice none 0 0) := by kernel_rfl
theorem kd_33 : kd Try.prog 33 = some (.struct [(0, 1, false), (1, 1, false), (2, 1, false), (3, 1, false), (4, 1, false), (5, 1, false)]) := by kernel_rfl
theorem sz_33 : szOf Try.prog 33 = some 6 := by kernel_rfl
theorem ld_33 : ldk Try.prog 33 = some (some 6) := by kernel_rfl
theorem zero_33 : zeroT Try.prog 33 = some (.agg #[.slice none 0 0, str [], .slice none 0 0, .slice none 0 0, .bool false, .int .i64 0]) := by kernel_rfl
theorem kd_34 : kd Try.prog 34 = some (.struct [(0, 1, false), (1, 1, false), (2, 1, false), (3, 1, false), (4, 1, false), (5, 1, false)]) := by kernel_rfl
theorem sz_34 : szOf Try.prog 34 = some 6 := by kernel_rfl
theorem ld_34 : ldk Try.prog 34 = some (some 6) := by kernel_rfl
theorem zero_34 : zeroT Try.prog 34 = some (.agg #[.slice none 0 0, str [], .slice none 0 0, .slice none 0 0, .bool false, .int .i64 0]) := by kernel_rfl
theorem kd_35 : kd Try.prog 35 = some (.slice 56 3) := by kernel_rfl
theorem sz_35 : szOf Try.prog 35 = some 1 := by kernel_rfl
theorem ld_35 : ldk Try.prog 35 = some none := by kernel_rfl
theorem zero_35 : zeroT Try.prog 35 = some (.slice none 0 0) := by kernel_rfl
theorem kd_40 : kd Try.prog 40 = some (.slice 57 2) := by kernel_rfl
theorem sz_40 : szOf Try.prog 40 = some 1 := by kernel_rfl
theorem ld_40 : ldk Try.prog 40 = some none := by kernel_rfl
theorem zero_40 : zeroT Try.prog 40 = some (.slice none 0 0) := by kernel_rfl
theorem kd_45 : kd Try.prog 45 = some (.struct [(0, 1, false), (1, 1, false), (2, 1, false), (3, 1, false), (4, 1, false)]) := by kernel_rfl
theorem sz_45 : szOf Try.prog 45 = some 5 := by kernel_rfl
theorem ld_45 : ldk Try.prog 45 = some (some 5) := by kernel_rfl
theorem lvs_45 : leaves Try.prog 45 = some [.int .i64, .int .i64, .int .i64, .int .i64, .str] := by kernel_rfl
theorem zero_45 : zeroT Try.prog 45 = some (.agg #[.int .i64 0, .int .i64 0, .int .i64 0, .int .i64 0, str []]) := by kernel_rfl
theorem kd_46 : kd Try.prog 46 = some (.struct [(0, 1, false), (1, 1, false), (2, 1, false), (3, 1, false), (4, 1, false)]) := by kernel_rfl
theorem sz_46 : szOf Try.prog 46 = some 5 := by kernel_rfl
theorem ld_46 : ldk Try.prog 46 = some (some 5) := by kernel_rfl
theorem lvs_46 : leaves Try.prog 46 = some [.int .i64, .int .i64, .int .i64, .int .i64, .str] := by kernel_rfl
theorem zero_46 : zeroT Try.prog 46 = some (.agg #[.int .i64 0, .int .i64 0, .int .i64 0, .int .i64 0, str []]) := by kernel_rfl
theorem kd_47 : kd Try.prog 47 = some (.struct [(0, 1, false), (1, 1, false)]) := by kernel_rfl
theorem sz_47 : szOf Try.prog 47 = some 2 := by kernel_rfl
theorem ld_47 : ldk Try.prog 47 = some (some 2) := by kernel_rfl
theorem lvs_47 : leaves Try.prog 47 = some [.int .i64, .int .i64] := by kernel_rfl
theorem zero_47 : zeroT Try.prog 47 = some (.agg #[.int .i64 0, .int .i64 0]) := by kernel_rfl
theorem kd_48 : kd Try.prog 48 = some (.struct [(0, 1, false), (1, 1, false)]) := by kernel_rfl
theorem sz_48 : szOf Try.prog 48 = some 2 := by kernel_rfl
theorem ld_48 : ldk Try.prog 48 = some (some 2) := by kernel_rfl
theorem lvs_48 : leaves Try.prog 48 = some [.int .i64, .int .i64] := by kernel_rfl
theorem zero_48 : zeroT Try.prog 48 = some (.agg #[.int .i64 0, .int .i64 0]) := by kernel_rfl
theorem kd_50 : kd Try.prog 50 = some (.int .u32) := by kernel_rfl
theorem sz_50 : szOf Try.prog 50 = some 1 := by kernel_rfl
theorem ld_50 : ldk Try.prog 50 = some none := by kernel_rfl
theorem zero_50 : zeroT Try.prog 50 = some (.int .u32 0) := by kernel_rfl
theorem kd_55 : kd Try.prog 55 = some (.struct [(0, 1, false), (1, 1, false), (2, 1, false)]) := by kernel_rfl
theorem sz_55 : szOf Try.prog 55 = some 3 := by kernel_rfl
theorem ld_55 : ldk Try.prog 55 = some (some 3) := by kernel_rfl
theorem lvs_55 : leaves Try.prog 55 = some [.int .i64, .int .i64, .int .i64] := by kernel_rfl
theorem zero_55 : zeroT Try.prog 55 = some (.agg #[.int .i64 0, .int .i64 0, .int .i64 0]) := by kernel_rfl
theorem kd_56 : kd Try.prog 56 = some (.struct [(0, 1, false), (1, 1, false), (2, 1, false)]) := by kernel_rfl
theorem sz_56 : szOf Try.prog 56 = some 3 := by kernel_rfl
theorem ld_56 : ldk Try.prog 56 = some (some 3) := by kernel_rfl
theorem lvs_56 : leaves Try.prog 56 = some [.int .i64, .int .i64, .int .i64] := by kernel_rfl
theorem zero_56 : zeroT Try.prog 56 = some (.agg #[.int .i64 0, .int .i64 0, .int .i64 0]) := by kernel_rfl
theorem kd_57 : kd Try.prog 57 = some (.struct [(0, 1, false), (1, 1, false)]) := by kernel_rfl
theorem sz_57 : szOf Try.prog 57 = some 2 := by kernel_rfl
theorem ld_57 : ldk Try.prog 57 = some (some 2) := by kernel_rfl
theorem lvs_57 : leaves Try.prog 57 = some [.int .i64, .int .i64] := by kernel_rfl
theorem zero_57 : zeroT Try.prog 57 = some (.agg #[.int .i64 0, .int .i64 0]) := by kernel_rfl
theorem kd_80 : kd Try.prog 80 = some (.ptr 82) := by kernel_rfl
theorem sz_80 : szOf Try.prog 80 = some 1 := by kernel_rfl
theorem ld_80 : ldk Try.prog 80 = some none := by kernel_rfl
theorem zero_80 : zeroT Try.prog 80 = some (.pointer none) := by kernel_rfl
theorem kd_81 : kd Try.prog 81 = some (.struct [(0, 1, false), (1, 1, false), (2, 1, false)]) := by kernel_rfl
theorem sz_81 : szOf Try.prog 81 = some 3 := by kernel_rfl
theorem ld_81 : ldk Try.prog 81 = some (some 3) := by kernel_rfl
theorem lvs_81 : leaves Try.prog 81 = some [.str, .int .i64, .bool] := by kernel_rfl
theorem zero_81 : zeroT Try.prog 81 = some (.agg #[str [], .int .i64 0, .bool false]) := by kernel_rfl
theorem kd_82 : kd Try.prog 82 = some (.struct [(0, 1, false), (1, 1, false), (2, 1, false)]) := by kernel_rfl
theorem sz_82 : szOf Try.prog 82 = some 3 := by kernel_rfl
theorem ld_82 : ldk Try.prog 82 = some (some 3) := by kernel_rfl
theorem lvs_82 : leaves Try.prog 82 = some [.str, .int .i64, .bool] := by kernel_rfl
theorem zero_82 : zeroT Try.prog 82 = some (.agg #[str [], .int .i64 0, .bool false]) := by kernel_rfl
theorem kd_86 : kd Try.prog 86 = some (.slice 3 1) := by kernel_rfl
theorem sz_86 : szOf Try.prog 86 = some 1 := by kernel_rfl
theorem ld_86 : ldk Try.prog 86 = some none := by kernel_rfl
theorem zero_86 : zeroT Try.prog 86 = some (.slice none 0 0) := by kernel_rfl
theorem kd_88 : kd Try.prog 88 = some (.int .i8) := by kernel_rfl
theorem sz_88 : szOf Try.prog 88 = some 1 := by kernel_rfl
theorem ld_88 : ldk Try.prog 88 = some none := by kernel_rfl
theorem zero_88 : zeroT Try.prog 88 = some (.int .i8 0) := by kernel_rfl
theorem kd_94 : kd Try.prog 94 = some (.int .u64) := by kernel_rfl
theorem sz_94 : szOf Try.prog 94 = some 1 := by kernel_rfl
theorem ld_94 : ldk Try.prog 94 = some none := by kernel_rfl
theorem zero_94 : zeroT Try.prog 94 = some (.int .u64 0) := by kernel_rfl
theorem kd_95 : kd Try.prog 95 = some (.int .u64) := by kernel_rfl
theorem sz_95 : szOf Try.prog 95 = some 1 := by kernel_rfl
theorem ld_95 : ldk Try.prog 95 = some none := by kernel_rfl
theorem zero_95 : zeroT Try.prog 95 = some (.int .u64 0) := by kernel_rfl
theorem kd_97 : kd Try.prog 97 = some (.arr 256 50 1 false) := by kernel_rfl
theorem sz_97 : szOf Try.prog 97 = some 256 := by kernel_rfl
theorem ld_97 : ldk Try.prog 97 = some (some 256) := by kernel_rfl
theorem zero_97 : zeroT Try.prog 97 = some (.agg (Array.replicate 256 (.int .u32 0))) := by kernel_rfl
theorem kd_100 : kd Try.prog 100 = some (.ptr 97) := by kernel_rfl
theorem sz_100 : szOf Try.prog 100 = some 1 := by kernel_rfl
theorem ld_100 : ldk Try.prog 100 = some none := by kernel_rfl
theorem zero_100 : zeroT Try.prog 100 = some (.pointer none) := by kernel_rfl
theorem kd_110 : kd Try.prog 110 = some (.ptr 5) := by kernel_rfl
theorem sz_110 : szOf Try.prog 110 = some 1 := by kernel_rfl
theorem ld_110 : ldk Try.prog 110 = some none := by kernel_rfl
theorem zero_110 : zeroT Try.prog 110 = some (.pointer none) := by kernel_rfl
theorem ent_3 : enters Try.prog 3 := Try.call3
theorem ent_4 : enters Try.prog 4 := Try.call4
theorem ent_5 : enters Try.prog 5 := Try.call5
theorem ent_6 : enters Try.prog 6 := Try.call6
theorem ent_7 : enters Try.prog 7 := Try.call7
theorem ent_8 : enters Try.prog 8 := Try.call8
theorem ent_9 : enters Try.prog 9 := Try.call9
theorem ent_10 : enters Try.prog 10 := Try.call10
theorem ent_11 : enters Try.prog 11 := Try.call11
theorem ent_12 : enters Try.prog 12 := Try.call12
theorem ent_13 : enters Try.prog 13 := Try.call13
theorem ent_14 : enters Try.prog 14 := Try.call14
theorem ent_15 : enters Try.prog 15 := Try.call15
theorem ent_16 : enters Try.prog 16 := Try.call16
theorem ent_17 : enters Try.prog 17 := Try.call17
theorem ent_18 : enters Try.prog 18 := Try.call18
theorem ent_19 : enters Try.prog 19 := Try.call19
theorem ent_20 : enters Try.prog 20 := Try.call20
theorem ent_21 : enters Try.prog 21 := Try.call21
theorem ent_22 : enters Try.prog 22 := Try.call22
theorem ent_23 : enters Try.prog 23 := Try.call23
theorem ent_24 : enters Try.prog 24 := Try.call24
theorem ent_25 : enters Try.prog 25 := Try.call25
theorem ent_26 : enters Try.prog 26 := Try.call26
theorem ent_27 : enters Try.prog 27 := Try.call27
theorem ent_28 : enters Try.prog 28 := Try.call28
theorem ent_29 : enters Try.prog 29 := Try.call29
theorem ent_30 : enters Try.prog 30 := Try.call30
theorem ent_31 : enters Try.prog 31 := Try.call31
theorem ent_32 : enters Try.prog 32 := Try.call32
theorem ent_33 : enters Try.prog 33 := Try.call33
theorem ent_34 : enters Try.prog 34 := Try.call34
theorem ent_35 : enters Try.prog 35 := Try.call35
theorem ent_36 : enters Try.prog 36 := Try.call36
theorem ent_37 : enters Try.prog 37 := Try.call37
theorem ent_38 : enters Try.prog 38 := Try.call38
theorem ent_39 : enters Try.prog 39 := Try.call39
theorem ent_40 : enters Try.prog 40 := Try.call40
theorem ent_41 : enters Try.prog 41 := Try.call41
theorem ent_42 : enters Try.prog 42 := Try.call42
theorem ent_43 : enters Try.prog 43 := Try.call43
theorem ent_44 : enters Try.prog 44 := Try.call44
theorem ent_45 : enters Try.prog 45 := Try.call45
theorem ent_46 : enters Try.prog 46 := Try.call46
theorem ent_47 : enters Try.prog 47 := Try.call47
theorem ent_48 : enters Try.prog 48 := Try.call48
theorem ent_49 : enters Try.prog 49 := Try.call49
theorem ent_50 : enters Try.prog 50 := Try.call50
theorem ent_51 : enters Try.prog 51 := Try.call51
theorem ent_52 : enters Try.prog 52 := Try.call52
theorem ent_53 : enters Try.prog 53 := Try.call53
theorem ent_54 : enters Try.prog 54 := Try.call54
theorem ent_55 : enters Try.prog 55 := Try.call55
theorem ent_56 : enters Try.prog 56 := Try.call56
theorem ent_57 : enters Try.prog 57 := Try.call57
theorem ent_58 : enters Try.prog 58 := Try.call58
theorem ent_59 : enters Try.prog 59 := Try.call59
theorem ent_60 : enters Try.prog 60 := Try.call60
theorem ent_61 : enters Try.prog 61 := Try.call61
theorem ent_62 : enters Try.prog 62 := Try.call62
theorem ent_63 : enters Try.prog 63 := Try.call63
theorem ent_64 : enters Try.prog 64 := Try.call64
theorem ent_65 : enters Try.prog 65 := Try.call65
theorem ent_66 : enters Try.prog 66 := Try.call66
theorem ent_67 : enters Try.prog 67 := Try.call67
attribute [go_sem] kd_2 sz_2 ld_2 zero_2 kd_3 sz_3 ld_3 zero_3 kd_4 sz_4 ld_4 zero_4 kd_5 sz_5 ld_5 zero_5 kd_9 sz_9 ld_9 zero_9 kd_12 sz_12 ld_12 zero_12 kd_21 sz_21 ld_21 zero_21 kd_22 sz_22 ld_22 zero_22 kd_25 sz_25 ld_25 zero_25 kd_30 sz_30 ld_30 zero_30 kd_31 sz_31 ld_31 zero_31 kd_32 sz_32 ld_32 zero_32 kd_33 sz_33 ld_33 zero_33 kd_34 sz_34 ld_34 zero_34 kd_35 sz_35 ld_35 zero_35 kd_40 sz_40 ld_40 zero_40 kd_45 sz_45 ld_45 lvs_45 zero_45 kd_46 sz_46 ld_46 lvs_46 zero_46 kd_47 sz_47 ld_47 lvs_47 zero_47 kd_48 sz_48 ld_48 lvs_48 zero_48 kd_50 sz_50 ld_50 zero_50 kd_55 sz_55 ld_55 lvs_55 zero_55 kd_56 sz_56 ld_56 lvs_56 zero_56 kd_57 sz_57 ld_57 lvs_57 zero_57 kd_80 sz_80 ld_80 zero_80 kd_81 sz_81 ld_81 lvs_81 zero_81 kd_82 sz_82 ld_82 lvs_82 zero_82 kd_86 sz_86 ld_86 zero_86 kd_88 sz_88 ld_88 zero_88 kd_94 sz_94 ld_94 zero_94 kd_95 sz_95 ld_95 zero_95 kd_97 sz_97 ld_97 zero_97 kd_100 sz_100 ld_100 zero_100 kd_110 sz_110 ld_110 zero_110 Try.results3 Try.results4 Try.results5 Try.results6 Try.results7 Try.results8 Try.results9 Try.results10 Try.results11 Try.results12 Try.results13 Try.results14 Try.results15 Try.results16 Try.results17 Try.results18 Try.results19 Try.results20 Try.results21 Try.results22 Try.results23 Try.results24 Try.results25 Try.results26 Try.results27 Try.results28 Try.results29 Try.results30 Try.results31 Try.results32 Try.results33 Try.results34 Try.results35 Try.results36 Try.results37 Try.results38 Try.results39 Try.results40 Try.results41 Try.results42 Try.results43 Try.results44 Try.results45 Try.results46 Try.results47 Try.results48 Try.results49 Try.results50 Try.results51 Try.results52 Try.results53 Try.results54 Try.results55 Try.results56 Try.results57 Try.results58 Try.results59 Try.results60 Try.results61 Try.results62 Try.results63 Try.results64 Try.results65 Try.results66 Try.results67
end H
end Go.Proofs.Ytjcchmlideknpaa
