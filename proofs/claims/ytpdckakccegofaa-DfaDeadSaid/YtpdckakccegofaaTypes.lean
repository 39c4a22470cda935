/- What my walk asks of the types and the functions of this seat. Written by a program of mine (gen_types.py). -/
import Derived.Test.YtpdckakccegofaaAgg
import Derived.Test.YtpdckakccegofaaChecked
namespace Go.Proofs.Ytpdckakccegofaa
namespace H
theorem kd_2 : kd Try.prog 2 = some (.int .i64) := by kernel_rfl
theorem sz_2 : szOf Try.prog 2 = some 1 := by kernel_rfl
theorem ld_2 : ldk Try.prog 2 = some none := by kernel_rfl
theorem zero_2 : zeroT Try.prog 2 = some (.int .i64 0) := by kernel_rfl
theorem kd_3 : kd Try.prog 3 = some (.int .i64) := by kernel_rfl
theorem sz_3 : szOf Try.prog 3 = some 1 := by kernel_rfl
theorem ld_3 : ldk Try.prog 3 = some none := by kernel_rfl
theorem zero_3 : zeroT Try.prog 3 = some (.int .i64 0) := by kernel_rfl
theorem kd_4 : kd Try.prog 4 = some (.bool) := by kernel_rfl
theorem sz_4 : szOf Try.prog 4 = some 1 := by kernel_rfl
theorem ld_4 : ldk Try.prog 4 = some none := by kernel_rfl
theorem zero_4 : zeroT Try.prog 4 = some (.bool false) := by kernel_rfl
theorem kd_5 : kd Try.prog 5 = some (.int .u8) := by kernel_rfl
theorem sz_5 : szOf Try.prog 5 = some 1 := by kernel_rfl
theorem ld_5 : ldk Try.prog 5 = some none := by kernel_rfl
theorem zero_5 : zeroT Try.prog 5 = some (.int .u8 0) := by kernel_rfl
theorem kd_9 : kd Try.prog 9 = some (.str) := by kernel_rfl
theorem sz_9 : szOf Try.prog 9 = some 1 := by kernel_rfl
theorem ld_9 : ldk Try.prog 9 = some none := by kernel_rfl
theorem zero_9 : zeroT Try.prog 9 = some (str []) := by kernel_rfl
theorem kd_12 : kd Try.prog 12 = some (.int .u64) := by kernel_rfl
theorem sz_12 : szOf Try.prog 12 = some 1 := by kernel_rfl
theorem ld_12 : ldk Try.prog 12 = some none := by kernel_rfl
theorem zero_12 : zeroT Try.prog 12 = some (.int .u64 0) := by kernel_rfl
theorem kd_21 : kd Try.prog 21 = some (.int .i32) := by kernel_rfl
theorem sz_21 : szOf Try.prog 21 = some 1 := by kernel_rfl
theorem ld_21 : ldk Try.prog 21 = some none := by kernel_rfl
theorem zero_21 : zeroT Try.prog 21 = some (.int .i32 0) := by kernel_rfl
theorem kd_22 : kd Try.prog 22 = some (.slice 33 3) := by kernel_rfl
theorem sz_22 : szOf Try.prog 22 = some 1 := by kernel_rfl
theorem ld_22 : ldk Try.prog 22 = some none := by kernel_rfl
theorem zero_22 : zeroT Try.prog 22 = some (.slice none 0 0) := by kernel_rfl
theorem kd_24 : kd Try.prog 24 = some (.int .i64) := by kernel_rfl
theorem sz_24 : szOf Try.prog 24 = some 1 := by kernel_rfl
theorem ld_24 : ldk Try.prog 24 = some none := by kernel_rfl
theorem zero_24 : zeroT Try.prog 24 = some (.int .i64 0) := by kernel_rfl
theorem kd_27 : kd Try.prog 27 = some (.slice 5 1) := by kernel_rfl
theorem sz_27 : szOf Try.prog 27 = some 1 := by kernel_rfl
theorem ld_27 : ldk Try.prog 27 = some none := by kernel_rfl
theorem zero_27 : zeroT Try.prog 27 = some (.slice none 0 0) := by kernel_rfl
theorem kd_28 : kd Try.prog 28 = some (.slice 61 1) := by kernel_rfl
theorem sz_28 : szOf Try.prog 28 = some 1 := by kernel_rfl
theorem ld_28 : ldk Try.prog 28 = some none := by kernel_rfl
theorem zero_28 : zeroT Try.prog 28 = some (.slice none 0 0) := by kernel_rfl
theorem kd_29 : kd Try.prog 29 = some (.struct [(0, 1, false), (1, 1, false), (2, 1, false), (3, 1, false), (4, 1, false)]) := by kernel_rfl
theorem sz_29 : szOf Try.prog 29 = some 5 := by kernel_rfl
theorem ld_29 : ldk Try.prog 29 = some (some 5) := by kernel_rfl
theorem zero_29 : zeroT Try.prog 29 = some (.agg #[.slice none 0 0, .slice none 0 0, .int .i64 0, .int .i64 0, .int .i64 0]) := by kernel_rfl
theorem kd_30 : kd Try.prog 30 = some (.struct [(0, 1, false), (1, 1, false), (2, 1, false), (3, 1, false), (4, 1, false)]) := by kernel_rfl
theorem sz_30 : szOf Try.prog 30 = some 5 := by kernel_rfl
theorem ld_30 : ldk Try.prog 30 = some (some 5) := by kernel_rfl
theorem zero_30 : zeroT Try.prog 30 = some (.agg #[.slice none 0 0, .slice none 0 0, .int .i64 0, .int .i64 0, .int .i64 0]) := by kernel_rfl
theorem kd_32 : kd Try.prog 32 = some (.struct [(0, 1, false), (1, 1, false), (2, 1, false)]) := by kernel_rfl
theorem sz_32 : szOf Try.prog 32 = some 3 := by kernel_rfl
theorem ld_32 : ldk Try.prog 32 = some (some 3) := by kernel_rfl
theorem lvs_32 : leaves Try.prog 32 = some [.int .i64, .int .i64, .int .i64] := by kernel_rfl
theorem zero_32 : zeroT Try.prog 32 = some (.agg #[.int .i64 0, .int .i64 0, .int .i64 0]) := by kernel_rfl
theorem kd_33 : kd Try.prog 33 = some (.struct [(0, 1, false), (1, 1, false), (2, 1, false)]) := by kernel_rfl
theorem sz_33 : szOf Try.prog 33 = some 3 := by kernel_rfl
theorem ld_33 : ldk Try.prog 33 = some (some 3) := by kernel_rfl
theorem lvs_33 : leaves Try.prog 33 = some [.int .i64, .int .i64, .int .i64] := by kernel_rfl
theorem zero_33 : zeroT Try.prog 33 = some (.agg #[.int .i64 0, .int .i64 0, .int .i64 0]) := by kernel_rfl
theorem kd_44 : kd Try.prog 44 = some (.arr 256 3 1 false) := by kernel_rfl
theorem sz_44 : szOf Try.prog 44 = some 256 := by kernel_rfl
theorem ld_44 : ldk Try.prog 44 = some (some 256) := by kernel_rfl
theorem zero_44 : zeroT Try.prog 44 = some (.agg (Array.replicate 256 (.int .i64 0))) := by kernel_rfl
theorem kd_45 : kd Try.prog 45 = some (.slice 46 1) := by kernel_rfl
theorem sz_45 : szOf Try.prog 45 = some 1 := by kernel_rfl
theorem ld_45 : ldk Try.prog 45 = some none := by kernel_rfl
theorem zero_45 : zeroT Try.prog 45 = some (.slice none 0 0) := by kernel_rfl
theorem kd_46 : kd Try.prog 46 = some (.slice 3 1) := by kernel_rfl
theorem sz_46 : szOf Try.prog 46 = some 1 := by kernel_rfl
theorem ld_46 : ldk Try.prog 46 = some none := by kernel_rfl
theorem zero_46 : zeroT Try.prog 46 = some (.slice none 0 0) := by kernel_rfl
theorem kd_47 : kd Try.prog 47 = some (.struct [(0, 256, true), (256, 1, false), (257, 1, false)]) := by kernel_rfl
theorem sz_47 : szOf Try.prog 47 = some 258 := by kernel_rfl
theorem ld_47 : ldk Try.prog 47 = some (some 258) := by kernel_rfl
theorem zero_47 : zeroT Try.prog 47 = some (.agg (Array.replicate 256 (.int .i64 0) ++ #[.slice none 0 0, .slice none 0 0])) := by kernel_rfl
theorem kd_48 : kd Try.prog 48 = some (.struct [(0, 256, true), (256, 1, false), (257, 1, false)]) := by kernel_rfl
theorem sz_48 : szOf Try.prog 48 = some 258 := by kernel_rfl
theorem ld_48 : ldk Try.prog 48 = some (some 258) := by kernel_rfl
theorem zero_48 : zeroT Try.prog 48 = some (.agg (Array.replicate 256 (.int .i64 0) ++ #[.slice none 0 0, .slice none 0 0])) := by kernel_rfl
theorem kd_54 : kd Try.prog 54 = some (.slice 4 1) := by kernel_rfl
theorem sz_54 : szOf Try.prog 54 = some 1 := by kernel_rfl
theorem ld_54 : ldk Try.prog 54 = some none := by kernel_rfl
theorem zero_54 : zeroT Try.prog 54 = some (.slice none 0 0) := by kernel_rfl
theorem kd_61 : kd Try.prog 61 = some (.int .i8) := by kernel_rfl
theorem sz_61 : szOf Try.prog 61 = some 1 := by kernel_rfl
theorem ld_61 : ldk Try.prog 61 = some none := by kernel_rfl
theorem zero_61 : zeroT Try.prog 61 = some (.int .i8 0) := by kernel_rfl
theorem kd_73 : kd Try.prog 73 = some (.int .u32) := by kernel_rfl
theorem sz_73 : szOf Try.prog 73 = some 1 := by kernel_rfl
theorem ld_73 : ldk Try.prog 73 = some none := by kernel_rfl
theorem zero_73 : zeroT Try.prog 73 = some (.int .u32 0) := by kernel_rfl
theorem kd_77 : kd Try.prog 77 = some (.ptr 5) := by kernel_rfl
theorem sz_77 : szOf Try.prog 77 = some 1 := by kernel_rfl
theorem ld_77 : ldk Try.prog 77 = some none := by kernel_rfl
theorem zero_77 : zeroT Try.prog 77 = some (.pointer none) := by kernel_rfl
theorem ent_3 : enters Try.prog 3 := Try.call3
theorem ent_4 : enters Try.prog 4 := Try.call4
theorem ent_5 : enters Try.prog 5 := Try.call5
theorem ent_6 : enters Try.prog 6 := Try.call6
theorem ent_7 : enters Try.prog 7 := Try.call7
theorem ent_8 : enters Try.prog 8 := Try.call8
theorem ent_9 : enters Try.prog 9 := Try.call9
theorem ent_10 : enters Try.prog 10 := Try.call10
theorem ent_11 : enters Try.prog 11 := Try.call11
theorem ent_12 : enters Try.prog 12 := Try.call12
theorem ent_13 : enters Try.prog 13 := Try.call13
theorem ent_14 : enters Try.prog 14 := Try.call14
theorem ent_15 : enters Try.prog 15 := Try.call15
theorem ent_16 : enters Try.prog 16 := Try.call16
theorem ent_17 : enters Try.prog 17 := Try.call17
theorem ent_18 : enters Try.prog 18 := Try.call18
theorem ent_19 : enters Try.prog 19 := Try.call19
theorem ent_20 : enters Try.prog 20 := Try.call20
theorem ent_21 : enters Try.prog 21 := Try.call21
theorem ent_22 : enters Try.prog 22 := Try.call22
theorem ent_23 : enters Try.prog 23 := Try.call23
theorem ent_24 : enters Try.prog 24 := Try.call24
theorem ent_25 : enters Try.prog 25 := Try.call25
theorem ent_26 : enters Try.prog 26 := Try.call26
theorem ent_27 : enters Try.prog 27 := Try.call27
theorem ent_28 : enters Try.prog 28 := Try.call28
theorem ent_29 : enters Try.prog 29 := Try.call29
theorem ent_30 : enters Try.prog 30 := Try.call30
theorem ent_31 : enters Try.prog 31 := Try.call31
theorem ent_32 : enters Try.prog 32 := Try.call32
theorem ent_33 : enters Try.prog 33 := Try.call33
theorem ent_34 : enters Try.prog 34 := Try.call34
theorem ent_35 : enters Try.prog 35 := Try.call35
theorem ent_36 : enters Try.prog 36 := Try.call36
theorem ent_37 : enters Try.prog 37 := Try.call37
theorem ent_38 : enters Try.prog 38 := Try.call38
theorem ent_39 : enters Try.prog 39 := Try.call39
theorem ent_40 : enters Try.prog 40 := Try.call40
theorem ent_41 : enters Try.prog 41 := Try.call41
theorem ent_42 : enters Try.prog 42 := Try.call42
theorem ent_43 : enters Try.prog 43 := Try.call43
theorem ent_44 : enters Try.prog 44 := Try.call44
theorem ent_45 : enters Try.prog 45 := Try.call45
theorem ent_46 : enters Try.prog 46 := Try.call46
theorem ent_47 : enters Try.prog 47 := Try.call47
theorem ent_48 : enters Try.prog 48 := Try.call48
theorem ent_49 : enters Try.prog 49 := Try.call49
theorem ent_50 : enters Try.prog 50 := Try.call50
attribute [go_sem] kd_2 sz_2 ld_2 zero_2 kd_3 sz_3 ld_3 zero_3 kd_4 sz_4 ld_4 zero_4 kd_5 sz_5 ld_5 zero_5 kd_9 sz_9 ld_9 zero_9 kd_12 sz_12 ld_12 zero_12 kd_21 sz_21 ld_21 zero_21 kd_22 sz_22 ld_22 zero_22 kd_24 sz_24 ld_24 zero_24 kd_27 sz_27 ld_27 zero_27 kd_28 sz_28 ld_28 zero_28 kd_29 sz_29 ld_29 zero_29 kd_30 sz_30 ld_30 zero_30 kd_32 sz_32 ld_32 lvs_32 zero_32 kd_33 sz_33 ld_33 lvs_33 zero_33 kd_44 sz_44 ld_44 zero_44 kd_45 sz_45 ld_45 zero_45 kd_46 sz_46 ld_46 zero_46 kd_47 sz_47 ld_47 kd_48 sz_48 ld_48 kd_54 sz_54 ld_54 zero_54 kd_61 sz_61 ld_61 zero_61 kd_73 sz_73 ld_73 zero_73 kd_77 sz_77 ld_77 zero_77 Try.results3 Try.results4 Try.results5 Try.results6 Try.results7 Try.results8 Try.results9 Try.results10 Try.results11 Try.results12 Try.results13 Try.results14 Try.results15 Try.results16 Try.results17 Try.results18 Try.results19 Try.results20 Try.results21 Try.results22 Try.results23 Try.results24 Try.results25 Try.results26 Try.results27 Try.results28 Try.results29 Try.results30 Try.results31 Try.results32 Try.results33 Try.results34 Try.results35 Try.results36 Try.results37 Try.results38 Try.results39 Try.results40 Try.results41 Try.results42 Try.results43 Try.results44 Try.results45 Try.results46 Try.results47 Try.results48 Try.results49 Try.results50
end H
end Go.Proofs.Ytpdckakccegofaa
