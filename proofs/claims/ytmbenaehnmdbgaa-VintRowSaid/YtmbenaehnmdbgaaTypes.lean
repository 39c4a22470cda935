/- What my walk asks of the types and the functions of this seat. Written by a program of mine (gen_types.py). -/
import Derived.Test.YtmbenaehnmdbgaaEval
import Derived.Test.YtmbenaehnmdbgaaChecked
namespace Go.Proofs.Ytmbenaehnmdbgaa
namespace H
theorem kd_2 : kd Try.prog 2 = some (.int .i64) := by kernel_rfl
theorem sz_2 : szOf Try.prog 2 = some 1 := by kernel_rfl
theorem ld_2 : ldk Try.prog 2 = some none := by kernel_rfl
theorem zero_2 : zeroT Try.prog 2 = some (.int .i64 0) := by kernel_rfl
theorem kd_3 : kd Try.prog 3 = some (.int .i64) := by kernel_rfl
theorem sz_3 : szOf Try.prog 3 = some 1 := by kernel_rfl
theorem ld_3 : ldk Try.prog 3 = some none := by kernel_rfl
theorem zero_3 : zeroT Try.prog 3 = some (.int .i64 0) := by kernel_rfl
theorem kd_4 : kd Try.prog 4 = some (.bool) := by kernel_rfl
theorem sz_4 : szOf Try.prog 4 = some 1 := by kernel_rfl
theorem ld_4 : ldk Try.prog 4 = some none := by kernel_rfl
theorem zero_4 : zeroT Try.prog 4 = some (.bool false) := by kernel_rfl
theorem kd_5 : kd Try.prog 5 = some (.int .u8) := by kernel_rfl
theorem sz_5 : szOf Try.prog 5 = some 1 := by kernel_rfl
theorem ld_5 : ldk Try.prog 5 = some none := by kernel_rfl
theorem zero_5 : zeroT Try.prog 5 = some (.int .u8 0) := by kernel_rfl
theorem kd_9 : kd Try.prog 9 = some (.str) := by kernel_rfl
theorem sz_9 : szOf Try.prog 9 = some 1 := by kernel_rfl
theorem ld_9 : ldk Try.prog 9 = some none := by kernel_rfl
theorem zero_9 : zeroT Try.prog 9 = some (str []) := by kernel_rfl
theorem kd_12 : kd Try.prog 12 = some (.int .u64) := by kernel_rfl
theorem sz_12 : szOf Try.prog 12 = some 1 := by kernel_rfl
theorem ld_12 : ldk Try.prog 12 = some none := by kernel_rfl
theorem zero_12 : zeroT Try.prog 12 = some (.int .u64 0) := by kernel_rfl
theorem kd_21 : kd Try.prog 21 = some (.int .i32) := by kernel_rfl
theorem sz_21 : szOf Try.prog 21 = some 1 := by kernel_rfl
theorem ld_21 : ldk Try.prog 21 = some none := by kernel_rfl
theorem zero_21 : zeroT Try.prog 21 = some (.int .i32 0) := by kernel_rfl
theorem kd_22 : kd Try.prog 22 = some (.int .u32) := by kernel_rfl
theorem sz_22 : szOf Try.prog 22 = some 1 := by kernel_rfl
theorem ld_22 : ldk Try.prog 22 = some none := by kernel_rfl
theorem zero_22 : zeroT Try.prog 22 = some (.int .u32 0) := by kernel_rfl
theorem kd_29 : kd Try.prog 29 = some (.slice 5 1) := by kernel_rfl
theorem sz_29 : szOf Try.prog 29 = some 1 := by kernel_rfl
theorem ld_29 : ldk Try.prog 29 = some none := by kernel_rfl
theorem zero_29 : zeroT Try.prog 29 = some (.slice none 0 0) := by kernel_rfl
theorem kd_30 : kd Try.prog 30 = some (.int .u64) := by kernel_rfl
theorem sz_30 : szOf Try.prog 30 = some 1 := by kernel_rfl
theorem ld_30 : ldk Try.prog 30 = some none := by kernel_rfl
theorem zero_30 : zeroT Try.prog 30 = some (.int .u64 0) := by kernel_rfl
theorem kd_33 : kd Try.prog 33 = some (.arr 256 22 1 false) := by kernel_rfl
theorem sz_33 : szOf Try.prog 33 = some 256 := by kernel_rfl
theorem ld_33 : ldk Try.prog 33 = some (some 256) := by kernel_rfl
theorem zero_33 : zeroT Try.prog 33 = some (.agg (Array.replicate 256 (.int .u32 0))) := by kernel_rfl
theorem kd_38 : kd Try.prog 38 = some (.int .i64) := by kernel_rfl
theorem sz_38 : szOf Try.prog 38 = some 1 := by kernel_rfl
theorem ld_38 : ldk Try.prog 38 = some none := by kernel_rfl
theorem zero_38 : zeroT Try.prog 38 = some (.int .i64 0) := by kernel_rfl
theorem kd_51 : kd Try.prog 51 = some (.struct [(0, 1, false), (1, 1, false), (2, 1, false), (3, 1, false)]) := by kernel_rfl
theorem sz_51 : szOf Try.prog 51 = some 4 := by kernel_rfl
theorem ld_51 : ldk Try.prog 51 = some (some 4) := by kernel_rfl
theorem zero_51 : zeroT Try.prog 51 = some (.agg #[str [], .int .i64 0, .int .i64 0, str []]) := by kernel_rfl
theorem kd_52 : kd Try.prog 52 = some (.struct [(0, 1, false), (1, 1, false), (2, 1, false), (3, 1, false)]) := by kernel_rfl
theorem sz_52 : szOf Try.prog 52 = some 4 := by kernel_rfl
theorem ld_52 : ldk Try.prog 52 = some (some 4) := by kernel_rfl
theorem zero_52 : zeroT Try.prog 52 = some (.agg #[str [], .int .i64 0, .int .i64 0, str []]) := by kernel_rfl
theorem kd_54 : kd Try.prog 54 = some (.slice 9 1) := by kernel_rfl
theorem sz_54 : szOf Try.prog 54 = some 1 := by kernel_rfl
theorem ld_54 : ldk Try.prog 54 = some none := by kernel_rfl
theorem zero_54 : zeroT Try.prog 54 = some (.slice none 0 0) := by kernel_rfl
theorem kd_57 : kd Try.prog 57 = some (.ptr 33) := by kernel_rfl
theorem sz_57 : szOf Try.prog 57 = some 1 := by kernel_rfl
theorem ld_57 : ldk Try.prog 57 = some none := by kernel_rfl
theorem zero_57 : zeroT Try.prog 57 = some (.pointer none) := by kernel_rfl
theorem kd_60 : kd Try.prog 60 = some (.int .u64) := by kernel_rfl
theorem sz_60 : szOf Try.prog 60 = some 1 := by kernel_rfl
theorem ld_60 : ldk Try.prog 60 = some none := by kernel_rfl
theorem zero_60 : zeroT Try.prog 60 = some (.int .u64 0) := by kernel_rfl
theorem kd_71 : kd Try.prog 71 = some (.ptr 5) := by kernel_rfl
theorem sz_71 : szOf Try.prog 71 = some 1 := by kernel_rfl
theorem ld_71 : ldk Try.prog 71 = some none := by kernel_rfl
theorem zero_71 : zeroT Try.prog 71 = some (.pointer none) := by kernel_rfl
theorem ent_3 : enters Try.prog 3 := Try.call3
theorem ent_4 : enters Try.prog 4 := Try.call4
theorem ent_5 : enters Try.prog 5 := Try.call5
theorem ent_6 : enters Try.prog 6 := Try.call6
theorem ent_7 : enters Try.prog 7 := Try.call7
theorem ent_8 : enters Try.prog 8 := Try.call8
theorem ent_9 : enters Try.prog 9 := Try.call9
theorem ent_10 : enters Try.prog 10 := Try.call10
theorem ent_11 : enters Try.prog 11 := Try.call11
theorem ent_12 : enters Try.prog 12 := Try.call12
theorem ent_13 : enters Try.prog 13 := Try.call13
theorem ent_14 : enters Try.prog 14 := Try.call14
theorem ent_15 : enters Try.prog 15 := Try.call15
theorem ent_16 : enters Try.prog 16 := Try.call16
theorem ent_17 : enters Try.prog 17 := Try.call17
theorem ent_18 : enters Try.prog 18 := Try.call18
theorem ent_19 : enters Try.prog 19 := Try.call19
theorem ent_20 : enters Try.prog 20 := Try.call20
theorem ent_21 : enters Try.prog 21 := Try.call21
theorem ent_22 : enters Try.prog 22 := Try.call22
theorem ent_23 : enters Try.prog 23 := Try.call23
theorem ent_24 : enters Try.prog 24 := Try.call24
theorem ent_25 : enters Try.prog 25 := Try.call25
theorem ent_26 : enters Try.prog 26 := Try.call26
theorem ent_27 : enters Try.prog 27 := Try.call27
theorem ent_28 : enters Try.prog 28 := Try.call28
theorem ent_29 : enters Try.prog 29 := Try.call29
theorem ent_30 : enters Try.prog 30 := Try.call30
theorem ent_31 : enters Try.prog 31 := Try.call31
theorem ent_32 : enters Try.prog 32 := Try.call32
theorem ent_33 : enters Try.prog 33 := Try.call33
theorem ent_34 : enters Try.prog 34 := Try.call34
theorem ent_35 : enters Try.prog 35 := Try.call35
theorem ent_36 : enters Try.prog 36 := Try.call36
theorem ent_37 : enters Try.prog 37 := Try.call37
theorem ent_38 : enters Try.prog 38 := Try.call38
theorem ent_39 : enters Try.prog 39 := Try.call39
theorem ent_40 : enters Try.prog 40 := Try.call40
attribute [go_sem] kd_2 sz_2 ld_2 zero_2 kd_3 sz_3 ld_3 zero_3 kd_4 sz_4 ld_4 zero_4 kd_5 sz_5 ld_5 zero_5 kd_9 sz_9 ld_9 zero_9 kd_12 sz_12 ld_12 zero_12 kd_21 sz_21 ld_21 zero_21 kd_22 sz_22 ld_22 zero_22 kd_29 sz_29 ld_29 zero_29 kd_30 sz_30 ld_30 zero_30 kd_33 sz_33 ld_33 zero_33 kd_38 sz_38 ld_38 zero_38 kd_51 sz_51 ld_51 zero_51 kd_52 sz_52 ld_52 zero_52 kd_54 sz_54 ld_54 zero_54 kd_57 sz_57 ld_57 zero_57 kd_60 sz_60 ld_60 zero_60 kd_71 sz_71 ld_71 zero_71 Try.results3 Try.results4 Try.results5 Try.results6 Try.results7 Try.results8 Try.results9 Try.results10 Try.results11 Try.results12 Try.results13 Try.results14 Try.results15 Try.results16 Try.results17 Try.results18 Try.results19 Try.results20 Try.results21 Try.results22 Try.results23 Try.results24 Try.results25 Try.results26 Try.results27 Try.results28 Try.results29 Try.results30 Try.results31 Try.results32 Try.results33 Try.results34 Try.results35 Try.results36 Try.results37 Try.results38 Try.results39 Try.results40
end H
end Go.Proofs.Ytmbenaehnmdbgaa
