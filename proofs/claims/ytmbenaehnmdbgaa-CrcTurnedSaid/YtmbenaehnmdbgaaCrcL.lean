/- crc's laws: the walks. -/
import Derived.Test.YtmbenaehnmdbgaaCrc
import Derived.Test.YtmbenaehnmdbgaaDraw
namespace Go.Proofs.Ytmbenaehnmdbgaa
set_option linter.unusedSimpArgs false
set_option linter.unusedVariables false
open H
@[go_sem] theorem u32_k1 : Value.int .u32 3421780262 = u32 3421780262#32 := rfl
@[go_sem] theorem u32_k2 : Value.int .u32 3904355907 = u32 3904355907#32 := rfl
@[go_sem] theorem u32_k3 : Value.int .u32 1996959894 = u32 1996959894#32 := rfl
theorem known1 : Crc.of [49, 50, 51, 52, 53, 54, 55, 56, 57] = 3421780262#32 := by decide +kernel
theorem known2 : Crc.of [] = 0#32 := by decide +kernel
theorem known3 : Crc.of [97] = 3904355907#32 := by decide +kernel
theorem known4 : Crc.on (Crc.of [49, 50, 51, 52]) [53, 54, 55, 56, 57] = 3421780262#32 := by decide +kernel
theorem known5 : Crc.entry 1#32 = 1996959894#32 := by decide +kernel
theorem known6 : Crc.entry 0#32 = 0#32 := by decide +kernel
theorem tab1 : (tabK 256)[1]? = some (u32 1996959894#32) := by rw [← known5]; exact tab_get 1 (by omega)
theorem tab0 : (tabK 256)[0]? = some (u32 0#32) := by rw [← known6]; exact tab_get 0 (by omega)
set_option maxRecDepth 20000 in
set_option maxHeartbeats 400000 in
theorem crc_known (w : World) : Does Try.prog 13 #[] w fun v w' => v = .bool true ∧ Ext [] w w' := by
  refine does (args := []) Try.func13 rfl (by kernel_rfl) (by kernel_rfl) rfl ent_13 (Sat.start w []) ?_; intro QV hQ
  simp -implicitDefEqProofs (disch := omega) only [go_sem]
  refine RCall_eq crc_table ?_
  simp -implicitDefEqProofs (disch := omega) only [go_sem]
  refine RNew_intro fun g hg => ?_
  simp only [below_cons, below_nil, under_anchor, and_true] at hg
  simp -implicitDefEqProofs (disch := omega) only [go_sem, tabK_zero, tab, tabK_len, hsetN_tab]
  refine RCall_eq (crc_of _ (by decide)) ?_
  simp -implicitDefEqProofs (disch := omega) only [go_sem, known1]
  refine RCall_eq (crc_of _ (by decide)) ?_
  simp -implicitDefEqProofs (disch := omega) only [go_sem, known2]
  refine RCall_eq (crc_of _ (by decide)) ?_
  simp -implicitDefEqProofs (disch := omega) only [go_sem, known3]
  refine RCall_eq (crc_of _ (by decide)) ?_
  simp -implicitDefEqProofs (disch := omega) only [go_sem]
  refine RCall_eq (crc_on _ _ (by decide)) ?_
  simp -implicitDefEqProofs (disch := omega) only [go_sem, known4, tab1, tab0]
  exact hQ _ _ fun w' hs => ⟨rfl, hs.anchor (by simp)⟩

set_option maxRecDepth 20000 in
set_option maxHeartbeats 400000 in
theorem law_of (c : BitVec 32) (s : List UInt8) (w : World) : Does Try.prog 3 #[u32 c, str s] w fun v w' => v = .bool true ∧ Ext [] w w' := by
  refine does (args := [u32 c, str s]) Try.func3 rfl (by kernel_rfl) (by kernel_rfl) rfl ent_3 (Sat.start w []) ?_; intro QV hQ
  simp -implicitDefEqProofs (disch := omega) only [go_sem]
  refine RC_intro (fun hc => ?_) (fun hc => ?_)
  · simp -implicitDefEqProofs (disch := omega) only [go_sem]
    refine RCall_eq crc_known ?_
    simp -implicitDefEqProofs (disch := omega) only [go_sem]
    exact hQ _ _ fun w' hs => ⟨rfl, hs.anchor (by simp)⟩
  · simp only [decide_eq_false_iff_not] at hc
    simp -implicitDefEqProofs (disch := omega) only [go_sem]
    refine RCall_eq (crc_on c s (by omega)) ?_
    simp -implicitDefEqProofs (disch := omega) only [go_sem]
    refine RCall_eq (ref_on c s (by omega)) ?_
    simp -implicitDefEqProofs (disch := omega) only [go_sem]
    refine RCall_eq (crc_of s (by omega)) ?_
    simp -implicitDefEqProofs (disch := omega) only [go_sem]
    refine RCall_eq (ref_of s (by omega)) ?_
    simp -implicitDefEqProofs (disch := omega) only [go_sem]
    refine RCall_eq crc_known ?_
    simp -implicitDefEqProofs (disch := omega) only [go_sem]
    exact hQ _ _ fun w' hs => ⟨rfl, hs.anchor (by simp)⟩

end Go.Proofs.Ytmbenaehnmdbgaa
