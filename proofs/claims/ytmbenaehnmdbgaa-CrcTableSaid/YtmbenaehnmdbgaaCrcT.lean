/- crc's laws: the walks. -/
import Derived.Test.YtmbenaehnmdbgaaCrcL
namespace Go.Proofs.Ytmbenaehnmdbgaa
set_option linter.unusedSimpArgs false
set_option linter.unusedVariables false
open H
set_option maxRecDepth 20000 in
set_option maxHeartbeats 400000 in
theorem law_table (c : BitVec 32) (b : UInt8) (w : World) : Does Try.prog 7 #[u32 c, byte b] w fun v w' => v = .bool true ∧ Ext [] w w' := by
  have hg1 : (tabK 256)[b.toNat]? = some (u32 (Crc.entry (BitVec.ofNat 32 b.toNat))) := tab_get b.toNat (UInt8.toNat_lt b)
  have hg2 : (tabK 256)[(Crc.low c b).toNat]? = some (u32 (Crc.entry (BitVec.ofNat 32 (Crc.low c b).toNat))) := tab_get _ (UInt8.toNat_lt _)
  have hb1 := UInt8.toNat_lt b
  have hb2 := UInt8.toNat_lt (Crc.low c b)
  unfold Crc.low at hg2 hb2
  refine does (args := [u32 c, byte b]) Try.func7 rfl (by kernel_rfl) (by kernel_rfl) rfl ent_7 (Sat.start w []) ?_; intro QV hQ
  simp -implicitDefEqProofs (disch := omega) only [go_sem]
  refine RCall_eq crc_table ?_
  simp -implicitDefEqProofs (disch := omega) only [go_sem]
  refine RNew_intro fun g hg => ?_
  simp only [below_cons, below_nil, under_anchor, and_true] at hg
  simp -implicitDefEqProofs (disch := omega) only [go_sem, tabK_zero, tab, tabK_len, hsetN_tab]
  refine RDraw_to 34 (by kernel_rfl) (by kernel_rfl) (by kernel_rfl) ?_
  repeat (first | refine Tr_step (fun Q hq => by (simp -implicitDefEqProofs (disch := omega) only [go_sem, hg1]; exact hq)) ?_ | refine Tr_guard (by (simp -implicitDefEqProofs only [go_sem, hg1])) (fun Q hq => by (simp -implicitDefEqProofs (disch := omega) only [go_sem, hg1]; exact hq)) ?_)
  first | refine Tr_step (fun Q hq => by (simp -implicitDefEqProofs (disch := omega) only [go_sem]; refine RCall_eq (ref_tab _) ?_; simp -implicitDefEqProofs (disch := omega) only [go_sem]; exact hq)) ?_ | refine Tr_guard (by (simp -implicitDefEqProofs only [go_sem])) (fun Q hq => by (simp -implicitDefEqProofs (disch := omega) only [go_sem]; refine RCall_eq (ref_tab _) ?_; simp -implicitDefEqProofs (disch := omega) only [go_sem]; exact hq)) ?_
  repeat (first | refine Tr_step (fun Q hq => by (simp -implicitDefEqProofs (disch := omega) only [go_sem, hg1]; exact hq)) ?_ | refine Tr_guard (by (simp -implicitDefEqProofs only [go_sem, hg1])) (fun Q hq => by (simp -implicitDefEqProofs (disch := omega) only [go_sem, hg1]; exact hq)) ?_)
  first | refine Tr_step (fun Q hq => by (simp -implicitDefEqProofs (disch := omega) only [go_sem]; refine RCall_eq (crc_byte _ _) ?_; simp -implicitDefEqProofs (disch := omega) only [go_sem]; exact hq)) ?_ | refine Tr_guard (by (simp -implicitDefEqProofs only [go_sem])) (fun Q hq => by (simp -implicitDefEqProofs (disch := omega) only [go_sem]; refine RCall_eq (crc_byte _ _) ?_; simp -implicitDefEqProofs (disch := omega) only [go_sem]; exact hq)) ?_
  repeat (first | refine Tr_step (fun Q hq => by (simp -implicitDefEqProofs (disch := omega) only [go_sem]; exact hq)) ?_ | refine Tr_guard (by (simp -implicitDefEqProofs only [go_sem])) (fun Q hq => by (simp -implicitDefEqProofs (disch := omega) only [go_sem]; exact hq)) ?_)
  first | refine Tr_step (fun Q hq => by (simp -implicitDefEqProofs (disch := omega) only [go_sem]; refine RCall_eq (ref_byte _ _) ?_; simp -implicitDefEqProofs (disch := omega) only [go_sem]; exact hq)) ?_ | refine Tr_guard (by (simp -implicitDefEqProofs only [go_sem])) (fun Q hq => by (simp -implicitDefEqProofs (disch := omega) only [go_sem]; refine RCall_eq (ref_byte _ _) ?_; simp -implicitDefEqProofs (disch := omega) only [go_sem]; exact hq)) ?_
  repeat (first | refine Tr_step (fun Q hq => by (simp -implicitDefEqProofs (disch := omega) only [go_sem]; exact hq)) ?_ | refine Tr_guard (by (simp -implicitDefEqProofs only [go_sem])) (fun Q hq => by (simp -implicitDefEqProofs (disch := omega) only [go_sem]; exact hq)) ?_)
  first | refine Tr_step (fun Q hq => by (simp -implicitDefEqProofs (disch := omega) only [go_sem]; refine RCall_eq (crc_byte _ _) ?_; simp -implicitDefEqProofs (disch := omega) only [go_sem]; exact hq)) ?_ | refine Tr_guard (by (simp -implicitDefEqProofs only [go_sem])) (fun Q hq => by (simp -implicitDefEqProofs (disch := omega) only [go_sem]; refine RCall_eq (crc_byte _ _) ?_; simp -implicitDefEqProofs (disch := omega) only [go_sem]; exact hq)) ?_
  repeat (first | refine Tr_step (fun Q hq => by (simp -implicitDefEqProofs (disch := omega) only [go_sem, hg2, Crc.step, Crc.low]; exact hq)) ?_ | refine Tr_guard (by (simp -implicitDefEqProofs only [go_sem, hg2, Crc.step, Crc.low])) (fun Q hq => by (simp -implicitDefEqProofs (disch := omega) only [go_sem, hg2, Crc.step, Crc.low]; exact hq)) ?_)
  first | refine Tr_step (fun Q hq => by (simp -implicitDefEqProofs (disch := omega) only [go_sem]; refine RCall_eq (crc_known) ?_; simp -implicitDefEqProofs (disch := omega) only [go_sem]; exact hq)) ?_ | refine Tr_guard (by (simp -implicitDefEqProofs only [go_sem])) (fun Q hq => by (simp -implicitDefEqProofs (disch := omega) only [go_sem]; refine RCall_eq (crc_known) ?_; simp -implicitDefEqProofs (disch := omega) only [go_sem]; exact hq)) ?_
  repeat (first | refine Tr_step (fun Q hq => by (simp -implicitDefEqProofs (disch := omega) only [go_sem]; exact hq)) ?_ | refine Tr_guard (by (simp -implicitDefEqProofs only [go_sem])) (fun Q hq => by (simp -implicitDefEqProofs (disch := omega) only [go_sem]; exact hq)) ?_)
  refine To_nil ?_
  simp -implicitDefEqProofs (disch := omega) only [go_sem]
  exact hQ _ _ fun w' hs => ⟨rfl, hs.anchor (by simp)⟩
end Go.Proofs.Ytmbenaehnmdbgaa
