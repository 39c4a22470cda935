/- crc's laws: the walks. -/
import Derived.Test.YtmbenaehnmdbgaaCrcL
import Derived.Test.YtmbenaehnmdbgaaCount
namespace Go.Proofs.Ytmbenaehnmdbgaa
set_option linter.unusedSimpArgs false
set_option linter.unusedVariables false
open H
set_option maxRecDepth 20000 in
set_option maxHeartbeats 400000 in
theorem law_parts (s : List UInt8) (cut : Int) (hcut : -9223372036854775808 ≤ cut ∧ cut ≤ 9223372036854775807) (w : World) : Does Try.prog 4 #[str s, .int .i64 cut] w fun v w' => v = .bool true ∧ Ext [] w w' := by
  refine does (args := [str s, .int .i64 cut]) Try.func4 rfl (by kernel_rfl) (by kernel_rfl) rfl ent_4 (Sat.start w []) ?_; intro QV hQ
  simp -implicitDefEqProofs (disch := omega) only [go_sem]
  refine RC_intro (fun hc => ?_) (fun hc => ?_)
  · simp -implicitDefEqProofs (disch := omega) only [go_sem]
    refine RCall_eq crc_known ?_
    simp -implicitDefEqProofs (disch := omega) only [go_sem]
    exact hQ _ _ fun w' hs => ⟨rfl, hs.anchor (by simp)⟩
  · simp only [decide_eq_false_iff_not] at hc
    simp -implicitDefEqProofs (disch := omega) only [go_sem]
    refine RCall_eq (words_count cut _ hcut (by omega)) ?_
    have hk0 := Int.emod_nonneg (pos cut) (show (s.length : Int) + 1 ≠ 0 by omega)
    have hk1 := Int.emod_lt_of_pos (pos cut) (show (0 : Int) < s.length + 1 by omega)
    obtain ⟨k, hk⟩ := Int.eq_ofNat_of_zero_le hk0
    rw [hk] at hk1 ⊢
    have hsplit : Crc.on (Crc.of (s.take k)) (s.drop k) = Crc.of s := Crc.on_split s k
    simp -implicitDefEqProofs (disch := omega) only [go_sem]
    refine RDraw_to 15 (by kernel_rfl) (by kernel_rfl) (by kernel_rfl) ?_
    repeat (first | refine Tr_step (fun Q hq => by (simp -implicitDefEqProofs (disch := omega) only [go_sem]; exact hq)) ?_ | refine Tr_guard (by (simp -implicitDefEqProofs only [go_sem])) (fun Q hq => by (simp -implicitDefEqProofs (disch := omega) only [go_sem]; exact hq)) ?_)
    first | refine Tr_step (fun Q hq => by (simp -implicitDefEqProofs (disch := omega) only [go_sem]; refine RCall_eq (crc_of _ (by simp only [List.length_take, List.length_drop]; omega)) ?_; simp -implicitDefEqProofs (disch := omega) only [go_sem]; exact hq)) ?_ | refine Tr_guard (by (simp -implicitDefEqProofs only [go_sem])) (fun Q hq => by (simp -implicitDefEqProofs (disch := omega) only [go_sem]; refine RCall_eq (crc_of _ (by simp only [List.length_take, List.length_drop]; omega)) ?_; simp -implicitDefEqProofs (disch := omega) only [go_sem]; exact hq)) ?_
    repeat (first | refine Tr_step (fun Q hq => by (simp -implicitDefEqProofs (disch := omega) only [go_sem]; exact hq)) ?_ | refine Tr_guard (by (simp -implicitDefEqProofs only [go_sem])) (fun Q hq => by (simp -implicitDefEqProofs (disch := omega) only [go_sem]; exact hq)) ?_)
    first | refine Tr_step (fun Q hq => by (simp -implicitDefEqProofs (disch := omega) only [go_sem]; refine RCall_eq (crc_on _ _ (by simp only [List.length_take, List.length_drop]; omega)) ?_; simp -implicitDefEqProofs (disch := omega) only [go_sem]; exact hq)) ?_ | refine Tr_guard (by (simp -implicitDefEqProofs only [go_sem])) (fun Q hq => by (simp -implicitDefEqProofs (disch := omega) only [go_sem]; refine RCall_eq (crc_on _ _ (by simp only [List.length_take, List.length_drop]; omega)) ?_; simp -implicitDefEqProofs (disch := omega) only [go_sem]; exact hq)) ?_
    repeat (first | refine Tr_step (fun Q hq => by (simp -implicitDefEqProofs (disch := omega) only [go_sem]; exact hq)) ?_ | refine Tr_guard (by (simp -implicitDefEqProofs only [go_sem])) (fun Q hq => by (simp -implicitDefEqProofs (disch := omega) only [go_sem]; exact hq)) ?_)
    first | refine Tr_step (fun Q hq => by (simp -implicitDefEqProofs (disch := omega) only [go_sem]; refine RCall_eq (crc_of _ (by omega)) ?_; simp -implicitDefEqProofs (disch := omega) only [go_sem]; exact hq)) ?_ | refine Tr_guard (by (simp -implicitDefEqProofs only [go_sem])) (fun Q hq => by (simp -implicitDefEqProofs (disch := omega) only [go_sem]; refine RCall_eq (crc_of _ (by omega)) ?_; simp -implicitDefEqProofs (disch := omega) only [go_sem]; exact hq)) ?_
    simp only [hsplit]
    repeat (first | refine Tr_step (fun Q hq => by (simp -implicitDefEqProofs (disch := omega) only [go_sem]; exact hq)) ?_ | refine Tr_guard (by (simp -implicitDefEqProofs only [go_sem])) (fun Q hq => by (simp -implicitDefEqProofs (disch := omega) only [go_sem]; exact hq)) ?_)
    first | refine Tr_step (fun Q hq => by (simp -implicitDefEqProofs (disch := omega) only [go_sem]; refine RCall_eq (crc_known) ?_; simp -implicitDefEqProofs (disch := omega) only [go_sem]; exact hq)) ?_ | refine Tr_guard (by (simp -implicitDefEqProofs only [go_sem])) (fun Q hq => by (simp -implicitDefEqProofs (disch := omega) only [go_sem]; refine RCall_eq (crc_known) ?_; simp -implicitDefEqProofs (disch := omega) only [go_sem]; exact hq)) ?_
    repeat (first | refine Tr_step (fun Q hq => by (simp -implicitDefEqProofs (disch := omega) only [go_sem]; exact hq)) ?_ | refine Tr_guard (by (simp -implicitDefEqProofs only [go_sem])) (fun Q hq => by (simp -implicitDefEqProofs (disch := omega) only [go_sem]; exact hq)) ?_)
    refine To_nil ?_
    simp -implicitDefEqProofs (disch := omega) only [go_sem]
    exact hQ _ _ fun w' hs => ⟨rfl, hs.anchor (by simp)⟩

end Go.Proofs.Ytmbenaehnmdbgaa
