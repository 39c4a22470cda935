/- vint's laws: the walks. -/
import Derived.Test.YtmbenaehnmdbgaaVintT
namespace Go.Proofs.Ytmbenaehnmdbgaa
set_option linter.unusedSimpArgs false
set_option linter.unusedVariables false
open H
set_option maxRecDepth 20000 in
set_option maxHeartbeats 400000 in
theorem law_puts (n wd : Int) (hn : -9223372036854775808 ≤ n ∧ n ≤ 9223372036854775807) (w : World) : Does Try.prog 8 #[.int .i64 n, .int .i64 wd] w fun v w' => v = .bool true ∧ Ext [] w w' := by
  refine does (args := [.int .i64 n, .int .i64 wd]) Try.func8 rfl (by kernel_rfl) (by kernel_rfl) rfl ent_8 (Sat.start w []) ?_; intro QV hQ
  simp -implicitDefEqProofs (disch := omega) only [go_sem]
  refine RCall_eq (vint_put n hn) ?_
  simp -implicitDefEqProofs (disch := omega) only [go_sem]
  refine RCall_eq (ref_put n hn) ?_
  simp -implicitDefEqProofs (disch := omega) only [go_sem]
  refine RCall_eq (vint_fixed n wd hn) ?_
  simp -implicitDefEqProofs (disch := omega) only [go_sem]
  refine RCall_eq (ref_fixed n wd hn) ?_
  simp -implicitDefEqProofs (disch := omega) only [go_sem, decide_true]
  refine RCall_eq vint_known ?_
  simp -implicitDefEqProofs (disch := omega) only [go_sem]
  exact hQ _ _ fun w' hs => ⟨rfl, hs.anchor (by simp)⟩

set_option maxRecDepth 20000 in
set_option maxHeartbeats 400000 in
theorem law_gets (s : List UInt8) (at_ wd : Int) (ha : -9223372036854775808 ≤ at_ ∧ at_ ≤ 9223372036854775807) (w : World) : Does Try.prog 9 #[str s, .int .i64 at_, .int .i64 wd] w fun v w' => v = .bool true ∧ Ext [] w w' := by
  refine does (args := [str s, .int .i64 at_, .int .i64 wd]) Try.func9 rfl (by kernel_rfl) (by kernel_rfl) rfl ent_9 (Sat.start w []) ?_; intro QV hQ
  simp -implicitDefEqProofs (disch := omega) only [go_sem]
  refine RC_intro (fun hc => ?_) (fun hc => ?_)
  · simp -implicitDefEqProofs (disch := omega) only [go_sem]
    refine RCall_eq vint_known ?_
    simp -implicitDefEqProofs (disch := omega) only [go_sem]
    exact hQ _ _ fun w' hs => ⟨rfl, hs.anchor (by simp)⟩
  · simp only [decide_eq_false_iff_not] at hc
    have hsl : s.length ≤ 9223372036854775807 := by omega
    have hsl2 : s.length ≤ 4611686018427387904 := by omega
    simp -implicitDefEqProofs (disch := omega) only [go_sem]
    refine RCall_eq (vint_get s hsl at_ ha) ?_
    simp -implicitDefEqProofs (disch := omega) only [go_sem]
    refine RCall_eq (ref_get s hsl at_ ha) ?_
    simp -implicitDefEqProofs (disch := omega) only [go_sem]
    refine RCall_eq (vint_number s hsl at_ wd ha) ?_
    simp -implicitDefEqProofs (disch := omega) only [go_sem]
    refine RCall_eq (ref_number s hsl at_ wd ha) ?_
    simp -implicitDefEqProofs (disch := omega) only [go_sem]
    refine RCall_eq (vint_next s hsl at_ ha) ?_
    simp -implicitDefEqProofs (disch := omega) only [go_sem]
    refine RCall_eq (ref_next s hsl at_ ha) ?_
    simp -implicitDefEqProofs (disch := omega) only [go_sem, decide_true]
    refine RCall_eq (vint_text s hsl2) ?_
    simp -implicitDefEqProofs (disch := omega) only [go_sem]
    refine RCall_eq (ref_text s hsl2) ?_
    simp -implicitDefEqProofs (disch := omega) only [go_sem, decide_true]
    refine RCall_eq vint_known ?_
    simp -implicitDefEqProofs (disch := omega) only [go_sem]
    exact hQ _ _ fun w' hs => ⟨rfl, hs.anchor (by simp)⟩
end Go.Proofs.Ytmbenaehnmdbgaa
