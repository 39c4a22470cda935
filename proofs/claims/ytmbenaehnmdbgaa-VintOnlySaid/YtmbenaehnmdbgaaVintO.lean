/- vint's only bytes: the walk. -/
import Derived.Test.YtmbenaehnmdbgaaVintL
import Derived.Test.YtmbenaehnmdbgaaVintP
namespace Go.Proofs.Ytmbenaehnmdbgaa
set_option linter.unusedSimpArgs false
set_option linter.unusedVariables false
open H
set_option maxRecDepth 20000 in
set_option maxHeartbeats 400000 in
theorem law_only (s : List UInt8) (at_ : Int) (ha : -9223372036854775808 ≤ at_ ∧ at_ ≤ 9223372036854775807) (w : World) : Does Try.prog 11 #[str s, .int .i64 at_] w fun v w' => v = .bool true ∧ Ext [] w w' := by
  refine does (args := [str s, .int .i64 at_]) Try.func11 rfl (by kernel_rfl) (by kernel_rfl) rfl ent_11 (Sat.start w []) ?_; intro QV hQ
  simp -implicitDefEqProofs (disch := omega) only [go_sem]
  refine RC_intro (fun hc => ?_) (fun hc => ?_)
  · simp -implicitDefEqProofs (disch := omega) only [go_sem]
    refine RCall_eq vint_known ?_
    simp -implicitDefEqProofs (disch := omega) only [go_sem]
    exact hQ _ _ fun w' hs => ⟨rfl, hs.anchor (by simp)⟩
  simp only [decide_eq_false_iff_not] at hc
  simp -implicitDefEqProofs (disch := omega) only [go_sem]
  refine RCall_eq (vint_get s (by omega) at_ ha) ?_
  by_cases h0 : (Vint.get s at_).2.2 = 0
  rotate_left
  · obtain ⟨e1, e2⟩ := Vint.get_err s at_ h0
    simp -implicitDefEqProofs (disch := omega) only [go_sem, h0, e1, e2, decide_true, decide_false]
    refine RCall_eq vint_known ?_
    simp -implicitDefEqProofs (disch := omega) only [go_sem]
    exact hQ _ _ fun w' hs => ⟨rfl, hs.anchor (by simp)⟩
  obtain ⟨m, t, e, h1, h2, h3, h4, h5⟩ := Vint.get_ok s at_ h0
  obtain ⟨p, rfl⟩ := Int.eq_ofNat_of_zero_le h2
  have hk : Vint.getK s p 9 0 0 = ((m : Int), (t : Int), 0) := by rw [← e]; unfold Vint.get; rw [if_neg (by omega)]; rfl
  obtain ⟨v, hv1, hv2, _⟩ := Vint.getK_put s p 9 0 0 m t hk (by omega)
  have hvm : v = m := by rw [hv1]; simp
  subst hvm
  have hp : Vint.put (v : Int) = (Vint.putL v, 0) := by unfold Vint.put; rw [if_neg (by omega)]; simp
  rw [Nat.add_zero] at hv2
  rw [e]
  simp -implicitDefEqProofs (disch := omega) only [go_sem]
  refine RCall_eq (vint_put (v : Int) (by omega)) ?_
  rw [hp]
  have g1 : (0 : Int) ≤ (p : Int) := by omega
  have g3 : (t : Int) ≤ (s.length : Int) := by omega
  simp -implicitDefEqProofs (disch := omega) only [go_sem, hv2, g1, h3, g3, decide_true]
  refine RCall_eq vint_known ?_
  simp -implicitDefEqProofs (disch := omega) only [go_sem]
  exact hQ _ _ fun w' hs => ⟨rfl, hs.anchor (by simp)⟩
end Go.Proofs.Ytmbenaehnmdbgaa
