/- vint's numbers at their places: the walk. -/
import Derived.Test.YtmbenaehnmdbgaaVintL
import Derived.Test.YtmbenaehnmdbgaaVintP
namespace Go.Proofs.Ytmbenaehnmdbgaa
set_option linter.unusedSimpArgs false
set_option linter.unusedVariables false
open H
set_option maxRecDepth 20000 in
set_option maxHeartbeats 400000 in
theorem law_back (a c : List UInt8) (n wd : Int) (hn : -9223372036854775808 ≤ n ∧ n ≤ 9223372036854775807) (w : World) : Does Try.prog 10 #[.agg #[str a, .int .i64 n, .int .i64 wd, str c]] w fun v w' => v = .bool true ∧ Ext [] w w' := by
  refine does (args := [.agg #[str a, .int .i64 n, .int .i64 wd, str c]]) Try.func10 rfl (by kernel_rfl) (by kernel_rfl) rfl ent_10 (Sat.start w []) ?_; intro QV hQ
  simp -implicitDefEqProofs (disch := omega) only [go_sem]
  refine RNew_intro fun g hg => ?_
  simp only [below_cons, below_nil, under_anchor, and_true] at hg
  by_cases h1 : (5000 : Int) < (a.length : Int)
  · simp -implicitDefEqProofs (disch := omega) only [go_sem, h1, decide_true]
    refine RCall_eq vint_known ?_
    simp -implicitDefEqProofs (disch := omega) only [go_sem]
    exact hQ _ _ fun w' hs => ⟨rfl, hs.anchor (by simp)⟩
  by_cases h2 : (5000 : Int) < (c.length : Int)
  · simp -implicitDefEqProofs (disch := omega) only [go_sem, h1, h2, decide_true, decide_false]
    refine RCall_eq vint_known ?_
    simp -implicitDefEqProofs (disch := omega) only [go_sem]
    exact hQ _ _ fun w' hs => ⟨rfl, hs.anchor (by simp)⟩
  simp -implicitDefEqProofs (disch := omega) only [go_sem, h1, h2, decide_false]
  refine RCall_eq (vint_put n hn) ?_
  by_cases h0 : n < 0
  · have hp : Vint.put n = ([], 1) := by unfold Vint.put; rw [if_pos h0]
    have hf : Vint.fixed n wd = ([], 1) := by unfold Vint.fixed; rw [if_pos (.inr h0)]
    have h0' : ¬ (0 ≤ n) := by omega
    rw [hp]
    simp -implicitDefEqProofs (disch := omega) only [go_sem]
    refine RCall_eq (vint_fixed n wd hn) ?_
    rw [hf]
    simp -implicitDefEqProofs (disch := omega) only [go_sem, h0', decide_false, decide_true, beq_self_eq_true]
    refine RCall_eq vint_known ?_
    simp -implicitDefEqProofs (disch := omega) only [go_sem]
    exact hQ _ _ fun w' hs => ⟨rfl, hs.anchor (by simp)⟩
  obtain ⟨m, rfl⟩ := Int.eq_ofNat_of_zero_le (show 0 ≤ n by omega)
  have hp : Vint.put (m : Int) = (Vint.putL m, 0) := by unfold Vint.put; rw [if_neg h0]; simp
  have hl9 := Vint.putL_len9 m (by omega)
  have hl1 := Vint.putL_pos m
  have hla : (a ++ Vint.putL m).length = a.length + (Vint.putL m).length := List.length_append
  rw [hp]
  simp -implicitDefEqProofs (disch := omega) only [go_sem]
  refine RCall_eq (vint_get (a ++ Vint.putL m ++ c) (by simp only [List.length_append]; omega) (a.length : Int) (by omega)) ?_
  rw [Vint.get_back a c m (by omega)]
  have g1 : ¬ ((Vint.putL m).length : Int) < 1 := by omega
  have g2 : ¬ (9 : Int) < ((Vint.putL m).length : Int) := by omega
  have g3 : (((a.length + (Vint.putL m).length : Nat)) : Int) = (a.length : Int) + ((Vint.putL m).length : Int) := Int.natCast_add _ _
  simp -implicitDefEqProofs (disch := omega) only [go_sem, g1, g2, g3, decide_true, decide_false]
  refine RCall_eq (vint_fixed (m : Int) wd hn) ?_
  have hfin : (0 : Int) ≤ (m : Int) := by omega
  by_cases hw : ¬ Vint.wide wd ∨ (m : Int) < 0
  · have hf : Vint.fixed (m : Int) wd = ([], 1) := by unfold Vint.fixed; rw [if_pos hw]
    rw [hf]
    simp -implicitDefEqProofs (disch := omega) only [go_sem, hfin, decide_false, decide_true, beq_self_eq_true]
    refine RCall_eq vint_known ?_
    simp -implicitDefEqProofs (disch := omega) only [go_sem]
    exact hQ _ _ fun w' hs => ⟨rfl, hs.anchor (by simp)⟩
  have hww : Vint.wide wd := by
    by_cases h : Vint.wide wd
    · exact h
    · exact absurd (.inl h) hw
  obtain ⟨d, rfl⟩ := Int.eq_ofNat_of_zero_le (show 0 ≤ wd by unfold Vint.wide at hww; omega)
  have hd8 : d ≤ 8 := by unfold Vint.wide at hww; omega
  by_cases hz : m / 256 ^ d = 0
  rotate_left
  · have hf : Vint.fixed (m : Int) (d : Int) = ([], 1) := by
      unfold Vint.fixed; rw [if_neg hw, Int.toNat_natCast, Int.toNat_natCast, if_neg hz]
    rw [hf]
    simp -implicitDefEqProofs (disch := omega) only [go_sem, hfin, decide_false, decide_true, beq_self_eq_true]
    refine RCall_eq vint_known ?_
    simp -implicitDefEqProofs (disch := omega) only [go_sem]
    exact hQ _ _ fun w' hs => ⟨rfl, hs.anchor (by simp)⟩
  have hf : Vint.fixed (m : Int) (d : Int) = (Vint.fixL d m, 0) := by
    unfold Vint.fixed; rw [if_neg hw, Int.toNat_natCast, Int.toNat_natCast, if_pos hz]
  have hfl := Vint.fixL_len d m
  have hlf : (a ++ Vint.fixL d m).length = a.length + (Vint.fixL d m).length := List.length_append
  rw [hf]
  simp -implicitDefEqProofs (disch := omega) only [go_sem]
  refine RCall_eq (vint_number (a ++ Vint.fixL d m ++ c) (by simp only [List.length_append]; omega) (a.length : Int) (d : Int) (by omega)) ?_
  rw [Vint.number_back a c d m hww hz (by omega)]
  simp -implicitDefEqProofs (disch := omega) only [go_sem, hfl, hfin, decide_true, decide_false, beq_self_eq_true]
  refine RCall_eq vint_known ?_
  simp -implicitDefEqProofs (disch := omega) only [go_sem]
  exact hQ _ _ fun w' hs => ⟨rfl, hs.anchor (by simp)⟩
end Go.Proofs.Ytmbenaehnmdbgaa
