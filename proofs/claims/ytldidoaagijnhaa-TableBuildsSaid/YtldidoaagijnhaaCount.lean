/- words.Count. -/
import Derived.Test.YtldidoaagijnhaaTypes
import Derived.Test.YtldidoaagijnhaaVals
namespace Go.Proofs.Ytldidoaagijnhaa
set_option linter.unusedSimpArgs false
set_option linter.unusedVariables false
open H
/-- A number from 0 on, for any number. -/
def pos (n : Int) : Int := if n < 0 then -(n + 1) else n
theorem pos_nonneg (n : Int) : 0 ≤ pos n := by unfold pos; split <;> omega
theorem words_count (n m : Int) (hn : -9223372036854775808 ≤ n ∧ n ≤ 9223372036854775807) (hm : 0 < m) (w : World) : Does Try.prog 14 #[.int .i64 n, .int .i64 m] w fun v w' => v = .int .i64 (pos n % m) ∧ Ext [] w w' := by
  refine does (args := [.int .i64 n, .int .i64 m]) Try.func14 rfl (by kernel_rfl) (by kernel_rfl) rfl ent_14 (Sat.start w []) ?_; intro QV hQ
  have hp : (pos n).tmod m = pos n % m := Int.tmod_eq_emod_of_nonneg (pos_nonneg n)
  simp -implicitDefEqProofs (disch := omega) only [go_sem]
  refine RC_intro (fun hc => ?_) (fun hc => ?_)
  · simp only [decide_eq_true_eq] at hc
    have e : pos n = -(n + 1) := by unfold pos; rw [if_pos hc]
    rw [e, show -(n + 1) = 0 - (n + 1) by omega] at hp hQ
    simp -implicitDefEqProofs (disch := omega) only [go_sem, hp]
    exact hQ _ _ fun w' hs => ⟨rfl, hs.anchor (by simp)⟩
  · simp only [decide_eq_false_iff_not] at hc
    have e : pos n = n := by unfold pos; rw [if_neg hc]
    rw [e] at hp hQ
    simp -implicitDefEqProofs (disch := omega) only [go_sem, hp]
    exact hQ _ _ fun w' hs => ⟨rfl, hs.anchor (by simp)⟩
end Go.Proofs.Ytldidoaagijnhaa
