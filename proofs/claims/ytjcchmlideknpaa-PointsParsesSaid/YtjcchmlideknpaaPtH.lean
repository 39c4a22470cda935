/- points: the walks: points read. -/
import Derived.Test.YtjcchmlideknpaaPtG
import Derived.Test.YtjcchmlideknpaaMut
namespace Go.Proofs.Ytjcchmlideknpaa
set_option linter.unusedSimpArgs false
set_option linter.unusedVariables false
open H
/-- What a number read leaves. -/
def NumLeft (s : List UInt8) (a : Int) (wh : Bool) (g4 g5 : Nat) (v : Value) (rs : List Res) : Prop :=
  v = .int .i64 (Pt.num s a wh).1 ∧ rs = [.cells g4 3 #[.int .i64 (Pt.num s a wh).2.1], .cells g5 4 #[.bool (Pt.num s a wh).2.2]]
set_option maxRecDepth 20000 in
set_option maxHeartbeats 1000000 in
theorem pts_num (s : List UInt8) (hsl : s.length ≤ 9223372036854775807) (a : Int) (wh : Bool) (ha : -9223372036854775808 ≤ a ∧ a ≤ 9223372036854775807) (g1 g4 g5 : Nat) (n14 : g1 ≠ g4) (n15 : g1 ≠ g5) (n45 : g4 ≠ g5) (w : World) (h1 : g1 < w.heap.size) (hc1 : w.cell? ⟨g1, 0, none⟩ = some (str s))
    (hs0 : Sat w [.cells g4 3 #[.int .i64 a], .cells g5 4 #[.bool wh], .anchor w [g4, g5]]) :
    Does Try.prog 58 #[.pointer (some ⟨g1, 0, none⟩), .pointer (some ⟨g4, 0, none⟩), .pointer (some ⟨g5, 0, none⟩)] w fun v w' => ∃ rs, Sat w' (rs ++ [.anchor w [g4, g5]]) ∧ NumLeft s a wh g4 g5 v rs := by
  refine does (args := [.pointer (some ⟨g1, 0, none⟩), .pointer (some ⟨g4, 0, none⟩), .pointer (some ⟨g5, 0, none⟩)]) Try.func58 rfl (by kernel_rfl) (by kernel_rfl) rfl ent_58 (hs0) ?_; intro QV hQ
  unfold NumLeft at hQ
  unfold Pt.num at hQ
  simp -implicitDefEqProofs (disch := omega) only [go_sem, hc1, n14, n15, n45, Ne.symm n45]
  refine RCall_eq (vint_get s hsl a ha) ?_
  generalize hg : Vint.get s a = g at *
  obtain ⟨n, to, e⟩ := g
  simp only [] at hQ
  cases wh with
  | false =>
    simp -implicitDefEqProofs (disch := omega) only [go_sem, n45, Ne.symm n45]
    exact hQ _ _ fun w' hs => ⟨_, hs, rfl, rfl⟩
  | true =>
    by_cases he : e = 0
    · rw [if_pos ⟨rfl, he⟩] at hQ
      simp -implicitDefEqProofs (disch := omega) only [go_sem, he, decide_true, n45, Ne.symm n45]
      exact hQ _ _ fun w' hs => ⟨_, hs, rfl, rfl⟩
    · rw [if_neg (fun h => he h.2)] at hQ
      simp -implicitDefEqProofs (disch := omega) only [go_sem, he, decide_false, n45, Ne.symm n45]
      exact hQ _ _ fun w' hs => ⟨_, hs, rfl, rfl⟩
end Go.Proofs.Ytjcchmlideknpaa
