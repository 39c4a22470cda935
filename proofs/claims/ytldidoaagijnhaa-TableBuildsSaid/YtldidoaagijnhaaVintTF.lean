/- (lines of XVintT.lean, for seats without law01) vint's texts and their reference: the walks. -/
import Derived.Test.YtldidoaagijnhaaVintN
namespace Go.Proofs.Ytldidoaagijnhaa
set_option linter.unusedSimpArgs false
set_option linter.unusedVariables false
open H

set_option maxRecDepth 20000 in
set_option maxHeartbeats 400000 in
theorem vint_next (s : List UInt8) (hsl : s.length ≤ 9223372036854775807) (at_ : Int) (ha : -9223372036854775808 ≤ at_ ∧ at_ ≤ 9223372036854775807) (w : World) : Does Try.prog 64 #[str s, .int .i64 at_] w fun v w' => v = .tuple #[str (Vint.next s at_).1, .int .i64 (Vint.next s at_).2.1, .int .i64 (Vint.next s at_).2.2] ∧ Ext [] w w' := by
  refine does (args := [str s, .int .i64 at_]) Try.func64 rfl (by kernel_rfl) (by kernel_rfl) rfl ent_64 (Sat.start w []) ?_; intro QV hQ
  simp -implicitDefEqProofs (disch := omega) only [go_sem]
  refine RCall_eq (vint_get s hsl at_ ha) ?_
  by_cases h0 : (Vint.get s at_).2.2 = 0
  rotate_left
  · have hv : Vint.next s at_ = ([], 0, (Vint.get s at_).2.2) := by unfold Vint.next; rw [if_neg h0]
    rw [hv] at hQ
    simp -implicitDefEqProofs (disch := omega) only [go_sem, h0, decide_false]
    exact hQ _ _ fun w' hs => ⟨rfl, hs.anchor (by simp)⟩
  obtain ⟨m, t, e, h1, h2, h3, h4, h5⟩ := Vint.get_ok s at_ h0
  have hv : Vint.next s at_ = if (s.length : Int) - (t : Int) < (m : Int) then ([], 0, 2) else ((s.drop t).take m, (t : Int) + (m : Int), 0) := by
    unfold Vint.next; rw [e, if_pos rfl]; rfl
  rw [hv] at hQ
  rw [e]
  simp -implicitDefEqProofs (disch := omega) only [go_sem]
  by_cases hlt : (s.length : Int) - (t : Int) < (m : Int)
  · rw [if_pos hlt] at hQ
    simp -implicitDefEqProofs (disch := omega) only [go_sem, hlt, decide_true]
    exact hQ _ _ fun w' hs => ⟨rfl, hs.anchor (by simp)⟩
  · rw [if_neg hlt] at hQ
    have htm : ((t : Int) + (m : Int)).toNat = t + m := by omega
    simp -implicitDefEqProofs (disch := omega) only [go_sem, hlt, decide_false, htm, Nat.add_sub_cancel_left]
    exact hQ _ _ fun w' hs => ⟨rfl, hs.anchor (by simp)⟩

set_option maxRecDepth 20000 in
set_option maxHeartbeats 400000 in
theorem ref_next (s : List UInt8) (hsl : s.length ≤ 9223372036854775807) (at_ : Int) (ha : -9223372036854775808 ≤ at_ ∧ at_ ≤ 9223372036854775807) (w : World) : Does Try.prog 49 #[str s, .int .i64 at_] w fun v w' => v = .tuple #[str (Vint.next s at_).1, .int .i64 (Vint.next s at_).2.1, .int .i64 (Vint.next s at_).2.2] ∧ Ext [] w w' := by
  refine does (args := [str s, .int .i64 at_]) Try.func49 rfl (by kernel_rfl) (by kernel_rfl) rfl ent_49 (Sat.start w []) ?_; intro QV hQ
  simp -implicitDefEqProofs (disch := omega) only [go_sem]
  refine RCall_eq (ref_get s hsl at_ ha) ?_
  by_cases h0 : (Vint.get s at_).2.2 = 0
  rotate_left
  · have hv : Vint.next s at_ = ([], 0, (Vint.get s at_).2.2) := by unfold Vint.next; rw [if_neg h0]
    rw [hv] at hQ
    simp -implicitDefEqProofs (disch := omega) only [go_sem, h0, decide_false]
    exact hQ _ _ fun w' hs => ⟨rfl, hs.anchor (by simp)⟩
  obtain ⟨m, t, e, h1, h2, h3, h4, h5⟩ := Vint.get_ok s at_ h0
  have hv : Vint.next s at_ = if (s.length : Int) - (t : Int) < (m : Int) then ([], 0, 2) else ((s.drop t).take m, (t : Int) + (m : Int), 0) := by
    unfold Vint.next; rw [e, if_pos rfl]; rfl
  rw [hv] at hQ
  rw [e]
  simp -implicitDefEqProofs (disch := omega) only [go_sem]
  by_cases hlt : (s.length : Int) - (t : Int) < (m : Int)
  · rw [if_pos hlt] at hQ
    simp -implicitDefEqProofs (disch := omega) only [go_sem, hlt, decide_true]
    exact hQ _ _ fun w' hs => ⟨rfl, hs.anchor (by simp)⟩
  · rw [if_neg hlt] at hQ
    have htm : ((t : Int) + (m : Int)).toNat = t + m := by omega
    simp -implicitDefEqProofs (disch := omega) only [go_sem, hlt, decide_false, htm, Nat.add_sub_cancel_left]
    exact hQ _ _ fun w' hs => ⟨rfl, hs.anchor (by simp)⟩

set_option maxHeartbeats 400000 in
theorem vint_text (s : List UInt8) (hsl : s.length ≤ 4611686018427387904) (w : World) : Does Try.prog 77 #[str s] w fun v w' => v = str (Vint.text s) ∧ Ext [] w w' := by
  refine does (args := [str s]) Try.func77 rfl (by kernel_rfl) (by kernel_rfl) rfl ent_77 (Sat.start w []) ?_; intro QV hQ
  have hp : Vint.put (s.length : Int) = (Vint.putL s.length, 0) := by unfold Vint.put; rw [if_neg (by omega)]; simp
  have hl := Vint.putL_len9 s.length (by omega)
  simp -implicitDefEqProofs (disch := omega) only [go_sem]
  refine RCall_eq (vint_put _ (by omega)) ?_
  rw [hp]
  simp -implicitDefEqProofs (disch := omega) only [go_sem]
  exact hQ _ _ fun w' hs => ⟨rfl, hs.anchor (by simp)⟩

set_option maxHeartbeats 400000 in
theorem ref_text (s : List UInt8) (hsl : s.length ≤ 4611686018427387904) (w : World) : Does Try.prog 68 #[str s] w fun v w' => v = str (Vint.text s) ∧ Ext [] w w' := by
  refine does (args := [str s]) Try.func68 rfl (by kernel_rfl) (by kernel_rfl) rfl ent_68 (Sat.start w []) ?_; intro QV hQ
  have hp : Vint.put (s.length : Int) = (Vint.putL s.length, 0) := by unfold Vint.put; rw [if_neg (by omega)]; simp
  have hl := Vint.putL_len9 s.length (by omega)
  simp -implicitDefEqProofs (disch := omega) only [go_sem]
  refine RCall_eq (ref_put _ (by omega)) ?_
  rw [hp]
  simp -implicitDefEqProofs (disch := omega) only [go_sem]
  exact hQ _ _ fun w' hs => ⟨rfl, hs.anchor (by simp)⟩

theorem strV_lit : strV BinOp.add { data := #[2, 97, 98] } { data := #[99] } = some (str [2, 97, 98, 99]) := by
  rw [strV_add _ _ (by decide)]; rfl
theorem vk1 : Vint.put 300 = ([172, 2], 0) := by decide +kernel
theorem vk2 : Vint.get [120, 172, 2, 121] 1 = (300, 3, 0) := by decide +kernel
theorem vk3 : Vint.get [172, 0] 0 = (0, 0, 4) := by decide +kernel
theorem vk4 : Vint.get [172] 0 = (0, 0, 2) := by decide +kernel
theorem vk5 : Vint.fixed 258 2 = ([2, 1], 0) := by decide +kernel
theorem vk6 : Vint.number [2, 1] 0 2 = (258, 0) := by decide +kernel
theorem vk7 : Vint.text [97, 98] = [2, 97, 98] := by decide +kernel
theorem vk8 : Vint.next [2, 97, 98, 99] 0 = ([97, 98], 3, 0) := by decide +kernel
end Go.Proofs.Ytldidoaagijnhaa
